/- Plain Lean: the first error of a list of names; the error of a join. -/
import Derived.Test.YtddmldfdakmecaaGreatDoorGnMore
namespace Go.Gn

/-- The first error of the names of a list, those before it being known. -/
def listFrom : List Str → List Str → Nat
  | _, [] => 0
  | seen, s :: rest => if check s ≠ 0 then check s else if s ∈ seen then 7 else listFrom (seen ++ [s]) rest
def listErr (L : List Str) : Nat := if 20 < L.length then 9 else listFrom [] L

/-- What 'Join' gives. -/
def joinErr (L : List Str) : Nat := if L = [] then 12 else if L.all component then check (text 46 L) else 12

end Go.Gn
