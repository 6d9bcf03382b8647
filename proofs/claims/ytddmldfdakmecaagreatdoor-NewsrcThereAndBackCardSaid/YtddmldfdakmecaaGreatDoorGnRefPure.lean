/- Plain Lean: gluing of parts, as the reference reckons them. -/
import Derived.Test.YtddmldfdakmecaaGreatDoorGnList
namespace Go.Gn

def glue (part : Str) : List Str → List Str
  | [] => [part]
  | p :: ps => (part ++ p) :: ps

theorem glue_nil (l : List Str) (h : l ≠ []) : glue [] l = l := by
  cases l with
  | nil => exact absurd rfl h
  | cons p ps => rfl

theorem parts_sep_step (c : UInt8) (out : List Str) (part rest : Str) : out ++ glue part (parts c (c :: rest)) = (out ++ [part]) ++ glue [] (parts c rest) := by
  rw [parts_cons_eq, glue_nil _ (parts_ne_nil _ _)]
  simp [glue]

theorem parts_char_step (c x : UInt8) (out : List Str) (part rest : Str) (h : x ≠ c) : out ++ glue part (parts c (x :: rest)) = out ++ glue (part ++ [x]) (parts c rest) := by
  obtain ⟨p, ps, h1, h2⟩ := parts_cons_ne c x rest h
  rw [h2, h1]
  simp [glue]

theorem parts_end (c : UInt8) (out : List Str) (part : Str) : out ++ glue part (parts c []) = out ++ [part] := by
  simp [parts, glue]

end Go.Gn
