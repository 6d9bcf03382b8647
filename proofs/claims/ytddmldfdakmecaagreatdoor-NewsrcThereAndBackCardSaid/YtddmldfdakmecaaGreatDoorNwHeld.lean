/- A region that draws its order, step by step: what one step asks. -/
import Derived.Test.YtddmldfdakmecaaGreatDoorNwCount
import Derived.Deep.RegionHeld3
namespace Go.Proofs.YtddmldfdakmecaaGreatDoor
open Go
section
variable {P : Program} {ops : Array Oper} {Q : Exit → Act → World → Prop} {md : Region.Mode} {S : World → Prop}
theorem take_op {i : Nat} {d : Option Tmp} {v : Value} {fuel : Nat} {listed : Array Bool} {a : Act} {w : World} (hd : (ops[i]?).map (·.dst) = some d)
    (hs : Region.noSelect ops = true) (hf : Region.free md ops listed i = true) (hr : (Region.ready md ops listed).contains i = true)
    (hQ : ∀ c a w, Q (.panic c) (a.put d v) w → Q (.panic c) a w) (hy : ∀ o, ops[i]? = some o → YieldsIf P ops S o v a) (hS : S w)
    (h : wpAnyH P md ops Q S fuel (listed.setIfInBounds i true) (a.put d v) w) : wpAnyH P md ops Q S (fuel + 1) listed a w := by
  obtain ⟨o, ho, rfl⟩ := Option.map_eq_some_iff.1 hd
  exact wpAnyH_take ho hs hf hr hQ (hy o ho) hS h
theorem one_op {fuel : Nat} {listed : Array Bool} {a : Act} {w : World} {i : Nat} {d : Option Tmp} (hd : (ops[i]?).map (·.dst) = some d)
    (h : ∀ o, ops[i]? = some o → ∀ K' : Act → World → Prop, Shut (∀ a w, S w → (S w → wpAnyH P md ops Q S fuel (listed.setIfInBounds i true) a w) → K' a w) → if Region.wanted o (yielded ops a.tmps) = true then Oper.wp P o a w K' Q else K' (a.put o.dst undef) w) : AllReadyH P md ops Q S fuel listed a w [i] := by
  obtain ⟨o, ho, _⟩ := Option.map_eq_some_iff.1 hd
  exact AllReadyH.cons ho (h o ho) AllReadyH.nil
end
end Go.Proofs.YtddmldfdakmecaaGreatDoor
