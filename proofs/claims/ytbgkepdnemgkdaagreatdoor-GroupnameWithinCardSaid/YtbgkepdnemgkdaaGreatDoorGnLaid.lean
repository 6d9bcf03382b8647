/- What the rows of this seat share: the world of the witness, with the tables as the program's text lays them; how a slice of strings that came in is opened. -/
import Derived.Test.YtbgkepdnemgkdaaGreatDoorGnWalkU
import Derived.WalkKit
import Derived.ProofKit
import Derived.OpenShut
import Derived.SliceStrings
import Derived.Deep.DeepHandedRow
import Derived.Lib.LaidTab
import GoSem.PinnedTables
namespace Go.Proofs.YtbgkepdnemgkdaaGreatDoor
open Go.ChangeShapes Go.WideShapes Go.ChangeAt Go.RowKit

theorem own : ownKnob Tryz.prog.godebug = none := by kernel_rfl
theorem laidOut : laidOutB Tryz.prog = true := by kernel_rfl
theorem cellsStr : Tryz.prog.cellsOf 9 = 1 := by kernel_rfl

theorem ML.of_shaped {W : World} (h : W.ShapedOpen Tryz.prog) : ML W := Tryz.laysM146.s1_3 W h

def layFirst : Obj → Obj
  | .cells _ t frozen => .cells (Go.Pinned.utf8FirstZ.map fun n : Nat => Value.int .u8 (n : Int)).toArray t frozen
  | o => o
def layRanges : Obj → Obj
  | .cells _ t frozen => .cells #[.int .u8 128, .int .u8 191, .int .u8 160, .int .u8 191, .int .u8 128, .int .u8 159, .int .u8 144, .int .u8 191, .int .u8 128, .int .u8 143, .int .u8 0, .int .u8 0, .int .u8 0, .int .u8 0, .int .u8 0, .int .u8 0, .int .u8 0, .int .u8 0, .int .u8 0, .int .u8 0, .int .u8 0, .int .u8 0, .int .u8 0, .int .u8 0, .int .u8 0, .int .u8 0, .int .u8 0, .int .u8 0, .int .u8 0, .int .u8 0, .int .u8 0, .int .u8 0] t frozen
  | o => o
/-- A WORLD FOR THE WITNESS: the settled one, the tables holding what their initialisers lay. -/
noncomputable def laidWorld (os : Os) : World :=
  { World.holding Tryz.prog os ⟨#[], #[], []⟩ with heap := ((World.holding Tryz.prog os ⟨#[], #[], []⟩).heap.modify 1 layFirst).modify 2 layRanges }

set_option maxRecDepth 100000 in
/-- A slice of strings that came in. -/
theorem open_ss {H : Type} {enc : TypeId × Value → H} {W : World} {base : Nat} {v : Value} {d : DataW H} {ps : List MemPlace}
    (hval : Value.okWide Tryz.prog W .any base 22 v) (h0 : DataW.Trod enc Tryz.prog W 0 (fun _ => true) true 22 v d ps) (hlt : ∀ x ∈ ps, x.block < W.heap.size) :
    ∃ (a : Option Addr) (n c : Nat) (zs : List ByteArray), v = .slice a n c ∧ zs.length = n ∧ n ≤ c ∧ c ≤ maxLen ∧ SS W a zs ∧ (∀ x ∈ zs, x.size ≤ maxLen) ∧ (a = none → c = 0) := by
  obtain ⟨a0, len, cap, rfl⟩ := okWide_slice Tryz.underlying22 hval
  obtain ⟨fuel, hf⟩ := h0
  rcases open_strings Tryz.underlying22 Tryz.underlying9 cellsStr hf with ⟨hcs, hx⟩ | ⟨a, len', cap', ss, hcs, _, hl, hm, hz, hx, hcell, hws⟩
  · simp [Value.cells] at hcs
    obtain ⟨rfl, rfl, rfl⟩ := hcs
    exact ⟨none, 0, 0, [], rfl, rfl, Nat.le_refl _, Nat.zero_le _, .inl rfl, by simp, fun _ => rfl⟩
  · simp [Value.cells] at hcs
    obtain ⟨rfl, rfl, rfl⟩ := hcs
    simp only [Prod.mk.injEq] at hx
    obtain ⟨rfl, rfl⟩ := hx
    simp only [if_true] at hz
    refine ⟨some a, len, cap, ss.take len, rfl, by rw [List.length_take]; omega, hl, hm, ?_, fun x hx => hws x (List.mem_of_mem_take hx), fun e => by cases e⟩
    by_cases hl0 : len = 0
    · exact .inl (by rw [hl0]; rfl)
    · obtain ⟨b, off, spot⟩ := a
      have hspot : spot = none := by simpa [Addr.add] using World.cell?_spot (hcell 0 (by omega))
      subst hspot
      refine .inr ⟨b, off, rfl, hlt (.cell b off) (MemPlace.mem_row.2 ⟨0, by omega, by simp⟩), fun j x hx => ?_⟩
      have hj : j < len := by
        have := (List.getElem?_eq_some_iff.1 hx).1
        rw [List.length_take] at this; omega
      have := hcell j (by omega)
      rw [Go.WideShapes.add_plain] at this
      rw [this]
      rw [List.getElem?_take_of_lt hj] at hx
      rw [List.getD_eq_getElem?_getD, hx]; rfl

end Go.Proofs.YtbgkepdnemgkdaaGreatDoor
