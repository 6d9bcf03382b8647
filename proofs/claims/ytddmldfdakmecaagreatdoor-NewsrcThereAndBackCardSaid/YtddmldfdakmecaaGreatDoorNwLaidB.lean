/- A slice of bytes that came in. -/
import Derived.Test.YtddmldfdakmecaaGreatDoorNwLaidN
import Derived.Test.YtddmldfdakmecaaGreatDoorNwBackKit
namespace Go.Proofs.YtddmldfdakmecaaGreatDoor
open Go.ChangeShapes Go.WideShapes Go.ChangeAt Go.RowKit Go.El Go.Nw

set_option maxRecDepth 100000 in
/-- A slice of bytes that came in. -/
theorem open_bs {H : Type} {enc : TypeId × Value → H} {W : World} {base : Nat} {v : Value} {d : DataW H} {ps : List MemPlace}
    (hval : Value.okWide Tryz.prog W .any base 52 v) (h0 : DataW.Trod enc Tryz.prog W 0 (fun _ => true) true 52 v d ps) (hlt : ∀ x ∈ ps, x.block < W.heap.size) :
    ∃ (a : Option Addr) (n c : Nat) (zs : List UInt8), v = .slice a n c ∧ zs.length = n ∧ RE TY8 W a zs := by
  obtain ⟨a0, len, cap, rfl⟩ := okWide_slice Tryz.underlying52 hval
  obtain ⟨fuel, hf⟩ := h0
  rcases Go.Deep.open_slice Tryz.underlying52 hf with ⟨hcs, hx⟩ | ⟨a, len', cap', m, n, D, Pl, hcs, hb, hl, hm, hmm, hx, hi⟩
  · simp [Value.cells] at hcs
    obtain ⟨rfl, rfl, rfl⟩ := hcs
    exact ⟨none, 0, 0, [], rfl, rfl, .inl rfl⟩
  · simp [Value.cells] at hcs
    obtain ⟨rfl, rfl, rfl⟩ := hcs
    simp only [if_true] at hmm
    subst hmm
    rw [cells_b] at hx hi
    have key : ∀ i, i < len → ∃ b : UInt8, W.cell? (a.add (i * 1 + 0)) = some (.int .u8 b.toNat) := fun i hil => by
      obtain ⟨cs', hc, ht'⟩ := hi i (by omega)
      obtain ⟨z, rfl, _, hw⟩ := DataW.trod_int Tryz.underlying5 ht'
      obtain ⟨b, hb⟩ := byte_of hw
      obtain ⟨_, hcl, hat⟩ := World.cells?_some hc
      have := hat 0 (by decide)
      rw [Go.Deep.add_add] at this
      exact ⟨b, by rw [this, hb]; rfl⟩
    obtain ⟨zs, hz, hzs⟩ := list_of key
    refine ⟨some a, len, _, zs, rfl, hz, ?_⟩
    by_cases hl0 : len = 0
    · exact .inl (List.eq_nil_of_length_eq_zero (hz.trans hl0))
    · obtain ⟨b, off, spot⟩ := a
      have h00 := hzs 0 (by omega)
      have hspot : spot = none := by simpa [Addr.add] using World.cell?_spot h00
      subst hspot
      simp only [Prod.mk.injEq] at hx
      have hmem : MemPlace.cell b off ∈ ps := by
        rw [hx.2]
        exact List.mem_append_left _ (MemPlace.mem_row.2 ⟨0, Nat.mul_pos (by omega) (by decide), by simp⟩)
      refine .inr ⟨b, off, rfl, hlt _ hmem, fun j x hx i v hv => ?_⟩
      obtain ⟨hj, rfl⟩ := List.getElem?_eq_some_iff.1 hx
      have h1 := hzs j hj
      rw [Go.WideShapes.add_plain] at h1
      have hv' : ([Value.int .u8 zs[j].toNat] : List Value)[i]? = some v := hv
      match i, hv' with
      | 0, hv' => simp at hv'; subst hv'; exact h1
      | i + 1, hv' => simp at hv'
end Go.Proofs.YtddmldfdakmecaaGreatDoor
