/- A slice of the reference's numbers of articles that came in. -/
import Derived.Test.YtddmldfdakmecaaGreatDoorNwLaid
import Derived.Test.YtddmldfdakmecaaGreatDoorNwMove
namespace Go.Proofs.YtddmldfdakmecaaGreatDoor
open Go.ChangeShapes Go.WideShapes Go.ChangeAt Go.RowKit Go.El Go.Nw

theorem list_of {β : Type} {n : Nat} {p : Nat → β → Prop} (h : ∀ i, i < n → ∃ y, p i y) : ∃ ys : List β, ys.length = n ∧ ∀ i (hi : i < ys.length), p i ys[i] := by
  induction n with
  | zero => exact ⟨[], rfl, fun i hi => absurd hi (Nat.not_lt_zero _)⟩
  | succ n ih =>
    obtain ⟨ys, h1, h2⟩ := ih fun i hi => h i (by omega)
    obtain ⟨y, hy⟩ := h n (by omega)
    refine ⟨ys ++ [y], by simp [h1], fun i hi => ?_⟩
    rw [List.length_append, List.length_cons, List.length_nil] at hi
    by_cases hl : i < ys.length
    · rw [List.getElem_append_left hl]; exact h2 i hl
    · obtain rfl : i = ys.length := by omega
      rw [List.getElem_append_right (Nat.le_refl _)]
      simpa [h1] using hy

theorem cells_n : Tryz.prog.cellsOf 102 = 33 := by kernel_rfl
theorem cells_a : Tryz.prog.cellsOf 55 = 32 := by kernel_rfl
theorem cells_b : Tryz.prog.cellsOf 5 = 1 := by kernel_rfl
theorem cells_i : Tryz.prog.cellsOf 3 = 1 := by kernel_rfl
theorem byte_of {z : Int} (h : (Lit.int .u8 z).wf = true) : ∃ b : UInt8, (b.toNat : Int) = z := by
  unfold Lit.wf at h
  rw [Bool.and_eq_true, decide_eq_true_eq, decide_eq_true_eq] at h
  have e1 : IntKind.min .u8 = 0 := by decide
  have e2 : IntKind.max .u8 = 255 := by decide
  rw [e1, e2] at h
  refine ⟨UInt8.ofNat z.toNat, ?_⟩
  rw [UInt8.toNat_ofNat']
  omega

/-- The cells of one number that reads. -/
theorem open_num {H : Type} {enc : TypeId × Value → H} {W : World} {base : Nat} {sp : Nat → Bool} {held : Bool} {fuel : Nat} {cs : List Value} {x : DataW H × List MemPlace}
    (h : DataW.trod enc Tryz.prog W base sp held fuel 102 cs = some x) : ∃ r : Num, cs = nuc r := by
  obtain ⟨xs, n, _, _, hl, hxl, hf⟩ := DataW.trod_struct Tryz.underlying102 h
  rw [cells_n] at hl
  have f0 : DataW.trod enc Tryz.prog W base sp held n 55 ((cs.drop 0).take (Tryz.prog.cellsOf 55)) = xs[0]? := hf 0 _ rfl
  have f1 : DataW.trod enc Tryz.prog W base sp held n 3 ((cs.drop 32).take (Tryz.prog.cellsOf 3)) = xs[1]? := hf 1 _ rfl
  rw [cells_a, List.drop_zero] at f0
  rw [cells_i] at f1
  have hx0 : xs[0]? = some (xs[0]'(by rw [hxl]; decide)) := List.getElem?_eq_getElem _
  have hx1 : xs[1]? = some (xs[1]'(by rw [hxl]; decide)) := List.getElem?_eq_getElem _
  rw [hx0] at f0
  rw [hx1] at f1
  obtain ⟨ys, m, _, _, hl2, hyl, hg⟩ := DataW.trod_array Tryz.underlying55 f0
  obtain ⟨z, e1, _⟩ := DataW.trod_int Tryz.underlying3 f1
  have key : ∀ i, i < 32 → ∃ b : UInt8, cs[i]? = some (.int .u8 b.toNat) := fun i hi => by
    have g := hg i hi
    rw [show ys[i]? = some (ys[i]'(by omega)) from List.getElem?_eq_getElem _] at g
    rw [cells_b] at g
    obtain ⟨z, e, _, hw⟩ := DataW.trod_int Tryz.underlying5 g
    obtain ⟨b, hb⟩ := byte_of hw
    refine ⟨b, ?_⟩
    have hi2 : i < cs.length := by omega
    rw [Nat.mul_one, List.drop_take, List.drop_eq_getElem_cons hi2] at e
    rw [hb, List.getElem?_eq_getElem hi2]
    have : 32 - i = (31 - i) + 1 := by omega
    rw [this, List.take_succ_cons, List.take_succ_cons] at e
    simp only [List.cons.injEq] at e
    rw [e.1]
  obtain ⟨bs, hb1, hb2⟩ := list_of key
  refine ⟨(⟨bs, hb1⟩, z), ?_⟩
  apply List.ext_getElem?
  intro i
  unfold nuc idc
  by_cases hi : i < 32
  · rw [List.getElem?_append_left (by rw [List.length_map, hb1]; exact hi), hb2 i (by omega), List.getElem?_map, List.getElem?_eq_getElem (show i < bs.length by omega)]
    rfl
  · rw [List.getElem?_append_right (by rw [List.length_map, hb1]; omega), List.length_map, hb1]
    by_cases he : i = 32
    · subst he
      have hi2 : 32 < cs.length := by omega
      rw [List.drop_eq_getElem_cons hi2] at e1
      simp only [List.take_succ_cons, List.take_zero, List.cons.injEq, and_true] at e1
      rw [List.getElem?_eq_getElem hi2, e1]
      rfl
    · rw [List.getElem?_eq_none (by omega), List.getElem?_eq_none (by simp; omega)]

set_option maxRecDepth 100000 in
/-- A slice of the reference's numbers that came in. -/
theorem open_ns {H : Type} {enc : TypeId × Value → H} {W : World} {base : Nat} {v : Value} {d : DataW H} {ps : List MemPlace}
    (hval : Value.okWide Tryz.prog W .any base 39 v) (h0 : DataW.Trod enc Tryz.prog W 0 (fun _ => true) true 39 v d ps) (hlt : ∀ x ∈ ps, x.block < W.heap.size) :
    ∃ (a : Option Addr) (n c : Nat) (zs : List Num), v = .slice a n c ∧ zs.length = n ∧ (a = none → c = 0) ∧ RE TV W a zs := by
  obtain ⟨a0, len, cap, rfl⟩ := okWide_slice Tryz.underlying39 hval
  obtain ⟨fuel, hf⟩ := h0
  rcases Go.Deep.open_slice Tryz.underlying39 hf with ⟨hcs, hx⟩ | ⟨a, len', cap', m, n, D, Pl, hcs, hb, hl, hm, hmm, hx, hi⟩
  · simp [Value.cells] at hcs
    obtain ⟨rfl, rfl, rfl⟩ := hcs
    exact ⟨none, 0, 0, [], rfl, rfl, fun _ => rfl, .inl rfl⟩
  · simp [Value.cells] at hcs
    obtain ⟨rfl, rfl, rfl⟩ := hcs
    simp only [if_true] at hmm
    subst hmm
    rw [cells_n] at hx hi
    have key : ∀ i, i < len → ∃ r : Num, ∀ j v, (nuc r)[j]? = some v → W.cell? (a.add (i * 33 + j)) = some v := fun i hil => by
      obtain ⟨cs', hc, ht'⟩ := hi i (by omega)
      obtain ⟨r, rfl⟩ := open_num ht'
      obtain ⟨_, hcl, hat⟩ := World.cells?_some hc
      refine ⟨r, fun j v hv => ?_⟩
      have hj : j < 33 := by have := (List.getElem?_eq_some_iff.1 hv).1; rwa [nuc_length] at this
      have := hat j hj
      rw [hv, Go.Deep.add_add] at this
      exact this
    obtain ⟨zs, hz, hzs⟩ := list_of key
    refine ⟨some a, len, _, zs, rfl, hz, (fun e => by cases e), ?_⟩
    by_cases hl0 : len = 0
    · exact .inl (List.eq_nil_of_length_eq_zero (hz.trans hl0))
    · obtain ⟨b, off, spot⟩ := a
      have h00 := hzs 0 (by omega) 0 _ (List.getElem?_eq_getElem (by rw [nuc_length]; decide))
      have hspot : spot = none := by simpa [Addr.add] using World.cell?_spot h00
      subst hspot
      simp only [Prod.mk.injEq] at hx
      have hmem : MemPlace.cell b off ∈ ps := by
        rw [hx.2]
        exact List.mem_append_left _ (MemPlace.mem_row.2 ⟨0, Nat.mul_pos (by omega) (by decide), by simp⟩)
      refine .inr ⟨b, off, rfl, hlt _ hmem, fun j x hx i v hv => ?_⟩
      obtain ⟨hj, rfl⟩ := List.getElem?_eq_some_iff.1 hx
      have h1 := hzs j hj i v hv
      rw [Go.WideShapes.add_plain] at h1
      exact h1
end Go.Proofs.YtddmldfdakmecaaGreatDoor
