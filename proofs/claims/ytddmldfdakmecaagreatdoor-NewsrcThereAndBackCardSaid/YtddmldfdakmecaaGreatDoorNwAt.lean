/- Walks of slices.BinarySearchFunc at newsrc.Range, Set.at, Set.Has. -/
import Derived.Test.YtddmldfdakmecaaGreatDoorNwLimited
namespace Go.Proofs.YtddmldfdakmecaaGreatDoor
open Go.RowKit Go.Gn Go.El Go.Nw

theorem closureAt (x : Rg) (n : Int) (W : World) : Calls Tryz.prog 105 #[.agg #[.int .i64 x.1, .int .i64 x.2], .int .i64 n] W fun e w' => e = .returned (.int .i64 (Lib.compareInt x.2 n)) ∧ Below W.heap.size W w' := by
  have hcon := fun W' => Tryz.cmp_Compare_int x.2 n W'
  obtain ⟨a, b⟩ := x
  simp only at hcon ⊢
  generalize Lib.compareInt b n = r at hcon ⊢
  go_enter Tryz.func105, Tryz.ntmps105
  go_wp2_with (go_at_call 55; refine (hcon _).mono ?_; rintro e w' ⟨rfl, rfl⟩)
  go_ret
  exact ⟨rfl, (Below.refl _ _).alloc (Nat.le_refl _) _⟩

theorem compareInt_lt (a b : Int) : (Lib.compareInt a b < 0) = (a < b) := by
  unfold Lib.compareInt
  by_cases h1 : a < b
  · simp [h1]
  · by_cases h2 : b < a <;> simp [h1, h2]

/-- The place of the first range that does not end before a number. -/
def firstAt (l : List Rg) (n : Int) : Nat := (l.takeWhile fun r => decide (r.2 < n)).length

def SearchPost (zs : List Rg) (x : Int) (w : World) (e : Ending) (w' : World) : Prop :=
  ∃ (i : Nat) (t : Bool), e = .returned (.tuple #[.int .i64 i, .bool t]) ∧ i ≤ zs.length ∧ (∀ j (hj : j < zs.length), j < i → zs[j].2 < x) ∧ (∀ j (hj : j < zs.length), i ≤ j → x ≤ zs[j].2) ∧ Below w.heap.size w w'

set_option maxRecDepth 100000 in
set_option maxHeartbeats 1000000 in
theorem search_any (a : Option Addr) (n c : Nat) (zs : List Rg) (x : Int) (w : World) (hn : zs.length = n) (hN : n ≤ 1000000) (hS : RE TR w a zs) (hinc : zs.Pairwise fun r s => r.2 < s.2) :
    Calls Tryz.prog 104 #[.slice a n c, .int .i64 x, .func (.func 105) #[] #[]] w fun e w' => SearchPost zs x w e w' := by
  have HN := Lib.hid hn
  have HI := Lib.hid hinc
  clear hn hinc
  have eg : ∀ args w, (callFunc 105 args).run Tryz.prog w = .ok (.enter 105 args) w := enters_of Tryz.func105 (by kernel_rfl) rfl
  go_enter Tryz.func104, Tryz.ntmps104
  go_wp2
  go_loopg [9, 10] n (fun gg s9 s10 wr => ∃ i j : Nat, i ≤ j ∧ j ≤ n ∧ j - i ≤ gg ∧ s9 = .int .i64 i ∧ s10 = .int .i64 j ∧ Below w.heap.size w wr ∧ Aside ((∀ m (hm : m < zs.length), m < i → zs[m].2 < x) ∧ (∀ m (hm : m < zs.length), j ≤ m → ¬ zs[m].2 < x)))
  case atStart => exact ⟨0, n, Nat.zero_le _, Nat.le_refl _, by omega, rfl, rfl, Below.refl _ _, show Aside _ from ⟨fun m _ h => absurd h (Nat.not_lt_zero _), fun m hm h => by rw [HN.out] at hm; omega⟩⟩
  case round =>
    obtain ⟨i, j, hij, hjn, hg, rfl, rfl, hB, A⟩ := hrel
    by_cases hlt : i < j
    · have hltz : (i : Int) < (j : Int) := by omega
      have hkz : (i + j) / 2 < zs.length := by rw [HN.out]; omega
      obtain ⟨b, off, rfl, hb, hx1, hx2⟩ := RE.rg (T := TR) rfl rfl (hS.below hB) hkz
      have hC := fun W => closureAt zs[(i + j) / 2] x W
      have HR : Hid (zs[(i + j) / 2]? = some zs[(i + j) / 2]) := List.getElem?_eq_getElem hkz
      generalize zs[(i + j) / 2] = r at hx1 hx2 hC HR
      have hlt0 := compareInt_lt r.2 x
      generalize Lib.compareInt r.2 x = v at hC hlt0
      have hi1 : ((i : Int) + (j : Int)) / 2 < (n : Int) := by omega
      have HPW := List.pairwise_iff_getElem.1 HI.out
      have HPW' := Lib.hid HPW
      clear HPW
      by_cases hv : v < 0
      · have hvz : decide (v < 0) = true := decide_eq_true hv
        have HV : Hid (r.2 < x) := by unfold Hid; rw [← hlt0]; exact hv
        clear hlt0
        go_wp2_with (go_at_fn 105; refine (hC _).mono ?_; rintro e w' ⟨rfl, hb'⟩)
        go_roundg (j - ((i + j) / 2 + 1))
        case measure => omega
        case rel =>
          refine ⟨(i + j) / 2 + 1, j, by omega, hjn, Nat.le_refl _, by go_num, rfl, below_then' hB hb', show Aside _ from ⟨fun m hm h => ?_, A.out.2⟩⟩
          obtain ⟨hkz', er⟩ := List.getElem?_eq_some_iff.1 HR.out
          by_cases e : m = (i + j) / 2
          · subst e; rw [er]; exact HV.out
          · have h1 := HPW'.out m ((i + j) / 2) hm hkz' (by omega)
            rw [er] at h1
            have := HV.out
            omega
      · have hvz : decide (v < 0) = false := decide_eq_false hv
        have HV : Hid (¬ r.2 < x) := by unfold Hid; rw [← hlt0]; exact hv
        clear hlt0
        go_wp2_with (go_at_fn 105; refine (hC _).mono ?_; rintro e w' ⟨rfl, hb'⟩)
        go_roundg ((i + j) / 2 - i)
        case measure => omega
        case rel =>
          refine ⟨i, (i + j) / 2, by omega, by omega, Nat.le_refl _, rfl, by go_num, below_then' hB hb', show Aside _ from ⟨A.out.1, fun m hm h => ?_⟩⟩
          obtain ⟨hkz', er⟩ := List.getElem?_eq_some_iff.1 HR.out
          by_cases e : m = (i + j) / 2
          · subst e; rw [er]; exact HV.out
          · have h1 := HPW'.out ((i + j) / 2) m hkz' hm (by omega)
            rw [er] at h1
            have := HV.out
            omega
    · have hltz : ¬ (i : Int) < (j : Int) := by omega
      obtain rfl : i = j := by omega
      by_cases hin : i < n
      · have hinz : (i : Int) < (n : Int) := by omega
        have hkz : i < zs.length := by rw [HN.out]; exact hin
        obtain ⟨b, off, rfl, hb, hx1, hx2⟩ := RE.rg (T := TR) rfl rfl (hS.below hB) hkz
        have hC := fun W => closureAt zs[i] x W
        generalize zs[i] = r at hx1 hx2 hC
        generalize Lib.compareInt r.2 x = v at hC
        go_wp2_with (go_at_fn 105; refine (hC _).mono ?_; rintro e w' ⟨rfl, hb'⟩)
        go_ret2
        exact ⟨i, _, rfl, by rw [HN.out]; omega, A.out.1, fun m hm h => by have := A.out.2 m hm h; omega, below_then' hB hb'⟩
      · have hinz : ¬ (i : Int) < (n : Int) := by omega
        go_wp2_with fail
        go_ret2
        exact ⟨i, _, rfl, by rw [HN.out]; omega, A.out.1, fun m hm h => by have := A.out.2 m hm h; omega, hB⟩

theorem norm_inc {l : List Rg} (h : Norm l) : l.Pairwise fun r s => r.2 < s.2 := by
  refine List.pairwise_iff_getElem.2 fun i j hi hj hij => ?_
  have h1 := List.pairwise_iff_getElem.1 h.2 i j hi hj hij
  have h2 := h.1 _ (List.getElem_mem hj)
  omega

def AtPost (zs : List Rg) (x : Int) (w : World) (e : Ending) (w' : World) : Prop :=
  ∃ i : Nat, e = .returned (.int .i64 i) ∧ i ≤ zs.length ∧ (∀ j (hj : j < zs.length), j < i → zs[j].2 < x) ∧ (∀ j (hj : j < zs.length), i ≤ j → x ≤ zs[j].2) ∧ Below w.heap.size w w'

set_option maxRecDepth 100000 in
theorem at_any (a : Option Addr) (n c : Nat) (zs : List Rg) (x : Int) (w : World) (hn : zs.length = n) (hN : n ≤ 1000000) (hS : RE TR w a zs) (hinc : zs.Pairwise fun r s => r.2 < s.2) :
    Calls Tryz.prog 67 #[.agg #[.slice a n c], .int .i64 x] w fun e w' => AtPost zs x w e w' := by
  have hb0 : Below w.heap.size w (w.alloc (.cells #[.slice a n c] 26)) := (Below.refl _ _).alloc (Nat.le_refl _) _
  have hC := search_any a n c zs x (w.alloc (.cells #[.slice a n c] 26)) hn hN (hS.alloc _) hinc
  clear hS hinc hn
  go_enter Tryz.func67, Tryz.ntmps67
  go_wp2_with fail
  refine hC.mono ?_
  clear hC
  rintro e w' ⟨i, t, rfl, h1, h2, h3, hb⟩
  have H2 := Lib.hid h2
  have H3 := Lib.hid h3
  clear h2 h3
  go_wp2_with fail
  go_ret
  exact ⟨i, rfl, h1, H2.out, H3.out, below_then' hb0 hb⟩

theorem has_at {zs : List Rg} {x : Int} {i : Nat} (hN : Norm zs) (h1 : ∀ j (hj : j < zs.length), j < i → zs[j].2 < x) (h2 : ∀ j (hj : j < zs.length), i ≤ j → x ≤ zs[j].2) (hi : i < zs.length) : memB x zs = decide (zs[i].1 ≤ x) := by
  rw [Bool.eq_iff_iff, memB_iff, decide_eq_true_eq]
  constructor
  · rintro ⟨r, hr, a, b⟩
    obtain ⟨j, hj, rfl⟩ := List.getElem_of_mem hr
    by_cases hji : j < i
    · have := h1 j hj hji; omega
    · by_cases e : i = j
      · subst e; exact a
      · have := List.pairwise_iff_getElem.1 hN.2 i j hi hj (by omega)
        have := h2 i hi (Nat.le_refl _)
        omega
  · intro a
    have := h2 i hi (Nat.le_refl _)
    exact ⟨zs[i], List.getElem_mem hi, a, by omega⟩
theorem has_no {zs : List Rg} {x : Int} {i : Nat} (h1 : ∀ j (hj : j < zs.length), j < i → zs[j].2 < x) (hi : ¬ i < zs.length) : memB x zs = false := by
  rw [← Bool.not_eq_true, memB_iff]
  rintro ⟨r, hr, a, b⟩
  obtain ⟨j, hj, rfl⟩ := List.getElem_of_mem hr
  have := h1 j hj (by omega)
  omega

set_option maxRecDepth 100000 in
/-- 'Has'. -/
theorem has_any (a : Option Addr) (n c : Nat) (zs : List Rg) (x : Int) (w : World) (hn : zs.length = n) (hN : n ≤ 1000000) (hS : RE TR w a zs) (hno : Norm zs) :
    GivesB Tryz.prog 25 #[.agg #[.slice a n c], .int .i64 x] (.bool (memB x zs)) w := by
  have hb0 : Below w.heap.size w (w.alloc (.cells #[.slice a n c] 26)) := (Below.refl _ _).alloc (Nat.le_refl _) _
  have hX := Box.new w 26 (.slice a n c) _ rfl
  have hS0 := hS.alloc (.cells #[.slice a n c] 26)
  have hC := at_any a n c zs x (w.alloc (.cells #[.slice a n c] 26)) hn hN hS0 (norm_inc hno)
  have HNO := Lib.hid hno
  have HN := Lib.hid hn
  unfold GivesB
  clear hS hno hn
  go_enter Tryz.func25, Tryz.ntmps25
  go_wp2_with fail
  refine hC.mono ?_
  clear hC
  rintro e w' ⟨i, rfl, h1, h2, h3, hb⟩
  have hX' := hX.below hb (by simp)
  have hc := hX'.cell
  have hS' := hS0.below hb
  have H2 := Lib.hid h2
  have H3 := Lib.hid h3
  clear h2 h3 hX hS0
  have hbb := below_then' hb0 hb
  by_cases hin : i < n
  · have hinz : (i : Int) < (n : Int) := by omega
    have hkz : i < zs.length := by rw [HN.out]; exact hin
    have HV : Hid (memB x zs = decide (zs[i].1 ≤ x)) := has_at HNO.out H2.out H3.out hkz
    obtain ⟨b, off, rfl, hb, hx1, hx2⟩ := RE.rg (T := TR) rfl rfl hS' hkz
    generalize zs[i] = r at hx1 hx2 HV
    go_wp2_with fail
    go_ret
    exact ⟨ret_bool HV.out.symm, hbb⟩
  · have hinz : ¬ (i : Int) < (n : Int) := by omega
    have HV : Hid (memB x zs = false) := has_no H2.out (by rw [HN.out]; exact hin)
    go_wp2_with fail
    go_ret
    exact ⟨ret_bool HV.out.symm, hbb⟩
end Go.Proofs.YtddmldfdakmecaaGreatDoor
