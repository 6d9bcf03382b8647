/- Walk of newsrc.combine. -/
import Derived.Test.YtddmldfdakmecaaGreatDoorNwConcat
namespace Go.Proofs.YtddmldfdakmecaaGreatDoor
open Go.RowKit Go.Gn Go.El Go.Nw Go.Sort

theorem cell2 {w : World} (t : TypeId) (u v : Value) (m : Nat) (hm : w.heap.size = m) : (w.alloc (.cells #[u, v] t)).cell? ⟨m, 0, none⟩ = some u ∧ (w.alloc (.cells #[u, v] t)).cell? ⟨m, 1, none⟩ = some v := by
  subst hm; exact new2 w t u v

theorem sortInts_any (base : Nat) (v : Value) (zs : List Int) (w : World) (hO : OE TN w base v zs) (hN : zs.length ≤ 1000000) (hbase : base ≤ w.heap.size) :
    Calls Tryz.prog 102 #[v] w fun e w' => e = .returned (.tuple #[]) ∧ OE TN w' base v (zs.mergeSort fun x y => decide (x ≤ y)) ∧ Below base w w' := by
  have hO' := hO
  rcases hO.2 with ⟨rfl, h2⟩ | ⟨g, cap, cur, rfl, hbg, hb, hle, hcap, hcs, htk⟩
  · obtain rfl : zs = [] := List.eq_nil_of_length_eq_zero h2
    exact (Tryz.slices_Sort_int_none none 0 w).mono fun e w' ⟨he, hw⟩ => ⟨he, by rw [List.mergeSort_nil]; exact hw ▸ hO', hw ▸ Below.refl _ _⟩
  · have hH := holds1 (T := TN) (f := Value.int .i64) rfl rfl hb htk
    have hgl : g < w.heap.size := (Array.getElem?_eq_some_iff.1 hb).1
    refine (Tryz.slices_Sort_int g 0 cap zs w hH hgl (by omega)).mono fun e w' ⟨he, n, os, hw⟩ => ⟨he, ?_, ?_⟩
    · rw [hw]
      exact own_put1 (T := TN) (f := Value.int .i64) rfl rfl (by simp) hbg hb hle hcap hcs
    · rw [hw]
      exact (Below.refl base w).grown (grownBy_put1 _) hbase (fun q hq => by cases hq; exact hbg)

theorem compactInts_any (base : Nat) (v : Value) (zs : List Int) (w : World) (hO : OE TN w base v zs) (hN : zs.length ≤ 1000000) (hbase : base ≤ w.heap.size) :
    Calls Tryz.prog 103 #[v] w fun e w' => ∃ a c, e = .returned (.slice a (Lib.compact zs).length c) ∧ RE TN w' a (Lib.compact zs) ∧ Below base w w' := by
  have hO' := hO
  rcases hO.2 with ⟨rfl, h2⟩ | ⟨g, cap, cur, rfl, hbg, hb, hle, hcap, hcs, htk⟩
  · obtain rfl : zs = [] := List.eq_nil_of_length_eq_zero h2
    exact (Tryz.slices_Compact_int_empty none 0 w).mono fun e w' ⟨he, hw⟩ => ⟨none, 0, he, RE.nil _ _ _, hw ▸ Below.refl _ _⟩
  · have hH := holds1 (T := TN) (f := Value.int .i64) rfl rfl hb htk
    have hgl : g < w.heap.size := (Array.getElem?_eq_some_iff.1 hb).1
    have hcl : (Lib.compact zs).length ≤ zs.length := by
      unfold Lib.compact Lib.compactUpTo
      rw [List.length_map]
      exact Nat.le_trans (List.length_filter_le _ _) (by simp)
    refine (Tryz.slices_Compact_int g 0 cap zs w hH (by omega) hle).mono fun e w' ⟨he, q, hw⟩ => ⟨some ⟨g, 0, none⟩, cap, he, ?_, ?_⟩
    · have h1 := own_put1 (T := TN) (f := Value.int .i64) (n := q) (os := #[]) (ys := Lib.compact zs ++ List.replicate (zs.length - (Lib.compact zs).length) 0) rfl rfl (by simp; omega) hbg hb hle hcap hcs
      rw [grow_empty, ← hw] at h1
      obtain ⟨_, h2, _⟩ := h1.shape
      have h3 := h2.take (Lib.compact zs).length
      rwa [List.take_left] at h3
    · rw [hw]
      have := grownBy_put1 (f := Value.int .i64) (w := w) (g := g) (n := q) (os := #[]) (Lib.compact zs ++ List.replicate (zs.length - (Lib.compact zs).length) 0).toArray
      rw [grow_empty] at this
      exact (Below.refl base w).grown this hbase (fun q hq => by cases hq; exact hbg)

theorem re_int {w : World} {a : Option Addr} {zs : List Int} (h : RE TN w a zs) {k : Nat} (hlt : k < zs.length) : ∃ b off, a = some ⟨b, off, none⟩ ∧ b < w.heap.size ∧ w.cell? ⟨b, off + k, none⟩ = some (.int .i64 zs[k]) := by
  obtain ⟨b, off, ha, hb, hc⟩ := h.some hlt
  have := hc 0 _ rfl
  rw [show TN.k = 1 from rfl, Nat.mul_one, Nat.add_zero] at this
  exact ⟨b, off, ha, hb, this⟩

theorem kept_bounds {keep : Bool → Bool → Bool} {zs ys L : List Rg} {o : List Rg} {F : Int → Bool} (hL : L = zs ++ ys) (hv : ∀ r ∈ L, validB r = true) (hN : Norm o) (hm : ∀ n, memB n o = (kept keep zs ys n && F n)) : ∀ q ∈ o, validB q = true := fun q hq => by
  have h0 := hN.1 q hq
  have key : ∀ n, memB n o = true → 1 ≤ n ∧ n ≤ 1099511627776 := fun n h => by
    rw [hm, Bool.and_eq_true] at h
    refine memB_bounds (l := L) hv ?_
    rw [hL, memB_append]
    have h1 := h.1
    unfold kept at h1
    rw [Bool.and_eq_true] at h1
    exact h1.1
  have h1 := key q.1 (memB_iff.2 ⟨q, hq, Int.le_refl _, h0⟩)
  have h2 := key q.2 (memB_iff.2 ⟨q, hq, h0, Int.le_refl _⟩)
  exact validB_iff.2 ⟨h1.1, h2.2, h0⟩
theorem ends_bounds {l : List Rg} (hv : ∀ r ∈ l, validB r = true) {x : Int} (hx : x ∈ ends l) : 1 ≤ x ∧ x ≤ 1099511627777 := by
  obtain ⟨r, hr, h⟩ := mem_ends.1 hx
  have := validB_iff.1 (hv r hr)
  omega

/-- What combine gives. -/
def CombPost (keep : Bool → Bool → Bool) (zs ys : List Rg) (w : World) (e : Ending) (w' : World) : Prop :=
  Below w.heap.size w w' ∧ ∃ o : List Rg, Norm o ∧ (∀ n, memB n o = kept keep zs ys n) ∧ o.length ≤ 2 * (zs.length + ys.length) ∧
    ((o.length ≤ 4096 ∧ ∃ v, e = .returned (.tuple #[.agg #[v], .int .i64 0]) ∧ OE TR w' w.heap.size v o) ∨
     (¬ o.length ≤ 4096 ∧ e = .returned (.tuple #[.agg #[.slice none 0 0], .int .i64 9])))

set_option maxRecDepth 100000 in
set_option maxHeartbeats 2000000 in
theorem combine_any (keep : Bool → Bool → Bool) (g : Nat) (eg : ∀ args w, (callFunc g args).run Tryz.prog w = .ok (.enter g args) w) (hg : ∀ x y W, Calls Tryz.prog g #[.bool x, .bool y] W fun e w' => e = .returned (.bool (keep x y)) ∧ w' = W)
    (a : Option Addr) (n c : Nat) (zs : List Rg) (a' : Option Addr) (n' c' : Nat) (ys : List Rg) (w : World) (hn : zs.length = n) (hn' : ys.length = n') (hN : n ≤ 5000) (hN' : n' ≤ 5000) (hS : RE TR w a zs) (hS' : RE TR w a' ys) (hc0 : a = none → c = 0) (hc0' : a' = none → c' = 0)
    (hz : Norm zs) (hy : Norm ys) (hvz : ∀ r ∈ zs, validB r = true) (hvy : ∀ r ∈ ys, validB r = true) :
    Calls Tryz.prog 63 #[.agg #[.slice a n c], .agg #[.slice a' n' c'], .func (.func g) #[] #[]] w fun e w' => CombPost keep zs ys w e w' := by
  have HN := Lib.hid hn
  have HN' := Lib.hid hn'
  have HNO : Hid (Norm zs ∧ Norm ys) := ⟨hz, hy⟩
  have HVA : Hid (∀ r ∈ zs ++ ys, validB r = true) := fun r hr => by
    rcases List.mem_append.1 hr with h | h
    · exact hvz r h
    · exact hvy r h
  have HG := Lib.hid hg
  clear hn hn' hz hy hvz hvy hg
  have hb3 : Below w.heap.size w (((w.alloc (.cells #[.slice a n c] 26)).alloc (.cells #[.slice a' n' c'] 26)).alloc (.cells #[.slice none 0 0] 26)) :=
    (((Below.refl _ _).alloc (Nat.le_refl _) _).alloc (by simp) _).alloc (by simp; omega) _
  have hBA : Box (((w.alloc (.cells #[.slice a n c] 26)).alloc (.cells #[.slice a' n' c'] 26)).alloc (.cells #[.slice none 0 0] 26)) w.heap.size 26 (.slice a n c) := ((Box.new w _ _ _ rfl).alloc _).alloc _
  have hBB : Box (((w.alloc (.cells #[.slice a n c] 26)).alloc (.cells #[.slice a' n' c'] 26)).alloc (.cells #[.slice none 0 0] 26)) (w.heap.size + 1) 26 (.slice a' n' c') := (Box.new (w.alloc _) _ _ _ (by simp)).alloc _
  have hBR : Box (((w.alloc (.cells #[.slice a n c] 26)).alloc (.cells #[.slice a' n' c'] 26)).alloc (.cells #[.slice none 0 0] 26)) (w.heap.size + 1 + 1) 26 (.slice none 0 0) := Box.new ((w.alloc _).alloc _) _ _ _ (by simp)
  have HSZ : Hid ((((w.alloc (.cells #[.slice a n c] 26)).alloc (.cells #[.slice a' n' c'] 26)).alloc (.cells #[.slice none 0 0] 26)).heap.size = w.heap.size + 1 + 1 + 1) := by unfold Hid; simp
  have hSa := hS.below hb3
  have hSb := hS'.below hb3
  clear hS hS'
  go_enter Tryz.func63, Tryz.ntmps63
  go_wp2_with fail
  generalize ((w.alloc (.cells #[.slice a n c] 26)).alloc (.cells #[.slice a' n' c'] 26)).alloc (.cells #[.slice none 0 0] 26) = w0 at *
  have hb1 : Below w0.heap.size w0 (w0.alloc (.cells #[.slice a n c, .slice a' n' c'] 24)) := (Below.refl _ _).alloc (Nat.le_refl _) _
  have hk := cell2 (w := w0) 24 (.slice a n c) (.slice a' n' c') (w.heap.size + 1 + 1 + 1) HSZ.out
  refine (concatR_any (w.heap.size + 1 + 1 + 1) a n c zs a' n' c' ys (w0.alloc (.cells #[.slice a n c, .slice a' n' c'] 24)) HN.out HN'.out (by omega) (by omega) (hSa.alloc _) (hSb.alloc _) hc0 hc0' (by have := HSZ.out; simp; omega) hk.1 hk.2).mono ?_
  clear hk
  rintro e w1 ⟨v1, rfl, hO1, hbb⟩
  have hb01 := below_then' hb1 hbb
  clear hb1 hbb
  have HLL : Hid ((zs ++ ys).length = n + n') := by unfold Hid; rw [List.length_append, HN.out, HN'.out]
  obtain ⟨L, hL⟩ : ∃ L, L = zs ++ ys := ⟨_, rfl⟩
  rw [← hL] at hO1 HLL HVA
  obtain ⟨a1, c1, rfl, hR1, q1, q2, q3, q4⟩ := hO1.re
  clear q1 q2 q3 q4 hO1
  have HL := Lib.hid hL
  clear hL
  generalize hm : L.length = m at HLL ⊢
  have HM := Lib.hid hm
  clear hm
  have hmn : m ≤ 10000 := by rw [HLL.out]; omega
  go_wp2
  go_loopg [8, 24] m (fun gg s8 s24 wr => ∃ (k : Nat), k ≤ m ∧ m - k ≤ gg ∧ s24 = .int .i64 k ∧ OE TN wr w1.heap.size s8 (ends (L.take k)) ∧ Below w1.heap.size w1 wr)
  case atStart => exact ⟨0, Nat.zero_le _, by omega, rfl, OE.nil _ _ _, Below.refl _ _⟩
  case round =>
    obtain ⟨k, hk, hgk, rfl, hO, hB1⟩ := hrel
    by_cases hlt : k < m
    · have hltz : (k : Int) < (m : Int) := by omega
      have hkz : k < L.length := by rw [HM.out]; exact hlt
      obtain ⟨b, off, rfl, hb, hx1, hx2⟩ := RE.rg (T := TR) rfl rfl (hR1.below hB1) hkz
      have hvk := validB_iff.1 (HVA.out _ (List.getElem_mem hkz))
      have HTK : Hid (ends (L.take (k + 1)) = ends (L.take k) ++ [L[k].1, L[k].2 + 1]) := by
        unfold Hid; rw [List.take_succ_eq_append_getElem hkz, ends_append]; rfl
      have hel : (ends (L.take k)).length ≤ 20000 := by rw [ends_length, List.length_take]; omega
      generalize L[k] = r at hx1 hx2 HTK hvk
      obtain ⟨x, y⟩ := r
      simp only at hx1 hx2 HTK hvk
      obtain ⟨v1, v2, v3⟩ := hvk
      have hs0 : w1.heap.size ≤ wr.heap.size := hB1.size
      have hOO := (hO.alloc (.cells #[.int .i64 x, .int .i64 y] 92)).alloc (.cells #[.int .i64 x, .int .i64 (y + 1)] 3)
      have hNN : RE TN ((wr.alloc (.cells #[.int .i64 x, .int .i64 y] 92)).alloc (.cells #[.int .i64 x, .int .i64 (y + 1)] 3)) (some ⟨wr.heap.size + 1, 0, none⟩) [x, y + 1] := RE.new TN (wr.alloc _) [x, y + 1] #[.int .i64 x, .int .i64 (y + 1)] 3 (wr.heap.size + 1) (by simp) rfl
      have hbs : w1.heap.size ≤ ((wr.alloc (.cells #[.int .i64 x, .int .i64 y] 92)).alloc (.cells #[.int .i64 x, .int .i64 (y + 1)] 3)).heap.size := by simp; omega
      have hll : (ends (L.take k)).length + 2 ≤ 30000000000 := by omega
      have hB' : Below w1.heap.size w1 ((wr.alloc (.cells #[.int .i64 x, .int .i64 y] 92)).alloc (.cells #[.int .i64 x, .int .i64 (y + 1)] 3)) := (hB1.alloc hs0 _).alloc (by simp; omega) _
      go_wp2_with (at_builtin; refine El.app TN (m := 2) hOO hNN rfl (by intro e; cases e) hll hbs _ _ rfl rfl rfl rfl ?_; intro v2' w2 hO2 hG2)
      go_roundg (m - (k + 1))
      case measure => omega
      case rel =>
        exact ⟨k + 1, by omega, by omega, by go_num, by rw [HTK.out]; exact hO2, hB'.grown hG2 hbs (fun q hq => (World.ownsRow.lt hO q hq).1)⟩
    · have hltz : ¬ (k : Int) < (m : Int) := by omega
      rw [List.take_of_length_le (by rw [HM.out]; omega)] at hO
      have hel : (ends L).length = 2 * m := by rw [ends_length, HM.out]
      have hSo := sortInts_any w1.heap.size _ (ends L) wr hO (by omega) hB1.size
      go_wp2_with fail
      refine hSo.mono ?_
      clear hSo
      rintro e w2 ⟨rfl, hO2, hb2⟩
      have hb12 := hB1.trans hb2
      have hsl : ((ends L).mergeSort fun x y => decide (x ≤ y)).length = 2 * m := by rw [List.length_mergeSort, hel]
      have hCo := compactInts_any w1.heap.size _ _ w2 hO2 (by omega) hb12.size
      have hcl : (Lib.compact ((ends L).mergeSort fun x y => decide (x ≤ y))).length ≤ 2 * m := by
        unfold Lib.compact Lib.compactUpTo
        rw [List.length_map]
        exact Nat.le_trans (List.length_filter_le _ _) (by simp; omega)
      obtain ⟨hc1, hc2⟩ := compact_ints (ends L)
      obtain ⟨C, hC⟩ : ∃ C, C = Lib.compact ((ends L).mergeSort fun x y => decide (x ≤ y)) := ⟨_, rfl⟩
      rw [← hC] at hCo hcl hc1 hc2
      clear hC hsl hel
      have HC1 := Lib.hid hc1
      have HC2 : Hid (∀ x, x ∈ C ↔ x ∈ ends zs ∨ x ∈ ends ys) := fun x => by rw [hc2, HL.out, ends_append, List.mem_append]
      clear hc1 hc2
      go_wp2_with fail
      refine hCo.mono ?_
      clear hCo
      rintro e w3 ⟨a3, c3, rfl, hR3, hb3'⟩
      have hb13 := hb12.trans hb3'
      have hb03 : Below w0.heap.size w0 w3 := hb01.trans (hb13.mono hb01.size)
      generalize hcn : C.length = cn at hcl ⊢
      have HCN := Lib.hid hcn
      clear hcn hO hO2 hb2 hb12 hb3'
      have hX3 : Box (w3.alloc (.cells #[.slice none 0 0] 26)) w3.heap.size 26 (.slice none 0 0) := Box.new w3 _ _ _ rfl
      have hw3 : Below w3.heap.size w3 (w3.alloc (.cells #[.slice none 0 0] 26)) := (Below.refl _ _).alloc (Nat.le_refl _) _
      have HST : Hid (CombAt (kept keep zs ys) C 0 []) := comb_start HC1.out HC2.out
      have hBA3 := hBA.below hb03 hBA.lt
      have hBB3 := hBB.below hb03 hBB.lt
      have hBR3 := hBR.below hb03 hBR.lt
      have hSa3 := hSa.below hb03
      have hSb3 := hSb.below hb03
      go_wp2
      go_loopg [12] cn (fun gg s12 wr => ∃ (j : Nat) (v : Value) (out : List Rg), cn ≤ j + 1 + gg ∧ (j = 0 ∨ j + 1 ≤ cn) ∧ s12 = .int .i64 ((j : Int) + 1) ∧ Box wr w3.heap.size 26 v ∧ OE TR wr w3.heap.size v out ∧ Below w3.heap.size w3 wr ∧ Aside (CombAt (kept keep zs ys) C j out))
      case atStart => exact ⟨0, _, [], by omega, .inl rfl, rfl, hX3, OE.nil _ _ _, hw3, HST.out⟩
      case round =>
        obtain ⟨j, v, out, hgj, hj1, rfl, hX, hO, hB, A⟩ := hrel
        have hjb : j ≤ 20000 := by omega
        by_cases hlt : j + 1 < cn
        · have hltz : (j : Int) + 1 < (cn : Int) := by omega
          have hkz : j < C.length := by rw [HCN.out]; omega
          have hkz1 : j + 1 < C.length := by rw [HCN.out]; omega
          obtain ⟨b, off, rfl, hb, hx⟩ := re_int (hR3.below hB) hkz
          obtain ⟨b', off', e', _, hy⟩ := re_int (hR3.below hB) hkz1
          injection e' with e'
          injection e' with e1 e2
          subst e1; subst e2
          have hbx := ends_bounds HVA.out (x := C[j]) (by rw [HL.out, ends_append, List.mem_append]; exact (HC2.out _).1 (List.getElem_mem hkz))
          have hby := ends_bounds HVA.out (x := C[j + 1]) (by rw [HL.out, ends_append, List.mem_append]; exact (HC2.out _).1 (List.getElem_mem hkz1))
          have HX : Hid (C[j]? = some C[j]) := List.getElem?_eq_getElem hkz
          have HY : Hid (C[j + 1]? = some C[j + 1]) := List.getElem?_eq_getElem hkz1
          generalize C[j] = x at hx hbx HX
          generalize C[j + 1] = y at hy hby HY
          obtain ⟨x1, x2⟩ := hbx
          obtain ⟨y1, y2⟩ := hby
          have s0 : IntKind.i64.wrap (j : Int) = (j : Int) := IntWalk.i64_in _ (by omega)
          have s1 : IntKind.i64.wrap ((j : Int) + 1) = (j : Int) + 1 := IntWalk.i64_in _ (by omega)
          have s2 : IntKind.i64.wrap (y - 1) = y - 1 := IntWalk.i64_in _ (by omega)
          have i0 : (0 : Int) ≤ (j : Int) := by omega
          have i1 : (j : Int) < (cn : Int) := by omega
          have hy' : wr.cell? ⟨b, off + (j + 1), none⟩ = some (.int .i64 y) := hy
          clear hy
          go_wp2_with fail
          go_quiet (fail)
          go_wp2_with fail
          have hB4 : Below w3.heap.size w3 (wr.drewN nq) := Go.below_drewN hB nq
          have hX4 := hX.drewN nq
          have hO4 := hO.drewN nq
          have ca := (hBA3.below hB4 hBA3.lt).cell
          have cb := (hBB3.below hB4 hBB3.lt).cell
          have hA := fun (W : World) (hb : Below (wr.drewN nq).heap.size (wr.drewN nq) W) => has_any a n c zs x W HN.out (by omega) ((hSa3.below hB4).below hb) HNO.out.1
          have hAb := fun (W : World) (hb : Below (wr.drewN nq).heap.size (wr.drewN nq) W) => has_any a' n' c' ys x W HN'.out (by omega) ((hSb3.below hB4).below hb) HNO.out.2
          have hla : w.heap.size < (wr.drewN nq).heap.size := Nat.lt_of_lt_of_le hBA3.lt hB4.size
          have hlb : w.heap.size + 1 < (wr.drewN nq).heap.size := Nat.lt_of_lt_of_le hBB3.lt hB4.size
          clear hx hy' s0 s1 s2 hX hO hB
          generalize wr.drewN nq = w4 at *
          unfold GivesB at hA hAb
          have hrf : Below w4.heap.size w4 w4 := Below.refl _ _
          go_region_held3 (fun W => Below w4.heap.size w4 W ∧ W.cell? ⟨w.heap.size, 0, none⟩ = some (.slice a n c) ∧ W.cell? ⟨w.heap.size + 1, 0, none⟩ = some (.slice a' n' c'))
            (first
              | exact ⟨Go.below_drewN hrf 1, ca, cb⟩
              | go_keep
              | (go_split_ands
                 refine ⟨?_, ?_, ?_⟩
                 · exact below_then' ‹Below w4.heap.size w4 _› ‹_›
                 · exact ((below_then' ‹Below w4.heap.size w4 _› ‹_›).cell (p := ⟨w.heap.size, 0, none⟩) hla).trans ca
                 · exact ((below_then' ‹Below w4.heap.size w4 _› ‹_›).cell (p := ⟨w.heap.size + 1, 0, none⟩) hlb).trans cb))
            (first | (go_split_ands; go_at_call 25; ((with_reducible refine (hA _ ‹_›).mono ?_); rintro e w' ⟨rfl, hb'⟩)) | (go_split_ands; go_at_call 25; ((with_reducible refine (hAb _ ‹_›).mono ?_); rintro e w' ⟨rfl, hb'⟩)))
          have hb5 : Below w4.heap.size w4 w' := (‹Below w4.heap.size w4 w' ∧ _›).1
          have hX5 := hX4.below hb5 hX4.lt
          have hO5 := hO4.below hb5
          have hB5 : Below w3.heap.size w3 w' := hB4.trans (hb5.mono hB4.size)
          have HSTEP := comb_step (keep := keep) (a := zs) (b := ys) HNO.out.1.1 HNO.out.2.1 HC1.out HC2.out HX.out HY.out A.out
          have hol := A.out.2.2.2
          have HOB : Hid (∀ q ∈ out, -1099511627776 ≤ q.2 ∧ q.2 ≤ 1099511627776) := fun q hq => by
            have := validB_iff.1 (kept_bounds HL.out HVA.out A.out.1 A.out.2.2.1 q hq)
            omega
          have HKE : Hid (kept keep zs ys x = ((memB x zs || memB x ys) && keep (memB x zs) (memB x ys))) := rfl
          have hE := fun (W : World) (hb : Below w4.heap.size w4 W) => extend_any w3.heap.size w3.heap.size v out (x, y - 1) W (hX4.below hb hX4.lt) (hO4.below hb) (Nat.le_refl _) (by omega) HOB.out
          have HGG := fun (p q : Bool) (W : World) => HG.out p q W
          have HS2 := Lib.hid HSTEP
          clear HSTEP hA hAb ca cb hX4 hO4 hrf
          generalize memB x zs = p at *
          generalize memB x ys = q at *
          have hcase : (kept keep zs ys x = true ∧ (p || q) = true ∧ keep p q = true) ∨ (kept keep zs ys x = false ∧ (p || q) = true ∧ keep p q = false) ∨ (kept keep zs ys x = false ∧ p = false ∧ q = false) := by
            rw [HKE.out]
            cases p <;> cases q <;> simp
            all_goals (cases keep _ _ <;> simp)
          rcases hcase with ⟨hk1, hk2, hk3⟩ | ⟨hk1, hk2, hk3⟩ | ⟨hk1, hk2, hk3⟩
          · have HK1 := Lib.hid hk1
            have hgk := HGG p q
            rw [hk3] at hgk
            clear hk1 hk3 HGG
            cases p <;> cases q <;> (try (simp at hk2; done))
            all_goals
              clear hk2
              go_wp2_with (go_at_fn g; refine (hgk _).mono ?_; rintro e w'' ⟨rfl, rfl⟩)
              refine (hE _ hb5).mono ?_
              clear hE
              rintro e w6 ⟨rfl, v6, hX6, hO6, hb6⟩
              have hB6 : Below w3.heap.size w3 w6 := hB5.trans hb6
              go_wp2_with fail
              go_roundg (cn - (j + 2))
              case measure => omega
              case rel => exact ⟨j + 1, v6, extend out (x, y - 1), by omega, .inr (by omega), by go_num, hX6, hO6, hB6, by unfold Aside; have := HS2.out; rwa [if_pos HK1.out] at this⟩
          · have HK1 := Lib.hid hk1
            have hgk := HGG p q
            rw [hk3] at hgk
            clear hk1 hk3 HGG hE
            cases p <;> cases q <;> (try (simp at hk2; done))
            all_goals
              clear hk2
              go_wp2_with (go_at_fn g; refine (hgk _).mono ?_; rintro e w'' ⟨rfl, rfl⟩)
              go_roundg (cn - (j + 2))
              case measure => omega
              case rel => exact ⟨j + 1, v, out, by omega, .inr (by omega), by go_num, hX5, hO5, hB5, by unfold Aside; have := HS2.out; rwa [if_neg (by rw [HK1.out]; decide)] at this⟩
          · have HK1 := Lib.hid hk1
            subst hk2
            subst hk3
            clear hk1 HGG hE
            go_wp2_with fail
            go_roundg (cn - (j + 2))
            case measure => omega
            case rel => exact ⟨j + 1, v, out, by omega, .inr (by omega), by go_num, hX5, hO5, hB5, by unfold Aside; have := HS2.out; rwa [if_neg (by rw [HK1.out]; decide)] at this⟩
        · have hltz : ¬ (j : Int) + 1 < (cn : Int) := by omega
          obtain ⟨hfn, hfm⟩ := comb_end HC1.out HC2.out (by rw [HCN.out]; omega) A.out
          have hol := A.out.2.2.2
          have HF : Hid (Norm out ∧ ∀ n, memB n out = kept keep zs ys n) := ⟨hfn, hfm⟩
          have HLEN : Hid (out.length ≤ 2 * (zs.length + ys.length)) := by
            unfold Hid
            have h1 := HLL.out
            rw [HN.out, HN'.out]
            omega
          obtain ⟨a5, c5, rfl, hR5, q1, q2, q3, q4⟩ := hO.re
          have hc2 := hX.cell
          clear q1 q2 q3 q4 hfn hfm
          generalize hL5 : out.length = L5 at hc2 hX hO HLEN ⊢
          have HL5 := Lib.hid hL5
          clear hL5
          have hb0r : Below w0.heap.size w0 wr := hb03.trans (hB.mono hb03.size)
          by_cases h4 : L5 ≤ 4096
          · have hLim := fun (W : World) => limited_ok a5 L5 c5 W h4
            unfold GivesB at hLim
            go_wp2_with fail
            refine (hLim _).mono ?_
            rintro e w6 ⟨rfl, hb6⟩
            have hO6 := hO.below hb6
            have hb06 : Below w0.heap.size w0 w6 := hb0r.trans (hb6.mono hb0r.size)
            have hX6 := hBR.below hb06 hBR.lt
            have hc6 := hX6.cell
            have hf6 := hX6.free
            go_wp2
            have hfar := hO6.far (a := ⟨w.heap.size + 1 + 1, 0, none⟩) (hO6.ne hX6 (by decide)) (.slice a5 L5 c5)
            have hc7 : (w6.setCell ⟨w.heap.size + 1 + 1, 0, none⟩ (.slice a5 L5 c5)).cell? ⟨w.heap.size + 1 + 1, 0, none⟩ = some (.slice a5 L5 c5) := (hX6.set _).cell
            refine bodyPost_ret (v := .tuple #[.agg #[.slice a5 L5 c5], .int .i64 0]) (by simp [results, Tryz.results63, go_sem, hc7]) rfl ⟨?_, out, HF.out.1, HF.out.2, by rw [HL5.out]; exact HLEN.out, .inl ⟨by rw [HL5.out]; exact h4, _, rfl, hfar.mono ?_⟩⟩
            · exact (hb3.trans (hb06.mono (by have := HSZ.out; omega))).setCell (p := ⟨w.heap.size + 1 + 1, 0, none⟩) (by simp <;> omega) _
            · have := hb03.size; have := HSZ.out; omega
          · have hLim := fun (W : World) => limited_no a5 L5 c5 W h4
            unfold GivesB at hLim
            go_wp2_with fail
            refine (hLim _).mono ?_
            rintro e w6 ⟨rfl, hb6⟩
            have hb06 : Below w0.heap.size w0 w6 := hb0r.trans (hb6.mono hb0r.size)
            have hX6 := hBR.below hb06 hBR.lt
            have hc6 := hX6.cell
            have hf6 := hX6.free
            go_wp2
            have hc7 : (w6.setCell ⟨w.heap.size + 1 + 1, 0, none⟩ (.slice none 0 0)).cell? ⟨w.heap.size + 1 + 1, 0, none⟩ = some (.slice none 0 0) := (hX6.set _).cell
            refine bodyPost_ret (v := .tuple #[.agg #[.slice none 0 0], .int .i64 9]) (by simp [results, Tryz.results63, go_sem, hc7]) rfl ⟨?_, out, HF.out.1, HF.out.2, by rw [HL5.out]; exact HLEN.out, .inr ⟨by rw [HL5.out]; exact h4, rfl⟩⟩
            exact (hb3.trans (hb06.mono (by have := HSZ.out; omega))).setCell (p := ⟨w.heap.size + 1 + 1, 0, none⟩) (by simp <;> omega) _
end Go.Proofs.YtddmldfdakmecaaGreatDoor
