/- Walk of the reference Compare, for strings of at most 1000000 bytes. -/
import Derived.Test.YtbgkepdnemgkdaaDoorGnWalkU
import Derived.Test.YtbgkepdnemgkdaaDoorGnWalkM
namespace Go.Proofs.YtbgkepdnemgkdaaDoor
open Go.RowKit Go.Gn

theorem less_of {a b : ByteArray} (h : cmpS (bs a) (bs b) < 0) : Op.bytesLess a.toList b.toList = true := by
  rw [bytesLess_cmp, ByteArray.toList_eq, ByteArray.toList_eq, decide_eq_true_eq]; exact h
theorem less_not {a b : ByteArray} (h : ¬ cmpS (bs a) (bs b) < 0) : Op.bytesLess a.toList b.toList = false := by
  rw [bytesLess_cmp, ByteArray.toList_eq, ByteArray.toList_eq, decide_eq_false_iff_not]; exact h

set_option maxRecDepth 100000 in
set_option maxHeartbeats 2000000 in
/-- The reference's 'Compare'. -/
theorem rcompare_any (s t : ByteArray) (w : World) (hs : s.size ≤ 100000) (ht : t.size ≤ 100000) :
    GivesB Tryd.prog 10 #[.string s, .string t] (.int .i64 (cmp (bs s) (bs t))) w := by
  have h1 := rparts_dot s w (by omega)
  have h2 := fun (W : World) => rparts_dot t W (by omega)
  have HSZ : Hid (s.size ≤ 100000 ∧ t.size ≤ 100000) := ⟨hs, ht⟩
  obtain ⟨r, hr⟩ : ∃ r, r = cmp (bs s) (bs t) := ⟨_, rfl⟩
  rw [← hr]
  unfold GivesB
  clear hs ht
  go_enter Tryd.func10, Tryd.ntmps10
  go_wp2_with fail
  refine h1.mono ?_
  rintro e w1 ⟨a, ca, x, hx, rfl, hX, _, _, hB1⟩
  have hxl := len_split hx
  clear h1
  go_wp2_with fail
  refine (h2 _).mono ?_
  rintro e w2 ⟨b, cb, y, hy, rfl, hY, _, _, hB2⟩
  have hyl := len_split hy
  have hX2 := hX.below hB2
  have hB02 := below_then' hB1 hB2
  have HR : Hid (r = cmpL cmpS (x.map bs) (y.map bs)) := by unfold Hid; rw [hr, hx, hy]; rfl
  have hn := HSZ.out
  have HLx : Hid ((x.map bs).length = x.length) := by unfold Hid; rw [List.length_map]
  have HLy : Hid ((y.map bs).length = y.length) := by unfold Hid; rw [List.length_map]
  clear hr hx hy h2 hB1 hB2 hX
  go_wp2
  go_loopg [7] x.length (fun gg s7 wr => ∃ (k : Nat), k ≤ x.length ∧ k ≤ y.length ∧ x.length - k ≤ gg ∧ s7 = .int .i64 k ∧ Below w2.heap.size w2 wr ∧ Aside (r = cmpL cmpS ((x.map bs).drop k) ((y.map bs).drop k)))
  case atStart => exact ⟨0, Nat.zero_le _, Nat.zero_le _, by omega, rfl, Below.refl _ _, show Aside _ from HR.out⟩
  case round =>
    obtain ⟨k, hk, hk', hg, rfl, hB, A⟩ := hrel
    by_cases hlt : k < x.length
    · have hltz : (k : Int) < (x.length : Int) := by omega
      by_cases hlt' : k < y.length
      · have hltz' : (k : Int) < (y.length : Int) := by omega
        obtain ⟨bx, ox, rfl, hbx, hc0⟩ := hX2.some hlt
        have hcell := (hB.cell (p := ⟨bx, ox + k, none⟩) hbx).trans hc0
        clear hc0
        have HX : Hid ((x.map bs)[k]? = some (bs x[k])) := get_bs hlt
        generalize x[k] = p at hcell HX
        obtain ⟨by', oy, rfl, hby, hc0⟩ := hY.some hlt'
        have hcell' := (hB.cell (p := ⟨by', oy + k, none⟩) hby).trans hc0
        clear hc0
        have HY : Hid ((y.map bs)[k]? = some (bs y[k])) := get_bs hlt'
        generalize y[k] = q at hcell' HY
        have hstep := cmpL_step (c := cmpS) HX.out HY.out
        have hneg := cmpS_is.neg (bs p) (bs q)
        have hrng := cmpS_is.rng (bs p) (bs q)
        by_cases hq : cmpS (bs p) (bs q) < 0
        · have hl := less_of hq
          have HV : Hid (-1 = r) := by unfold Hid; rw [A.out, hstep, if_neg (by omega)]; omega
          clear hq hstep hneg hrng
          go_wp2
          go_quiet (fail)
          go_wp2
          go_ret
          exact ⟨ret_int HV.out, below_then' hB02 (Go.below_drewN hB _)⟩
        · have hl := less_not hq
          by_cases hq2 : cmpS (bs q) (bs p) < 0
          · have hl2 := less_of hq2
            have HV : Hid (1 = r) := by unfold Hid; rw [A.out, hstep, if_neg (by omega)]; omega
            have hne : (!p.toList == q.toList) = true := by
              rw [ByteArray.toList_eq, ByteArray.toList_eq, Bool.not_eq_true', beq_eq_false_iff_ne]
              intro e
              have := (cmpS_is.eq (bs p) (bs q)).2 e
              omega
            clear hq hstep hneg hrng hq2
            go_wp2
            go_quiet (fail)
            go_wp2
            go_quiet (fail)
            go_wp2
            go_ret
            exact ⟨ret_int HV.out, below_then' hB02 (Go.below_drewN (Go.below_drewN hB _) _)⟩
          · have hl2 := less_not hq2
            have HV : Hid (r = cmpL cmpS ((x.map bs).drop (k + 1)) ((y.map bs).drop (k + 1))) := by unfold Hid; rw [A.out, hstep, if_pos (by omega)]
            have hne : (!p.toList == q.toList) = false := by
              rw [ByteArray.toList_eq, ByteArray.toList_eq, Bool.not_eq_false', beq_iff_eq]
              exact (cmpS_is.eq (bs p) (bs q)).1 (by omega)
            clear hq hstep hneg hrng hq2
            go_wp2
            go_quiet (fail)
            go_wp2
            go_quiet (fail)
            go_wp2
            go_roundg (x.length - (k + 1))
            case measure => omega
            case rel => exact ⟨k + 1, by omega, by omega, by omega, by go_num, Go.below_drewN hB _, by unfold Aside; exact HV.out⟩
      · have hltz' : ¬ (k : Int) < (y.length : Int) := by omega
        have h3 : ¬ (x.length : Int) < (y.length : Int) := by omega
        have h4 : (y.length : Int) < (x.length : Int) := by omega
        have HV : Hid (1 = r) := by
          unfold Hid
          rw [A.out, List.drop_eq_getElem_cons (show k < (x.map bs).length by rw [HLx.out]; exact hlt), List.drop_of_length_le (show (y.map bs).length ≤ k by rw [HLy.out]; omega)]; rfl
        go_wp2
        go_ret
        exact ⟨ret_int HV.out, below_then' hB02 hB⟩
    · have hltz : ¬ (k : Int) < (x.length : Int) := by omega
      by_cases hlt' : k < y.length
      · have h3 : (x.length : Int) < (y.length : Int) := by omega
        have HV : Hid (-1 = r) := by unfold Hid; rw [A.out, cmpL_right (by rw [HLx.out]; omega) (by rw [HLy.out]; omega)]
        go_wp2
        go_ret
        exact ⟨ret_int HV.out, below_then' hB02 hB⟩
      · have h3 : ¬ (x.length : Int) < (y.length : Int) := by omega
        have h4 : ¬ (y.length : Int) < (x.length : Int) := by omega
        have HV : Hid (0 = r) := by unfold Hid; rw [A.out, cmpL_both (by rw [HLx.out]; omega) (by rw [HLy.out]; omega)]
        go_wp2
        go_ret
        exact ⟨ret_int HV.out, below_then' hB02 hB⟩
end Go.Proofs.YtbgkepdnemgkdaaDoor
