/- Walk of the reference CheckList, for short lists. -/
import Derived.Test.YtbgkepdnemgkdaaGreatDoorGnWalkU
import Derived.Test.YtbgkepdnemgkdaaGreatDoorGnWalkM
import Derived.Test.YtbgkepdnemgkdaaGreatDoorGnWalkI
namespace Go.Proofs.YtbgkepdnemgkdaaGreatDoor
open Go.RowKit Go.Gn

set_option maxRecDepth 100000 in
set_option maxHeartbeats 1000000 in
/-- The reference's 'CheckList'. -/
theorem rlist_any (a : Option Addr) (n c : Nat) (zs : List ByteArray) (w : World) (hn : zs.length = n) (hN : n ≤ 1000000) (hS : SS w a zs) (hsz : ∀ x ∈ zs, x.size ≤ 1000000) :
    GivesB Tryz.prog 30 #[.slice a n c] (.int .i64 (listErr (zs.map bs) : Nat)) w := by
  have HN := Lib.hid hn
  unfold GivesB
  by_cases h20 : 20 < n
  · have hr : Hid (listErr (zs.map bs) = 9) := by unfold Hid listErr; rw [if_pos (by rw [List.length_map, hn]; exact h20)]
    rw [hr.out]
    have hz : (20 : Int) < (n : Int) := by omega
    clear hn
    go_enter Tryz.func30, Tryz.ntmps30
    go_wp2
    go_ret
    exact ⟨rfl, Below.refl _ _⟩
  · obtain ⟨r, hr⟩ : ∃ r, r = listErr (zs.map bs) := ⟨_, rfl⟩
    have HR : Hid (r = listFrom [] (zs.map bs)) := by unfold Hid; rw [hr]; unfold listErr; rw [if_neg (by rw [List.length_map, hn]; exact h20)]
    rw [← hr]
    have hz : ¬ (20 : Int) < (n : Int) := by omega
    clear hn hr
    go_enter Tryz.func30, Tryz.ntmps30
    go_wp2
    go_loopg [3] n (fun gg s3 wr => ∃ (k : Nat), k ≤ n ∧ n - k ≤ gg ∧ s3 = .int .i64 k ∧ Below w.heap.size w wr ∧ Aside (r = listFrom ((zs.map bs).take k) ((zs.map bs).drop k)))
    case atStart => exact ⟨0, Nat.zero_le _, by omega, rfl, Below.refl _ _, show Aside _ from HR.out⟩
    case round =>
      obtain ⟨k, hk, hg, rfl, hB, A⟩ := hrel
      by_cases hlt : k < n
      · have hltz : (k : Int) < (n : Int) := by omega
        have hkz : k < zs.length := by rw [HN.out]; exact hlt
        have hy := hsz _ (List.getElem_mem hkz)
        have HG : Hid ((zs.map bs)[k]? = some (bs zs[k])) := get_bs hkz
        obtain ⟨b, off, rfl, hb, hcell0⟩ := hS.some hkz
        have HSS : Hid (∀ j (hj : j < zs.length), w.cell? ⟨b, off + j, none⟩ = some (.string zs[j])) := by
          intro j hj
          obtain ⟨b', off', e, _, hc⟩ := hS.some hj
          injection e with e
          injection e with e1 e2
          rw [e1, e2]; exact hc
        have hcell := (hB.cell (p := ⟨b, off + k, none⟩) hb).trans hcell0
        have HC0 := Lib.hid hcell0
        have hcall := rcheck_any zs[k] wr (by omega)
        unfold GivesB at hcall
        clear hcell0 hS hsz
        generalize zs[k] = y at hcell HG hy hcall HC0
        by_cases hq : check (bs y) = 0
        · rw [hq] at hcall
          have HQ := Lib.hid hq
          clear hq
          go_wp2_with (go_at_call 16; refine hcall.mono ?_; rintro e w2 ⟨rfl, hb2⟩)
          have hB2 := below_then' hB hb2
          clear hb2 hcall hcell
          go_loopg [5] k (fun gg s5 wi => ∃ (j : Nat), j ≤ k ∧ k - j ≤ gg ∧ s5 = .int .i64 j ∧ Below w.heap.size w wi ∧ Aside (∀ m (hm : m < zs.length), m < j → bs zs[m] ≠ bs y))
          case atStart => exact ⟨0, Nat.zero_le _, by omega, rfl, hB2, show Aside _ from fun m _ h => absurd h (Nat.not_lt_zero _)⟩
          case round =>
            obtain ⟨j, hj, hg2, rfl, hBi, A2⟩ := hrel
            have hcy := (hBi.cell (p := ⟨b, off + k, none⟩) hb).trans HC0.out
            by_cases hlt2 : j < k
            · have hltz2 : (j : Int) < (k : Int) := by omega
              have hjz : j < zs.length := by omega
              have hcx := (hBi.cell (p := ⟨b, off + j, none⟩) hb).trans (HSS.out j hjz)
              have HX : Hid (∀ m (hm : m < zs.length), m = j → bs zs[m] = bs zs[j]) := by intro m hm e; subst e; rfl
              have HM : Hid (bs zs[j] ∈ (zs.map bs).take k) := by
                rw [List.mem_take_iff_getElem]
                exact ⟨j, by rw [List.length_map]; omega, by rw [List.getElem_map]⟩
              generalize zs[j] = x at hcx HX HM
              by_cases he : (x.toList == y.toList) = true
              · have HV : Hid (7 = (r : Int)) := by
                  unfold Hid
                  rw [ByteArray.toList_eq, ByteArray.toList_eq, beq_iff_eq] at he
                  rw [A.out, drop_at HG.out, listFrom_twice HQ.out (by rw [← show bs x = bs y from he]; exact HM.out)]; rfl
                have he' := he
                clear he hltz2
                have hltz2 : (j : Int) < (k : Int) := by omega
                go_wp2
                go_quiet (fail)
                go_wp2
                go_ret
                exact ⟨ret_int HV.out, below_drewN hBi _⟩
              · have he' : (x.toList == y.toList) = false := by simpa using he
                have HNE : Hid (bs x ≠ bs y) := by
                  unfold Hid
                  rw [ByteArray.toList_eq, ByteArray.toList_eq, beq_eq_false_iff_ne] at he'
                  exact he'
                clear he
                go_wp2
                go_quiet (fail)
                go_wp2
                go_roundg (k - (j + 1))
                case measure => omega
                case rel =>
                  refine ⟨j + 1, by omega, by omega, by go_num, below_drewN hBi _, show Aside _ from fun m hm hlt3 => ?_⟩
                  by_cases e : m = j
                  · rw [HX.out m hm e]; exact HNE.out
                  · exact A2.out m hm (by omega)
            · have hltz2 : ¬ (j : Int) < (k : Int) := by omega
              have HNM : Hid (bs y ∉ (zs.map bs).take k) := by
                unfold Hid
                intro hmem
                rw [List.mem_take_iff_getElem] at hmem
                obtain ⟨m, hm, e⟩ := hmem
                rw [List.length_map] at hm
                rw [List.getElem_map] at e
                exact A2.out m (by omega) (by omega) e
              go_wp2
              go_roundg (n - (k + 1))
              case measure => omega
              case rel =>
                refine ⟨k + 1, by omega, by omega, by go_num, hBi, ?_⟩
                unfold Aside
                rw [A.out, drop_at HG.out, listFrom_on HQ.out HNM.out, take_at HG.out]
        · have HV : Hid ((check (bs y) : Int) = (r : Int)) := by unfold Hid; rw [A.out, drop_at HG.out, listFrom_stop hq]
          obtain ⟨q, hqe⟩ : ∃ q, q = check (bs y) := ⟨_, rfl⟩
          rw [← hqe] at hq hcall HV
          have hkk : ((q : Int) != 0) = true := by simp; omega
          clear hq hqe
          go_wp2_with (go_at_call 16; refine hcall.mono ?_; rintro e w2 ⟨rfl, hb2⟩)
          go_ret
          exact ⟨ret_int HV.out, below_then' hB hb2⟩
      · have hltz : ¬ (k : Int) < (n : Int) := by omega
        have HV : Hid ((0 : Int) = (r : Int)) := by unfold Hid; rw [A.out, List.drop_of_length_le (by rw [List.length_map, HN.out]; omega)]; rfl
        go_wp2
        go_ret
        exact ⟨ret_int HV.out, hB⟩
end Go.Proofs.YtbgkepdnemgkdaaGreatDoor
