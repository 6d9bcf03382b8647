/- The reference of chapter 46: Has, Count. -/
import Derived.Test.YtddmldfdakmecaaGreatDoorNwCount
namespace Go.Proofs.YtddmldfdakmecaaGreatDoor
open Go.RowKit Go.Gn Go.El Go.Nw

set_option maxRecDepth 100000 in
set_option maxHeartbeats 1000000 in
/-- The reference's 'Has'. -/
theorem refHas_any (a : Option Addr) (n c : Nat) (zs : List Rg) (q : Int) (w : World) (hn : zs.length = n) (hN : n ≤ 1000000) (hS : RE TG w a zs) :
    Calls Tryz.prog 16 #[.slice a n c, .int .i64 q] w fun e w' => e = .returned (.bool (memB q zs)) ∧ w' = w := by
  have HN := Lib.hid hn
  clear hn
  go_enter Tryz.func16, Tryz.ntmps16
  go_wp2
  go_loopg [5] n (fun gg s5 wr => ∃ (k : Nat), k ≤ n ∧ n - k ≤ gg ∧ s5 = .int .i64 k ∧ wr = w ∧ Aside (memB q (zs.take k) = false))
  case atStart => exact ⟨0, Nat.zero_le _, by omega, rfl, rfl, show Aside _ from rfl⟩
  case round =>
    obtain ⟨k, hk, hg, rfl, rfl, A⟩ := hrel
    by_cases hlt : k < n
    · have hltz : (k : Int) < (n : Int) := by omega
      have hkz : k < zs.length := by rw [HN.out]; exact hlt
      obtain ⟨b, off, rfl, hb, hx1, hx2⟩ := RE.rg (T := TG) rfl rfl hS hkz
      have HT : Hid (memB q (zs.take (k + 1)) = (memB q (zs.take k) || (decide (zs[k].1 ≤ q) && decide (q ≤ zs[k].2)))) := by
        unfold Hid; rw [List.take_succ_eq_append_getElem hkz, memB_append, memB_cons, memB_nil, Bool.or_false]
      have HM : Hid (decide (zs[k].1 ≤ q) = true → decide (q ≤ zs[k].2) = true → memB q zs = true) := fun h1 h2 => by
        exact memB_iff.2 ⟨zs[k], List.getElem_mem hkz, of_decide_eq_true h1, of_decide_eq_true h2⟩
      generalize zs[k] = r at hx1 hx2 HT HM
      obtain ⟨x, y⟩ := r
      simp only at hx1 hx2 HT HM
      by_cases h1 : x ≤ q
      · by_cases h2 : q ≤ y
        · have HE : Hid (memB q zs = true) := HM.out (decide_eq_true h1) (decide_eq_true h2)
          go_wp2
          go_ret
          exact ⟨by rw [HE.out]; rfl, rfl⟩
        · have HE : Hid ((decide (x ≤ q) && decide (q ≤ y)) = false) := by unfold Hid; rw [decide_eq_false h2, Bool.and_false]
          go_wp2
          go_roundg (n - (k + 1))
          case measure => omega
          case rel => exact ⟨k + 1, by omega, by omega, by go_num, rfl, by unfold Aside; rw [HT.out, A.out, HE.out]; rfl⟩
      · have HE : Hid ((decide (x ≤ q) && decide (q ≤ y)) = false) := by unfold Hid; rw [decide_eq_false h1, Bool.false_and]
        go_wp2
        go_roundg (n - (k + 1))
        case measure => omega
        case rel => exact ⟨k + 1, by omega, by omega, by go_num, rfl, by unfold Aside; rw [HT.out, A.out, HE.out]; rfl⟩
    · have hltz : ¬ (k : Int) < (n : Int) := by omega
      have HE : Hid (memB q zs = false) := by unfold Hid; rw [← A.out, List.take_of_length_le (by rw [HN.out]; omega)]
      go_wp2
      go_ret
      exact ⟨by rw [HE.out]; rfl, rfl⟩

set_option maxRecDepth 100000 in
set_option maxHeartbeats 1000000 in
/-- The reference's 'Count'. -/
theorem refCount_any (a : Option Addr) (n c : Nat) (zs : List Rg) (w : World) (hn : zs.length = n) (hN : n ≤ 100000) (hS : RE TG w a zs) (hv : ∀ r ∈ zs, validB r = true) :
    GivesB Tryz.prog 17 #[.slice a n c] (.int .i64 (countL zs)) w := by
  have HN := Lib.hid hn
  have HV := Lib.hid hv
  clear hn hv
  unfold GivesB
  go_enter Tryz.func17, Tryz.ntmps17
  go_wp2
  go_loopg [3, 4] n (fun gg s3 s4 wr => ∃ (k : Nat) (m : Int), k ≤ n ∧ n - k ≤ gg ∧ s4 = .int .i64 k ∧ s3 = .int .i64 m ∧ 0 ≤ m ∧ m ≤ k * 1099511627776 ∧ Below w.heap.size w wr ∧ Aside (m = countL (zs.take k)))
  case atStart => exact ⟨0, 0, Nat.zero_le _, by omega, rfl, rfl, Int.le_refl _, by simp, Below.refl _ _, show Aside _ from rfl⟩
  case round =>
    obtain ⟨k, m, hk, hg, rfl, rfl, hm0, hm1, hB, A⟩ := hrel
    by_cases hlt : k < n
    · have hltz : (k : Int) < (n : Int) := by omega
      have hkz : k < zs.length := by rw [HN.out]; exact hlt
      obtain ⟨b, off, rfl, hb, hx1, hx2⟩ := RE.rg (T := TG) rfl rfl (hS.below hB) hkz
      have hvk := validB_iff.1 (HV.out _ (List.getElem_mem hkz))
      have HT : Hid (countL (zs.take (k + 1)) = countL (zs.take k) + (zs[k].2 - zs[k].1 + 1)) := by
        unfold Hid; rw [List.take_succ_eq_append_getElem hkz, countL_snoc]
      generalize zs[k] = r at hx1 hx2 hvk HT
      obtain ⟨x, y⟩ := r
      simp only at hx1 hx2 hvk HT
      obtain ⟨v1, v2, v3⟩ := hvk
      have s1 : IntKind.i64.wrap (m + y) = m + y := IntWalk.i64_in _ (by omega)
      have s2 : IntKind.i64.wrap (m + y - x) = m + y - x := IntWalk.i64_in _ (by omega)
      have s3 : IntKind.i64.wrap (m + y - x + 1) = m + y - x + 1 := IntWalk.i64_in _ (by omega)
      go_wp2
      go_quiet (fail)
      clear s1 s2 s3
      go_wp2
      go_roundg (n - (k + 1))
      case measure => omega
      case rel => exact ⟨k + 1, m + y - x + 1, by omega, by omega, by go_num, rfl, by omega, by omega, Go.below_drewN hB _, by unfold Aside; rw [HT.out, A.out]; omega⟩
    · have hltz : ¬ (k : Int) < (n : Int) := by omega
      go_wp2
      go_ret
      refine ⟨ret_int ?_, hB⟩
      rw [A.out, List.take_of_length_le (by rw [HN.out]; omega)]
end Go.Proofs.YtddmldfdakmecaaGreatDoor
