/- Walk of the law helper same. -/
import Derived.Test.YtbgkepdnemgkdaaGreatDoorGnWalkR
import Derived.Deep.QuietTactic
import Derived.BigQuiet
import Derived.Deep.RegionHeld3
namespace Go.Proofs.YtbgkepdnemgkdaaGreatDoor
open Go.RowKit Go.Gn

theorem same_step {L M : List Str} {k : Nat} {x y : Str} (hx : L[k]? = some x) (hy : M[k]? = some y) (h : x = y) : decide (L.drop k = M.drop k) = decide (L.drop (k + 1) = M.drop (k + 1)) := by
  rw [drop_at hx, drop_at hy, h]; simp
theorem same_stop {L M : List Str} {k : Nat} {x y : Str} (hx : L[k]? = some x) (hy : M[k]? = some y) (h : x ≠ y) : decide (L.drop k = M.drop k) = false := by
  rw [drop_at hx, drop_at hy]; simp [h]

set_option maxRecDepth 100000 in
set_option maxHeartbeats 1000000 in
/-- The law's 'same'. -/
theorem same_any (a : Option Addr) (n c : Nat) (zs : List ByteArray) (a' : Option Addr) (n' c' : Nat) (zs' : List ByteArray) (w : World) (hn : zs.length = n) (hn' : zs'.length = n') (hN : n ≤ 1000000) (hN' : n' ≤ 1000000) (hS : SS w a zs) (hS' : SS w a' zs') :
    Calls Tryz.prog 22 #[.slice a n c, .slice a' n' c'] w fun e w' => e = .returned (.bool (decide (zs.map bs = zs'.map bs))) ∧ Below w.heap.size w w' := by
  by_cases hnn : n = n'
  · subst hnn
    have HN := Lib.hid hn
    have HN' := Lib.hid hn'
    clear hn hn'
    go_enter Tryz.func22, Tryz.ntmps22
    go_wp2
    go_loopg [5] n (fun gg s4 wr => ∃ (k : Nat), k ≤ n ∧ n - k ≤ gg ∧ s4 = .int .i64 k ∧ Below w.heap.size w wr ∧ Aside (decide (zs.map bs = zs'.map bs) = decide ((zs.map bs).drop k = (zs'.map bs).drop k)))
    case atStart => exact ⟨0, Nat.zero_le _, by omega, rfl, Below.refl _ _, show Aside _ from rfl⟩
    case round =>
      obtain ⟨k, hk, hg, rfl, hB, A⟩ := hrel
      by_cases hlt : k < n
      · have hltz : (k : Int) < (n : Int) := by omega
        have hkz : k < zs.length := by rw [HN.out]; exact hlt
        obtain ⟨b, off, rfl, hb, hcell0⟩ := hS.some hkz
        have hcell := (hB.cell (p := ⟨b, off + k, none⟩) hb).trans hcell0
        clear hcell0
        have HX : Hid ((zs.map bs)[k]? = some (bs zs[k])) := get_bs hkz
        generalize zs[k] = x at hcell HX
        have hkz' : k < zs'.length := by rw [HN'.out]; exact hlt
        obtain ⟨b', off', rfl, hb', hcell0⟩ := hS'.some hkz'
        have hcell' := (hB.cell (p := ⟨b', off' + k, none⟩) hb').trans hcell0
        clear hcell0
        have HY : Hid ((zs'.map bs)[k]? = some (bs zs'[k])) := get_bs hkz'
        generalize zs'[k] = y at hcell' HY
        by_cases hq : (!x.toList == y.toList) = true
        · have HQ : Hid (bs x ≠ bs y) := by
            unfold Hid; rw [ByteArray.toList_eq, ByteArray.toList_eq] at hq; simpa using hq
          go_wp2
          go_quiet (fail)
          go_wp2
          go_ret
          exact ⟨ret_bool (by rw [A.out, same_stop HX.out HY.out HQ.out]), Go.below_drewN hB _⟩
        · have hq' : (!x.toList == y.toList) = false := by simpa using hq
          have HQ : Hid (bs x = bs y) := by
            unfold Hid; rw [ByteArray.toList_eq, ByteArray.toList_eq] at hq'; simpa using hq'
          clear hq
          go_wp2
          go_quiet (fail)
          go_wp2
          go_roundg (n - (k + 1))
          case measure => omega
          case rel => exact ⟨k + 1, by omega, by omega, by go_num, Go.below_drewN hB _, by unfold Aside; rw [A.out, same_step HX.out HY.out HQ.out]⟩
      · have hltz : ¬ (k : Int) < (n : Int) := by omega
        go_wp2
        go_ret
        refine ⟨ret_bool ?_, hB⟩
        rw [A.out, List.drop_of_length_le (by rw [List.length_map, HN.out]; omega), List.drop_of_length_le (by rw [List.length_map, HN'.out]; omega)]; rfl
  · have hne : decide (zs.map bs = zs'.map bs) = false := by
      simp only [decide_eq_false_iff_not]
      intro e
      have := congrArg List.length e
      rw [List.length_map, List.length_map] at this
      omega
    have HNE := Lib.hid hne
    have hz : ¬ (n : Int) = (n' : Int) := by omega
    clear hne hn hn'
    go_enter Tryz.func22, Tryz.ntmps22
    go_wp2
    go_ret
    exact ⟨ret_bool HNE.out.symm, Below.refl _ _⟩
end Go.Proofs.YtbgkepdnemgkdaaGreatDoor
