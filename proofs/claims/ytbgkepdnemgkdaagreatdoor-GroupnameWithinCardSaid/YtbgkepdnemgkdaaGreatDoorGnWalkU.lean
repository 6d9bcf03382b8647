/- Walk of the law helper short. -/
import Derived.Test.YtbgkepdnemgkdaaGreatDoorGnWalkT
namespace Go.Proofs.YtbgkepdnemgkdaaGreatDoor
open Go.RowKit Go.Gn

/-- At most 60 strings of at most 120 bytes. -/
def shortB (L : List Str) : Bool := decide (L.length ≤ 60) && L.all fun s => decide (s.length ≤ 120)

theorem shortB_true {L : List Str} (h : shortB L = true) : L.length ≤ 60 ∧ ∀ s ∈ L, s.length ≤ 120 := by
  unfold shortB at h
  rw [Bool.and_eq_true, decide_eq_true_eq, List.all_eq_true] at h
  exact ⟨h.1, fun s hs => by simpa using h.2 s hs⟩
theorem shortB_long {L : List Str} (h : ¬ L.length ≤ 60) : shortB L = false := by unfold shortB; simp [h]
theorem shortB_all {L : List Str} (h : L.length ≤ 60) : shortB L = L.all fun s => decide (s.length ≤ 120) := by unfold shortB; simp [h]
theorem short_stop {L : List Str} {k : Nat} {x : Str} (hx : L[k]? = some x) (h : ¬ x.length ≤ 120) : ((L.drop k).all fun s => decide (s.length ≤ 120)) = false := by
  rw [drop_at hx]; simp [h]
theorem short_step {L : List Str} {k : Nat} {x : Str} (hx : L[k]? = some x) (h : x.length ≤ 120) : ((L.drop k).all fun s => decide (s.length ≤ 120)) = ((L.drop (k + 1)).all fun s => decide (s.length ≤ 120)) := by
  rw [drop_at hx]; simp [h]

set_option maxRecDepth 100000 in
set_option maxHeartbeats 1000000 in
/-- The law's 'short'. -/
theorem short_any (a : Option Addr) (n c : Nat) (zs : List ByteArray) (w : World) (hn : zs.length = n) (hS : SS w a zs) :
    GivesB Tryz.prog 10 #[.slice a n c] (.bool (shortB (zs.map bs))) w := by
  unfold GivesB
  by_cases h60 : n ≤ 60
  · have HL : Hid ((zs.map bs).length = n) := by unfold Hid; rw [List.length_map]; exact hn
    have HN := Lib.hid hn
    obtain ⟨r, hr⟩ : ∃ r, r = shortB (zs.map bs) := ⟨_, rfl⟩
    have HR : Hid (r = (zs.map bs).all fun s => decide (s.length ≤ 120)) := by unfold Hid; rw [hr, shortB_all (by rw [HL.out]; exact h60)]
    rw [← hr]
    clear hr
    have hz : ¬ (60 : Int) < (n : Int) := by omega
    clear hn
    go_enter Tryz.func10, Tryz.ntmps10
    go_wp2
    go_loopg [3] n (fun gg s3 wr => ∃ (k : Nat), k ≤ n ∧ n - k ≤ gg ∧ s3 = .int .i64 k ∧ Below w.heap.size w wr ∧ Aside (r = ((zs.map bs).drop k).all fun s => decide (s.length ≤ 120)))
    case atStart => exact ⟨0, Nat.zero_le _, by omega, rfl, Below.refl _ _, show Aside _ from HR.out⟩
    case round =>
      obtain ⟨k, hk, hg, rfl, hB, A⟩ := hrel
      by_cases hlt : k < n
      · have hltz : (k : Int) < (n : Int) := by omega
        have hkz : k < zs.length := by rw [HN.out]; exact hlt
        obtain ⟨b, off, rfl, hb, hcell0⟩ := hS.some hkz
        have hcell := (hB.cell (p := ⟨b, off + k, none⟩) hb).trans hcell0
        clear hcell0
        have HX : Hid ((zs.map bs)[k]? = some (bs zs[k])) := get_bs hkz
        generalize zs[k] = x at hcell HX
        by_cases hq : x.size ≤ 120
        · have hqz : ¬ (120 : Int) < (x.size : Int) := by omega
          have HQ : Hid ((bs x).length ≤ 120) := by unfold Hid; rw [len_bs]; exact hq
          clear hq
          go_wp2
          go_roundg (n - (k + 1))
          case measure => omega
          case rel => exact ⟨k + 1, by omega, by omega, by go_num, hB, by unfold Aside; rw [A.out, short_step HX.out HQ.out]⟩
        · have hqz : (120 : Int) < (x.size : Int) := by omega
          have HQ : Hid (¬ (bs x).length ≤ 120) := by unfold Hid; rw [len_bs]; exact hq
          clear hq
          go_wp2
          go_ret
          exact ⟨ret_bool (by rw [A.out, short_stop HX.out HQ.out]), hB⟩
      · have hltz : ¬ (k : Int) < (n : Int) := by omega
        go_wp2
        go_ret
        refine ⟨ret_bool ?_, hB⟩
        rw [A.out, List.drop_of_length_le (by rw [HL.out]; omega)]; rfl
  · have HF : Hid (shortB (zs.map bs) = false) := shortB_long (by rw [List.length_map, hn]; exact h60)
    have hz : (60 : Int) < (n : Int) := by omega
    clear hn
    go_enter Tryz.func10, Tryz.ntmps10
    go_wp2
    go_ret
    exact ⟨ret_bool HF.out.symm, Below.refl _ _⟩
end Go.Proofs.YtbgkepdnemgkdaaGreatDoor
