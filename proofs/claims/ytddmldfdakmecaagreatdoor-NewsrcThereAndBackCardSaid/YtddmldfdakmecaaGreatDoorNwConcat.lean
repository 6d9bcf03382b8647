/- Walk of slices.Concat at two slices of newsrc.Range. -/
import Derived.Test.YtddmldfdakmecaaGreatDoorNwEqual
import Derived.Test.YtddmldfdakmecaaGreatDoorNwSort1
import Derived.Test.YtddmldfdakmecaaGreatDoorShelfC
namespace Go.Proofs.YtddmldfdakmecaaGreatDoor
open Go.RowKit Go.Gn Go.El Go.Nw

theorem growR_any (n : Nat) (w : World) (hn : n ≤ 1000000) :
    Calls Tryz.prog 133 #[.slice none 0 0, .int .i64 n] w fun e w' => ∃ v, e = .returned v ∧ OE TR w' w.heap.size v [] ∧ Below w.heap.size w w' := by
  by_cases h0 : n = 0
  · subst h0
    exact (Any8.slices_Grow_room Tryz.growR none 0 0 0 w (Nat.le_refl _) (by decide) (by decide) (by decide)).mono fun e w' ⟨he, hw⟩ => ⟨_, he, OE.nil _ _ _, hw ▸ Below.refl _ _⟩
  · obtain ⟨i0, hi, hz0, hz1, hz2⟩ := info_some TR
    have hby : (0 + n) * i0.bytes ≤ 140737488355328 := by
      rw [hz2, Nat.zero_add]
      exact Nat.le_trans (Nat.mul_le_mul hn (TR).small) (by decide)
    refine (Any8.slices_Grow_grow Tryz.growR i0 (TR).zero hi hz0 (by rw [hz1]; exact (TR).kpos) none 0 0 n [] w (Nat.le_refl _) (by omega) hby (by omega) (by simp) (fun _ => rfl) (fun a h => by cases h)).mono fun e w' ⟨he, hw⟩ => ⟨_, he, ?_, ?_⟩
    · rw [hw]
      have h1 := grownCap_ge w (0 + n) 0 (TR).e
      have h2 := grownCap_le_maxLen w (0 + n) 0 (TR).e (by simp only [maxLen]; omega)
      have := own_grown TR w.drew n (grownCap w (0 + n) 0 (TR).e) (by omega) h2
      simp only [Nat.zero_add, Nat.sub_zero] at this ⊢
      exact this
    · rw [hw]
      exact (Go.below_drewN (Below.refl _ w) 1).alloc (Nat.le_refl _) _

def two (zs ys : List Rg) (k : Nat) : List Rg := if k = 0 then [] else if k = 1 then zs else zs ++ ys

set_option maxRecDepth 100000 in
set_option maxHeartbeats 1000000 in
theorem concatR_any (p : Nat) (a : Option Addr) (n c : Nat) (zs : List Rg) (a' : Option Addr) (n' c' : Nat) (ys : List Rg) (w : World) (hn : zs.length = n) (hn' : ys.length = n') (hN : n ≤ 100000) (hN' : n' ≤ 100000) (hS : RE TR w a zs) (hS' : RE TR w a' ys) (hc0 : a = none → c = 0) (hc0' : a' = none → c' = 0)
    (hp : p < w.heap.size) (h0 : w.cell? ⟨p, 0, none⟩ = some (.slice a n c)) (h1 : w.cell? ⟨p, 1, none⟩ = some (.slice a' n' c')) :
    Calls Tryz.prog 101 #[.slice (some ⟨p, 0, none⟩) 2 2] w fun e w' => ∃ v, e = .returned v ∧ OE TR w' w.heap.size v (zs ++ ys) ∧ Below w.heap.size w w' := by
  have HN := Lib.hid hn
  have HN' := Lib.hid hn'
  clear hn hn'
  go_enter Tryz.func101, Tryz.ntmps101
  go_wp2
  go_loopg [3, 11] 2 (fun gg s3 s11 wr => ∃ (k m : Nat), k ≤ 2 ∧ 2 - k ≤ gg ∧ s11 = .int .i64 k ∧ s3 = .int .i64 m ∧ wr = w ∧ m ≤ 200000 ∧ (k ≤ 1 → m ≤ 100000) ∧ (k = 0 → m = 0))
  case atStart => exact ⟨0, 0, by omega, by omega, rfl, rfl, rfl, by omega, by omega, fun _ => rfl⟩
  case round =>
    obtain ⟨k, m, hk, hg, rfl, rfl, rfl, hm, hm1, hm0⟩ := hrel
    have hcase : k = 0 ∨ k = 1 ∨ k = 2 := by omega
    rcases hcase with rfl | rfl | rfl
    · have hmz := hm0 rfl
      subst hmz
      clear hm hm1 hm0
      go_wp2
      go_roundg 1
      case measure => omega
      case rel => exact ⟨1, n, by omega, by omega, by go_num, by go_num, rfl, by omega, by omega, by omega⟩
    · have hm2 := hm1 (by omega)
      clear hm hm1 hm0
      go_wp2
      go_roundg 0
      case measure => omega
      case rel => exact ⟨2, m + n', by omega, by omega, by go_num, by go_num, rfl, by omega, by omega, by omega⟩
    · clear hm1 hm0
      obtain ⟨wo, rfl⟩ : ∃ wo : World, wo = wr := ⟨_, rfl⟩
      have hG := growR_any m wo (by omega)
      go_wp2_with fail
      refine hG.mono ?_
      clear hG
      rintro e w1 ⟨v1, rfl, hO1, hb1⟩
      have h0' := (hb1.cell (p := ⟨p, 0, none⟩) hp).trans h0
      have h1' := (hb1.cell (p := ⟨p, 1, none⟩) hp).trans h1
      have hSo := hS
      have hSo' := hS'
      clear h0 h1 hS hS'
      go_wp2
      go_loopg [6, 27] 2 (fun gg s6 s27 wq => ∃ (k : Nat) (v : Value), k ≤ 2 ∧ 2 - k ≤ gg ∧ s27 = .int .i64 k ∧ s6 = v ∧ OE TR wq wo.heap.size v (two zs ys k) ∧ Below wo.heap.size w1 wq)
      case atStart => exact ⟨0, _, by omega, by omega, rfl, rfl, hO1, Below.refl _ _⟩
      case round =>
        obtain ⟨k, v, hk, hg, rfl, rfl, hO, hB⟩ := hrel
        have hpp := (hB.cell (p := ⟨p, 0, none⟩) hp).trans h0'
        have hpq := (hB.cell (p := ⟨p, 1, none⟩) hp).trans h1'
        have hs0 : wo.heap.size ≤ wr.heap.size := Nat.le_trans hb1.size hB.size
        have hbo : Below wo.heap.size wo wr := hb1.trans hB
        have hcase : k = 0 ∨ k = 1 ∨ k = 2 := by omega
        rcases hcase with rfl | rfl | rfl
        · go_wp2_with (at_builtin; go_loud (refine El.app TR (base := wo.heap.size) hO (hSo.below hbo) HN.out hc0 (by simp [two]; omega) hs0 _ _ rfl rfl rfl rfl ?_); intro v2 w2 hO2 hG2)
          go_roundg 1
          case measure => omega
          case rel => exact ⟨1, v2, by omega, by omega, by go_num, rfl, hO2, hB.grown hG2 hs0 (fun q hq => (World.ownsRow.lt hO q hq).1)⟩
        · go_wp2_with (at_builtin; go_loud (refine El.app TR (base := wo.heap.size) hO (hSo'.below hbo) HN'.out hc0' (by simp [two, HN.out]; omega) hs0 _ _ rfl rfl rfl rfl ?_); intro v2 w2 hO2 hG2)
          go_roundg 0
          case measure => omega
          case rel => exact ⟨2, v2, by omega, by omega, by go_num, rfl, hO2, hB.grown hG2 hs0 (fun q hq => (World.ownsRow.lt hO q hq).1)⟩
        · go_wp2
          go_ret
          exact ⟨_, rfl, hO, hbo⟩
end Go.Proofs.YtddmldfdakmecaaGreatDoor
