/- Walk of the reference Component: for every string. -/
import Derived.Test.YtddmldfdakmecaaGreatDoorGnWalkJ
namespace Go.Proofs.YtddmldfdakmecaaGreatDoor
open Go.RowKit Go.Gn

theorem perm_no {x : Nat} (h : ¬ ((97 ≤ x ∧ x ≤ 122) ∨ (48 ≤ x ∧ x ≤ 57) ∨ x = 45 ∨ x = 43 ∨ x = 95)) : permitted x = false := by
  rw [← Bool.not_eq_true]; simp [permitted]; omega
theorem perm_yes {x : Nat} (h : (97 ≤ x ∧ x ≤ 122) ∨ (48 ≤ x ∧ x ≤ 57) ∨ x = 45 ∨ x = 43 ∨ x = 95) : permitted x = true := by
  simp [permitted]; omega

theorem comp_short {s : ByteArray} (h : s.size = 0) : component (bs s) = false := by
  have : bs s = [] := List.eq_nil_of_length_eq_zero (by simpa [bs] using h)
  rw [this]; rfl
theorem bs_cons (s : ByteArray) (h : 0 < s.size) : bs s = s[0] :: (bs s).drop 1 := by
  have := drop_bs s 0 h; simpa using this
theorem comp_head {s : ByteArray} (h : 0 < s.size) (hx : 20 < s.size ∨ s[0].toNat < 97 ∨ 122 < s[0].toNat) : component (bs s) = false := by
  have hl : (bs s).length = s.size := by simp [bs]
  rw [bs_cons s h] at hl ⊢
  generalize hd : (bs s).drop 1 = t at *
  rw [← component_false (c := s[0]) (cs := t) (by simp at hl; omega)]
theorem comp_loop {s : ByteArray} (h : 0 < s.size) (h20 : s.size ≤ 20) (h1 : 97 ≤ s[0].toNat) (h2 : s[0].toNat ≤ 122) (ha : ∀ j (hj : j < s.size), 1 ≤ j → permitted (s[j].toNat) = true) : component (bs s) = true := by
  have hl : (bs s).length = s.size := by simp [bs]
  rw [bs_cons s h] at hl ⊢
  rw [← component_true (by simp at hl; simp; omega) h1 h2, List.all_eq_true]
  intro x hx
  rcases List.mem_cons.1 hx with rfl | hx
  · exact perm_yes (by omega)
  · obtain ⟨j, hj⟩ := List.getElem?_of_mem hx
    rw [List.getElem?_drop] at hj
    obtain ⟨hk, e⟩ := List.getElem?_eq_some_iff.1 hj
    have hk' : 1 + j < s.size := by simpa [bs] using hk
    have := ha (1 + j) hk' (by omega)
    rw [← e]
    exact this
theorem comp_bad {s : ByteArray} {k : Nat} (hk : k < s.size) (hp : permitted (s[k].toNat) = false) : component (bs s) = false := by
  have hm : s[k] ∈ bs s := by
    have := drop_bs s k hk
    have h2 : s[k] ∈ (bs s).drop k := by rw [this]; simp
    exact List.mem_of_mem_drop h2
  cases hb : bs s with
  | nil => rfl
  | cons c cs =>
    rw [hb] at hm
    have : ((c :: cs).all fun c => permitted c.toNat) = false := by
      rw [List.all_eq_false]
      exact ⟨_, hm, by rw [hp]; simp⟩
    simp only [component, this, Bool.and_false]

set_option maxRecDepth 100000 in
set_option maxHeartbeats 2000000 in
/-- The reference's 'Component'. -/
theorem rcomponent_any (s : ByteArray) (w : World) (hs : s.size ≤ 1000000) :
    Calls Tryz.prog 121 #[.string s] w fun e w' => e = .returned (.bool (component (bs s))) ∧ w' = w := by
  by_cases h0 : s.size = 0
  · rw [comp_short h0]
    have hs0 : s.size < 1 := by omega
    clear h0
    go_enter Tryz.func121, Tryz.ntmps121
    go_wp2
    go_ret
    exact ⟨rfl, rfl⟩
  have hs0 : 0 < s.size := by omega
  by_cases h20 : 20 < s.size
  · rw [comp_head hs0 (.inl h20)]
    go_enter Tryz.func121, Tryz.ntmps121
    go_wp2
    go_ret
    exact ⟨rfl, rfl⟩
  by_cases h97 : s[0].toNat < 97
  · rw [comp_head hs0 (.inr (.inl h97))]
    go_enter Tryz.func121, Tryz.ntmps121
    go_wp2
    go_ret
    exact ⟨rfl, rfl⟩
  by_cases h122 : 122 < s[0].toNat
  · rw [comp_head hs0 (.inr (.inr h122))]
    go_enter Tryz.func121, Tryz.ntmps121
    go_wp2
    go_ret
    exact ⟨rfl, rfl⟩
  go_enter Tryz.func121, Tryz.ntmps121
  go_wp2
  have H97 := Lib.hid h97
  have H122 := Lib.hid h122
  clear h97 h122
  go_loopg [3, 4] s.size (fun gg s3 _ wr => ∃ k : Nat, 1 ≤ k ∧ k ≤ s.size ∧ s.size - k ≤ gg ∧ s3 = .int .i64 k ∧ wr = w ∧ Aside (∀ j (hj : j < s.size), 1 ≤ j → j < k → permitted (s[j].toNat) = true))
  case atStart => exact ⟨1, Nat.le_refl _, by omega, by omega, rfl, rfl, show Aside _ from fun j _ h1 h2 => by omega⟩
  case round =>
    obtain ⟨k, hk1, hk, hg, rfl, rfl, A⟩ := hrel
    by_cases hlt : k < s.size
    · have hltz : (k : Int) < (s.size : Int) := by omega
      go_wp2
      all_goals try simp only [Bool.not_eq_eq_eq_not, Bool.not_true, Bool.not_false, beq_eq_false_iff_ne, beq_iff_eq, ne_eq, decide_eq_true_eq, decide_eq_false_iff_not] at *
      all_goals first
        | (go_ret; exact ⟨ret_bool (comp_bad hlt (perm_no (by omega))).symm, rfl⟩)
        | (have hp : permitted s[k].toNat = true := perm_yes (by omega)
           have HP := Lib.hid hp
           clear hp
           go_roundg (s.size - (k + 1))
           case measure => omega
           case rel =>
             refine ⟨k + 1, by omega, by omega, by omega, by go_num, rfl, show Aside _ from fun j hj h1 h2 => ?_⟩
             by_cases e : j = k
             · subst e; exact HP.out
             · exact A.out j hj h1 (by omega))
    · have hltz : ¬ (k : Int) < (s.size : Int) := by omega
      go_wp2
      go_ret
      exact ⟨ret_bool (comp_loop hs0 (by omega) (by have := H97.out; omega) (by have := H122.out; omega) (fun j hj h1 => A.out j hj h1 (by omega))).symm, rfl⟩

end Go.Proofs.YtddmldfdakmecaaGreatDoor
