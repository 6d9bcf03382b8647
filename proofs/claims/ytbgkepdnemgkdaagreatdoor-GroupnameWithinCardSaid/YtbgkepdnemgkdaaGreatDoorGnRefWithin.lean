/- Walk of the reference Within, for strings of at most 100000 bytes. -/
import Derived.Test.YtbgkepdnemgkdaaGreatDoorGnWalkU
import Derived.Test.YtbgkepdnemgkdaaGreatDoorGnWalkM
namespace Go.Proofs.YtbgkepdnemgkdaaGreatDoor
open Go.RowKit Go.Gn

theorem text_take_eq {s h : Str} (hle : (parts 46 h).length ≤ (parts 46 s).length) : (text 46 ((parts 46 s).take (parts 46 h).length) = h) ↔ below s h = true := by
  unfold below
  rw [List.isPrefixOf_iff_prefix]
  have hne := parts_ne_nil 46 h
  have h0 : (parts 46 h).length ≠ 0 := fun e => hne (List.eq_nil_of_length_eq_zero e)
  constructor
  · intro e
    have h1 := congrArg (parts 46) e
    rw [parts_text] at h1
    · rw [← h1]; exact List.take_prefix _ _
    · intro e'
      have := congrArg List.length e'
      rw [List.length_take, List.length_nil] at this
      omega
    · intro p hp
      exact mem_parts_not 46 s p (List.mem_of_mem_take hp)
  · intro hp
    rw [← List.prefix_iff_eq_take.1 hp, text_parts]

theorem below_len {s h : Str} (hle : ¬ (parts 46 h).length ≤ (parts 46 s).length) : below s h = false := by
  unfold below
  rw [← Bool.not_eq_true, List.isPrefixOf_iff_prefix]
  intro hp
  exact hle hp.length_le

theorem text_take_len (s : Str) (k : Nat) : (text 46 ((parts 46 s).take k)).length ≤ s.length := by
  have : ∀ (L : List Str) (k : Nat), (text 46 (L.take k)).length ≤ (text 46 L).length := by
    intro L
    induction L with
    | nil => intro k; simp [text]
    | cons p L ih =>
      intro k
      cases k with
      | zero => simp [text]
      | succ k =>
        have h1 := ih k
        rw [List.take_succ_cons]
        by_cases e : L.take k = []
        · rw [e]
          by_cases e2 : L = []
          · rw [e2]; exact Nat.le_refl _
          · rw [text_cons _ _ _ e2, List.length_append]
            show p.length ≤ _
            omega
        · have e2 : L ≠ [] := by intro e2; rw [e2] at e; exact e (by simp)
          rw [text_cons _ _ _ e, text_cons _ _ _ e2, List.length_append, List.length_append, List.length_cons, List.length_cons]
          omega
  have h := this (parts 46 s) k
  rwa [text_parts] at h

set_option maxRecDepth 100000 in
set_option maxHeartbeats 1000000 in
/-- The reference's 'Within'. -/
theorem rwithin_any (s h : ByteArray) (w : World) (hs : s.size ≤ 100000) (hh : h.size ≤ 100000) :
    GivesB Tryz.prog 26 #[.string s, .string h] (.bool (withinB (bs s) (bs h))) w := by
  have hC := fun (W : World) => rcheck_any s W (by omega)
  have hC2 := fun (W : World) => rcheck_any h W (by omega)
  have hP := fun (W : World) => rparts_dot s W (by omega)
  have hP2 := fun (W : World) => rparts_dot h W (by omega)
  unfold GivesB at *
  by_cases h1 : check (bs s) = 0
  · rw [h1] at hC
    by_cases h2 : check (bs h) = 0
    · rw [h2] at hC2
      have HW : Hid (withinB (bs s) (bs h) = below (bs s) (bs h)) := by unfold Hid withinB; simp [h1, h2]
      rw [HW.out]
      have HH := Lib.hid hh
      have HSs := Lib.hid hs
      clear h1 h2 hs hh
      go_enter Tryz.func26, Tryz.ntmps26
      go_wp2_with fail
      refine (hC _).mono ?_
      rintro e w1 ⟨rfl, hb1⟩
      go_wp2_with fail
      refine (hC2 _).mono ?_
      rintro e w2 ⟨rfl, hb2⟩
      have hb2 := below_then' hb1 hb2
      go_wp2_with fail
      refine (hP _).mono ?_
      rintro e w3 ⟨a, ca, x, hx, rfl, hX, hxc, hcm, hb3⟩
      have hxl := len_split hx
      have HX := Lib.hid hx
      have hb3 := below_then' hb2 hb3
      clear hx
      go_wp2_with fail
      refine (hP2 _).mono ?_
      rintro e w4 ⟨b, cb, y, hy, rfl, hY, hyc, hym, hb4⟩
      have hX4 := hX.below hb4
      have hyl := len_split hy
      have HY := Lib.hid hy
      have hb4 := below_then' hb3 hb4
      have HLx : Hid ((parts 46 (bs s)).length = x.length) := by unfold Hid; rw [← HX.out, List.length_map]
      have HLy : Hid ((parts 46 (bs h)).length = y.length) := by unfold Hid; rw [← HY.out, List.length_map]
      clear hy hC hC2 hP hP2 hX
      have hns := HSs.out
      have hnh := HH.out
      by_cases hle : y.length ≤ x.length
      · have hz : ¬ (x.length : Int) < (y.length : Int) := by omega
        go_wp2_with fail
        have htk : (x.take y.length).map bs = (parts 46 (bs s)).take (parts 46 (bs h)).length := by rw [List.map_take, HX.out, HLy.out]
        have htx := rtext_any a y.length ca (x.take y.length) 46 w4 (by rw [List.length_take]; omega) (by omega) (hX4.take _) (by
          rw [htk]; exact Nat.le_trans (text_take_len (bs s) _) (by rw [len_bs]; omega))
        rw [htk] at htx
        refine htx.mono ?_
        clear htx
        rintro e w5 ⟨rfl, rfl⟩
        have HE : Hid (((mkS (text 46 ((parts 46 (bs s)).take (parts 46 (bs h)).length))).toList == h.toList) = below (bs s) (bs h)) := by
          unfold Hid
          rw [ByteArray.toList_eq, ByteArray.toList_eq, Bool.eq_iff_iff, beq_iff_eq]
          exact text_take_eq (by rw [HLx.out, HLy.out]; exact hle)
        generalize mkS (text 46 ((parts 46 (bs s)).take (parts 46 (bs h)).length)) = tt at HE ⊢
        go_wp2_with fail
        go_ret
        exact ⟨ret_bool HE.out, hb4⟩
      · have hz : (x.length : Int) < (y.length : Int) := by omega
        have HE : Hid (false = below (bs s) (bs h)) := (below_len (by rw [HLx.out, HLy.out]; exact hle)).symm
        go_wp2_with fail
        go_ret
        exact ⟨ret_bool HE.out, hb4⟩
    · have HW : Hid (false = withinB (bs s) (bs h)) := within_no2 s h h2
      rw [← HW.out]
      generalize check (bs h) = k at *
      have hk : ((k : Int) != 0) = true := by simp; omega
      clear h1 h2 hs hh
      go_enter Tryz.func26, Tryz.ntmps26
      go_wp2_with fail
      refine (hC _).mono ?_
      rintro e w1 ⟨rfl, hb1⟩
      go_wp2_with fail
      refine (hC2 _).mono ?_
      rintro e w2 ⟨rfl, hb2⟩
      go_wp2_with fail
      go_ret
      exact ⟨rfl, below_then' hb1 hb2⟩
  · have HW : Hid (false = withinB (bs s) (bs h)) := within_no1 s h h1
    rw [← HW.out]
    generalize check (bs s) = k at *
    have hk : ((k : Int) != 0) = true := by simp; omega
    clear h1 hs hh
    go_enter Tryz.func26, Tryz.ntmps26
    go_wp2_with fail
    refine (hC _).mono ?_
    rintro e w1 ⟨rfl, hb1⟩
    go_wp2_with fail
    go_ret
    exact ⟨rfl, hb1⟩
end Go.Proofs.YtbgkepdnemgkdaaGreatDoor
