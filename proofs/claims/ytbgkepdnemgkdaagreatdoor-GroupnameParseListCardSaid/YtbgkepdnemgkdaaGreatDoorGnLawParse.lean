/- Walk of the law GroupnameParseList: for every string it returns true, where the library cell MaxLen holds some number. -/
import Derived.Test.YtbgkepdnemgkdaaGreatDoorGnRefList
namespace Go.Proofs.YtbgkepdnemgkdaaGreatDoor
open Go.RowKit Go.Gn

set_option maxRecDepth 100000 in
set_option maxHeartbeats 1000000 in
theorem lawparse_long (s : ByteArray) (w : World) (hM : ML w) (h : 2000 < s.size) : GivesB Tryz.prog 7 #[.string s] (.bool true) w := by
  have hz : (2000 : Int) < (s.size : Int) := by omega
  have hK := fun (W : World) (hb : Below w.heap.size w W) => known_any W (hM.below hb)
  unfold GivesB at hK ⊢
  clear h hM
  go_enter Tryz.func7, Tryz.ntmps7
  go_wp2_with fail
  refine (hK _ (Below.refl _ _)).mono ?_
  rintro e w1 ⟨rfl, hb1⟩
  go_wp2_with fail
  refine (hK _ hb1).mono ?_
  rintro e w2 ⟨rfl, hb2⟩
  go_wp2_with fail
  go_ret
  exact ⟨rfl, below_then' hb1 hb2⟩

set_option maxRecDepth 100000 in
set_option maxHeartbeats 1000000 in
theorem lawparse_empty (w : World) (hM : ML w) : GivesB Tryz.prog 7 #[.string ⟨#[]⟩] (.bool true) w := by
  have hK := known_any w hM
  have hP := fun (W : World) => parse_empty W
  have hR := fun (W : World) => rparts_comma ⟨#[]⟩ W (by decide)
  unfold GivesB at *
  go_enter Tryz.func7, Tryz.ntmps7
  go_wp2_with fail
  refine hK.mono ?_
  rintro e w1 ⟨rfl, hb1⟩
  go_wp2_with fail
  refine (hP _).mono ?_
  rintro e w2 ⟨rfl, hb2⟩
  have hb2 := below_then' hb1 hb2
  go_wp2_with fail
  refine (hR _).mono ?_
  rintro e w3 ⟨a, ca, x, hx, rfl, hX, hxc, hcm, hb3⟩
  have hb3 := below_then' hb2 hb3
  have hxl := len_split hx
  have hx0 : ByteArray.size ⟨#[]⟩ = 0 := rfl
  have hsz : ∀ y ∈ x, y.size ≤ 1000000 := fun y hy => Nat.le_trans (size_mem_parts hx y hy) (by decide)
  clear hx hK hP hR
  have hL := rlist_any a x.length ca x w3 rfl (by omega) hX hsz
  unfold GivesB at hL
  clear hsz hX
  go_wp2_with fail
  refine hL.mono ?_
  clear hL
  rintro e w4 ⟨rfl, hb4⟩
  go_wp2_with fail
  go_ret
  exact ⟨rfl, below_then' hb3 hb4⟩

set_option maxRecDepth 100000 in
set_option maxHeartbeats 1000000 in
theorem lawparse_bad (s : ByteArray) (w : World) (hM : ML w) (h : ¬ 2000 < s.size) (h0 : s.toList.isEmpty = false) (hq : listErr (parts 44 (bs s)) ≠ 0) : GivesB Tryz.prog 7 #[.string s] (.bool true) w := by
  have hz : ¬ (2000 : Int) < (s.size : Int) := by omega
  have hK := known_any w hM
  have hP := fun (W : World) (hb : Below w.heap.size w W) => parse_any s W h0 (by omega) (hM.below hb)
  have hR := fun (W : World) => rparts_comma s W (by omega)
  obtain ⟨k, hke⟩ : ∃ k, k = listErr (parts 44 (bs s)) := ⟨_, rfl⟩
  have HK := Lib.hid hke
  rw [← hke] at hq
  have hk : ((k : Int) != 0) = true := by simp; omega
  have HS2 : Hid (s.size ≤ 2000) := by unfold Hid; omega
  have HQ := Lib.hid hq
  unfold GivesB at *
  clear hM hke hq
  go_enter Tryz.func7, Tryz.ntmps7
  go_wp2_with fail
  refine hK.mono ?_
  rintro e w1 ⟨rfl, hb1⟩
  go_wp2_with fail
  refine (hP _ hb1).mono ?_
  rintro e w2 ⟨l, b, hl, rfl, hSl, hb2⟩
  have hb2 := below_then' hb1 hb2
  rw [← HK.out, show listV (some ⟨b, 0, none⟩) l.length l.length k = .slice none 0 0 from by rw [listV, if_neg HQ.out]]
  clear hl hSl
  go_wp2_with fail
  refine (hR _).mono ?_
  rintro e w3 ⟨a, ca, x, hx, rfl, hX, hxc, hcm, hb3⟩
  have hb3 := below_then' hb2 hb3
  have hxl := len_split hx
  have hs2 := HS2.out
  have hsz : ∀ y ∈ x, y.size ≤ 1000000 := fun y hy => Nat.le_trans (size_mem_parts hx y hy) (by omega)
  have hL := rlist_any a x.length ca x w3 rfl (by omega) hX hsz
  rw [hx, ← HK.out] at hL
  unfold GivesB at hL
  clear hsz hX hx hK hP hR
  go_wp2_with fail
  refine hL.mono ?_
  clear hL
  rintro e w4 ⟨rfl, hb4⟩
  go_wp2_with fail
  go_ret
  exact ⟨rfl, below_then' hb3 hb4⟩

set_option maxRecDepth 100000 in
set_option maxHeartbeats 1000000 in
theorem lawparse_ok (s : ByteArray) (w : World) (hM : ML w) (h : ¬ 2000 < s.size) (h0 : s.toList.isEmpty = false) (hq : listErr (parts 44 (bs s)) = 0) : GivesB Tryz.prog 7 #[.string s] (.bool true) w := by
  have hz : ¬ (2000 : Int) < (s.size : Int) := by omega
  have hK := known_any w hM
  have hP := fun (W : World) (hb : Below w.heap.size w W) => parse_any s W h0 (by omega) (hM.below hb)
  have hR := fun (W : World) => rparts_comma s W (by omega)
  have HK := Lib.hid hq
  have HS2 : Hid (s.size ≤ 2000) := by unfold Hid; omega
  have HM := Lib.hid hM
  unfold GivesB at *
  clear hM hq
  go_enter Tryz.func7, Tryz.ntmps7
  go_wp2_with fail
  refine hK.mono ?_
  rintro e w1 ⟨rfl, hb1⟩
  go_wp2_with fail
  refine (hP _ hb1).mono ?_
  rintro e w2 ⟨l, b, hl, rfl, hSl, hb2⟩
  have hb2 := below_then' hb1 hb2
  rw [HK.out, listV_zero]
  have HLL := Lib.hid hl
  have hll := len_split hl
  clear hl
  go_wp2_with fail
  refine (hR _).mono ?_
  rintro e w3 ⟨a, ca, x, hx, rfl, hX, hxc, hcm, hb3⟩
  have hSl3 := hSl.below hb3
  have hb3 := below_then' hb2 hb3
  have hxl := len_split hx
  have hs2 := HS2.out
  have hsz : ∀ y ∈ x, y.size ≤ 1000000 := fun y hy => Nat.le_trans (size_mem_parts hx y hy) (by omega)
  have hL := rlist_any a x.length ca x w3 rfl (by omega) hX hsz
  rw [hx, HK.out] at hL
  unfold GivesB at hL
  have HX := Lib.hid hx
  clear hsz hx hK hP hR hSl
  go_wp2_with fail
  refine hL.mono ?_
  clear hL
  rintro e w4 ⟨rfl, hb4⟩
  have hX4 := hX.below hb4
  have hSl4 := hSl3.below hb4
  have hb4 := below_then' hb3 hb4
  have hl0 : 0 < l.length := by
    rw [← List.length_map (f := bs), HLL.out]
    exact List.length_pos_iff.2 (parts_ne_nil _ _)
  have hF := format_any (some ⟨b, 0, none⟩) l.length l.length l w4 rfl hl0 (Nat.le_refl _) (by omega) hSl4 (fun y hy => Nat.le_trans (size_mem_parts HLL.out y hy) (by omega)) (by rw [HLL.out, text_parts, len_bs]; omega) (HM.out.below hb4) (by omega)
  rw [HLL.out, formatStr, HK.out, if_pos rfl, text_parts, mk_bs] at hF
  unfold GivesB at hF
  clear hX hSl3
  go_wp2_with fail
  refine hF.mono ?_
  clear hF
  rintro e w5 ⟨rfl, hb5⟩
  have hX5 := hX4.below hb5
  have hSl5 := hSl4.below hb5
  have hb5 := below_then' hb4 hb5
  clear hX4 hSl4
  go_wp2_with fail
  have hsm := same_any (some ⟨b, 0, none⟩) l.length l.length l a x.length ca x w5 rfl rfl (by omega) (by omega) hSl5 hX5
  rw [decide_eq_true (show l.map bs = x.map bs by rw [HLL.out, HX.out])] at hsm
  refine hsm.mono ?_
  clear hsm
  rintro e w6 ⟨rfl, hb6⟩
  have hb6 := below_then' hb5 hb6
  go_wp2_with fail
  go_ret
  exact ⟨rfl, hb6⟩

theorem lawparse_any (s : ByteArray) (w : World) (hM : ML w) : GivesB Tryz.prog 7 #[.string s] (.bool true) w := by
  by_cases h : 2000 < s.size
  · exact lawparse_long s w hM h
  · by_cases h0 : bs s = []
    · have e1 : s = ⟨#[]⟩ := by rw [← mk_bs s, h0]
      rw [e1]; exact lawparse_empty w hM
    · have h0' : s.toList.isEmpty = false := by
        rw [ByteArray.toList_eq]
        cases hc : s.data.toList with
        | nil => exact absurd hc h0
        | cons x y => rfl
      by_cases hq : listErr (parts 44 (bs s)) = 0
      · exact lawparse_ok s w hM h h0' hq
      · exact lawparse_bad s w hM h h0' hq
end Go.Proofs.YtbgkepdnemgkdaaGreatDoor
