/- Walk of the law GroupnameCheck: for every string it returns true, where the library cell MaxLen holds some number. -/
import Derived.Test.YtbgkepdnemgkdaaGreatDoorGnWalkT
import Derived.Test.YtbgkepdnemgkdaaGreatDoorGnWalkM
namespace Go.Proofs.YtbgkepdnemgkdaaGreatDoor
open Go.RowKit Go.Gn

set_option maxRecDepth 100000 in
set_option maxHeartbeats 1000000 in
theorem lawcheck_long (s : ByteArray) (w : World) (hM : ML w) (h : 500 < s.size) : GivesB Tryz.prog 4 #[.string s] (.bool true) w := by
  have hz : (500 : Int) < (s.size : Int) := by omega
  have hK := fun (W : World) (hb : Below w.heap.size w W) => known_any W (hM.below hb)
  unfold GivesB at hK ⊢
  clear h hM
  go_enter Tryz.func4, Tryz.ntmps4
  go_wp2_with fail
  refine (hK _ (Below.refl _ _)).mono ?_
  rintro e w1 ⟨rfl, hb1⟩
  go_wp2_with fail
  refine (hK _ hb1).mono ?_
  rintro e w2 ⟨rfl, hb2⟩
  go_wp2_with fail
  go_ret
  exact ⟨rfl, below_then' hb1 hb2⟩

set_option maxRecDepth 100000 in
set_option maxHeartbeats 1000000 in
theorem lawcheck_bad (s : ByteArray) (w : World) (hM : ML w) (h : ¬ 500 < s.size) (hc : check (bs s) ≠ 0) : GivesB Tryz.prog 4 #[.string s] (.bool true) w := by
  have hz : ¬ (500 : Int) < (s.size : Int) := by omega
  have hK := known_any w hM
  have hsz : s.size ≤ 9223372036854775807 := by omega
  have hR := fun (W : World) => rcheck_any s W hsz
  have hS := fun (W : World) (hb : Below w.heap.size w W) => gsplit_bad s W hsz (hM.below hb) hc
  have hP := fun (W : World) (hb : Below w.heap.size w W) => gparent_any s W hsz (hM.below hb) (by omega)
  have hC := fun (W : World) (hb : Below w.heap.size w W) => check_any s W hsz (hM.below hb)
  rw [if_neg (fun hh => hc hh.1)] at hP
  unfold GivesB at *
  generalize check (bs s) = k at *
  have hk : ((k : Int) != 0) = true := by simp; omega
  clear h hM hc hsz
  go_enter Tryz.func4, Tryz.ntmps4
  go_wp2_with fail
  refine hK.mono ?_
  rintro e w1 ⟨rfl, hb1⟩
  go_wp2_with fail
  refine (hR _).mono ?_
  rintro e w2 ⟨rfl, hb2⟩
  have hb2 := below_then' hb1 hb2
  go_wp2_with fail
  refine (hS _ hb2).mono ?_
  rintro e w3 ⟨rfl, hb3⟩
  have hb3 := below_then' hb2 hb3
  go_wp2_with fail
  refine (hP _ hb3).mono ?_
  rintro e w4 ⟨rfl, hb4⟩
  have hb4 := below_then' hb3 hb4
  go_wp2_with fail
  refine (hC _ hb4).mono ?_
  rintro e w5 ⟨rfl, hb5⟩
  have hb5 := below_then' hb4 hb5
  clear hK hR hS hP hC
  go_wp2_with fail
  go_ret
  exact ⟨rfl, hb5⟩

theorem parent_le (s : Str) : (parent s).length ≤ s.length := by
  by_cases h : (parts 46 s).length = 1
  · obtain ⟨q, hq⟩ := List.length_eq_one_iff.1 h
    unfold parent; rw [hq]; exact Nat.zero_le _
  · obtain ⟨last, e, _⟩ := split_last s h
    have := congrArg List.length e
    rw [List.length_append] at this
    omega

theorem gparent_ok (s : ByteArray) (w : World) (hs : s.size ≤ 1000000) (hM : ML w) (hc : check (bs s) = 0) (t : Bool) (ht : decide (1 < (parts 46 (bs s)).length) = t) :
    GivesB Tryz.prog 18 #[.string s] (.tuple #[.string (mkS (parent (bs s))), .bool t]) w := by
  have h := gparent_any s w (by omega) hM (by omega)
  have h1 : (parts 46 (bs s)).length ≠ 0 := fun e => parts_ne_nil 46 (bs s) (List.eq_nil_of_length_eq_zero e)
  subst ht
  by_cases h2 : (parts 46 (bs s)).length = 1
  · rw [if_neg (by simp [h2])] at h
    obtain ⟨q, hq⟩ := List.length_eq_one_iff.1 h2
    have e1 : mkS (parent (bs s)) = ⟨#[]⟩ := by unfold parent; rw [hq]; rfl
    rw [e1, decide_eq_false (by omega)]; exact h
  · rw [if_pos ⟨hc, h2⟩] at h
    rw [decide_eq_true (by omega)]; exact h

theorem join_parts {s : Str} (hc : check s = 0) : joinErr (parts 46 s) = 0 ∧ joinStr (parts 46 s) = s := by
  have h1 : joinErr (parts 46 s) = 0 := by
    unfold joinErr
    rw [if_neg (parts_ne_nil _ _), if_pos (List.all_eq_true.2 ((check_zero s).1 hc).2.1), text_parts, hc]
  exact ⟨h1, by unfold joinStr; rw [if_pos h1, text_parts]⟩

set_option maxRecDepth 100000 in
set_option maxHeartbeats 1000000 in
theorem lawcheck_ok (s : ByteArray) (w : World) (hM : ML w) (h : ¬ 500 < s.size) (hc : check (bs s) = 0) (t : Bool) (ht : decide (1 < (parts 46 (bs s)).length) = t) : GivesB Tryz.prog 4 #[.string s] (.bool true) w := by
  have hz : ¬ (500 : Int) < (s.size : Int) := by omega
  have hK := known_any w hM
  have hsz : s.size ≤ 1000000 := by omega
  have hR := fun (W : World) => rcheck_any s W (by omega)
  have hS := fun (W : World) (hb : Below w.heap.size w W) => gsplit_ok s W (by omega) (hM.below hb) hc
  have hP := fun (W : World) (hb : Below w.heap.size w W) => gparent_ok s W (by omega) (hM.below hb) hc t ht
  have hC := fun (W : World) (hb : Below w.heap.size w W) => check_any s W (by omega) (hM.below hb)
  have HC := Lib.hid hc
  have HML := Lib.hid hM
  rw [hc] at hR hC
  unfold GivesB at *
  clear h hM hc
  go_enter Tryz.func4, Tryz.ntmps4
  go_wp2_with fail
  refine hK.mono ?_
  rintro e w1 ⟨rfl, hb1⟩
  go_wp2_with fail
  refine (hR _).mono ?_
  rintro e w2 ⟨rfl, hb2⟩
  have hb2 := below_then' hb1 hb2
  go_wp2_with fail
  refine (hS _ hb2).mono ?_
  rintro e w3 ⟨l, b, hl, rfl, hSl, hb3⟩
  have hb3 := below_then' hb2 hb3
  have HL := Lib.hid hl
  have hln := len_split hl
  clear hl
  go_wp2_with fail
  refine (hP _ hb3).mono ?_
  rintro e w4 ⟨rfl, hb4⟩
  have hS4 := hSl.below hb4
  have hb4 := below_then' hb3 hb4
  clear hSl
  go_wp2_with fail
  refine (hC _ hb4).mono ?_
  rintro e w5 ⟨rfl, hb5⟩
  have hS5 := hS4.below hb5
  have hb5 := below_then' hb4 hb5
  clear hS4 hC hP hS hR hK
  go_wp2_with fail
  refine (rparts_dot s _ hsz).mono ?_
  rintro e w6 ⟨a6, c6, x, hx, rfl, hX6, hxc, hcm, hb6⟩
  have hS6 := hS5.below hb6
  have hb6 := below_then' hb5 hb6
  have HX := Lib.hid hx
  clear hS5 hx
  have hM6 := HML.out.below hb6
  have hj := gjoin_any (some ⟨b, 0, none⟩) l.length l.length l w6 rfl (Nat.le_refl _) (by omega) hS6 (by rw [HL.out, text_parts, len_bs]; omega) hM6
  rw [HL.out, (join_parts HC.out).1, (join_parts HC.out).2, mk_bs] at hj
  go_wp2_with fail
  refine hj.mono ?_
  clear hj
  rintro e w7 ⟨rfl, hb7⟩
  have hS7 := hS6.below hb7
  have hX7 := hX6.below hb7
  have hb7 := below_then' hb6 hb7
  clear hS6 hX6 hM6
  go_wp2_with fail
  have hsm := same_any (some ⟨b, 0, none⟩) l.length l.length l a6 x.length c6 x w7 rfl rfl (by omega) (by have := len_split HX.out; omega) hS7 hX7
  rw [decide_eq_true (show l.map bs = x.map bs by rw [HL.out, HX.out])] at hsm
  refine hsm.mono ?_
  clear hsm
  rintro e w8 ⟨rfl, hb8⟩
  have hX8 := hX7.below hb8
  have hb8 := below_then' hb7 hb8
  clear hS7 hX7 hb1 hb2 hb3 hb4 hb5 hb6 hb7
  have hxn : (parts 46 (bs s)).length = x.length := by rw [← HX.out, List.length_map]
  have hxl := len_split HX.out
  have hx1 : 1 ≤ x.length := by
    have h1 : (parts 46 (bs s)).length ≠ 0 := fun e => parts_ne_nil 46 (bs s) (List.eq_nil_of_length_eq_zero e)
    omega
  have ht2 : decide ((1 : Int) < (x.length : Int)) = t := by
    rw [← ht, hxn]; rw [Bool.eq_iff_iff, decide_eq_true_eq, decide_eq_true_eq]; omega
  have HN := Lib.hid hxn
  clear hxn ht
  go_wp2_with fail
  have htk : (x.take (x.length - 1)).map bs = (parts 46 (bs s)).dropLast := by
    rw [List.map_take, HX.out, List.dropLast_eq_take, HN.out]
  have htx := rtext_any a6 (x.length - 1) c6 (x.take (x.length - 1)) 46 w8 (by rw [List.length_take]; omega) (by omega) (hX8.take _) (by
    rw [htk]; exact Nat.le_trans (parent_le (bs s)) (by rw [len_bs]; exact hsz))
  rw [htk] at htx
  refine htx.mono ?_
  clear htx
  rintro e w9 ⟨rfl, rfl⟩
  change _
  rw [show text 46 (parts 46 (bs s)).dropLast = parent (bs s) from rfl]
  go_wp2_with fail
  go_ret
  exact ⟨rfl, hb8⟩

theorem lawcheck_any (s : ByteArray) (w : World) (hM : ML w) : GivesB Tryz.prog 4 #[.string s] (.bool true) w := by
  by_cases h : 500 < s.size
  · exact lawcheck_long s w hM h
  · by_cases hc : check (bs s) = 0
    · exact lawcheck_ok s w hM h hc _ rfl
    · exact lawcheck_bad s w hM h hc
end Go.Proofs.YtbgkepdnemgkdaaGreatDoor
