/- Walk of the reference Common, for strings of at most 100000 bytes. -/
import Derived.Test.YtbgkepdnemgkdaaGreatDoorGnCommon
import Derived.Test.YtbgkepdnemgkdaaGreatDoorGnRefWithin
namespace Go.Proofs.YtbgkepdnemgkdaaGreatDoor
open Go.RowKit Go.Gn

theorem lcp_left : ∀ (L M : List Str), lcp L M <+: L
  | [], _ => by simp [lcp]
  | _ :: _, [] => by simp [lcp]
  | a :: x, b :: y => by
    unfold lcp
    split
    · exact (List.prefix_cons_inj a).2 (lcp_left x y)
    · exact List.nil_prefix
theorem prefix_lcp : ∀ {P L M : List Str}, P <+: L → P <+: M → P <+: lcp L M
  | [], _, _, _, _ => List.nil_prefix
  | p :: P, L, M, h1, h2 => by
    obtain ⟨t, rfl⟩ := h1
    obtain ⟨u, rfl⟩ := h2
    rw [List.cons_append, List.cons_append, lcp, if_pos rfl]
    exact (List.prefix_cons_inj p).2 (prefix_lcp (List.prefix_append _ _) (List.prefix_append _ _))
theorem lcp_right : ∀ (L M : List Str), lcp L M <+: M
  | [], _ => by simp [lcp]
  | _ :: _, [] => by simp [lcp]
  | a :: x, b :: y => by
    unfold lcp
    split
    · rename_i e; subst e; exact (List.prefix_cons_inj a).2 (lcp_right x y)
    · exact List.nil_prefix
theorem take_prefix_iff {L M : List Str} {i : Nat} (hi : i ≤ L.length) : L.take i <+: M ↔ i ≤ (lcp L M).length := by
  constructor
  · intro h
    have := (prefix_lcp (List.take_prefix i L) h).length_le
    rw [List.length_take] at this
    omega
  · intro h
    have h1 := List.prefix_iff_eq_take.1 (lcp_left L M)
    have h2 : L.take i <+: lcp L M := by
      rw [h1]
      exact List.take_prefix_take_left h
    exact h2.trans (lcp_right L M)

theorem take_ne {s : Str} {i : Nat} (hi : 1 ≤ i) : (parts 46 s).take i ≠ [] := by
  have := parts_ne_nil 46 s
  intro e
  rcases List.take_eq_nil_iff.1 e with e | e
  · omega
  · exact this e
theorem parts_text_take {s : Str} {i : Nat} (hi : 1 ≤ i) : parts 46 (text 46 ((parts 46 s).take i)) = (parts 46 s).take i :=
  parts_text 46 _ (take_ne hi) fun p hp => mem_parts_not 46 s p (List.mem_of_mem_take hp)
theorem check_text_take {s : Str} {i : Nat} (hs : check s = 0) (hi : 1 ≤ i) : check (text 46 ((parts 46 s).take i)) = 0 := by
  rw [check_zero] at hs ⊢
  rw [parts_text_take hi]
  refine ⟨Nat.le_trans (text_take_len s i) hs.1, fun p hp => hs.2.1 p (List.mem_of_mem_take hp), ?_⟩
  rw [List.length_take]; omega
theorem within_take1 {s : Str} {i : Nat} (hs : check s = 0) (hi : 1 ≤ i) : withinB s (text 46 ((parts 46 s).take i)) = true := by
  unfold withinB below
  rw [check_text_take hs hi, hs, parts_text_take hi]
  simpa using List.take_prefix i (parts 46 s)
theorem within_take2 {s t : Str} {i : Nat} (hs : check s = 0) (ht : check t = 0) (hi : 1 ≤ i) (hle : i ≤ (parts 46 s).length) : withinB t (text 46 ((parts 46 s).take i)) = decide (i ≤ (lcp (parts 46 s) (parts 46 t)).length) := by
  unfold withinB below
  rw [check_text_take hs hi, ht, parts_text_take hi, Bool.eq_iff_iff]
  simp only [decide_true, Bool.true_and, List.isPrefixOf_iff_prefix, decide_eq_true_eq]
  exact take_prefix_iff hle

/-- The longest common hierarchy. -/
def common (s t : Str) : Str := text 46 (lcp (parts 46 s) (parts 46 t))

theorem common_take {s t : Str} {k : Nat} (hk : (parts 46 s).length ≤ k) : text 46 ((parts 46 s).take (min k (lcp (parts 46 s) (parts 46 t)).length)) = common s t := by
  have h1 := lcp_left (parts 46 s) (parts 46 t)
  have h2 := h1.length_le
  rw [Nat.min_eq_right (by omega), ← List.prefix_iff_eq_take.1 h1]; rfl

set_option maxRecDepth 100000 in
set_option maxHeartbeats 1000000 in
/-- The reference's 'Common', for names. -/
theorem rcommon_any (s t : ByteArray) (w : World) (hs : check (bs s) = 0) (ht : check (bs t) = 0) :
    GivesB Tryz.prog 28 #[.string s, .string t] (.string (mkS (common (bs s) (bs t)))) w := by
  have hs80 := check_le s hs
  have ht80 := check_le t ht
  have hP := rparts_dot s w (by omega)
  have HS := Lib.hid hs
  have HT := Lib.hid ht
  unfold GivesB
  clear hs ht
  go_enter Tryz.func28, Tryz.ntmps28
  go_wp2_with fail
  refine hP.mono ?_
  rintro e w1 ⟨a, ca, x, hx, rfl, hX, hxc, hcm, hB1⟩
  have hxl := len_split hx
  have HX := Lib.hid hx
  have HLx : Hid ((parts 46 (bs s)).length = x.length) := by unfold Hid; rw [← HX.out, List.length_map]
  clear hP hx
  go_wp2
  go_loopg [5, 7] x.length (fun gg s5 s7 wr => ∃ k : Nat, k ≤ x.length ∧ x.length - k ≤ gg ∧ s7 = .int .i64 (k + 1 : Nat) ∧ Below w1.heap.size w1 wr ∧ ∃ pb : ByteArray, s5 = .string pb ∧ Aside (pb = mkS (text 46 ((parts 46 (bs s)).take (min k (lcp (parts 46 (bs s)) (parts 46 (bs t))).length)))))
  case atStart => exact ⟨0, Nat.zero_le _, by omega, rfl, Below.refl _ _, _, rfl, by unfold Aside; rw [Nat.zero_min, List.take_zero]; rfl⟩
  case round =>
    obtain ⟨k, hk, hg, rfl, hB, pb, rfl, A⟩ := hrel
    by_cases hlt : k < x.length
    · have hltz : ((k + 1 : Nat) : Int) ≤ (x.length : Int) := by omega
      have htk : (x.take (k + 1)).map bs = (parts 46 (bs s)).take (k + 1) := by rw [List.map_take, HX.out]
      have HT1 := rtext_any a (k + 1) ca (x.take (k + 1)) 46 wr (by rw [List.length_take]; omega) (by omega) ((hX.below hB).take _) (by
          rw [htk]; exact Nat.le_trans (text_take_len (bs s) _) (by rw [len_bs]; omega))
      rw [htk] at HT1
      have hW1 : withinB (bs s) (text 46 ((parts 46 (bs s)).take (k + 1))) = true := within_take1 HS.out (by omega)
      have hW2 := within_take2 (t := bs t) (i := k + 1) HS.out HT.out (by omega) (by rw [HLx.out]; omega)
      have hsz : (mkS (text 46 ((parts 46 (bs s)).take (k + 1)))).size ≤ 80 := by
        rw [size_mkS]; exact Nat.le_trans (text_take_len (bs s) _) (by rw [len_bs]; omega)
      have hR1 := fun (W : World) => rwithin_any s (mkS (text 46 ((parts 46 (bs s)).take (k + 1)))) W (by omega) (by omega)
      have hR2 := fun (W : World) => rwithin_any t (mkS (text 46 ((parts 46 (bs s)).take (k + 1)))) W (by omega) (by omega)
      rw [bs_mk, hW1] at hR1
      rw [bs_mk, hW2] at hR2
      unfold GivesB at hR1 hR2
      obtain ⟨tt, htt⟩ : ∃ tt, tt = mkS (text 46 ((parts 46 (bs s)).take (k + 1))) := ⟨_, rfl⟩
      rw [← htt] at HT1 hR1 hR2 hsz
      have HTT := Lib.hid htt
      clear htt hW1 hW2 htk
      by_cases hm : k + 1 ≤ (lcp (parts 46 (bs s)) (parts 46 (bs t))).length
      · rw [decide_eq_true hm] at hR2
        have HM := Lib.hid hm
        clear hm
        go_wp2_with fail
        refine HT1.mono ?_
        clear HT1
        rintro e w3 ⟨rfl, rfl⟩
        go_wp2_with fail
        refine (hR1 _).mono ?_
        rintro e w4 ⟨rfl, hb4⟩
        have hb4 := hB.trans (hb4.mono hB.size)
        go_wp2_with fail
        refine (hR2 _).mono ?_
        rintro e w5 ⟨rfl, hb5⟩
        have hb5 := hb4.trans (hb5.mono hb4.size)
        go_wp2
        go_roundg (x.length - (k + 1))
        case measure => omega
        case rel => exact ⟨k + 1, by omega, by omega, by go_num, hb5, tt, rfl, by unfold Aside; rw [HTT.out, Nat.min_eq_left HM.out]⟩
      · rw [decide_eq_false hm] at hR2
        have HM := Lib.hid hm
        clear hm
        go_wp2_with fail
        refine HT1.mono ?_
        clear HT1
        rintro e w3 ⟨rfl, rfl⟩
        go_wp2_with fail
        refine (hR1 _).mono ?_
        rintro e w4 ⟨rfl, hb4⟩
        have hb4 := hB.trans (hb4.mono hB.size)
        go_wp2_with fail
        refine (hR2 _).mono ?_
        rintro e w5 ⟨rfl, hb5⟩
        have hb5 := hb4.trans (hb5.mono hb4.size)
        go_wp2
        go_roundg (x.length - (k + 1))
        case measure => omega
        case rel =>
          refine ⟨k + 1, by omega, by omega, by go_num, hb5, pb, rfl, ?_⟩
          have h1 := HM.out
          unfold Aside
          rw [A.out, Nat.min_eq_right (by omega), Nat.min_eq_right (by omega)]
    · have hltz : ¬ ((k + 1 : Nat) : Int) ≤ (x.length : Int) := by omega
      go_wp2
      go_ret
      refine ⟨ret_str ?_, below_then' hB1 hB⟩
      rw [A.out, common_take (by rw [HLx.out]; omega)]
end Go.Proofs.YtbgkepdnemgkdaaGreatDoor
