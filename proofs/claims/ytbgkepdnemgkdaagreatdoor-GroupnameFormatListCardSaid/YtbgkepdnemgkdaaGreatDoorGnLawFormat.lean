/- Walk of the law GroupnameFormatList: for every slice of strings it returns true, where the library cell MaxLen holds some number. -/
import Derived.Test.YtbgkepdnemgkdaaGreatDoorGnRefList
namespace Go.Proofs.YtbgkepdnemgkdaaGreatDoor
open Go.RowKit Go.Gn

theorem ftext_le (sep : UInt8) (m : Nat) : ∀ (L : List Str), (∀ p ∈ L, p.length ≤ m) → (text sep L).length ≤ L.length * (m + 1)
  | [], _ => by simp [text]
  | [p], h => by
    have := h p (by simp)
    show p.length ≤ _
    simp only [List.length_cons, List.length_nil]; omega
  | p :: q :: ps, h => by
    have h1 := h p (by simp)
    have h2 := ftext_le sep m (q :: ps) (fun x hx => h x (by simp [hx]))
    rw [text_cons _ _ _ (by simp), List.length_append, List.length_cons, List.length_cons, Nat.add_mul]
    omega

theorem fshort_text {sep : UInt8} {L : List Str} (h : shortB L = true) : (text sep L).length ≤ 10000 := by
  obtain ⟨h1, h2⟩ := shortB_true h
  refine Nat.le_trans (ftext_le sep 120 L h2) ?_
  have := Nat.mul_le_mul_right 121 h1
  omega
theorem fshort_sizes {zs : List ByteArray} (h : shortB (zs.map bs) = true) : zs.length ≤ 60 ∧ ∀ x ∈ zs, x.size ≤ 120 := by
  obtain ⟨h1, h2⟩ := shortB_true h
  refine ⟨by simpa using h1, fun x hx => ?_⟩
  have := h2 (bs x) (List.mem_map_of_mem hx)
  rwa [len_bs] at this

theorem component_nocomma (s : Str) (h : component s = true) : (44 : UInt8) ∉ s := by
  cases s with
  | nil => simp
  | cons c cs =>
    simp only [component, Bool.and_eq_true, List.all_eq_true] at h
    intro hm
    have := h.2 44 hm
    simp [permitted] at this

theorem mem_text (sep x : UInt8) : ∀ (L : List Str), x ∈ text sep L → x = sep ∨ ∃ p ∈ L, x ∈ p
  | [], h => by simp [text] at h
  | [p], h => .inr ⟨p, by simp, h⟩
  | p :: q :: ps, h => by
    rw [text_cons _ _ _ (by simp), List.mem_append, List.mem_cons] at h
    rcases h with h | h | h
    · exact .inr ⟨p, by simp, h⟩
    · exact .inl h
    · rcases mem_text sep x (q :: ps) h with h | ⟨r, hr, hx⟩
      · exact .inl h
      · exact .inr ⟨r, by simp [List.mem_cons.1 hr], hx⟩

theorem name_nocomma {s : Str} (h : check s = 0) : (44 : UInt8) ∉ s := by
  intro hm
  have h1 := ((check_zero s).1 h).2.1
  rw [← text_parts 46 s] at hm
  rcases mem_text 46 44 _ hm with e | ⟨p, hp, hx⟩
  · exact absurd e (by decide)
  · exact component_nocomma p (h1 p hp) hx

theorem listFrom_zero : ∀ (L seen : List Str), listFrom seen L = 0 → ∀ s ∈ L, check s = 0
  | [], _, _, s, hs => by simp at hs
  | x :: L, seen, h, s, hs => by
    by_cases hx : check x = 0
    · by_cases hm : x ∈ seen
      · rw [listFrom_twice hx hm] at h; exact absurd h (by decide)
      · rw [listFrom_on hx hm] at h
        rcases List.mem_cons.1 hs with rfl | hs
        · exact hx
        · exact listFrom_zero L _ h s hs
    · rw [listFrom_stop hx] at h; exact absurd h hx

theorem format_back {L : List Str} (h0 : L ≠ []) (h : listErr L = 0) : parts 44 (text 44 L) = L := by
  refine parts_text 44 L h0 fun p hp => name_nocomma ?_
  unfold listErr at h
  by_cases h20 : 20 < L.length
  · rw [if_pos h20] at h; exact absurd h (by decide)
  · rw [if_neg h20] at h
    exact listFrom_zero L [] h p hp

theorem format_nonempty {L : List Str} (h0 : L ≠ []) (h : listErr L = 0) : text 44 L ≠ [] := by
  intro e
  have h1 := format_back h0 h
  rw [e] at h1
  unfold listErr at h
  rw [← h1] at h
  revert h
  decide +kernel

set_option maxRecDepth 100000 in
set_option maxHeartbeats 1000000 in
theorem lawformat_long (a : Option Addr) (n c : Nat) (zs : List ByteArray) (w : World) (hM : ML w) (hn : zs.length = n) (hS : SS w a zs) (h : shortB (zs.map bs) = false) :
    GivesB Tryz.prog 8 #[.slice a n c] (.bool true) w := by
  have hK := fun (W : World) (hb : Below w.heap.size w W) => known_any W (hM.below hb)
  have hs := fun (W : World) (hb : Below w.heap.size w W) => short_any a n c zs W hn (hS.below hb)
  rw [h] at hs
  unfold GivesB at *
  clear hM hn hS
  go_enter Tryz.func8, Tryz.ntmps8
  go_wp2_with fail
  refine (hK _ (Below.refl _ _)).mono ?_
  rintro e w1 ⟨rfl, hb1⟩
  go_wp2_with fail
  refine (hs _ hb1).mono ?_
  rintro e w2 ⟨rfl, hb2⟩
  have hb2 := below_then' hb1 hb2
  go_wp2_with fail
  refine (hK _ hb2).mono ?_
  rintro e w3 ⟨rfl, hb3⟩
  go_wp2_with fail
  go_ret
  exact ⟨rfl, below_then' hb2 hb3⟩

set_option maxRecDepth 100000 in
set_option maxHeartbeats 1000000 in
theorem lawformat_empty (a : Option Addr) (c : Nat) (zs : List ByteArray) (w : World) (hM : ML w) (hn : zs.length = 0) (hS : SS w a zs) (h : shortB (zs.map bs) = true) :
    GivesB Tryz.prog 8 #[.slice a 0 c] (.bool true) w := by
  have hK := known_any w hM
  have hs := fun (W : World) (hb : Below w.heap.size w W) => short_any a 0 c zs W hn (hS.below hb)
  have hF := fun (W : World) => format_empty a c W
  have hz0 : zs = [] := List.eq_nil_of_length_eq_zero hn
  have hR := fun (W : World) (hb : Below w.heap.size w W) => rlist_any a 0 c zs W hn (by decide) (hS.below hb) (by rw [hz0]; simp)
  rw [h] at hs
  unfold GivesB at *
  clear hM hn hS h hz0
  go_enter Tryz.func8, Tryz.ntmps8
  go_wp2_with fail
  refine hK.mono ?_
  rintro e w1 ⟨rfl, hb1⟩
  go_wp2_with fail
  refine (hs _ hb1).mono ?_
  rintro e w2 ⟨rfl, hb2⟩
  have hb2 := below_then' hb1 hb2
  go_wp2_with fail
  refine (hF _).mono ?_
  rintro e w3 ⟨rfl, hb3⟩
  have hb3 := below_then' hb2 hb3
  go_wp2_with fail
  refine (hR _ hb3).mono ?_
  rintro e w4 ⟨rfl, hb4⟩
  have hb4 := below_then' hb3 hb4
  go_wp2_with fail
  go_ret
  exact ⟨rfl, hb4⟩

set_option maxRecDepth 100000 in
set_option maxHeartbeats 1000000 in
theorem lawformat_bad (a : Option Addr) (n c : Nat) (zs : List ByteArray) (w : World) (hM : ML w) (hn : zs.length = n) (hc : n ≤ c) (hcm : c ≤ maxLen) (hS : SS w a zs) (h : shortB (zs.map bs) = true) (h0 : 0 < n) (hq : listErr (zs.map bs) ≠ 0) :
    GivesB Tryz.prog 8 #[.slice a n c] (.bool true) w := by
  have hz := fshort_sizes h
  have hK := known_any w hM
  have hs := fun (W : World) (hb : Below w.heap.size w W) => short_any a n c zs W hn (hS.below hb)
  have hF := fun (W : World) (hb : Below w.heap.size w W) => format_any a n c zs W hn h0 hc (by omega) (hS.below hb) (fun x hx => Nat.le_trans (hz.2 x hx) (by decide)) (Nat.le_trans (fshort_text h) (by decide)) (hM.below hb) (by unfold maxLen at hcm; omega)
  have hR := fun (W : World) (hb : Below w.heap.size w W) => rlist_any a n c zs W hn (by omega) (hS.below hb) (fun x hx => Nat.le_trans (hz.2 x hx) (by decide))
  rw [h] at hs
  rw [formatStr, if_neg hq] at hF
  obtain ⟨k, hke⟩ : ∃ k, k = listErr (zs.map bs) := ⟨_, rfl⟩
  rw [← hke] at hF hR hq
  have hk : ((k : Int) != 0) = true := by simp; omega
  have hnz : ((n : Int) == 0) = false := by simp; omega
  unfold GivesB at *
  clear hM hn hS h hz hq hke
  go_enter Tryz.func8, Tryz.ntmps8
  go_wp2_with fail
  refine hK.mono ?_
  rintro e w1 ⟨rfl, hb1⟩
  go_wp2_with fail
  refine (hs _ hb1).mono ?_
  rintro e w2 ⟨rfl, hb2⟩
  have hb2 := below_then' hb1 hb2
  go_wp2_with fail
  refine (hF _ hb2).mono ?_
  rintro e w3 ⟨rfl, hb3⟩
  have hb3 := below_then' hb2 hb3
  go_wp2_with fail
  refine (hR _ hb3).mono ?_
  rintro e w4 ⟨rfl, hb4⟩
  have hb4 := below_then' hb3 hb4
  go_wp2_with fail
  go_ret
  exact ⟨rfl, hb4⟩

set_option maxRecDepth 100000 in
set_option maxHeartbeats 1000000 in
theorem lawformat_ok (a : Option Addr) (n c : Nat) (zs : List ByteArray) (w : World) (hM : ML w) (hn : zs.length = n) (hc : n ≤ c) (hcm : c ≤ maxLen) (hS : SS w a zs) (h : shortB (zs.map bs) = true) (h0 : 0 < n) (hq : listErr (zs.map bs) = 0) :
    GivesB Tryz.prog 8 #[.slice a n c] (.bool true) w := by
  have hz := fshort_sizes h
  have hne : zs.map bs ≠ [] := by
    intro e
    have := congrArg List.length e
    rw [List.length_map, List.length_nil] at this
    omega
  have hK := known_any w hM
  have hs := fun (W : World) (hb : Below w.heap.size w W) => short_any a n c zs W hn (hS.below hb)
  have hF := fun (W : World) (hb : Below w.heap.size w W) => format_any a n c zs W hn h0 hc (by omega) (hS.below hb) (fun x hx => Nat.le_trans (hz.2 x hx) (by decide)) (Nat.le_trans (fshort_text h) (by decide)) (hM.below hb) (by unfold maxLen at hcm; omega)
  have hR := fun (W : World) (hb : Below w.heap.size w W) => rlist_any a n c zs W hn (by omega) (hS.below hb) (fun x hx => Nat.le_trans (hz.2 x hx) (by decide))
  have hT := fun (W : World) (hb : Below w.heap.size w W) => rtext_any a n c zs 44 W hn (by omega) (hS.below hb) (Nat.le_trans (fshort_text h) (by decide))
  have hiE : (mkS (text 44 (zs.map bs))).toList.isEmpty = false := by
    rw [ByteArray.toList_eq]
    cases hcc : (mkS (text 44 (zs.map bs))).data.toList with
    | nil => exact absurd hcc (format_nonempty hne hq)
    | cons x y => rfl
  have hPs : (mkS (text 44 (zs.map bs))).size ≤ 100000 := by rw [size_mkS]; exact Nat.le_trans (fshort_text h) (by decide)
  have hP := fun (W : World) (hb : Below w.heap.size w W) => parse_any (mkS (text 44 (zs.map bs))) W hiE hPs (hM.below hb)
  have HPP : Hid (parts 44 (bs (mkS (text 44 (zs.map bs)))) = zs.map bs) := format_back hne hq
  rw [h] at hs
  rw [formatStr, if_pos hq, hq] at hF
  rw [hq] at hR
  have HQ := Lib.hid hq
  have hnz : ((n : Int) == 0) = false := by simp; omega
  have HN := Lib.hid hn
  have HSS := Lib.hid hS
  have hn60 : n ≤ 60 := by omega
  generalize mkS (text 44 (zs.map bs)) = y at *
  unfold GivesB at *
  clear hM hn hS h hz hq hne hPs hiE
  go_enter Tryz.func8, Tryz.ntmps8
  go_wp2_with fail
  refine hK.mono ?_
  rintro e w1 ⟨rfl, hb1⟩
  go_wp2_with fail
  refine (hs _ hb1).mono ?_
  rintro e w2 ⟨rfl, hb2⟩
  have hb2 := below_then' hb1 hb2
  go_wp2_with fail
  refine (hF _ hb2).mono ?_
  rintro e w3 ⟨rfl, hb3⟩
  have hb3 := below_then' hb2 hb3
  go_wp2_with fail
  refine (hR _ hb3).mono ?_
  rintro e w4 ⟨rfl, hb4⟩
  have hb4 := below_then' hb3 hb4
  go_wp2_with fail
  refine (hP _ hb4).mono ?_
  rintro e w5 ⟨l, b, hl, rfl, hSl, hb5⟩
  have hb5 := below_then' hb4 hb5
  rw [HPP.out] at hl
  rw [HPP.out, HQ.out, listV_zero]
  have hln : l.length = n := by rw [← HN.out, ← List.length_map (f := bs), hl, List.length_map]
  have HL := Lib.hid hl
  clear hl
  rw [hln]
  go_wp2_with fail
  refine (hT _ hb5).mono ?_
  rintro e w6 ⟨rfl, rfl⟩
  go_wp2_with fail
  have hsm := same_any (some ⟨b, 0, none⟩) n n l a n c zs w6 hln HN.out (by omega) (by omega) hSl (HSS.out.below hb5)
  rw [decide_eq_true HL.out] at hsm
  refine hsm.mono ?_
  clear hsm
  rintro e w7 ⟨rfl, hb7⟩
  have hb7 := below_then' hb5 hb7
  go_wp2_with fail
  go_ret
  exact ⟨rfl, hb7⟩

theorem lawformat_any (a : Option Addr) (n c : Nat) (zs : List ByteArray) (w : World) (hM : ML w) (hn : zs.length = n) (hc : n ≤ c) (hcm : c ≤ maxLen) (hS : SS w a zs) :
    GivesB Tryz.prog 8 #[.slice a n c] (.bool true) w := by
  cases h : shortB (zs.map bs) with
  | false => exact lawformat_long a n c zs w hM hn hS h
  | true =>
    by_cases h0 : n = 0
    · subst h0; exact lawformat_empty a c zs w hM hn hS h
    · by_cases hq : listErr (zs.map bs) = 0
      · exact lawformat_ok a n c zs w hM hn hc hcm hS h (by omega) hq
      · exact lawformat_bad a n c zs w hM hn hc hcm hS h (by omega) hq
end Go.Proofs.YtbgkepdnemgkdaaGreatDoor
