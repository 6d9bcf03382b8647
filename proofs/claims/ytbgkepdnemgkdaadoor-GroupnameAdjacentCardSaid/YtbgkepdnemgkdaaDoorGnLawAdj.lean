/- Walk of the law GroupnameAdjacent: for any four strings it returns true, where the library cell MaxLen holds some number. -/
import Derived.Test.YtbgkepdnemgkdaaDoorGnRefWithin
namespace Go.Proofs.YtbgkepdnemgkdaaDoor
open Go.RowKit Go.Gn

theorem prefix_le {α : Type} {c : α → α → Int} (h : IsCmp c) : ∀ {H X : List α}, H <+: X → cmpL c H X ≤ 0
  | [], [], _ => by simp [cmpL]
  | [], _ :: _, _ => by simp [cmpL]
  | q :: H, X, hp => by
    obtain ⟨t, rfl⟩ := hp
    rw [List.cons_append, cmpL, if_pos (h.refl q)]
    exact prefix_le h (List.prefix_append _ _)

theorem prefix_between {α : Type} {c : α → α → Int} (h : IsCmp c) : ∀ {H X Y Z : List α}, H <+: X → H <+: Z → cmpL c X Y ≤ 0 → cmpL c Y Z ≤ 0 → H <+: Y
  | [], _, Y, _, _, _, _, _ => List.nil_prefix
  | q :: H, X, Y, Z, hX, hZ, h1, h2 => by
    obtain ⟨t, rfl⟩ := hX
    obtain ⟨u, rfl⟩ := hZ
    cases Y with
    | nil => simp [cmpL] at h1
    | cons y Y =>
      rw [List.cons_append, cmpL] at h1 h2
      have hn := h.neg q y
      by_cases e : c q y = 0
      · rw [if_pos e] at h1
        rw [if_pos (by omega)] at h2
        rw [(h.eq q y).1 e]
        exact (List.prefix_cons_inj y).2 (prefix_between h (List.prefix_append _ _) (List.prefix_append _ _) h1 h2)
      · rw [if_neg e] at h1
        rw [if_neg (by omega)] at h2
        omega

theorem adj_le {a h : Str} (hw : withinB a h = true) : cmp h a ≤ 0 := by
  unfold withinB at hw
  rw [Bool.and_eq_true, Bool.and_eq_true] at hw
  exact prefix_le cmpS_is (List.isPrefixOf_iff_prefix.1 hw.2.2)
theorem adj_between {a b c h : Str} (ha : withinB a h = true) (hc : withinB c h = true) (hb : check b = 0) (h1 : cmp a b ≤ 0) (h2 : cmp b c ≤ 0) : withinB b h = true := by
  unfold withinB at *
  rw [Bool.and_eq_true, Bool.and_eq_true] at *
  exact ⟨by simpa using hb, ha.2.1, List.isPrefixOf_iff_prefix.2 (prefix_between cmpS_is (List.isPrefixOf_iff_prefix.1 ha.2.2) (List.isPrefixOf_iff_prefix.1 hc.2.2) h1 h2)⟩

theorem short4 {a b c d : ByteArray} (h : shortB ([a, b, c, d].map bs) = true) : a.size ≤ 120 ∧ b.size ≤ 120 ∧ c.size ≤ 120 ∧ d.size ≤ 120 := by
  have := (shortB_true h).2
  simp only [List.map_cons, List.map_nil, List.mem_cons, List.not_mem_nil, or_false, forall_eq_or_imp, forall_eq, len_bs] at this
  exact this

set_option maxRecDepth 100000 in
set_option maxHeartbeats 1000000 in
theorem lawadj_long (a b c h : ByteArray) (w : World) (hM : ML w) (hs : shortB ([a, b, c, h].map bs) = false) : GivesB Tryd.prog 6 #[.string a, .string b, .string c, .string h] (.bool true) w := by
  have hK := fun (W : World) (hb : Below w.heap.size w W) => known_any W (hM.below hb)
  unfold GivesB at hK ⊢
  clear hM
  go_enter Tryd.func6, Tryd.ntmps6
  go_wp2_with fail
  refine (hK _ (Below.refl _ _)).mono ?_
  rintro e w1 ⟨rfl, hb1⟩
  go_wp2_with fail
  have hss := short_any (some ⟨w1.heap.size, 0, none⟩) 4 4 [a, b, c, h] (w1.alloc (.cells #[.string a, .string b, .string c, .string h] 9)) rfl (SS.new w1 [a, b, c, h] 9)
  rw [hs] at hss
  have hb1' : Below w.heap.size w (w1.alloc (.cells #[.string a, .string b, .string c, .string h] 9)) := hb1.alloc hb1.size _
  refine hss.mono ?_
  clear hss
  rintro e w2 ⟨rfl, hb2⟩
  have hb2 := below_then' hb1' hb2
  go_wp2_with fail
  refine (hK _ hb2).mono ?_
  rintro e w3 ⟨rfl, hb3⟩
  go_wp2_with fail
  go_ret
  exact ⟨rfl, below_then' hb2 hb3⟩

set_option maxRecDepth 100000 in
set_option maxHeartbeats 8000000 in
theorem lawadj_short (a b c h : ByteArray) (w : World) (hM : ML w) (hs : shortB ([a, b, c, h].map bs) = true) : GivesB Tryd.prog 6 #[.string a, .string b, .string c, .string h] (.bool true) w := by
  obtain ⟨ha, hbz, hcz, hhz⟩ := short4 hs
  have hK := known_any w hM
  have hS := fun (W : World) => short_any (some ⟨W.heap.size, 0, none⟩) 4 4 [a, b, c, h] (W.alloc (.cells #[.string a, .string b, .string c, .string h] 9)) rfl (SS.new W [a, b, c, h] 9)
  have hS' := fun (W : World) => (hS W).mono fun e w' (hh : _ ∧ _) => (⟨hh.1.trans (by rw [hs]), ((Below.refl _ W).alloc (Nat.le_refl _) _).trans (hh.2.mono (by simp))⟩ : e = .returned (.bool true) ∧ Below W.heap.size W w')
  have hCh := fun (W : World) (hb : Below w.heap.size w W) => gcompare_any h a W (by omega) (by omega) (hM.below hb)
  have hCa := fun (W : World) (hb : Below w.heap.size w W) => gcompare_any a b W (by omega) (by omega) (hM.below hb)
  have hCb := fun (W : World) (hb : Below w.heap.size w W) => gcompare_any b c W (by omega) (by omega) (hM.below hb)
  have hKb := fun (W : World) (_ : Below w.heap.size w W) => rcheck_any b W (by omega)
  have hWa := fun (W : World) (hb : Below w.heap.size w W) => within_any a h W (by omega) (by omega) (hM.below hb)
  have hWb := fun (W : World) (hb : Below w.heap.size w W) => within_any b h W (by omega) (by omega) (hM.below hb)
  have hWc := fun (W : World) (hb : Below w.heap.size w W) => within_any c h W (by omega) (by omega) (hM.below hb)
  have hle := adj_le (a := bs a) (h := bs h)
  have hbt := adj_between (a := bs a) (b := bs b) (c := bs c) (h := bs h)
  clear ha hbz hcz hhz hM hS hs
  generalize withinB (bs a) (bs h) = wa at *
  generalize withinB (bs b) (bs h) = wb at *
  generalize withinB (bs c) (bs h) = wc at *
  generalize cmp (bs h) (bs a) = x at *
  generalize cmp (bs a) (bs b) = y at *
  generalize cmp (bs b) (bs c) = z at *
  generalize check (bs b) = k at *
  have HBT := Lib.hid hbt
  clear hbt
  unfold GivesB at *
  go_enter Tryd.func6, Tryd.ntmps6
  go_wp2_with fail
  refine hK.mono ?_
  rintro e w1 ⟨rfl, hb1⟩
  go_wp2_with fail
  refine (hS' _).mono ?_
  rintro e w2 ⟨rfl, hb2⟩
  have hq2 := below_then' hb1 hb2
  clear hb1 hb2 hK hS'

  cases wa with
  | true =>
    have hx : ¬ 0 < x := by have := hle rfl; omega
    go_wp2_with fail
    refine (hWa _ hq2).mono ?_
    rintro e w3 ⟨rfl, hb3⟩
    have hq3 := below_then' hq2 hb3
    clear hb3 hq2
    go_wp2_with fail
    refine (hCh _ hq3).mono ?_
    rintro e w4 ⟨rfl, hb4⟩
    have hq4 := below_then' hq3 hb4
    clear hb4 hq3
    go_wp2_with fail
    refine (hKb _ hq4).mono ?_
    rintro e w5 ⟨rfl, hb5⟩
    have hq5 := below_then' hq4 hb5
    clear hb5 hq4
    by_cases hk : k = 0
    · subst hk
      go_wp2_with fail
      refine (hCa _ hq5).mono ?_
      rintro e w6 ⟨rfl, hb6⟩
      have hq6 := below_then' hq5 hb6
      clear hb6 hq5
      by_cases hy : y ≤ 0
      · have hy' := hy
        go_wp2_with fail
        refine (hCb _ hq6).mono ?_
        rintro e w7 ⟨rfl, hb7⟩
        have hq7 := below_then' hq6 hb7
        clear hb7 hq6
        by_cases hz : z ≤ 0
        · have hz' := hz
          go_wp2_with fail
          refine (hWa _ hq7).mono ?_
          rintro e w8 ⟨rfl, hb8⟩
          have hq8 := below_then' hq7 hb8
          clear hb8 hq7
          cases wc with
          | true =>
            have hwb := HBT.out (by trivial) (by trivial) (by trivial) hy hz
            subst hwb
            go_wp2_with fail
            refine (hWc _ hq8).mono ?_
            rintro e w9 ⟨rfl, hb9⟩
            have hq9 := below_then' hq8 hb9
            clear hb9 hq8
            go_wp2_with fail
            refine (hWb _ hq9).mono ?_
            rintro e w10 ⟨rfl, hb10⟩
            have hq10 := below_then' hq9 hb10
            clear hb10 hq9
            go_wp2_with fail
            go_ret
            exact ⟨rfl, hq10⟩
          | false =>
            go_wp2_with fail
            refine (hWc _ hq8).mono ?_
            rintro e w9 ⟨rfl, hb9⟩
            have hq9 := below_then' hq8 hb9
            clear hb9 hq8
            go_wp2_with fail
            go_ret
            exact ⟨rfl, hq9⟩
        · have hz' : ¬ z ≤ 0 := hz
          go_wp2_with fail
          go_ret
          exact ⟨rfl, hq7⟩
      · have hy' : ¬ y ≤ 0 := hy
        go_wp2_with fail
        go_ret
        exact ⟨rfl, hq6⟩
    · have hk' : ((k : Int) == 0) = false := by simp; omega
      go_wp2_with fail
      go_ret
      exact ⟨rfl, hq5⟩
  | false =>
    go_wp2_with fail
    refine (hWa _ hq2).mono ?_
    rintro e w3 ⟨rfl, hb3⟩
    have hq3 := below_then' hq2 hb3
    clear hb3 hq2
    go_wp2_with fail
    refine (hKb _ hq3).mono ?_
    rintro e w4 ⟨rfl, hb4⟩
    have hq4 := below_then' hq3 hb4
    clear hb4 hq3
    by_cases hk : k = 0
    · subst hk
      go_wp2_with fail
      refine (hCa _ hq4).mono ?_
      rintro e w5 ⟨rfl, hb5⟩
      have hq5 := below_then' hq4 hb5
      clear hb5 hq4
      by_cases hy : y ≤ 0
      · have hy' := hy
        go_wp2_with fail
        refine (hCb _ hq5).mono ?_
        rintro e w6 ⟨rfl, hb6⟩
        have hq6 := below_then' hq5 hb6
        clear hb6 hq5
        by_cases hz : z ≤ 0
        · have hz' := hz
          go_wp2_with fail
          refine (hWa _ hq6).mono ?_
          rintro e w7 ⟨rfl, hb7⟩
          have hq7 := below_then' hq6 hb7
          clear hb7 hq6
          go_wp2_with fail
          go_ret
          exact ⟨rfl, hq7⟩
        · have hz' : ¬ z ≤ 0 := hz
          go_wp2_with fail
          go_ret
          exact ⟨rfl, hq6⟩
      · have hy' : ¬ y ≤ 0 := hy
        go_wp2_with fail
        go_ret
        exact ⟨rfl, hq5⟩
    · have hk' : ((k : Int) == 0) = false := by simp; omega
      go_wp2_with fail
      go_ret
      exact ⟨rfl, hq4⟩

theorem lawadj_any (a b c h : ByteArray) (w : World) (hM : ML w) : GivesB Tryd.prog 6 #[.string a, .string b, .string c, .string h] (.bool true) w := by
  cases hs : shortB ([a, b, c, h].map bs) with
  | false => exact lawadj_long a b c h w hM hs
  | true => exact lawadj_short a b c h w hM hs
end Go.Proofs.YtbgkepdnemgkdaaDoor
