/- Walk of the law GroupnameCompare: for any three strings it returns true, where the library cell MaxLen holds some number. -/
import Derived.Test.YtbgkepdnemgkdaaDoorGnWalkV
namespace Go.Proofs.YtbgkepdnemgkdaaDoor
open Go.RowKit Go.Gn

theorem short3 {a b c : ByteArray} (h : shortB ([a, b, c].map bs) = true) : a.size ≤ 120 ∧ b.size ≤ 120 ∧ c.size ≤ 120 := by
  have := (shortB_true h).2
  simp only [List.map_cons, List.map_nil, List.mem_cons, List.not_mem_nil, or_false, forall_eq_or_imp, forall_eq, len_bs] at this
  exact this

set_option maxRecDepth 100000 in
set_option maxHeartbeats 1000000 in
theorem lawcompare_long (a b c : ByteArray) (w : World) (hM : ML w) (h : shortB ([a, b, c].map bs) = false) : GivesB Tryd.prog 3 #[.string a, .string b, .string c] (.bool true) w := by
  have hK := fun (W : World) (hb : Below w.heap.size w W) => known_any W (hM.below hb)
  unfold GivesB at hK ⊢
  clear hM
  go_enter Tryd.func3, Tryd.ntmps3
  go_wp2_with fail
  refine (hK _ (Below.refl _ _)).mono ?_
  rintro e w1 ⟨rfl, hb1⟩
  go_wp2_with fail
  have hs := short_any (some ⟨w1.heap.size, 0, none⟩) 3 3 [a, b, c] (w1.alloc (.cells #[.string a, .string b, .string c] 9)) rfl (SS.new w1 [a, b, c] 9)
  rw [h] at hs
  have hb1' : Below w.heap.size w (w1.alloc (.cells #[.string a, .string b, .string c] 9)) := hb1.alloc hb1.size _
  refine hs.mono ?_
  clear hs
  rintro e w2 ⟨rfl, hb2⟩
  have hb2 := below_then' hb1' hb2
  go_wp2_with fail
  refine (hK _ hb2).mono ?_
  rintro e w3 ⟨rfl, hb3⟩
  go_wp2_with fail
  go_ret
  exact ⟨rfl, below_then' hb2 hb3⟩

theorem cmp_beq (a b : ByteArray) : (a.toList == b.toList) = decide (cmp (bs a) (bs b) = 0) := by
  rw [ByteArray.toList_eq, ByteArray.toList_eq, Bool.eq_iff_iff, beq_iff_eq, decide_eq_true_eq, cmp_is.eq]

set_option maxRecDepth 100000 in
set_option maxHeartbeats 4000000 in
theorem lawcompare_n_le (a b c : ByteArray) (w : World) (y z : Int) (hy : y ≤ 0) (hz : z ≤ 0)
    (hK : Calls Tryd.prog 7 #[] w fun e w' => e = .returned (.bool true) ∧ Below w.heap.size w w')
    (hS : ∀ W : World, Calls Tryd.prog 8 #[.slice (some ⟨W.heap.size, 0, none⟩) 3 3] (W.alloc (.cells #[.string a, .string b, .string c] 9)) fun e w' => e = .returned (.bool true) ∧ Below W.heap.size W w')
    (hR : ∀ W : World, Calls Tryd.prog 10 #[.string a, .string b] W fun e w' => e = .returned (.int .i64 (-1)) ∧ Below W.heap.size W w')
    (h1 : ∀ W : World, Below w.heap.size w W → Calls Tryd.prog 9 #[.string a, .string b] W fun e w' => e = .returned (.int .i64 (-1)) ∧ Below W.heap.size W w')
    (h2 : ∀ W : World, Below w.heap.size w W → Calls Tryd.prog 9 #[.string b, .string a] W fun e w' => e = .returned (.int .i64 (1)) ∧ Below W.heap.size W w')
    (h3 : ∀ W : World, Below w.heap.size w W → Calls Tryd.prog 9 #[.string b, .string c] W fun e w' => e = .returned (.int .i64 y) ∧ Below W.heap.size W w')
    (h4 : ∀ W : World, Below w.heap.size w W → Calls Tryd.prog 9 #[.string a, .string c] W fun e w' => e = .returned (.int .i64 z) ∧ Below W.heap.size W w')
    (heq : (a.toList == b.toList) = false) :
    Calls Tryd.prog 3 #[.string a, .string b, .string c] w fun e w' => e = .returned (.bool true) ∧ Below w.heap.size w w' := by
  go_enter Tryd.func3, Tryd.ntmps3
  go_wp2_with fail
  refine hK.mono ?_
  rintro e w1 ⟨rfl, hb1⟩
  go_wp2_with fail
  refine (hS _).mono ?_
  rintro e w2 ⟨rfl, hb2⟩
  have hb02 := below_then' hb1 hb2
  go_wp2_with fail
  refine (h1 _ hb02).mono ?_
  rintro e w3 ⟨rfl, hb3⟩
  have hb03 := below_then' hb02 hb3
  go_wp2_with fail
  refine (hR _).mono ?_
  rintro e w4 ⟨rfl, hb4⟩
  have hb04 := below_then' hb03 hb4
  go_wp2_with fail
  refine (h2 _ hb04).mono ?_
  rintro e w5 ⟨rfl, hb5⟩
  have hb05 := below_then' hb04 hb5
  go_wp2_with fail
  refine (h3 _ hb05).mono ?_
  rintro e w6 ⟨rfl, hb6⟩
  have hb06 := below_then' hb05 hb6
  go_wp2_with fail
  refine (h4 _ hb06).mono ?_
  rintro e w7 ⟨rfl, hb7⟩
  have hb07 := below_then' hb06 hb7
  go_wp2_with fail
  go_ret
  exact ⟨rfl, hb07⟩

set_option maxRecDepth 100000 in
set_option maxHeartbeats 4000000 in
theorem lawcompare_n_gt (a b c : ByteArray) (w : World) (y z : Int) (hy : ¬ y ≤ 0)
    (hK : Calls Tryd.prog 7 #[] w fun e w' => e = .returned (.bool true) ∧ Below w.heap.size w w')
    (hS : ∀ W : World, Calls Tryd.prog 8 #[.slice (some ⟨W.heap.size, 0, none⟩) 3 3] (W.alloc (.cells #[.string a, .string b, .string c] 9)) fun e w' => e = .returned (.bool true) ∧ Below W.heap.size W w')
    (hR : ∀ W : World, Calls Tryd.prog 10 #[.string a, .string b] W fun e w' => e = .returned (.int .i64 (-1)) ∧ Below W.heap.size W w')
    (h1 : ∀ W : World, Below w.heap.size w W → Calls Tryd.prog 9 #[.string a, .string b] W fun e w' => e = .returned (.int .i64 (-1)) ∧ Below W.heap.size W w')
    (h2 : ∀ W : World, Below w.heap.size w W → Calls Tryd.prog 9 #[.string b, .string a] W fun e w' => e = .returned (.int .i64 (1)) ∧ Below W.heap.size W w')
    (h3 : ∀ W : World, Below w.heap.size w W → Calls Tryd.prog 9 #[.string b, .string c] W fun e w' => e = .returned (.int .i64 y) ∧ Below W.heap.size W w')
    (h4 : ∀ W : World, Below w.heap.size w W → Calls Tryd.prog 9 #[.string a, .string c] W fun e w' => e = .returned (.int .i64 z) ∧ Below W.heap.size W w')
    (heq : (a.toList == b.toList) = false) :
    Calls Tryd.prog 3 #[.string a, .string b, .string c] w fun e w' => e = .returned (.bool true) ∧ Below w.heap.size w w' := by
  go_enter Tryd.func3, Tryd.ntmps3
  go_wp2_with fail
  refine hK.mono ?_
  rintro e w1 ⟨rfl, hb1⟩
  go_wp2_with fail
  refine (hS _).mono ?_
  rintro e w2 ⟨rfl, hb2⟩
  have hb02 := below_then' hb1 hb2
  go_wp2_with fail
  refine (h1 _ hb02).mono ?_
  rintro e w3 ⟨rfl, hb3⟩
  have hb03 := below_then' hb02 hb3
  go_wp2_with fail
  refine (hR _).mono ?_
  rintro e w4 ⟨rfl, hb4⟩
  have hb04 := below_then' hb03 hb4
  go_wp2_with fail
  refine (h2 _ hb04).mono ?_
  rintro e w5 ⟨rfl, hb5⟩
  have hb05 := below_then' hb04 hb5
  go_wp2_with fail
  refine (h3 _ hb05).mono ?_
  rintro e w6 ⟨rfl, hb6⟩
  have hb06 := below_then' hb05 hb6
  go_wp2_with fail
  go_ret
  exact ⟨rfl, hb06⟩

set_option maxRecDepth 100000 in
set_option maxHeartbeats 4000000 in
theorem lawcompare_z_le (a b c : ByteArray) (w : World) (y z : Int) (hy : y ≤ 0) (hz : z ≤ 0)
    (hK : Calls Tryd.prog 7 #[] w fun e w' => e = .returned (.bool true) ∧ Below w.heap.size w w')
    (hS : ∀ W : World, Calls Tryd.prog 8 #[.slice (some ⟨W.heap.size, 0, none⟩) 3 3] (W.alloc (.cells #[.string a, .string b, .string c] 9)) fun e w' => e = .returned (.bool true) ∧ Below W.heap.size W w')
    (hR : ∀ W : World, Calls Tryd.prog 10 #[.string a, .string b] W fun e w' => e = .returned (.int .i64 (0)) ∧ Below W.heap.size W w')
    (h1 : ∀ W : World, Below w.heap.size w W → Calls Tryd.prog 9 #[.string a, .string b] W fun e w' => e = .returned (.int .i64 (0)) ∧ Below W.heap.size W w')
    (h2 : ∀ W : World, Below w.heap.size w W → Calls Tryd.prog 9 #[.string b, .string a] W fun e w' => e = .returned (.int .i64 (0)) ∧ Below W.heap.size W w')
    (h3 : ∀ W : World, Below w.heap.size w W → Calls Tryd.prog 9 #[.string b, .string c] W fun e w' => e = .returned (.int .i64 y) ∧ Below W.heap.size W w')
    (h4 : ∀ W : World, Below w.heap.size w W → Calls Tryd.prog 9 #[.string a, .string c] W fun e w' => e = .returned (.int .i64 z) ∧ Below W.heap.size W w')
    (heq : (a.toList == b.toList) = true) :
    Calls Tryd.prog 3 #[.string a, .string b, .string c] w fun e w' => e = .returned (.bool true) ∧ Below w.heap.size w w' := by
  go_enter Tryd.func3, Tryd.ntmps3
  go_wp2_with fail
  refine hK.mono ?_
  rintro e w1 ⟨rfl, hb1⟩
  go_wp2_with fail
  refine (hS _).mono ?_
  rintro e w2 ⟨rfl, hb2⟩
  have hb02 := below_then' hb1 hb2
  go_wp2_with fail
  refine (h1 _ hb02).mono ?_
  rintro e w3 ⟨rfl, hb3⟩
  have hb03 := below_then' hb02 hb3
  go_wp2_with fail
  refine (hR _).mono ?_
  rintro e w4 ⟨rfl, hb4⟩
  have hb04 := below_then' hb03 hb4
  go_wp2_with fail
  refine (h2 _ hb04).mono ?_
  rintro e w5 ⟨rfl, hb5⟩
  have hb05 := below_then' hb04 hb5
  go_wp2_with fail
  refine (h3 _ hb05).mono ?_
  rintro e w6 ⟨rfl, hb6⟩
  have hb06 := below_then' hb05 hb6
  go_wp2_with fail
  refine (h4 _ hb06).mono ?_
  rintro e w7 ⟨rfl, hb7⟩
  have hb07 := below_then' hb06 hb7
  go_wp2_with fail
  go_ret
  exact ⟨rfl, hb07⟩

set_option maxRecDepth 100000 in
set_option maxHeartbeats 4000000 in
theorem lawcompare_z_gt (a b c : ByteArray) (w : World) (y z : Int) (hy : ¬ y ≤ 0)
    (hK : Calls Tryd.prog 7 #[] w fun e w' => e = .returned (.bool true) ∧ Below w.heap.size w w')
    (hS : ∀ W : World, Calls Tryd.prog 8 #[.slice (some ⟨W.heap.size, 0, none⟩) 3 3] (W.alloc (.cells #[.string a, .string b, .string c] 9)) fun e w' => e = .returned (.bool true) ∧ Below W.heap.size W w')
    (hR : ∀ W : World, Calls Tryd.prog 10 #[.string a, .string b] W fun e w' => e = .returned (.int .i64 (0)) ∧ Below W.heap.size W w')
    (h1 : ∀ W : World, Below w.heap.size w W → Calls Tryd.prog 9 #[.string a, .string b] W fun e w' => e = .returned (.int .i64 (0)) ∧ Below W.heap.size W w')
    (h2 : ∀ W : World, Below w.heap.size w W → Calls Tryd.prog 9 #[.string b, .string a] W fun e w' => e = .returned (.int .i64 (0)) ∧ Below W.heap.size W w')
    (h3 : ∀ W : World, Below w.heap.size w W → Calls Tryd.prog 9 #[.string b, .string c] W fun e w' => e = .returned (.int .i64 y) ∧ Below W.heap.size W w')
    (h4 : ∀ W : World, Below w.heap.size w W → Calls Tryd.prog 9 #[.string a, .string c] W fun e w' => e = .returned (.int .i64 z) ∧ Below W.heap.size W w')
    (heq : (a.toList == b.toList) = true) :
    Calls Tryd.prog 3 #[.string a, .string b, .string c] w fun e w' => e = .returned (.bool true) ∧ Below w.heap.size w w' := by
  go_enter Tryd.func3, Tryd.ntmps3
  go_wp2_with fail
  refine hK.mono ?_
  rintro e w1 ⟨rfl, hb1⟩
  go_wp2_with fail
  refine (hS _).mono ?_
  rintro e w2 ⟨rfl, hb2⟩
  have hb02 := below_then' hb1 hb2
  go_wp2_with fail
  refine (h1 _ hb02).mono ?_
  rintro e w3 ⟨rfl, hb3⟩
  have hb03 := below_then' hb02 hb3
  go_wp2_with fail
  refine (hR _).mono ?_
  rintro e w4 ⟨rfl, hb4⟩
  have hb04 := below_then' hb03 hb4
  go_wp2_with fail
  refine (h2 _ hb04).mono ?_
  rintro e w5 ⟨rfl, hb5⟩
  have hb05 := below_then' hb04 hb5
  go_wp2_with fail
  refine (h3 _ hb05).mono ?_
  rintro e w6 ⟨rfl, hb6⟩
  have hb06 := below_then' hb05 hb6
  go_wp2_with fail
  go_ret
  exact ⟨rfl, hb06⟩

set_option maxRecDepth 100000 in
set_option maxHeartbeats 4000000 in
theorem lawcompare_p (a b c : ByteArray) (w : World) (y z : Int)
    (hK : Calls Tryd.prog 7 #[] w fun e w' => e = .returned (.bool true) ∧ Below w.heap.size w w')
    (hS : ∀ W : World, Calls Tryd.prog 8 #[.slice (some ⟨W.heap.size, 0, none⟩) 3 3] (W.alloc (.cells #[.string a, .string b, .string c] 9)) fun e w' => e = .returned (.bool true) ∧ Below W.heap.size W w')
    (hR : ∀ W : World, Calls Tryd.prog 10 #[.string a, .string b] W fun e w' => e = .returned (.int .i64 (1)) ∧ Below W.heap.size W w')
    (h1 : ∀ W : World, Below w.heap.size w W → Calls Tryd.prog 9 #[.string a, .string b] W fun e w' => e = .returned (.int .i64 (1)) ∧ Below W.heap.size W w')
    (h2 : ∀ W : World, Below w.heap.size w W → Calls Tryd.prog 9 #[.string b, .string a] W fun e w' => e = .returned (.int .i64 (-1)) ∧ Below W.heap.size W w')
    (h3 : ∀ W : World, Below w.heap.size w W → Calls Tryd.prog 9 #[.string b, .string c] W fun e w' => e = .returned (.int .i64 y) ∧ Below W.heap.size W w')
    (h4 : ∀ W : World, Below w.heap.size w W → Calls Tryd.prog 9 #[.string a, .string c] W fun e w' => e = .returned (.int .i64 z) ∧ Below W.heap.size W w')
    (heq : (a.toList == b.toList) = false) :
    Calls Tryd.prog 3 #[.string a, .string b, .string c] w fun e w' => e = .returned (.bool true) ∧ Below w.heap.size w w' := by
  go_enter Tryd.func3, Tryd.ntmps3
  go_wp2_with fail
  refine hK.mono ?_
  rintro e w1 ⟨rfl, hb1⟩
  go_wp2_with fail
  refine (hS _).mono ?_
  rintro e w2 ⟨rfl, hb2⟩
  have hb02 := below_then' hb1 hb2
  go_wp2_with fail
  refine (h1 _ hb02).mono ?_
  rintro e w3 ⟨rfl, hb3⟩
  have hb03 := below_then' hb02 hb3
  go_wp2_with fail
  refine (hR _).mono ?_
  rintro e w4 ⟨rfl, hb4⟩
  have hb04 := below_then' hb03 hb4
  go_wp2_with fail
  refine (h2 _ hb04).mono ?_
  rintro e w5 ⟨rfl, hb5⟩
  have hb05 := below_then' hb04 hb5
  go_wp2_with fail
  go_ret
  exact ⟨rfl, hb05⟩

theorem lawcompare_any (a b c : ByteArray) (w : World) (hM : ML w) : GivesB Tryd.prog 3 #[.string a, .string b, .string c] (.bool true) w := by
  by_cases h : shortB ([a, b, c].map bs) = true
  · obtain ⟨ha, hbz, hcz⟩ := short3 h
    have hK := known_any w hM
    have hS := fun (W : World) => short_any (some ⟨W.heap.size, 0, none⟩) 3 3 [a, b, c] (W.alloc (.cells #[.string a, .string b, .string c] 9)) rfl (SS.new W [a, b, c] 9)
    have hS' := fun (W : World) => (hS W).mono fun e w' (hh : _ ∧ _) => (⟨hh.1.trans (by rw [h]), ((Below.refl _ W).alloc (Nat.le_refl _) _).trans (hh.2.mono (by simp))⟩ : e = .returned (.bool true) ∧ Below W.heap.size W w')
    have hR := fun (W : World) => rcompare_any a b W (by omega) (by omega)
    have h1 := fun (W : World) (hb : Below w.heap.size w W) => gcompare_any a b W (by omega) (by omega) (hM.below hb)
    have h2 := fun (W : World) (hb : Below w.heap.size w W) => gcompare_any b a W (by omega) (by omega) (hM.below hb)
    have h3 := fun (W : World) (hb : Below w.heap.size w W) => gcompare_any b c W (by omega) (by omega) (hM.below hb)
    have h4 := fun (W : World) (hb : Below w.heap.size w W) => gcompare_any a c W (by omega) (by omega) (hM.below hb)
    rw [cmp_is.neg (bs a) (bs b)] at h2
    have hrng := cmp_is.rng (bs a) (bs b)
    have htr : cmp (bs a) (bs b) ≤ 0 → cmp (bs b) (bs c) ≤ 0 → cmp (bs a) (bs c) ≤ 0 := cmp_is.transLe
    have heq := cmp_beq a b
    unfold GivesB at *
    by_cases hy : cmp (bs b) (bs c) ≤ 0
    · rcases hrng with hx | hx | hx
      · rw [hx] at h1 h2 hR heq htr
        exact lawcompare_n_le a b c w _ _ hy (htr (by decide) hy) hK hS' hR h1 h2 h3 h4 heq
      · rw [hx] at h1 h2 hR heq htr
        exact lawcompare_z_le a b c w _ _ hy (htr (by decide) hy) hK hS' hR h1 h2 h3 h4 heq
      · rw [hx] at h1 h2 hR heq
        exact lawcompare_p a b c w _ _ hK hS' hR h1 h2 h3 h4 heq
    · rcases hrng with hx | hx | hx
      · rw [hx] at h1 h2 hR heq
        exact lawcompare_n_gt a b c w _ _ hy hK hS' hR h1 h2 h3 h4 heq
      · rw [hx] at h1 h2 hR heq
        exact lawcompare_z_gt a b c w _ _ hy hK hS' hR h1 h2 h3 h4 heq
      · rw [hx] at h1 h2 hR heq
        exact lawcompare_p a b c w _ _ hK hS' hR h1 h2 h3 h4 heq
  · exact lawcompare_long a b c w hM (by simpa using h)

end Go.Proofs.YtbgkepdnemgkdaaDoor
