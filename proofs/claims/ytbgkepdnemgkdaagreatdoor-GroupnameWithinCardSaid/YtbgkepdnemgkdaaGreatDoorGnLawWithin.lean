/- Walk of the law GroupnameWithin: for any three strings it returns true, where the library cell MaxLen holds some number. -/
import Derived.Test.YtbgkepdnemgkdaaGreatDoorGnRefCommon
namespace Go.Proofs.YtbgkepdnemgkdaaGreatDoor
open Go.RowKit Go.Gn

theorem within_self (s : Str) : withinB s s = decide (check s = 0) := by
  unfold withinB below
  by_cases h : check s = 0 <;> simp [h]
theorem within_checks {s h : Str} (hw : withinB s h = true) : check s = 0 ∧ check h = 0 ∧ parts 46 h <+: parts 46 s := by
  unfold withinB below at hw
  rw [Bool.and_eq_true, Bool.and_eq_true, decide_eq_true_eq, decide_eq_true_eq, List.isPrefixOf_iff_prefix] at hw
  exact hw
theorem within_mk {s h : Str} (h1 : check s = 0) (h2 : check h = 0) (h3 : parts 46 h <+: parts 46 s) : withinB s h = true := by
  unfold withinB below
  rw [h1, h2]
  simpa using h3
theorem within_antisymm {s h : Str} (h1 : withinB s h = true) (h2 : withinB h s = true) : s = h :=
  parts_inj 46 ((within_checks h2).2.2.eq_of_length_le (within_checks h1).2.2.length_le)
theorem within_trans {a b c : Str} (h1 : withinB a b = true) (h2 : withinB b c = true) : withinB a c = true :=
  within_mk (within_checks h1).1 (within_checks h2).2.1 ((within_checks h2).2.2.trans (within_checks h1).2.2)
theorem common_eq_take {s t : Str} : common s t = text 46 ((parts 46 s).take (lcp (parts 46 s) (parts 46 t)).length) := by
  rw [← List.prefix_iff_eq_take.1 (lcp_left (parts 46 s) (parts 46 t))]; rfl
theorem within_common {a b c : Str} (h1 : withinB a c = true) (h2 : withinB b c = true) : withinB (common a b) c = true := by
  obtain ⟨ha, hc, p1⟩ := within_checks h1
  obtain ⟨hb, _, p2⟩ := within_checks h2
  have hp := prefix_lcp p1 p2
  have h0 : 1 ≤ (lcp (parts 46 a) (parts 46 b)).length := by
    have := hp.length_le
    have h0 : (parts 46 c).length ≠ 0 := fun e => parts_ne_nil 46 c (List.eq_nil_of_length_eq_zero e)
    omega
  rw [common_eq_take]
  refine within_mk (check_text_take ha h0) hc ?_
  rw [parts_text_take h0, ← List.prefix_iff_eq_take.1 (lcp_left (parts 46 a) (parts 46 b))]
  exact hp
theorem common_size (s t : ByteArray) (h : s.size ≤ 120) : (mkS (common (bs s) (bs t))).size ≤ 120 := by
  rw [size_mkS, common_eq_take]
  have := text_take_len (bs s) (lcp (parts 46 (bs s)) (parts 46 (bs t))).length
  rw [len_bs] at this
  omega
theorem common_some {s t : Str} (hs : check s = 0) (h : lcp (parts 46 s) (parts 46 t) ≠ []) : (!(mkS (common s t)).toList.isEmpty) = true := by
  have h0 : 1 ≤ (lcp (parts 46 s) (parts 46 t)).length := by
    cases hl : lcp (parts 46 s) (parts 46 t) with
    | nil => exact absurd hl h
    | cons x y => simp
  have hc := check_text_take hs h0
  rw [← common_eq_take] at hc
  rw [ByteArray.toList_eq]
  cases hl : common s t with
  | nil => rw [hl] at hc; exact absurd hc (by decide)
  | cons x y => rfl
theorem common_none {s t : Str} (h : lcp (parts 46 s) (parts 46 t) = []) : mkS (common s t) = ⟨#[]⟩ := by
  unfold common; rw [h]; rfl

theorem short3 {a b c : ByteArray} (h : shortB ([a, b, c].map bs) = true) : a.size ≤ 120 ∧ b.size ≤ 120 ∧ c.size ≤ 120 := by
  have := (shortB_true h).2
  simp only [List.map_cons, List.map_nil, List.mem_cons, List.not_mem_nil, or_false, forall_eq_or_imp, forall_eq, len_bs] at this
  exact this

set_option maxRecDepth 100000 in
set_option maxHeartbeats 1000000 in
theorem lawwithin_long (a b c : ByteArray) (w : World) (hM : ML w) (hs : shortB ([a, b, c].map bs) = false) : GivesB Tryz.prog 6 #[.string a, .string b, .string c] (.bool true) w := by
  have hK := fun (W : World) (hb : Below w.heap.size w W) => known_any W (hM.below hb)
  unfold GivesB at hK ⊢
  clear hM
  go_enter Tryz.func6, Tryz.ntmps6
  go_wp2_with fail
  refine (hK _ (Below.refl _ _)).mono ?_
  rintro e w1 ⟨rfl, hb1⟩
  go_wp2_with fail
  have hss := short_any (some ⟨w1.heap.size, 0, none⟩) 3 3 [a, b, c] (w1.alloc (.cells #[.string a, .string b, .string c] 9)) rfl (SS.new w1 [a, b, c] 9)
  rw [hs] at hss
  have hb1' : Below w.heap.size w (w1.alloc (.cells #[.string a, .string b, .string c] 9)) := hb1.alloc hb1.size _
  refine hss.mono ?_
  clear hss
  rintro e w2 ⟨rfl, hb2⟩
  have hb2 := below_then' hb1' hb2
  go_wp2_with fail
  refine (hK _ hb2).mono ?_
  rintro e w3 ⟨rfl, hb3⟩
  go_wp2_with fail
  go_ret
  exact ⟨rfl, below_then' hb2 hb3⟩

set_option maxRecDepth 100000 in
set_option maxHeartbeats 8000000 in
theorem lawwithin_ok_0tttt (a b c : ByteArray) (w : World) (hM : ML w) (hs : shortB ([a, b, c].map bs) = true) (hka : check (bs a) = 0) (hkb : check (bs b) = 0) (hl : lcp (parts 46 (bs a)) (parts 46 (bs b)) ≠ []) (hab : withinB (bs a) (bs b) = true) (hba : withinB (bs b) (bs a) = true) (hbc : withinB (bs b) (bs c) = true) (hac : withinB (bs a) (bs c) = true) : GivesB Tryz.prog 6 #[.string a, .string b, .string c] (.bool true) w := by
  obtain ⟨ha, hbz, hcz⟩ := short3 hs
  have hK := known_any w hM
  have hS := fun (W : World) => short_any (some ⟨W.heap.size, 0, none⟩) 3 3 [a, b, c] (W.alloc (.cells #[.string a, .string b, .string c] 9)) rfl (SS.new W [a, b, c] 9)
  have hS' := fun (W : World) => (hS W).mono fun e w' (hh : _ ∧ _) => (⟨hh.1.trans (by rw [hs]), ((Below.refl _ W).alloc (Nat.le_refl _) _).trans (hh.2.mono (by simp))⟩ : e = .returned (.bool true) ∧ Below W.heap.size W w')
  have hWab := fun (W : World) (hb : Below w.heap.size w W) => within_any a b W (by omega) (by omega) (hM.below hb)
  have hWaa := fun (W : World) (hb : Below w.heap.size w W) => within_any a a W (by omega) (by omega) (hM.below hb)
  have hWba := fun (W : World) (hb : Below w.heap.size w W) => within_any b a W (by omega) (by omega) (hM.below hb)
  have hWbc := fun (W : World) (hb : Below w.heap.size w W) => within_any b c W (by omega) (by omega) (hM.below hb)
  have hWac := fun (W : World) (hb : Below w.heap.size w W) => within_any a c W (by omega) (by omega) (hM.below hb)
  have hRab := fun (W : World) (_ : Below w.heap.size w W) => rwithin_any a b W (by omega) (by omega)
  have hRa := fun (W : World) (_ : Below w.heap.size w W) => rcheck_any a W (by omega)
  have hRb := fun (W : World) (_ : Below w.heap.size w W) => rcheck_any b W (by omega)
  have hCo := fun (W : World) (hb : Below w.heap.size w W) => gcommon_ok a b W (by omega) (by omega) (hM.below hb) hka hkb
  have hRc := fun (W : World) (_ : Below w.heap.size w W) => rcommon_any a b W hka hkb
  have hcs := common_size a b ha
  have hWhc := fun (W : World) (hb : Below w.heap.size w W) => within_any (mkS (common (bs a) (bs b))) c W (by omega) (by omega) (hM.below hb)
  have hwc := fun h1 h2 => within_common (a := bs a) (b := bs b) (c := bs c) h1 h2
  rw [bs_mk] at hWhc
  rw [within_self, hka] at hWaa
  rw [hka] at hRa
  rw [hkb] at hRb
  change ∀ (W : World), Below w.heap.size w W → GivesB _ _ _ (.tuple #[.string (mkS (common (bs a) (bs b))), _]) W at hCo
  rw [hab] at hWab hRab
  rw [hba] at hWba
  rw [hbc] at hWbc
  rw [hac] at hWac
  rw [hwc hac hbc] at hWhc
  clear hwc
  have heq : (a.toList == b.toList) = true := by rw [ByteArray.toList_eq, ByteArray.toList_eq, beq_iff_eq]; exact within_antisymm hab hba
  have hcc := common_some (t := bs b) hka hl
  rw [decide_eq_true hl] at hCo
  generalize mkS (common (bs a) (bs b)) = hh at *
  clear hl
  clear ha hbz hcz hM hS hs hka hkb hab hac hba hbc
  unfold GivesB at *
  go_enter Tryz.func6, Tryz.ntmps6
  go_wp2_with fail
  refine hK.mono ?_
  rintro e w1 ⟨rfl, hb1⟩
  go_wp2_with fail
  refine (hS' _).mono ?_
  rintro e w2 ⟨rfl, hb2⟩
  have hq2 := below_then' hb1 hb2
  clear hb1 hb2 hK hS'
  go_wp2_with fail
  refine (hWab _ hq2).mono ?_
  rintro e w3 ⟨rfl, hb3⟩
  have hq3 := below_then' hq2 hb3
  clear hb3 hq2
  go_wp2_with fail
  refine (hRab _ hq3).mono ?_
  rintro e w4 ⟨rfl, hb4⟩
  have hq4 := below_then' hq3 hb4
  clear hb4 hq3
  go_wp2_with fail
  refine (hWaa _ hq4).mono ?_
  rintro e w5 ⟨rfl, hb5⟩
  have hq5 := below_then' hq4 hb5
  clear hb5 hq4
  go_wp2_with fail
  refine (hRa _ hq5).mono ?_
  rintro e w6 ⟨rfl, hb6⟩
  have hq6 := below_then' hq5 hb6
  clear hb6 hq5
  go_wp2_with fail
  refine (hWab _ hq6).mono ?_
  rintro e w7 ⟨rfl, hb7⟩
  have hq7 := below_then' hq6 hb7
  clear hb7 hq6
  go_wp2_with fail
  refine (hWba _ hq7).mono ?_
  rintro e w8 ⟨rfl, hb8⟩
  have hq8 := below_then' hq7 hb8
  clear hb8 hq7
  go_wp2_with fail
  refine (hWab _ hq8).mono ?_
  rintro e w9 ⟨rfl, hb9⟩
  have hq9 := below_then' hq8 hb9
  clear hb9 hq8
  go_wp2_with fail
  refine (hWbc _ hq9).mono ?_
  rintro e w10 ⟨rfl, hb10⟩
  have hq10 := below_then' hq9 hb10
  clear hb10 hq9
  go_wp2_with fail
  refine (hWac _ hq10).mono ?_
  rintro e w11 ⟨rfl, hb11⟩
  have hq11 := below_then' hq10 hb11
  clear hb11 hq10
  go_wp2_with fail
  refine (hCo _ hq11).mono ?_
  rintro e w12 ⟨rfl, hb12⟩
  have hq12 := below_then' hq11 hb12
  clear hb12 hq11
  go_wp2_with fail
  refine (hRa _ hq12).mono ?_
  rintro e w13 ⟨rfl, hb13⟩
  have hq13 := below_then' hq12 hb13
  clear hb13 hq12
  go_wp2_with fail
  refine (hRb _ hq13).mono ?_
  rintro e w14 ⟨rfl, hb14⟩
  have hq14 := below_then' hq13 hb14
  clear hb14 hq13
  go_wp2_with fail
  refine (hRc _ hq14).mono ?_
  rintro e w15 ⟨rfl, hb15⟩
  have hq15 := below_then' hq14 hb15
  clear hb15 hq14
  go_wp2_with fail
  refine (hWac _ hq15).mono ?_
  rintro e w16 ⟨rfl, hb16⟩
  have hq16 := below_then' hq15 hb16
  clear hb16 hq15
  go_wp2_with fail
  refine (hWbc _ hq16).mono ?_
  rintro e w17 ⟨rfl, hb17⟩
  have hq17 := below_then' hq16 hb17
  clear hb17 hq16
  go_wp2_with fail
  refine (hWhc _ hq17).mono ?_
  rintro e w18 ⟨rfl, hb18⟩
  have hq18 := below_then' hq17 hb18
  clear hb18 hq17
  go_wp2_with fail
  go_ret
  exact ⟨rfl, hq18⟩
set_option maxRecDepth 100000 in
set_option maxHeartbeats 8000000 in
theorem lawwithin_ok_0tftt (a b c : ByteArray) (w : World) (hM : ML w) (hs : shortB ([a, b, c].map bs) = true) (hka : check (bs a) = 0) (hkb : check (bs b) = 0) (hl : lcp (parts 46 (bs a)) (parts 46 (bs b)) ≠ []) (hab : withinB (bs a) (bs b) = true) (hba : withinB (bs b) (bs a) = false) (hbc : withinB (bs b) (bs c) = true) (hac : withinB (bs a) (bs c) = true) : GivesB Tryz.prog 6 #[.string a, .string b, .string c] (.bool true) w := by
  obtain ⟨ha, hbz, hcz⟩ := short3 hs
  have hK := known_any w hM
  have hS := fun (W : World) => short_any (some ⟨W.heap.size, 0, none⟩) 3 3 [a, b, c] (W.alloc (.cells #[.string a, .string b, .string c] 9)) rfl (SS.new W [a, b, c] 9)
  have hS' := fun (W : World) => (hS W).mono fun e w' (hh : _ ∧ _) => (⟨hh.1.trans (by rw [hs]), ((Below.refl _ W).alloc (Nat.le_refl _) _).trans (hh.2.mono (by simp))⟩ : e = .returned (.bool true) ∧ Below W.heap.size W w')
  have hWab := fun (W : World) (hb : Below w.heap.size w W) => within_any a b W (by omega) (by omega) (hM.below hb)
  have hWaa := fun (W : World) (hb : Below w.heap.size w W) => within_any a a W (by omega) (by omega) (hM.below hb)
  have hWba := fun (W : World) (hb : Below w.heap.size w W) => within_any b a W (by omega) (by omega) (hM.below hb)
  have hWbc := fun (W : World) (hb : Below w.heap.size w W) => within_any b c W (by omega) (by omega) (hM.below hb)
  have hWac := fun (W : World) (hb : Below w.heap.size w W) => within_any a c W (by omega) (by omega) (hM.below hb)
  have hRab := fun (W : World) (_ : Below w.heap.size w W) => rwithin_any a b W (by omega) (by omega)
  have hRa := fun (W : World) (_ : Below w.heap.size w W) => rcheck_any a W (by omega)
  have hRb := fun (W : World) (_ : Below w.heap.size w W) => rcheck_any b W (by omega)
  have hCo := fun (W : World) (hb : Below w.heap.size w W) => gcommon_ok a b W (by omega) (by omega) (hM.below hb) hka hkb
  have hRc := fun (W : World) (_ : Below w.heap.size w W) => rcommon_any a b W hka hkb
  have hcs := common_size a b ha
  have hWhc := fun (W : World) (hb : Below w.heap.size w W) => within_any (mkS (common (bs a) (bs b))) c W (by omega) (by omega) (hM.below hb)
  have hwc := fun h1 h2 => within_common (a := bs a) (b := bs b) (c := bs c) h1 h2
  rw [bs_mk] at hWhc
  rw [within_self, hka] at hWaa
  rw [hka] at hRa
  rw [hkb] at hRb
  change ∀ (W : World), Below w.heap.size w W → GivesB _ _ _ (.tuple #[.string (mkS (common (bs a) (bs b))), _]) W at hCo
  rw [hab] at hWab hRab
  rw [hba] at hWba
  rw [hbc] at hWbc
  rw [hac] at hWac
  rw [hwc hac hbc] at hWhc
  clear hwc
  have hcc := common_some (t := bs b) hka hl
  rw [decide_eq_true hl] at hCo
  generalize mkS (common (bs a) (bs b)) = hh at *
  clear hl
  clear ha hbz hcz hM hS hs hka hkb hab hac hba hbc
  unfold GivesB at *
  go_enter Tryz.func6, Tryz.ntmps6
  go_wp2_with fail
  refine hK.mono ?_
  rintro e w1 ⟨rfl, hb1⟩
  go_wp2_with fail
  refine (hS' _).mono ?_
  rintro e w2 ⟨rfl, hb2⟩
  have hq2 := below_then' hb1 hb2
  clear hb1 hb2 hK hS'
  go_wp2_with fail
  refine (hWab _ hq2).mono ?_
  rintro e w3 ⟨rfl, hb3⟩
  have hq3 := below_then' hq2 hb3
  clear hb3 hq2
  go_wp2_with fail
  refine (hRab _ hq3).mono ?_
  rintro e w4 ⟨rfl, hb4⟩
  have hq4 := below_then' hq3 hb4
  clear hb4 hq3
  go_wp2_with fail
  refine (hWaa _ hq4).mono ?_
  rintro e w5 ⟨rfl, hb5⟩
  have hq5 := below_then' hq4 hb5
  clear hb5 hq4
  go_wp2_with fail
  refine (hRa _ hq5).mono ?_
  rintro e w6 ⟨rfl, hb6⟩
  have hq6 := below_then' hq5 hb6
  clear hb6 hq5
  go_wp2_with fail
  refine (hWab _ hq6).mono ?_
  rintro e w7 ⟨rfl, hb7⟩
  have hq7 := below_then' hq6 hb7
  clear hb7 hq6
  go_wp2_with fail
  refine (hWba _ hq7).mono ?_
  rintro e w8 ⟨rfl, hb8⟩
  have hq8 := below_then' hq7 hb8
  clear hb8 hq7
  go_wp2_with fail
  refine (hWab _ hq8).mono ?_
  rintro e w9 ⟨rfl, hb9⟩
  have hq9 := below_then' hq8 hb9
  clear hb9 hq8
  go_wp2_with fail
  refine (hWbc _ hq9).mono ?_
  rintro e w10 ⟨rfl, hb10⟩
  have hq10 := below_then' hq9 hb10
  clear hb10 hq9
  go_wp2_with fail
  refine (hWac _ hq10).mono ?_
  rintro e w11 ⟨rfl, hb11⟩
  have hq11 := below_then' hq10 hb11
  clear hb11 hq10
  go_wp2_with fail
  refine (hCo _ hq11).mono ?_
  rintro e w12 ⟨rfl, hb12⟩
  have hq12 := below_then' hq11 hb12
  clear hb12 hq11
  go_wp2_with fail
  refine (hRa _ hq12).mono ?_
  rintro e w13 ⟨rfl, hb13⟩
  have hq13 := below_then' hq12 hb13
  clear hb13 hq12
  go_wp2_with fail
  refine (hRb _ hq13).mono ?_
  rintro e w14 ⟨rfl, hb14⟩
  have hq14 := below_then' hq13 hb14
  clear hb14 hq13
  go_wp2_with fail
  refine (hRc _ hq14).mono ?_
  rintro e w15 ⟨rfl, hb15⟩
  have hq15 := below_then' hq14 hb15
  clear hb15 hq14
  go_wp2_with fail
  refine (hWac _ hq15).mono ?_
  rintro e w16 ⟨rfl, hb16⟩
  have hq16 := below_then' hq15 hb16
  clear hb16 hq15
  go_wp2_with fail
  refine (hWbc _ hq16).mono ?_
  rintro e w17 ⟨rfl, hb17⟩
  have hq17 := below_then' hq16 hb17
  clear hb17 hq16
  go_wp2_with fail
  refine (hWhc _ hq17).mono ?_
  rintro e w18 ⟨rfl, hb18⟩
  have hq18 := below_then' hq17 hb18
  clear hb18 hq17
  go_wp2_with fail
  go_ret
  exact ⟨rfl, hq18⟩
set_option maxRecDepth 100000 in
set_option maxHeartbeats 8000000 in
theorem lawwithin_ok_0ttft (a b c : ByteArray) (w : World) (hM : ML w) (hs : shortB ([a, b, c].map bs) = true) (hka : check (bs a) = 0) (hkb : check (bs b) = 0) (hl : lcp (parts 46 (bs a)) (parts 46 (bs b)) ≠ []) (hab : withinB (bs a) (bs b) = true) (hba : withinB (bs b) (bs a) = true) (hbc : withinB (bs b) (bs c) = false) (hac : withinB (bs a) (bs c) = true) : GivesB Tryz.prog 6 #[.string a, .string b, .string c] (.bool true) w := by
  obtain ⟨ha, hbz, hcz⟩ := short3 hs
  have hK := known_any w hM
  have hS := fun (W : World) => short_any (some ⟨W.heap.size, 0, none⟩) 3 3 [a, b, c] (W.alloc (.cells #[.string a, .string b, .string c] 9)) rfl (SS.new W [a, b, c] 9)
  have hS' := fun (W : World) => (hS W).mono fun e w' (hh : _ ∧ _) => (⟨hh.1.trans (by rw [hs]), ((Below.refl _ W).alloc (Nat.le_refl _) _).trans (hh.2.mono (by simp))⟩ : e = .returned (.bool true) ∧ Below W.heap.size W w')
  have hWab := fun (W : World) (hb : Below w.heap.size w W) => within_any a b W (by omega) (by omega) (hM.below hb)
  have hWaa := fun (W : World) (hb : Below w.heap.size w W) => within_any a a W (by omega) (by omega) (hM.below hb)
  have hWba := fun (W : World) (hb : Below w.heap.size w W) => within_any b a W (by omega) (by omega) (hM.below hb)
  have hWbc := fun (W : World) (hb : Below w.heap.size w W) => within_any b c W (by omega) (by omega) (hM.below hb)
  have hWac := fun (W : World) (hb : Below w.heap.size w W) => within_any a c W (by omega) (by omega) (hM.below hb)
  have hRab := fun (W : World) (_ : Below w.heap.size w W) => rwithin_any a b W (by omega) (by omega)
  have hRa := fun (W : World) (_ : Below w.heap.size w W) => rcheck_any a W (by omega)
  have hRb := fun (W : World) (_ : Below w.heap.size w W) => rcheck_any b W (by omega)
  have hCo := fun (W : World) (hb : Below w.heap.size w W) => gcommon_ok a b W (by omega) (by omega) (hM.below hb) hka hkb
  have hRc := fun (W : World) (_ : Below w.heap.size w W) => rcommon_any a b W hka hkb
  have hcs := common_size a b ha
  have hWhc := fun (W : World) (hb : Below w.heap.size w W) => within_any (mkS (common (bs a) (bs b))) c W (by omega) (by omega) (hM.below hb)
  have hwc := fun h1 h2 => within_common (a := bs a) (b := bs b) (c := bs c) h1 h2
  rw [bs_mk] at hWhc
  rw [within_self, hka] at hWaa
  rw [hka] at hRa
  rw [hkb] at hRb
  change ∀ (W : World), Below w.heap.size w W → GivesB _ _ _ (.tuple #[.string (mkS (common (bs a) (bs b))), _]) W at hCo
  rw [hab] at hWab hRab
  rw [hba] at hWba
  rw [hbc] at hWbc
  rw [hac] at hWac
  clear hwc
  have heq : (a.toList == b.toList) = true := by rw [ByteArray.toList_eq, ByteArray.toList_eq, beq_iff_eq]; exact within_antisymm hab hba
  have hcc := common_some (t := bs b) hka hl
  rw [decide_eq_true hl] at hCo
  generalize mkS (common (bs a) (bs b)) = hh at *
  clear hl
  clear ha hbz hcz hM hS hs hka hkb hab hac hba hbc
  unfold GivesB at *
  go_enter Tryz.func6, Tryz.ntmps6
  go_wp2_with fail
  refine hK.mono ?_
  rintro e w1 ⟨rfl, hb1⟩
  go_wp2_with fail
  refine (hS' _).mono ?_
  rintro e w2 ⟨rfl, hb2⟩
  have hq2 := below_then' hb1 hb2
  clear hb1 hb2 hK hS'
  go_wp2_with fail
  refine (hWab _ hq2).mono ?_
  rintro e w3 ⟨rfl, hb3⟩
  have hq3 := below_then' hq2 hb3
  clear hb3 hq2
  go_wp2_with fail
  refine (hRab _ hq3).mono ?_
  rintro e w4 ⟨rfl, hb4⟩
  have hq4 := below_then' hq3 hb4
  clear hb4 hq3
  go_wp2_with fail
  refine (hWaa _ hq4).mono ?_
  rintro e w5 ⟨rfl, hb5⟩
  have hq5 := below_then' hq4 hb5
  clear hb5 hq4
  go_wp2_with fail
  refine (hRa _ hq5).mono ?_
  rintro e w6 ⟨rfl, hb6⟩
  have hq6 := below_then' hq5 hb6
  clear hb6 hq5
  go_wp2_with fail
  refine (hWab _ hq6).mono ?_
  rintro e w7 ⟨rfl, hb7⟩
  have hq7 := below_then' hq6 hb7
  clear hb7 hq6
  go_wp2_with fail
  refine (hWba _ hq7).mono ?_
  rintro e w8 ⟨rfl, hb8⟩
  have hq8 := below_then' hq7 hb8
  clear hb8 hq7
  go_wp2_with fail
  refine (hWab _ hq8).mono ?_
  rintro e w9 ⟨rfl, hb9⟩
  have hq9 := below_then' hq8 hb9
  clear hb9 hq8
  go_wp2_with fail
  refine (hWbc _ hq9).mono ?_
  rintro e w10 ⟨rfl, hb10⟩
  have hq10 := below_then' hq9 hb10
  clear hb10 hq9
  go_wp2_with fail
  refine (hCo _ hq10).mono ?_
  rintro e w11 ⟨rfl, hb11⟩
  have hq11 := below_then' hq10 hb11
  clear hb11 hq10
  go_wp2_with fail
  refine (hRa _ hq11).mono ?_
  rintro e w12 ⟨rfl, hb12⟩
  have hq12 := below_then' hq11 hb12
  clear hb12 hq11
  go_wp2_with fail
  refine (hRb _ hq12).mono ?_
  rintro e w13 ⟨rfl, hb13⟩
  have hq13 := below_then' hq12 hb13
  clear hb13 hq12
  go_wp2_with fail
  refine (hRc _ hq13).mono ?_
  rintro e w14 ⟨rfl, hb14⟩
  have hq14 := below_then' hq13 hb14
  clear hb14 hq13
  go_wp2_with fail
  refine (hWac _ hq14).mono ?_
  rintro e w15 ⟨rfl, hb15⟩
  have hq15 := below_then' hq14 hb15
  clear hb15 hq14
  go_wp2_with fail
  refine (hWbc _ hq15).mono ?_
  rintro e w16 ⟨rfl, hb16⟩
  have hq16 := below_then' hq15 hb16
  clear hb16 hq15
  go_wp2_with fail
  go_ret
  exact ⟨rfl, hq16⟩
set_option maxRecDepth 100000 in
set_option maxHeartbeats 8000000 in
theorem lawwithin_ok_0ttff (a b c : ByteArray) (w : World) (hM : ML w) (hs : shortB ([a, b, c].map bs) = true) (hka : check (bs a) = 0) (hkb : check (bs b) = 0) (hl : lcp (parts 46 (bs a)) (parts 46 (bs b)) ≠ []) (hab : withinB (bs a) (bs b) = true) (hba : withinB (bs b) (bs a) = true) (hbc : withinB (bs b) (bs c) = false) (hac : withinB (bs a) (bs c) = false) : GivesB Tryz.prog 6 #[.string a, .string b, .string c] (.bool true) w := by
  obtain ⟨ha, hbz, hcz⟩ := short3 hs
  have hK := known_any w hM
  have hS := fun (W : World) => short_any (some ⟨W.heap.size, 0, none⟩) 3 3 [a, b, c] (W.alloc (.cells #[.string a, .string b, .string c] 9)) rfl (SS.new W [a, b, c] 9)
  have hS' := fun (W : World) => (hS W).mono fun e w' (hh : _ ∧ _) => (⟨hh.1.trans (by rw [hs]), ((Below.refl _ W).alloc (Nat.le_refl _) _).trans (hh.2.mono (by simp))⟩ : e = .returned (.bool true) ∧ Below W.heap.size W w')
  have hWab := fun (W : World) (hb : Below w.heap.size w W) => within_any a b W (by omega) (by omega) (hM.below hb)
  have hWaa := fun (W : World) (hb : Below w.heap.size w W) => within_any a a W (by omega) (by omega) (hM.below hb)
  have hWba := fun (W : World) (hb : Below w.heap.size w W) => within_any b a W (by omega) (by omega) (hM.below hb)
  have hWbc := fun (W : World) (hb : Below w.heap.size w W) => within_any b c W (by omega) (by omega) (hM.below hb)
  have hWac := fun (W : World) (hb : Below w.heap.size w W) => within_any a c W (by omega) (by omega) (hM.below hb)
  have hRab := fun (W : World) (_ : Below w.heap.size w W) => rwithin_any a b W (by omega) (by omega)
  have hRa := fun (W : World) (_ : Below w.heap.size w W) => rcheck_any a W (by omega)
  have hRb := fun (W : World) (_ : Below w.heap.size w W) => rcheck_any b W (by omega)
  have hCo := fun (W : World) (hb : Below w.heap.size w W) => gcommon_ok a b W (by omega) (by omega) (hM.below hb) hka hkb
  have hRc := fun (W : World) (_ : Below w.heap.size w W) => rcommon_any a b W hka hkb
  have hcs := common_size a b ha
  have hWhc := fun (W : World) (hb : Below w.heap.size w W) => within_any (mkS (common (bs a) (bs b))) c W (by omega) (by omega) (hM.below hb)
  have hwc := fun h1 h2 => within_common (a := bs a) (b := bs b) (c := bs c) h1 h2
  rw [bs_mk] at hWhc
  rw [within_self, hka] at hWaa
  rw [hka] at hRa
  rw [hkb] at hRb
  change ∀ (W : World), Below w.heap.size w W → GivesB _ _ _ (.tuple #[.string (mkS (common (bs a) (bs b))), _]) W at hCo
  rw [hab] at hWab hRab
  rw [hba] at hWba
  rw [hbc] at hWbc
  rw [hac] at hWac
  clear hwc
  have heq : (a.toList == b.toList) = true := by rw [ByteArray.toList_eq, ByteArray.toList_eq, beq_iff_eq]; exact within_antisymm hab hba
  have hcc := common_some (t := bs b) hka hl
  rw [decide_eq_true hl] at hCo
  generalize mkS (common (bs a) (bs b)) = hh at *
  clear hl
  clear ha hbz hcz hM hS hs hka hkb hab hac hba hbc
  unfold GivesB at *
  go_enter Tryz.func6, Tryz.ntmps6
  go_wp2_with fail
  refine hK.mono ?_
  rintro e w1 ⟨rfl, hb1⟩
  go_wp2_with fail
  refine (hS' _).mono ?_
  rintro e w2 ⟨rfl, hb2⟩
  have hq2 := below_then' hb1 hb2
  clear hb1 hb2 hK hS'
  go_wp2_with fail
  refine (hWab _ hq2).mono ?_
  rintro e w3 ⟨rfl, hb3⟩
  have hq3 := below_then' hq2 hb3
  clear hb3 hq2
  go_wp2_with fail
  refine (hRab _ hq3).mono ?_
  rintro e w4 ⟨rfl, hb4⟩
  have hq4 := below_then' hq3 hb4
  clear hb4 hq3
  go_wp2_with fail
  refine (hWaa _ hq4).mono ?_
  rintro e w5 ⟨rfl, hb5⟩
  have hq5 := below_then' hq4 hb5
  clear hb5 hq4
  go_wp2_with fail
  refine (hRa _ hq5).mono ?_
  rintro e w6 ⟨rfl, hb6⟩
  have hq6 := below_then' hq5 hb6
  clear hb6 hq5
  go_wp2_with fail
  refine (hWab _ hq6).mono ?_
  rintro e w7 ⟨rfl, hb7⟩
  have hq7 := below_then' hq6 hb7
  clear hb7 hq6
  go_wp2_with fail
  refine (hWba _ hq7).mono ?_
  rintro e w8 ⟨rfl, hb8⟩
  have hq8 := below_then' hq7 hb8
  clear hb8 hq7
  go_wp2_with fail
  refine (hWab _ hq8).mono ?_
  rintro e w9 ⟨rfl, hb9⟩
  have hq9 := below_then' hq8 hb9
  clear hb9 hq8
  go_wp2_with fail
  refine (hWbc _ hq9).mono ?_
  rintro e w10 ⟨rfl, hb10⟩
  have hq10 := below_then' hq9 hb10
  clear hb10 hq9
  go_wp2_with fail
  refine (hCo _ hq10).mono ?_
  rintro e w11 ⟨rfl, hb11⟩
  have hq11 := below_then' hq10 hb11
  clear hb11 hq10
  go_wp2_with fail
  refine (hRa _ hq11).mono ?_
  rintro e w12 ⟨rfl, hb12⟩
  have hq12 := below_then' hq11 hb12
  clear hb12 hq11
  go_wp2_with fail
  refine (hRb _ hq12).mono ?_
  rintro e w13 ⟨rfl, hb13⟩
  have hq13 := below_then' hq12 hb13
  clear hb13 hq12
  go_wp2_with fail
  refine (hRc _ hq13).mono ?_
  rintro e w14 ⟨rfl, hb14⟩
  have hq14 := below_then' hq13 hb14
  clear hb14 hq13
  go_wp2_with fail
  refine (hWac _ hq14).mono ?_
  rintro e w15 ⟨rfl, hb15⟩
  have hq15 := below_then' hq14 hb15
  clear hb15 hq14
  go_wp2_with fail
  go_ret
  exact ⟨rfl, hq15⟩
set_option maxRecDepth 100000 in
set_option maxHeartbeats 8000000 in
theorem lawwithin_ok_0tfft (a b c : ByteArray) (w : World) (hM : ML w) (hs : shortB ([a, b, c].map bs) = true) (hka : check (bs a) = 0) (hkb : check (bs b) = 0) (hl : lcp (parts 46 (bs a)) (parts 46 (bs b)) ≠ []) (hab : withinB (bs a) (bs b) = true) (hba : withinB (bs b) (bs a) = false) (hbc : withinB (bs b) (bs c) = false) (hac : withinB (bs a) (bs c) = true) : GivesB Tryz.prog 6 #[.string a, .string b, .string c] (.bool true) w := by
  obtain ⟨ha, hbz, hcz⟩ := short3 hs
  have hK := known_any w hM
  have hS := fun (W : World) => short_any (some ⟨W.heap.size, 0, none⟩) 3 3 [a, b, c] (W.alloc (.cells #[.string a, .string b, .string c] 9)) rfl (SS.new W [a, b, c] 9)
  have hS' := fun (W : World) => (hS W).mono fun e w' (hh : _ ∧ _) => (⟨hh.1.trans (by rw [hs]), ((Below.refl _ W).alloc (Nat.le_refl _) _).trans (hh.2.mono (by simp))⟩ : e = .returned (.bool true) ∧ Below W.heap.size W w')
  have hWab := fun (W : World) (hb : Below w.heap.size w W) => within_any a b W (by omega) (by omega) (hM.below hb)
  have hWaa := fun (W : World) (hb : Below w.heap.size w W) => within_any a a W (by omega) (by omega) (hM.below hb)
  have hWba := fun (W : World) (hb : Below w.heap.size w W) => within_any b a W (by omega) (by omega) (hM.below hb)
  have hWbc := fun (W : World) (hb : Below w.heap.size w W) => within_any b c W (by omega) (by omega) (hM.below hb)
  have hWac := fun (W : World) (hb : Below w.heap.size w W) => within_any a c W (by omega) (by omega) (hM.below hb)
  have hRab := fun (W : World) (_ : Below w.heap.size w W) => rwithin_any a b W (by omega) (by omega)
  have hRa := fun (W : World) (_ : Below w.heap.size w W) => rcheck_any a W (by omega)
  have hRb := fun (W : World) (_ : Below w.heap.size w W) => rcheck_any b W (by omega)
  have hCo := fun (W : World) (hb : Below w.heap.size w W) => gcommon_ok a b W (by omega) (by omega) (hM.below hb) hka hkb
  have hRc := fun (W : World) (_ : Below w.heap.size w W) => rcommon_any a b W hka hkb
  have hcs := common_size a b ha
  have hWhc := fun (W : World) (hb : Below w.heap.size w W) => within_any (mkS (common (bs a) (bs b))) c W (by omega) (by omega) (hM.below hb)
  have hwc := fun h1 h2 => within_common (a := bs a) (b := bs b) (c := bs c) h1 h2
  rw [bs_mk] at hWhc
  rw [within_self, hka] at hWaa
  rw [hka] at hRa
  rw [hkb] at hRb
  change ∀ (W : World), Below w.heap.size w W → GivesB _ _ _ (.tuple #[.string (mkS (common (bs a) (bs b))), _]) W at hCo
  rw [hab] at hWab hRab
  rw [hba] at hWba
  rw [hbc] at hWbc
  rw [hac] at hWac
  clear hwc
  have hcc := common_some (t := bs b) hka hl
  rw [decide_eq_true hl] at hCo
  generalize mkS (common (bs a) (bs b)) = hh at *
  clear hl
  clear ha hbz hcz hM hS hs hka hkb hab hac hba hbc
  unfold GivesB at *
  go_enter Tryz.func6, Tryz.ntmps6
  go_wp2_with fail
  refine hK.mono ?_
  rintro e w1 ⟨rfl, hb1⟩
  go_wp2_with fail
  refine (hS' _).mono ?_
  rintro e w2 ⟨rfl, hb2⟩
  have hq2 := below_then' hb1 hb2
  clear hb1 hb2 hK hS'
  go_wp2_with fail
  refine (hWab _ hq2).mono ?_
  rintro e w3 ⟨rfl, hb3⟩
  have hq3 := below_then' hq2 hb3
  clear hb3 hq2
  go_wp2_with fail
  refine (hRab _ hq3).mono ?_
  rintro e w4 ⟨rfl, hb4⟩
  have hq4 := below_then' hq3 hb4
  clear hb4 hq3
  go_wp2_with fail
  refine (hWaa _ hq4).mono ?_
  rintro e w5 ⟨rfl, hb5⟩
  have hq5 := below_then' hq4 hb5
  clear hb5 hq4
  go_wp2_with fail
  refine (hRa _ hq5).mono ?_
  rintro e w6 ⟨rfl, hb6⟩
  have hq6 := below_then' hq5 hb6
  clear hb6 hq5
  go_wp2_with fail
  refine (hWab _ hq6).mono ?_
  rintro e w7 ⟨rfl, hb7⟩
  have hq7 := below_then' hq6 hb7
  clear hb7 hq6
  go_wp2_with fail
  refine (hWba _ hq7).mono ?_
  rintro e w8 ⟨rfl, hb8⟩
  have hq8 := below_then' hq7 hb8
  clear hb8 hq7
  go_wp2_with fail
  refine (hWab _ hq8).mono ?_
  rintro e w9 ⟨rfl, hb9⟩
  have hq9 := below_then' hq8 hb9
  clear hb9 hq8
  go_wp2_with fail
  refine (hWbc _ hq9).mono ?_
  rintro e w10 ⟨rfl, hb10⟩
  have hq10 := below_then' hq9 hb10
  clear hb10 hq9
  go_wp2_with fail
  refine (hCo _ hq10).mono ?_
  rintro e w11 ⟨rfl, hb11⟩
  have hq11 := below_then' hq10 hb11
  clear hb11 hq10
  go_wp2_with fail
  refine (hRa _ hq11).mono ?_
  rintro e w12 ⟨rfl, hb12⟩
  have hq12 := below_then' hq11 hb12
  clear hb12 hq11
  go_wp2_with fail
  refine (hRb _ hq12).mono ?_
  rintro e w13 ⟨rfl, hb13⟩
  have hq13 := below_then' hq12 hb13
  clear hb13 hq12
  go_wp2_with fail
  refine (hRc _ hq13).mono ?_
  rintro e w14 ⟨rfl, hb14⟩
  have hq14 := below_then' hq13 hb14
  clear hb14 hq13
  go_wp2_with fail
  refine (hWac _ hq14).mono ?_
  rintro e w15 ⟨rfl, hb15⟩
  have hq15 := below_then' hq14 hb15
  clear hb15 hq14
  go_wp2_with fail
  refine (hWbc _ hq15).mono ?_
  rintro e w16 ⟨rfl, hb16⟩
  have hq16 := below_then' hq15 hb16
  clear hb16 hq15
  go_wp2_with fail
  go_ret
  exact ⟨rfl, hq16⟩
set_option maxRecDepth 100000 in
set_option maxHeartbeats 8000000 in
theorem lawwithin_ok_0tfff (a b c : ByteArray) (w : World) (hM : ML w) (hs : shortB ([a, b, c].map bs) = true) (hka : check (bs a) = 0) (hkb : check (bs b) = 0) (hl : lcp (parts 46 (bs a)) (parts 46 (bs b)) ≠ []) (hab : withinB (bs a) (bs b) = true) (hba : withinB (bs b) (bs a) = false) (hbc : withinB (bs b) (bs c) = false) (hac : withinB (bs a) (bs c) = false) : GivesB Tryz.prog 6 #[.string a, .string b, .string c] (.bool true) w := by
  obtain ⟨ha, hbz, hcz⟩ := short3 hs
  have hK := known_any w hM
  have hS := fun (W : World) => short_any (some ⟨W.heap.size, 0, none⟩) 3 3 [a, b, c] (W.alloc (.cells #[.string a, .string b, .string c] 9)) rfl (SS.new W [a, b, c] 9)
  have hS' := fun (W : World) => (hS W).mono fun e w' (hh : _ ∧ _) => (⟨hh.1.trans (by rw [hs]), ((Below.refl _ W).alloc (Nat.le_refl _) _).trans (hh.2.mono (by simp))⟩ : e = .returned (.bool true) ∧ Below W.heap.size W w')
  have hWab := fun (W : World) (hb : Below w.heap.size w W) => within_any a b W (by omega) (by omega) (hM.below hb)
  have hWaa := fun (W : World) (hb : Below w.heap.size w W) => within_any a a W (by omega) (by omega) (hM.below hb)
  have hWba := fun (W : World) (hb : Below w.heap.size w W) => within_any b a W (by omega) (by omega) (hM.below hb)
  have hWbc := fun (W : World) (hb : Below w.heap.size w W) => within_any b c W (by omega) (by omega) (hM.below hb)
  have hWac := fun (W : World) (hb : Below w.heap.size w W) => within_any a c W (by omega) (by omega) (hM.below hb)
  have hRab := fun (W : World) (_ : Below w.heap.size w W) => rwithin_any a b W (by omega) (by omega)
  have hRa := fun (W : World) (_ : Below w.heap.size w W) => rcheck_any a W (by omega)
  have hRb := fun (W : World) (_ : Below w.heap.size w W) => rcheck_any b W (by omega)
  have hCo := fun (W : World) (hb : Below w.heap.size w W) => gcommon_ok a b W (by omega) (by omega) (hM.below hb) hka hkb
  have hRc := fun (W : World) (_ : Below w.heap.size w W) => rcommon_any a b W hka hkb
  have hcs := common_size a b ha
  have hWhc := fun (W : World) (hb : Below w.heap.size w W) => within_any (mkS (common (bs a) (bs b))) c W (by omega) (by omega) (hM.below hb)
  have hwc := fun h1 h2 => within_common (a := bs a) (b := bs b) (c := bs c) h1 h2
  rw [bs_mk] at hWhc
  rw [within_self, hka] at hWaa
  rw [hka] at hRa
  rw [hkb] at hRb
  change ∀ (W : World), Below w.heap.size w W → GivesB _ _ _ (.tuple #[.string (mkS (common (bs a) (bs b))), _]) W at hCo
  rw [hab] at hWab hRab
  rw [hba] at hWba
  rw [hbc] at hWbc
  rw [hac] at hWac
  clear hwc
  have hcc := common_some (t := bs b) hka hl
  rw [decide_eq_true hl] at hCo
  generalize mkS (common (bs a) (bs b)) = hh at *
  clear hl
  clear ha hbz hcz hM hS hs hka hkb hab hac hba hbc
  unfold GivesB at *
  go_enter Tryz.func6, Tryz.ntmps6
  go_wp2_with fail
  refine hK.mono ?_
  rintro e w1 ⟨rfl, hb1⟩
  go_wp2_with fail
  refine (hS' _).mono ?_
  rintro e w2 ⟨rfl, hb2⟩
  have hq2 := below_then' hb1 hb2
  clear hb1 hb2 hK hS'
  go_wp2_with fail
  refine (hWab _ hq2).mono ?_
  rintro e w3 ⟨rfl, hb3⟩
  have hq3 := below_then' hq2 hb3
  clear hb3 hq2
  go_wp2_with fail
  refine (hRab _ hq3).mono ?_
  rintro e w4 ⟨rfl, hb4⟩
  have hq4 := below_then' hq3 hb4
  clear hb4 hq3
  go_wp2_with fail
  refine (hWaa _ hq4).mono ?_
  rintro e w5 ⟨rfl, hb5⟩
  have hq5 := below_then' hq4 hb5
  clear hb5 hq4
  go_wp2_with fail
  refine (hRa _ hq5).mono ?_
  rintro e w6 ⟨rfl, hb6⟩
  have hq6 := below_then' hq5 hb6
  clear hb6 hq5
  go_wp2_with fail
  refine (hWab _ hq6).mono ?_
  rintro e w7 ⟨rfl, hb7⟩
  have hq7 := below_then' hq6 hb7
  clear hb7 hq6
  go_wp2_with fail
  refine (hWba _ hq7).mono ?_
  rintro e w8 ⟨rfl, hb8⟩
  have hq8 := below_then' hq7 hb8
  clear hb8 hq7
  go_wp2_with fail
  refine (hWab _ hq8).mono ?_
  rintro e w9 ⟨rfl, hb9⟩
  have hq9 := below_then' hq8 hb9
  clear hb9 hq8
  go_wp2_with fail
  refine (hWbc _ hq9).mono ?_
  rintro e w10 ⟨rfl, hb10⟩
  have hq10 := below_then' hq9 hb10
  clear hb10 hq9
  go_wp2_with fail
  refine (hCo _ hq10).mono ?_
  rintro e w11 ⟨rfl, hb11⟩
  have hq11 := below_then' hq10 hb11
  clear hb11 hq10
  go_wp2_with fail
  refine (hRa _ hq11).mono ?_
  rintro e w12 ⟨rfl, hb12⟩
  have hq12 := below_then' hq11 hb12
  clear hb12 hq11
  go_wp2_with fail
  refine (hRb _ hq12).mono ?_
  rintro e w13 ⟨rfl, hb13⟩
  have hq13 := below_then' hq12 hb13
  clear hb13 hq12
  go_wp2_with fail
  refine (hRc _ hq13).mono ?_
  rintro e w14 ⟨rfl, hb14⟩
  have hq14 := below_then' hq13 hb14
  clear hb14 hq13
  go_wp2_with fail
  refine (hWac _ hq14).mono ?_
  rintro e w15 ⟨rfl, hb15⟩
  have hq15 := below_then' hq14 hb15
  clear hb15 hq14
  go_wp2_with fail
  go_ret
  exact ⟨rfl, hq15⟩
set_option maxRecDepth 100000 in
set_option maxHeartbeats 8000000 in
theorem lawwithin_ok_0fxxf (a b c : ByteArray) (w : World) (hM : ML w) (hs : shortB ([a, b, c].map bs) = true) (hka : check (bs a) = 0) (hkb : check (bs b) = 0) (hl : lcp (parts 46 (bs a)) (parts 46 (bs b)) ≠ []) (hab : withinB (bs a) (bs b) = false) (hac : withinB (bs a) (bs c) = false) : GivesB Tryz.prog 6 #[.string a, .string b, .string c] (.bool true) w := by
  obtain ⟨ha, hbz, hcz⟩ := short3 hs
  have hK := known_any w hM
  have hS := fun (W : World) => short_any (some ⟨W.heap.size, 0, none⟩) 3 3 [a, b, c] (W.alloc (.cells #[.string a, .string b, .string c] 9)) rfl (SS.new W [a, b, c] 9)
  have hS' := fun (W : World) => (hS W).mono fun e w' (hh : _ ∧ _) => (⟨hh.1.trans (by rw [hs]), ((Below.refl _ W).alloc (Nat.le_refl _) _).trans (hh.2.mono (by simp))⟩ : e = .returned (.bool true) ∧ Below W.heap.size W w')
  have hWab := fun (W : World) (hb : Below w.heap.size w W) => within_any a b W (by omega) (by omega) (hM.below hb)
  have hWaa := fun (W : World) (hb : Below w.heap.size w W) => within_any a a W (by omega) (by omega) (hM.below hb)
  have hWba := fun (W : World) (hb : Below w.heap.size w W) => within_any b a W (by omega) (by omega) (hM.below hb)
  have hWbc := fun (W : World) (hb : Below w.heap.size w W) => within_any b c W (by omega) (by omega) (hM.below hb)
  have hWac := fun (W : World) (hb : Below w.heap.size w W) => within_any a c W (by omega) (by omega) (hM.below hb)
  have hRab := fun (W : World) (_ : Below w.heap.size w W) => rwithin_any a b W (by omega) (by omega)
  have hRa := fun (W : World) (_ : Below w.heap.size w W) => rcheck_any a W (by omega)
  have hRb := fun (W : World) (_ : Below w.heap.size w W) => rcheck_any b W (by omega)
  have hCo := fun (W : World) (hb : Below w.heap.size w W) => gcommon_ok a b W (by omega) (by omega) (hM.below hb) hka hkb
  have hRc := fun (W : World) (_ : Below w.heap.size w W) => rcommon_any a b W hka hkb
  have hcs := common_size a b ha
  have hWhc := fun (W : World) (hb : Below w.heap.size w W) => within_any (mkS (common (bs a) (bs b))) c W (by omega) (by omega) (hM.below hb)
  have hwc := fun h1 h2 => within_common (a := bs a) (b := bs b) (c := bs c) h1 h2
  rw [bs_mk] at hWhc
  rw [within_self, hka] at hWaa
  rw [hka] at hRa
  rw [hkb] at hRb
  change ∀ (W : World), Below w.heap.size w W → GivesB _ _ _ (.tuple #[.string (mkS (common (bs a) (bs b))), _]) W at hCo
  rw [hab] at hWab hRab
  rw [hac] at hWac
  clear hwc
  have hcc := common_some (t := bs b) hka hl
  rw [decide_eq_true hl] at hCo
  generalize mkS (common (bs a) (bs b)) = hh at *
  clear hl
  clear ha hbz hcz hM hS hs hka hkb hab hac
  unfold GivesB at *
  go_enter Tryz.func6, Tryz.ntmps6
  go_wp2_with fail
  refine hK.mono ?_
  rintro e w1 ⟨rfl, hb1⟩
  go_wp2_with fail
  refine (hS' _).mono ?_
  rintro e w2 ⟨rfl, hb2⟩
  have hq2 := below_then' hb1 hb2
  clear hb1 hb2 hK hS'
  go_wp2_with fail
  refine (hWab _ hq2).mono ?_
  rintro e w3 ⟨rfl, hb3⟩
  have hq3 := below_then' hq2 hb3
  clear hb3 hq2
  go_wp2_with fail
  refine (hRab _ hq3).mono ?_
  rintro e w4 ⟨rfl, hb4⟩
  have hq4 := below_then' hq3 hb4
  clear hb4 hq3
  go_wp2_with fail
  refine (hWaa _ hq4).mono ?_
  rintro e w5 ⟨rfl, hb5⟩
  have hq5 := below_then' hq4 hb5
  clear hb5 hq4
  go_wp2_with fail
  refine (hRa _ hq5).mono ?_
  rintro e w6 ⟨rfl, hb6⟩
  have hq6 := below_then' hq5 hb6
  clear hb6 hq5
  go_wp2_with fail
  refine (hWab _ hq6).mono ?_
  rintro e w7 ⟨rfl, hb7⟩
  have hq7 := below_then' hq6 hb7
  clear hb7 hq6
  go_wp2_with fail
  refine (hWab _ hq7).mono ?_
  rintro e w8 ⟨rfl, hb8⟩
  have hq8 := below_then' hq7 hb8
  clear hb8 hq7
  go_wp2_with fail
  refine (hCo _ hq8).mono ?_
  rintro e w9 ⟨rfl, hb9⟩
  have hq9 := below_then' hq8 hb9
  clear hb9 hq8
  go_wp2_with fail
  refine (hRa _ hq9).mono ?_
  rintro e w10 ⟨rfl, hb10⟩
  have hq10 := below_then' hq9 hb10
  clear hb10 hq9
  go_wp2_with fail
  refine (hRb _ hq10).mono ?_
  rintro e w11 ⟨rfl, hb11⟩
  have hq11 := below_then' hq10 hb11
  clear hb11 hq10
  go_wp2_with fail
  refine (hRc _ hq11).mono ?_
  rintro e w12 ⟨rfl, hb12⟩
  have hq12 := below_then' hq11 hb12
  clear hb12 hq11
  go_wp2_with fail
  refine (hWac _ hq12).mono ?_
  rintro e w13 ⟨rfl, hb13⟩
  have hq13 := below_then' hq12 hb13
  clear hb13 hq12
  go_wp2_with fail
  go_ret
  exact ⟨rfl, hq13⟩
set_option maxRecDepth 100000 in
set_option maxHeartbeats 8000000 in
theorem lawwithin_ok_0fxft (a b c : ByteArray) (w : World) (hM : ML w) (hs : shortB ([a, b, c].map bs) = true) (hka : check (bs a) = 0) (hkb : check (bs b) = 0) (hl : lcp (parts 46 (bs a)) (parts 46 (bs b)) ≠ []) (hab : withinB (bs a) (bs b) = false) (hbc : withinB (bs b) (bs c) = false) (hac : withinB (bs a) (bs c) = true) : GivesB Tryz.prog 6 #[.string a, .string b, .string c] (.bool true) w := by
  obtain ⟨ha, hbz, hcz⟩ := short3 hs
  have hK := known_any w hM
  have hS := fun (W : World) => short_any (some ⟨W.heap.size, 0, none⟩) 3 3 [a, b, c] (W.alloc (.cells #[.string a, .string b, .string c] 9)) rfl (SS.new W [a, b, c] 9)
  have hS' := fun (W : World) => (hS W).mono fun e w' (hh : _ ∧ _) => (⟨hh.1.trans (by rw [hs]), ((Below.refl _ W).alloc (Nat.le_refl _) _).trans (hh.2.mono (by simp))⟩ : e = .returned (.bool true) ∧ Below W.heap.size W w')
  have hWab := fun (W : World) (hb : Below w.heap.size w W) => within_any a b W (by omega) (by omega) (hM.below hb)
  have hWaa := fun (W : World) (hb : Below w.heap.size w W) => within_any a a W (by omega) (by omega) (hM.below hb)
  have hWba := fun (W : World) (hb : Below w.heap.size w W) => within_any b a W (by omega) (by omega) (hM.below hb)
  have hWbc := fun (W : World) (hb : Below w.heap.size w W) => within_any b c W (by omega) (by omega) (hM.below hb)
  have hWac := fun (W : World) (hb : Below w.heap.size w W) => within_any a c W (by omega) (by omega) (hM.below hb)
  have hRab := fun (W : World) (_ : Below w.heap.size w W) => rwithin_any a b W (by omega) (by omega)
  have hRa := fun (W : World) (_ : Below w.heap.size w W) => rcheck_any a W (by omega)
  have hRb := fun (W : World) (_ : Below w.heap.size w W) => rcheck_any b W (by omega)
  have hCo := fun (W : World) (hb : Below w.heap.size w W) => gcommon_ok a b W (by omega) (by omega) (hM.below hb) hka hkb
  have hRc := fun (W : World) (_ : Below w.heap.size w W) => rcommon_any a b W hka hkb
  have hcs := common_size a b ha
  have hWhc := fun (W : World) (hb : Below w.heap.size w W) => within_any (mkS (common (bs a) (bs b))) c W (by omega) (by omega) (hM.below hb)
  have hwc := fun h1 h2 => within_common (a := bs a) (b := bs b) (c := bs c) h1 h2
  rw [bs_mk] at hWhc
  rw [within_self, hka] at hWaa
  rw [hka] at hRa
  rw [hkb] at hRb
  change ∀ (W : World), Below w.heap.size w W → GivesB _ _ _ (.tuple #[.string (mkS (common (bs a) (bs b))), _]) W at hCo
  rw [hab] at hWab hRab
  rw [hbc] at hWbc
  rw [hac] at hWac
  clear hwc
  have hcc := common_some (t := bs b) hka hl
  rw [decide_eq_true hl] at hCo
  generalize mkS (common (bs a) (bs b)) = hh at *
  clear hl
  clear ha hbz hcz hM hS hs hka hkb hab hac hbc
  unfold GivesB at *
  go_enter Tryz.func6, Tryz.ntmps6
  go_wp2_with fail
  refine hK.mono ?_
  rintro e w1 ⟨rfl, hb1⟩
  go_wp2_with fail
  refine (hS' _).mono ?_
  rintro e w2 ⟨rfl, hb2⟩
  have hq2 := below_then' hb1 hb2
  clear hb1 hb2 hK hS'
  go_wp2_with fail
  refine (hWab _ hq2).mono ?_
  rintro e w3 ⟨rfl, hb3⟩
  have hq3 := below_then' hq2 hb3
  clear hb3 hq2
  go_wp2_with fail
  refine (hRab _ hq3).mono ?_
  rintro e w4 ⟨rfl, hb4⟩
  have hq4 := below_then' hq3 hb4
  clear hb4 hq3
  go_wp2_with fail
  refine (hWaa _ hq4).mono ?_
  rintro e w5 ⟨rfl, hb5⟩
  have hq5 := below_then' hq4 hb5
  clear hb5 hq4
  go_wp2_with fail
  refine (hRa _ hq5).mono ?_
  rintro e w6 ⟨rfl, hb6⟩
  have hq6 := below_then' hq5 hb6
  clear hb6 hq5
  go_wp2_with fail
  refine (hWab _ hq6).mono ?_
  rintro e w7 ⟨rfl, hb7⟩
  have hq7 := below_then' hq6 hb7
  clear hb7 hq6
  go_wp2_with fail
  refine (hWab _ hq7).mono ?_
  rintro e w8 ⟨rfl, hb8⟩
  have hq8 := below_then' hq7 hb8
  clear hb8 hq7
  go_wp2_with fail
  refine (hCo _ hq8).mono ?_
  rintro e w9 ⟨rfl, hb9⟩
  have hq9 := below_then' hq8 hb9
  clear hb9 hq8
  go_wp2_with fail
  refine (hRa _ hq9).mono ?_
  rintro e w10 ⟨rfl, hb10⟩
  have hq10 := below_then' hq9 hb10
  clear hb10 hq9
  go_wp2_with fail
  refine (hRb _ hq10).mono ?_
  rintro e w11 ⟨rfl, hb11⟩
  have hq11 := below_then' hq10 hb11
  clear hb11 hq10
  go_wp2_with fail
  refine (hRc _ hq11).mono ?_
  rintro e w12 ⟨rfl, hb12⟩
  have hq12 := below_then' hq11 hb12
  clear hb12 hq11
  go_wp2_with fail
  refine (hWac _ hq12).mono ?_
  rintro e w13 ⟨rfl, hb13⟩
  have hq13 := below_then' hq12 hb13
  clear hb13 hq12
  go_wp2_with fail
  refine (hWbc _ hq13).mono ?_
  rintro e w14 ⟨rfl, hb14⟩
  have hq14 := below_then' hq13 hb14
  clear hb14 hq13
  go_wp2_with fail
  go_ret
  exact ⟨rfl, hq14⟩
set_option maxRecDepth 100000 in
set_option maxHeartbeats 8000000 in
theorem lawwithin_ok_0fxtt (a b c : ByteArray) (w : World) (hM : ML w) (hs : shortB ([a, b, c].map bs) = true) (hka : check (bs a) = 0) (hkb : check (bs b) = 0) (hl : lcp (parts 46 (bs a)) (parts 46 (bs b)) ≠ []) (hab : withinB (bs a) (bs b) = false) (hbc : withinB (bs b) (bs c) = true) (hac : withinB (bs a) (bs c) = true) : GivesB Tryz.prog 6 #[.string a, .string b, .string c] (.bool true) w := by
  obtain ⟨ha, hbz, hcz⟩ := short3 hs
  have hK := known_any w hM
  have hS := fun (W : World) => short_any (some ⟨W.heap.size, 0, none⟩) 3 3 [a, b, c] (W.alloc (.cells #[.string a, .string b, .string c] 9)) rfl (SS.new W [a, b, c] 9)
  have hS' := fun (W : World) => (hS W).mono fun e w' (hh : _ ∧ _) => (⟨hh.1.trans (by rw [hs]), ((Below.refl _ W).alloc (Nat.le_refl _) _).trans (hh.2.mono (by simp))⟩ : e = .returned (.bool true) ∧ Below W.heap.size W w')
  have hWab := fun (W : World) (hb : Below w.heap.size w W) => within_any a b W (by omega) (by omega) (hM.below hb)
  have hWaa := fun (W : World) (hb : Below w.heap.size w W) => within_any a a W (by omega) (by omega) (hM.below hb)
  have hWba := fun (W : World) (hb : Below w.heap.size w W) => within_any b a W (by omega) (by omega) (hM.below hb)
  have hWbc := fun (W : World) (hb : Below w.heap.size w W) => within_any b c W (by omega) (by omega) (hM.below hb)
  have hWac := fun (W : World) (hb : Below w.heap.size w W) => within_any a c W (by omega) (by omega) (hM.below hb)
  have hRab := fun (W : World) (_ : Below w.heap.size w W) => rwithin_any a b W (by omega) (by omega)
  have hRa := fun (W : World) (_ : Below w.heap.size w W) => rcheck_any a W (by omega)
  have hRb := fun (W : World) (_ : Below w.heap.size w W) => rcheck_any b W (by omega)
  have hCo := fun (W : World) (hb : Below w.heap.size w W) => gcommon_ok a b W (by omega) (by omega) (hM.below hb) hka hkb
  have hRc := fun (W : World) (_ : Below w.heap.size w W) => rcommon_any a b W hka hkb
  have hcs := common_size a b ha
  have hWhc := fun (W : World) (hb : Below w.heap.size w W) => within_any (mkS (common (bs a) (bs b))) c W (by omega) (by omega) (hM.below hb)
  have hwc := fun h1 h2 => within_common (a := bs a) (b := bs b) (c := bs c) h1 h2
  rw [bs_mk] at hWhc
  rw [within_self, hka] at hWaa
  rw [hka] at hRa
  rw [hkb] at hRb
  change ∀ (W : World), Below w.heap.size w W → GivesB _ _ _ (.tuple #[.string (mkS (common (bs a) (bs b))), _]) W at hCo
  rw [hab] at hWab hRab
  rw [hbc] at hWbc
  rw [hac] at hWac
  rw [hwc hac hbc] at hWhc
  clear hwc
  have hcc := common_some (t := bs b) hka hl
  rw [decide_eq_true hl] at hCo
  generalize mkS (common (bs a) (bs b)) = hh at *
  clear hl
  clear ha hbz hcz hM hS hs hka hkb hab hac hbc
  unfold GivesB at *
  go_enter Tryz.func6, Tryz.ntmps6
  go_wp2_with fail
  refine hK.mono ?_
  rintro e w1 ⟨rfl, hb1⟩
  go_wp2_with fail
  refine (hS' _).mono ?_
  rintro e w2 ⟨rfl, hb2⟩
  have hq2 := below_then' hb1 hb2
  clear hb1 hb2 hK hS'
  go_wp2_with fail
  refine (hWab _ hq2).mono ?_
  rintro e w3 ⟨rfl, hb3⟩
  have hq3 := below_then' hq2 hb3
  clear hb3 hq2
  go_wp2_with fail
  refine (hRab _ hq3).mono ?_
  rintro e w4 ⟨rfl, hb4⟩
  have hq4 := below_then' hq3 hb4
  clear hb4 hq3
  go_wp2_with fail
  refine (hWaa _ hq4).mono ?_
  rintro e w5 ⟨rfl, hb5⟩
  have hq5 := below_then' hq4 hb5
  clear hb5 hq4
  go_wp2_with fail
  refine (hRa _ hq5).mono ?_
  rintro e w6 ⟨rfl, hb6⟩
  have hq6 := below_then' hq5 hb6
  clear hb6 hq5
  go_wp2_with fail
  refine (hWab _ hq6).mono ?_
  rintro e w7 ⟨rfl, hb7⟩
  have hq7 := below_then' hq6 hb7
  clear hb7 hq6
  go_wp2_with fail
  refine (hWab _ hq7).mono ?_
  rintro e w8 ⟨rfl, hb8⟩
  have hq8 := below_then' hq7 hb8
  clear hb8 hq7
  go_wp2_with fail
  refine (hCo _ hq8).mono ?_
  rintro e w9 ⟨rfl, hb9⟩
  have hq9 := below_then' hq8 hb9
  clear hb9 hq8
  go_wp2_with fail
  refine (hRa _ hq9).mono ?_
  rintro e w10 ⟨rfl, hb10⟩
  have hq10 := below_then' hq9 hb10
  clear hb10 hq9
  go_wp2_with fail
  refine (hRb _ hq10).mono ?_
  rintro e w11 ⟨rfl, hb11⟩
  have hq11 := below_then' hq10 hb11
  clear hb11 hq10
  go_wp2_with fail
  refine (hRc _ hq11).mono ?_
  rintro e w12 ⟨rfl, hb12⟩
  have hq12 := below_then' hq11 hb12
  clear hb12 hq11
  go_wp2_with fail
  refine (hWac _ hq12).mono ?_
  rintro e w13 ⟨rfl, hb13⟩
  have hq13 := below_then' hq12 hb13
  clear hb13 hq12
  go_wp2_with fail
  refine (hWbc _ hq13).mono ?_
  rintro e w14 ⟨rfl, hb14⟩
  have hq14 := below_then' hq13 hb14
  clear hb14 hq13
  go_wp2_with fail
  refine (hWhc _ hq14).mono ?_
  rintro e w15 ⟨rfl, hb15⟩
  have hq15 := below_then' hq14 hb15
  clear hb15 hq14
  go_wp2_with fail
  go_ret
  exact ⟨rfl, hq15⟩
set_option maxRecDepth 100000 in
set_option maxHeartbeats 8000000 in
theorem lawwithin_ok_1tttt (a b c : ByteArray) (w : World) (hM : ML w) (hs : shortB ([a, b, c].map bs) = true) (hka : check (bs a) = 0) (hkb : check (bs b) = 0) (hl : lcp (parts 46 (bs a)) (parts 46 (bs b)) = []) (hab : withinB (bs a) (bs b) = true) (hba : withinB (bs b) (bs a) = true) (hbc : withinB (bs b) (bs c) = true) (hac : withinB (bs a) (bs c) = true) : GivesB Tryz.prog 6 #[.string a, .string b, .string c] (.bool true) w := by
  obtain ⟨ha, hbz, hcz⟩ := short3 hs
  have hK := known_any w hM
  have hS := fun (W : World) => short_any (some ⟨W.heap.size, 0, none⟩) 3 3 [a, b, c] (W.alloc (.cells #[.string a, .string b, .string c] 9)) rfl (SS.new W [a, b, c] 9)
  have hS' := fun (W : World) => (hS W).mono fun e w' (hh : _ ∧ _) => (⟨hh.1.trans (by rw [hs]), ((Below.refl _ W).alloc (Nat.le_refl _) _).trans (hh.2.mono (by simp))⟩ : e = .returned (.bool true) ∧ Below W.heap.size W w')
  have hWab := fun (W : World) (hb : Below w.heap.size w W) => within_any a b W (by omega) (by omega) (hM.below hb)
  have hWaa := fun (W : World) (hb : Below w.heap.size w W) => within_any a a W (by omega) (by omega) (hM.below hb)
  have hWba := fun (W : World) (hb : Below w.heap.size w W) => within_any b a W (by omega) (by omega) (hM.below hb)
  have hWbc := fun (W : World) (hb : Below w.heap.size w W) => within_any b c W (by omega) (by omega) (hM.below hb)
  have hWac := fun (W : World) (hb : Below w.heap.size w W) => within_any a c W (by omega) (by omega) (hM.below hb)
  have hRab := fun (W : World) (_ : Below w.heap.size w W) => rwithin_any a b W (by omega) (by omega)
  have hRa := fun (W : World) (_ : Below w.heap.size w W) => rcheck_any a W (by omega)
  have hRb := fun (W : World) (_ : Below w.heap.size w W) => rcheck_any b W (by omega)
  have hCo := fun (W : World) (hb : Below w.heap.size w W) => gcommon_ok a b W (by omega) (by omega) (hM.below hb) hka hkb
  have hRc := fun (W : World) (_ : Below w.heap.size w W) => rcommon_any a b W hka hkb
  have hcs := common_size a b ha
  have hWhc := fun (W : World) (hb : Below w.heap.size w W) => within_any (mkS (common (bs a) (bs b))) c W (by omega) (by omega) (hM.below hb)
  have hwc := fun h1 h2 => within_common (a := bs a) (b := bs b) (c := bs c) h1 h2
  rw [bs_mk] at hWhc
  rw [within_self, hka] at hWaa
  rw [hka] at hRa
  rw [hkb] at hRb
  change ∀ (W : World), Below w.heap.size w W → GivesB _ _ _ (.tuple #[.string (mkS (common (bs a) (bs b))), _]) W at hCo
  rw [hab] at hWab hRab
  rw [hba] at hWba
  rw [hbc] at hWbc
  rw [hac] at hWac
  rw [hwc hac hbc] at hWhc
  clear hwc
  have heq : (a.toList == b.toList) = true := by rw [ByteArray.toList_eq, ByteArray.toList_eq, beq_iff_eq]; exact within_antisymm hab hba
  have hcc := common_none hl
  rw [decide_eq_false (by simp [hl])] at hCo
  rw [hcc] at hCo hRc hWhc
  clear hcc hl hcs
  clear ha hbz hcz hM hS hs hka hkb hab hac hba hbc
  unfold GivesB at *
  go_enter Tryz.func6, Tryz.ntmps6
  go_wp2_with fail
  refine hK.mono ?_
  rintro e w1 ⟨rfl, hb1⟩
  go_wp2_with fail
  refine (hS' _).mono ?_
  rintro e w2 ⟨rfl, hb2⟩
  have hq2 := below_then' hb1 hb2
  clear hb1 hb2 hK hS'
  go_wp2_with fail
  refine (hWab _ hq2).mono ?_
  rintro e w3 ⟨rfl, hb3⟩
  have hq3 := below_then' hq2 hb3
  clear hb3 hq2
  go_wp2_with fail
  refine (hRab _ hq3).mono ?_
  rintro e w4 ⟨rfl, hb4⟩
  have hq4 := below_then' hq3 hb4
  clear hb4 hq3
  go_wp2_with fail
  refine (hWaa _ hq4).mono ?_
  rintro e w5 ⟨rfl, hb5⟩
  have hq5 := below_then' hq4 hb5
  clear hb5 hq4
  go_wp2_with fail
  refine (hRa _ hq5).mono ?_
  rintro e w6 ⟨rfl, hb6⟩
  have hq6 := below_then' hq5 hb6
  clear hb6 hq5
  go_wp2_with fail
  refine (hWab _ hq6).mono ?_
  rintro e w7 ⟨rfl, hb7⟩
  have hq7 := below_then' hq6 hb7
  clear hb7 hq6
  go_wp2_with fail
  refine (hWba _ hq7).mono ?_
  rintro e w8 ⟨rfl, hb8⟩
  have hq8 := below_then' hq7 hb8
  clear hb8 hq7
  go_wp2_with fail
  refine (hWab _ hq8).mono ?_
  rintro e w9 ⟨rfl, hb9⟩
  have hq9 := below_then' hq8 hb9
  clear hb9 hq8
  go_wp2_with fail
  refine (hWbc _ hq9).mono ?_
  rintro e w10 ⟨rfl, hb10⟩
  have hq10 := below_then' hq9 hb10
  clear hb10 hq9
  go_wp2_with fail
  refine (hWac _ hq10).mono ?_
  rintro e w11 ⟨rfl, hb11⟩
  have hq11 := below_then' hq10 hb11
  clear hb11 hq10
  go_wp2_with fail
  refine (hCo _ hq11).mono ?_
  rintro e w12 ⟨rfl, hb12⟩
  have hq12 := below_then' hq11 hb12
  clear hb12 hq11
  go_wp2_with fail
  refine (hRa _ hq12).mono ?_
  rintro e w13 ⟨rfl, hb13⟩
  have hq13 := below_then' hq12 hb13
  clear hb13 hq12
  go_wp2_with fail
  refine (hRb _ hq13).mono ?_
  rintro e w14 ⟨rfl, hb14⟩
  have hq14 := below_then' hq13 hb14
  clear hb14 hq13
  go_wp2_with fail
  refine (hRc _ hq14).mono ?_
  rintro e w15 ⟨rfl, hb15⟩
  have hq15 := below_then' hq14 hb15
  clear hb15 hq14
  go_wp2_with fail
  refine (hWac _ hq15).mono ?_
  rintro e w16 ⟨rfl, hb16⟩
  have hq16 := below_then' hq15 hb16
  clear hb16 hq15
  go_wp2_with fail
  refine (hWbc _ hq16).mono ?_
  rintro e w17 ⟨rfl, hb17⟩
  have hq17 := below_then' hq16 hb17
  clear hb17 hq16
  go_wp2_with fail
  refine (hWhc _ hq17).mono ?_
  rintro e w18 ⟨rfl, hb18⟩
  have hq18 := below_then' hq17 hb18
  clear hb18 hq17
  go_wp2_with fail
  go_ret
  exact ⟨rfl, hq18⟩
set_option maxRecDepth 100000 in
set_option maxHeartbeats 8000000 in
theorem lawwithin_ok_1tftt (a b c : ByteArray) (w : World) (hM : ML w) (hs : shortB ([a, b, c].map bs) = true) (hka : check (bs a) = 0) (hkb : check (bs b) = 0) (hl : lcp (parts 46 (bs a)) (parts 46 (bs b)) = []) (hab : withinB (bs a) (bs b) = true) (hba : withinB (bs b) (bs a) = false) (hbc : withinB (bs b) (bs c) = true) (hac : withinB (bs a) (bs c) = true) : GivesB Tryz.prog 6 #[.string a, .string b, .string c] (.bool true) w := by
  obtain ⟨ha, hbz, hcz⟩ := short3 hs
  have hK := known_any w hM
  have hS := fun (W : World) => short_any (some ⟨W.heap.size, 0, none⟩) 3 3 [a, b, c] (W.alloc (.cells #[.string a, .string b, .string c] 9)) rfl (SS.new W [a, b, c] 9)
  have hS' := fun (W : World) => (hS W).mono fun e w' (hh : _ ∧ _) => (⟨hh.1.trans (by rw [hs]), ((Below.refl _ W).alloc (Nat.le_refl _) _).trans (hh.2.mono (by simp))⟩ : e = .returned (.bool true) ∧ Below W.heap.size W w')
  have hWab := fun (W : World) (hb : Below w.heap.size w W) => within_any a b W (by omega) (by omega) (hM.below hb)
  have hWaa := fun (W : World) (hb : Below w.heap.size w W) => within_any a a W (by omega) (by omega) (hM.below hb)
  have hWba := fun (W : World) (hb : Below w.heap.size w W) => within_any b a W (by omega) (by omega) (hM.below hb)
  have hWbc := fun (W : World) (hb : Below w.heap.size w W) => within_any b c W (by omega) (by omega) (hM.below hb)
  have hWac := fun (W : World) (hb : Below w.heap.size w W) => within_any a c W (by omega) (by omega) (hM.below hb)
  have hRab := fun (W : World) (_ : Below w.heap.size w W) => rwithin_any a b W (by omega) (by omega)
  have hRa := fun (W : World) (_ : Below w.heap.size w W) => rcheck_any a W (by omega)
  have hRb := fun (W : World) (_ : Below w.heap.size w W) => rcheck_any b W (by omega)
  have hCo := fun (W : World) (hb : Below w.heap.size w W) => gcommon_ok a b W (by omega) (by omega) (hM.below hb) hka hkb
  have hRc := fun (W : World) (_ : Below w.heap.size w W) => rcommon_any a b W hka hkb
  have hcs := common_size a b ha
  have hWhc := fun (W : World) (hb : Below w.heap.size w W) => within_any (mkS (common (bs a) (bs b))) c W (by omega) (by omega) (hM.below hb)
  have hwc := fun h1 h2 => within_common (a := bs a) (b := bs b) (c := bs c) h1 h2
  rw [bs_mk] at hWhc
  rw [within_self, hka] at hWaa
  rw [hka] at hRa
  rw [hkb] at hRb
  change ∀ (W : World), Below w.heap.size w W → GivesB _ _ _ (.tuple #[.string (mkS (common (bs a) (bs b))), _]) W at hCo
  rw [hab] at hWab hRab
  rw [hba] at hWba
  rw [hbc] at hWbc
  rw [hac] at hWac
  rw [hwc hac hbc] at hWhc
  clear hwc
  have hcc := common_none hl
  rw [decide_eq_false (by simp [hl])] at hCo
  rw [hcc] at hCo hRc hWhc
  clear hcc hl hcs
  clear ha hbz hcz hM hS hs hka hkb hab hac hba hbc
  unfold GivesB at *
  go_enter Tryz.func6, Tryz.ntmps6
  go_wp2_with fail
  refine hK.mono ?_
  rintro e w1 ⟨rfl, hb1⟩
  go_wp2_with fail
  refine (hS' _).mono ?_
  rintro e w2 ⟨rfl, hb2⟩
  have hq2 := below_then' hb1 hb2
  clear hb1 hb2 hK hS'
  go_wp2_with fail
  refine (hWab _ hq2).mono ?_
  rintro e w3 ⟨rfl, hb3⟩
  have hq3 := below_then' hq2 hb3
  clear hb3 hq2
  go_wp2_with fail
  refine (hRab _ hq3).mono ?_
  rintro e w4 ⟨rfl, hb4⟩
  have hq4 := below_then' hq3 hb4
  clear hb4 hq3
  go_wp2_with fail
  refine (hWaa _ hq4).mono ?_
  rintro e w5 ⟨rfl, hb5⟩
  have hq5 := below_then' hq4 hb5
  clear hb5 hq4
  go_wp2_with fail
  refine (hRa _ hq5).mono ?_
  rintro e w6 ⟨rfl, hb6⟩
  have hq6 := below_then' hq5 hb6
  clear hb6 hq5
  go_wp2_with fail
  refine (hWab _ hq6).mono ?_
  rintro e w7 ⟨rfl, hb7⟩
  have hq7 := below_then' hq6 hb7
  clear hb7 hq6
  go_wp2_with fail
  refine (hWba _ hq7).mono ?_
  rintro e w8 ⟨rfl, hb8⟩
  have hq8 := below_then' hq7 hb8
  clear hb8 hq7
  go_wp2_with fail
  refine (hWab _ hq8).mono ?_
  rintro e w9 ⟨rfl, hb9⟩
  have hq9 := below_then' hq8 hb9
  clear hb9 hq8
  go_wp2_with fail
  refine (hWbc _ hq9).mono ?_
  rintro e w10 ⟨rfl, hb10⟩
  have hq10 := below_then' hq9 hb10
  clear hb10 hq9
  go_wp2_with fail
  refine (hWac _ hq10).mono ?_
  rintro e w11 ⟨rfl, hb11⟩
  have hq11 := below_then' hq10 hb11
  clear hb11 hq10
  go_wp2_with fail
  refine (hCo _ hq11).mono ?_
  rintro e w12 ⟨rfl, hb12⟩
  have hq12 := below_then' hq11 hb12
  clear hb12 hq11
  go_wp2_with fail
  refine (hRa _ hq12).mono ?_
  rintro e w13 ⟨rfl, hb13⟩
  have hq13 := below_then' hq12 hb13
  clear hb13 hq12
  go_wp2_with fail
  refine (hRb _ hq13).mono ?_
  rintro e w14 ⟨rfl, hb14⟩
  have hq14 := below_then' hq13 hb14
  clear hb14 hq13
  go_wp2_with fail
  refine (hRc _ hq14).mono ?_
  rintro e w15 ⟨rfl, hb15⟩
  have hq15 := below_then' hq14 hb15
  clear hb15 hq14
  go_wp2_with fail
  refine (hWac _ hq15).mono ?_
  rintro e w16 ⟨rfl, hb16⟩
  have hq16 := below_then' hq15 hb16
  clear hb16 hq15
  go_wp2_with fail
  refine (hWbc _ hq16).mono ?_
  rintro e w17 ⟨rfl, hb17⟩
  have hq17 := below_then' hq16 hb17
  clear hb17 hq16
  go_wp2_with fail
  refine (hWhc _ hq17).mono ?_
  rintro e w18 ⟨rfl, hb18⟩
  have hq18 := below_then' hq17 hb18
  clear hb18 hq17
  go_wp2_with fail
  go_ret
  exact ⟨rfl, hq18⟩
set_option maxRecDepth 100000 in
set_option maxHeartbeats 8000000 in
theorem lawwithin_ok_1ttft (a b c : ByteArray) (w : World) (hM : ML w) (hs : shortB ([a, b, c].map bs) = true) (hka : check (bs a) = 0) (hkb : check (bs b) = 0) (hl : lcp (parts 46 (bs a)) (parts 46 (bs b)) = []) (hab : withinB (bs a) (bs b) = true) (hba : withinB (bs b) (bs a) = true) (hbc : withinB (bs b) (bs c) = false) (hac : withinB (bs a) (bs c) = true) : GivesB Tryz.prog 6 #[.string a, .string b, .string c] (.bool true) w := by
  obtain ⟨ha, hbz, hcz⟩ := short3 hs
  have hK := known_any w hM
  have hS := fun (W : World) => short_any (some ⟨W.heap.size, 0, none⟩) 3 3 [a, b, c] (W.alloc (.cells #[.string a, .string b, .string c] 9)) rfl (SS.new W [a, b, c] 9)
  have hS' := fun (W : World) => (hS W).mono fun e w' (hh : _ ∧ _) => (⟨hh.1.trans (by rw [hs]), ((Below.refl _ W).alloc (Nat.le_refl _) _).trans (hh.2.mono (by simp))⟩ : e = .returned (.bool true) ∧ Below W.heap.size W w')
  have hWab := fun (W : World) (hb : Below w.heap.size w W) => within_any a b W (by omega) (by omega) (hM.below hb)
  have hWaa := fun (W : World) (hb : Below w.heap.size w W) => within_any a a W (by omega) (by omega) (hM.below hb)
  have hWba := fun (W : World) (hb : Below w.heap.size w W) => within_any b a W (by omega) (by omega) (hM.below hb)
  have hWbc := fun (W : World) (hb : Below w.heap.size w W) => within_any b c W (by omega) (by omega) (hM.below hb)
  have hWac := fun (W : World) (hb : Below w.heap.size w W) => within_any a c W (by omega) (by omega) (hM.below hb)
  have hRab := fun (W : World) (_ : Below w.heap.size w W) => rwithin_any a b W (by omega) (by omega)
  have hRa := fun (W : World) (_ : Below w.heap.size w W) => rcheck_any a W (by omega)
  have hRb := fun (W : World) (_ : Below w.heap.size w W) => rcheck_any b W (by omega)
  have hCo := fun (W : World) (hb : Below w.heap.size w W) => gcommon_ok a b W (by omega) (by omega) (hM.below hb) hka hkb
  have hRc := fun (W : World) (_ : Below w.heap.size w W) => rcommon_any a b W hka hkb
  have hcs := common_size a b ha
  have hWhc := fun (W : World) (hb : Below w.heap.size w W) => within_any (mkS (common (bs a) (bs b))) c W (by omega) (by omega) (hM.below hb)
  have hwc := fun h1 h2 => within_common (a := bs a) (b := bs b) (c := bs c) h1 h2
  rw [bs_mk] at hWhc
  rw [within_self, hka] at hWaa
  rw [hka] at hRa
  rw [hkb] at hRb
  change ∀ (W : World), Below w.heap.size w W → GivesB _ _ _ (.tuple #[.string (mkS (common (bs a) (bs b))), _]) W at hCo
  rw [hab] at hWab hRab
  rw [hba] at hWba
  rw [hbc] at hWbc
  rw [hac] at hWac
  clear hwc
  have heq : (a.toList == b.toList) = true := by rw [ByteArray.toList_eq, ByteArray.toList_eq, beq_iff_eq]; exact within_antisymm hab hba
  have hcc := common_none hl
  rw [decide_eq_false (by simp [hl])] at hCo
  rw [hcc] at hCo hRc hWhc
  clear hcc hl hcs
  clear ha hbz hcz hM hS hs hka hkb hab hac hba hbc
  unfold GivesB at *
  go_enter Tryz.func6, Tryz.ntmps6
  go_wp2_with fail
  refine hK.mono ?_
  rintro e w1 ⟨rfl, hb1⟩
  go_wp2_with fail
  refine (hS' _).mono ?_
  rintro e w2 ⟨rfl, hb2⟩
  have hq2 := below_then' hb1 hb2
  clear hb1 hb2 hK hS'
  go_wp2_with fail
  refine (hWab _ hq2).mono ?_
  rintro e w3 ⟨rfl, hb3⟩
  have hq3 := below_then' hq2 hb3
  clear hb3 hq2
  go_wp2_with fail
  refine (hRab _ hq3).mono ?_
  rintro e w4 ⟨rfl, hb4⟩
  have hq4 := below_then' hq3 hb4
  clear hb4 hq3
  go_wp2_with fail
  refine (hWaa _ hq4).mono ?_
  rintro e w5 ⟨rfl, hb5⟩
  have hq5 := below_then' hq4 hb5
  clear hb5 hq4
  go_wp2_with fail
  refine (hRa _ hq5).mono ?_
  rintro e w6 ⟨rfl, hb6⟩
  have hq6 := below_then' hq5 hb6
  clear hb6 hq5
  go_wp2_with fail
  refine (hWab _ hq6).mono ?_
  rintro e w7 ⟨rfl, hb7⟩
  have hq7 := below_then' hq6 hb7
  clear hb7 hq6
  go_wp2_with fail
  refine (hWba _ hq7).mono ?_
  rintro e w8 ⟨rfl, hb8⟩
  have hq8 := below_then' hq7 hb8
  clear hb8 hq7
  go_wp2_with fail
  refine (hWab _ hq8).mono ?_
  rintro e w9 ⟨rfl, hb9⟩
  have hq9 := below_then' hq8 hb9
  clear hb9 hq8
  go_wp2_with fail
  refine (hWbc _ hq9).mono ?_
  rintro e w10 ⟨rfl, hb10⟩
  have hq10 := below_then' hq9 hb10
  clear hb10 hq9
  go_wp2_with fail
  refine (hCo _ hq10).mono ?_
  rintro e w11 ⟨rfl, hb11⟩
  have hq11 := below_then' hq10 hb11
  clear hb11 hq10
  go_wp2_with fail
  refine (hRa _ hq11).mono ?_
  rintro e w12 ⟨rfl, hb12⟩
  have hq12 := below_then' hq11 hb12
  clear hb12 hq11
  go_wp2_with fail
  refine (hRb _ hq12).mono ?_
  rintro e w13 ⟨rfl, hb13⟩
  have hq13 := below_then' hq12 hb13
  clear hb13 hq12
  go_wp2_with fail
  refine (hRc _ hq13).mono ?_
  rintro e w14 ⟨rfl, hb14⟩
  have hq14 := below_then' hq13 hb14
  clear hb14 hq13
  go_wp2_with fail
  refine (hWac _ hq14).mono ?_
  rintro e w15 ⟨rfl, hb15⟩
  have hq15 := below_then' hq14 hb15
  clear hb15 hq14
  go_wp2_with fail
  refine (hWbc _ hq15).mono ?_
  rintro e w16 ⟨rfl, hb16⟩
  have hq16 := below_then' hq15 hb16
  clear hb16 hq15
  go_wp2_with fail
  go_ret
  exact ⟨rfl, hq16⟩
set_option maxRecDepth 100000 in
set_option maxHeartbeats 8000000 in
theorem lawwithin_ok_1ttff (a b c : ByteArray) (w : World) (hM : ML w) (hs : shortB ([a, b, c].map bs) = true) (hka : check (bs a) = 0) (hkb : check (bs b) = 0) (hl : lcp (parts 46 (bs a)) (parts 46 (bs b)) = []) (hab : withinB (bs a) (bs b) = true) (hba : withinB (bs b) (bs a) = true) (hbc : withinB (bs b) (bs c) = false) (hac : withinB (bs a) (bs c) = false) : GivesB Tryz.prog 6 #[.string a, .string b, .string c] (.bool true) w := by
  obtain ⟨ha, hbz, hcz⟩ := short3 hs
  have hK := known_any w hM
  have hS := fun (W : World) => short_any (some ⟨W.heap.size, 0, none⟩) 3 3 [a, b, c] (W.alloc (.cells #[.string a, .string b, .string c] 9)) rfl (SS.new W [a, b, c] 9)
  have hS' := fun (W : World) => (hS W).mono fun e w' (hh : _ ∧ _) => (⟨hh.1.trans (by rw [hs]), ((Below.refl _ W).alloc (Nat.le_refl _) _).trans (hh.2.mono (by simp))⟩ : e = .returned (.bool true) ∧ Below W.heap.size W w')
  have hWab := fun (W : World) (hb : Below w.heap.size w W) => within_any a b W (by omega) (by omega) (hM.below hb)
  have hWaa := fun (W : World) (hb : Below w.heap.size w W) => within_any a a W (by omega) (by omega) (hM.below hb)
  have hWba := fun (W : World) (hb : Below w.heap.size w W) => within_any b a W (by omega) (by omega) (hM.below hb)
  have hWbc := fun (W : World) (hb : Below w.heap.size w W) => within_any b c W (by omega) (by omega) (hM.below hb)
  have hWac := fun (W : World) (hb : Below w.heap.size w W) => within_any a c W (by omega) (by omega) (hM.below hb)
  have hRab := fun (W : World) (_ : Below w.heap.size w W) => rwithin_any a b W (by omega) (by omega)
  have hRa := fun (W : World) (_ : Below w.heap.size w W) => rcheck_any a W (by omega)
  have hRb := fun (W : World) (_ : Below w.heap.size w W) => rcheck_any b W (by omega)
  have hCo := fun (W : World) (hb : Below w.heap.size w W) => gcommon_ok a b W (by omega) (by omega) (hM.below hb) hka hkb
  have hRc := fun (W : World) (_ : Below w.heap.size w W) => rcommon_any a b W hka hkb
  have hcs := common_size a b ha
  have hWhc := fun (W : World) (hb : Below w.heap.size w W) => within_any (mkS (common (bs a) (bs b))) c W (by omega) (by omega) (hM.below hb)
  have hwc := fun h1 h2 => within_common (a := bs a) (b := bs b) (c := bs c) h1 h2
  rw [bs_mk] at hWhc
  rw [within_self, hka] at hWaa
  rw [hka] at hRa
  rw [hkb] at hRb
  change ∀ (W : World), Below w.heap.size w W → GivesB _ _ _ (.tuple #[.string (mkS (common (bs a) (bs b))), _]) W at hCo
  rw [hab] at hWab hRab
  rw [hba] at hWba
  rw [hbc] at hWbc
  rw [hac] at hWac
  clear hwc
  have heq : (a.toList == b.toList) = true := by rw [ByteArray.toList_eq, ByteArray.toList_eq, beq_iff_eq]; exact within_antisymm hab hba
  have hcc := common_none hl
  rw [decide_eq_false (by simp [hl])] at hCo
  rw [hcc] at hCo hRc hWhc
  clear hcc hl hcs
  clear ha hbz hcz hM hS hs hka hkb hab hac hba hbc
  unfold GivesB at *
  go_enter Tryz.func6, Tryz.ntmps6
  go_wp2_with fail
  refine hK.mono ?_
  rintro e w1 ⟨rfl, hb1⟩
  go_wp2_with fail
  refine (hS' _).mono ?_
  rintro e w2 ⟨rfl, hb2⟩
  have hq2 := below_then' hb1 hb2
  clear hb1 hb2 hK hS'
  go_wp2_with fail
  refine (hWab _ hq2).mono ?_
  rintro e w3 ⟨rfl, hb3⟩
  have hq3 := below_then' hq2 hb3
  clear hb3 hq2
  go_wp2_with fail
  refine (hRab _ hq3).mono ?_
  rintro e w4 ⟨rfl, hb4⟩
  have hq4 := below_then' hq3 hb4
  clear hb4 hq3
  go_wp2_with fail
  refine (hWaa _ hq4).mono ?_
  rintro e w5 ⟨rfl, hb5⟩
  have hq5 := below_then' hq4 hb5
  clear hb5 hq4
  go_wp2_with fail
  refine (hRa _ hq5).mono ?_
  rintro e w6 ⟨rfl, hb6⟩
  have hq6 := below_then' hq5 hb6
  clear hb6 hq5
  go_wp2_with fail
  refine (hWab _ hq6).mono ?_
  rintro e w7 ⟨rfl, hb7⟩
  have hq7 := below_then' hq6 hb7
  clear hb7 hq6
  go_wp2_with fail
  refine (hWba _ hq7).mono ?_
  rintro e w8 ⟨rfl, hb8⟩
  have hq8 := below_then' hq7 hb8
  clear hb8 hq7
  go_wp2_with fail
  refine (hWab _ hq8).mono ?_
  rintro e w9 ⟨rfl, hb9⟩
  have hq9 := below_then' hq8 hb9
  clear hb9 hq8
  go_wp2_with fail
  refine (hWbc _ hq9).mono ?_
  rintro e w10 ⟨rfl, hb10⟩
  have hq10 := below_then' hq9 hb10
  clear hb10 hq9
  go_wp2_with fail
  refine (hCo _ hq10).mono ?_
  rintro e w11 ⟨rfl, hb11⟩
  have hq11 := below_then' hq10 hb11
  clear hb11 hq10
  go_wp2_with fail
  refine (hRa _ hq11).mono ?_
  rintro e w12 ⟨rfl, hb12⟩
  have hq12 := below_then' hq11 hb12
  clear hb12 hq11
  go_wp2_with fail
  refine (hRb _ hq12).mono ?_
  rintro e w13 ⟨rfl, hb13⟩
  have hq13 := below_then' hq12 hb13
  clear hb13 hq12
  go_wp2_with fail
  refine (hRc _ hq13).mono ?_
  rintro e w14 ⟨rfl, hb14⟩
  have hq14 := below_then' hq13 hb14
  clear hb14 hq13
  go_wp2_with fail
  refine (hWac _ hq14).mono ?_
  rintro e w15 ⟨rfl, hb15⟩
  have hq15 := below_then' hq14 hb15
  clear hb15 hq14
  go_wp2_with fail
  go_ret
  exact ⟨rfl, hq15⟩
set_option maxRecDepth 100000 in
set_option maxHeartbeats 8000000 in
theorem lawwithin_ok_1tfft (a b c : ByteArray) (w : World) (hM : ML w) (hs : shortB ([a, b, c].map bs) = true) (hka : check (bs a) = 0) (hkb : check (bs b) = 0) (hl : lcp (parts 46 (bs a)) (parts 46 (bs b)) = []) (hab : withinB (bs a) (bs b) = true) (hba : withinB (bs b) (bs a) = false) (hbc : withinB (bs b) (bs c) = false) (hac : withinB (bs a) (bs c) = true) : GivesB Tryz.prog 6 #[.string a, .string b, .string c] (.bool true) w := by
  obtain ⟨ha, hbz, hcz⟩ := short3 hs
  have hK := known_any w hM
  have hS := fun (W : World) => short_any (some ⟨W.heap.size, 0, none⟩) 3 3 [a, b, c] (W.alloc (.cells #[.string a, .string b, .string c] 9)) rfl (SS.new W [a, b, c] 9)
  have hS' := fun (W : World) => (hS W).mono fun e w' (hh : _ ∧ _) => (⟨hh.1.trans (by rw [hs]), ((Below.refl _ W).alloc (Nat.le_refl _) _).trans (hh.2.mono (by simp))⟩ : e = .returned (.bool true) ∧ Below W.heap.size W w')
  have hWab := fun (W : World) (hb : Below w.heap.size w W) => within_any a b W (by omega) (by omega) (hM.below hb)
  have hWaa := fun (W : World) (hb : Below w.heap.size w W) => within_any a a W (by omega) (by omega) (hM.below hb)
  have hWba := fun (W : World) (hb : Below w.heap.size w W) => within_any b a W (by omega) (by omega) (hM.below hb)
  have hWbc := fun (W : World) (hb : Below w.heap.size w W) => within_any b c W (by omega) (by omega) (hM.below hb)
  have hWac := fun (W : World) (hb : Below w.heap.size w W) => within_any a c W (by omega) (by omega) (hM.below hb)
  have hRab := fun (W : World) (_ : Below w.heap.size w W) => rwithin_any a b W (by omega) (by omega)
  have hRa := fun (W : World) (_ : Below w.heap.size w W) => rcheck_any a W (by omega)
  have hRb := fun (W : World) (_ : Below w.heap.size w W) => rcheck_any b W (by omega)
  have hCo := fun (W : World) (hb : Below w.heap.size w W) => gcommon_ok a b W (by omega) (by omega) (hM.below hb) hka hkb
  have hRc := fun (W : World) (_ : Below w.heap.size w W) => rcommon_any a b W hka hkb
  have hcs := common_size a b ha
  have hWhc := fun (W : World) (hb : Below w.heap.size w W) => within_any (mkS (common (bs a) (bs b))) c W (by omega) (by omega) (hM.below hb)
  have hwc := fun h1 h2 => within_common (a := bs a) (b := bs b) (c := bs c) h1 h2
  rw [bs_mk] at hWhc
  rw [within_self, hka] at hWaa
  rw [hka] at hRa
  rw [hkb] at hRb
  change ∀ (W : World), Below w.heap.size w W → GivesB _ _ _ (.tuple #[.string (mkS (common (bs a) (bs b))), _]) W at hCo
  rw [hab] at hWab hRab
  rw [hba] at hWba
  rw [hbc] at hWbc
  rw [hac] at hWac
  clear hwc
  have hcc := common_none hl
  rw [decide_eq_false (by simp [hl])] at hCo
  rw [hcc] at hCo hRc hWhc
  clear hcc hl hcs
  clear ha hbz hcz hM hS hs hka hkb hab hac hba hbc
  unfold GivesB at *
  go_enter Tryz.func6, Tryz.ntmps6
  go_wp2_with fail
  refine hK.mono ?_
  rintro e w1 ⟨rfl, hb1⟩
  go_wp2_with fail
  refine (hS' _).mono ?_
  rintro e w2 ⟨rfl, hb2⟩
  have hq2 := below_then' hb1 hb2
  clear hb1 hb2 hK hS'
  go_wp2_with fail
  refine (hWab _ hq2).mono ?_
  rintro e w3 ⟨rfl, hb3⟩
  have hq3 := below_then' hq2 hb3
  clear hb3 hq2
  go_wp2_with fail
  refine (hRab _ hq3).mono ?_
  rintro e w4 ⟨rfl, hb4⟩
  have hq4 := below_then' hq3 hb4
  clear hb4 hq3
  go_wp2_with fail
  refine (hWaa _ hq4).mono ?_
  rintro e w5 ⟨rfl, hb5⟩
  have hq5 := below_then' hq4 hb5
  clear hb5 hq4
  go_wp2_with fail
  refine (hRa _ hq5).mono ?_
  rintro e w6 ⟨rfl, hb6⟩
  have hq6 := below_then' hq5 hb6
  clear hb6 hq5
  go_wp2_with fail
  refine (hWab _ hq6).mono ?_
  rintro e w7 ⟨rfl, hb7⟩
  have hq7 := below_then' hq6 hb7
  clear hb7 hq6
  go_wp2_with fail
  refine (hWba _ hq7).mono ?_
  rintro e w8 ⟨rfl, hb8⟩
  have hq8 := below_then' hq7 hb8
  clear hb8 hq7
  go_wp2_with fail
  refine (hWab _ hq8).mono ?_
  rintro e w9 ⟨rfl, hb9⟩
  have hq9 := below_then' hq8 hb9
  clear hb9 hq8
  go_wp2_with fail
  refine (hWbc _ hq9).mono ?_
  rintro e w10 ⟨rfl, hb10⟩
  have hq10 := below_then' hq9 hb10
  clear hb10 hq9
  go_wp2_with fail
  refine (hCo _ hq10).mono ?_
  rintro e w11 ⟨rfl, hb11⟩
  have hq11 := below_then' hq10 hb11
  clear hb11 hq10
  go_wp2_with fail
  refine (hRa _ hq11).mono ?_
  rintro e w12 ⟨rfl, hb12⟩
  have hq12 := below_then' hq11 hb12
  clear hb12 hq11
  go_wp2_with fail
  refine (hRb _ hq12).mono ?_
  rintro e w13 ⟨rfl, hb13⟩
  have hq13 := below_then' hq12 hb13
  clear hb13 hq12
  go_wp2_with fail
  refine (hRc _ hq13).mono ?_
  rintro e w14 ⟨rfl, hb14⟩
  have hq14 := below_then' hq13 hb14
  clear hb14 hq13
  go_wp2_with fail
  refine (hWac _ hq14).mono ?_
  rintro e w15 ⟨rfl, hb15⟩
  have hq15 := below_then' hq14 hb15
  clear hb15 hq14
  go_wp2_with fail
  refine (hWbc _ hq15).mono ?_
  rintro e w16 ⟨rfl, hb16⟩
  have hq16 := below_then' hq15 hb16
  clear hb16 hq15
  go_wp2_with fail
  go_ret
  exact ⟨rfl, hq16⟩
set_option maxRecDepth 100000 in
set_option maxHeartbeats 8000000 in
theorem lawwithin_ok_1tfff (a b c : ByteArray) (w : World) (hM : ML w) (hs : shortB ([a, b, c].map bs) = true) (hka : check (bs a) = 0) (hkb : check (bs b) = 0) (hl : lcp (parts 46 (bs a)) (parts 46 (bs b)) = []) (hab : withinB (bs a) (bs b) = true) (hba : withinB (bs b) (bs a) = false) (hbc : withinB (bs b) (bs c) = false) (hac : withinB (bs a) (bs c) = false) : GivesB Tryz.prog 6 #[.string a, .string b, .string c] (.bool true) w := by
  obtain ⟨ha, hbz, hcz⟩ := short3 hs
  have hK := known_any w hM
  have hS := fun (W : World) => short_any (some ⟨W.heap.size, 0, none⟩) 3 3 [a, b, c] (W.alloc (.cells #[.string a, .string b, .string c] 9)) rfl (SS.new W [a, b, c] 9)
  have hS' := fun (W : World) => (hS W).mono fun e w' (hh : _ ∧ _) => (⟨hh.1.trans (by rw [hs]), ((Below.refl _ W).alloc (Nat.le_refl _) _).trans (hh.2.mono (by simp))⟩ : e = .returned (.bool true) ∧ Below W.heap.size W w')
  have hWab := fun (W : World) (hb : Below w.heap.size w W) => within_any a b W (by omega) (by omega) (hM.below hb)
  have hWaa := fun (W : World) (hb : Below w.heap.size w W) => within_any a a W (by omega) (by omega) (hM.below hb)
  have hWba := fun (W : World) (hb : Below w.heap.size w W) => within_any b a W (by omega) (by omega) (hM.below hb)
  have hWbc := fun (W : World) (hb : Below w.heap.size w W) => within_any b c W (by omega) (by omega) (hM.below hb)
  have hWac := fun (W : World) (hb : Below w.heap.size w W) => within_any a c W (by omega) (by omega) (hM.below hb)
  have hRab := fun (W : World) (_ : Below w.heap.size w W) => rwithin_any a b W (by omega) (by omega)
  have hRa := fun (W : World) (_ : Below w.heap.size w W) => rcheck_any a W (by omega)
  have hRb := fun (W : World) (_ : Below w.heap.size w W) => rcheck_any b W (by omega)
  have hCo := fun (W : World) (hb : Below w.heap.size w W) => gcommon_ok a b W (by omega) (by omega) (hM.below hb) hka hkb
  have hRc := fun (W : World) (_ : Below w.heap.size w W) => rcommon_any a b W hka hkb
  have hcs := common_size a b ha
  have hWhc := fun (W : World) (hb : Below w.heap.size w W) => within_any (mkS (common (bs a) (bs b))) c W (by omega) (by omega) (hM.below hb)
  have hwc := fun h1 h2 => within_common (a := bs a) (b := bs b) (c := bs c) h1 h2
  rw [bs_mk] at hWhc
  rw [within_self, hka] at hWaa
  rw [hka] at hRa
  rw [hkb] at hRb
  change ∀ (W : World), Below w.heap.size w W → GivesB _ _ _ (.tuple #[.string (mkS (common (bs a) (bs b))), _]) W at hCo
  rw [hab] at hWab hRab
  rw [hba] at hWba
  rw [hbc] at hWbc
  rw [hac] at hWac
  clear hwc
  have hcc := common_none hl
  rw [decide_eq_false (by simp [hl])] at hCo
  rw [hcc] at hCo hRc hWhc
  clear hcc hl hcs
  clear ha hbz hcz hM hS hs hka hkb hab hac hba hbc
  unfold GivesB at *
  go_enter Tryz.func6, Tryz.ntmps6
  go_wp2_with fail
  refine hK.mono ?_
  rintro e w1 ⟨rfl, hb1⟩
  go_wp2_with fail
  refine (hS' _).mono ?_
  rintro e w2 ⟨rfl, hb2⟩
  have hq2 := below_then' hb1 hb2
  clear hb1 hb2 hK hS'
  go_wp2_with fail
  refine (hWab _ hq2).mono ?_
  rintro e w3 ⟨rfl, hb3⟩
  have hq3 := below_then' hq2 hb3
  clear hb3 hq2
  go_wp2_with fail
  refine (hRab _ hq3).mono ?_
  rintro e w4 ⟨rfl, hb4⟩
  have hq4 := below_then' hq3 hb4
  clear hb4 hq3
  go_wp2_with fail
  refine (hWaa _ hq4).mono ?_
  rintro e w5 ⟨rfl, hb5⟩
  have hq5 := below_then' hq4 hb5
  clear hb5 hq4
  go_wp2_with fail
  refine (hRa _ hq5).mono ?_
  rintro e w6 ⟨rfl, hb6⟩
  have hq6 := below_then' hq5 hb6
  clear hb6 hq5
  go_wp2_with fail
  refine (hWab _ hq6).mono ?_
  rintro e w7 ⟨rfl, hb7⟩
  have hq7 := below_then' hq6 hb7
  clear hb7 hq6
  go_wp2_with fail
  refine (hWba _ hq7).mono ?_
  rintro e w8 ⟨rfl, hb8⟩
  have hq8 := below_then' hq7 hb8
  clear hb8 hq7
  go_wp2_with fail
  refine (hWab _ hq8).mono ?_
  rintro e w9 ⟨rfl, hb9⟩
  have hq9 := below_then' hq8 hb9
  clear hb9 hq8
  go_wp2_with fail
  refine (hWbc _ hq9).mono ?_
  rintro e w10 ⟨rfl, hb10⟩
  have hq10 := below_then' hq9 hb10
  clear hb10 hq9
  go_wp2_with fail
  refine (hCo _ hq10).mono ?_
  rintro e w11 ⟨rfl, hb11⟩
  have hq11 := below_then' hq10 hb11
  clear hb11 hq10
  go_wp2_with fail
  refine (hRa _ hq11).mono ?_
  rintro e w12 ⟨rfl, hb12⟩
  have hq12 := below_then' hq11 hb12
  clear hb12 hq11
  go_wp2_with fail
  refine (hRb _ hq12).mono ?_
  rintro e w13 ⟨rfl, hb13⟩
  have hq13 := below_then' hq12 hb13
  clear hb13 hq12
  go_wp2_with fail
  refine (hRc _ hq13).mono ?_
  rintro e w14 ⟨rfl, hb14⟩
  have hq14 := below_then' hq13 hb14
  clear hb14 hq13
  go_wp2_with fail
  refine (hWac _ hq14).mono ?_
  rintro e w15 ⟨rfl, hb15⟩
  have hq15 := below_then' hq14 hb15
  clear hb15 hq14
  go_wp2_with fail
  go_ret
  exact ⟨rfl, hq15⟩
set_option maxRecDepth 100000 in
set_option maxHeartbeats 8000000 in
theorem lawwithin_ok_1fxxf (a b c : ByteArray) (w : World) (hM : ML w) (hs : shortB ([a, b, c].map bs) = true) (hka : check (bs a) = 0) (hkb : check (bs b) = 0) (hl : lcp (parts 46 (bs a)) (parts 46 (bs b)) = []) (hab : withinB (bs a) (bs b) = false) (hac : withinB (bs a) (bs c) = false) : GivesB Tryz.prog 6 #[.string a, .string b, .string c] (.bool true) w := by
  obtain ⟨ha, hbz, hcz⟩ := short3 hs
  have hK := known_any w hM
  have hS := fun (W : World) => short_any (some ⟨W.heap.size, 0, none⟩) 3 3 [a, b, c] (W.alloc (.cells #[.string a, .string b, .string c] 9)) rfl (SS.new W [a, b, c] 9)
  have hS' := fun (W : World) => (hS W).mono fun e w' (hh : _ ∧ _) => (⟨hh.1.trans (by rw [hs]), ((Below.refl _ W).alloc (Nat.le_refl _) _).trans (hh.2.mono (by simp))⟩ : e = .returned (.bool true) ∧ Below W.heap.size W w')
  have hWab := fun (W : World) (hb : Below w.heap.size w W) => within_any a b W (by omega) (by omega) (hM.below hb)
  have hWaa := fun (W : World) (hb : Below w.heap.size w W) => within_any a a W (by omega) (by omega) (hM.below hb)
  have hWba := fun (W : World) (hb : Below w.heap.size w W) => within_any b a W (by omega) (by omega) (hM.below hb)
  have hWbc := fun (W : World) (hb : Below w.heap.size w W) => within_any b c W (by omega) (by omega) (hM.below hb)
  have hWac := fun (W : World) (hb : Below w.heap.size w W) => within_any a c W (by omega) (by omega) (hM.below hb)
  have hRab := fun (W : World) (_ : Below w.heap.size w W) => rwithin_any a b W (by omega) (by omega)
  have hRa := fun (W : World) (_ : Below w.heap.size w W) => rcheck_any a W (by omega)
  have hRb := fun (W : World) (_ : Below w.heap.size w W) => rcheck_any b W (by omega)
  have hCo := fun (W : World) (hb : Below w.heap.size w W) => gcommon_ok a b W (by omega) (by omega) (hM.below hb) hka hkb
  have hRc := fun (W : World) (_ : Below w.heap.size w W) => rcommon_any a b W hka hkb
  have hcs := common_size a b ha
  have hWhc := fun (W : World) (hb : Below w.heap.size w W) => within_any (mkS (common (bs a) (bs b))) c W (by omega) (by omega) (hM.below hb)
  have hwc := fun h1 h2 => within_common (a := bs a) (b := bs b) (c := bs c) h1 h2
  rw [bs_mk] at hWhc
  rw [within_self, hka] at hWaa
  rw [hka] at hRa
  rw [hkb] at hRb
  change ∀ (W : World), Below w.heap.size w W → GivesB _ _ _ (.tuple #[.string (mkS (common (bs a) (bs b))), _]) W at hCo
  rw [hab] at hWab hRab
  rw [hac] at hWac
  clear hwc
  have hcc := common_none hl
  rw [decide_eq_false (by simp [hl])] at hCo
  rw [hcc] at hCo hRc hWhc
  clear hcc hl hcs
  clear ha hbz hcz hM hS hs hka hkb hab hac
  unfold GivesB at *
  go_enter Tryz.func6, Tryz.ntmps6
  go_wp2_with fail
  refine hK.mono ?_
  rintro e w1 ⟨rfl, hb1⟩
  go_wp2_with fail
  refine (hS' _).mono ?_
  rintro e w2 ⟨rfl, hb2⟩
  have hq2 := below_then' hb1 hb2
  clear hb1 hb2 hK hS'
  go_wp2_with fail
  refine (hWab _ hq2).mono ?_
  rintro e w3 ⟨rfl, hb3⟩
  have hq3 := below_then' hq2 hb3
  clear hb3 hq2
  go_wp2_with fail
  refine (hRab _ hq3).mono ?_
  rintro e w4 ⟨rfl, hb4⟩
  have hq4 := below_then' hq3 hb4
  clear hb4 hq3
  go_wp2_with fail
  refine (hWaa _ hq4).mono ?_
  rintro e w5 ⟨rfl, hb5⟩
  have hq5 := below_then' hq4 hb5
  clear hb5 hq4
  go_wp2_with fail
  refine (hRa _ hq5).mono ?_
  rintro e w6 ⟨rfl, hb6⟩
  have hq6 := below_then' hq5 hb6
  clear hb6 hq5
  go_wp2_with fail
  refine (hWab _ hq6).mono ?_
  rintro e w7 ⟨rfl, hb7⟩
  have hq7 := below_then' hq6 hb7
  clear hb7 hq6
  go_wp2_with fail
  refine (hWab _ hq7).mono ?_
  rintro e w8 ⟨rfl, hb8⟩
  have hq8 := below_then' hq7 hb8
  clear hb8 hq7
  go_wp2_with fail
  refine (hCo _ hq8).mono ?_
  rintro e w9 ⟨rfl, hb9⟩
  have hq9 := below_then' hq8 hb9
  clear hb9 hq8
  go_wp2_with fail
  refine (hRa _ hq9).mono ?_
  rintro e w10 ⟨rfl, hb10⟩
  have hq10 := below_then' hq9 hb10
  clear hb10 hq9
  go_wp2_with fail
  refine (hRb _ hq10).mono ?_
  rintro e w11 ⟨rfl, hb11⟩
  have hq11 := below_then' hq10 hb11
  clear hb11 hq10
  go_wp2_with fail
  refine (hRc _ hq11).mono ?_
  rintro e w12 ⟨rfl, hb12⟩
  have hq12 := below_then' hq11 hb12
  clear hb12 hq11
  go_wp2_with fail
  refine (hWac _ hq12).mono ?_
  rintro e w13 ⟨rfl, hb13⟩
  have hq13 := below_then' hq12 hb13
  clear hb13 hq12
  go_wp2_with fail
  go_ret
  exact ⟨rfl, hq13⟩
set_option maxRecDepth 100000 in
set_option maxHeartbeats 8000000 in
theorem lawwithin_ok_1fxft (a b c : ByteArray) (w : World) (hM : ML w) (hs : shortB ([a, b, c].map bs) = true) (hka : check (bs a) = 0) (hkb : check (bs b) = 0) (hl : lcp (parts 46 (bs a)) (parts 46 (bs b)) = []) (hab : withinB (bs a) (bs b) = false) (hbc : withinB (bs b) (bs c) = false) (hac : withinB (bs a) (bs c) = true) : GivesB Tryz.prog 6 #[.string a, .string b, .string c] (.bool true) w := by
  obtain ⟨ha, hbz, hcz⟩ := short3 hs
  have hK := known_any w hM
  have hS := fun (W : World) => short_any (some ⟨W.heap.size, 0, none⟩) 3 3 [a, b, c] (W.alloc (.cells #[.string a, .string b, .string c] 9)) rfl (SS.new W [a, b, c] 9)
  have hS' := fun (W : World) => (hS W).mono fun e w' (hh : _ ∧ _) => (⟨hh.1.trans (by rw [hs]), ((Below.refl _ W).alloc (Nat.le_refl _) _).trans (hh.2.mono (by simp))⟩ : e = .returned (.bool true) ∧ Below W.heap.size W w')
  have hWab := fun (W : World) (hb : Below w.heap.size w W) => within_any a b W (by omega) (by omega) (hM.below hb)
  have hWaa := fun (W : World) (hb : Below w.heap.size w W) => within_any a a W (by omega) (by omega) (hM.below hb)
  have hWba := fun (W : World) (hb : Below w.heap.size w W) => within_any b a W (by omega) (by omega) (hM.below hb)
  have hWbc := fun (W : World) (hb : Below w.heap.size w W) => within_any b c W (by omega) (by omega) (hM.below hb)
  have hWac := fun (W : World) (hb : Below w.heap.size w W) => within_any a c W (by omega) (by omega) (hM.below hb)
  have hRab := fun (W : World) (_ : Below w.heap.size w W) => rwithin_any a b W (by omega) (by omega)
  have hRa := fun (W : World) (_ : Below w.heap.size w W) => rcheck_any a W (by omega)
  have hRb := fun (W : World) (_ : Below w.heap.size w W) => rcheck_any b W (by omega)
  have hCo := fun (W : World) (hb : Below w.heap.size w W) => gcommon_ok a b W (by omega) (by omega) (hM.below hb) hka hkb
  have hRc := fun (W : World) (_ : Below w.heap.size w W) => rcommon_any a b W hka hkb
  have hcs := common_size a b ha
  have hWhc := fun (W : World) (hb : Below w.heap.size w W) => within_any (mkS (common (bs a) (bs b))) c W (by omega) (by omega) (hM.below hb)
  have hwc := fun h1 h2 => within_common (a := bs a) (b := bs b) (c := bs c) h1 h2
  rw [bs_mk] at hWhc
  rw [within_self, hka] at hWaa
  rw [hka] at hRa
  rw [hkb] at hRb
  change ∀ (W : World), Below w.heap.size w W → GivesB _ _ _ (.tuple #[.string (mkS (common (bs a) (bs b))), _]) W at hCo
  rw [hab] at hWab hRab
  rw [hbc] at hWbc
  rw [hac] at hWac
  clear hwc
  have hcc := common_none hl
  rw [decide_eq_false (by simp [hl])] at hCo
  rw [hcc] at hCo hRc hWhc
  clear hcc hl hcs
  clear ha hbz hcz hM hS hs hka hkb hab hac hbc
  unfold GivesB at *
  go_enter Tryz.func6, Tryz.ntmps6
  go_wp2_with fail
  refine hK.mono ?_
  rintro e w1 ⟨rfl, hb1⟩
  go_wp2_with fail
  refine (hS' _).mono ?_
  rintro e w2 ⟨rfl, hb2⟩
  have hq2 := below_then' hb1 hb2
  clear hb1 hb2 hK hS'
  go_wp2_with fail
  refine (hWab _ hq2).mono ?_
  rintro e w3 ⟨rfl, hb3⟩
  have hq3 := below_then' hq2 hb3
  clear hb3 hq2
  go_wp2_with fail
  refine (hRab _ hq3).mono ?_
  rintro e w4 ⟨rfl, hb4⟩
  have hq4 := below_then' hq3 hb4
  clear hb4 hq3
  go_wp2_with fail
  refine (hWaa _ hq4).mono ?_
  rintro e w5 ⟨rfl, hb5⟩
  have hq5 := below_then' hq4 hb5
  clear hb5 hq4
  go_wp2_with fail
  refine (hRa _ hq5).mono ?_
  rintro e w6 ⟨rfl, hb6⟩
  have hq6 := below_then' hq5 hb6
  clear hb6 hq5
  go_wp2_with fail
  refine (hWab _ hq6).mono ?_
  rintro e w7 ⟨rfl, hb7⟩
  have hq7 := below_then' hq6 hb7
  clear hb7 hq6
  go_wp2_with fail
  refine (hWab _ hq7).mono ?_
  rintro e w8 ⟨rfl, hb8⟩
  have hq8 := below_then' hq7 hb8
  clear hb8 hq7
  go_wp2_with fail
  refine (hCo _ hq8).mono ?_
  rintro e w9 ⟨rfl, hb9⟩
  have hq9 := below_then' hq8 hb9
  clear hb9 hq8
  go_wp2_with fail
  refine (hRa _ hq9).mono ?_
  rintro e w10 ⟨rfl, hb10⟩
  have hq10 := below_then' hq9 hb10
  clear hb10 hq9
  go_wp2_with fail
  refine (hRb _ hq10).mono ?_
  rintro e w11 ⟨rfl, hb11⟩
  have hq11 := below_then' hq10 hb11
  clear hb11 hq10
  go_wp2_with fail
  refine (hRc _ hq11).mono ?_
  rintro e w12 ⟨rfl, hb12⟩
  have hq12 := below_then' hq11 hb12
  clear hb12 hq11
  go_wp2_with fail
  refine (hWac _ hq12).mono ?_
  rintro e w13 ⟨rfl, hb13⟩
  have hq13 := below_then' hq12 hb13
  clear hb13 hq12
  go_wp2_with fail
  refine (hWbc _ hq13).mono ?_
  rintro e w14 ⟨rfl, hb14⟩
  have hq14 := below_then' hq13 hb14
  clear hb14 hq13
  go_wp2_with fail
  go_ret
  exact ⟨rfl, hq14⟩
set_option maxRecDepth 100000 in
set_option maxHeartbeats 8000000 in
theorem lawwithin_ok_1fxtt (a b c : ByteArray) (w : World) (hM : ML w) (hs : shortB ([a, b, c].map bs) = true) (hka : check (bs a) = 0) (hkb : check (bs b) = 0) (hl : lcp (parts 46 (bs a)) (parts 46 (bs b)) = []) (hab : withinB (bs a) (bs b) = false) (hbc : withinB (bs b) (bs c) = true) (hac : withinB (bs a) (bs c) = true) : GivesB Tryz.prog 6 #[.string a, .string b, .string c] (.bool true) w := by
  obtain ⟨ha, hbz, hcz⟩ := short3 hs
  have hK := known_any w hM
  have hS := fun (W : World) => short_any (some ⟨W.heap.size, 0, none⟩) 3 3 [a, b, c] (W.alloc (.cells #[.string a, .string b, .string c] 9)) rfl (SS.new W [a, b, c] 9)
  have hS' := fun (W : World) => (hS W).mono fun e w' (hh : _ ∧ _) => (⟨hh.1.trans (by rw [hs]), ((Below.refl _ W).alloc (Nat.le_refl _) _).trans (hh.2.mono (by simp))⟩ : e = .returned (.bool true) ∧ Below W.heap.size W w')
  have hWab := fun (W : World) (hb : Below w.heap.size w W) => within_any a b W (by omega) (by omega) (hM.below hb)
  have hWaa := fun (W : World) (hb : Below w.heap.size w W) => within_any a a W (by omega) (by omega) (hM.below hb)
  have hWba := fun (W : World) (hb : Below w.heap.size w W) => within_any b a W (by omega) (by omega) (hM.below hb)
  have hWbc := fun (W : World) (hb : Below w.heap.size w W) => within_any b c W (by omega) (by omega) (hM.below hb)
  have hWac := fun (W : World) (hb : Below w.heap.size w W) => within_any a c W (by omega) (by omega) (hM.below hb)
  have hRab := fun (W : World) (_ : Below w.heap.size w W) => rwithin_any a b W (by omega) (by omega)
  have hRa := fun (W : World) (_ : Below w.heap.size w W) => rcheck_any a W (by omega)
  have hRb := fun (W : World) (_ : Below w.heap.size w W) => rcheck_any b W (by omega)
  have hCo := fun (W : World) (hb : Below w.heap.size w W) => gcommon_ok a b W (by omega) (by omega) (hM.below hb) hka hkb
  have hRc := fun (W : World) (_ : Below w.heap.size w W) => rcommon_any a b W hka hkb
  have hcs := common_size a b ha
  have hWhc := fun (W : World) (hb : Below w.heap.size w W) => within_any (mkS (common (bs a) (bs b))) c W (by omega) (by omega) (hM.below hb)
  have hwc := fun h1 h2 => within_common (a := bs a) (b := bs b) (c := bs c) h1 h2
  rw [bs_mk] at hWhc
  rw [within_self, hka] at hWaa
  rw [hka] at hRa
  rw [hkb] at hRb
  change ∀ (W : World), Below w.heap.size w W → GivesB _ _ _ (.tuple #[.string (mkS (common (bs a) (bs b))), _]) W at hCo
  rw [hab] at hWab hRab
  rw [hbc] at hWbc
  rw [hac] at hWac
  rw [hwc hac hbc] at hWhc
  clear hwc
  have hcc := common_none hl
  rw [decide_eq_false (by simp [hl])] at hCo
  rw [hcc] at hCo hRc hWhc
  clear hcc hl hcs
  clear ha hbz hcz hM hS hs hka hkb hab hac hbc
  unfold GivesB at *
  go_enter Tryz.func6, Tryz.ntmps6
  go_wp2_with fail
  refine hK.mono ?_
  rintro e w1 ⟨rfl, hb1⟩
  go_wp2_with fail
  refine (hS' _).mono ?_
  rintro e w2 ⟨rfl, hb2⟩
  have hq2 := below_then' hb1 hb2
  clear hb1 hb2 hK hS'
  go_wp2_with fail
  refine (hWab _ hq2).mono ?_
  rintro e w3 ⟨rfl, hb3⟩
  have hq3 := below_then' hq2 hb3
  clear hb3 hq2
  go_wp2_with fail
  refine (hRab _ hq3).mono ?_
  rintro e w4 ⟨rfl, hb4⟩
  have hq4 := below_then' hq3 hb4
  clear hb4 hq3
  go_wp2_with fail
  refine (hWaa _ hq4).mono ?_
  rintro e w5 ⟨rfl, hb5⟩
  have hq5 := below_then' hq4 hb5
  clear hb5 hq4
  go_wp2_with fail
  refine (hRa _ hq5).mono ?_
  rintro e w6 ⟨rfl, hb6⟩
  have hq6 := below_then' hq5 hb6
  clear hb6 hq5
  go_wp2_with fail
  refine (hWab _ hq6).mono ?_
  rintro e w7 ⟨rfl, hb7⟩
  have hq7 := below_then' hq6 hb7
  clear hb7 hq6
  go_wp2_with fail
  refine (hWab _ hq7).mono ?_
  rintro e w8 ⟨rfl, hb8⟩
  have hq8 := below_then' hq7 hb8
  clear hb8 hq7
  go_wp2_with fail
  refine (hCo _ hq8).mono ?_
  rintro e w9 ⟨rfl, hb9⟩
  have hq9 := below_then' hq8 hb9
  clear hb9 hq8
  go_wp2_with fail
  refine (hRa _ hq9).mono ?_
  rintro e w10 ⟨rfl, hb10⟩
  have hq10 := below_then' hq9 hb10
  clear hb10 hq9
  go_wp2_with fail
  refine (hRb _ hq10).mono ?_
  rintro e w11 ⟨rfl, hb11⟩
  have hq11 := below_then' hq10 hb11
  clear hb11 hq10
  go_wp2_with fail
  refine (hRc _ hq11).mono ?_
  rintro e w12 ⟨rfl, hb12⟩
  have hq12 := below_then' hq11 hb12
  clear hb12 hq11
  go_wp2_with fail
  refine (hWac _ hq12).mono ?_
  rintro e w13 ⟨rfl, hb13⟩
  have hq13 := below_then' hq12 hb13
  clear hb13 hq12
  go_wp2_with fail
  refine (hWbc _ hq13).mono ?_
  rintro e w14 ⟨rfl, hb14⟩
  have hq14 := below_then' hq13 hb14
  clear hb14 hq13
  go_wp2_with fail
  refine (hWhc _ hq14).mono ?_
  rintro e w15 ⟨rfl, hb15⟩
  have hq15 := below_then' hq14 hb15
  clear hb15 hq14
  go_wp2_with fail
  go_ret
  exact ⟨rfl, hq15⟩
set_option maxRecDepth 100000 in
set_option maxHeartbeats 8000000 in
theorem lawwithin_bad1 (a b c : ByteArray) (w : World) (hM : ML w) (hs : shortB ([a, b, c].map bs) = true) (hka : check (bs a) ≠ 0) : GivesB Tryz.prog 6 #[.string a, .string b, .string c] (.bool true) w := by
  obtain ⟨ha, hbz, hcz⟩ := short3 hs
  have hK := known_any w hM
  have hS := fun (W : World) => short_any (some ⟨W.heap.size, 0, none⟩) 3 3 [a, b, c] (W.alloc (.cells #[.string a, .string b, .string c] 9)) rfl (SS.new W [a, b, c] 9)
  have hS' := fun (W : World) => (hS W).mono fun e w' (hh : _ ∧ _) => (⟨hh.1.trans (by rw [hs]), ((Below.refl _ W).alloc (Nat.le_refl _) _).trans (hh.2.mono (by simp))⟩ : e = .returned (.bool true) ∧ Below W.heap.size W w')
  have hWab := fun (W : World) (hb : Below w.heap.size w W) => within_any a b W (by omega) (by omega) (hM.below hb)
  have hWaa := fun (W : World) (hb : Below w.heap.size w W) => within_any a a W (by omega) (by omega) (hM.below hb)
  have hWba := fun (W : World) (hb : Below w.heap.size w W) => within_any b a W (by omega) (by omega) (hM.below hb)
  have hWbc := fun (W : World) (hb : Below w.heap.size w W) => within_any b c W (by omega) (by omega) (hM.below hb)
  have hWac := fun (W : World) (hb : Below w.heap.size w W) => within_any a c W (by omega) (by omega) (hM.below hb)
  have hRab := fun (W : World) (_ : Below w.heap.size w W) => rwithin_any a b W (by omega) (by omega)
  have hRa := fun (W : World) (_ : Below w.heap.size w W) => rcheck_any a W (by omega)
  have hRb := fun (W : World) (_ : Below w.heap.size w W) => rcheck_any b W (by omega)
  have hCo := fun (W : World) (hb : Below w.heap.size w W) => gcommon_bad1 a b W (by omega) (by omega) (hM.below hb) hka
  have hab : withinB (bs a) (bs b) = false := by simp [withinB, hka]
  rw [hab] at hWab hRab
  rw [within_self] at hWaa
  rw [decide_eq_false hka] at hWaa
  generalize check (bs a) = k at *
  have hk0 : ((k : Int) == 0) = false := by simp; omega
  have hk1 : ((k : Int) != 0) = true := by simp; omega
  clear ha hbz hcz hM hS hs hka hab
  unfold GivesB at *
  go_enter Tryz.func6, Tryz.ntmps6
  go_wp2_with fail
  refine hK.mono ?_
  rintro e w1 ⟨rfl, hb1⟩
  go_wp2_with fail
  refine (hS' _).mono ?_
  rintro e w2 ⟨rfl, hb2⟩
  have hq2 := below_then' hb1 hb2
  clear hb1 hb2 hK hS'
  go_wp2_with fail
  refine (hWab _ hq2).mono ?_
  rintro e w3 ⟨rfl, hb3⟩
  have hq3 := below_then' hq2 hb3
  clear hb3 hq2
  go_wp2_with fail
  refine (hRab _ hq3).mono ?_
  rintro e w4 ⟨rfl, hb4⟩
  have hq4 := below_then' hq3 hb4
  clear hb4 hq3
  go_wp2_with fail
  refine (hWaa _ hq4).mono ?_
  rintro e w5 ⟨rfl, hb5⟩
  have hq5 := below_then' hq4 hb5
  clear hb5 hq4
  go_wp2_with fail
  refine (hRa _ hq5).mono ?_
  rintro e w6 ⟨rfl, hb6⟩
  have hq6 := below_then' hq5 hb6
  clear hb6 hq5
  go_wp2_with fail
  refine (hWab _ hq6).mono ?_
  rintro e w7 ⟨rfl, hb7⟩
  have hq7 := below_then' hq6 hb7
  clear hb7 hq6
  go_wp2_with fail
  refine (hWab _ hq7).mono ?_
  rintro e w8 ⟨rfl, hb8⟩
  have hq8 := below_then' hq7 hb8
  clear hb8 hq7
  go_wp2_with fail
  refine (hCo _ hq8).mono ?_
  rintro e w9 ⟨rfl, hb9⟩
  have hq9 := below_then' hq8 hb9
  clear hb9 hq8
  go_wp2_with fail
  refine (hRa _ hq9).mono ?_
  rintro e w10 ⟨rfl, hb10⟩
  have hq10 := below_then' hq9 hb10
  clear hb10 hq9
  go_wp2_with fail
  go_ret
  exact ⟨rfl, hq10⟩
set_option maxRecDepth 100000 in
set_option maxHeartbeats 8000000 in
theorem lawwithin_bad2 (a b c : ByteArray) (w : World) (hM : ML w) (hs : shortB ([a, b, c].map bs) = true) (hka : check (bs a) = 0) (hkb : check (bs b) ≠ 0) : GivesB Tryz.prog 6 #[.string a, .string b, .string c] (.bool true) w := by
  obtain ⟨ha, hbz, hcz⟩ := short3 hs
  have hK := known_any w hM
  have hS := fun (W : World) => short_any (some ⟨W.heap.size, 0, none⟩) 3 3 [a, b, c] (W.alloc (.cells #[.string a, .string b, .string c] 9)) rfl (SS.new W [a, b, c] 9)
  have hS' := fun (W : World) => (hS W).mono fun e w' (hh : _ ∧ _) => (⟨hh.1.trans (by rw [hs]), ((Below.refl _ W).alloc (Nat.le_refl _) _).trans (hh.2.mono (by simp))⟩ : e = .returned (.bool true) ∧ Below W.heap.size W w')
  have hWab := fun (W : World) (hb : Below w.heap.size w W) => within_any a b W (by omega) (by omega) (hM.below hb)
  have hWaa := fun (W : World) (hb : Below w.heap.size w W) => within_any a a W (by omega) (by omega) (hM.below hb)
  have hWba := fun (W : World) (hb : Below w.heap.size w W) => within_any b a W (by omega) (by omega) (hM.below hb)
  have hWbc := fun (W : World) (hb : Below w.heap.size w W) => within_any b c W (by omega) (by omega) (hM.below hb)
  have hWac := fun (W : World) (hb : Below w.heap.size w W) => within_any a c W (by omega) (by omega) (hM.below hb)
  have hRab := fun (W : World) (_ : Below w.heap.size w W) => rwithin_any a b W (by omega) (by omega)
  have hRa := fun (W : World) (_ : Below w.heap.size w W) => rcheck_any a W (by omega)
  have hRb := fun (W : World) (_ : Below w.heap.size w W) => rcheck_any b W (by omega)
  have hCo := fun (W : World) (hb : Below w.heap.size w W) => gcommon_bad2 a b W (by omega) (by omega) (hM.below hb) hka hkb
  have hab : withinB (bs a) (bs b) = false := by simp [withinB, hkb]
  rw [hab] at hWab hRab
  rw [within_self] at hWaa
  rw [hka] at hWaa hRa
  generalize check (bs b) = k at *
  have hk0 : ((k : Int) == 0) = false := by simp; omega
  have hk1 : ((k : Int) != 0) = true := by simp; omega
  clear ha hbz hcz hM hS hs hka hab hkb
  unfold GivesB at *
  go_enter Tryz.func6, Tryz.ntmps6
  go_wp2_with fail
  refine hK.mono ?_
  rintro e w1 ⟨rfl, hb1⟩
  go_wp2_with fail
  refine (hS' _).mono ?_
  rintro e w2 ⟨rfl, hb2⟩
  have hq2 := below_then' hb1 hb2
  clear hb1 hb2 hK hS'
  go_wp2_with fail
  refine (hWab _ hq2).mono ?_
  rintro e w3 ⟨rfl, hb3⟩
  have hq3 := below_then' hq2 hb3
  clear hb3 hq2
  go_wp2_with fail
  refine (hRab _ hq3).mono ?_
  rintro e w4 ⟨rfl, hb4⟩
  have hq4 := below_then' hq3 hb4
  clear hb4 hq3
  go_wp2_with fail
  refine (hWaa _ hq4).mono ?_
  rintro e w5 ⟨rfl, hb5⟩
  have hq5 := below_then' hq4 hb5
  clear hb5 hq4
  go_wp2_with fail
  refine (hRa _ hq5).mono ?_
  rintro e w6 ⟨rfl, hb6⟩
  have hq6 := below_then' hq5 hb6
  clear hb6 hq5
  go_wp2_with fail
  refine (hWab _ hq6).mono ?_
  rintro e w7 ⟨rfl, hb7⟩
  have hq7 := below_then' hq6 hb7
  clear hb7 hq6
  go_wp2_with fail
  refine (hWab _ hq7).mono ?_
  rintro e w8 ⟨rfl, hb8⟩
  have hq8 := below_then' hq7 hb8
  clear hb8 hq7
  go_wp2_with fail
  refine (hCo _ hq8).mono ?_
  rintro e w9 ⟨rfl, hb9⟩
  have hq9 := below_then' hq8 hb9
  clear hb9 hq8
  go_wp2_with fail
  refine (hRa _ hq9).mono ?_
  rintro e w10 ⟨rfl, hb10⟩
  have hq10 := below_then' hq9 hb10
  clear hb10 hq9
  go_wp2_with fail
  refine (hRb _ hq10).mono ?_
  rintro e w11 ⟨rfl, hb11⟩
  have hq11 := below_then' hq10 hb11
  clear hb11 hq10
  go_wp2_with fail
  go_ret
  exact ⟨rfl, hq11⟩
theorem lawwithin_any (a b c : ByteArray) (w : World) (hM : ML w) : GivesB Tryz.prog 6 #[.string a, .string b, .string c] (.bool true) w := by
  cases hs : shortB ([a, b, c].map bs) with
  | false => exact lawwithin_long a b c w hM hs
  | true =>
    by_cases hka : check (bs a) = 0
    case neg => exact lawwithin_bad1 a b c w hM hs hka
    by_cases hkb : check (bs b) = 0
    case neg => exact lawwithin_bad2 a b c w hM hs hka hkb
    cases hab : withinB (bs a) (bs b) <;> cases hba : withinB (bs b) (bs a) <;> cases hbc : withinB (bs b) (bs c) <;> cases hac : withinB (bs a) (bs c) <;> by_cases hl : lcp (parts 46 (bs a)) (parts 46 (bs b)) = []
    all_goals first
      | (exfalso; have := within_trans hab hbc; rw [hac] at this; cases this; done)
      | exact lawwithin_ok_0tttt a b c w hM hs hka hkb hl hab hba hbc hac
      | exact lawwithin_ok_0tftt a b c w hM hs hka hkb hl hab hba hbc hac
      | exact lawwithin_ok_0ttft a b c w hM hs hka hkb hl hab hba hbc hac
      | exact lawwithin_ok_0ttff a b c w hM hs hka hkb hl hab hba hbc hac
      | exact lawwithin_ok_0tfft a b c w hM hs hka hkb hl hab hba hbc hac
      | exact lawwithin_ok_0tfff a b c w hM hs hka hkb hl hab hba hbc hac
      | exact lawwithin_ok_0fxxf a b c w hM hs hka hkb hl hab hac
      | exact lawwithin_ok_0fxft a b c w hM hs hka hkb hl hab hbc hac
      | exact lawwithin_ok_0fxtt a b c w hM hs hka hkb hl hab hbc hac
      | exact lawwithin_ok_1tttt a b c w hM hs hka hkb hl hab hba hbc hac
      | exact lawwithin_ok_1tftt a b c w hM hs hka hkb hl hab hba hbc hac
      | exact lawwithin_ok_1ttft a b c w hM hs hka hkb hl hab hba hbc hac
      | exact lawwithin_ok_1ttff a b c w hM hs hka hkb hl hab hba hbc hac
      | exact lawwithin_ok_1tfft a b c w hM hs hka hkb hl hab hba hbc hac
      | exact lawwithin_ok_1tfff a b c w hM hs hka hkb hl hab hba hbc hac
      | exact lawwithin_ok_1fxxf a b c w hM hs hka hkb hl hab hac
      | exact lawwithin_ok_1fxft a b c w hM hs hka hkb hl hab hbc hac
      | exact lawwithin_ok_1fxtt a b c w hM hs hka hkb hl hab hbc hac
end Go.Proofs.YtbgkepdnemgkdaaGreatDoor
