/- Walks of cmp.Compare, slices.Compare over strings, groupname.Compare. -/
import Derived.Test.YtbgkepdnemgkdaaGreatDoorGnBase
namespace Go.Proofs.YtbgkepdnemgkdaaGreatDoor
open Go.RowKit Go.Gn

theorem bytesLess_cmp : ∀ (x y : Str), Op.bytesLess x y = decide (cmpS x y < 0)
  | [], [] => rfl
  | [], _ :: _ => rfl
  | _ :: _, [] => rfl
  | a :: x, b :: y => by
    have ih := bytesLess_cmp x y
    unfold cmpS at ih
    unfold Op.bytesLess cmpS cmpL
    rw [ih]
    by_cases h1 : a < b
    · have e : cmpB a b = -1 := by simp [cmpB, h1]
      simp [h1, e]
    · by_cases h2 : b < a
      · have e : cmpB a b = 1 := by simp [cmpB, h1, h2]
        have h3 : ¬ a = b := by intro h; subst h; exact h1 h2
        simp [h1, e, h3]
      · have e : cmpB a b = 0 := by simp [cmpB, h1, h2]
        have h3 := (cmpB_is.eq a b).1 e
        subst h3
        simp [e]

set_option maxHeartbeats 400000 in
theorem isNaN_any (a : ByteArray) (w : World) :
    Calls Tryz.prog 89 #[.string a] w fun e w' => e = .returned (.bool false) ∧ w' = w := by
  go_enter Tryz.func89, Tryz.ntmps89
  go_wp2
  go_ret
  exact ⟨rfl, rfl⟩

theorem cmpV_neg {a b : ByteArray} (h : Op.bytesLess a.toList b.toList = true) : (-1 : Int) = cmpS (bs a) (bs b) := by
  rw [bytesLess_cmp, ByteArray.toList_eq, ByteArray.toList_eq, decide_eq_true_eq] at h
  have := cmpS_is.rng (bs a) (bs b)
  change cmpS (bs a) (bs b) < 0 at h
  omega
theorem cmpV_pos {a b : ByteArray} (h : Op.bytesLess a.toList b.toList = false) (h2 : (!a.toList == b.toList) = true) : (1 : Int) = cmpS (bs a) (bs b) := by
  rw [bytesLess_cmp, ByteArray.toList_eq, ByteArray.toList_eq, decide_eq_false_iff_not] at h
  rw [ByteArray.toList_eq, ByteArray.toList_eq, Bool.not_eq_true', beq_eq_false_iff_ne] at h2
  change ¬ cmpS (bs a) (bs b) < 0 at h
  have := cmpS_is.rng (bs a) (bs b)
  have h3 : ¬ cmpS (bs a) (bs b) = 0 := fun e => h2 ((cmpS_is.eq _ _).1 e)
  omega
theorem cmpV_zero {a b : ByteArray} (h2 : (!a.toList == b.toList) = false) : (0 : Int) = cmpS (bs a) (bs b) := by
  rw [ByteArray.toList_eq, ByteArray.toList_eq, Bool.not_eq_false', beq_iff_eq] at h2
  exact ((cmpS_is.eq _ _).2 h2).symm

set_option maxHeartbeats 400000 in
theorem cmpStr_any (a b : ByteArray) (w : World) :
    Calls Tryz.prog 75 #[.string a, .string b] w fun e w' => e = .returned (.int .i64 (cmpS (bs a) (bs b))) ∧ w' = w := by
  go_enter Tryz.func75, Tryz.ntmps75
  go_wp2_with (first
    | (go_at_call 89; refine (isNaN_any _ _).mono ?_; rintro e w' ⟨rfl, rfl⟩))
  all_goals first
    | (go_ret; exact ⟨ret_int (cmpV_neg ‹_›), rfl⟩)
    | (go_ret; exact ⟨ret_int (cmpV_pos ‹_› ‹_›), rfl⟩)
    | (go_ret; exact ⟨ret_int (cmpV_zero ‹_›), rfl⟩)

theorem SS.some {w : World} {a : Option Addr} {zs : List ByteArray} (h : SS w a zs) {k : Nat} (hk : k < zs.length) : ∃ b off, a = some ⟨b, off, none⟩ ∧ b < w.heap.size ∧ w.cell? ⟨b, off + k, none⟩ = some (.string zs[k]) := by
  rcases h with h | ⟨b, off, ha, hb, hc⟩
  · rw [h] at hk; exact absurd hk (Nat.not_lt_zero _)
  · exact ⟨b, off, ha, hb, hc k _ (List.getElem?_eq_getElem hk)⟩

theorem cmpL_step {c : Str → Str → Int} {L M : List Str} {k : Nat} {x y : Str} (hx : L[k]? = some x) (hy : M[k]? = some y) : cmpL c (L.drop k) (M.drop k) = if c x y = 0 then cmpL c (L.drop (k + 1)) (M.drop (k + 1)) else c x y := by
  rw [drop_at hx, drop_at hy]; rfl
theorem cmpL_left {c : Str → Str → Int} {L M : List Str} {k : Nat} {x : Str} (hx : L[k]? = some x) (hy : M.length ≤ k) : cmpL c (L.drop k) (M.drop k) = 1 := by
  rw [drop_at hx, List.drop_of_length_le hy]; rfl
theorem cmpL_right {c : Str → Str → Int} {L M : List Str} {k : Nat} (hx : L.length ≤ k) (hy : k < M.length) : cmpL c (L.drop k) (M.drop k) = -1 := by
  rw [List.drop_of_length_le hx, List.drop_eq_getElem_cons hy]; rfl
theorem cmpL_both {c : Str → Str → Int} {L M : List Str} {k : Nat} (hx : L.length ≤ k) (hy : M.length ≤ k) : cmpL c (L.drop k) (M.drop k) = 0 := by
  rw [List.drop_of_length_le hx, List.drop_of_length_le hy]; rfl

theorem get_bs {zs : List ByteArray} {k : Nat} (hk : k < zs.length) : (zs.map bs)[k]? = some (bs zs[k]) := by rw [List.getElem?_map, List.getElem?_eq_getElem hk]; rfl

set_option maxRecDepth 100000 in
set_option maxHeartbeats 2000000 in
/-- slices.Compare. -/
theorem scompare_any (a : Option Addr) (n c : Nat) (zs : List ByteArray) (a' : Option Addr) (n' c' : Nat) (zs' : List ByteArray) (w : World) (hn : zs.length = n) (hn' : zs'.length = n') (hN : n ≤ 1000000) (hN' : n' ≤ 1000000) (hS : SS w a zs) (hS' : SS w a' zs') :
    Calls Tryz.prog 52 #[.slice a n c, .slice a' n' c'] w fun e w' => e = .returned (.int .i64 (cmpL cmpS (zs.map bs) (zs'.map bs))) ∧ w' = w := by
  have HN := Lib.hid hn
  have HN' := Lib.hid hn'
  have HL : Hid ((zs.map bs).length = n) := by unfold Hid; rw [List.length_map]; exact hn
  have HL' : Hid ((zs'.map bs).length = n') := by unfold Hid; rw [List.length_map]; exact hn'
  clear hn hn'
  go_enter Tryz.func52, Tryz.ntmps52
  go_wp2
  go_loopg [5, 6, 7, 8, 11] n (fun gg _ _ _ _ s11 wr => ∃ (k : Nat), k ≤ n ∧ k ≤ n' ∧ n - k ≤ gg ∧ s11 = .int .i64 k ∧ wr = w ∧ Aside (cmpL cmpS (zs.map bs) (zs'.map bs) = cmpL cmpS ((zs.map bs).drop k) ((zs'.map bs).drop k)))
  case atStart => exact ⟨0, Nat.zero_le _, Nat.zero_le _, by omega, rfl, rfl, show Aside _ from rfl⟩
  case round =>
    obtain ⟨k, hk, hk', hg, rfl, rfl, A⟩ := hrel
    by_cases hlt : k < n
    · have hltz : (k : Int) < (n : Int) := by omega
      have hkz : k < zs.length := by rw [HN.out]; exact hlt
      obtain ⟨b, off, rfl, hb, hcell⟩ := hS.some hkz
      have HX : Hid ((zs.map bs)[k]? = some (bs zs[k])) := get_bs hkz
      generalize zs[k] = x at hcell HX
      by_cases hlt' : k < n'
      · have hltz' : ¬ (n' : Int) ≤ (k : Int) := by omega
        have hkz' : k < zs'.length := by rw [HN'.out]; exact hlt'
        obtain ⟨b', off', rfl, hb', hcell'⟩ := hS'.some hkz'
        have HY : Hid ((zs'.map bs)[k]? = some (bs zs'[k])) := get_bs hkz'
        generalize zs'[k] = y at hcell' HY
        have hcall := cmpStr_any x y wr
        by_cases hq : cmpS (bs x) (bs y) = 0
        · rw [hq] at hcall
          have HQ := Lib.hid hq
          clear hq
          go_wp2_with (go_at_call 75; refine hcall.mono ?_; rintro e w' ⟨rfl, rfl⟩)
          go_roundg (n - (k + 1))
          case measure => omega
          case rel =>
            refine ⟨k + 1, by omega, by omega, by omega, by go_num, rfl, ?_⟩
            unfold Aside
            rw [A.out, cmpL_step HX.out HY.out, if_pos HQ.out]
        · have HV : Hid (cmpS (bs x) (bs y) = cmpL cmpS (zs.map bs) (zs'.map bs)) := by unfold Hid; rw [A.out, cmpL_step HX.out HY.out, if_neg hq]
          generalize cmpS (bs x) (bs y) = q at hcall hq HV
          have hqz : (q != 0) = true := by simpa using hq
          clear hq
          go_wp2_with (go_at_call 75; refine hcall.mono ?_; rintro e w' ⟨rfl, rfl⟩)
          go_ret
          exact ⟨ret_int HV.out, rfl⟩
      · have hltz' : (n' : Int) ≤ (k : Int) := by omega
        go_wp2
        go_ret
        exact ⟨ret_int (by rw [A.out, cmpL_left HX.out (by rw [HL'.out]; omega)]), rfl⟩
    · have hltz : ¬ (k : Int) < (n : Int) := by omega
      by_cases hlt' : k < n'
      · have h3 : (n : Int) < (n' : Int) := by omega
        go_wp2
        go_ret
        exact ⟨ret_int (by rw [A.out, cmpL_right (by rw [HL.out]; omega) (by rw [HL'.out]; omega)]), rfl⟩
      · have h3 : ¬ (n : Int) < (n' : Int) := by omega
        go_wp2
        go_ret
        exact ⟨ret_int (by rw [A.out, cmpL_both (by rw [HL.out]; omega) (by rw [HL'.out]; omega)]), rfl⟩

theorem len_split {c : UInt8} {s : ByteArray} {l : List ByteArray} (hl : l.map bs = parts c (bs s)) : l.length ≤ s.size + 1 := by
  have h1 := congrArg List.length hl
  rw [List.length_map] at h1
  have h2 := parts_length_le c (bs s)
  have h3 : (bs s).length = s.size := by simp [bs]
  omega

def ComparePost (s t : ByteArray) (w : World) (e : Ending) (w' : World) : Prop :=
  e = .returned (.int .i64 (cmp (bs s) (bs t))) ∧ ∃ A B : Obj, w' = (w.alloc A).alloc B

set_option maxHeartbeats 1000000 in
/-- 'Compare', the world told outright. -/
theorem gcompare_at (s t : ByteArray) (w : World) (hs : s.size ≤ 100000) (ht : t.size ≤ 100000) (hM : ML w) :
    Calls Tryz.prog 32 #[.string s, .string t] w fun e w' => ComparePost s t w e w' := by
  have h1 := split_any s 46 w (by omega) hM
  have h2 := fun (W : World) (hb : Below w.heap.size w W) => split_any t 46 W (by omega) (hM.below hb)
  have HSZ : Hid (s.size ≤ 100000 ∧ t.size ≤ 100000) := ⟨hs, ht⟩
  clear hs ht hM
  go_enter Tryz.func32, Tryz.ntmps32
  go_wp2_with fail
  refine h1.mono ?_
  rintro e w' ⟨l, hl, rfl, rfl⟩
  have HL := Lib.hid hl
  have hS1 := SS.new w l 9
  have hln := len_split hl
  clear hl h1
  have hB1 : Below w.heap.size w (w.alloc (.cells (l.map Value.string).toArray 9)) := (Below.refl _ _).alloc (Nat.le_refl _) _
  have h3 := h2 _ hB1
  clear h2
  have HW1 : Hid (∃ A, (w.alloc (.cells (l.map Value.string).toArray 9)) = w.alloc A) := ⟨_, rfl⟩
  generalize (w.alloc (.cells (l.map Value.string).toArray 9)) = w1 at h3 hS1 hB1 HW1 ⊢
  go_wp2_with fail
  refine h3.mono ?_
  rintro e w' ⟨m, hm, rfl, rfl⟩
  have HM := Lib.hid hm
  have hS2 := SS.new w1 m 9
  have hmn := len_split hm
  have hB2 : Below w1.heap.size w1 (w1.alloc (.cells (m.map Value.string).toArray 9)) := (Below.refl _ _).alloc (Nat.le_refl _) _
  have hS1' := hS1.below hB2
  clear hm h3 hS1
  have HW2 : Hid (∃ B, (w1.alloc (.cells (m.map Value.string).toArray 9)) = w1.alloc B) := ⟨_, rfl⟩
  generalize (w1.alloc (.cells (m.map Value.string).toArray 9)) = w2 at hS2 hB2 hS1' HW2 ⊢
  go_wp2_with fail
  refine (scompare_any _ _ _ l _ _ _ m w2 rfl rfl (by have := HSZ.out; omega) (by have := HSZ.out; omega) hS1' hS2).mono ?_
  rintro e w' ⟨rfl, rfl⟩
  go_wp2
  go_ret
  obtain ⟨A, hA⟩ := HW1.out
  obtain ⟨B, hB⟩ := HW2.out
  exact ⟨ret_int (by rw [HL.out, HM.out]; rfl), A, B, by rw [hB, hA]⟩

/-- 'Compare'. -/
theorem gcompare_any (s t : ByteArray) (w : World) (hs : s.size ≤ 100000) (ht : t.size ≤ 100000) (hM : ML w) :
    GivesB Tryz.prog 32 #[.string s, .string t] (.int .i64 (cmp (bs s) (bs t))) w :=
  (gcompare_at s t w hs ht hM).mono fun e w' ⟨he, A, B, hw⟩ => ⟨he, hw ▸ ((Below.refl _ _).alloc (Nat.le_refl _) _).alloc (by simp) _⟩

end Go.Proofs.YtbgkepdnemgkdaaGreatDoor
