/- Walks of groupname.Split, Parent, Within. -/
import Derived.Test.YtbgkepdnemgkdaaGreatDoorGnWalkD
import Derived.Test.YtbgkepdnemgkdaaGreatDoorGnMore
namespace Go.Proofs.YtbgkepdnemgkdaaGreatDoor
open Go.RowKit Go.Gn

def SplitOk (s : ByteArray) (w : World) (e : Ending) (w' : World) : Prop :=
  ∃ (l : List ByteArray) (b : Nat), l.map bs = parts 46 (bs s) ∧ e = .returned (.tuple #[.slice (some ⟨b, 0, none⟩) l.length l.length, .int .i64 0]) ∧ SS w' (some ⟨b, 0, none⟩) l ∧ Below w.heap.size w w'

theorem check_le (s : ByteArray) (h : check (bs s) = 0) : s.size ≤ 80 := by
  have := ((check_zero (bs s)).1 h).1
  simpa [bs] using this

set_option maxHeartbeats 1000000 in
theorem gsplit_ok (s : ByteArray) (w : World) (hs : s.size ≤ 9223372036854775807) (hM : ML w) (h : check (bs s) = 0) :
    Calls Tryz.prog 17 #[.string s] w fun e w' => SplitOk s w e w' := by
  have hC := check_any s w hs hM
  have hle := check_le s h
  rw [h] at hC
  unfold GivesB at hC
  have hS := fun (W : World) (hb : Below w.heap.size w W) => split_any s 46 W (by omega) (hM.below hb)
  clear h hM
  go_enter Tryz.func17, Tryz.ntmps17
  go_wp2_with (first
    | (go_at_call 19; refine hC.mono ?_; rintro e w' ⟨rfl, hb⟩)
    | (go_at_call 43; refine (hS _ ‹_›).mono ?_; rintro e w' ⟨l, hl, rfl, rfl⟩; have HL := Lib.hid hl; clear hl))
  go_ret2
  exact ⟨_, _, HL.out, rfl, SS.new _ _ _, below_then' hb ((Below.refl _ _).alloc (Nat.le_refl _) _)⟩

set_option maxHeartbeats 1000000 in
theorem gsplit_bad (s : ByteArray) (w : World) (hs : s.size ≤ 9223372036854775807) (hM : ML w) (h : check (bs s) ≠ 0) :
    GivesB Tryz.prog 17 #[.string s] (.tuple #[.slice none 0 0, .int .i64 (check (bs s) : Nat)]) w := by
  have hC := check_any s w hs hM
  generalize check (bs s) = k at h hC
  have hk : ((k : Int) != 0) = true := by simp; omega
  unfold GivesB at hC ⊢
  clear h hM
  go_enter Tryz.func17, Tryz.ntmps17
  go_wp2_with (go_at_call 19; refine hC.mono ?_; rintro e w' ⟨rfl, hb⟩)
  go_ret2
  exact ⟨rfl, hb⟩

theorem ret_sb {a b : ByteArray} {t : Bool} (h : a = b) : Ending.returned (.tuple #[.string a, .bool t]) = Ending.returned (.tuple #[.string b, .bool t]) := by rw [h]

set_option maxHeartbeats 1000000 in
theorem gparent_any (s : ByteArray) (w : World) (hs : s.size ≤ 9223372036854775807) (hM : ML w) (hs' : s.size < 4611686018427387904) :
    GivesB Tryz.prog 18 #[.string s] (if check (bs s) = 0 ∧ (parts 46 (bs s)).length ≠ 1 then .tuple #[.string ⟨(parent (bs s)).toArray⟩, .bool true] else .tuple #[.string ⟨#[]⟩, .bool false]) w := by
  have hC := check_any s w hs hM
  have hL := Tryz.strings_LastIndex s ⟨#[46]⟩ hs' w
  rw [show (ByteArray.mk #[46]).data.toList = [46] from rfl, lastIndex_dot] at hL
  unfold GivesB at hC ⊢
  by_cases h1 : (parts 46 (bs s)).length = 1
  · rw [if_neg (by simp [h1])]
    rw [if_pos h1] at hL
    clear hC h1
    go_enter Tryz.func18, Tryz.ntmps18
    go_wp2_with (go_at_call 44; refine hL.mono ?_; rintro e w' ⟨rfl, rfl⟩)
    go_ret2
    exact ⟨rfl, Below.refl _ _⟩
  · rw [if_neg h1] at hL
    by_cases h2 : check (bs s) = 0
    · rw [if_pos ⟨h2, h1⟩]
      rw [h2] at hC
      have hp := parent_take (bs s) h1
      have hlen : (parent (bs s)).length ≤ s.size := by
        rw [← hp, List.length_take]; simp [bs]; omega
      have hx : s.extract 0 (parent (bs s)).length = ⟨(parent (bs s)).toArray⟩ := by
        apply ByteArray.ext
        apply Array.toList_inj.1
        rw [Lib.extract_from_zero]
        exact hp
      generalize parent (bs s) = q at *
      have HX := Lib.hid hx
      clear hx hp h1 h2
      go_enter Tryz.func18, Tryz.ntmps18
      go_wp2_with (first
        | (go_at_call 44; refine hL.mono ?_; rintro e w' ⟨rfl, rfl⟩)
        | (go_at_call 19; refine hC.mono ?_; rintro e w' ⟨rfl, hb⟩))
      go_ret2
      exact ⟨ret_sb HX.out, hb⟩
    · rw [if_neg (by simp [h2])]
      generalize check (bs s) = k at hC h2
      have hk : ((k : Int) != 0) = true := by simp; omega
      generalize (parent (bs s)).length = q at *
      clear h1 h2
      go_enter Tryz.func18, Tryz.ntmps18
      go_wp2_with (first
        | (go_at_call 44; refine hL.mono ?_; rintro e w' ⟨rfl, rfl⟩)
        | (go_at_call 19; refine hC.mono ?_; rintro e w' ⟨rfl, hb⟩))
      go_ret2
      exact ⟨rfl, hb⟩

def withinB (s h : Str) : Bool := decide (check s = 0) && (decide (check h = 0) && below s h)

theorem within_or (s h : ByteArray) (h1 : check (bs s) = 0) (h2 : check (bs h) = 0) :
    (s.toList == h.toList || Lib.hasPrefix s.data.toList (h.data.toList ++ [46])) = withinB (bs s) (bs h) := by
  simp only [withinB, h1, h2, decide_true, Bool.true_and]
  rw [Bool.eq_iff_iff, Bool.or_eq_true, below, List.isPrefixOf_iff_prefix, ← prefix_text, ByteArray.toList_eq, ByteArray.toList_eq, beq_iff_eq, Or.comm]
  rfl
theorem within_same (s h : ByteArray) (h1 : check (bs s) = 0) (h2 : check (bs h) = 0) (e : s.toList = h.toList) : true = withinB (bs s) (bs h) := by
  rw [← within_or s h h1 h2, e]; simp
theorem within_no1 (s h : ByteArray) (h1 : ¬ check (bs s) = 0) : false = withinB (bs s) (bs h) := by simp [withinB, h1]
theorem within_no2 (s h : ByteArray) (h1 : ¬ check (bs h) = 0) : false = withinB (bs s) (bs h) := by simp [withinB, h1]

set_option maxHeartbeats 1000000 in
/-- 'Within'. -/
theorem within_any (s h : ByteArray) (w : World) (hs : s.size ≤ 1000000) (hh : h.size ≤ 1000000) (hM : ML w) :
    GivesB Tryz.prog 25 #[.string s, .string h] (.bool (withinB (bs s) (bs h))) w := by
  have hC := check_any s w (by omega) hM
  have hC2 := fun (W : World) (hb : Below w.heap.size w W) => check_any h W (by omega) (hM.below hb)
  have hh' : h.size + 1 ≤ 9223372036854775807 := by omega
  unfold GivesB at hC hC2 ⊢
  have hP := fun W => Tryz.strings_HasPrefix s (h ++ ⟨#[46]⟩) W
  go_enter Tryz.func25, Tryz.ntmps25
  go_wp2_with (first
    | (go_at_call 19; refine hC.mono ?_; clear hC; rintro e w' ⟨rfl, hb⟩)
    | (go_at_call 19; refine (hC2 _ ‹_›).mono ?_; rintro e w2 ⟨rfl, hb2⟩)
    | (go_at_call 50; refine (hP _).mono ?_; rintro e w3 ⟨rfl, rfl⟩))
  all_goals first
    | (go_ret; exact ⟨ret_bool (within_same s h ‹_› ‹_› ‹_›), below_then' hb hb2⟩)
    | (go_ret; exact ⟨ret_bool (within_or s h ‹_› ‹_›), below_then' hb hb2⟩)
    | (go_ret; exact ⟨ret_bool (within_no2 s h ‹_›), below_then' hb hb2⟩)
    | (go_ret; exact ⟨ret_bool (within_no1 s h ‹_›), hb⟩)

end Go.Proofs.YtbgkepdnemgkdaaGreatDoor
