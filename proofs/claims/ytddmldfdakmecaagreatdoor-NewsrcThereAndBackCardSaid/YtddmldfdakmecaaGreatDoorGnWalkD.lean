/- Walk of groupname.Check: for every string, where the library cell MaxLen holds some number. -/
import Derived.Test.YtddmldfdakmecaaGreatDoorGnWalkC
namespace Go.Proofs.YtddmldfdakmecaaGreatDoor
open Go.RowKit Go.Gn

/-- The library's variable holds some number. -/
def ML (w : World) : Prop := ∃ m, w.cell? ⟨0, 0, none⟩ = some (.int .i64 m)
theorem ML.below {w w' : World} (h : ML w) (hb : Below w.heap.size w w') : ML w' := by
  obtain ⟨m, hm⟩ := h
  exact ⟨m, (hb.cell (World.block_lt_of_cell? w _ hm)).trans hm⟩

theorem ret_int {k : IntKind} {a b : Int} (h : a = b) : Ending.returned (.int k a) = Ending.returned (.int k b) := by rw [h]

def SplitPost (c : UInt8) (s : ByteArray) (w : World) (e : Ending) (w' : World) : Prop :=
  ∃ l : List ByteArray, l.map bs = parts c (bs s) ∧ e = .returned (.slice (some ⟨w.heap.size, 0, none⟩) l.length l.length) ∧ w' = w.alloc (.cells (l.map Value.string).toArray 9)

theorem splitB_bs (s : ByteArray) (c : UInt8) : (Lib.splitB ⟨#[c]⟩ 0 (Lib.countB s ⟨#[c]⟩) s).map bs = parts c (bs s) := by
  have h := Lib.splitB_data ⟨#[c]⟩ 0 (Lib.countB s ⟨#[c]⟩) s
  rw [show (fun x : ByteArray => x.data.toList) = bs from rfl] at h
  rw [h]
  exact split_parts c (bs s)

/-- strings.Split at a separator of one byte. -/
theorem split_any (s : ByteArray) (c : UInt8) (w : World) (hs : s.size < 4294967281) (hM : ML w) :
    Calls Tryz.prog 109 #[.string s, .string ⟨#[c]⟩] w fun e w' => SplitPost c s w e w' := by
  obtain ⟨m, hm⟩ := hM
  refine (Tryz.strings_Split s ⟨#[c]⟩ m w hs hm (Nat.le_refl 1)).mono fun e w' ⟨he, hw⟩ => ?_
  have hl := Lib.splitB_all ⟨#[c]⟩ (Nat.le_refl 1) 0 _ s rfl
  exact ⟨_, splitB_bs s c, by rw [he, hl], hw⟩

theorem SS.new (w : World) (l : List ByteArray) (t : TypeId) : SS (w.alloc (.cells (l.map Value.string).toArray t)) (some ⟨w.heap.size, 0, none⟩) l := by
  refine .inr ⟨w.heap.size, 0, rfl, by simp, fun j x hx => ?_⟩
  simp only [World.cell?, heap_alloc_new]
  simp [hx]

theorem any_bs (l : List ByteArray) (L : List Str) (h : l.map bs = L) : (l.any fun x => !component (bs x)) = !L.all component := by
  subst h; simp [List.all_map, Function.comp_def, List.not_all_eq_any_not]

theorem parts_length_le (c : UInt8) (s : Str) : (parts c s).length ≤ s.length + 1 := by
  induction s with
  | nil => simp [parts]
  | cons x xs ih =>
    by_cases h : x = c
    · subst h; rw [parts_cons_eq]; simp; omega
    · obtain ⟨p, ps, h1, h2⟩ := parts_cons_ne c x xs h
      rw [h2]; rw [h1] at ih; simp at ih ⊢; omega

theorem check_bad {s : Str} {l : List ByteArray} (hl : l.map bs = parts 46 s) (h : s.length ≤ 80) (ha : (l.any fun x => !component (bs x)) = true) : check s = 12 := by
  rw [any_bs l _ hl] at ha
  unfold check
  rw [if_neg (by omega), if_neg (by simpa using ha)]
theorem check_many {s : Str} {l : List ByteArray} (hl : l.map bs = parts 46 s) (h : s.length ≤ 80) (ha : (l.any fun x => !component (bs x)) = false) (hm : 10 < l.length) : check s = 9 := by
  rw [any_bs l _ hl] at ha
  unfold check
  rw [if_neg (by omega), if_pos (by simpa using ha), if_pos (by rw [← hl, List.length_map]; exact hm)]
theorem check_fine {s : Str} {l : List ByteArray} (hl : l.map bs = parts 46 s) (h : s.length ≤ 80) (ha : (l.any fun x => !component (bs x)) = false) (hm : ¬ 10 < l.length) : check s = 0 := by
  rw [any_bs l _ hl] at ha
  unfold check
  rw [if_neg (by omega), if_pos (by simpa using ha), if_neg (by rw [← hl, List.length_map]; exact hm)]

theorem check1_below (x : ByteArray) (W : World) : GivesB Tryz.prog 111 (#[.string x] ++ #[]) (.bool (!component (bs x))) W := by
  have hc := component_any x W
  unfold GivesB
  go_enter Tryz.func111, Tryz.ntmps111
  go_wp2_with (go_at_call 112; refine hc.mono ?_; rintro e w' ⟨rfl, hb⟩)
  go_ret
  exact ⟨rfl, hb⟩

set_option maxHeartbeats 1000000 in
/-- 'Check'. -/
theorem check_any (s : ByteArray) (w : World) (hs : s.size ≤ 9223372036854775807) (hM : ML w) :
    GivesB Tryz.prog 78 #[.string s] (.int .i64 (check (bs s) : Nat)) w := by
  have hsz : (bs s).length = s.size := by simp [bs]
  by_cases h80 : 80 < s.size
  · have hr : check (bs s) = 5 := by unfold check; rw [if_pos (by omega)]
    rw [hr]
    clear hr hsz
    unfold GivesB
    go_enter Tryz.func78, Tryz.ntmps78
    go_wp2
    go_ret
    exact ⟨rfl, Below.refl _ _⟩
  · have hS := split_any s 46 w (by omega) hM
    have hF := fun (l : List ByteArray) (hl : l.length ≤ 100) => containsFunc_below (fun x => !component (bs x)) 111 #[] (enters_of Tryz.func111 (by kernel_rfl) rfl) (some ⟨w.heap.size, 0, none⟩) l.length l.length l (w.alloc (.cells (l.map Value.string).toArray 9)) rfl (by omega) (SS.new _ _ _) (fun W x _ => check1_below x W)
    have HP := Lib.hid (parts_length_le 46 (bs s))
    have HS := Lib.hid hsz
    clear hsz
    unfold GivesB
    go_enter Tryz.func78, Tryz.ntmps78
    unfold GivesB at hF
    go_wp2_with (first
      | (go_at_call 109; refine hS.mono ?_; rintro e w' ⟨l, hl, rfl, rfl⟩; have hln : l.length ≤ 81 := (by have h1 := congrArg List.length hl; rw [List.length_map] at h1; have h2 := HP.out; have h3 := HS.out; omega); have HL := Lib.hid hl; clear hl)
      | (go_at_call 110; refine (hF _ (by omega)).mono ?_; rintro e w' ⟨rfl, hb⟩))
    · have ha : (l.any fun x => !component (bs x)) = true := by assumption
      go_ret
      exact ⟨ret_int (by rw [check_bad HL.out (by have := HS.out; omega) ha]; rfl), ((Below.refl _ _).alloc (Nat.le_refl _) _).trans (hb.mono (by simp))⟩
    · have ha : (l.any fun x => !component (bs x)) = false := by assumption
      have hm : 10 < l.length := by omega
      go_ret
      exact ⟨ret_int (by rw [check_many HL.out (by have := HS.out; omega) ha hm]; rfl), ((Below.refl _ _).alloc (Nat.le_refl _) _).trans (hb.mono (by simp))⟩
    · have ha : (l.any fun x => !component (bs x)) = false := by assumption
      have hm : ¬ 10 < l.length := by omega
      go_ret
      exact ⟨ret_int (by rw [check_fine HL.out (by have := HS.out; omega) ha hm]; rfl), ((Below.refl _ _).alloc (Nat.le_refl _) _).trans (hb.mono (by simp))⟩

end Go.Proofs.YtddmldfdakmecaaGreatDoor
