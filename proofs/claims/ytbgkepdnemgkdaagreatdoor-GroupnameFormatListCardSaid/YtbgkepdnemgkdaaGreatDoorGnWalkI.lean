/- Walks of groupname.ParseList and FormatList, for short inputs. -/
import Derived.Test.YtbgkepdnemgkdaaGreatDoorGnWalkH
namespace Go.Proofs.YtbgkepdnemgkdaaGreatDoor
open Go.RowKit Go.Gn

theorem parse_empty (w : World) :
    GivesB Tryz.prog 29 #[.string ⟨#[]⟩] (.tuple #[.slice none 0 0, .int .i64 4]) w := by
  unfold GivesB
  go_enter Tryz.func29, Tryz.ntmps29
  go_wp2
  go_ret2
  exact ⟨rfl, Below.refl _ _⟩

def ParsePost (s : ByteArray) (w : World) (e : Ending) (w' : World) : Prop :=
  ∃ (l : List ByteArray) (b : Nat), l.map bs = parts 44 (bs s) ∧ e = .returned (.tuple #[listV (some ⟨b, 0, none⟩) l.length l.length (listErr (parts 44 (bs s))), .int .i64 (listErr (parts 44 (bs s)) : Nat)]) ∧ SS w' (some ⟨b, 0, none⟩) l ∧ Below w.heap.size w w'

set_option maxHeartbeats 1000000 in
theorem parse_any (s : ByteArray) (w : World) (h0 : s.toList.isEmpty = false) (hs : s.size ≤ 100000) (hM : ML w) :
    Calls Tryz.prog 29 #[.string s] w fun e w' => ParsePost s w e w' := by
  have hS := split_any s 44 w (by omega) hM
  have hL := fun (l : List ByteArray) (hl : l.map bs = parts 44 (bs s)) =>
    list_any (some ⟨w.heap.size, 0, none⟩) l.length l.length l (w.alloc (.cells (l.map Value.string).toArray 9)) rfl (Nat.le_refl _)
      (by have h1 := congrArg List.length hl; rw [List.length_map] at h1; have h2 := parts_length_le 44 (bs s); have h3 : (bs s).length = s.size := (by simp [bs]); omega) (SS.new _ _ _)
      (fun x hx => by
        have h1 : bs x ∈ parts 44 (bs s) := by rw [← hl]; exact List.mem_map_of_mem hx
        have h2 := mem_parts_le 44 (bs s) _ h1
        simp [bs] at h2; omega) (hM.below ((Below.refl _ _).alloc (Nat.le_refl _) _))
      (by have h1 := congrArg List.length hl; rw [List.length_map] at h1; have h2 := parts_length_le 44 (bs s); have h3 : (bs s).length = s.size := (by simp [bs]); omega)
  have HL := Lib.hid hL
  clear hL
  go_enter Tryz.func29, Tryz.ntmps29
  go_wp2_with (first
    | (go_at_call 43; refine hS.mono ?_; rintro e w' ⟨l, hl, rfl, rfl⟩; have hL2 := HL.out l hl; unfold GivesB at hL2; rw [hl] at hL2; have HP := Lib.hid hl; clear hl)
    | (go_at_call 51; refine hL2.mono ?_; rintro e w' ⟨rfl, hb⟩))
  go_ret2
  exact ⟨_, _, HP.out, rfl, (SS.new _ _ _).below hb, ((Below.refl _ _).alloc (Nat.le_refl _) _).trans (hb.mono (by simp))⟩

def formatStr (L : List Str) : Str := if listErr L = 0 then text 44 L else []

theorem format_empty (a : Option Addr) (c : Nat) (w : World) :
    GivesB Tryz.prog 31 #[.slice a 0 c] (.tuple #[.string ⟨#[]⟩, .int .i64 4]) w := by
  unfold GivesB
  go_enter Tryz.func31, Tryz.ntmps31
  go_wp2
  go_ret2
  exact ⟨rfl, Below.refl _ _⟩

set_option maxHeartbeats 1000000 in
theorem format_any (a : Option Addr) (n c : Nat) (zs : List ByteArray) (w : World) (hn : zs.length = n) (h0 : 0 < n) (hc : n ≤ c) (hN : n ≤ 1000000) (hS : SS w a zs) (hsz : ∀ x ∈ zs, x.size ≤ 9223372036854775807) (hlen : (text 44 (zs.map bs)).length ≤ 1000000) (hM : ML w) (hcc : c ≤ 9223372036854775807) :
    GivesB Tryz.prog 31 #[.slice a n c] (.tuple #[.string (mkS (formatStr (zs.map bs))), .int .i64 (listErr (zs.map bs) : Nat)]) w := by
  have hL := list_any a n c zs w hn hc hN hS hsz hM hcc
  have hJ := fun (W : World) (hb : Below w.heap.size w W) => join_any 44 a n c zs W hn hc (hS.below hb) (by omega) (by omega)
  have hJ0 := fun (W : World) => Tryz.strings_Join_none none 0 ⟨#[44]⟩ W
  have hz : ((n : Int) == 0) = false := by simp; omega
  unfold GivesB at hL hJ ⊢
  clear hsz hS hn
  by_cases hq : listErr (zs.map bs) = 0
  · rw [hq, listV_zero] at hL
    have HV : Hid (mkS (text 44 (zs.map bs)) = mkS (formatStr (zs.map bs)) ∧ (0 : Int) = (listErr (zs.map bs) : Nat)) := by unfold Hid formatStr; rw [if_pos hq, hq]; exact ⟨rfl, rfl⟩
    clear hq
    go_enter Tryz.func31, Tryz.ntmps31
    go_wp2_with (first
      | (go_at_call 51; refine hL.mono ?_; rintro e w' ⟨rfl, hb⟩)
      | (go_at_call 49; refine (hJ _ ‹_›).mono ?_; rintro e w2 ⟨rfl, hb2⟩))
    go_ret2
    exact ⟨ret_si HV.out.1 HV.out.2, below_then' hb hb2⟩
  · rw [show listV a n c (listErr (zs.map bs)) = .slice none 0 0 from by rw [listV, if_neg hq]] at hL
    have HV : Hid (mkS [] = mkS (formatStr (zs.map bs))) := by unfold Hid formatStr; rw [if_neg hq]
    generalize listErr (zs.map bs) = k at hL hq ⊢
    clear hq
    go_enter Tryz.func31, Tryz.ntmps31
    go_wp2_with (first
      | (go_at_call 51; refine hL.mono ?_; rintro e w' ⟨rfl, hb⟩)
      | (go_at_call 49; refine (hJ0 _).mono ?_; rintro e w2 ⟨rfl, rfl⟩))
    go_ret2
    exact ⟨ret_si HV.out rfl, hb⟩

end Go.Proofs.YtbgkepdnemgkdaaGreatDoor
