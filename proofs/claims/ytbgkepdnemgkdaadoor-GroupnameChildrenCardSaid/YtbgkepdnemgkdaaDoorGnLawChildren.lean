/- Walk of the law GroupnameChildren: for every slice of strings and every string it returns true, where the library cell MaxLen holds some number. -/
import Derived.Test.YtbgkepdnemgkdaaDoorGnRefChildren
import Derived.Test.YtbgkepdnemgkdaaDoorGnWalkU
namespace Go.Proofs.YtbgkepdnemgkdaaDoor
open Go.RowKit Go.Gn

theorem kid_free {pre s x : Str} (h : kid pre s = some x) : (46 : UInt8) ∉ x := by
  unfold kid at h
  split at h
  · injection h with h
    have := cut_head (Lib.trimPrefix s pre)
    rw [h] at this
    exact mem_parts_not 46 _ x (List.mem_of_mem_head? this)
  · cases h
theorem kids_free {pre : Str} {L : List Str} : ∀ x ∈ kids pre L, (46 : UInt8) ∉ x := fun x hx => by
  unfold kids at hx
  obtain ⟨s, _, hs⟩ := List.mem_filterMap.1 hx
  exact kid_free hs

theorem rchildren_any (a : Option Addr) (n c : Nat) (zs : List ByteArray) (h : ByteArray) (w : World) (hn : zs.length = n) (hN : n ≤ 4096) (hS : SS w a zs) (hsz : ∀ x ∈ zs, x.size ≤ 1000) (hh : h.size ≤ 1000) :
    Calls Tryd.prog 15 #[.slice a n c, .string h] w fun e w' => RKidsPost (zs.map bs) (bs h) w e w' := by
  by_cases h0 : bs h = []
  · obtain rfl : h = ⟨#[]⟩ := by rw [← mk_bs h, h0]
    exact rchildren0 a n c zs w hn hN hS hsz
  · exact rchildren1 a n c zs w hn hN hS hsz h hh h0

theorem kids_length (pre : Str) (L : List Str) : (kids pre L).length ≤ L.length := List.length_filterMap_le _ _

set_option maxRecDepth 100000 in
set_option maxHeartbeats 1000000 in
theorem lawkids_long (a : Option Addr) (n c : Nat) (zs : List ByteArray) (h : ByteArray) (w : World) (hM : ML w) (hn : zs.length = n) (hS : SS w a zs) (hl : shortB (zs.map bs) = false) :
    GivesB Tryd.prog 5 #[.slice a n c, .string h] (.bool true) w := by
  have hK := fun (W : World) (hb : Below w.heap.size w W) => known_any W (hM.below hb)
  have hs := fun (W : World) (hb : Below w.heap.size w W) => short_any a n c zs W hn (hS.below hb)
  rw [hl] at hs
  unfold GivesB at *
  clear hM hn hS hl
  go_enter Tryd.func5, Tryd.ntmps5
  go_wp2_with fail
  refine (hK _ (Below.refl _ _)).mono ?_
  rintro e w1 ⟨rfl, hb1⟩
  go_wp2_with fail
  refine (hs _ hb1).mono ?_
  rintro e w2 ⟨rfl, hb2⟩
  have hb2 := below_then' hb1 hb2
  go_wp2_with fail
  refine (hK _ hb2).mono ?_
  rintro e w3 ⟨rfl, hb3⟩
  go_wp2_with fail
  go_ret
  exact ⟨rfl, below_then' hb2 hb3⟩

set_option maxRecDepth 100000 in
set_option maxHeartbeats 1000000 in
theorem lawkids_great (a : Option Addr) (n c : Nat) (zs : List ByteArray) (h : ByteArray) (w : World) (hM : ML w) (hn : zs.length = n) (hS : SS w a zs) (hl : shortB (zs.map bs) = true) (hh : 120 < h.size) :
    GivesB Tryd.prog 5 #[.slice a n c, .string h] (.bool true) w := by
  have hK := fun (W : World) (hb : Below w.heap.size w W) => known_any W (hM.below hb)
  have hs := fun (W : World) (hb : Below w.heap.size w W) => short_any a n c zs W hn (hS.below hb)
  rw [hl] at hs
  unfold GivesB at *
  clear hM hn hS hl
  have hz : (120 : Int) < (h.size : Int) := by omega
  go_enter Tryd.func5, Tryd.ntmps5
  go_wp2_with fail
  refine (hK _ (Below.refl _ _)).mono ?_
  rintro e w1 ⟨rfl, hb1⟩
  go_wp2_with fail
  refine (hs _ hb1).mono ?_
  rintro e w2 ⟨rfl, hb2⟩
  have hb2 := below_then' hb1 hb2
  go_wp2_with fail
  refine (hK _ hb2).mono ?_
  rintro e w3 ⟨rfl, hb3⟩
  go_wp2_with fail
  go_ret
  exact ⟨rfl, below_then' hb2 hb3⟩

set_option maxRecDepth 100000 in
set_option maxHeartbeats 2000000 in
theorem lawkids_main (a : Option Addr) (n c : Nat) (zs : List ByteArray) (h : ByteArray) (w : World) (hM : ML w) (hn : zs.length = n) (hS : SS w a zs) (hl : shortB (zs.map bs) = true) (hh : h.size ≤ 120) :
    GivesB Tryd.prog 5 #[.slice a n c, .string h] (.bool true) w := by
  have hK := known_any w hM
  have hs := fun (W : World) (hb : Below w.heap.size w W) => short_any a n c zs W hn (hS.below hb)
  rw [hl] at hs
  obtain ⟨h60, h120⟩ := shortB_true hl
  rw [List.length_map, hn] at h60
  have hsz : ∀ x ∈ zs, x.size ≤ 120 := fun x hx => by have := h120 (bs x) (List.mem_map_of_mem hx); rwa [len_bs] at this
  have h1 := fun (W : World) (hb : Below w.heap.size w W) => children_any a n c zs h W hn (by omega) (hS.below hb) (fun x hx => by have := hsz x hx; omega) (by omega) (hM.below hb)
  have h2 := fun (W : World) (hb : Below w.heap.size w W) => rchildren_any a n c zs h W hn (by omega) (hS.below hb) (fun x hx => by have := hsz x hx; omega) (by omega)
  have HL : Hid ((sortU cmpS (kids (preOf (bs h)) (sortU cmp (zs.map bs)))).length ≤ 60 ∧ (sortU cmp (kids (preOf (bs h)) (sortU cmp (zs.map bs)))).length ≤ 60) := by
    have l1 := length_sortU cmpS (kids (preOf (bs h)) (sortU cmp (zs.map bs)))
    have l2 := length_sortU cmp (kids (preOf (bs h)) (sortU cmp (zs.map bs)))
    have l3 := kids_length (preOf (bs h)) (sortU cmp (zs.map bs))
    have l4 := length_sortU cmp (zs.map bs)
    rw [List.length_map] at l4
    exact ⟨by omega, by omega⟩
  have HE : Hid (sortU cmp (kids (preOf (bs h)) (sortU cmp (zs.map bs))) = sortU cmpS (kids (preOf (bs h)) (sortU cmp (zs.map bs)))) := sortU_free _ kids_free
  unfold GivesB at *
  clear hM hn hS hl h120 hsz
  have hz : ¬ (120 : Int) < (h.size : Int) := by omega
  go_enter Tryd.func5, Tryd.ntmps5
  go_wp2_with fail
  refine hK.mono ?_
  rintro e w1 ⟨rfl, hb1⟩
  go_wp2_with fail
  refine (hs _ hb1).mono ?_
  rintro e w2 ⟨rfl, hb2⟩
  have hb2 := below_then' hb1 hb2
  clear hK hs hb1
  by_cases hq : kidErr (zs.map bs) (bs h) = 0
  · have HQ := Lib.hid hq
    clear hq
    go_wp2_with fail
    refine (h1 _ hb2).mono ?_
    rintro e w3 ⟨hb3, ⟨hne, _⟩ | ⟨_, a3, c3, y3, rfl, hy3, hS3, _⟩⟩
    · exact absurd HQ.out hne
    have HY3 := Lib.hid hy3
    have hb3 := below_then' hb2 hb3
    clear hy3
    go_wp2_with fail
    refine (h2 _ hb3).mono ?_
    rintro e w4 ⟨hb4, ⟨hne, _⟩ | ⟨_, a4, c4, y4, rfl, hy4, hS4, _⟩⟩
    · exact absurd HQ.out hne
    have HY4 := Lib.hid hy4
    have hS34 := hS3.below hb4
    have hb4 := below_then' hb3 hb4
    clear hy4 h1 h2
    have h5 := same_any a3 y3.length c3 y3 a4 y4.length c4 y4 w4 rfl rfl (by have := HL.out.1; rw [← HY3.out, List.length_map] at this; omega) (by have := HL.out.2; rw [← HY4.out, List.length_map] at this; omega) hS34 hS4
    rw [decide_eq_true (show y3.map bs = y4.map bs by rw [HY3.out, HY4.out, HE.out])] at h5
    go_wp2_with fail
    refine h5.mono ?_
    clear h5
    rintro e w5 ⟨rfl, hb5⟩
    go_wp2_with fail
    go_ret
    exact ⟨rfl, below_then' hb4 hb5⟩
  · have HQ := Lib.hid hq
    obtain ⟨q, hqe⟩ : ∃ q, q = kidErr (zs.map bs) (bs h) := ⟨_, rfl⟩
    have HE2 := Lib.hid hqe
    clear hq hqe
    go_wp2_with fail
    refine (h1 _ hb2).mono ?_
    rintro e w3 ⟨hb3, ⟨_, rfl⟩ | ⟨hne, _⟩⟩
    case inr => exact absurd hne HQ.out
    rw [← HE2.out]
    have hb3 := below_then' hb2 hb3
    go_wp2_with fail
    refine (h2 _ hb3).mono ?_
    rintro e w4 ⟨hb4, ⟨_, rfl⟩ | ⟨hne, _⟩⟩
    case inr => exact absurd hne HQ.out
    rw [← HE2.out]
    have hb4 := below_then' hb3 hb4
    clear h1 h2
    have h5 := same_any none 0 0 [] none 0 0 [] w4 rfl rfl (by decide) (by decide) (.inl rfl) (.inl rfl)
    rw [decide_eq_true rfl] at h5
    go_wp2_with fail
    refine h5.mono ?_
    clear h5
    rintro e w5 ⟨rfl, hb5⟩
    go_wp2_with fail
    go_ret
    exact ⟨rfl, below_then' hb4 hb5⟩

theorem lawkids_any (a : Option Addr) (n c : Nat) (zs : List ByteArray) (h : ByteArray) (w : World) (hM : ML w) (hn : zs.length = n) (hS : SS w a zs) :
    GivesB Tryd.prog 5 #[.slice a n c, .string h] (.bool true) w := by
  cases hl : shortB (zs.map bs) with
  | false => exact lawkids_long a n c zs h w hM hn hS hl
  | true =>
    by_cases hh : h.size ≤ 120
    · exact lawkids_main a n c zs h w hM hn hS hl hh
    · exact lawkids_great a n c zs h w hM hn hS hl (by omega)
end Go.Proofs.YtbgkepdnemgkdaaDoor
