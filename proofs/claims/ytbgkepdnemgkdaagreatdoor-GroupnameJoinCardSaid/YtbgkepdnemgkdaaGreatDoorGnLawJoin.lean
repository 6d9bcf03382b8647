/- Walk of the law GroupnameJoin: for every slice of strings it returns true, where the library cell MaxLen holds some number. -/
import Derived.Test.YtbgkepdnemgkdaaGreatDoorGnRefJoin
namespace Go.Proofs.YtbgkepdnemgkdaaGreatDoor
open Go.RowKit Go.Gn

theorem text_le (sep : UInt8) (m : Nat) : ∀ (L : List Str), (∀ p ∈ L, p.length ≤ m) → (text sep L).length ≤ L.length * (m + 1)
  | [], _ => by simp [text]
  | [p], h => by
    have := h p (by simp)
    show p.length ≤ _
    simp only [List.length_cons, List.length_nil]; omega
  | p :: q :: ps, h => by
    have h1 := h p (by simp)
    have h2 := text_le sep m (q :: ps) (fun x hx => h x (by simp [hx]))
    rw [text_cons _ _ _ (by simp), List.length_append, List.length_cons, List.length_cons, Nat.add_mul]
    omega

theorem short_text {sep : UInt8} {L : List Str} (h : shortB L = true) : (text sep L).length ≤ 1000000 := by
  obtain ⟨h1, h2⟩ := shortB_true h
  refine Nat.le_trans (text_le sep 120 L h2) ?_
  have := Nat.mul_le_mul_right 121 h1
  omega
theorem short_sizes {zs : List ByteArray} (h : shortB (zs.map bs) = true) : zs.length ≤ 60 ∧ ∀ x ∈ zs, x.size ≤ 120 := by
  obtain ⟨h1, h2⟩ := shortB_true h
  refine ⟨by simpa using h1, fun x hx => ?_⟩
  have := h2 (bs x) (List.mem_map_of_mem hx)
  rwa [len_bs] at this

theorem joinOk {L : List Str} (h : joinErr L = 0) : check (joinStr L) = 0 ∧ parts 46 (joinStr L) = L := by
  unfold joinStr
  rw [if_pos h]
  unfold joinErr at h
  by_cases h0 : L = []
  · rw [if_pos h0] at h; exact absurd h (by decide)
  · rw [if_neg h0] at h
    by_cases h1 : L.all component = true
    · rw [if_pos h1] at h
      exact ⟨h, parts_text 46 L h0 fun p hp => component_free p (List.all_eq_true.1 h1 p hp)⟩
    · rw [if_neg h1] at h; exact absurd h (by decide)
theorem joinBad {L : List Str} (h : joinErr L ≠ 0) : joinStr L = [] := by unfold joinStr; rw [if_neg h]

set_option maxRecDepth 100000 in
set_option maxHeartbeats 1000000 in
theorem lawjoin_long (a : Option Addr) (n c : Nat) (zs : List ByteArray) (w : World) (hM : ML w) (hn : zs.length = n) (hS : SS w a zs) (h : shortB (zs.map bs) = false) :
    GivesB Tryz.prog 5 #[.slice a n c] (.bool true) w := by
  have hK := fun (W : World) (hb : Below w.heap.size w W) => known_any W (hM.below hb)
  have hs := fun (W : World) (hb : Below w.heap.size w W) => short_any a n c zs W hn (hS.below hb)
  rw [h] at hs
  unfold GivesB at *
  clear hM hn hS
  go_enter Tryz.func5, Tryz.ntmps5
  go_wp2_with fail
  refine (hK _ (Below.refl _ _)).mono ?_
  rintro e w1 ⟨rfl, hb1⟩
  go_wp2_with fail
  refine (hs _ hb1).mono ?_
  rintro e w2 ⟨rfl, hb2⟩
  have hb2 := below_then' hb1 hb2
  go_wp2_with fail
  refine (hK _ hb2).mono ?_
  rintro e w3 ⟨rfl, hb3⟩
  go_wp2_with fail
  go_ret
  exact ⟨rfl, below_then' hb2 hb3⟩

set_option maxRecDepth 100000 in
set_option maxHeartbeats 1000000 in
theorem lawjoin_bad (a : Option Addr) (n c : Nat) (zs : List ByteArray) (w : World) (hM : ML w) (hn : zs.length = n) (hc : n ≤ c) (hS : SS w a zs) (h : shortB (zs.map bs) = true) (hq : joinErr (zs.map bs) ≠ 0) :
    GivesB Tryz.prog 5 #[.slice a n c] (.bool true) w := by
  have hz := short_sizes h
  have hK := known_any w hM
  have hs := fun (W : World) (hb : Below w.heap.size w W) => short_any a n c zs W hn (hS.below hb)
  have hJ := fun (W : World) (hb : Below w.heap.size w W) => gjoin_any a n c zs W hn hc (by omega) (hS.below hb) (short_text h) (hM.below hb)
  have hR := fun (W : World) (hb : Below w.heap.size w W) => rjoin_any a n c zs W hn (by omega) (hS.below hb) (fun x hx => Nat.le_trans (hz.2 x hx) (by decide)) (short_text h)
  have hP := fun (W : World) (hb : Below w.heap.size w W) => gsplit_bad ⟨#[]⟩ W (by decide) (hM.below hb) (by decide +kernel)
  rw [h] at hs
  rw [joinBad hq] at hJ hR
  rw [show (check (bs ⟨#[]⟩)) = 12 by decide +kernel] at hP
  generalize joinErr (zs.map bs) = k at *
  have hk : ((k : Int) != 0) = true := by simp; omega
  unfold GivesB at *
  clear hM hn hS h hz hq
  go_enter Tryz.func5, Tryz.ntmps5
  go_wp2_with fail
  refine hK.mono ?_
  rintro e w1 ⟨rfl, hb1⟩
  go_wp2_with fail
  refine (hs _ hb1).mono ?_
  rintro e w2 ⟨rfl, hb2⟩
  have hb2 := below_then' hb1 hb2
  go_wp2_with fail
  refine (hJ _ hb2).mono ?_
  rintro e w3 ⟨rfl, hb3⟩
  have hb3 := below_then' hb2 hb3
  go_wp2_with fail
  refine (hR _ hb3).mono ?_
  rintro e w4 ⟨rfl, hb4⟩
  have hb4 := below_then' hb3 hb4
  go_wp2_with fail
  refine (hP _ hb4).mono ?_
  rintro e w5 ⟨rfl, hb5⟩
  have hb5 := below_then' hb4 hb5
  go_wp2_with fail
  go_ret
  exact ⟨rfl, hb5⟩

set_option maxRecDepth 100000 in
set_option maxHeartbeats 1000000 in
theorem lawjoin_ok (a : Option Addr) (n c : Nat) (zs : List ByteArray) (w : World) (hM : ML w) (hn : zs.length = n) (hc : n ≤ c) (hS : SS w a zs) (h : shortB (zs.map bs) = true) (hq : joinErr (zs.map bs) = 0) :
    GivesB Tryz.prog 5 #[.slice a n c] (.bool true) w := by
  have hz := short_sizes h
  have hK := known_any w hM
  have hs := fun (W : World) (hb : Below w.heap.size w W) => short_any a n c zs W hn (hS.below hb)
  have hJ := fun (W : World) (hb : Below w.heap.size w W) => gjoin_any a n c zs W hn hc (by omega) (hS.below hb) (short_text h) (hM.below hb)
  have hR := fun (W : World) (hb : Below w.heap.size w W) => rjoin_any a n c zs W hn (by omega) (hS.below hb) (fun x hx => Nat.le_trans (hz.2 x hx) (by decide)) (short_text h)
  obtain ⟨hc0, hp0⟩ := joinOk hq
  have h80 := ((check_zero _).1 hc0).1
  have hP := fun (W : World) (hb : Below w.heap.size w W) => gsplit_ok (mkS (joinStr (zs.map bs))) W (by rw [size_mkS]; omega) (hM.below hb) hc0
  rw [h] at hs
  rw [hq] at hJ hR
  have HPP : Hid (parts 46 (bs (mkS (joinStr (zs.map bs)))) = zs.map bs) := hp0
  generalize mkS (joinStr (zs.map bs)) = y at *
  have hn60 : n ≤ 60 := by omega
  have HSS := Lib.hid hS
  have HN := Lib.hid hn
  unfold GivesB at *
  clear hM hS hn h hz hq hp0 hc0 h80
  go_enter Tryz.func5, Tryz.ntmps5
  go_wp2_with fail
  refine hK.mono ?_
  rintro e w1 ⟨rfl, hb1⟩
  go_wp2_with fail
  refine (hs _ hb1).mono ?_
  rintro e w2 ⟨rfl, hb2⟩
  have hb2 := below_then' hb1 hb2
  go_wp2_with fail
  refine (hJ _ hb2).mono ?_
  rintro e w3 ⟨rfl, hb3⟩
  have hb3 := below_then' hb2 hb3
  go_wp2_with fail
  refine (hR _ hb3).mono ?_
  rintro e w4 ⟨rfl, hb4⟩
  have hb4 := below_then' hb3 hb4
  go_wp2_with fail
  refine (hP _ hb4).mono ?_
  rintro e w5 ⟨l, b, hl, rfl, hSl, hb5⟩
  have hb5 := below_then' hb4 hb5
  have hle : l.map bs = zs.map bs := by rw [hl, HPP.out]
  have hln : l.length = n := by rw [← HN.out, ← List.length_map (f := bs), hle, List.length_map]
  have HLE := Lib.hid hle
  clear hl hle
  rw [hln]
  go_wp2_with fail
  have hsm := same_any (some ⟨b, 0, none⟩) n n l a n c zs w5 hln HN.out (by omega) (by omega) hSl (HSS.out.below hb5)
  rw [decide_eq_true HLE.out] at hsm
  refine hsm.mono ?_
  clear hsm
  rintro e w6 ⟨rfl, hb6⟩
  have hb6 := below_then' hb5 hb6
  go_wp2_with fail
  go_ret
  exact ⟨rfl, hb6⟩

theorem lawjoin_any (a : Option Addr) (n c : Nat) (zs : List ByteArray) (w : World) (hM : ML w) (hn : zs.length = n) (hc : n ≤ c) (hS : SS w a zs) :
    GivesB Tryz.prog 5 #[.slice a n c] (.bool true) w := by
  cases h : shortB (zs.map bs) with
  | false => exact lawjoin_long a n c zs w hM hn hS h
  | true =>
    by_cases hq : joinErr (zs.map bs) = 0
    · exact lawjoin_ok a n c zs w hM hn hc hS h hq
    · exact lawjoin_bad a n c zs w hM hn hc hS h hq
end Go.Proofs.YtbgkepdnemgkdaaGreatDoor
