/- Walk of the reference Check: for every string. -/
import Derived.Test.YtddmldfdakmecaaGreatDoorGnWalkK
namespace Go.Proofs.YtddmldfdakmecaaGreatDoor
open Go.RowKit Go.Gn

def PartsSS (c : UInt8) (s : ByteArray) (w : World) (e : Ending) (w' : World) : Prop :=
  ∃ (a : Option Addr) (cp : Nat) (l : List ByteArray), l.map bs = parts c (bs s) ∧ e = .returned (.slice a l.length cp) ∧ SS w' a l ∧ l.length ≤ cp ∧ cp ≤ maxLen ∧ Below w.heap.size w w'

theorem rparts_ss (s : ByteArray) (c : UInt8) (w : World) (hs : s.size ≤ 1000000) :
    Calls Tryz.prog 120 #[.string s, .int .u8 (c.toNat : Int)] w fun e w' => PartsSS c s w e w' := by
  refine (rparts_any s c w hs).mono fun e w' ⟨v, l, hl, he, hO, hB⟩ => ?_
  obtain ⟨a, cp, rfl, hS, h1, h2⟩ := hO.ss
  exact ⟨a, cp, l, hl, he, hS, h1, h2, hB⟩

theorem rparts_dot (s : ByteArray) (w : World) (hs : s.size ≤ 1000000) :
    Calls Tryz.prog 120 #[.string s, .int .u8 46] w fun e w' => PartsSS 46 s w e w' := rparts_ss s 46 w hs
theorem rparts_comma (s : ByteArray) (w : World) (hs : s.size ≤ 1000000) :
    Calls Tryz.prog 120 #[.string s, .int .u8 44] w fun e w' => PartsSS 44 s w e w' := rparts_ss s 44 w hs

theorem size_mem_parts {c : UInt8} {s : ByteArray} {l : List ByteArray} (hl : l.map bs = parts c (bs s)) : ∀ x ∈ l, x.size ≤ s.size := by
  intro x hx
  have h1 : bs x ∈ parts c (bs s) := by rw [← hl]; exact List.mem_map_of_mem hx
  have h2 := mem_parts_le c (bs s) _ h1
  simpa [bs] using h2
theorem len_parts {c : UInt8} {s : ByteArray} {l : List ByteArray} (hl : l.map bs = parts c (bs s)) : l.length ≤ s.size + 1 := by
  have h1 := congrArg List.length hl
  rw [List.length_map] at h1
  have h2 := parts_length_le c (bs s)
  have h3 : (bs s).length = s.size := by simp [bs]
  omega

theorem all_of_get {zs : List ByteArray} (p : ByteArray → Bool) (h : ∀ j x, j < zs.length → zs[j]? = some x → p x = true) : zs.all p = true := by
  rw [List.all_eq_true]
  intro x hx
  obtain ⟨j, hj⟩ := List.getElem?_of_mem hx
  exact h j x (List.getElem?_eq_some_iff.1 hj).1 hj

theorem any_of_all {l : List ByteArray} (h : ∀ j x, j < l.length → l[j]? = some x → component (bs x) = true) : (l.any fun x => !component (bs x)) = false := by
  rw [List.any_eq_false]
  intro x hx
  obtain ⟨j, hj⟩ := List.getElem?_of_mem hx
  rw [h j x (List.getElem?_eq_some_iff.1 hj).1 hj]; simp
theorem any_of_one {l : List ByteArray} {j : Nat} {x : ByteArray} (hj : l[j]? = some x) (h : component (bs x) = false) : (l.any fun x => !component (bs x)) = true := by
  rw [List.any_eq_true]
  exact ⟨x, List.mem_of_getElem? hj, by rw [h]; rfl⟩

set_option maxRecDepth 100000 in
set_option maxHeartbeats 2000000 in
/-- The reference's 'Check'. -/
theorem rcheck_any (s : ByteArray) (w : World) (hs : s.size ≤ 9223372036854775807) :
    GivesB Tryz.prog 94 #[.string s] (.int .i64 (check (bs s) : Nat)) w := by
  have hsz : (bs s).length = s.size := by simp [bs]
  unfold GivesB
  by_cases h80 : 80 < s.size
  · have hr : check (bs s) = 5 := by unfold check; rw [if_pos (by omega)]
    rw [hr]
    clear hr hsz
    go_enter Tryz.func94, Tryz.ntmps94
    go_wp2
    go_ret
    exact ⟨rfl, Below.refl _ _⟩
  have hP := rparts_dot s w (by omega)
  have HZ := Lib.hid hsz
  clear hsz
  go_enter Tryz.func94, Tryz.ntmps94
  go_wp2_with (go_at_call 120; refine hP.mono ?_; rintro e w1 ⟨a, cp, l, hl, rfl, hS, hlc, hcm, hB0⟩; have HL := Lib.hid hl; clear hl)
  have hln : l.length ≤ 81 := by have := len_parts HL.out; omega
  have hsm := size_mem_parts HL.out
  go_loopg [4] l.length (fun gg s4 wr => ∃ k : Nat, k ≤ l.length ∧ l.length - k ≤ gg ∧ s4 = .int .i64 k ∧ Below w1.heap.size w1 wr ∧ Aside (∀ j x, j < k → l[j]? = some x → component (bs x) = true))
  case atStart => exact ⟨0, Nat.zero_le _, by omega, rfl, Below.refl _ _, show Aside _ from fun j x h => absurd h (Nat.not_lt_zero _)⟩
  case round =>
    obtain ⟨k, hk, hg, rfl, hB, A⟩ := hrel
    by_cases hlt : k < l.length
    · have hltz : (k : Int) < (l.length : Int) := by omega
      obtain ⟨b, off, rfl, hb, hc⟩ : ∃ b off, a = some ⟨b, off, none⟩ ∧ b < w1.heap.size ∧ ∀ j x, l[j]? = some x → w1.cell? ⟨b, off + j, none⟩ = some (.string x) := by
        rcases hS with h | h
        · rw [h] at hlt; exact absurd hlt (Nat.not_lt_zero _)
        · exact h
      have hget : l[k]? = some l[k] := List.getElem?_eq_getElem hlt
      have hcell := (hB.cell (p := ⟨b, off + k, none⟩) hb).trans (hc k _ hget)
      have hy := hsm _ (List.getElem_mem hlt)
      have HG := Lib.hid hget
      clear hc hS hget hsm
      generalize l[k] = y at hcell HG hy
      have hcall := rcomponent_any y wr (by omega)
      cases hq : component (bs y) with
      | false =>
        rw [hq] at hcall
        go_wp2_with (go_at_call 121; refine hcall.mono ?_; rintro e w' ⟨rfl, rfl⟩)
        go_ret
        exact ⟨ret_int (by rw [check_bad HL.out (by have := HZ.out; omega) (any_of_one HG.out hq)]; rfl), below_then' hB0 hB⟩
      | true =>
        rw [hq] at hcall
        go_wp2_with (go_at_call 121; refine hcall.mono ?_; rintro e w' ⟨rfl, rfl⟩)
        go_roundg (l.length - (k + 1))
        case measure => omega
        case rel =>
          refine ⟨k + 1, by omega, by omega, by go_num, hB, show Aside _ from fun j x hj hx => ?_⟩
          by_cases e : j = k
          · subst e
            rw [HG.out] at hx
            injection hx with hx
            rw [← hx]; exact hq
          · exact A.out j x (by omega) hx
    · have hltz : ¬ (k : Int) < (l.length : Int) := by omega
      by_cases hm : 10 < l.length
      · go_wp2
        go_ret
        exact ⟨ret_int (by rw [check_many HL.out (by have := HZ.out; omega) (any_of_all (fun j x hj hx => A.out j x (by omega) hx)) hm]; rfl), below_then' hB0 hB⟩
      · go_wp2
        go_ret
        exact ⟨ret_int (by rw [check_fine HL.out (by have := HZ.out; omega) (any_of_all (fun j x hj hx => A.out j x (by omega) hx)) hm]; rfl), below_then' hB0 hB⟩

end Go.Proofs.YtddmldfdakmecaaGreatDoor
