/- Walk of the reference Join, for texts of at most 1000000 bytes; the law GroupnameJoin. -/
import Derived.Test.YtbgkepdnemgkdaaGreatDoorGnWalkU
import Derived.Test.YtbgkepdnemgkdaaGreatDoorGnWalkM
import Derived.Test.YtbgkepdnemgkdaaGreatDoorGnWalkG
namespace Go.Proofs.YtbgkepdnemgkdaaGreatDoor
open Go.RowKit Go.Gn

theorem all_of {zs : List ByteArray} {n : Nat} (hn : zs.length = n) (h : ∀ j x, j < n → zs[j]? = some x → component (bs x) = true) : (zs.map bs).all component = true := by
  rw [List.all_eq_true]
  intro s hs
  obtain ⟨x, hx, rfl⟩ := List.mem_map.1 hs
  obtain ⟨j, hj⟩ := List.getElem?_of_mem hx
  exact h j x (by rw [← hn]; exact (List.getElem?_eq_some_iff.1 hj).1) hj
theorem all_not {zs : List ByteArray} {k : Nat} {x : ByteArray} (hx : zs[k]? = some x) (h : component (bs x) = false) : (zs.map bs).all component = false := by
  rw [List.all_eq_false]
  exact ⟨bs x, List.mem_map_of_mem (List.mem_of_getElem? hx), by rw [h]; decide⟩

set_option maxRecDepth 100000 in
set_option maxHeartbeats 1000000 in
/-- The reference's 'Join'. -/
theorem rjoin_any (a : Option Addr) (n c : Nat) (zs : List ByteArray) (w : World) (hn : zs.length = n) (hN : n ≤ 1000000) (hS : SS w a zs) (hsz : ∀ x ∈ zs, x.size ≤ 1000000) (hlen : (text 46 (zs.map bs)).length ≤ 1000000) :
    GivesB Tryz.prog 24 #[.slice a n c] (.tuple #[.string (mkS (joinStr (zs.map bs))), .int .i64 (joinErr (zs.map bs) : Nat)]) w := by
  have HN := Lib.hid hn
  have hT := fun (W : World) (hb : Below w.heap.size w W) => rtext_any a n c zs 46 W hn hN (hS.below hb) hlen
  have hK := fun (W : World) => rcheck_any (mkS (text 46 (zs.map bs))) W (by rw [size_mkS]; exact Nat.le_trans hlen (by decide))
  rw [bs_mk] at hK
  unfold GivesB at hK ⊢
  clear hn
  go_enter Tryz.func24, Tryz.ntmps24
  go_wp2
  go_loopg [4] n (fun gg s4 wr => ∃ (k : Nat), k ≤ n ∧ n - k ≤ gg ∧ s4 = .int .i64 k ∧ Below w.heap.size w wr ∧ Aside (∀ j x, j < k → zs[j]? = some x → component (bs x) = true))
  case atStart => exact ⟨0, Nat.zero_le _, by omega, rfl, Below.refl _ _, show Aside _ from fun j x h => absurd h (Nat.not_lt_zero _)⟩
  case round =>
    obtain ⟨k, hk, hg, rfl, hB, A⟩ := hrel
    by_cases hlt : k < n
    · have hltz : (k : Int) < (n : Int) := by omega
      have hkz : k < zs.length := by rw [HN.out]; exact hlt
      obtain ⟨b, off, rfl, hb, hcell0⟩ := hS.some hkz
      have hcell := (hB.cell (p := ⟨b, off + k, none⟩) hb).trans hcell0
      clear hcell0
      have hy := hsz _ (List.getElem_mem hkz)
      have HG : Hid (zs[k]? = some zs[k]) := List.getElem?_eq_getElem hkz
      clear hsz
      generalize zs[k] = y at hcell HG hy
      have hcall := rcomponent_any y wr (by omega)
      cases hq : component (bs y) with
      | false =>
        rw [hq] at hcall
        have HV := Lib.hid (joinV1 (L := zs.map bs) (.inr (all_not HG.out hq)))
        clear hq
        go_wp2_with (go_at_call 42; refine hcall.mono ?_; rintro e w' ⟨rfl, rfl⟩)
        go_ret2
        exact ⟨ret_si HV.out.1 HV.out.2, hB⟩
      | true =>
        rw [hq] at hcall
        go_wp2_with (go_at_call 42; refine hcall.mono ?_; rintro e w' ⟨rfl, rfl⟩)
        go_roundg (n - (k + 1))
        case measure => omega
        case rel =>
          refine ⟨k + 1, by omega, by omega, by go_num, hB, show Aside _ from fun j x hj hx => ?_⟩
          by_cases e : j = k
          · subst e
            rw [HG.out] at hx
            injection hx with hx
            rw [← hx]; exact hq
          · exact A.out j x (by omega) hx
    · have hltz : ¬ (k : Int) < (n : Int) := by omega
      have hkn : k = n := by omega
      have HA : Hid ((zs.map bs).all component = true) := all_of HN.out (by rw [← hkn]; exact A.out)
      by_cases h0 : n = 0
      · have e : zs.map bs = [] := by have : zs = [] := List.eq_nil_of_length_eq_zero (by rw [HN.out]; exact h0); rw [this]; rfl
        have HV := Lib.hid (joinV1 (L := zs.map bs) (.inl e))
        clear e
        have hz : ((n : Int) == 0) = true := by simp; omega
        clear hkn h0
        go_wp2
        go_ret2
        exact ⟨ret_si HV.out.1 HV.out.2, hB⟩
      · have hz : ((n : Int) == 0) = false := by simp; omega
        have hne : zs.map bs ≠ [] := by intro e; have := congrArg List.length e; simp only [List.length_map, List.length_nil] at this; have := HN.out; omega
        have HNE := Lib.hid hne
        have hTx := hT _ hB
        clear hne hkn hT hsz hS
        by_cases h2 : check (text 46 (zs.map bs)) = 0
        · have HV := Lib.hid (joinV3 HNE.out HA.out h2)
          rw [h2] at hK
          clear h2
          go_wp2_with (first
            | (go_at_call 23; refine hTx.mono ?_; rintro e w2 ⟨rfl, rfl⟩)
            | (go_at_call 16; refine (hK _).mono ?_; rintro e w4 ⟨rfl, hb4⟩))
          go_ret2
          exact ⟨ret_si HV.out.1 HV.out.2, below_then' hB hb4⟩
        · have HV := Lib.hid (joinV2 HNE.out HA.out h2)
          obtain ⟨q, hq⟩ : ∃ q, q = check (text 46 (zs.map bs)) := ⟨_, rfl⟩
          rw [← hq] at h2 hK HV
          have hk : ((q : Int) != 0) = true := by simp; omega
          clear h2 hq
          go_wp2_with (first
            | (go_at_call 23; refine hTx.mono ?_; rintro e w2 ⟨rfl, rfl⟩)
            | (go_at_call 16; refine (hK _).mono ?_; rintro e w4 ⟨rfl, hb4⟩))
          go_ret2
          exact ⟨ret_si HV.out.1 HV.out.2, below_then' hB hb4⟩
end Go.Proofs.YtbgkepdnemgkdaaGreatDoor
