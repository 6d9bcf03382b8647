/- Walk of groupname.Join, for texts of at most 1000000 bytes. -/
import Derived.Test.YtbgkepdnemgkdaaGreatDoorGnWalkF
namespace Go.Proofs.YtbgkepdnemgkdaaGreatDoor
open Go.RowKit Go.Gn

theorem join1_below (x : ByteArray) (W : World) : GivesB Tryz.prog 48 (#[.string x] ++ #[]) (.bool (!component (bs x))) W := by
  have hc := component_any x W
  unfold GivesB
  go_enter Tryz.func48, Tryz.ntmps48
  go_wp2_with (go_at_call 47; refine hc.mono ?_; rintro e w' ⟨rfl, hb⟩)
  go_ret
  exact ⟨rfl, hb⟩

def joinStr (L : List Str) : Str := if joinErr L = 0 then text 46 L else []

theorem joinV1 {L : List Str} (h : L = [] ∨ L.all component = false) : (mkS [] : ByteArray) = mkS (joinStr L) ∧ (12 : Int) = (joinErr L : Nat) := by
  have : joinErr L = 12 := by
    unfold joinErr
    by_cases h0 : L = []
    · rw [if_pos h0]
    · rw [if_neg h0, if_neg (by rcases h with h | h; exact absurd h h0; simp [h])]
  rw [joinStr, this]; simp
theorem joinV2 {L : List Str} (h0 : L ≠ []) (h : L.all component = true) (h2 : check (text 46 L) ≠ 0) : (mkS [] : ByteArray) = mkS (joinStr L) ∧ ((check (text 46 L) : Nat) : Int) = (joinErr L : Nat) := by
  have : joinErr L = check (text 46 L) := by
    unfold joinErr; rw [if_neg h0, if_pos h]
  rw [joinStr, this, if_neg h2]; simp
theorem joinV3 {L : List Str} (h0 : L ≠ []) (h : L.all component = true) (h2 : check (text 46 L) = 0) : (mkS (text 46 L) : ByteArray) = mkS (joinStr L) ∧ (0 : Int) = (joinErr L : Nat) := by
  have : joinErr L = check (text 46 L) := by
    unfold joinErr; rw [if_neg h0, if_pos h]
  rw [joinStr, this, if_pos h2, h2]; simp

set_option maxHeartbeats 1000000 in
/-- 'Join'. -/
theorem gjoin_any (a : Option Addr) (n c : Nat) (zs : List ByteArray) (w : World) (hn : zs.length = n) (hc : n ≤ c) (hN : n ≤ 1000000) (hS : SS w a zs) (hlen : (text 46 (zs.map bs)).length ≤ 1000000) (hM : ML w) :
    GivesB Tryz.prog 21 #[.slice a n c] (.tuple #[.string (mkS (joinStr (zs.map bs))), .int .i64 (joinErr (zs.map bs) : Nat)]) w := by
  have hF := containsFunc_below (fun x => !component (bs x)) 48 #[] (enters_of Tryz.func48 (by kernel_rfl) rfl) a n c zs w hn (by omega) hS (fun W x _ => join1_below x W)
  rw [any_bs zs _ rfl] at hF
  have hJ := fun (W : World) (hb : Below w.heap.size w W) => join_any 46 a n c zs W hn hc (hS.below hb) (by omega) (by omega)
  have hK := fun (W : World) (hb : Below w.heap.size w W) => check_any (mkS (text 46 (zs.map bs))) W (by rw [size_mkS]; exact Nat.le_trans hlen (by decide)) (hM.below hb)
  rw [bs_mk] at hK
  unfold GivesB at hF hJ hK ⊢
  by_cases h0 : n = 0
  · have e : zs.map bs = [] := by have : zs = [] := List.eq_nil_of_length_eq_zero (by omega); rw [this]; rfl
    have HV := Lib.hid (joinV1 (L := zs.map bs) (.inl e))
    clear e hF hJ hK hS hn
    subst h0
    go_enter Tryz.func21, Tryz.ntmps21
    go_wp2
    go_ret2
    exact ⟨ret_si HV.out.1 HV.out.2, Below.refl _ _⟩
  · have hz : ((n : Int) == 0) = false := by simp; omega
    have hne : zs.map bs ≠ [] := by intro e; have := congrArg List.length e; simp only [List.length_map, List.length_nil] at this; omega
    have HNE := Lib.hid hne
    clear hne hn
    cases hb : (zs.map bs).all component with
    | false =>
      have HV := Lib.hid (joinV1 (L := zs.map bs) (.inr hb))
      rw [hb] at hF
      clear hb
      go_enter Tryz.func21, Tryz.ntmps21
      go_wp2_with (go_at_call 45; refine hF.mono ?_; rintro e w' ⟨rfl, hb⟩)
      go_ret2
      exact ⟨ret_si HV.out.1 HV.out.2, hb⟩
    | true =>
      rw [hb] at hF
      have HB := Lib.hid hb
      clear hb
      by_cases h2 : check (text 46 (zs.map bs)) = 0
      · have HV := Lib.hid (joinV3 HNE.out HB.out h2)
        rw [h2] at hK
        clear h2
        go_enter Tryz.func21, Tryz.ntmps21
        go_wp2_with (first
          | (go_at_call 45; refine hF.mono ?_; rintro e w' ⟨rfl, hb⟩)
          | (go_at_call 49; refine (hJ _ ‹_›).mono ?_; rintro e w2 ⟨rfl, hb2⟩; have hb3 := below_then' hb hb2)
          | (go_at_call 19; refine (hK _ hb3).mono ?_; rintro e w4 ⟨rfl, hb4⟩))
        go_ret2
        exact ⟨ret_si HV.out.1 HV.out.2, below_then' hb3 hb4⟩
      · have HV := Lib.hid (joinV2 HNE.out HB.out h2)
        generalize check (text 46 (zs.map bs)) = k at h2 hK HV
        have hk : ((k : Int) != 0) = true := by simp; omega
        clear h2
        go_enter Tryz.func21, Tryz.ntmps21
        go_wp2_with (first
          | (go_at_call 45; refine hF.mono ?_; rintro e w' ⟨rfl, hb⟩)
          | (go_at_call 49; refine (hJ _ ‹_›).mono ?_; rintro e w2 ⟨rfl, hb2⟩; have hb3 := below_then' hb hb2)
          | (go_at_call 19; refine (hK _ hb3).mono ?_; rintro e w4 ⟨rfl, hb4⟩))
        go_ret2
        exact ⟨ret_si HV.out.1 HV.out.2, below_then' hb3 hb4⟩

end Go.Proofs.YtbgkepdnemgkdaaGreatDoor
