/- strings.Join and slices.Contains over strings. -/
import Derived.Test.YtbgkepdnemgkdaaGreatDoorGnBase
namespace Go.Proofs.YtbgkepdnemgkdaaGreatDoor
open Go.RowKit Go.Gn

/-- strings.Join at a separator of one byte. -/
theorem join_any (sep : UInt8) (a : Option Addr) (n c : Nat) (zs : List ByteArray) (w : World) (hn : zs.length = n) (hc : n ≤ c) (hS : SS w a zs) (hlen : (text sep (zs.map bs)).length ≤ 140737488355328) (hN : n ≤ 140737488355328) :
    GivesB Tryz.prog 49 #[.slice a n c, .string ⟨#[sep]⟩] (.string (mkS (text sep (zs.map bs)))) w := by
  unfold GivesB
  subst hn
  rcases hS with rfl | ⟨b, off, rfl, hb, hcell⟩
  · exact (Any.strings_Join_none Tryz.lays156 Tryz.Builder_Extra_156 a c ⟨#[sep]⟩ w).mono fun e w' ⟨he, hw⟩ => ⟨he, hw ▸ Below.refl _ _⟩
  · rw [← text_join] at hlen ⊢
    exact Tryz.strings_Join b off c zs ⟨#[sep]⟩ w hcell hb hN hc hlen

/-- slices.Contains. -/
theorem contains_any (a : Option Addr) (n c : Nat) (zs : List ByteArray) (x : ByteArray) (w : World) (hn : zs.length = n) (hS : SS w a zs) (hN : n ≤ 9223372036854775807) :
    Calls Tryz.prog 74 #[.slice a n c, .string x] w fun e w' => e = .returned (.bool (decide (bs x ∈ zs.map bs))) ∧ w' = w := by
  subst hn
  rcases hS with rfl | ⟨b, off, rfl, hb, hcell⟩
  · exact Tryz.slices_Contains_string_empty a c x w
  · have h := Tryz.slices_Contains_string b off zs.length c zs x w (Nat.le_refl _) hN (fun j hj => by
      rw [hcell j zs[j] (List.getElem?_eq_getElem hj)]; simp [List.getD_eq_getElem?_getD, List.getElem?_eq_getElem hj])
    rw [List.take_length] at h
    have e : Lib.containsS zs x = decide (bs x ∈ zs.map bs) := by
      rw [Bool.eq_iff_iff, Lib.containsS_iff, decide_eq_true_eq, List.mem_map]
      constructor
      · intro h; exact ⟨x, h, rfl⟩
      · rintro ⟨y, hy, e⟩
        have : y = x := by rw [← mk_bs y, ← mk_bs x, e]
        rwa [← this]
    rwa [e] at h

end Go.Proofs.YtbgkepdnemgkdaaGreatDoor
