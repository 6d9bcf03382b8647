/- Walk of the law helper known: it returns true. -/
import Derived.Test.YtbgkepdnemgkdaaGreatDoorGnWalkS
namespace Go.Proofs.YtbgkepdnemgkdaaGreatDoor
open Go.RowKit Go.Gn

def kN : ByteArray := ⟨#[99, 111, 109, 112, 46, 108, 97, 110, 103, 45, 97, 46, 109, 105, 115, 99]⟩
def kP : ByteArray := ⟨#[99, 111, 109, 112, 46, 108, 97, 110, 103, 45, 97]⟩
def kM : ByteArray := ⟨#[99, 111, 109, 112, 46, 108, 97, 110, 103, 46, 109, 105, 115, 99]⟩
theorem kN_check : check (bs kN) = 0 := by decide +kernel
theorem kN_parts : parts 46 (bs kN) = [[99, 111, 109, 112], [108, 97, 110, 103, 45, 97], [109, 105, 115, 99]] := by decide +kernel
theorem kM_cmp : cmp (bs kM) (bs kP) = -1 := by decide +kernel
theorem kN_parent : parent (bs kN) = bs kP := by decide +kernel

def kL : List ByteArray := [⟨#[97, 46, 99, 46, 100]⟩, ⟨#[97, 46, 98]⟩]
theorem kL_err : kidErr (kL.map bs) (bs ⟨#[97]⟩) = 0 := by decide +kernel
theorem kL_kids : sortU cmpS (kids (preOf (bs ⟨#[97]⟩)) (sortU cmp (kL.map bs))) = [[98], [99]] := by decide +kernel

def k3 : List ByteArray := [⟨#[99, 111, 109, 112]⟩, ⟨#[108, 97, 110, 103, 45, 97]⟩, ⟨#[109, 105, 115, 99]⟩]
def k2 : List ByteArray := [⟨#[98]⟩, ⟨#[99]⟩]

set_option maxRecDepth 100000 in
set_option maxHeartbeats 1000000 in
theorem known_any (w : World) (hM : ML w) : GivesB Tryz.prog 9 #[] (.bool true) w := by
  unfold GivesB
  go_enter Tryz.func9, Tryz.ntmps9
  go_wp2_with fail
  refine (gsplit_ok kN w (by decide) hM kN_check).mono ?_
  rintro e w1 ⟨l, b1, hl, rfl, hS1, hB1⟩
  have HL : Hid (l.map bs = [[99, 111, 109, 112], [108, 97, 110, 103, 45, 97], [109, 105, 115, 99]]) := by unfold Hid; rw [hl, kN_parts]
  clear hl
  have hM1 := hM.below hB1
  go_wp2_with fail
  have hp := gparent_any kN w1 (by decide) hM1 (by decide)
  rw [if_pos ⟨kN_check, by rw [kN_parts]; decide⟩, kN_parent] at hp
  refine hp.mono ?_
  clear hp
  rintro e w2 ⟨rfl, hB2⟩
  have hM2 := hM1.below hB2
  have hS2 := hS1.below hB2
  have hB02 := below_then' hB1 hB2
  clear hM1 hS1 hM hB1 hB2
  go_wp2_with fail
  have hS3 : SS (w2.alloc (.cells #[.string ⟨#[97, 46, 99, 46, 100]⟩, .string ⟨#[97, 46, 98]⟩] 9)) (some ⟨w2.heap.size, 0, none⟩) kL := SS.new w2 kL 9
  have hb3 : Below w2.heap.size w2 (w2.alloc (.cells #[.string ⟨#[97, 46, 99, 46, 100]⟩, .string ⟨#[97, 46, 98]⟩] 9)) := (Below.refl _ _).alloc (Nat.le_refl _) _
  generalize (w2.alloc (.cells #[.string ⟨#[97, 46, 99, 46, 100]⟩, .string ⟨#[97, 46, 98]⟩] 9)) = w3 at hS3 hb3 ⊢
  have hc := children_any _ 2 2 kL ⟨#[97]⟩ w3 rfl (by decide) hS3 (by decide +kernel) (by decide) (hM2.below hb3)
  refine hc.mono ?_
  clear hc
  rintro e w4 ⟨hb4, ⟨hne, _⟩ | ⟨_, a4, c4, ks, rfl, hks, hS4, _⟩⟩
  · exact absurd kL_err hne
  rw [kL_kids] at hks
  have hb04 := below_then' hB02 (below_then' hb3 hb4)
  have hS24 := hS2.below (below_then' hb3 hb4)
  have hM4 := hM2.below (below_then' hb3 hb4)
  have hkl : ks.length = 2 := by rw [← List.length_map (f := bs), hks]; rfl
  have hll : l.length = 3 := by rw [← List.length_map (f := bs), HL.out]; rfl
  rw [hkl]
  have HK := Lib.hid hks
  clear hks hkl hb3 hb4 hM2 hS2 hB02 hS3
  rw [hll]
  go_wp2_with fail
  have hS5 : SS (w4.alloc (.cells #[.string ⟨#[99, 111, 109, 112]⟩, .string ⟨#[108, 97, 110, 103, 45, 97]⟩, .string ⟨#[109, 105, 115, 99]⟩] 9)) (some ⟨w4.heap.size, 0, none⟩) k3 := SS.new w4 k3 9
  have hb5 : Below w4.heap.size w4 (w4.alloc (.cells #[.string ⟨#[99, 111, 109, 112]⟩, .string ⟨#[108, 97, 110, 103, 45, 97]⟩, .string ⟨#[109, 105, 115, 99]⟩] 9)) := (Below.refl _ _).alloc (Nat.le_refl _) _
  generalize (w4.alloc (.cells #[.string ⟨#[99, 111, 109, 112]⟩, .string ⟨#[108, 97, 110, 103, 45, 97]⟩, .string ⟨#[109, 105, 115, 99]⟩] 9)) = w5 at hS5 hb5 ⊢
  have hs := same_any _ 3 3 l _ 3 3 k3 w5 hll rfl (by decide) (by decide) (hS24.below hb5) hS5
  rw [decide_eq_true (show l.map bs = k3.map bs by rw [HL.out]; rfl)] at hs
  refine hs.mono ?_
  clear hs
  rintro e w6 ⟨rfl, hb6⟩
  have hb46 := below_then' hb5 hb6
  have hS46 := hS4.below hb46
  have hM6 := hM4.below hb46
  have hb06 := below_then' hb04 hb46
  clear hb5 hb6 hS5 hM4 hS4 hb04 hb46
  have hkp : (⟨kP.data⟩ : ByteArray).toList = [99, 111, 109, 112, 46, 108, 97, 110, 103, 45, 97] := by rw [ByteArray.toList_eq]; rfl
  go_wp2_with fail
  have hcm := gcompare_any kM kP w6 (by decide) (by decide) hM6
  rw [kM_cmp] at hcm
  refine hcm.mono ?_
  clear hcm
  rintro e w7 ⟨rfl, hb7⟩
  have hS47 := hS46.below hb7
  have hb07 := below_then' hb06 hb7
  clear hb7 hS46 hM6 hb06
  go_wp2_with fail
  have hS8 : SS (w7.alloc (.cells #[.string ⟨#[98]⟩, .string ⟨#[99]⟩] 9)) (some ⟨w7.heap.size, 0, none⟩) k2 := SS.new w7 k2 9
  have hb8 : Below w7.heap.size w7 (w7.alloc (.cells #[.string ⟨#[98]⟩, .string ⟨#[99]⟩] 9)) := (Below.refl _ _).alloc (Nat.le_refl _) _
  generalize (w7.alloc (.cells #[.string ⟨#[98]⟩, .string ⟨#[99]⟩] 9)) = w8 at hS8 hb8 ⊢
  have hs := same_any _ 2 c4 ks _ 2 2 k2 w8 (by rw [← List.length_map (f := bs), HK.out]; rfl) rfl (by decide) (by decide) (hS47.below hb8) hS8
  rw [decide_eq_true (show ks.map bs = k2.map bs by rw [HK.out]; rfl)] at hs
  refine hs.mono ?_
  clear hs
  rintro e w9 ⟨rfl, hb9⟩
  have hb09 := below_then' hb07 (below_then' hb8 hb9)
  clear hb8 hb9 hS8 hS47 hb07
  go_wp2_with fail
  go_ret
  exact ⟨rfl, hb09⟩
end Go.Proofs.YtbgkepdnemgkdaaGreatDoor
