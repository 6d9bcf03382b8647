/- The law NewsrcAlgebra where a slice is long or a range is no range. -/
import Derived.Test.YtddmldfdakmecaaGreatDoorNwCount
import Derived.Test.YtddmldfdakmecaaGreatDoorNwHeld
namespace Go.Proofs.YtddmldfdakmecaaGreatDoor
open Go.RowKit Go.Gn Go.El Go.Nw

set_option maxRecDepth 100000 in
set_option maxHeartbeats 4000000 in
theorem lawAlgebra_bad (a : Option Addr) (n c : Nat) (za : List Rg) (a' : Option Addr) (n' c' : Nat) (zb : List Rg) (x : Int) (w : World) (hn : za.length = n) (hn' : zb.length = n') (hR : RE TG w a za) (hR' : RE TG w a' zb) (hM : ML w) (hT : TB w) (h1 : n ≤ 60) (h2 : n' ≤ 60) (hnv : ¬ ((∀ r ∈ za, validB r = true) ∧ ∀ r ∈ zb, validB r = true)) :
    GivesB Tryz.prog 5 #[.slice a n c, .slice a' n' c', .int .i64 x] (.bool true) w := by
  have hk := known_any w hM hT
  have hz1 : ¬ (60 : Int) < (n : Int) := by omega
  have hz2 : ¬ (60 : Int) < (n' : Int) := by omega
  unfold GivesB at hk ⊢
  go_enter Tryz.func5, Tryz.ntmps5
  go_wp2_with fail
  refine hk.mono ?_
  clear hk
  rintro e w1 ⟨rfl, hB1⟩
  go_wp2_with fail
  refine (own_any a n c za w1 hn (by omega) (hR.below hB1)).mono ?_
  rintro e w2 ⟨hb2, v2, rfl, hO2⟩
  have hB2 := hB1.trans (hb2.mono hB1.size)
  obtain ⟨p2, c2, rfl, hR2, q1, q2, q3, q4⟩ := hO2.re
  rw [hn]
  clear q1 q2 q3 q4 hO2 hb2
  go_wp2_with fail
  refine (from_any p2 n c2 za w2 hn (by omega) hR2).mono ?_
  rintro e w3 hF
  obtain ⟨hb3, v3, X, er, rfl, hO3, hX1, hX2, hX3, hX4⟩ := hF.out
  have hB3 := hB2.trans (hb3.mono hB2.size)
  obtain ⟨a1, n1, c1, rfl, hS1⟩ := SetIn.of hO3 hX1 hX2 (by omega)
  clear hF hO3 hb3 hR2 hX1 hX2
  have hB3' := hB3.alloc hB3.size (.cells #[.slice a1 n1 c1] 26)
  go_wp2_with fail
  generalize hsb : w3.heap.size = b1 at *
  generalize w3.alloc (.cells #[.slice a1 n1 c1] 26) = w4 at *
  clear hsb
  refine (own_any a' n' c' zb w4 hn' (by omega) (hR'.below hB3')).mono ?_
  rintro e w5 ⟨hb5, v5, rfl, hO5⟩
  have hB5 := hB3'.trans (hb5.mono hB3'.size)
  have hS1' := hS1.below hb5
  obtain ⟨p5, c5, rfl, hR5, q1, q2, q3, q4⟩ := hO5.re
  rw [hn']
  clear q1 q2 q3 q4 hO5 hb5 hS1
  go_wp2_with fail
  refine (from_any p5 n' c5 zb w5 hn' (by omega) hR5).mono ?_
  rintro e w6 hF
  obtain ⟨hb6, v6, Y, er', rfl, hO6, hY1, hY2, hY3, hY4⟩ := hF.out
  have hB6 := hB5.trans (hb6.mono hB5.size)
  have hS16 := hS1'.below hb6
  obtain ⟨a2, n2, c2', rfl, hS2⟩ := SetIn.of hO6 hY1 hY2 (by omega)
  have hba : Below w6.heap.size w6 (w6.alloc (.cells #[.slice a2 n2 c2'] 26)) := (Below.refl _ _).alloc (Nat.le_refl _) _
  have hS17 := hS16.below hba
  have hB7 := hB6.trans (hba.mono hB6.size)
  clear hF hO6 hb6 hR5 hY1 hY2 hS1' hS16 hba
  have hXl : X.length ≤ 60 := by omega
  have hYl : Y.length ≤ 60 := by omega
  have hcX := hS17.box.cell
  have hcY := hS2.box.cell
  rcases hX4 with ⟨rfl, hv1, _⟩ | ⟨rfl, _, _⟩
  case inr =>
    go_wp2_with fail
    go_ret
    exact ⟨rfl, hB7⟩
  rcases hY4 with ⟨rfl, hv2, _⟩ | ⟨rfl, _, _⟩
  case inr =>
    go_wp2_with fail
    go_ret
    exact ⟨rfl, hB7⟩
  exact absurd ⟨hv1, hv2⟩ hnv

set_option maxRecDepth 100000 in
set_option maxHeartbeats 1000000 in
theorem lawAlgebra_big (a : Option Addr) (n c : Nat) (za : List Rg) (a' : Option Addr) (n' c' : Nat) (zb : List Rg) (x : Int) (w : World) (hn : za.length = n) (hn' : zb.length = n') (hR : RE TG w a za) (hR' : RE TG w a' zb) (hM : ML w) (hT : TB w) (h1 : ¬ (n ≤ 60 ∧ n' ≤ 60)) :
    GivesB Tryz.prog 5 #[.slice a n c, .slice a' n' c', .int .i64 x] (.bool true) w := by
  have hk := known_any w hM hT
  have hk2 : ∀ W, Below w.heap.size w W → GivesB Tryz.prog 11 #[] (.bool true) W := fun W hb => known_any W (hM.below hb) (hT.below hb)
  clear hn hn' hR hR' hM hT
  unfold GivesB at hk hk2 ⊢
  by_cases hz1 : (60 : Int) < (n : Int)
  · go_enter Tryz.func5, Tryz.ntmps5
    go_wp2_with fail
    refine hk.mono ?_
    clear hk
    rintro e w1 ⟨rfl, hB1⟩
    go_wp2_with fail
    refine (hk2 w1 hB1).mono ?_
    rintro e w2 ⟨rfl, hB2⟩
    go_wp2_with fail
    go_ret
    exact ⟨rfl, hB1.trans (hB2.mono hB1.size)⟩
  · have hz2 : (60 : Int) < (n' : Int) := by omega
    clear h1
    go_enter Tryz.func5, Tryz.ntmps5
    go_wp2_with fail
    refine hk.mono ?_
    clear hk
    rintro e w1 ⟨rfl, hB1⟩
    go_wp2_with fail
    refine (hk2 w1 hB1).mono ?_
    rintro e w2 ⟨rfl, hB2⟩
    go_wp2_with fail
    go_ret
    exact ⟨rfl, hB1.trans (hB2.mono hB1.size)⟩
end Go.Proofs.YtddmldfdakmecaaGreatDoor
