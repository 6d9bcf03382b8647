/- The law NewsrcAlgebra, the number in the first set: false, in the second: false. -/
import Derived.Test.YtddmldfdakmecaaGreatDoorNwCount
import Derived.Test.YtddmldfdakmecaaGreatDoorNwHeld
namespace Go.Proofs.YtddmldfdakmecaaGreatDoor
open Go.RowKit Go.Gn Go.El Go.Nw

set_option maxRecDepth 100000 in
set_option maxHeartbeats 4000000 in
theorem lawAlgebra_ff (a : Option Addr) (n c : Nat) (za : List Rg) (a' : Option Addr) (n' c' : Nat) (zb : List Rg) (x : Int) (w : World) (hn : za.length = n) (hn' : zb.length = n') (hR : RE TG w a za) (hR' : RE TG w a' zb) (hM : ML w) (hT : TB w) (h1 : n ≤ 60) (h2 : n' ≤ 60) (hva : ∀ r ∈ za, validB r = true) (hvb : ∀ r ∈ zb, validB r = true) (hp : memB x (normal za) = false) (hq : memB x (normal zb) = false) :
    GivesB Tryz.prog 5 #[.slice a n c, .slice a' n' c', .int .i64 x] (.bool true) w := by
  have hk := known_any w hM hT
  have hz1 : ¬ (60 : Int) < (n : Int) := by omega
  have hz2 : ¬ (60 : Int) < (n' : Int) := by omega
  unfold GivesB at hk ⊢
  go_enter Tryz.func5, Tryz.ntmps5
  go_wp2_with fail
  refine hk.mono ?_
  clear hk
  rintro e w1 ⟨rfl, hB1⟩
  go_wp2_with fail
  refine (own_any a n c za w1 hn (by omega) (hR.below hB1)).mono ?_
  rintro e w2 ⟨hb2, v2, rfl, hO2⟩
  have hB2 := hB1.trans (hb2.mono hB1.size)
  obtain ⟨p2, c2, rfl, hR2, q1, q2, q3, q4⟩ := hO2.re
  rw [hn]
  clear q1 q2 q3 q4 hO2 hb2
  go_wp2_with fail
  refine (from_any p2 n c2 za w2 hn (by omega) hR2).mono ?_
  rintro e w3 hF
  obtain ⟨hb3, v3, X, er, rfl, hO3, hX1, hX2, hX3, hX4⟩ := hF.out
  have hB3 := hB2.trans (hb3.mono hB2.size)
  obtain ⟨a1, n1, c1, rfl, hS1⟩ := SetIn.of hO3 hX1 hX2 (by omega)
  clear hF hO3 hb3 hR2 hX1 hX2
  have hB3' := hB3.alloc hB3.size (.cells #[.slice a1 n1 c1] 26)
  go_wp2_with fail
  generalize hsb : w3.heap.size = b1 at *
  generalize w3.alloc (.cells #[.slice a1 n1 c1] 26) = w4 at *
  clear hsb
  refine (own_any a' n' c' zb w4 hn' (by omega) (hR'.below hB3')).mono ?_
  rintro e w5 ⟨hb5, v5, rfl, hO5⟩
  have hB5 := hB3'.trans (hb5.mono hB3'.size)
  have hS1' := hS1.below hb5
  obtain ⟨p5, c5, rfl, hR5, q1, q2, q3, q4⟩ := hO5.re
  rw [hn']
  clear q1 q2 q3 q4 hO5 hb5 hS1
  go_wp2_with fail
  refine (from_any p5 n' c5 zb w5 hn' (by omega) hR5).mono ?_
  rintro e w6 hF
  obtain ⟨hb6, v6, Y, er', rfl, hO6, hY1, hY2, hY3, hY4⟩ := hF.out
  have hB6 := hB5.trans (hb6.mono hB5.size)
  have hS16 := hS1'.below hb6
  obtain ⟨a2, n2, c2', rfl, hS2⟩ := SetIn.of hO6 hY1 hY2 (by omega)
  have hba : Below w6.heap.size w6 (w6.alloc (.cells #[.slice a2 n2 c2'] 26)) := (Below.refl _ _).alloc (Nat.le_refl _) _
  have hS17 := hS16.below hba
  have hB7 := hB6.trans (hba.mono hB6.size)
  clear hF hO6 hb6 hR5 hY1 hY2 hS1' hS16 hba
  have hXl : X.length ≤ 60 := by omega
  have hYl : Y.length ≤ 60 := by omega
  have hcX := hS17.box.cell
  have hcY := hS2.box.cell
  rcases hX4 with ⟨rfl, _, hXe⟩ | ⟨rfl, hXe, _⟩
  case inr => exact absurd hva hXe
  rcases hY4 with ⟨rfl, _, hYe⟩ | ⟨rfl, hYe, _⟩
  case inr => exact absurd hvb hYe
  have hpX : memB x X = false := by rw [hXe]; exact hp
  have hqY : memB x Y = false := by rw [hYe]; exact hq
  clear hXe hYe hp hq
  go_wp2_with fail
  generalize hsb : w6.heap.size = b2 at *
  generalize w6.alloc (.cells #[.slice a2 n2 c2'] 26) = u0 at *
  clear hsb hcX hcY
  have hX0 := hS17
  have hY0 := hS2
  have hU0 := hB7
  clear hS17 hS2 hB7 hX3 hY3 hR hR' hM hT hB1 hB2 hB3 hB3' hB5 hB6
  refine (union_in hX0 hY0).mono ?_
  rintro e v0 ⟨hb, vv, O, rfl, hO, hn1, hn2, hmO, hl⟩
  have hOl : O.length ≤ 240 := by omega
  obtain ⟨aO, nO, cO, rfl, hO1⟩ := SetIn.of hO hn1 hn2 (by omega)
  have hba : Below v0.heap.size v0 (v0.alloc (.cells #[.slice aO nO cO] 26)) := (Below.refl _ _).alloc (Nat.le_refl _) _
  have hX1 := (hX0.below hb).below hba
  have hY1 := (hY0.below hb).below hba
  have hU1 := (hU0.trans (hb.mono hU0.size)).trans (hba.mono (hU0.trans (hb.mono hU0.size)).size)
  clear hb hba hO hn1 hn2 hl hU0 hX0 hY0
  have qX := hX1.box.cell
  have qY := hY1.box.cell
  go_wp2_with fail
  generalize hsb : v0.heap.size = bO at *
  generalize v0.alloc (.cells #[.slice aO nO cO] 26) = u1 at *
  clear hsb qX qY
  refine (inter_in hX1 hY1).mono ?_
  rintro e v1 ⟨hb, vv, A, rfl, hO, hn1, hn2, hmA, hl⟩
  have hAl : A.length ≤ 240 := by omega
  obtain ⟨aA, nA, cA, rfl, hA2⟩ := SetIn.of hO hn1 hn2 (by omega)
  have hba : Below v1.heap.size v1 (v1.alloc (.cells #[.slice aA nA cA] 26)) := (Below.refl _ _).alloc (Nat.le_refl _) _
  have hX2 := (hX1.below hb).below hba
  have hY2 := (hY1.below hb).below hba
  have hO2 := (hO1.below hb).below hba
  have hU2 := (hU1.trans (hb.mono hU1.size)).trans (hba.mono (hU1.trans (hb.mono hU1.size)).size)
  clear hb hba hO hn1 hn2 hl hU1 hX1 hY1 hO1
  have qX := hX2.box.cell
  have qY := hY2.box.cell
  go_wp2_with fail
  generalize hsb : v1.heap.size = bA at *
  generalize v1.alloc (.cells #[.slice aA nA cA] 26) = u2 at *
  clear hsb qX qY
  refine (diff_in hX2 hY2).mono ?_
  rintro e v2 ⟨hb, vv, D, rfl, hO, hn1, hn2, hmD, hl⟩
  have hDl : D.length ≤ 240 := by omega
  obtain ⟨aD, nD, cD, rfl, hD3⟩ := SetIn.of hO hn1 hn2 (by omega)
  have hba : Below v2.heap.size v2 (v2.alloc (.cells #[.slice aD nD cD] 26)) := (Below.refl _ _).alloc (Nat.le_refl _) _
  have hX3 := (hX2.below hb).below hba
  have hY3 := (hY2.below hb).below hba
  have hO3 := (hO2.below hb).below hba
  have hA3 := (hA2.below hb).below hba
  have hU3 := (hU2.trans (hb.mono hU2.size)).trans (hba.mono (hU2.trans (hb.mono hU2.size)).size)
  clear hb hba hO hn1 hn2 hl hU2 hX2 hY2 hO2 hA2
  have qD := hD3.box.cell
  have qA := hA3.box.cell
  go_wp2_with fail
  generalize hsb : v2.heap.size = bD at *
  generalize v2.alloc (.cells #[.slice aD nD cD] 26) = u3 at *
  clear hsb qD qA
  refine (union_in hD3 hA3).mono ?_
  rintro e v3 ⟨hb, vv, G, rfl, hO, hn1, hn2, hmG, hl⟩
  have hGl : G.length ≤ 960 := by omega
  obtain ⟨aG, nG, cG, rfl, hG4⟩ := SetIn.of hO hn1 hn2 (by omega)
  have hba : Below v3.heap.size v3 (v3.alloc (.cells #[.slice aG nG cG] 26)) := (Below.refl _ _).alloc (Nat.le_refl _) _
  have hX4 := (hX3.below hb).below hba
  have hY4 := (hY3.below hb).below hba
  have hO4 := (hO3.below hb).below hba
  have hA4 := (hA3.below hb).below hba
  have hD4 := (hD3.below hb).below hba
  have hU4 := (hU3.trans (hb.mono hU3.size)).trans (hba.mono (hU3.trans (hb.mono hU3.size)).size)
  clear hb hba hO hn1 hn2 hl hU3 hX3 hY3 hO3 hA3 hD3
  have qY := hY4.box.cell
  have qX := hX4.box.cell
  go_wp2_with fail
  generalize hsb : v3.heap.size = bG at *
  generalize v3.alloc (.cells #[.slice aG nG cG] 26) = u4 at *
  clear hsb qY qX
  refine (union_in hY4 hX4).mono ?_
  rintro e v4 ⟨hb, vv, K, rfl, hO, hn1, hn2, hmK, hl⟩
  have hKl : K.length ≤ 240 := by omega
  obtain ⟨aK, nK, cK, rfl, hK5⟩ := SetIn.of hO hn1 hn2 (by omega)
  have hba : Below v4.heap.size v4 (v4.alloc (.cells #[.slice aK nK cK] 26)) := (Below.refl _ _).alloc (Nat.le_refl _) _
  have hX5 := (hX4.below hb).below hba
  have hY5 := (hY4.below hb).below hba
  have hO5 := (hO4.below hb).below hba
  have hA5 := (hA4.below hb).below hba
  have hD5 := (hD4.below hb).below hba
  have hG5 := (hG4.below hb).below hba
  have hU5 := (hU4.trans (hb.mono hU4.size)).trans (hba.mono (hU4.trans (hb.mono hU4.size)).size)
  clear hb hba hO hn1 hn2 hl hU4 hX4 hY4 hO4 hA4 hD4 hG4
  have qO := hO5.box.cell
  go_wp2_with fail
  generalize hsb : v4.heap.size = bK at *
  generalize v4.alloc (.cells #[.slice aK nK cK] 26) = u5 at *
  clear hsb qO
  have hcnt := countL_or_and hX5.norm hY5.norm hO5.norm hA5.norm hX5.valid hY5.valid hO5.valid hA5.valid hmO hmA
  have hGX : G = X := Norm.unique hG5.norm hX5.norm fun m => by
    rw [hmG, hmD, hmA]; unfold keepU keepD keepI; cases memB m X <;> cases memB m Y <;> rfl
  have hKO : K = O := Norm.unique hK5.norm hO5.norm fun m => by
    rw [hmK, hmO]; unfold keepU; cases memB m X <;> cases memB m Y <;> rfl
  have fX : ∀ W, Below u5.heap.size u5 W → GivesB Tryz.prog 25 #[.agg #[.slice a1 n1 c1], .int .i64 x] (.bool (memB x X)) W := fun W hb => has_in (hX5.below hb) x
  have fY : ∀ W, Below u5.heap.size u5 W → GivesB Tryz.prog 25 #[.agg #[.slice a2 n2 c2'], .int .i64 x] (.bool (memB x Y)) W := fun W hb => has_in (hY5.below hb) x
  have fO : ∀ W, Below u5.heap.size u5 W → GivesB Tryz.prog 25 #[.agg #[.slice aO nO cO], .int .i64 x] (.bool (keepU (memB x X) (memB x Y))) W := fun W hb => by rw [← hmO]; exact has_in (hO5.below hb) x
  have fA : ∀ W, Below u5.heap.size u5 W → GivesB Tryz.prog 25 #[.agg #[.slice aA nA cA], .int .i64 x] (.bool (keepI (memB x X) (memB x Y))) W := fun W hb => by rw [← hmA]; exact has_in (hA5.below hb) x
  have fD : ∀ W, Below u5.heap.size u5 W → GivesB Tryz.prog 25 #[.agg #[.slice aD nD cD], .int .i64 x] (.bool (keepD (memB x X) (memB x Y))) W := fun W hb => by rw [← hmD]; exact has_in (hD5.below hb) x
  have gG : ∀ W, Below u5.heap.size u5 W → GivesB Tryz.prog 26 #[.agg #[.slice aG nG cG], .agg #[.slice a1 n1 c1]] (.bool true) W := fun W hb => by
    have h := equal_in (hG5.below hb) (hX5.below hb); rwa [decide_eq_true hGX] at h
  have gK : ∀ W, Below u5.heap.size u5 W → GivesB Tryz.prog 26 #[.agg #[.slice aK nK cK], .agg #[.slice aO nO cO]] (.bool true) W := fun W hb => by
    have h := equal_in (hK5.below hb) (hO5.below hb); rwa [decide_eq_true hKO] at h
  have cO' : ∀ W, Below u5.heap.size u5 W → GivesB Tryz.prog 27 #[.agg #[.slice aO nO cO]] (.int .i64 (countL O)) W := fun W hb => count_in (hO5.below hb)
  have cA' : ∀ W, Below u5.heap.size u5 W → GivesB Tryz.prog 27 #[.agg #[.slice aA nA cA]] (.int .i64 (countL A)) W := fun W hb => count_in (hA5.below hb)
  have cX' : ∀ W, Below u5.heap.size u5 W → GivesB Tryz.prog 27 #[.agg #[.slice a1 n1 c1]] (.int .i64 (countL X)) W := fun W hb => count_in (hX5.below hb)
  have cY' : ∀ W, Below u5.heap.size u5 W → GivesB Tryz.prog 27 #[.agg #[.slice a2 n2 c2']] (.int .i64 (countL Y)) W := fun W hb => count_in (hY5.below hb)
  have bO1 := countL_bound hO5.valid
  have bA1 := countL_bound hA5.valid
  have bX1 := countL_bound hX5.valid
  have bY1 := countL_bound hY5.valid
  generalize countL O = kO at *
  generalize countL A = kA at *
  generalize countL X = kX at *
  generalize countL Y = kY at *
  have LO : (O.length : Int) ≤ 240 := by omega
  have LA : (A.length : Int) ≤ 240 := by omega
  have LX : (X.length : Int) ≤ 60 := by omega
  have LY : (Y.length : Int) ≤ 60 := by omega
  have wO : 0 ≤ kO ∧ kO ≤ 263882790666240 := by omega
  have wA : 0 ≤ kA ∧ kA ≤ 263882790666240 := by omega
  have wX : 0 ≤ kX ∧ kX ≤ 263882790666240 := by omega
  have wY : 0 ≤ kY ∧ kY ≤ 263882790666240 := by omega
  have wr1 : IntKind.i64.wrap (kO + kA) = kO + kA := IntWalk.i64_in _ (by omega)
  have wr2 : IntKind.i64.wrap (kX + kY) = kO + kA := by rw [← hcnt]; exact wr1
  clear bO1 bA1 bX1 bY1 LO LA LX LY hcnt
  have cell : ∀ W, Below u5.heap.size u5 W → W.cell? ⟨b1, 0, none⟩ = some (.slice a1 n1 c1) ∧ W.cell? ⟨b2, 0, none⟩ = some (.slice a2 n2 c2') ∧ W.cell? ⟨bO, 0, none⟩ = some (.slice aO nO cO) ∧ W.cell? ⟨bA, 0, none⟩ = some (.slice aA nA cA) ∧ W.cell? ⟨bD, 0, none⟩ = some (.slice aD nD cD) ∧ W.cell? ⟨bG, 0, none⟩ = some (.slice aG nG cG) ∧ W.cell? ⟨bK, 0, none⟩ = some (.slice aK nK cK) :=
    fun W hb => ⟨(hX5.below hb).box.cell, (hY5.below hb).box.cell, (hO5.below hb).box.cell, (hA5.below hb).box.cell, (hD5.below hb).box.cell, (hG5.below hb).box.cell, (hK5.below hb).box.cell⟩
  clear hX5 hY5 hO5 hA5 hD5 hG5 hK5 hmO hmA hmD hmG hmK hGX hKO
  rw [hpX] at fX fO fA fD
  rw [hqY] at fY fO fA fD
  clear hpX hqY
  have hz : Below u5.heap.size u5 u5 := Below.refl _ _
  obtain ⟨k1, k2, k3, k4, k5, k6, k7⟩ := cell u5 hz
  have fO : ∀ W, Below u5.heap.size u5 W → GivesB Tryz.prog 25 #[.agg #[.slice aO nO cO], .int .i64 x] (.bool false) W := fO
  have fA : ∀ W, Below u5.heap.size u5 W → GivesB Tryz.prog 25 #[.agg #[.slice aA nA cA], .int .i64 x] (.bool false) W := fA
  have fD : ∀ W, Below u5.heap.size u5 W → GivesB Tryz.prog 25 #[.agg #[.slice aD nD cD], .int .i64 x] (.bool false) W := fD
  unfold GivesB at fO fX fA fY fD gG gK cO' cA' cX' cY'
  dsimp only [List.append]
  refine wp_region_held_drew (S := fun W => Below u5.heap.size u5 W ∧ W.cell? ⟨b1, 0, none⟩ = some (.slice a1 n1 c1) ∧ W.cell? ⟨b2, 0, none⟩ = some (.slice a2 n2 c2') ∧ W.cell? ⟨bO, 0, none⟩ = some (.slice aO nO cO) ∧ W.cell? ⟨bA, 0, none⟩ = some (.slice aA nA cA) ∧ W.cell? ⟨bD, 0, none⟩ = some (.slice aD nD cD) ∧ W.cell? ⟨bG, 0, none⟩ = some (.slice aG nG cG) ∧ W.cell? ⟨bK, 0, none⟩ = some (.slice aK nK cK)) (by kernel_rfl) ⟨Go.below_drewN hz 1, k1, k2, k3, k4, k5, k6, k7⟩ (fun hh0 => ?_)
  clear k1 k2 k3 k4 k5 k6 k7 hz
  refine take_op (i := 0) (d := some 82) (v := ?_) (by kernel_rfl) (by kernel_rfl) (by kernel_rfl) (by kernel_rfl) (fun _ _ _ h => h) (fun o ho => ?_) hh0 ?_
  rotate_left
  · simp only [List.getElem?_toArray, List.getElem?_cons_succ, List.getElem?_cons_zero, Option.some.injEq] at ho; subst ho; refine Or.inl ⟨by rfl, fun w hSw => ?_⟩; obtain ⟨hSb, k1, k2, k3, k4, k5, k6, k7⟩ := hSw; go_simp; all_goals with_reducible rfl
  try simp only [Act.put, List.setIfInBounds_toArray, List.set_cons_zero, List.set_cons_succ]
  refine take_op (i := 1) (d := some 83) (v := ?_) (by kernel_rfl) (by kernel_rfl) (by kernel_rfl) (by kernel_rfl) (fun _ _ _ h => h) (fun o ho => ?_) hh0 ?_
  rotate_left
  · simp only [List.getElem?_toArray, List.getElem?_cons_succ, List.getElem?_cons_zero, Option.some.injEq] at ho; subst ho; refine Or.inl ⟨by rfl, fun w hSw => ?_⟩; obtain ⟨hSb, k1, k2, k3, k4, k5, k6, k7⟩ := hSw; go_simp; all_goals with_reducible rfl
  try simp only [Act.put, List.setIfInBounds_toArray, List.set_cons_zero, List.set_cons_succ]
  refine take_op (i := 3) (d := some 85) (v := ?_) (by kernel_rfl) (by kernel_rfl) (by kernel_rfl) (by kernel_rfl) (fun _ _ _ h => h) (fun o ho => ?_) hh0 ?_
  rotate_left
  · simp only [List.getElem?_toArray, List.getElem?_cons_succ, List.getElem?_cons_zero, Option.some.injEq] at ho; subst ho; refine Or.inl ⟨by rfl, fun w hSw => ?_⟩; obtain ⟨hSb, k1, k2, k3, k4, k5, k6, k7⟩ := hSw; go_simp; all_goals with_reducible rfl
  try simp only [Act.put, List.setIfInBounds_toArray, List.set_cons_zero, List.set_cons_succ]
  refine take_op (i := 4) (d := some 86) (v := ?_) (by kernel_rfl) (by kernel_rfl) (by kernel_rfl) (by kernel_rfl) (fun _ _ _ h => h) (fun o ho => ?_) hh0 ?_
  rotate_left
  · simp only [List.getElem?_toArray, List.getElem?_cons_succ, List.getElem?_cons_zero, Option.some.injEq] at ho; subst ho; refine Or.inl ⟨by rfl, fun w hSw => ?_⟩; obtain ⟨hSb, k1, k2, k3, k4, k5, k6, k7⟩ := hSw; go_simp; all_goals with_reducible rfl
  try simp only [Act.put, List.setIfInBounds_toArray, List.set_cons_zero, List.set_cons_succ]
  refine wpAnyH_ready (rs := [2]) (by kernel_rfl) (by simp) (one_op (d := some 84) (by kernel_rfl) fun o ho K hK => ?_)
  simp only [List.getElem?_toArray, List.getElem?_cons_succ, List.getElem?_cons_zero, Option.some.injEq] at ho
  subst ho
  go_simp
  refine (fO _ hh0.1).mono ?_
  rintro e y1 ⟨rfl, hb⟩
  go_wp2_with fail
  have hy1 := hh0.1.trans (hb.mono hh0.1.size)
  have hh1 : Below u5.heap.size u5 y1 ∧ _ := ⟨hy1, cell y1 hy1⟩
  refine hK.out _ _ hh1 (fun _ => ?_)
  clear hK K hb hy1 hh0
  try simp only [Act.put, List.setIfInBounds_toArray, List.set_cons_zero, List.set_cons_succ]
  refine wpAnyH_ready (rs := [5]) (by kernel_rfl) (by simp) (one_op (d := some 87) (by kernel_rfl) fun o ho K hK => ?_)
  simp only [List.getElem?_toArray, List.getElem?_cons_succ, List.getElem?_cons_zero, Option.some.injEq] at ho
  subst ho
  go_simp
  refine (fX _ hh1.1).mono ?_
  rintro e y2 ⟨rfl, hb⟩
  go_wp2_with fail
  have hy2 := hh1.1.trans (hb.mono hh1.1.size)
  have hh2 : Below u5.heap.size u5 y2 ∧ _ := ⟨hy2, cell y2 hy2⟩
  refine hK.out _ _ hh2 (fun _ => ?_)
  clear hK K hb hy2 hh1
  try simp only [Act.put, List.setIfInBounds_toArray, List.set_cons_zero, List.set_cons_succ]
  refine take_op (i := 6) (d := some 88) (v := ?_) (by kernel_rfl) (by kernel_rfl) (by kernel_rfl) (by kernel_rfl) (fun _ _ _ h => h) (fun o ho => ?_) hh2 ?_
  rotate_left
  · simp only [List.getElem?_toArray, List.getElem?_cons_succ, List.getElem?_cons_zero, Option.some.injEq] at ho; subst ho; refine Or.inl ⟨by rfl, fun w hSw => ?_⟩; obtain ⟨hSb, k1, k2, k3, k4, k5, k6, k7⟩ := hSw; go_simp; all_goals with_reducible rfl
  try simp only [Act.put, List.setIfInBounds_toArray, List.set_cons_zero, List.set_cons_succ]
  refine take_op (i := 7) (d := some 89) (v := ?_) (by kernel_rfl) (by kernel_rfl) (by kernel_rfl) (by kernel_rfl) (fun _ _ _ h => h) (fun o ho => ?_) hh2 ?_
  rotate_left
  · simp only [List.getElem?_toArray, List.getElem?_cons_succ, List.getElem?_cons_zero, Option.some.injEq] at ho; subst ho; refine Or.inl ⟨by rfl, fun w hSw => ?_⟩; obtain ⟨hSb, k1, k2, k3, k4, k5, k6, k7⟩ := hSw; go_simp; all_goals with_reducible rfl
  try simp only [Act.put, List.setIfInBounds_toArray, List.set_cons_zero, List.set_cons_succ]
  refine take_op (i := 8) (d := some 90) (v := ?_) (by kernel_rfl) (by kernel_rfl) (by kernel_rfl) (by kernel_rfl) (fun _ _ _ h => h) (fun o ho => ?_) hh2 ?_
  rotate_left
  · simp only [List.getElem?_toArray, List.getElem?_cons_succ, List.getElem?_cons_zero, Option.some.injEq] at ho; subst ho; refine Or.inl ⟨by rfl, fun w hSw => ?_⟩; obtain ⟨hSb, k1, k2, k3, k4, k5, k6, k7⟩ := hSw; go_simp; all_goals with_reducible rfl
  try simp only [Act.put, List.setIfInBounds_toArray, List.set_cons_zero, List.set_cons_succ]
  refine wpAnyH_ready (rs := [9]) (by kernel_rfl) (by simp) (one_op (d := some 91) (by kernel_rfl) fun o ho K hK => ?_)
  simp only [List.getElem?_toArray, List.getElem?_cons_succ, List.getElem?_cons_zero, Option.some.injEq] at ho
  subst ho
  go_simp
  refine (fY _ hh2.1).mono ?_
  rintro e y3 ⟨rfl, hb⟩
  go_wp2_with fail
  have hy3 := hh2.1.trans (hb.mono hh2.1.size)
  have hh3 : Below u5.heap.size u5 y3 ∧ _ := ⟨hy3, cell y3 hy3⟩
  refine hK.out _ _ hh3 (fun _ => ?_)
  clear hK K hb hy3 hh2
  try simp only [Act.put, List.setIfInBounds_toArray, List.set_cons_zero, List.set_cons_succ]
  refine take_op (i := 10) (d := some 92) (v := ?_) (by kernel_rfl) (by kernel_rfl) (by kernel_rfl) (by kernel_rfl) (fun _ _ _ h => h) (fun o ho => ?_) hh3 ?_
  rotate_left
  · simp only [List.getElem?_toArray, List.getElem?_cons_succ, List.getElem?_cons_zero, Option.some.injEq] at ho; subst ho; refine Or.inl ⟨by rfl, fun w hSw => ?_⟩; obtain ⟨hSb, k1, k2, k3, k4, k5, k6, k7⟩ := hSw; go_simp; all_goals with_reducible rfl
  try simp only [Act.put, List.setIfInBounds_toArray, List.set_cons_zero, List.set_cons_succ]
  refine take_op (i := 11) (d := some 93) (v := ?_) (by kernel_rfl) (by kernel_rfl) (by kernel_rfl) (by kernel_rfl) (fun _ _ _ h => h) (fun o ho => ?_) hh3 ?_
  rotate_left
  · simp only [List.getElem?_toArray, List.getElem?_cons_succ, List.getElem?_cons_zero, Option.some.injEq] at ho; subst ho; refine Or.inl ⟨by rfl, fun w hSw => ?_⟩; obtain ⟨hSb, k1, k2, k3, k4, k5, k6, k7⟩ := hSw; go_simp; all_goals with_reducible rfl
  try simp only [Act.put, List.setIfInBounds_toArray, List.set_cons_zero, List.set_cons_succ]
  refine take_op (i := 12) (d := some 94) (v := ?_) (by kernel_rfl) (by kernel_rfl) (by kernel_rfl) (by kernel_rfl) (fun _ _ _ h => h) (fun o ho => ?_) hh3 ?_
  rotate_left
  · simp only [List.getElem?_toArray, List.getElem?_cons_succ, List.getElem?_cons_zero, Option.some.injEq] at ho; subst ho; refine Or.inl ⟨by rfl, fun w hSw => ?_⟩; obtain ⟨hSb, k1, k2, k3, k4, k5, k6, k7⟩ := hSw; go_simp; all_goals with_reducible rfl
  try simp only [Act.put, List.setIfInBounds_toArray, List.set_cons_zero, List.set_cons_succ]
  refine take_op (i := 13) (d := some 95) (v := ?_) (by kernel_rfl) (by kernel_rfl) (by kernel_rfl) (by kernel_rfl) (fun _ _ _ h => h) (fun o ho => ?_) hh3 ?_
  rotate_left
  · simp only [List.getElem?_toArray, List.getElem?_cons_succ, List.getElem?_cons_zero, Option.some.injEq] at ho; subst ho; refine Or.inl ⟨by rfl, fun w hSw => ?_⟩; obtain ⟨hSb, k1, k2, k3, k4, k5, k6, k7⟩ := hSw; go_simp; all_goals with_reducible rfl
  try simp only [Act.put, List.setIfInBounds_toArray, List.set_cons_zero, List.set_cons_succ]
  refine take_op (i := 14) (d := some 96) (v := ?_) (by kernel_rfl) (by kernel_rfl) (by kernel_rfl) (by kernel_rfl) (fun _ _ _ h => h) (fun o ho => ?_) hh3 ?_
  rotate_left
  · simp only [List.getElem?_toArray, List.getElem?_cons_succ, List.getElem?_cons_zero, Option.some.injEq] at ho; subst ho; refine Or.inl ⟨by rfl, fun w hSw => ?_⟩; obtain ⟨hSb, k1, k2, k3, k4, k5, k6, k7⟩ := hSw; go_simp; all_goals with_reducible rfl
  try simp only [Act.put, List.setIfInBounds_toArray, List.set_cons_zero, List.set_cons_succ]
  refine take_op (i := 16) (d := some 98) (v := ?_) (by kernel_rfl) (by kernel_rfl) (by kernel_rfl) (by kernel_rfl) (fun _ _ _ h => h) (fun o ho => ?_) hh3 ?_
  rotate_left
  · simp only [List.getElem?_toArray, List.getElem?_cons_succ, List.getElem?_cons_zero, Option.some.injEq] at ho; subst ho; refine Or.inl ⟨by rfl, fun w hSw => ?_⟩; obtain ⟨hSb, k1, k2, k3, k4, k5, k6, k7⟩ := hSw; go_simp; all_goals with_reducible rfl
  try simp only [Act.put, List.setIfInBounds_toArray, List.set_cons_zero, List.set_cons_succ]
  refine take_op (i := 17) (d := some 99) (v := ?_) (by kernel_rfl) (by kernel_rfl) (by kernel_rfl) (by kernel_rfl) (fun _ _ _ h => h) (fun o ho => ?_) hh3 ?_
  rotate_left
  · simp only [List.getElem?_toArray, List.getElem?_cons_succ, List.getElem?_cons_zero, Option.some.injEq] at ho; subst ho; refine Or.inl ⟨by rfl, fun w hSw => ?_⟩; obtain ⟨hSb, k1, k2, k3, k4, k5, k6, k7⟩ := hSw; go_simp; all_goals with_reducible rfl
  try simp only [Act.put, List.setIfInBounds_toArray, List.set_cons_zero, List.set_cons_succ]
  refine wpAnyH_ready (rs := [15]) (by kernel_rfl) (by simp) (one_op (d := some 97) (by kernel_rfl) fun o ho K hK => ?_)
  simp only [List.getElem?_toArray, List.getElem?_cons_succ, List.getElem?_cons_zero, Option.some.injEq] at ho
  subst ho
  go_simp
  refine (fA _ hh3.1).mono ?_
  rintro e y4 ⟨rfl, hb⟩
  go_wp2_with fail
  have hy4 := hh3.1.trans (hb.mono hh3.1.size)
  have hh4 : Below u5.heap.size u5 y4 ∧ _ := ⟨hy4, cell y4 hy4⟩
  refine hK.out _ _ hh4 (fun _ => ?_)
  clear hK K hb hy4 hh3
  try simp only [Act.put, List.setIfInBounds_toArray, List.set_cons_zero, List.set_cons_succ]
  refine wpAnyH_ready (rs := [18]) (by kernel_rfl) (by simp) (one_op (d := some 100) (by kernel_rfl) fun o ho K hK => ?_)
  simp only [List.getElem?_toArray, List.getElem?_cons_succ, List.getElem?_cons_zero, Option.some.injEq] at ho
  subst ho
  go_simp
  refine (fX _ hh4.1).mono ?_
  rintro e y5 ⟨rfl, hb⟩
  go_wp2_with fail
  have hy5 := hh4.1.trans (hb.mono hh4.1.size)
  have hh5 : Below u5.heap.size u5 y5 ∧ _ := ⟨hy5, cell y5 hy5⟩
  refine hK.out _ _ hh5 (fun _ => ?_)
  clear hK K hb hy5 hh4
  try simp only [Act.put, List.setIfInBounds_toArray, List.set_cons_zero, List.set_cons_succ]
  refine take_op (i := 19) (d := some 101) (v := ?_) (by kernel_rfl) (by kernel_rfl) (by kernel_rfl) (by kernel_rfl) (fun _ _ _ h => h) (fun o ho => ?_) hh5 ?_
  rotate_left
  · simp only [List.getElem?_toArray, List.getElem?_cons_succ, List.getElem?_cons_zero, Option.some.injEq] at ho; subst ho; refine Or.inl ⟨by rfl, fun w hSw => ?_⟩; obtain ⟨hSb, k1, k2, k3, k4, k5, k6, k7⟩ := hSw; go_simp; all_goals with_reducible rfl
  try simp only [Act.put, List.setIfInBounds_toArray, List.set_cons_zero, List.set_cons_succ]
  refine take_op (i := 20) (d := some 102) (v := undef) (by kernel_rfl) (by kernel_rfl) (by kernel_rfl) (by kernel_rfl) (fun _ _ _ h => h) (fun o ho => ?_) hh5 ?_
  · simp only [List.getElem?_toArray, List.getElem?_cons_succ, List.getElem?_cons_zero, Option.some.injEq] at ho; subst ho; exact Or.inr ⟨by rfl, rfl⟩
  try simp only [Act.put, List.setIfInBounds_toArray, List.set_cons_zero, List.set_cons_succ]
  refine take_op (i := 21) (d := some 103) (v := undef) (by kernel_rfl) (by kernel_rfl) (by kernel_rfl) (by kernel_rfl) (fun _ _ _ h => h) (fun o ho => ?_) hh5 ?_
  · simp only [List.getElem?_toArray, List.getElem?_cons_succ, List.getElem?_cons_zero, Option.some.injEq] at ho; subst ho; exact Or.inr ⟨by rfl, rfl⟩
  try simp only [Act.put, List.setIfInBounds_toArray, List.set_cons_zero, List.set_cons_succ]
  refine take_op (i := 22) (d := some 104) (v := undef) (by kernel_rfl) (by kernel_rfl) (by kernel_rfl) (by kernel_rfl) (fun _ _ _ h => h) (fun o ho => ?_) hh5 ?_
  · simp only [List.getElem?_toArray, List.getElem?_cons_succ, List.getElem?_cons_zero, Option.some.injEq] at ho; subst ho; exact Or.inr ⟨by rfl, rfl⟩
  try simp only [Act.put, List.setIfInBounds_toArray, List.set_cons_zero, List.set_cons_succ]
  refine take_op (i := 23) (d := some 105) (v := ?_) (by kernel_rfl) (by kernel_rfl) (by kernel_rfl) (by kernel_rfl) (fun _ _ _ h => h) (fun o ho => ?_) hh5 ?_
  rotate_left
  · simp only [List.getElem?_toArray, List.getElem?_cons_succ, List.getElem?_cons_zero, Option.some.injEq] at ho; subst ho; refine Or.inl ⟨by rfl, fun w hSw => ?_⟩; obtain ⟨hSb, k1, k2, k3, k4, k5, k6, k7⟩ := hSw; go_simp; all_goals with_reducible rfl
  try simp only [Act.put, List.setIfInBounds_toArray, List.set_cons_zero, List.set_cons_succ]
  refine take_op (i := 24) (d := some 106) (v := ?_) (by kernel_rfl) (by kernel_rfl) (by kernel_rfl) (by kernel_rfl) (fun _ _ _ h => h) (fun o ho => ?_) hh5 ?_
  rotate_left
  · simp only [List.getElem?_toArray, List.getElem?_cons_succ, List.getElem?_cons_zero, Option.some.injEq] at ho; subst ho; refine Or.inl ⟨by rfl, fun w hSw => ?_⟩; obtain ⟨hSb, k1, k2, k3, k4, k5, k6, k7⟩ := hSw; go_simp; all_goals with_reducible rfl
  try simp only [Act.put, List.setIfInBounds_toArray, List.set_cons_zero, List.set_cons_succ]
  refine take_op (i := 25) (d := some 107) (v := ?_) (by kernel_rfl) (by kernel_rfl) (by kernel_rfl) (by kernel_rfl) (fun _ _ _ h => h) (fun o ho => ?_) hh5 ?_
  rotate_left
  · simp only [List.getElem?_toArray, List.getElem?_cons_succ, List.getElem?_cons_zero, Option.some.injEq] at ho; subst ho; refine Or.inl ⟨by rfl, fun w hSw => ?_⟩; obtain ⟨hSb, k1, k2, k3, k4, k5, k6, k7⟩ := hSw; go_simp; all_goals with_reducible rfl
  try simp only [Act.put, List.setIfInBounds_toArray, List.set_cons_zero, List.set_cons_succ]
  refine take_op (i := 26) (d := some 108) (v := ?_) (by kernel_rfl) (by kernel_rfl) (by kernel_rfl) (by kernel_rfl) (fun _ _ _ h => h) (fun o ho => ?_) hh5 ?_
  rotate_left
  · simp only [List.getElem?_toArray, List.getElem?_cons_succ, List.getElem?_cons_zero, Option.some.injEq] at ho; subst ho; refine Or.inl ⟨by rfl, fun w hSw => ?_⟩; obtain ⟨hSb, k1, k2, k3, k4, k5, k6, k7⟩ := hSw; go_simp; all_goals with_reducible rfl
  try simp only [Act.put, List.setIfInBounds_toArray, List.set_cons_zero, List.set_cons_succ]
  refine take_op (i := 27) (d := some 109) (v := ?_) (by kernel_rfl) (by kernel_rfl) (by kernel_rfl) (by kernel_rfl) (fun _ _ _ h => h) (fun o ho => ?_) hh5 ?_
  rotate_left
  · simp only [List.getElem?_toArray, List.getElem?_cons_succ, List.getElem?_cons_zero, Option.some.injEq] at ho; subst ho; refine Or.inl ⟨by rfl, fun w hSw => ?_⟩; obtain ⟨hSb, k1, k2, k3, k4, k5, k6, k7⟩ := hSw; go_simp; all_goals with_reducible rfl
  try simp only [Act.put, List.setIfInBounds_toArray, List.set_cons_zero, List.set_cons_succ]
  refine take_op (i := 28) (d := some 110) (v := ?_) (by kernel_rfl) (by kernel_rfl) (by kernel_rfl) (by kernel_rfl) (fun _ _ _ h => h) (fun o ho => ?_) hh5 ?_
  rotate_left
  · simp only [List.getElem?_toArray, List.getElem?_cons_succ, List.getElem?_cons_zero, Option.some.injEq] at ho; subst ho; refine Or.inl ⟨by rfl, fun w hSw => ?_⟩; obtain ⟨hSb, k1, k2, k3, k4, k5, k6, k7⟩ := hSw; go_simp; all_goals with_reducible rfl
  try simp only [Act.put, List.setIfInBounds_toArray, List.set_cons_zero, List.set_cons_succ]
  refine take_op (i := 30) (d := some 112) (v := ?_) (by kernel_rfl) (by kernel_rfl) (by kernel_rfl) (by kernel_rfl) (fun _ _ _ h => h) (fun o ho => ?_) hh5 ?_
  rotate_left
  · simp only [List.getElem?_toArray, List.getElem?_cons_succ, List.getElem?_cons_zero, Option.some.injEq] at ho; subst ho; refine Or.inl ⟨by rfl, fun w hSw => ?_⟩; obtain ⟨hSb, k1, k2, k3, k4, k5, k6, k7⟩ := hSw; go_simp; all_goals with_reducible rfl
  try simp only [Act.put, List.setIfInBounds_toArray, List.set_cons_zero, List.set_cons_succ]
  refine take_op (i := 31) (d := some 113) (v := ?_) (by kernel_rfl) (by kernel_rfl) (by kernel_rfl) (by kernel_rfl) (fun _ _ _ h => h) (fun o ho => ?_) hh5 ?_
  rotate_left
  · simp only [List.getElem?_toArray, List.getElem?_cons_succ, List.getElem?_cons_zero, Option.some.injEq] at ho; subst ho; refine Or.inl ⟨by rfl, fun w hSw => ?_⟩; obtain ⟨hSb, k1, k2, k3, k4, k5, k6, k7⟩ := hSw; go_simp; all_goals with_reducible rfl
  try simp only [Act.put, List.setIfInBounds_toArray, List.set_cons_zero, List.set_cons_succ]
  refine wpAnyH_ready (rs := [29]) (by kernel_rfl) (by simp) (one_op (d := some 111) (by kernel_rfl) fun o ho K hK => ?_)
  simp only [List.getElem?_toArray, List.getElem?_cons_succ, List.getElem?_cons_zero, Option.some.injEq] at ho
  subst ho
  go_simp
  refine (fD _ hh5.1).mono ?_
  rintro e y6 ⟨rfl, hb⟩
  go_wp2_with fail
  have hy6 := hh5.1.trans (hb.mono hh5.1.size)
  have hh6 : Below u5.heap.size u5 y6 ∧ _ := ⟨hy6, cell y6 hy6⟩
  refine hK.out _ _ hh6 (fun _ => ?_)
  clear hK K hb hy6 hh5
  try simp only [Act.put, List.setIfInBounds_toArray, List.set_cons_zero, List.set_cons_succ]
  refine wpAnyH_ready (rs := [32]) (by kernel_rfl) (by simp) (one_op (d := some 114) (by kernel_rfl) fun o ho K hK => ?_)
  simp only [List.getElem?_toArray, List.getElem?_cons_succ, List.getElem?_cons_zero, Option.some.injEq] at ho
  subst ho
  go_simp
  refine (fX _ hh6.1).mono ?_
  rintro e y7 ⟨rfl, hb⟩
  go_wp2_with fail
  have hy7 := hh6.1.trans (hb.mono hh6.1.size)
  have hh7 : Below u5.heap.size u5 y7 ∧ _ := ⟨hy7, cell y7 hy7⟩
  refine hK.out _ _ hh7 (fun _ => ?_)
  clear hK K hb hy7 hh6
  try simp only [Act.put, List.setIfInBounds_toArray, List.set_cons_zero, List.set_cons_succ]
  refine take_op (i := 33) (d := some 115) (v := ?_) (by kernel_rfl) (by kernel_rfl) (by kernel_rfl) (by kernel_rfl) (fun _ _ _ h => h) (fun o ho => ?_) hh7 ?_
  rotate_left
  · simp only [List.getElem?_toArray, List.getElem?_cons_succ, List.getElem?_cons_zero, Option.some.injEq] at ho; subst ho; refine Or.inl ⟨by rfl, fun w hSw => ?_⟩; obtain ⟨hSb, k1, k2, k3, k4, k5, k6, k7⟩ := hSw; go_simp; all_goals with_reducible rfl
  try simp only [Act.put, List.setIfInBounds_toArray, List.set_cons_zero, List.set_cons_succ]
  refine take_op (i := 34) (d := some 116) (v := undef) (by kernel_rfl) (by kernel_rfl) (by kernel_rfl) (by kernel_rfl) (fun _ _ _ h => h) (fun o ho => ?_) hh7 ?_
  · simp only [List.getElem?_toArray, List.getElem?_cons_succ, List.getElem?_cons_zero, Option.some.injEq] at ho; subst ho; exact Or.inr ⟨by rfl, rfl⟩
  try simp only [Act.put, List.setIfInBounds_toArray, List.set_cons_zero, List.set_cons_succ]
  refine take_op (i := 35) (d := some 117) (v := undef) (by kernel_rfl) (by kernel_rfl) (by kernel_rfl) (by kernel_rfl) (fun _ _ _ h => h) (fun o ho => ?_) hh7 ?_
  · simp only [List.getElem?_toArray, List.getElem?_cons_succ, List.getElem?_cons_zero, Option.some.injEq] at ho; subst ho; exact Or.inr ⟨by rfl, rfl⟩
  try simp only [Act.put, List.setIfInBounds_toArray, List.set_cons_zero, List.set_cons_succ]
  refine take_op (i := 36) (d := some 118) (v := undef) (by kernel_rfl) (by kernel_rfl) (by kernel_rfl) (by kernel_rfl) (fun _ _ _ h => h) (fun o ho => ?_) hh7 ?_
  · simp only [List.getElem?_toArray, List.getElem?_cons_succ, List.getElem?_cons_zero, Option.some.injEq] at ho; subst ho; exact Or.inr ⟨by rfl, rfl⟩
  try simp only [Act.put, List.setIfInBounds_toArray, List.set_cons_zero, List.set_cons_succ]
  refine take_op (i := 37) (d := some 119) (v := undef) (by kernel_rfl) (by kernel_rfl) (by kernel_rfl) (by kernel_rfl) (fun _ _ _ h => h) (fun o ho => ?_) hh7 ?_
  · simp only [List.getElem?_toArray, List.getElem?_cons_succ, List.getElem?_cons_zero, Option.some.injEq] at ho; subst ho; exact Or.inr ⟨by rfl, rfl⟩
  try simp only [Act.put, List.setIfInBounds_toArray, List.set_cons_zero, List.set_cons_succ]
  refine take_op (i := 38) (d := some 120) (v := ?_) (by kernel_rfl) (by kernel_rfl) (by kernel_rfl) (by kernel_rfl) (fun _ _ _ h => h) (fun o ho => ?_) hh7 ?_
  rotate_left
  · simp only [List.getElem?_toArray, List.getElem?_cons_succ, List.getElem?_cons_zero, Option.some.injEq] at ho; subst ho; refine Or.inl ⟨by rfl, fun w hSw => ?_⟩; obtain ⟨hSb, k1, k2, k3, k4, k5, k6, k7⟩ := hSw; go_simp; all_goals with_reducible rfl
  try simp only [Act.put, List.setIfInBounds_toArray, List.set_cons_zero, List.set_cons_succ]
  refine take_op (i := 39) (d := some 121) (v := ?_) (by kernel_rfl) (by kernel_rfl) (by kernel_rfl) (by kernel_rfl) (fun _ _ _ h => h) (fun o ho => ?_) hh7 ?_
  rotate_left
  · simp only [List.getElem?_toArray, List.getElem?_cons_succ, List.getElem?_cons_zero, Option.some.injEq] at ho; subst ho; refine Or.inl ⟨by rfl, fun w hSw => ?_⟩; obtain ⟨hSb, k1, k2, k3, k4, k5, k6, k7⟩ := hSw; go_simp; all_goals with_reducible rfl
  try simp only [Act.put, List.setIfInBounds_toArray, List.set_cons_zero, List.set_cons_succ]
  refine take_op (i := 40) (d := some 122) (v := ?_) (by kernel_rfl) (by kernel_rfl) (by kernel_rfl) (by kernel_rfl) (fun _ _ _ h => h) (fun o ho => ?_) hh7 ?_
  rotate_left
  · simp only [List.getElem?_toArray, List.getElem?_cons_succ, List.getElem?_cons_zero, Option.some.injEq] at ho; subst ho; refine Or.inl ⟨by rfl, fun w hSw => ?_⟩; obtain ⟨hSb, k1, k2, k3, k4, k5, k6, k7⟩ := hSw; go_simp; all_goals with_reducible rfl
  try simp only [Act.put, List.setIfInBounds_toArray, List.set_cons_zero, List.set_cons_succ]
  refine take_op (i := 41) (d := some 123) (v := ?_) (by kernel_rfl) (by kernel_rfl) (by kernel_rfl) (by kernel_rfl) (fun _ _ _ h => h) (fun o ho => ?_) hh7 ?_
  rotate_left
  · simp only [List.getElem?_toArray, List.getElem?_cons_succ, List.getElem?_cons_zero, Option.some.injEq] at ho; subst ho; refine Or.inl ⟨by rfl, fun w hSw => ?_⟩; obtain ⟨hSb, k1, k2, k3, k4, k5, k6, k7⟩ := hSw; go_simp; all_goals with_reducible rfl
  try simp only [Act.put, List.setIfInBounds_toArray, List.set_cons_zero, List.set_cons_succ]
  refine take_op (i := 42) (d := some 124) (v := ?_) (by kernel_rfl) (by kernel_rfl) (by kernel_rfl) (by kernel_rfl) (fun _ _ _ h => h) (fun o ho => ?_) hh7 ?_
  rotate_left
  · simp only [List.getElem?_toArray, List.getElem?_cons_succ, List.getElem?_cons_zero, Option.some.injEq] at ho; subst ho; refine Or.inl ⟨by rfl, fun w hSw => ?_⟩; obtain ⟨hSb, k1, k2, k3, k4, k5, k6, k7⟩ := hSw; go_simp; all_goals with_reducible rfl
  try simp only [Act.put, List.setIfInBounds_toArray, List.set_cons_zero, List.set_cons_succ]
  refine take_op (i := 43) (d := some 125) (v := ?_) (by kernel_rfl) (by kernel_rfl) (by kernel_rfl) (by kernel_rfl) (fun _ _ _ h => h) (fun o ho => ?_) hh7 ?_
  rotate_left
  · simp only [List.getElem?_toArray, List.getElem?_cons_succ, List.getElem?_cons_zero, Option.some.injEq] at ho; subst ho; refine Or.inl ⟨by rfl, fun w hSw => ?_⟩; obtain ⟨hSb, k1, k2, k3, k4, k5, k6, k7⟩ := hSw; go_simp; all_goals with_reducible rfl
  try simp only [Act.put, List.setIfInBounds_toArray, List.set_cons_zero, List.set_cons_succ]
  refine wpAnyH_ready (rs := [44]) (by kernel_rfl) (by simp) (one_op (d := some 126) (by kernel_rfl) fun o ho K hK => ?_)
  simp only [List.getElem?_toArray, List.getElem?_cons_succ, List.getElem?_cons_zero, Option.some.injEq] at ho
  subst ho
  go_simp
  refine (gG _ hh7.1).mono ?_
  rintro e y8 ⟨rfl, hb⟩
  go_wp2_with fail
  have hy8 := hh7.1.trans (hb.mono hh7.1.size)
  have hh8 : Below u5.heap.size u5 y8 ∧ _ := ⟨hy8, cell y8 hy8⟩
  refine hK.out _ _ hh8 (fun _ => ?_)
  clear hK K hb hy8 hh7
  try simp only [Act.put, List.setIfInBounds_toArray, List.set_cons_zero, List.set_cons_succ]
  refine take_op (i := 45) (d := some 127) (v := ?_) (by kernel_rfl) (by kernel_rfl) (by kernel_rfl) (by kernel_rfl) (fun _ _ _ h => h) (fun o ho => ?_) hh8 ?_
  rotate_left
  · simp only [List.getElem?_toArray, List.getElem?_cons_succ, List.getElem?_cons_zero, Option.some.injEq] at ho; subst ho; refine Or.inl ⟨by rfl, fun w hSw => ?_⟩; obtain ⟨hSb, k1, k2, k3, k4, k5, k6, k7⟩ := hSw; go_simp; all_goals with_reducible rfl
  try simp only [Act.put, List.setIfInBounds_toArray, List.set_cons_zero, List.set_cons_succ]
  refine take_op (i := 46) (d := some 128) (v := ?_) (by kernel_rfl) (by kernel_rfl) (by kernel_rfl) (by kernel_rfl) (fun _ _ _ h => h) (fun o ho => ?_) hh8 ?_
  rotate_left
  · simp only [List.getElem?_toArray, List.getElem?_cons_succ, List.getElem?_cons_zero, Option.some.injEq] at ho; subst ho; refine Or.inl ⟨by rfl, fun w hSw => ?_⟩; obtain ⟨hSb, k1, k2, k3, k4, k5, k6, k7⟩ := hSw; go_simp; all_goals with_reducible rfl
  try simp only [Act.put, List.setIfInBounds_toArray, List.set_cons_zero, List.set_cons_succ]
  refine take_op (i := 47) (d := some 129) (v := ?_) (by kernel_rfl) (by kernel_rfl) (by kernel_rfl) (by kernel_rfl) (fun _ _ _ h => h) (fun o ho => ?_) hh8 ?_
  rotate_left
  · simp only [List.getElem?_toArray, List.getElem?_cons_succ, List.getElem?_cons_zero, Option.some.injEq] at ho; subst ho; refine Or.inl ⟨by rfl, fun w hSw => ?_⟩; obtain ⟨hSb, k1, k2, k3, k4, k5, k6, k7⟩ := hSw; go_simp; all_goals with_reducible rfl
  try simp only [Act.put, List.setIfInBounds_toArray, List.set_cons_zero, List.set_cons_succ]
  refine take_op (i := 48) (d := some 130) (v := ?_) (by kernel_rfl) (by kernel_rfl) (by kernel_rfl) (by kernel_rfl) (fun _ _ _ h => h) (fun o ho => ?_) hh8 ?_
  rotate_left
  · simp only [List.getElem?_toArray, List.getElem?_cons_succ, List.getElem?_cons_zero, Option.some.injEq] at ho; subst ho; refine Or.inl ⟨by rfl, fun w hSw => ?_⟩; obtain ⟨hSb, k1, k2, k3, k4, k5, k6, k7⟩ := hSw; go_simp; all_goals with_reducible rfl
  try simp only [Act.put, List.setIfInBounds_toArray, List.set_cons_zero, List.set_cons_succ]
  refine wpAnyH_ready (rs := [49]) (by kernel_rfl) (by simp) (one_op (d := some 131) (by kernel_rfl) fun o ho K hK => ?_)
  simp only [List.getElem?_toArray, List.getElem?_cons_succ, List.getElem?_cons_zero, Option.some.injEq] at ho
  subst ho
  go_simp
  refine (gK _ hh8.1).mono ?_
  rintro e y9 ⟨rfl, hb⟩
  go_wp2_with fail
  have hy9 := hh8.1.trans (hb.mono hh8.1.size)
  have hh9 : Below u5.heap.size u5 y9 ∧ _ := ⟨hy9, cell y9 hy9⟩
  refine hK.out _ _ hh9 (fun _ => ?_)
  clear hK K hb hy9 hh8
  try simp only [Act.put, List.setIfInBounds_toArray, List.set_cons_zero, List.set_cons_succ]
  refine take_op (i := 50) (d := some 132) (v := ?_) (by kernel_rfl) (by kernel_rfl) (by kernel_rfl) (by kernel_rfl) (fun _ _ _ h => h) (fun o ho => ?_) hh9 ?_
  rotate_left
  · simp only [List.getElem?_toArray, List.getElem?_cons_succ, List.getElem?_cons_zero, Option.some.injEq] at ho; subst ho; refine Or.inl ⟨by rfl, fun w hSw => ?_⟩; obtain ⟨hSb, k1, k2, k3, k4, k5, k6, k7⟩ := hSw; go_simp; all_goals with_reducible rfl
  try simp only [Act.put, List.setIfInBounds_toArray, List.set_cons_zero, List.set_cons_succ]
  refine take_op (i := 51) (d := some 133) (v := ?_) (by kernel_rfl) (by kernel_rfl) (by kernel_rfl) (by kernel_rfl) (fun _ _ _ h => h) (fun o ho => ?_) hh9 ?_
  rotate_left
  · simp only [List.getElem?_toArray, List.getElem?_cons_succ, List.getElem?_cons_zero, Option.some.injEq] at ho; subst ho; refine Or.inl ⟨by rfl, fun w hSw => ?_⟩; obtain ⟨hSb, k1, k2, k3, k4, k5, k6, k7⟩ := hSw; go_simp; all_goals with_reducible rfl
  try simp only [Act.put, List.setIfInBounds_toArray, List.set_cons_zero, List.set_cons_succ]
  refine take_op (i := 52) (d := some 134) (v := ?_) (by kernel_rfl) (by kernel_rfl) (by kernel_rfl) (by kernel_rfl) (fun _ _ _ h => h) (fun o ho => ?_) hh9 ?_
  rotate_left
  · simp only [List.getElem?_toArray, List.getElem?_cons_succ, List.getElem?_cons_zero, Option.some.injEq] at ho; subst ho; refine Or.inl ⟨by rfl, fun w hSw => ?_⟩; obtain ⟨hSb, k1, k2, k3, k4, k5, k6, k7⟩ := hSw; go_simp; all_goals with_reducible rfl
  try simp only [Act.put, List.setIfInBounds_toArray, List.set_cons_zero, List.set_cons_succ]
  refine take_op (i := 54) (d := some 136) (v := ?_) (by kernel_rfl) (by kernel_rfl) (by kernel_rfl) (by kernel_rfl) (fun _ _ _ h => h) (fun o ho => ?_) hh9 ?_
  rotate_left
  · simp only [List.getElem?_toArray, List.getElem?_cons_succ, List.getElem?_cons_zero, Option.some.injEq] at ho; subst ho; refine Or.inl ⟨by rfl, fun w hSw => ?_⟩; obtain ⟨hSb, k1, k2, k3, k4, k5, k6, k7⟩ := hSw; go_simp; all_goals with_reducible rfl
  try simp only [Act.put, List.setIfInBounds_toArray, List.set_cons_zero, List.set_cons_succ]
  refine take_op (i := 57) (d := some 139) (v := ?_) (by kernel_rfl) (by kernel_rfl) (by kernel_rfl) (by kernel_rfl) (fun _ _ _ h => h) (fun o ho => ?_) hh9 ?_
  rotate_left
  · simp only [List.getElem?_toArray, List.getElem?_cons_succ, List.getElem?_cons_zero, Option.some.injEq] at ho; subst ho; refine Or.inl ⟨by rfl, fun w hSw => ?_⟩; obtain ⟨hSb, k1, k2, k3, k4, k5, k6, k7⟩ := hSw; go_simp; all_goals with_reducible rfl
  try simp only [Act.put, List.setIfInBounds_toArray, List.set_cons_zero, List.set_cons_succ]
  refine take_op (i := 59) (d := some 141) (v := ?_) (by kernel_rfl) (by kernel_rfl) (by kernel_rfl) (by kernel_rfl) (fun _ _ _ h => h) (fun o ho => ?_) hh9 ?_
  rotate_left
  · simp only [List.getElem?_toArray, List.getElem?_cons_succ, List.getElem?_cons_zero, Option.some.injEq] at ho; subst ho; refine Or.inl ⟨by rfl, fun w hSw => ?_⟩; obtain ⟨hSb, k1, k2, k3, k4, k5, k6, k7⟩ := hSw; go_simp; all_goals with_reducible rfl
  try simp only [Act.put, List.setIfInBounds_toArray, List.set_cons_zero, List.set_cons_succ]
  refine wpAnyH_ready (rs := [53]) (by kernel_rfl) (by simp) (one_op (d := some 135) (by kernel_rfl) fun o ho K hK => ?_)
  simp only [List.getElem?_toArray, List.getElem?_cons_succ, List.getElem?_cons_zero, Option.some.injEq] at ho
  subst ho
  go_simp
  refine (cO' _ hh9.1).mono ?_
  rintro e y10 ⟨rfl, hb⟩
  go_wp2_with fail
  have hy10 := hh9.1.trans (hb.mono hh9.1.size)
  have hh10 : Below u5.heap.size u5 y10 ∧ _ := ⟨hy10, cell y10 hy10⟩
  refine hK.out _ _ hh10 (fun _ => ?_)
  clear hK K hb hy10 hh9
  try simp only [Act.put, List.setIfInBounds_toArray, List.set_cons_zero, List.set_cons_succ]
  refine wpAnyH_ready (rs := [55]) (by kernel_rfl) (by simp) (one_op (d := some 137) (by kernel_rfl) fun o ho K hK => ?_)
  simp only [List.getElem?_toArray, List.getElem?_cons_succ, List.getElem?_cons_zero, Option.some.injEq] at ho
  subst ho
  go_simp
  refine (cA' _ hh10.1).mono ?_
  rintro e y11 ⟨rfl, hb⟩
  go_wp2_with fail
  have hy11 := hh10.1.trans (hb.mono hh10.1.size)
  have hh11 : Below u5.heap.size u5 y11 ∧ _ := ⟨hy11, cell y11 hy11⟩
  refine hK.out _ _ hh11 (fun _ => ?_)
  clear hK K hb hy11 hh10
  try simp only [Act.put, List.setIfInBounds_toArray, List.set_cons_zero, List.set_cons_succ]
  refine take_op (i := 56) (d := some 138) (v := ?_) (by kernel_rfl) (by kernel_rfl) (by kernel_rfl) (by kernel_rfl) (fun _ _ _ h => h) (fun o ho => ?_) hh11 ?_
  rotate_left
  · simp only [List.getElem?_toArray, List.getElem?_cons_succ, List.getElem?_cons_zero, Option.some.injEq] at ho; subst ho; refine Or.inl ⟨by rfl, fun w hSw => ?_⟩; obtain ⟨hSb, k1, k2, k3, k4, k5, k6, k7⟩ := hSw; go_simp; all_goals with_reducible rfl
  try simp only [Act.put, List.setIfInBounds_toArray, List.set_cons_zero, List.set_cons_succ]
  refine wpAnyH_ready (rs := [58]) (by kernel_rfl) (by simp) (one_op (d := some 140) (by kernel_rfl) fun o ho K hK => ?_)
  simp only [List.getElem?_toArray, List.getElem?_cons_succ, List.getElem?_cons_zero, Option.some.injEq] at ho
  subst ho
  go_simp
  refine (cX' _ hh11.1).mono ?_
  rintro e y12 ⟨rfl, hb⟩
  go_wp2_with fail
  have hy12 := hh11.1.trans (hb.mono hh11.1.size)
  have hh12 : Below u5.heap.size u5 y12 ∧ _ := ⟨hy12, cell y12 hy12⟩
  refine hK.out _ _ hh12 (fun _ => ?_)
  clear hK K hb hy12 hh11
  try simp only [Act.put, List.setIfInBounds_toArray, List.set_cons_zero, List.set_cons_succ]
  refine wpAnyH_ready (rs := [60]) (by kernel_rfl) (by simp) (one_op (d := some 142) (by kernel_rfl) fun o ho K hK => ?_)
  simp only [List.getElem?_toArray, List.getElem?_cons_succ, List.getElem?_cons_zero, Option.some.injEq] at ho
  subst ho
  go_simp
  refine (cY' _ hh12.1).mono ?_
  rintro e y13 ⟨rfl, hb⟩
  go_wp2_with fail
  have hy13 := hh12.1.trans (hb.mono hh12.1.size)
  have hh13 : Below u5.heap.size u5 y13 ∧ _ := ⟨hy13, cell y13 hy13⟩
  refine hK.out _ _ hh13 (fun _ => ?_)
  clear hK K hb hy13 hh12
  try simp only [Act.put, List.setIfInBounds_toArray, List.set_cons_zero, List.set_cons_succ]
  refine take_op (i := 61) (d := some 143) (v := ?_) (by kernel_rfl) (by kernel_rfl) (by kernel_rfl) (by kernel_rfl) (fun _ _ _ h => h) (fun o ho => ?_) hh13 ?_
  rotate_left
  · simp only [List.getElem?_toArray, List.getElem?_cons_succ, List.getElem?_cons_zero, Option.some.injEq] at ho; subst ho; refine Or.inl ⟨by rfl, fun w hSw => ?_⟩; obtain ⟨hSb, k1, k2, k3, k4, k5, k6, k7⟩ := hSw; go_simp; all_goals with_reducible rfl
  try simp only [Act.put, List.setIfInBounds_toArray, List.set_cons_zero, List.set_cons_succ]
  refine take_op (i := 62) (d := some 144) (v := ?_) (by kernel_rfl) (by kernel_rfl) (by kernel_rfl) (by kernel_rfl) (fun _ _ _ h => h) (fun o ho => ?_) hh13 ?_
  rotate_left
  · simp only [List.getElem?_toArray, List.getElem?_cons_succ, List.getElem?_cons_zero, Option.some.injEq] at ho; subst ho; refine Or.inl ⟨by rfl, fun w hSw => ?_⟩; obtain ⟨hSb, k1, k2, k3, k4, k5, k6, k7⟩ := hSw; go_simp; all_goals with_reducible rfl
  try simp only [Act.put, List.setIfInBounds_toArray, List.set_cons_zero, List.set_cons_succ]
  refine take_op (i := 63) (d := some 145) (v := ?_) (by kernel_rfl) (by kernel_rfl) (by kernel_rfl) (by kernel_rfl) (fun _ _ _ h => h) (fun o ho => ?_) hh13 ?_
  rotate_left
  · simp only [List.getElem?_toArray, List.getElem?_cons_succ, List.getElem?_cons_zero, Option.some.injEq] at ho; subst ho; refine Or.inl ⟨by rfl, fun w hSw => ?_⟩; obtain ⟨hSb, k1, k2, k3, k4, k5, k6, k7⟩ := hSw; go_simp; all_goals with_reducible rfl
  try simp only [Act.put, List.setIfInBounds_toArray, List.set_cons_zero, List.set_cons_succ]
  refine take_op (i := 64) (d := some 6) (v := ?_) (by kernel_rfl) (by kernel_rfl) (by kernel_rfl) (by kernel_rfl) (fun _ _ _ h => h) (fun o ho => ?_) hh13 ?_
  rotate_left
  · simp only [List.getElem?_toArray, List.getElem?_cons_succ, List.getElem?_cons_zero, Option.some.injEq] at ho; subst ho; refine Or.inl ⟨by rfl, fun w hSw => ?_⟩; obtain ⟨hSb, k1, k2, k3, k4, k5, k6, k7⟩ := hSw; go_simp; all_goals with_reducible rfl
  try simp only [Act.put, List.setIfInBounds_toArray, List.set_cons_zero, List.set_cons_succ]
  refine wpAnyH_done (by kernel_rfl) ?_ _
  go_wp2_with fail
  go_ret
  exact ⟨rfl, hU5.trans (hh13.1.mono hU5.size)⟩
end Go.Proofs.YtddmldfdakmecaaGreatDoor
