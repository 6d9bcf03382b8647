/- Walk of the law's helper is: has a set the ranges of the reference? The law NewsrcMove answers true. -/
import Derived.Test.YtddmldfdakmecaaGreatDoorNwRefHas
import Derived.Test.YtddmldfdakmecaaGreatDoorNwRefMove
namespace Go.Proofs.YtddmldfdakmecaaGreatDoor
open Go.RowKit Go.Gn Go.El Go.Nw

set_option maxRecDepth 100000 in
set_option maxHeartbeats 2000000 in
/-- 'is'. -/
theorem is_any (a : Option Addr) (n c : Nat) (X : List Rg) (a' : Option Addr) (n' c' : Nat) (Y : List Rg) (w : World) (hn : X.length = n) (hn' : Y.length = n') (hN : n ≤ 1000000) (hN' : n' ≤ 1000000) (hR : RE TR w a X) (hR' : RE TG w a' Y) :
    GivesB Tryz.prog 21 #[.agg #[.slice a n c], .slice a' n' c'] (.bool (decide (X = Y))) w := by
  have hb0 : Below w.heap.size w (w.alloc (.cells #[.slice a n c] 26)) := (Below.refl _ _).alloc (Nat.le_refl _) _
  have hE := ranges_any a n c X _ hn hN (hR.below hb0)
  have HX := Lib.hid hn
  have HY := Lib.hid hn'
  have hR2 := hR'.below hb0
  clear hn hn' hR hR'
  unfold GivesB
  go_enter Tryz.func21, Tryz.ntmps21
  go_wp2_with fail
  generalize w.alloc (.cells #[.slice a n c] 26) = w0 at *
  refine hE.mono ?_
  clear hE
  rintro e w1 ⟨v1, rfl, hO, hB1⟩
  have hB := hb0.trans (hB1.mono hb0.size)
  have hR3 := hR2.below hB1
  obtain ⟨p, cp, rfl, hRX, q1, q2, q3, q4⟩ := hO.re
  rw [HX.out]
  clear q1 q2 q3 q4 hO hb0 hR2 hB1
  by_cases hl : n = n'
  · subst hl
    have hl0 : ((n : Int) != (n : Int)) = false := by simp
    go_wp2_with fail
    go_loopg [6] n (fun gg s6 wr => ∃ (k : Nat), k ≤ n ∧ n - k ≤ gg ∧ s6 = .int .i64 k ∧ Below w1.heap.size w1 wr ∧ Aside (X.take k = Y.take k))
    case atStart => exact ⟨0, Nat.zero_le _, by omega, rfl, Below.refl _ _, show Aside _ from rfl⟩
    case round =>
      obtain ⟨k, hk, hg, rfl, hBr, A⟩ := hrel
      by_cases hlt : k < n
      · have hltz : (k : Int) < (n : Int) := by omega
        have hk0 : (0 : Int) ≤ (k : Int) := by omega
        have hkx : k < X.length := by rw [HX.out]; exact hlt
        have hky : k < Y.length := by rw [HY.out]; exact hlt
        obtain ⟨b, off, rfl, hb, hx1, hx2⟩ := RE.rg (T := TR) rfl rfl (hRX.below hBr) hkx
        obtain ⟨b', off', rfl, hb', hy1, hy2⟩ := RE.rg (T := TG) rfl rfl (hR3.below hBr) hky
        have HNE : Hid (X[k] ≠ Y[k] → X ≠ Y) := fun h e => by subst e; exact h rfl
        have HEQ : Hid (X[k] = Y[k] → X.take (k + 1) = Y.take (k + 1)) := fun h => by
          rw [List.take_succ_eq_append_getElem hkx, List.take_succ_eq_append_getElem hky, A.out, h]
        generalize X[k] = r at hx1 hx2 HNE HEQ
        generalize Y[k] = q at hy1 hy2 HNE HEQ
        obtain ⟨x, y⟩ := r
        obtain ⟨u, v⟩ := q
        simp only at hx1 hx2 hy1 hy2
        by_cases h1 : x = u
        · subst h1
          have e1 : (x != x) = false := by simp
          by_cases h2 : y = v
          · subst h2
            have e2 : (y != y) = false := by simp
            have HE : Hid (X.take (k + 1) = Y.take (k + 1)) := HEQ.out rfl
            go_wp2
            go_quiet (fail)
            go_wp2
            go_roundg (n - (k + 1))
            case measure => omega
            case rel => exact ⟨k + 1, by omega, by omega, by go_num, Go.below_drewN hBr _, show Aside _ from HE.out⟩
          · have e2 : (y != v) = true := by simpa using h2
            have HE : Hid (decide (X = Y) = false) := decide_eq_false (HNE.out fun e => h2 (congrArg Prod.snd e))
            go_wp2
            go_quiet (fail)
            go_wp2
            go_ret
            exact ⟨by rw [HE.out] <;> rfl, hB.trans ((Go.below_drewN hBr _).mono hB.size)⟩
        · have e1 : (x != u) = true := by simpa using h1
          have HE : Hid (decide (X = Y) = false) := decide_eq_false (HNE.out fun e => h1 (congrArg Prod.fst e))
          go_wp2
          go_quiet (fail)
          go_wp2
          go_ret
          exact ⟨by rw [HE.out] <;> rfl, hB.trans ((Go.below_drewN hBr _).mono hB.size)⟩
      · have hltz : ¬ (k : Int) < (n : Int) := by omega
        have HE : Hid (decide (X = Y) = true) := decide_eq_true (by
          have := A.out
          rwa [List.take_of_length_le (by rw [HX.out]; omega), List.take_of_length_le (by rw [HY.out]; omega)] at this)
        go_wp2
        go_ret
        exact ⟨by rw [HE.out] <;> rfl, hB.trans (hBr.mono hB.size)⟩
  · have hl0 : ((n : Int) != (n' : Int)) = true := by simp; omega
    have HE : Hid (decide (X = Y) = false) := decide_eq_false fun e => hl (by rw [← HX.out, ← HY.out, e])
    go_wp2_with fail
    go_ret
    exact ⟨by rw [HE.out] <;> rfl, hB⟩
end Go.Proofs.YtddmldfdakmecaaGreatDoor

namespace Go.Proofs.YtddmldfdakmecaaGreatDoor
open Go.RowKit Go.Gn Go.El Go.Nw

section
variable {P : Program} {ops : Array Oper} {Q : Exit → Act → World → Prop} {md : Region.Mode} {S : World → Prop}
theorem two_op {fuel : Nat} {listed : Array Bool} {a : Act} {w : World} {i j : Nat} {d d' : Option Tmp} (hd : (ops[i]?).map (·.dst) = some d) (hd' : (ops[j]?).map (·.dst) = some d')
    (h : ∀ o, ops[i]? = some o → ∀ K' : Act → World → Prop, Shut (∀ a w, S w → (S w → wpAnyH P md ops Q S fuel (listed.setIfInBounds i true) a w) → K' a w) → if Region.wanted o (yielded ops a.tmps) = true then Oper.wp P o a w K' Q else K' (a.put o.dst undef) w)
    (h' : ∀ o, ops[j]? = some o → ∀ K' : Act → World → Prop, Shut (∀ a w, S w → (S w → wpAnyH P md ops Q S fuel (listed.setIfInBounds j true) a w) → K' a w) → if Region.wanted o (yielded ops a.tmps) = true then Oper.wp P o a w K' Q else K' (a.put o.dst undef) w) : AllReadyH P md ops Q S fuel listed a w [i, j] := by
  obtain ⟨o, ho, _⟩ := Option.map_eq_some_iff.1 hd
  obtain ⟨o', ho', _⟩ := Option.map_eq_some_iff.1 hd'
  exact AllReadyH.cons ho (h o ho) (AllReadyH.cons ho' (h' o' ho') AllReadyH.nil)
end

set_option maxRecDepth 100000 in
set_option maxHeartbeats 8000000 in
theorem lawMove_ok (a : Option Addr) (n c : Nat) (zs0 : List Rg) (a1 : Option Addr) (n1 c1 : Nat) (zs : List Num) (a2 : Option Addr) (n2 c2 : Nat) (ys : List Num) (w : World) (hn : zs0.length = n) (hR : RE TG w a zs0) (hn1 : zs.length = n1) (hc1 : a1 = none → c1 = 0) (hS1w : RE TV w a1 zs) (hn2 : ys.length = n2) (hc2 : a2 = none → c2 = 0) (hS2w : RE TV w a2 ys)
    (hM : ML w) (hT : TB w) (h30 : n ≤ 30) (h40 : n1 ≤ 40) (h40' : n2 ≤ 40) (hv : ∀ r ∈ zs0, validB r = true) (hall : numsB (zs ++ ys)) :
    GivesB Tryz.prog 4 #[.slice a n c, .slice a1 n1 c1, .slice a2 n2 c2] (.bool true) w := by
  have hk := known_any w hM hT
  clear hM hT
  have hz1 : ¬ (30 : Int) < (n : Int) := by omega
  have hz2 : ¬ (40 : Int) < (n1 : Int) := by omega
  have hz3 : ¬ (40 : Int) < (n2 : Int) := by omega
  unfold GivesB at hk ⊢
  go_enter Tryz.func4, Tryz.ntmps4
  go_wp2_with fail
  refine hk.mono ?_
  clear hk
  rintro e w1 ⟨rfl, hB1⟩
  go_wp2_with fail
  refine (own_any a n c zs0 w1 hn (by omega) (hR.below hB1)).mono ?_
  rintro e w2 ⟨hb2, v2, rfl, hO2⟩
  have hB2 := hB1.trans (hb2.mono hB1.size)
  obtain ⟨p2, c2', rfl, hR2, q1, q2, q3, q4⟩ := hO2.re
  rw [hn]
  clear q1 q2 q3 q4 hO2 hb2
  go_wp2_with fail
  refine (from_any p2 n c2' zs0 w2 hn (by omega) hR2).mono ?_
  rintro e w3 ⟨hb3, ⟨_, v3, rfl, hO3⟩ | ⟨hno, _⟩⟩
  rotate_left
  · exact absurd hv hno
  have hB3 := hB2.trans (hb3.mono hB2.size)
  obtain ⟨aX, cX, rfl, hRX3, q1, q2, q3, q4⟩ := hO3.re
  clear q1 q2 q3 q4 hO3 hb3 hR2
  obtain ⟨nX, hlX⟩ : ∃ m, (normal zs0).length = m := ⟨_, rfl⟩
  have hnX : nX ≤ 30 := by have := normal_length zs0; omega
  rw [hlX]
  have hB5 := hB3.alloc hB3.size (.cells #[.slice aX nX cX] 26)
  have hbX := Box.new w3 26 (.slice aX nX cX) w3.heap.size rfl
  have hRX := hRX3.alloc (.cells #[.slice aX nX cX] 26)
  go_wp2_with fail
  generalize hsb : w3.heap.size = b1 at *
  generalize w3.alloc (.cells #[.slice aX nX cX] 26) = w5 at *
  clear hsb hRX3
  have hcs : ∀ Wx, Below w5.heap.size w5 Wx → Wx.cell? ⟨b1, 0, none⟩ = some (.slice aX nX cX) := fun Wx hb => (hbX.below hb hbX.lt).cell
  have hS1 := hS1w.below hB5
  have hS2 := hS2w.below hB5
  have hNX := (normal_valid hv).1
  obtain ⟨T, hT⟩ : ∃ T, T = normal ((moved (known (normal zs0) zs) ys).map dup) := ⟨_, rfl⟩
  have hTl : Hid (T.length ≤ 40) := by unfold Hid; rw [hT]; have h1 := normal_length ((moved (known (normal zs0) zs) ys).map dup); have h2 := moved_length (known (normal zs0) zs) ys; rw [List.length_map] at h1; omega
  try dsimp only [List.append]
  refine wp_region_held_drew (S := fun Wx => Below w5.heap.size w5 Wx ∧ Wx.cell? ⟨b1, 0, none⟩ = some (.slice aX nX cX)) (by kernel_rfl) ⟨Go.below_drewN (Below.refl _ w5) 1, hcs _ (Go.below_drewN (Below.refl _ w5) 1)⟩ (fun hh0 => ?_)
  generalize hwd : w5.drew = y0 at *
  clear hwd
  refine take_op (i := 0) (d := some 40) (v := ?_) (by kernel_rfl) (by kernel_rfl) (by kernel_rfl) (by kernel_rfl) (fun _ _ _ h => h) (fun o ho => ?_) hh0 ?_
  rotate_left
  · simp only [List.getElem?_toArray, List.getElem?_cons_succ, List.getElem?_cons_zero, Option.some.injEq] at ho; subst ho; refine Or.inl ⟨by rfl, fun Wx hSw => ?_⟩; obtain ⟨hSb, k1⟩ := hSw; go_simp; all_goals with_reducible rfl
  try simp only [Act.put, List.setIfInBounds_toArray, List.set_cons_zero, List.set_cons_succ]
  refine take_op (i := 1) (d := some 41) (v := ?_) (by kernel_rfl) (by kernel_rfl) (by kernel_rfl) (by kernel_rfl) (fun _ _ _ h => h) (fun o ho => ?_) hh0 ?_
  rotate_left
  · simp only [List.getElem?_toArray, List.getElem?_cons_succ, List.getElem?_cons_zero, Option.some.injEq] at ho; subst ho; refine Or.inl ⟨by rfl, fun Wx hSw => ?_⟩; obtain ⟨hSb, k1⟩ := hSw; go_simp; all_goals with_reducible rfl
  try simp only [Act.put, List.setIfInBounds_toArray, List.set_cons_zero, List.set_cons_succ]
  refine take_op (i := 3) (d := some 43) (v := ?_) (by kernel_rfl) (by kernel_rfl) (by kernel_rfl) (by kernel_rfl) (fun _ _ _ h => h) (fun o ho => ?_) hh0 ?_
  rotate_left
  · simp only [List.getElem?_toArray, List.getElem?_cons_succ, List.getElem?_cons_zero, Option.some.injEq] at ho; subst ho; refine Or.inl ⟨by rfl, fun Wx hSw => ?_⟩; obtain ⟨hSb, k1⟩ := hSw; go_simp; all_goals with_reducible rfl
  try simp only [Act.put, List.setIfInBounds_toArray, List.set_cons_zero, List.set_cons_succ]
  refine wpAnyH_ready (rs := [2, 9]) (by kernel_rfl) (by simp) (two_op (d := some 42) (d' := some 9) (by kernel_rfl) (by kernel_rfl) (fun o ho K hK => ?_) (fun o ho K hK => ?_))
  ·
    simp only [List.getElem?_toArray, List.getElem?_cons_succ, List.getElem?_cons_zero, Option.some.injEq] at ho
    subst ho
    go_simp
    refine (numbers_any a1 n1 c1 zs y0 hn1 (by omega) (hS1.below hh0.1)).mono ?_
    rintro e y1 ⟨hb, v1, rfl, hO⟩
    obtain ⟨p1, k1', rfl, hR1, q1, q2, hz1', q4⟩ := hO.re
    clear q1 q2 q4 hO
    obtain ⟨m1, hl1⟩ : ∃ m, zs.length = m := ⟨_, rfl⟩
    rw [hl1]
    go_wp2_with fail
    have hh1b := hh0.1.trans (hb.mono hh0.1.size)
    have hh1 : Below w5.heap.size w5 y1 ∧ _ := ⟨hh1b, hcs _ hh1b⟩
    refine hK.out _ _ hh1 (fun _ => ?_)
    clear hK K hb hh1b
    try simp only [Act.put, List.setIfInBounds_toArray, List.set_cons_zero, List.set_cons_succ]
    refine wpAnyH_ready (rs := [4, 9]) (by kernel_rfl) (by simp) (two_op (d := some 44) (d' := some 9) (by kernel_rfl) (by kernel_rfl) (fun o ho K hK => ?_) (fun o ho K hK => ?_))
    ·
      simp only [List.getElem?_toArray, List.getElem?_cons_succ, List.getElem?_cons_zero, Option.some.injEq] at ho
      subst ho
      go_simp
      refine (numbers_any a2 n2 c2 ys y1 hn2 (by omega) (hS2.below hh1.1)).mono ?_
      rintro e y2 ⟨hb, v2, rfl, hO⟩
      obtain ⟨p2, k2', rfl, hR2, q1, q2, hz2', q4⟩ := hO.re
      clear q1 q2 q4 hO
      obtain ⟨m2, hl2⟩ : ∃ m, ys.length = m := ⟨_, rfl⟩
      rw [hl2]
      go_wp2_with fail
      have hh2b := hh1.1.trans (hb.mono hh1.1.size)
      have hR1 := hR1.below hb
      have hh2 : Below w5.heap.size w5 y2 ∧ _ := ⟨hh2b, hcs _ hh2b⟩
      refine hK.out _ _ hh2 (fun _ => ?_)
      clear hK K hb hh2b
      try simp only [Act.put, List.setIfInBounds_toArray, List.set_cons_zero, List.set_cons_succ]
      refine wpAnyH_ready (rs := [5, 9]) (by kernel_rfl) (by simp) (two_op (d := some 45) (d' := some 9) (by kernel_rfl) (by kernel_rfl) (fun o ho K hK => ?_) (fun o ho K hK => ?_))
      ·
        simp only [List.getElem?_toArray, List.getElem?_cons_succ, List.getElem?_cons_zero, Option.some.injEq] at ho
        subst ho
        go_simp
        refine (move_any aX nX cX (normal zs0) p1 m1 k1' zs p2 m2 k2' ys y2 hlX (by omega) (hRX.below hh2.1) hNX hl1 (by omega) hR1 hz1' hl2 (by omega) hR2 hz2').mono ?_
        rintro e y3 ⟨hb, ⟨_, v6, rfl, hOx⟩ | ⟨hno, _⟩⟩
        rotate_left
        · exact absurd hall hno
        rw [← hT] at hOx
        obtain ⟨a6, n6, c6, rfl⟩ := hOx.sl
        have hl6 := hOx.shape.1
        go_wp2_with fail
        have hh3b := hh2.1.trans (hb.mono hh2.1.size)
        have hh3 : Below w5.heap.size w5 y3 ∧ _ := ⟨hh3b, hcs _ hh3b⟩
        refine hK.out _ _ hh3 (fun _ => ?_)
        clear hK K hb hh3b hR1 hR2 hz1' hz2'
        try simp only [Act.put, List.setIfInBounds_toArray, List.set_cons_zero, List.set_cons_succ]
        refine take_op (i := 6) (d := some 39) (v := ?_) (by kernel_rfl) (by kernel_rfl) (by kernel_rfl) (by kernel_rfl) (fun _ _ _ h => h) (fun o ho => ?_) hh3 ?_
        rotate_left
        · simp only [List.getElem?_toArray, List.getElem?_cons_succ, List.getElem?_cons_zero, Option.some.injEq] at ho; subst ho; refine Or.inl ⟨by rfl, fun Wx hSw => ?_⟩; obtain ⟨hSb, k1⟩ := hSw; go_simp; all_goals with_reducible rfl
        try simp only [Act.put, List.setIfInBounds_toArray, List.set_cons_zero, List.set_cons_succ]
        refine take_op (i := 7) (d := some 46) (v := ?_) (by kernel_rfl) (by kernel_rfl) (by kernel_rfl) (by kernel_rfl) (fun _ _ _ h => h) (fun o ho => ?_) hh3 ?_
        rotate_left
        · simp only [List.getElem?_toArray, List.getElem?_cons_succ, List.getElem?_cons_zero, Option.some.injEq] at ho; subst ho; refine Or.inl ⟨by rfl, fun Wx hSw => ?_⟩; obtain ⟨hSb, k1⟩ := hSw; go_simp; all_goals with_reducible rfl
        try simp only [Act.put, List.setIfInBounds_toArray, List.set_cons_zero, List.set_cons_succ]
        refine take_op (i := 8) (d := some 47) (v := ?_) (by kernel_rfl) (by kernel_rfl) (by kernel_rfl) (by kernel_rfl) (fun _ _ _ h => h) (fun o ho => ?_) hh3 ?_
        rotate_left
        · simp only [List.getElem?_toArray, List.getElem?_cons_succ, List.getElem?_cons_zero, Option.some.injEq] at ho; subst ho; refine Or.inl ⟨by rfl, fun Wx hSw => ?_⟩; obtain ⟨hSb, k1⟩ := hSw; go_simp; all_goals with_reducible rfl
        try simp only [Act.put, List.setIfInBounds_toArray, List.set_cons_zero, List.set_cons_succ]
        refine wpAnyH_ready (rs := [9]) (by kernel_rfl) (by simp) (one_op (d := some 9) (by kernel_rfl) fun o ho K hK => ?_)
        simp only [List.getElem?_toArray, List.getElem?_cons_succ, List.getElem?_cons_zero, Option.some.injEq] at ho
        subst ho
        have hal := (Below.refl y3.heap.size y3).alloc (Nat.le_refl _) (.cells #[.slice none 0 0] 26)
        have hbx := Box.new y3 26 (.slice none 0 0) y3.heap.size rfl
        have hBx : w5.heap.size ≤ y3.heap.size := hh3.1.size
        go_simp
        have hh4b := hh3.1.alloc hh3.1.size (.cells #[.slice none 0 0] 26)
        have hOx := hOx.below hal
        generalize hBe : y3.heap.size = Bx at *
        clear hBe
        generalize y3.alloc (.cells #[.slice none 0 0] 26) = y4 at *
        have hh4 : Below w5.heap.size w5 y4 ∧ _ := ⟨hh4b, hcs _ hh4b⟩
        refine hK.out _ _ hh4 (fun _ => ?_)
        clear hK K hal hh4b
        try simp only [Act.put, List.setIfInBounds_toArray, List.set_cons_zero, List.set_cons_succ]
        refine wpAnyH_ready (rs := [10]) (by kernel_rfl) (by simp) (one_op (d := none) (by kernel_rfl) fun o ho K hK => ?_)
        simp only [List.getElem?_toArray, List.getElem?_cons_succ, List.getElem?_cons_zero, Option.some.injEq] at ho
        subst ho
        have hcx := hbx.cell
        have hfx := hbx.free
        go_simp
        have hSz : Below w5.heap.size w5 (World.setCell y4 ⟨Bx, 0, none⟩ (.slice a6 n6 c6)) := hh4.1.setCell (p := ⟨Bx, 0, none⟩) hBx _
        have hbz := hbx.set (.slice a6 n6 c6)
        have hRz : RE TR _ a6 T := ((hOx.far (a := ⟨Bx, 0, none⟩) (hOx.ne hbx (by decide)) (.slice a6 n6 c6)).shape).2.1
        refine hK.out _ _ ⟨hSz, hcs _ hSz⟩ (fun _ => ?_)
        clear hK K hcx hfx hbx
        try simp only [Act.put, List.setIfInBounds_toArray, List.set_cons_zero, List.set_cons_succ]
        have hSS : Below w5.heap.size w5 _ ∧ _ := ⟨hSz, hcs _ hSz⟩
        refine take_op (i := 11) (d := some 10) (v := ?_) (by kernel_rfl) (by kernel_rfl) (by kernel_rfl) (by kernel_rfl) (fun _ _ _ h => h) (fun o ho => ?_) hSS ?_
        rotate_left
        · simp only [List.getElem?_toArray, List.getElem?_cons_succ, List.getElem?_cons_zero, Option.some.injEq] at ho; subst ho; refine Or.inl ⟨by rfl, fun Wx hSw => ?_⟩; obtain ⟨hSb, k1⟩ := hSw; go_simp; all_goals with_reducible rfl
        try simp only [Act.put, List.setIfInBounds_toArray, List.set_cons_zero, List.set_cons_succ]
        refine wpAnyH_done (by kernel_rfl) ?_ _
        clear hSS
        generalize World.setCell y4 ⟨Bx, 0, none⟩ (.slice a6 n6 c6) = wz at *
        have hBz := hB5.trans (hSz.mono hB5.size)
        go_wp2_with fail
        refine (refNormal_any a n c zs0 wz hn (by omega) (hR.below hBz) hv).mono ?_
        rintro e w8 ⟨hb8, v8, rfl, hO8⟩
        obtain ⟨a8, c8, rfl, hR8, q1, q2, q3, q4⟩ := hO8.re
        clear q1 q2 q3 q4 hO8
        have hB8 := hBz.trans (hb8.mono hBz.size)
        have hS8 := hSz.trans (hb8.mono hSz.size)
        have hRz8 := hRz.below hb8
        have hbz8 := hbz.below hb8 hbz.lt
        rw [hlX]
        go_wp2_with fail
        refine (refMove_any a8 nX c8 (normal zs0) a1 n1 c1 zs a2 n2 c2 ys w8 hlX (by omega) hR8 hn1 h40 (hS1.below hS8) hc1 hn2 h40' (hS2.below hS8) hc2).mono ?_
        rintro e w9 ⟨hb9, ⟨_, v9, rfl, hO9⟩ | ⟨hno, _⟩⟩
        rotate_left
        · exact absurd hall hno
        obtain ⟨a9, n9, c9, rfl⟩ := hO9.sl
        have hl9 := hO9.shape.1
        have hR9 := hO9.shape.2.1
        have hTT : normal ((moved (known (normal zs0) zs) ys).map dup) = T := hT.symm
        rw [hTT] at hl9 hR9
        have hB9 := hB8.trans (hb9.mono hB8.size)
        have hbz9 := hbz8.below hb9 hbz8.lt
        have hcz := hbz9.cell
        have hRz9 := hRz8.below hb9
        go_wp2_with fail
        refine (is_any a6 n6 c6 T a9 n9 c9 T w9 (by rw [← hl6]) hl9 (by have := hTl.out; omega) (by have := hTl.out; omega) hRz9 hR9).mono ?_
        rintro e w10 ⟨rfl, hb10⟩
        rw [decide_eq_true rfl]
        go_wp2
        go_ret
        exact ⟨rfl, hB9.trans (hb10.mono hB9.size)⟩
      ·
        simp only [List.getElem?_toArray, List.getElem?_cons_succ, List.getElem?_cons_zero, Option.some.injEq] at ho
        subst ho
        have hal := (Below.refl y2.heap.size y2).alloc (Nat.le_refl _) (.cells #[.slice none 0 0] 26)
        have hbx := Box.new y2 26 (.slice none 0 0) y2.heap.size rfl
        have hBx : w5.heap.size ≤ y2.heap.size := hh2.1.size
        go_simp
        have hh5b := hh2.1.alloc hh2.1.size (.cells #[.slice none 0 0] 26)
        have hR1 := hR1.below hal
        have hR2 := hR2.below hal
        generalize hBe : y2.heap.size = Bx at *
        clear hBe
        generalize y2.alloc (.cells #[.slice none 0 0] 26) = y5 at *
        have hh5 : Below w5.heap.size w5 y5 ∧ _ := ⟨hh5b, hcs _ hh5b⟩
        refine hK.out _ _ hh5 (fun _ => ?_)
        clear hK K hal hh5b
        try simp only [Act.put, List.setIfInBounds_toArray, List.set_cons_zero, List.set_cons_succ]
        refine wpAnyH_ready (rs := [5]) (by kernel_rfl) (by simp) (one_op (d := some 45) (by kernel_rfl) fun o ho K hK => ?_)
        simp only [List.getElem?_toArray, List.getElem?_cons_succ, List.getElem?_cons_zero, Option.some.injEq] at ho
        subst ho
        go_simp
        refine (move_any aX nX cX (normal zs0) p1 m1 k1' zs p2 m2 k2' ys y5 hlX (by omega) (hRX.below hh5.1) hNX hl1 (by omega) hR1 hz1' hl2 (by omega) hR2 hz2').mono ?_
        rintro e y6 ⟨hb, ⟨_, v6, rfl, hOx⟩ | ⟨hno, _⟩⟩
        rotate_left
        · exact absurd hall hno
        rw [← hT] at hOx
        obtain ⟨a6, n6, c6, rfl⟩ := hOx.sl
        have hl6 := hOx.shape.1
        go_wp2_with fail
        have hh6b := hh5.1.trans (hb.mono hh5.1.size)
        have hbx := hbx.below hb hbx.lt
        have hh6 : Below w5.heap.size w5 y6 ∧ _ := ⟨hh6b, hcs _ hh6b⟩
        refine hK.out _ _ hh6 (fun _ => ?_)
        clear hK K hb hh6b hR1 hR2 hz1' hz2'
        try simp only [Act.put, List.setIfInBounds_toArray, List.set_cons_zero, List.set_cons_succ]
        refine take_op (i := 6) (d := some 39) (v := ?_) (by kernel_rfl) (by kernel_rfl) (by kernel_rfl) (by kernel_rfl) (fun _ _ _ h => h) (fun o ho => ?_) hh6 ?_
        rotate_left
        · simp only [List.getElem?_toArray, List.getElem?_cons_succ, List.getElem?_cons_zero, Option.some.injEq] at ho; subst ho; refine Or.inl ⟨by rfl, fun Wx hSw => ?_⟩; obtain ⟨hSb, k1⟩ := hSw; go_simp; all_goals with_reducible rfl
        try simp only [Act.put, List.setIfInBounds_toArray, List.set_cons_zero, List.set_cons_succ]
        refine take_op (i := 7) (d := some 46) (v := ?_) (by kernel_rfl) (by kernel_rfl) (by kernel_rfl) (by kernel_rfl) (fun _ _ _ h => h) (fun o ho => ?_) hh6 ?_
        rotate_left
        · simp only [List.getElem?_toArray, List.getElem?_cons_succ, List.getElem?_cons_zero, Option.some.injEq] at ho; subst ho; refine Or.inl ⟨by rfl, fun Wx hSw => ?_⟩; obtain ⟨hSb, k1⟩ := hSw; go_simp; all_goals with_reducible rfl
        try simp only [Act.put, List.setIfInBounds_toArray, List.set_cons_zero, List.set_cons_succ]
        refine take_op (i := 8) (d := some 47) (v := ?_) (by kernel_rfl) (by kernel_rfl) (by kernel_rfl) (by kernel_rfl) (fun _ _ _ h => h) (fun o ho => ?_) hh6 ?_
        rotate_left
        · simp only [List.getElem?_toArray, List.getElem?_cons_succ, List.getElem?_cons_zero, Option.some.injEq] at ho; subst ho; refine Or.inl ⟨by rfl, fun Wx hSw => ?_⟩; obtain ⟨hSb, k1⟩ := hSw; go_simp; all_goals with_reducible rfl
        try simp only [Act.put, List.setIfInBounds_toArray, List.set_cons_zero, List.set_cons_succ]
        refine wpAnyH_ready (rs := [10]) (by kernel_rfl) (by simp) (one_op (d := none) (by kernel_rfl) fun o ho K hK => ?_)
        simp only [List.getElem?_toArray, List.getElem?_cons_succ, List.getElem?_cons_zero, Option.some.injEq] at ho
        subst ho
        have hcx := hbx.cell
        have hfx := hbx.free
        go_simp
        have hSz : Below w5.heap.size w5 (World.setCell y6 ⟨Bx, 0, none⟩ (.slice a6 n6 c6)) := hh6.1.setCell (p := ⟨Bx, 0, none⟩) hBx _
        have hbz := hbx.set (.slice a6 n6 c6)
        have hRz : RE TR _ a6 T := ((hOx.far (a := ⟨Bx, 0, none⟩) (hOx.ne hbx (by decide)) (.slice a6 n6 c6)).shape).2.1
        refine hK.out _ _ ⟨hSz, hcs _ hSz⟩ (fun _ => ?_)
        clear hK K hcx hfx hbx
        try simp only [Act.put, List.setIfInBounds_toArray, List.set_cons_zero, List.set_cons_succ]
        have hSS : Below w5.heap.size w5 _ ∧ _ := ⟨hSz, hcs _ hSz⟩
        refine take_op (i := 11) (d := some 10) (v := ?_) (by kernel_rfl) (by kernel_rfl) (by kernel_rfl) (by kernel_rfl) (fun _ _ _ h => h) (fun o ho => ?_) hSS ?_
        rotate_left
        · simp only [List.getElem?_toArray, List.getElem?_cons_succ, List.getElem?_cons_zero, Option.some.injEq] at ho; subst ho; refine Or.inl ⟨by rfl, fun Wx hSw => ?_⟩; obtain ⟨hSb, k1⟩ := hSw; go_simp; all_goals with_reducible rfl
        try simp only [Act.put, List.setIfInBounds_toArray, List.set_cons_zero, List.set_cons_succ]
        refine wpAnyH_done (by kernel_rfl) ?_ _
        clear hSS
        generalize World.setCell y6 ⟨Bx, 0, none⟩ (.slice a6 n6 c6) = wz at *
        have hBz := hB5.trans (hSz.mono hB5.size)
        go_wp2_with fail
        refine (refNormal_any a n c zs0 wz hn (by omega) (hR.below hBz) hv).mono ?_
        rintro e w8 ⟨hb8, v8, rfl, hO8⟩
        obtain ⟨a8, c8, rfl, hR8, q1, q2, q3, q4⟩ := hO8.re
        clear q1 q2 q3 q4 hO8
        have hB8 := hBz.trans (hb8.mono hBz.size)
        have hS8 := hSz.trans (hb8.mono hSz.size)
        have hRz8 := hRz.below hb8
        have hbz8 := hbz.below hb8 hbz.lt
        rw [hlX]
        go_wp2_with fail
        refine (refMove_any a8 nX c8 (normal zs0) a1 n1 c1 zs a2 n2 c2 ys w8 hlX (by omega) hR8 hn1 h40 (hS1.below hS8) hc1 hn2 h40' (hS2.below hS8) hc2).mono ?_
        rintro e w9 ⟨hb9, ⟨_, v9, rfl, hO9⟩ | ⟨hno, _⟩⟩
        rotate_left
        · exact absurd hall hno
        obtain ⟨a9, n9, c9, rfl⟩ := hO9.sl
        have hl9 := hO9.shape.1
        have hR9 := hO9.shape.2.1
        have hTT : normal ((moved (known (normal zs0) zs) ys).map dup) = T := hT.symm
        rw [hTT] at hl9 hR9
        have hB9 := hB8.trans (hb9.mono hB8.size)
        have hbz9 := hbz8.below hb9 hbz8.lt
        have hcz := hbz9.cell
        have hRz9 := hRz8.below hb9
        go_wp2_with fail
        refine (is_any a6 n6 c6 T a9 n9 c9 T w9 (by rw [← hl6]) hl9 (by have := hTl.out; omega) (by have := hTl.out; omega) hRz9 hR9).mono ?_
        rintro e w10 ⟨rfl, hb10⟩
        rw [decide_eq_true rfl]
        go_wp2
        go_ret
        exact ⟨rfl, hB9.trans (hb10.mono hB9.size)⟩
    ·
      simp only [List.getElem?_toArray, List.getElem?_cons_succ, List.getElem?_cons_zero, Option.some.injEq] at ho
      subst ho
      have hal := (Below.refl y1.heap.size y1).alloc (Nat.le_refl _) (.cells #[.slice none 0 0] 26)
      have hbx := Box.new y1 26 (.slice none 0 0) y1.heap.size rfl
      have hBx : w5.heap.size ≤ y1.heap.size := hh1.1.size
      go_simp
      have hh7b := hh1.1.alloc hh1.1.size (.cells #[.slice none 0 0] 26)
      have hR1 := hR1.below hal
      generalize hBe : y1.heap.size = Bx at *
      clear hBe
      generalize y1.alloc (.cells #[.slice none 0 0] 26) = y7 at *
      have hh7 : Below w5.heap.size w5 y7 ∧ _ := ⟨hh7b, hcs _ hh7b⟩
      refine hK.out _ _ hh7 (fun _ => ?_)
      clear hK K hal hh7b
      try simp only [Act.put, List.setIfInBounds_toArray, List.set_cons_zero, List.set_cons_succ]
      refine wpAnyH_ready (rs := [4]) (by kernel_rfl) (by simp) (one_op (d := some 44) (by kernel_rfl) fun o ho K hK => ?_)
      simp only [List.getElem?_toArray, List.getElem?_cons_succ, List.getElem?_cons_zero, Option.some.injEq] at ho
      subst ho
      go_simp
      refine (numbers_any a2 n2 c2 ys y7 hn2 (by omega) (hS2.below hh7.1)).mono ?_
      rintro e y8 ⟨hb, v2, rfl, hO⟩
      obtain ⟨p2, k2', rfl, hR2, q1, q2, hz2', q4⟩ := hO.re
      clear q1 q2 q4 hO
      obtain ⟨m2, hl2⟩ : ∃ m, ys.length = m := ⟨_, rfl⟩
      rw [hl2]
      go_wp2_with fail
      have hh8b := hh7.1.trans (hb.mono hh7.1.size)
      have hR1 := hR1.below hb
      have hbx := hbx.below hb hbx.lt
      have hh8 : Below w5.heap.size w5 y8 ∧ _ := ⟨hh8b, hcs _ hh8b⟩
      refine hK.out _ _ hh8 (fun _ => ?_)
      clear hK K hb hh8b
      try simp only [Act.put, List.setIfInBounds_toArray, List.set_cons_zero, List.set_cons_succ]
      refine wpAnyH_ready (rs := [5]) (by kernel_rfl) (by simp) (one_op (d := some 45) (by kernel_rfl) fun o ho K hK => ?_)
      simp only [List.getElem?_toArray, List.getElem?_cons_succ, List.getElem?_cons_zero, Option.some.injEq] at ho
      subst ho
      go_simp
      refine (move_any aX nX cX (normal zs0) p1 m1 k1' zs p2 m2 k2' ys y8 hlX (by omega) (hRX.below hh8.1) hNX hl1 (by omega) hR1 hz1' hl2 (by omega) hR2 hz2').mono ?_
      rintro e y9 ⟨hb, ⟨_, v6, rfl, hOx⟩ | ⟨hno, _⟩⟩
      rotate_left
      · exact absurd hall hno
      rw [← hT] at hOx
      obtain ⟨a6, n6, c6, rfl⟩ := hOx.sl
      have hl6 := hOx.shape.1
      go_wp2_with fail
      have hh9b := hh8.1.trans (hb.mono hh8.1.size)
      have hbx := hbx.below hb hbx.lt
      have hh9 : Below w5.heap.size w5 y9 ∧ _ := ⟨hh9b, hcs _ hh9b⟩
      refine hK.out _ _ hh9 (fun _ => ?_)
      clear hK K hb hh9b hR1 hR2 hz1' hz2'
      try simp only [Act.put, List.setIfInBounds_toArray, List.set_cons_zero, List.set_cons_succ]
      refine take_op (i := 6) (d := some 39) (v := ?_) (by kernel_rfl) (by kernel_rfl) (by kernel_rfl) (by kernel_rfl) (fun _ _ _ h => h) (fun o ho => ?_) hh9 ?_
      rotate_left
      · simp only [List.getElem?_toArray, List.getElem?_cons_succ, List.getElem?_cons_zero, Option.some.injEq] at ho; subst ho; refine Or.inl ⟨by rfl, fun Wx hSw => ?_⟩; obtain ⟨hSb, k1⟩ := hSw; go_simp; all_goals with_reducible rfl
      try simp only [Act.put, List.setIfInBounds_toArray, List.set_cons_zero, List.set_cons_succ]
      refine take_op (i := 7) (d := some 46) (v := ?_) (by kernel_rfl) (by kernel_rfl) (by kernel_rfl) (by kernel_rfl) (fun _ _ _ h => h) (fun o ho => ?_) hh9 ?_
      rotate_left
      · simp only [List.getElem?_toArray, List.getElem?_cons_succ, List.getElem?_cons_zero, Option.some.injEq] at ho; subst ho; refine Or.inl ⟨by rfl, fun Wx hSw => ?_⟩; obtain ⟨hSb, k1⟩ := hSw; go_simp; all_goals with_reducible rfl
      try simp only [Act.put, List.setIfInBounds_toArray, List.set_cons_zero, List.set_cons_succ]
      refine take_op (i := 8) (d := some 47) (v := ?_) (by kernel_rfl) (by kernel_rfl) (by kernel_rfl) (by kernel_rfl) (fun _ _ _ h => h) (fun o ho => ?_) hh9 ?_
      rotate_left
      · simp only [List.getElem?_toArray, List.getElem?_cons_succ, List.getElem?_cons_zero, Option.some.injEq] at ho; subst ho; refine Or.inl ⟨by rfl, fun Wx hSw => ?_⟩; obtain ⟨hSb, k1⟩ := hSw; go_simp; all_goals with_reducible rfl
      try simp only [Act.put, List.setIfInBounds_toArray, List.set_cons_zero, List.set_cons_succ]
      refine wpAnyH_ready (rs := [10]) (by kernel_rfl) (by simp) (one_op (d := none) (by kernel_rfl) fun o ho K hK => ?_)
      simp only [List.getElem?_toArray, List.getElem?_cons_succ, List.getElem?_cons_zero, Option.some.injEq] at ho
      subst ho
      have hcx := hbx.cell
      have hfx := hbx.free
      go_simp
      have hSz : Below w5.heap.size w5 (World.setCell y9 ⟨Bx, 0, none⟩ (.slice a6 n6 c6)) := hh9.1.setCell (p := ⟨Bx, 0, none⟩) hBx _
      have hbz := hbx.set (.slice a6 n6 c6)
      have hRz : RE TR _ a6 T := ((hOx.far (a := ⟨Bx, 0, none⟩) (hOx.ne hbx (by decide)) (.slice a6 n6 c6)).shape).2.1
      refine hK.out _ _ ⟨hSz, hcs _ hSz⟩ (fun _ => ?_)
      clear hK K hcx hfx hbx
      try simp only [Act.put, List.setIfInBounds_toArray, List.set_cons_zero, List.set_cons_succ]
      have hSS : Below w5.heap.size w5 _ ∧ _ := ⟨hSz, hcs _ hSz⟩
      refine take_op (i := 11) (d := some 10) (v := ?_) (by kernel_rfl) (by kernel_rfl) (by kernel_rfl) (by kernel_rfl) (fun _ _ _ h => h) (fun o ho => ?_) hSS ?_
      rotate_left
      · simp only [List.getElem?_toArray, List.getElem?_cons_succ, List.getElem?_cons_zero, Option.some.injEq] at ho; subst ho; refine Or.inl ⟨by rfl, fun Wx hSw => ?_⟩; obtain ⟨hSb, k1⟩ := hSw; go_simp; all_goals with_reducible rfl
      try simp only [Act.put, List.setIfInBounds_toArray, List.set_cons_zero, List.set_cons_succ]
      refine wpAnyH_done (by kernel_rfl) ?_ _
      clear hSS
      generalize World.setCell y9 ⟨Bx, 0, none⟩ (.slice a6 n6 c6) = wz at *
      have hBz := hB5.trans (hSz.mono hB5.size)
      go_wp2_with fail
      refine (refNormal_any a n c zs0 wz hn (by omega) (hR.below hBz) hv).mono ?_
      rintro e w8 ⟨hb8, v8, rfl, hO8⟩
      obtain ⟨a8, c8, rfl, hR8, q1, q2, q3, q4⟩ := hO8.re
      clear q1 q2 q3 q4 hO8
      have hB8 := hBz.trans (hb8.mono hBz.size)
      have hS8 := hSz.trans (hb8.mono hSz.size)
      have hRz8 := hRz.below hb8
      have hbz8 := hbz.below hb8 hbz.lt
      rw [hlX]
      go_wp2_with fail
      refine (refMove_any a8 nX c8 (normal zs0) a1 n1 c1 zs a2 n2 c2 ys w8 hlX (by omega) hR8 hn1 h40 (hS1.below hS8) hc1 hn2 h40' (hS2.below hS8) hc2).mono ?_
      rintro e w9 ⟨hb9, ⟨_, v9, rfl, hO9⟩ | ⟨hno, _⟩⟩
      rotate_left
      · exact absurd hall hno
      obtain ⟨a9, n9, c9, rfl⟩ := hO9.sl
      have hl9 := hO9.shape.1
      have hR9 := hO9.shape.2.1
      have hTT : normal ((moved (known (normal zs0) zs) ys).map dup) = T := hT.symm
      rw [hTT] at hl9 hR9
      have hB9 := hB8.trans (hb9.mono hB8.size)
      have hbz9 := hbz8.below hb9 hbz8.lt
      have hcz := hbz9.cell
      have hRz9 := hRz8.below hb9
      go_wp2_with fail
      refine (is_any a6 n6 c6 T a9 n9 c9 T w9 (by rw [← hl6]) hl9 (by have := hTl.out; omega) (by have := hTl.out; omega) hRz9 hR9).mono ?_
      rintro e w10 ⟨rfl, hb10⟩
      rw [decide_eq_true rfl]
      go_wp2
      go_ret
      exact ⟨rfl, hB9.trans (hb10.mono hB9.size)⟩
  ·
    simp only [List.getElem?_toArray, List.getElem?_cons_succ, List.getElem?_cons_zero, Option.some.injEq] at ho
    subst ho
    have hal := (Below.refl y0.heap.size y0).alloc (Nat.le_refl _) (.cells #[.slice none 0 0] 26)
    have hbx := Box.new y0 26 (.slice none 0 0) y0.heap.size rfl
    have hBx : w5.heap.size ≤ y0.heap.size := hh0.1.size
    go_simp
    have hh10b := hh0.1.alloc hh0.1.size (.cells #[.slice none 0 0] 26)
    generalize hBe : y0.heap.size = Bx at *
    clear hBe
    generalize y0.alloc (.cells #[.slice none 0 0] 26) = y10 at *
    have hh10 : Below w5.heap.size w5 y10 ∧ _ := ⟨hh10b, hcs _ hh10b⟩
    refine hK.out _ _ hh10 (fun _ => ?_)
    clear hK K hal hh10b
    try simp only [Act.put, List.setIfInBounds_toArray, List.set_cons_zero, List.set_cons_succ]
    refine wpAnyH_ready (rs := [2]) (by kernel_rfl) (by simp) (one_op (d := some 42) (by kernel_rfl) fun o ho K hK => ?_)
    simp only [List.getElem?_toArray, List.getElem?_cons_succ, List.getElem?_cons_zero, Option.some.injEq] at ho
    subst ho
    go_simp
    refine (numbers_any a1 n1 c1 zs y10 hn1 (by omega) (hS1.below hh10.1)).mono ?_
    rintro e y11 ⟨hb, v1, rfl, hO⟩
    obtain ⟨p1, k1', rfl, hR1, q1, q2, hz1', q4⟩ := hO.re
    clear q1 q2 q4 hO
    obtain ⟨m1, hl1⟩ : ∃ m, zs.length = m := ⟨_, rfl⟩
    rw [hl1]
    go_wp2_with fail
    have hh11b := hh10.1.trans (hb.mono hh10.1.size)
    have hbx := hbx.below hb hbx.lt
    have hh11 : Below w5.heap.size w5 y11 ∧ _ := ⟨hh11b, hcs _ hh11b⟩
    refine hK.out _ _ hh11 (fun _ => ?_)
    clear hK K hb hh11b
    try simp only [Act.put, List.setIfInBounds_toArray, List.set_cons_zero, List.set_cons_succ]
    refine wpAnyH_ready (rs := [4]) (by kernel_rfl) (by simp) (one_op (d := some 44) (by kernel_rfl) fun o ho K hK => ?_)
    simp only [List.getElem?_toArray, List.getElem?_cons_succ, List.getElem?_cons_zero, Option.some.injEq] at ho
    subst ho
    go_simp
    refine (numbers_any a2 n2 c2 ys y11 hn2 (by omega) (hS2.below hh11.1)).mono ?_
    rintro e y12 ⟨hb, v2, rfl, hO⟩
    obtain ⟨p2, k2', rfl, hR2, q1, q2, hz2', q4⟩ := hO.re
    clear q1 q2 q4 hO
    obtain ⟨m2, hl2⟩ : ∃ m, ys.length = m := ⟨_, rfl⟩
    rw [hl2]
    go_wp2_with fail
    have hh12b := hh11.1.trans (hb.mono hh11.1.size)
    have hR1 := hR1.below hb
    have hbx := hbx.below hb hbx.lt
    have hh12 : Below w5.heap.size w5 y12 ∧ _ := ⟨hh12b, hcs _ hh12b⟩
    refine hK.out _ _ hh12 (fun _ => ?_)
    clear hK K hb hh12b
    try simp only [Act.put, List.setIfInBounds_toArray, List.set_cons_zero, List.set_cons_succ]
    refine wpAnyH_ready (rs := [5]) (by kernel_rfl) (by simp) (one_op (d := some 45) (by kernel_rfl) fun o ho K hK => ?_)
    simp only [List.getElem?_toArray, List.getElem?_cons_succ, List.getElem?_cons_zero, Option.some.injEq] at ho
    subst ho
    go_simp
    refine (move_any aX nX cX (normal zs0) p1 m1 k1' zs p2 m2 k2' ys y12 hlX (by omega) (hRX.below hh12.1) hNX hl1 (by omega) hR1 hz1' hl2 (by omega) hR2 hz2').mono ?_
    rintro e y13 ⟨hb, ⟨_, v6, rfl, hOx⟩ | ⟨hno, _⟩⟩
    rotate_left
    · exact absurd hall hno
    rw [← hT] at hOx
    obtain ⟨a6, n6, c6, rfl⟩ := hOx.sl
    have hl6 := hOx.shape.1
    go_wp2_with fail
    have hh13b := hh12.1.trans (hb.mono hh12.1.size)
    have hbx := hbx.below hb hbx.lt
    have hh13 : Below w5.heap.size w5 y13 ∧ _ := ⟨hh13b, hcs _ hh13b⟩
    refine hK.out _ _ hh13 (fun _ => ?_)
    clear hK K hb hh13b hR1 hR2 hz1' hz2'
    try simp only [Act.put, List.setIfInBounds_toArray, List.set_cons_zero, List.set_cons_succ]
    refine take_op (i := 6) (d := some 39) (v := ?_) (by kernel_rfl) (by kernel_rfl) (by kernel_rfl) (by kernel_rfl) (fun _ _ _ h => h) (fun o ho => ?_) hh13 ?_
    rotate_left
    · simp only [List.getElem?_toArray, List.getElem?_cons_succ, List.getElem?_cons_zero, Option.some.injEq] at ho; subst ho; refine Or.inl ⟨by rfl, fun Wx hSw => ?_⟩; obtain ⟨hSb, k1⟩ := hSw; go_simp; all_goals with_reducible rfl
    try simp only [Act.put, List.setIfInBounds_toArray, List.set_cons_zero, List.set_cons_succ]
    refine take_op (i := 7) (d := some 46) (v := ?_) (by kernel_rfl) (by kernel_rfl) (by kernel_rfl) (by kernel_rfl) (fun _ _ _ h => h) (fun o ho => ?_) hh13 ?_
    rotate_left
    · simp only [List.getElem?_toArray, List.getElem?_cons_succ, List.getElem?_cons_zero, Option.some.injEq] at ho; subst ho; refine Or.inl ⟨by rfl, fun Wx hSw => ?_⟩; obtain ⟨hSb, k1⟩ := hSw; go_simp; all_goals with_reducible rfl
    try simp only [Act.put, List.setIfInBounds_toArray, List.set_cons_zero, List.set_cons_succ]
    refine take_op (i := 8) (d := some 47) (v := ?_) (by kernel_rfl) (by kernel_rfl) (by kernel_rfl) (by kernel_rfl) (fun _ _ _ h => h) (fun o ho => ?_) hh13 ?_
    rotate_left
    · simp only [List.getElem?_toArray, List.getElem?_cons_succ, List.getElem?_cons_zero, Option.some.injEq] at ho; subst ho; refine Or.inl ⟨by rfl, fun Wx hSw => ?_⟩; obtain ⟨hSb, k1⟩ := hSw; go_simp; all_goals with_reducible rfl
    try simp only [Act.put, List.setIfInBounds_toArray, List.set_cons_zero, List.set_cons_succ]
    refine wpAnyH_ready (rs := [10]) (by kernel_rfl) (by simp) (one_op (d := none) (by kernel_rfl) fun o ho K hK => ?_)
    simp only [List.getElem?_toArray, List.getElem?_cons_succ, List.getElem?_cons_zero, Option.some.injEq] at ho
    subst ho
    have hcx := hbx.cell
    have hfx := hbx.free
    go_simp
    have hSz : Below w5.heap.size w5 (World.setCell y13 ⟨Bx, 0, none⟩ (.slice a6 n6 c6)) := hh13.1.setCell (p := ⟨Bx, 0, none⟩) hBx _
    have hbz := hbx.set (.slice a6 n6 c6)
    have hRz : RE TR _ a6 T := ((hOx.far (a := ⟨Bx, 0, none⟩) (hOx.ne hbx (by decide)) (.slice a6 n6 c6)).shape).2.1
    refine hK.out _ _ ⟨hSz, hcs _ hSz⟩ (fun _ => ?_)
    clear hK K hcx hfx hbx
    try simp only [Act.put, List.setIfInBounds_toArray, List.set_cons_zero, List.set_cons_succ]
    have hSS : Below w5.heap.size w5 _ ∧ _ := ⟨hSz, hcs _ hSz⟩
    refine take_op (i := 11) (d := some 10) (v := ?_) (by kernel_rfl) (by kernel_rfl) (by kernel_rfl) (by kernel_rfl) (fun _ _ _ h => h) (fun o ho => ?_) hSS ?_
    rotate_left
    · simp only [List.getElem?_toArray, List.getElem?_cons_succ, List.getElem?_cons_zero, Option.some.injEq] at ho; subst ho; refine Or.inl ⟨by rfl, fun Wx hSw => ?_⟩; obtain ⟨hSb, k1⟩ := hSw; go_simp; all_goals with_reducible rfl
    try simp only [Act.put, List.setIfInBounds_toArray, List.set_cons_zero, List.set_cons_succ]
    refine wpAnyH_done (by kernel_rfl) ?_ _
    clear hSS
    generalize World.setCell y13 ⟨Bx, 0, none⟩ (.slice a6 n6 c6) = wz at *
    have hBz := hB5.trans (hSz.mono hB5.size)
    go_wp2_with fail
    refine (refNormal_any a n c zs0 wz hn (by omega) (hR.below hBz) hv).mono ?_
    rintro e w8 ⟨hb8, v8, rfl, hO8⟩
    obtain ⟨a8, c8, rfl, hR8, q1, q2, q3, q4⟩ := hO8.re
    clear q1 q2 q3 q4 hO8
    have hB8 := hBz.trans (hb8.mono hBz.size)
    have hS8 := hSz.trans (hb8.mono hSz.size)
    have hRz8 := hRz.below hb8
    have hbz8 := hbz.below hb8 hbz.lt
    rw [hlX]
    go_wp2_with fail
    refine (refMove_any a8 nX c8 (normal zs0) a1 n1 c1 zs a2 n2 c2 ys w8 hlX (by omega) hR8 hn1 h40 (hS1.below hS8) hc1 hn2 h40' (hS2.below hS8) hc2).mono ?_
    rintro e w9 ⟨hb9, ⟨_, v9, rfl, hO9⟩ | ⟨hno, _⟩⟩
    rotate_left
    · exact absurd hall hno
    obtain ⟨a9, n9, c9, rfl⟩ := hO9.sl
    have hl9 := hO9.shape.1
    have hR9 := hO9.shape.2.1
    have hTT : normal ((moved (known (normal zs0) zs) ys).map dup) = T := hT.symm
    rw [hTT] at hl9 hR9
    have hB9 := hB8.trans (hb9.mono hB8.size)
    have hbz9 := hbz8.below hb9 hbz8.lt
    have hcz := hbz9.cell
    have hRz9 := hRz8.below hb9
    go_wp2_with fail
    refine (is_any a6 n6 c6 T a9 n9 c9 T w9 (by rw [← hl6]) hl9 (by have := hTl.out; omega) (by have := hTl.out; omega) hRz9 hR9).mono ?_
    rintro e w10 ⟨rfl, hb10⟩
    rw [decide_eq_true rfl]
    go_wp2
    go_ret
    exact ⟨rfl, hB9.trans (hb10.mono hB9.size)⟩

set_option maxRecDepth 100000 in
set_option maxHeartbeats 8000000 in
theorem lawMove_no (a : Option Addr) (n c : Nat) (zs0 : List Rg) (a1 : Option Addr) (n1 c1 : Nat) (zs : List Num) (a2 : Option Addr) (n2 c2 : Nat) (ys : List Num) (w : World) (hn : zs0.length = n) (hR : RE TG w a zs0) (hn1 : zs.length = n1) (hc1 : a1 = none → c1 = 0) (hS1w : RE TV w a1 zs) (hn2 : ys.length = n2) (hc2 : a2 = none → c2 = 0) (hS2w : RE TV w a2 ys)
    (hM : ML w) (hT : TB w) (h30 : n ≤ 30) (h40 : n1 ≤ 40) (h40' : n2 ≤ 40) (hv : ∀ r ∈ zs0, validB r = true) (hall : ¬ numsB (zs ++ ys)) :
    GivesB Tryz.prog 4 #[.slice a n c, .slice a1 n1 c1, .slice a2 n2 c2] (.bool true) w := by
  have hk := known_any w hM hT
  clear hM hT
  have hz1 : ¬ (30 : Int) < (n : Int) := by omega
  have hz2 : ¬ (40 : Int) < (n1 : Int) := by omega
  have hz3 : ¬ (40 : Int) < (n2 : Int) := by omega
  unfold GivesB at hk ⊢
  go_enter Tryz.func4, Tryz.ntmps4
  go_wp2_with fail
  refine hk.mono ?_
  clear hk
  rintro e w1 ⟨rfl, hB1⟩
  go_wp2_with fail
  refine (own_any a n c zs0 w1 hn (by omega) (hR.below hB1)).mono ?_
  rintro e w2 ⟨hb2, v2, rfl, hO2⟩
  have hB2 := hB1.trans (hb2.mono hB1.size)
  obtain ⟨p2, c2', rfl, hR2, q1, q2, q3, q4⟩ := hO2.re
  rw [hn]
  clear q1 q2 q3 q4 hO2 hb2
  go_wp2_with fail
  refine (from_any p2 n c2' zs0 w2 hn (by omega) hR2).mono ?_
  rintro e w3 ⟨hb3, ⟨_, v3, rfl, hO3⟩ | ⟨hno, _⟩⟩
  rotate_left
  · exact absurd hv hno
  have hB3 := hB2.trans (hb3.mono hB2.size)
  obtain ⟨aX, cX, rfl, hRX3, q1, q2, q3, q4⟩ := hO3.re
  clear q1 q2 q3 q4 hO3 hb3 hR2
  obtain ⟨nX, hlX⟩ : ∃ m, (normal zs0).length = m := ⟨_, rfl⟩
  have hnX : nX ≤ 30 := by have := normal_length zs0; omega
  rw [hlX]
  have hB5 := hB3.alloc hB3.size (.cells #[.slice aX nX cX] 26)
  have hbX := Box.new w3 26 (.slice aX nX cX) w3.heap.size rfl
  have hRX := hRX3.alloc (.cells #[.slice aX nX cX] 26)
  go_wp2_with fail
  generalize hsb : w3.heap.size = b1 at *
  generalize w3.alloc (.cells #[.slice aX nX cX] 26) = w5 at *
  clear hsb hRX3
  have hcs : ∀ Wx, Below w5.heap.size w5 Wx → Wx.cell? ⟨b1, 0, none⟩ = some (.slice aX nX cX) := fun Wx hb => (hbX.below hb hbX.lt).cell
  have hS1 := hS1w.below hB5
  have hS2 := hS2w.below hB5
  have hNX := (normal_valid hv).1
  try dsimp only [List.append]
  refine wp_region_held_drew (S := fun Wx => Below w5.heap.size w5 Wx ∧ Wx.cell? ⟨b1, 0, none⟩ = some (.slice aX nX cX)) (by kernel_rfl) ⟨Go.below_drewN (Below.refl _ w5) 1, hcs _ (Go.below_drewN (Below.refl _ w5) 1)⟩ (fun hh0 => ?_)
  generalize hwd : w5.drew = y0 at *
  clear hwd
  refine take_op (i := 0) (d := some 40) (v := ?_) (by kernel_rfl) (by kernel_rfl) (by kernel_rfl) (by kernel_rfl) (fun _ _ _ h => h) (fun o ho => ?_) hh0 ?_
  rotate_left
  · simp only [List.getElem?_toArray, List.getElem?_cons_succ, List.getElem?_cons_zero, Option.some.injEq] at ho; subst ho; refine Or.inl ⟨by rfl, fun Wx hSw => ?_⟩; obtain ⟨hSb, k1⟩ := hSw; go_simp; all_goals with_reducible rfl
  try simp only [Act.put, List.setIfInBounds_toArray, List.set_cons_zero, List.set_cons_succ]
  refine take_op (i := 1) (d := some 41) (v := ?_) (by kernel_rfl) (by kernel_rfl) (by kernel_rfl) (by kernel_rfl) (fun _ _ _ h => h) (fun o ho => ?_) hh0 ?_
  rotate_left
  · simp only [List.getElem?_toArray, List.getElem?_cons_succ, List.getElem?_cons_zero, Option.some.injEq] at ho; subst ho; refine Or.inl ⟨by rfl, fun Wx hSw => ?_⟩; obtain ⟨hSb, k1⟩ := hSw; go_simp; all_goals with_reducible rfl
  try simp only [Act.put, List.setIfInBounds_toArray, List.set_cons_zero, List.set_cons_succ]
  refine take_op (i := 3) (d := some 43) (v := ?_) (by kernel_rfl) (by kernel_rfl) (by kernel_rfl) (by kernel_rfl) (fun _ _ _ h => h) (fun o ho => ?_) hh0 ?_
  rotate_left
  · simp only [List.getElem?_toArray, List.getElem?_cons_succ, List.getElem?_cons_zero, Option.some.injEq] at ho; subst ho; refine Or.inl ⟨by rfl, fun Wx hSw => ?_⟩; obtain ⟨hSb, k1⟩ := hSw; go_simp; all_goals with_reducible rfl
  try simp only [Act.put, List.setIfInBounds_toArray, List.set_cons_zero, List.set_cons_succ]
  refine wpAnyH_ready (rs := [2, 9]) (by kernel_rfl) (by simp) (two_op (d := some 42) (d' := some 9) (by kernel_rfl) (by kernel_rfl) (fun o ho K hK => ?_) (fun o ho K hK => ?_))
  ·
    simp only [List.getElem?_toArray, List.getElem?_cons_succ, List.getElem?_cons_zero, Option.some.injEq] at ho
    subst ho
    go_simp
    refine (numbers_any a1 n1 c1 zs y0 hn1 (by omega) (hS1.below hh0.1)).mono ?_
    rintro e y1 ⟨hb, v1, rfl, hO⟩
    obtain ⟨p1, k1', rfl, hR1, q1, q2, hz1', q4⟩ := hO.re
    clear q1 q2 q4 hO
    obtain ⟨m1, hl1⟩ : ∃ m, zs.length = m := ⟨_, rfl⟩
    rw [hl1]
    go_wp2_with fail
    have hh1b := hh0.1.trans (hb.mono hh0.1.size)
    have hh1 : Below w5.heap.size w5 y1 ∧ _ := ⟨hh1b, hcs _ hh1b⟩
    refine hK.out _ _ hh1 (fun _ => ?_)
    clear hK K hb hh1b
    try simp only [Act.put, List.setIfInBounds_toArray, List.set_cons_zero, List.set_cons_succ]
    refine wpAnyH_ready (rs := [4, 9]) (by kernel_rfl) (by simp) (two_op (d := some 44) (d' := some 9) (by kernel_rfl) (by kernel_rfl) (fun o ho K hK => ?_) (fun o ho K hK => ?_))
    ·
      simp only [List.getElem?_toArray, List.getElem?_cons_succ, List.getElem?_cons_zero, Option.some.injEq] at ho
      subst ho
      go_simp
      refine (numbers_any a2 n2 c2 ys y1 hn2 (by omega) (hS2.below hh1.1)).mono ?_
      rintro e y2 ⟨hb, v2, rfl, hO⟩
      obtain ⟨p2, k2', rfl, hR2, q1, q2, hz2', q4⟩ := hO.re
      clear q1 q2 q4 hO
      obtain ⟨m2, hl2⟩ : ∃ m, ys.length = m := ⟨_, rfl⟩
      rw [hl2]
      go_wp2_with fail
      have hh2b := hh1.1.trans (hb.mono hh1.1.size)
      have hR1 := hR1.below hb
      have hh2 : Below w5.heap.size w5 y2 ∧ _ := ⟨hh2b, hcs _ hh2b⟩
      refine hK.out _ _ hh2 (fun _ => ?_)
      clear hK K hb hh2b
      try simp only [Act.put, List.setIfInBounds_toArray, List.set_cons_zero, List.set_cons_succ]
      refine wpAnyH_ready (rs := [5, 9]) (by kernel_rfl) (by simp) (two_op (d := some 45) (d' := some 9) (by kernel_rfl) (by kernel_rfl) (fun o ho K hK => ?_) (fun o ho K hK => ?_))
      ·
        simp only [List.getElem?_toArray, List.getElem?_cons_succ, List.getElem?_cons_zero, Option.some.injEq] at ho
        subst ho
        go_simp
        refine (move_any aX nX cX (normal zs0) p1 m1 k1' zs p2 m2 k2' ys y2 hlX (by omega) (hRX.below hh2.1) hNX hl1 (by omega) hR1 hz1' hl2 (by omega) hR2 hz2').mono ?_
        rintro e y3 ⟨hb, ⟨hyes, _⟩ | ⟨_, rfl⟩⟩
        · exact absurd hyes hall
        go_wp2_with fail
        have hh3b := hh2.1.trans (hb.mono hh2.1.size)
        have hh3 : Below w5.heap.size w5 y3 ∧ _ := ⟨hh3b, hcs _ hh3b⟩
        refine hK.out _ _ hh3 (fun _ => ?_)
        clear hK K hb hh3b hR1 hR2 hz1' hz2'
        try simp only [Act.put, List.setIfInBounds_toArray, List.set_cons_zero, List.set_cons_succ]
        refine take_op (i := 6) (d := some 39) (v := ?_) (by kernel_rfl) (by kernel_rfl) (by kernel_rfl) (by kernel_rfl) (fun _ _ _ h => h) (fun o ho => ?_) hh3 ?_
        rotate_left
        · simp only [List.getElem?_toArray, List.getElem?_cons_succ, List.getElem?_cons_zero, Option.some.injEq] at ho; subst ho; refine Or.inl ⟨by rfl, fun Wx hSw => ?_⟩; obtain ⟨hSb, k1⟩ := hSw; go_simp; all_goals with_reducible rfl
        try simp only [Act.put, List.setIfInBounds_toArray, List.set_cons_zero, List.set_cons_succ]
        refine take_op (i := 7) (d := some 46) (v := ?_) (by kernel_rfl) (by kernel_rfl) (by kernel_rfl) (by kernel_rfl) (fun _ _ _ h => h) (fun o ho => ?_) hh3 ?_
        rotate_left
        · simp only [List.getElem?_toArray, List.getElem?_cons_succ, List.getElem?_cons_zero, Option.some.injEq] at ho; subst ho; refine Or.inl ⟨by rfl, fun Wx hSw => ?_⟩; obtain ⟨hSb, k1⟩ := hSw; go_simp; all_goals with_reducible rfl
        try simp only [Act.put, List.setIfInBounds_toArray, List.set_cons_zero, List.set_cons_succ]
        refine take_op (i := 8) (d := some 47) (v := ?_) (by kernel_rfl) (by kernel_rfl) (by kernel_rfl) (by kernel_rfl) (fun _ _ _ h => h) (fun o ho => ?_) hh3 ?_
        rotate_left
        · simp only [List.getElem?_toArray, List.getElem?_cons_succ, List.getElem?_cons_zero, Option.some.injEq] at ho; subst ho; refine Or.inl ⟨by rfl, fun Wx hSw => ?_⟩; obtain ⟨hSb, k1⟩ := hSw; go_simp; all_goals with_reducible rfl
        try simp only [Act.put, List.setIfInBounds_toArray, List.set_cons_zero, List.set_cons_succ]
        refine wpAnyH_ready (rs := [9]) (by kernel_rfl) (by simp) (one_op (d := some 9) (by kernel_rfl) fun o ho K hK => ?_)
        simp only [List.getElem?_toArray, List.getElem?_cons_succ, List.getElem?_cons_zero, Option.some.injEq] at ho
        subst ho
        have hal := (Below.refl y3.heap.size y3).alloc (Nat.le_refl _) (.cells #[.slice none 0 0] 26)
        have hbx := Box.new y3 26 (.slice none 0 0) y3.heap.size rfl
        have hBx : w5.heap.size ≤ y3.heap.size := hh3.1.size
        go_simp
        have hh4b := hh3.1.alloc hh3.1.size (.cells #[.slice none 0 0] 26)
        generalize hBe : y3.heap.size = Bx at *
        clear hBe
        generalize y3.alloc (.cells #[.slice none 0 0] 26) = y4 at *
        have hh4 : Below w5.heap.size w5 y4 ∧ _ := ⟨hh4b, hcs _ hh4b⟩
        refine hK.out _ _ hh4 (fun _ => ?_)
        clear hK K hal hh4b
        try simp only [Act.put, List.setIfInBounds_toArray, List.set_cons_zero, List.set_cons_succ]
        refine wpAnyH_ready (rs := [10]) (by kernel_rfl) (by simp) (one_op (d := none) (by kernel_rfl) fun o ho K hK => ?_)
        simp only [List.getElem?_toArray, List.getElem?_cons_succ, List.getElem?_cons_zero, Option.some.injEq] at ho
        subst ho
        have hcx := hbx.cell
        have hfx := hbx.free
        go_simp
        have hSz : Below w5.heap.size w5 (World.setCell y4 ⟨Bx, 0, none⟩ (.slice none 0 0)) := hh4.1.setCell (p := ⟨Bx, 0, none⟩) hBx _
        have hbz := hbx.set (.slice none 0 0)
        have hRz : RE TR (World.setCell y4 ⟨Bx, 0, none⟩ (.slice none 0 0)) none [] := .inl rfl
        refine hK.out _ _ ⟨hSz, hcs _ hSz⟩ (fun _ => ?_)
        clear hK K hcx hfx hbx
        try simp only [Act.put, List.setIfInBounds_toArray, List.set_cons_zero, List.set_cons_succ]
        have hSS : Below w5.heap.size w5 _ ∧ _ := ⟨hSz, hcs _ hSz⟩
        refine take_op (i := 11) (d := some 10) (v := ?_) (by kernel_rfl) (by kernel_rfl) (by kernel_rfl) (by kernel_rfl) (fun _ _ _ h => h) (fun o ho => ?_) hSS ?_
        rotate_left
        · simp only [List.getElem?_toArray, List.getElem?_cons_succ, List.getElem?_cons_zero, Option.some.injEq] at ho; subst ho; refine Or.inl ⟨by rfl, fun Wx hSw => ?_⟩; obtain ⟨hSb, k1⟩ := hSw; go_simp; all_goals with_reducible rfl
        try simp only [Act.put, List.setIfInBounds_toArray, List.set_cons_zero, List.set_cons_succ]
        refine wpAnyH_done (by kernel_rfl) ?_ _
        clear hSS
        generalize World.setCell y4 ⟨Bx, 0, none⟩ (.slice none 0 0) = wz at *
        have hBz := hB5.trans (hSz.mono hB5.size)
        go_wp2_with fail
        refine (refNormal_any a n c zs0 wz hn (by omega) (hR.below hBz) hv).mono ?_
        rintro e w8 ⟨hb8, v8, rfl, hO8⟩
        obtain ⟨a8, c8, rfl, hR8, q1, q2, q3, q4⟩ := hO8.re
        clear q1 q2 q3 q4 hO8
        have hB8 := hBz.trans (hb8.mono hBz.size)
        have hS8 := hSz.trans (hb8.mono hSz.size)
        have hRz8 := hRz.below hb8
        have hbz8 := hbz.below hb8 hbz.lt
        rw [hlX]
        go_wp2_with fail
        refine (refMove_any a8 nX c8 (normal zs0) a1 n1 c1 zs a2 n2 c2 ys w8 hlX (by omega) hR8 hn1 h40 (hS1.below hS8) hc1 hn2 h40' (hS2.below hS8) hc2).mono ?_
        rintro e w9 ⟨hb9, ⟨hyes, _⟩ | ⟨_, rfl⟩⟩
        · exact absurd hyes hall
        have hB9 := hB8.trans (hb9.mono hB8.size)
        have hbz9 := hbz8.below hb9 hbz8.lt
        have hcz := hbz9.cell
        have hRz9 := hRz8.below hb9
        go_wp2_with fail
        refine (is_any none 0 0 [] none 0 0 [] w9 rfl rfl (by decide) (by decide) hRz9 (.inl rfl)).mono ?_
        rintro e w10 ⟨rfl, hb10⟩
        rw [decide_eq_true rfl]
        go_wp2
        go_ret
        exact ⟨rfl, hB9.trans (hb10.mono hB9.size)⟩
      ·
        simp only [List.getElem?_toArray, List.getElem?_cons_succ, List.getElem?_cons_zero, Option.some.injEq] at ho
        subst ho
        have hal := (Below.refl y2.heap.size y2).alloc (Nat.le_refl _) (.cells #[.slice none 0 0] 26)
        have hbx := Box.new y2 26 (.slice none 0 0) y2.heap.size rfl
        have hBx : w5.heap.size ≤ y2.heap.size := hh2.1.size
        go_simp
        have hh5b := hh2.1.alloc hh2.1.size (.cells #[.slice none 0 0] 26)
        have hR1 := hR1.below hal
        have hR2 := hR2.below hal
        generalize hBe : y2.heap.size = Bx at *
        clear hBe
        generalize y2.alloc (.cells #[.slice none 0 0] 26) = y5 at *
        have hh5 : Below w5.heap.size w5 y5 ∧ _ := ⟨hh5b, hcs _ hh5b⟩
        refine hK.out _ _ hh5 (fun _ => ?_)
        clear hK K hal hh5b
        try simp only [Act.put, List.setIfInBounds_toArray, List.set_cons_zero, List.set_cons_succ]
        refine wpAnyH_ready (rs := [5]) (by kernel_rfl) (by simp) (one_op (d := some 45) (by kernel_rfl) fun o ho K hK => ?_)
        simp only [List.getElem?_toArray, List.getElem?_cons_succ, List.getElem?_cons_zero, Option.some.injEq] at ho
        subst ho
        go_simp
        refine (move_any aX nX cX (normal zs0) p1 m1 k1' zs p2 m2 k2' ys y5 hlX (by omega) (hRX.below hh5.1) hNX hl1 (by omega) hR1 hz1' hl2 (by omega) hR2 hz2').mono ?_
        rintro e y6 ⟨hb, ⟨hyes, _⟩ | ⟨_, rfl⟩⟩
        · exact absurd hyes hall
        go_wp2_with fail
        have hh6b := hh5.1.trans (hb.mono hh5.1.size)
        have hbx := hbx.below hb hbx.lt
        have hh6 : Below w5.heap.size w5 y6 ∧ _ := ⟨hh6b, hcs _ hh6b⟩
        refine hK.out _ _ hh6 (fun _ => ?_)
        clear hK K hb hh6b hR1 hR2 hz1' hz2'
        try simp only [Act.put, List.setIfInBounds_toArray, List.set_cons_zero, List.set_cons_succ]
        refine take_op (i := 6) (d := some 39) (v := ?_) (by kernel_rfl) (by kernel_rfl) (by kernel_rfl) (by kernel_rfl) (fun _ _ _ h => h) (fun o ho => ?_) hh6 ?_
        rotate_left
        · simp only [List.getElem?_toArray, List.getElem?_cons_succ, List.getElem?_cons_zero, Option.some.injEq] at ho; subst ho; refine Or.inl ⟨by rfl, fun Wx hSw => ?_⟩; obtain ⟨hSb, k1⟩ := hSw; go_simp; all_goals with_reducible rfl
        try simp only [Act.put, List.setIfInBounds_toArray, List.set_cons_zero, List.set_cons_succ]
        refine take_op (i := 7) (d := some 46) (v := ?_) (by kernel_rfl) (by kernel_rfl) (by kernel_rfl) (by kernel_rfl) (fun _ _ _ h => h) (fun o ho => ?_) hh6 ?_
        rotate_left
        · simp only [List.getElem?_toArray, List.getElem?_cons_succ, List.getElem?_cons_zero, Option.some.injEq] at ho; subst ho; refine Or.inl ⟨by rfl, fun Wx hSw => ?_⟩; obtain ⟨hSb, k1⟩ := hSw; go_simp; all_goals with_reducible rfl
        try simp only [Act.put, List.setIfInBounds_toArray, List.set_cons_zero, List.set_cons_succ]
        refine take_op (i := 8) (d := some 47) (v := ?_) (by kernel_rfl) (by kernel_rfl) (by kernel_rfl) (by kernel_rfl) (fun _ _ _ h => h) (fun o ho => ?_) hh6 ?_
        rotate_left
        · simp only [List.getElem?_toArray, List.getElem?_cons_succ, List.getElem?_cons_zero, Option.some.injEq] at ho; subst ho; refine Or.inl ⟨by rfl, fun Wx hSw => ?_⟩; obtain ⟨hSb, k1⟩ := hSw; go_simp; all_goals with_reducible rfl
        try simp only [Act.put, List.setIfInBounds_toArray, List.set_cons_zero, List.set_cons_succ]
        refine wpAnyH_ready (rs := [10]) (by kernel_rfl) (by simp) (one_op (d := none) (by kernel_rfl) fun o ho K hK => ?_)
        simp only [List.getElem?_toArray, List.getElem?_cons_succ, List.getElem?_cons_zero, Option.some.injEq] at ho
        subst ho
        have hcx := hbx.cell
        have hfx := hbx.free
        go_simp
        have hSz : Below w5.heap.size w5 (World.setCell y6 ⟨Bx, 0, none⟩ (.slice none 0 0)) := hh6.1.setCell (p := ⟨Bx, 0, none⟩) hBx _
        have hbz := hbx.set (.slice none 0 0)
        have hRz : RE TR (World.setCell y6 ⟨Bx, 0, none⟩ (.slice none 0 0)) none [] := .inl rfl
        refine hK.out _ _ ⟨hSz, hcs _ hSz⟩ (fun _ => ?_)
        clear hK K hcx hfx hbx
        try simp only [Act.put, List.setIfInBounds_toArray, List.set_cons_zero, List.set_cons_succ]
        have hSS : Below w5.heap.size w5 _ ∧ _ := ⟨hSz, hcs _ hSz⟩
        refine take_op (i := 11) (d := some 10) (v := ?_) (by kernel_rfl) (by kernel_rfl) (by kernel_rfl) (by kernel_rfl) (fun _ _ _ h => h) (fun o ho => ?_) hSS ?_
        rotate_left
        · simp only [List.getElem?_toArray, List.getElem?_cons_succ, List.getElem?_cons_zero, Option.some.injEq] at ho; subst ho; refine Or.inl ⟨by rfl, fun Wx hSw => ?_⟩; obtain ⟨hSb, k1⟩ := hSw; go_simp; all_goals with_reducible rfl
        try simp only [Act.put, List.setIfInBounds_toArray, List.set_cons_zero, List.set_cons_succ]
        refine wpAnyH_done (by kernel_rfl) ?_ _
        clear hSS
        generalize World.setCell y6 ⟨Bx, 0, none⟩ (.slice none 0 0) = wz at *
        have hBz := hB5.trans (hSz.mono hB5.size)
        go_wp2_with fail
        refine (refNormal_any a n c zs0 wz hn (by omega) (hR.below hBz) hv).mono ?_
        rintro e w8 ⟨hb8, v8, rfl, hO8⟩
        obtain ⟨a8, c8, rfl, hR8, q1, q2, q3, q4⟩ := hO8.re
        clear q1 q2 q3 q4 hO8
        have hB8 := hBz.trans (hb8.mono hBz.size)
        have hS8 := hSz.trans (hb8.mono hSz.size)
        have hRz8 := hRz.below hb8
        have hbz8 := hbz.below hb8 hbz.lt
        rw [hlX]
        go_wp2_with fail
        refine (refMove_any a8 nX c8 (normal zs0) a1 n1 c1 zs a2 n2 c2 ys w8 hlX (by omega) hR8 hn1 h40 (hS1.below hS8) hc1 hn2 h40' (hS2.below hS8) hc2).mono ?_
        rintro e w9 ⟨hb9, ⟨hyes, _⟩ | ⟨_, rfl⟩⟩
        · exact absurd hyes hall
        have hB9 := hB8.trans (hb9.mono hB8.size)
        have hbz9 := hbz8.below hb9 hbz8.lt
        have hcz := hbz9.cell
        have hRz9 := hRz8.below hb9
        go_wp2_with fail
        refine (is_any none 0 0 [] none 0 0 [] w9 rfl rfl (by decide) (by decide) hRz9 (.inl rfl)).mono ?_
        rintro e w10 ⟨rfl, hb10⟩
        rw [decide_eq_true rfl]
        go_wp2
        go_ret
        exact ⟨rfl, hB9.trans (hb10.mono hB9.size)⟩
    ·
      simp only [List.getElem?_toArray, List.getElem?_cons_succ, List.getElem?_cons_zero, Option.some.injEq] at ho
      subst ho
      have hal := (Below.refl y1.heap.size y1).alloc (Nat.le_refl _) (.cells #[.slice none 0 0] 26)
      have hbx := Box.new y1 26 (.slice none 0 0) y1.heap.size rfl
      have hBx : w5.heap.size ≤ y1.heap.size := hh1.1.size
      go_simp
      have hh7b := hh1.1.alloc hh1.1.size (.cells #[.slice none 0 0] 26)
      have hR1 := hR1.below hal
      generalize hBe : y1.heap.size = Bx at *
      clear hBe
      generalize y1.alloc (.cells #[.slice none 0 0] 26) = y7 at *
      have hh7 : Below w5.heap.size w5 y7 ∧ _ := ⟨hh7b, hcs _ hh7b⟩
      refine hK.out _ _ hh7 (fun _ => ?_)
      clear hK K hal hh7b
      try simp only [Act.put, List.setIfInBounds_toArray, List.set_cons_zero, List.set_cons_succ]
      refine wpAnyH_ready (rs := [4]) (by kernel_rfl) (by simp) (one_op (d := some 44) (by kernel_rfl) fun o ho K hK => ?_)
      simp only [List.getElem?_toArray, List.getElem?_cons_succ, List.getElem?_cons_zero, Option.some.injEq] at ho
      subst ho
      go_simp
      refine (numbers_any a2 n2 c2 ys y7 hn2 (by omega) (hS2.below hh7.1)).mono ?_
      rintro e y8 ⟨hb, v2, rfl, hO⟩
      obtain ⟨p2, k2', rfl, hR2, q1, q2, hz2', q4⟩ := hO.re
      clear q1 q2 q4 hO
      obtain ⟨m2, hl2⟩ : ∃ m, ys.length = m := ⟨_, rfl⟩
      rw [hl2]
      go_wp2_with fail
      have hh8b := hh7.1.trans (hb.mono hh7.1.size)
      have hR1 := hR1.below hb
      have hbx := hbx.below hb hbx.lt
      have hh8 : Below w5.heap.size w5 y8 ∧ _ := ⟨hh8b, hcs _ hh8b⟩
      refine hK.out _ _ hh8 (fun _ => ?_)
      clear hK K hb hh8b
      try simp only [Act.put, List.setIfInBounds_toArray, List.set_cons_zero, List.set_cons_succ]
      refine wpAnyH_ready (rs := [5]) (by kernel_rfl) (by simp) (one_op (d := some 45) (by kernel_rfl) fun o ho K hK => ?_)
      simp only [List.getElem?_toArray, List.getElem?_cons_succ, List.getElem?_cons_zero, Option.some.injEq] at ho
      subst ho
      go_simp
      refine (move_any aX nX cX (normal zs0) p1 m1 k1' zs p2 m2 k2' ys y8 hlX (by omega) (hRX.below hh8.1) hNX hl1 (by omega) hR1 hz1' hl2 (by omega) hR2 hz2').mono ?_
      rintro e y9 ⟨hb, ⟨hyes, _⟩ | ⟨_, rfl⟩⟩
      · exact absurd hyes hall
      go_wp2_with fail
      have hh9b := hh8.1.trans (hb.mono hh8.1.size)
      have hbx := hbx.below hb hbx.lt
      have hh9 : Below w5.heap.size w5 y9 ∧ _ := ⟨hh9b, hcs _ hh9b⟩
      refine hK.out _ _ hh9 (fun _ => ?_)
      clear hK K hb hh9b hR1 hR2 hz1' hz2'
      try simp only [Act.put, List.setIfInBounds_toArray, List.set_cons_zero, List.set_cons_succ]
      refine take_op (i := 6) (d := some 39) (v := ?_) (by kernel_rfl) (by kernel_rfl) (by kernel_rfl) (by kernel_rfl) (fun _ _ _ h => h) (fun o ho => ?_) hh9 ?_
      rotate_left
      · simp only [List.getElem?_toArray, List.getElem?_cons_succ, List.getElem?_cons_zero, Option.some.injEq] at ho; subst ho; refine Or.inl ⟨by rfl, fun Wx hSw => ?_⟩; obtain ⟨hSb, k1⟩ := hSw; go_simp; all_goals with_reducible rfl
      try simp only [Act.put, List.setIfInBounds_toArray, List.set_cons_zero, List.set_cons_succ]
      refine take_op (i := 7) (d := some 46) (v := ?_) (by kernel_rfl) (by kernel_rfl) (by kernel_rfl) (by kernel_rfl) (fun _ _ _ h => h) (fun o ho => ?_) hh9 ?_
      rotate_left
      · simp only [List.getElem?_toArray, List.getElem?_cons_succ, List.getElem?_cons_zero, Option.some.injEq] at ho; subst ho; refine Or.inl ⟨by rfl, fun Wx hSw => ?_⟩; obtain ⟨hSb, k1⟩ := hSw; go_simp; all_goals with_reducible rfl
      try simp only [Act.put, List.setIfInBounds_toArray, List.set_cons_zero, List.set_cons_succ]
      refine take_op (i := 8) (d := some 47) (v := ?_) (by kernel_rfl) (by kernel_rfl) (by kernel_rfl) (by kernel_rfl) (fun _ _ _ h => h) (fun o ho => ?_) hh9 ?_
      rotate_left
      · simp only [List.getElem?_toArray, List.getElem?_cons_succ, List.getElem?_cons_zero, Option.some.injEq] at ho; subst ho; refine Or.inl ⟨by rfl, fun Wx hSw => ?_⟩; obtain ⟨hSb, k1⟩ := hSw; go_simp; all_goals with_reducible rfl
      try simp only [Act.put, List.setIfInBounds_toArray, List.set_cons_zero, List.set_cons_succ]
      refine wpAnyH_ready (rs := [10]) (by kernel_rfl) (by simp) (one_op (d := none) (by kernel_rfl) fun o ho K hK => ?_)
      simp only [List.getElem?_toArray, List.getElem?_cons_succ, List.getElem?_cons_zero, Option.some.injEq] at ho
      subst ho
      have hcx := hbx.cell
      have hfx := hbx.free
      go_simp
      have hSz : Below w5.heap.size w5 (World.setCell y9 ⟨Bx, 0, none⟩ (.slice none 0 0)) := hh9.1.setCell (p := ⟨Bx, 0, none⟩) hBx _
      have hbz := hbx.set (.slice none 0 0)
      have hRz : RE TR (World.setCell y9 ⟨Bx, 0, none⟩ (.slice none 0 0)) none [] := .inl rfl
      refine hK.out _ _ ⟨hSz, hcs _ hSz⟩ (fun _ => ?_)
      clear hK K hcx hfx hbx
      try simp only [Act.put, List.setIfInBounds_toArray, List.set_cons_zero, List.set_cons_succ]
      have hSS : Below w5.heap.size w5 _ ∧ _ := ⟨hSz, hcs _ hSz⟩
      refine take_op (i := 11) (d := some 10) (v := ?_) (by kernel_rfl) (by kernel_rfl) (by kernel_rfl) (by kernel_rfl) (fun _ _ _ h => h) (fun o ho => ?_) hSS ?_
      rotate_left
      · simp only [List.getElem?_toArray, List.getElem?_cons_succ, List.getElem?_cons_zero, Option.some.injEq] at ho; subst ho; refine Or.inl ⟨by rfl, fun Wx hSw => ?_⟩; obtain ⟨hSb, k1⟩ := hSw; go_simp; all_goals with_reducible rfl
      try simp only [Act.put, List.setIfInBounds_toArray, List.set_cons_zero, List.set_cons_succ]
      refine wpAnyH_done (by kernel_rfl) ?_ _
      clear hSS
      generalize World.setCell y9 ⟨Bx, 0, none⟩ (.slice none 0 0) = wz at *
      have hBz := hB5.trans (hSz.mono hB5.size)
      go_wp2_with fail
      refine (refNormal_any a n c zs0 wz hn (by omega) (hR.below hBz) hv).mono ?_
      rintro e w8 ⟨hb8, v8, rfl, hO8⟩
      obtain ⟨a8, c8, rfl, hR8, q1, q2, q3, q4⟩ := hO8.re
      clear q1 q2 q3 q4 hO8
      have hB8 := hBz.trans (hb8.mono hBz.size)
      have hS8 := hSz.trans (hb8.mono hSz.size)
      have hRz8 := hRz.below hb8
      have hbz8 := hbz.below hb8 hbz.lt
      rw [hlX]
      go_wp2_with fail
      refine (refMove_any a8 nX c8 (normal zs0) a1 n1 c1 zs a2 n2 c2 ys w8 hlX (by omega) hR8 hn1 h40 (hS1.below hS8) hc1 hn2 h40' (hS2.below hS8) hc2).mono ?_
      rintro e w9 ⟨hb9, ⟨hyes, _⟩ | ⟨_, rfl⟩⟩
      · exact absurd hyes hall
      have hB9 := hB8.trans (hb9.mono hB8.size)
      have hbz9 := hbz8.below hb9 hbz8.lt
      have hcz := hbz9.cell
      have hRz9 := hRz8.below hb9
      go_wp2_with fail
      refine (is_any none 0 0 [] none 0 0 [] w9 rfl rfl (by decide) (by decide) hRz9 (.inl rfl)).mono ?_
      rintro e w10 ⟨rfl, hb10⟩
      rw [decide_eq_true rfl]
      go_wp2
      go_ret
      exact ⟨rfl, hB9.trans (hb10.mono hB9.size)⟩
  ·
    simp only [List.getElem?_toArray, List.getElem?_cons_succ, List.getElem?_cons_zero, Option.some.injEq] at ho
    subst ho
    have hal := (Below.refl y0.heap.size y0).alloc (Nat.le_refl _) (.cells #[.slice none 0 0] 26)
    have hbx := Box.new y0 26 (.slice none 0 0) y0.heap.size rfl
    have hBx : w5.heap.size ≤ y0.heap.size := hh0.1.size
    go_simp
    have hh10b := hh0.1.alloc hh0.1.size (.cells #[.slice none 0 0] 26)
    generalize hBe : y0.heap.size = Bx at *
    clear hBe
    generalize y0.alloc (.cells #[.slice none 0 0] 26) = y10 at *
    have hh10 : Below w5.heap.size w5 y10 ∧ _ := ⟨hh10b, hcs _ hh10b⟩
    refine hK.out _ _ hh10 (fun _ => ?_)
    clear hK K hal hh10b
    try simp only [Act.put, List.setIfInBounds_toArray, List.set_cons_zero, List.set_cons_succ]
    refine wpAnyH_ready (rs := [2]) (by kernel_rfl) (by simp) (one_op (d := some 42) (by kernel_rfl) fun o ho K hK => ?_)
    simp only [List.getElem?_toArray, List.getElem?_cons_succ, List.getElem?_cons_zero, Option.some.injEq] at ho
    subst ho
    go_simp
    refine (numbers_any a1 n1 c1 zs y10 hn1 (by omega) (hS1.below hh10.1)).mono ?_
    rintro e y11 ⟨hb, v1, rfl, hO⟩
    obtain ⟨p1, k1', rfl, hR1, q1, q2, hz1', q4⟩ := hO.re
    clear q1 q2 q4 hO
    obtain ⟨m1, hl1⟩ : ∃ m, zs.length = m := ⟨_, rfl⟩
    rw [hl1]
    go_wp2_with fail
    have hh11b := hh10.1.trans (hb.mono hh10.1.size)
    have hbx := hbx.below hb hbx.lt
    have hh11 : Below w5.heap.size w5 y11 ∧ _ := ⟨hh11b, hcs _ hh11b⟩
    refine hK.out _ _ hh11 (fun _ => ?_)
    clear hK K hb hh11b
    try simp only [Act.put, List.setIfInBounds_toArray, List.set_cons_zero, List.set_cons_succ]
    refine wpAnyH_ready (rs := [4]) (by kernel_rfl) (by simp) (one_op (d := some 44) (by kernel_rfl) fun o ho K hK => ?_)
    simp only [List.getElem?_toArray, List.getElem?_cons_succ, List.getElem?_cons_zero, Option.some.injEq] at ho
    subst ho
    go_simp
    refine (numbers_any a2 n2 c2 ys y11 hn2 (by omega) (hS2.below hh11.1)).mono ?_
    rintro e y12 ⟨hb, v2, rfl, hO⟩
    obtain ⟨p2, k2', rfl, hR2, q1, q2, hz2', q4⟩ := hO.re
    clear q1 q2 q4 hO
    obtain ⟨m2, hl2⟩ : ∃ m, ys.length = m := ⟨_, rfl⟩
    rw [hl2]
    go_wp2_with fail
    have hh12b := hh11.1.trans (hb.mono hh11.1.size)
    have hR1 := hR1.below hb
    have hbx := hbx.below hb hbx.lt
    have hh12 : Below w5.heap.size w5 y12 ∧ _ := ⟨hh12b, hcs _ hh12b⟩
    refine hK.out _ _ hh12 (fun _ => ?_)
    clear hK K hb hh12b
    try simp only [Act.put, List.setIfInBounds_toArray, List.set_cons_zero, List.set_cons_succ]
    refine wpAnyH_ready (rs := [5]) (by kernel_rfl) (by simp) (one_op (d := some 45) (by kernel_rfl) fun o ho K hK => ?_)
    simp only [List.getElem?_toArray, List.getElem?_cons_succ, List.getElem?_cons_zero, Option.some.injEq] at ho
    subst ho
    go_simp
    refine (move_any aX nX cX (normal zs0) p1 m1 k1' zs p2 m2 k2' ys y12 hlX (by omega) (hRX.below hh12.1) hNX hl1 (by omega) hR1 hz1' hl2 (by omega) hR2 hz2').mono ?_
    rintro e y13 ⟨hb, ⟨hyes, _⟩ | ⟨_, rfl⟩⟩
    · exact absurd hyes hall
    go_wp2_with fail
    have hh13b := hh12.1.trans (hb.mono hh12.1.size)
    have hbx := hbx.below hb hbx.lt
    have hh13 : Below w5.heap.size w5 y13 ∧ _ := ⟨hh13b, hcs _ hh13b⟩
    refine hK.out _ _ hh13 (fun _ => ?_)
    clear hK K hb hh13b hR1 hR2 hz1' hz2'
    try simp only [Act.put, List.setIfInBounds_toArray, List.set_cons_zero, List.set_cons_succ]
    refine take_op (i := 6) (d := some 39) (v := ?_) (by kernel_rfl) (by kernel_rfl) (by kernel_rfl) (by kernel_rfl) (fun _ _ _ h => h) (fun o ho => ?_) hh13 ?_
    rotate_left
    · simp only [List.getElem?_toArray, List.getElem?_cons_succ, List.getElem?_cons_zero, Option.some.injEq] at ho; subst ho; refine Or.inl ⟨by rfl, fun Wx hSw => ?_⟩; obtain ⟨hSb, k1⟩ := hSw; go_simp; all_goals with_reducible rfl
    try simp only [Act.put, List.setIfInBounds_toArray, List.set_cons_zero, List.set_cons_succ]
    refine take_op (i := 7) (d := some 46) (v := ?_) (by kernel_rfl) (by kernel_rfl) (by kernel_rfl) (by kernel_rfl) (fun _ _ _ h => h) (fun o ho => ?_) hh13 ?_
    rotate_left
    · simp only [List.getElem?_toArray, List.getElem?_cons_succ, List.getElem?_cons_zero, Option.some.injEq] at ho; subst ho; refine Or.inl ⟨by rfl, fun Wx hSw => ?_⟩; obtain ⟨hSb, k1⟩ := hSw; go_simp; all_goals with_reducible rfl
    try simp only [Act.put, List.setIfInBounds_toArray, List.set_cons_zero, List.set_cons_succ]
    refine take_op (i := 8) (d := some 47) (v := ?_) (by kernel_rfl) (by kernel_rfl) (by kernel_rfl) (by kernel_rfl) (fun _ _ _ h => h) (fun o ho => ?_) hh13 ?_
    rotate_left
    · simp only [List.getElem?_toArray, List.getElem?_cons_succ, List.getElem?_cons_zero, Option.some.injEq] at ho; subst ho; refine Or.inl ⟨by rfl, fun Wx hSw => ?_⟩; obtain ⟨hSb, k1⟩ := hSw; go_simp; all_goals with_reducible rfl
    try simp only [Act.put, List.setIfInBounds_toArray, List.set_cons_zero, List.set_cons_succ]
    refine wpAnyH_ready (rs := [10]) (by kernel_rfl) (by simp) (one_op (d := none) (by kernel_rfl) fun o ho K hK => ?_)
    simp only [List.getElem?_toArray, List.getElem?_cons_succ, List.getElem?_cons_zero, Option.some.injEq] at ho
    subst ho
    have hcx := hbx.cell
    have hfx := hbx.free
    go_simp
    have hSz : Below w5.heap.size w5 (World.setCell y13 ⟨Bx, 0, none⟩ (.slice none 0 0)) := hh13.1.setCell (p := ⟨Bx, 0, none⟩) hBx _
    have hbz := hbx.set (.slice none 0 0)
    have hRz : RE TR (World.setCell y13 ⟨Bx, 0, none⟩ (.slice none 0 0)) none [] := .inl rfl
    refine hK.out _ _ ⟨hSz, hcs _ hSz⟩ (fun _ => ?_)
    clear hK K hcx hfx hbx
    try simp only [Act.put, List.setIfInBounds_toArray, List.set_cons_zero, List.set_cons_succ]
    have hSS : Below w5.heap.size w5 _ ∧ _ := ⟨hSz, hcs _ hSz⟩
    refine take_op (i := 11) (d := some 10) (v := ?_) (by kernel_rfl) (by kernel_rfl) (by kernel_rfl) (by kernel_rfl) (fun _ _ _ h => h) (fun o ho => ?_) hSS ?_
    rotate_left
    · simp only [List.getElem?_toArray, List.getElem?_cons_succ, List.getElem?_cons_zero, Option.some.injEq] at ho; subst ho; refine Or.inl ⟨by rfl, fun Wx hSw => ?_⟩; obtain ⟨hSb, k1⟩ := hSw; go_simp; all_goals with_reducible rfl
    try simp only [Act.put, List.setIfInBounds_toArray, List.set_cons_zero, List.set_cons_succ]
    refine wpAnyH_done (by kernel_rfl) ?_ _
    clear hSS
    generalize World.setCell y13 ⟨Bx, 0, none⟩ (.slice none 0 0) = wz at *
    have hBz := hB5.trans (hSz.mono hB5.size)
    go_wp2_with fail
    refine (refNormal_any a n c zs0 wz hn (by omega) (hR.below hBz) hv).mono ?_
    rintro e w8 ⟨hb8, v8, rfl, hO8⟩
    obtain ⟨a8, c8, rfl, hR8, q1, q2, q3, q4⟩ := hO8.re
    clear q1 q2 q3 q4 hO8
    have hB8 := hBz.trans (hb8.mono hBz.size)
    have hS8 := hSz.trans (hb8.mono hSz.size)
    have hRz8 := hRz.below hb8
    have hbz8 := hbz.below hb8 hbz.lt
    rw [hlX]
    go_wp2_with fail
    refine (refMove_any a8 nX c8 (normal zs0) a1 n1 c1 zs a2 n2 c2 ys w8 hlX (by omega) hR8 hn1 h40 (hS1.below hS8) hc1 hn2 h40' (hS2.below hS8) hc2).mono ?_
    rintro e w9 ⟨hb9, ⟨hyes, _⟩ | ⟨_, rfl⟩⟩
    · exact absurd hyes hall
    have hB9 := hB8.trans (hb9.mono hB8.size)
    have hbz9 := hbz8.below hb9 hbz8.lt
    have hcz := hbz9.cell
    have hRz9 := hRz8.below hb9
    go_wp2_with fail
    refine (is_any none 0 0 [] none 0 0 [] w9 rfl rfl (by decide) (by decide) hRz9 (.inl rfl)).mono ?_
    rintro e w10 ⟨rfl, hb10⟩
    rw [decide_eq_true rfl]
    go_wp2
    go_ret
    exact ⟨rfl, hB9.trans (hb10.mono hB9.size)⟩

set_option maxRecDepth 100000 in
set_option maxHeartbeats 2000000 in
theorem lawMove_bad (a : Option Addr) (n c : Nat) (zs0 : List Rg) (a1 : Option Addr) (n1 c1 : Nat) (a2 : Option Addr) (n2 c2 : Nat) (w : World) (hn : zs0.length = n) (hR : RE TG w a zs0)
    (hM : ML w) (hT : TB w) (h30 : n ≤ 30) (h40 : n1 ≤ 40) (h40' : n2 ≤ 40) (hv : ¬ ∀ r ∈ zs0, validB r = true) :
    GivesB Tryz.prog 4 #[.slice a n c, .slice a1 n1 c1, .slice a2 n2 c2] (.bool true) w := by
  have hk := known_any w hM hT
  clear hM hT
  have hz1 : ¬ (30 : Int) < (n : Int) := by omega
  have hz2 : ¬ (40 : Int) < (n1 : Int) := by omega
  have hz3 : ¬ (40 : Int) < (n2 : Int) := by omega
  unfold GivesB at hk ⊢
  go_enter Tryz.func4, Tryz.ntmps4
  go_wp2_with fail
  refine hk.mono ?_
  clear hk
  rintro e w1 ⟨rfl, hB1⟩
  go_wp2_with fail
  refine (own_any a n c zs0 w1 hn (by omega) (hR.below hB1)).mono ?_
  rintro e w2 ⟨hb2, v2, rfl, hO2⟩
  have hB2 := hB1.trans (hb2.mono hB1.size)
  obtain ⟨p2, c2', rfl, hR2, q1, q2, q3, q4⟩ := hO2.re
  rw [hn]
  clear q1 q2 q3 q4 hO2 hb2
  go_wp2_with fail
  refine (from_any p2 n c2' zs0 w2 hn (by omega) hR2).mono ?_
  rintro e w3 ⟨hb3, ⟨hyes, _⟩ | ⟨_, rfl⟩⟩
  · exact absurd hyes hv
  have hB3 := hB2.trans (hb3.mono hB2.size)
  have hB5 := hB3.alloc hB3.size (.cells #[.slice none 0 0] 26)
  go_wp2_with fail
  go_ret
  exact ⟨rfl, hB5⟩

set_option maxRecDepth 100000 in
set_option maxHeartbeats 2000000 in
theorem lawMove_big (a : Option Addr) (n c : Nat) (a1 : Option Addr) (n1 c1 : Nat) (a2 : Option Addr) (n2 c2 : Nat) (w : World) (hM : ML w) (hT : TB w) (h : ¬ (n ≤ 30 ∧ n1 ≤ 40 ∧ n2 ≤ 40)) :
    GivesB Tryz.prog 4 #[.slice a n c, .slice a1 n1 c1, .slice a2 n2 c2] (.bool true) w := by
  have hk := known_any w hM hT
  have hk2 : ∀ W, Below w.heap.size w W → GivesB Tryz.prog 11 #[] (.bool true) W := fun W hb => known_any W (hM.below hb) (hT.below hb)
  clear hM hT
  unfold GivesB at hk hk2 ⊢
  have hcase : (30 : Int) < (n : Int) ∨ (¬ (30 : Int) < (n : Int) ∧ (40 : Int) < (n1 : Int)) ∨ (¬ (30 : Int) < (n : Int) ∧ ¬ (40 : Int) < (n1 : Int) ∧ (40 : Int) < (n2 : Int)) := by omega
  clear h
  rcases hcase with hz1 | ⟨hz1, hz2⟩ | ⟨hz1, hz2, hz3⟩
  all_goals
    go_enter Tryz.func4, Tryz.ntmps4
    go_wp2_with fail
    refine hk.mono ?_
    clear hk
    rintro e w1 ⟨rfl, hB1⟩
    go_wp2_with fail
    refine (hk2 w1 hB1).mono ?_
    rintro e w2 ⟨rfl, hB2⟩
    go_wp2_with fail
    go_ret
    exact ⟨rfl, hB1.trans (hB2.mono hB1.size)⟩

theorem lawMove_any (a : Option Addr) (n c : Nat) (zs0 : List Rg) (a1 : Option Addr) (n1 c1 : Nat) (zs : List Num) (a2 : Option Addr) (n2 c2 : Nat) (ys : List Num) (w : World) (hM : ML w) (hT : TB w) (hn : zs0.length = n) (hR : RE TG w a zs0)
    (hn1 : zs.length = n1) (hc1 : a1 = none → c1 = 0) (hS1 : RE TV w a1 zs) (hn2 : ys.length = n2) (hc2 : a2 = none → c2 = 0) (hS2 : RE TV w a2 ys) :
    GivesB Tryz.prog 4 #[.slice a n c, .slice a1 n1 c1, .slice a2 n2 c2] (.bool true) w := by
  by_cases h : n ≤ 30 ∧ n1 ≤ 40 ∧ n2 ≤ 40
  case neg => exact lawMove_big a n c a1 n1 c1 a2 n2 c2 w hM hT h
  obtain ⟨h30, h40, h40'⟩ := h
  by_cases hv : ∀ r ∈ zs0, validB r = true
  case neg => exact lawMove_bad a n c zs0 a1 n1 c1 a2 n2 c2 w hn hR hM hT h30 h40 h40' hv
  by_cases hall : numsB (zs ++ ys)
  · exact lawMove_ok a n c zs0 a1 n1 c1 zs a2 n2 c2 ys w hn hR hn1 hc1 hS1 hn2 hc2 hS2 hM hT h30 h40 h40' hv hall
  · exact lawMove_no a n c zs0 a1 n1 c1 zs a2 n2 c2 ys w hn hR hn1 hc1 hS1 hn2 hc2 hS2 hM hT h30 h40 h40' hv hall
end Go.Proofs.YtddmldfdakmecaaGreatDoor
