/- Walks of newsrc.Union, Intersection, Difference. -/
import Derived.Test.YtddmldfdakmecaaGreatDoorNwCombine
namespace Go.Proofs.YtddmldfdakmecaaGreatDoor
open Go.RowKit Go.Gn Go.El Go.Nw

def keepU : Bool → Bool → Bool := fun x y => x || y
theorem cloU (x y : Bool) (W : World) : Calls Tryz.prog 64 #[.bool x, .bool y] W fun e w' => e = .returned (.bool (keepU x y)) ∧ w' = W := by
  cases x <;> cases y
  all_goals
    go_enter Tryz.func64, Tryz.ntmps64
    go_wp2
    go_ret
    exact ⟨rfl, rfl⟩

set_option maxRecDepth 100000 in
set_option maxHeartbeats 1000000 in
theorem union_any (a : Option Addr) (n c : Nat) (zs : List Rg) (a' : Option Addr) (n' c' : Nat) (ys : List Rg) (w : World) (hn : zs.length = n) (hn' : ys.length = n') (hN : n ≤ 5000) (hN' : n' ≤ 5000) (hS : RE TR w a zs) (hS' : RE TR w a' ys) (hc0 : a = none → c = 0) (hc0' : a' = none → c' = 0)
    (hz : Norm zs) (hy : Norm ys) (hvz : ∀ r ∈ zs, validB r = true) (hvy : ∀ r ∈ ys, validB r = true) :
    Calls Tryz.prog 22 #[.agg #[.slice a n c], .agg #[.slice a' n' c']] w fun e w' => CombPost keepU zs ys w e w' := by
  have hb3 : Below w.heap.size w (((w.alloc (.cells #[.slice a n c] 26)).alloc (.cells #[.slice a' n' c'] 26)).alloc (.cells #[.slice none 0 0] 26)) :=
    (((Below.refl _ _).alloc (Nat.le_refl _) _).alloc (by simp) _).alloc (by simp; omega) _
  have hBR : Box (((w.alloc (.cells #[.slice a n c] 26)).alloc (.cells #[.slice a' n' c'] 26)).alloc (.cells #[.slice none 0 0] 26)) (w.heap.size + 1 + 1) 26 (.slice none 0 0) := Box.new ((w.alloc _).alloc _) _ _ _ (by simp)
  have hC := combine_any keepU 64 (enters_of Tryz.func64 (by kernel_rfl) rfl) cloU a n c zs a' n' c' ys _ hn hn' hN hN' (hS.below hb3) (hS'.below hb3) hc0 hc0' hz hy hvz hvy
  clear hS hS' hn hn' hz hy hvz hvy
  go_enter Tryz.func22, Tryz.ntmps22
  go_wp2_with fail
  refine hC.mono ?_
  clear hC
  generalize ((w.alloc (.cells #[.slice a n c] 26)).alloc (.cells #[.slice a' n' c'] 26)).alloc (.cells #[.slice none 0 0] 26) = w0 at *
  rintro e w1 ⟨hb, o, h1, h2, h3, ⟨h4, v, rfl, hO⟩ | ⟨h4, rfl⟩⟩
  · have hX := hBR.below hb hBR.lt
    have hc := hX.cell
    have hf := hX.free
    have HH : Hid (Norm o ∧ (∀ n, memB n o = kept keepU zs ys n) ∧ o.length ≤ 2 * (zs.length + ys.length) ∧ o.length ≤ 4096) := ⟨h1, h2, h3, h4⟩
    obtain ⟨a1, m1, c1, rfl⟩ := hO.sl
    clear h1 h2 h3 h4
    go_wp2
    have hfar := hO.far (a := ⟨w.heap.size + 1 + 1, 0, none⟩) (hO.ne hX (by decide)) (.slice a1 m1 c1)
    have hc7 : (w1.setCell ⟨w.heap.size + 1 + 1, 0, none⟩ (.slice a1 m1 c1)).cell? ⟨w.heap.size + 1 + 1, 0, none⟩ = some (.slice a1 m1 c1) := (hX.set _).cell
    refine bodyPost_ret (v := .tuple #[.agg #[.slice a1 m1 c1], .int .i64 0]) (by simp [results, Tryz.results22, go_sem, hc7]) rfl ⟨?_, o, HH.out.1, HH.out.2.1, HH.out.2.2.1, .inl ⟨HH.out.2.2.2, _, rfl, hfar.mono hb3.size⟩⟩
    exact (below_then' hb3 hb).setCell (p := ⟨w.heap.size + 1 + 1, 0, none⟩) (by simp <;> omega) _
  · have hX := hBR.below hb hBR.lt
    have hc := hX.cell
    have hf := hX.free
    have HH : Hid (Norm o ∧ (∀ n, memB n o = kept keepU zs ys n) ∧ o.length ≤ 2 * (zs.length + ys.length) ∧ ¬ o.length ≤ 4096) := ⟨h1, h2, h3, h4⟩
    clear h1 h2 h3 h4
    go_wp2
    have hc7 : (w1.setCell ⟨w.heap.size + 1 + 1, 0, none⟩ (.slice none 0 0)).cell? ⟨w.heap.size + 1 + 1, 0, none⟩ = some (.slice none 0 0) := (hX.set _).cell
    refine bodyPost_ret (v := .tuple #[.agg #[.slice none 0 0], .int .i64 9]) (by simp [results, Tryz.results22, go_sem, hc7]) rfl ⟨?_, o, HH.out.1, HH.out.2.1, HH.out.2.2.1, .inr ⟨HH.out.2.2.2, rfl⟩⟩
    exact (below_then' hb3 hb).setCell (p := ⟨w.heap.size + 1 + 1, 0, none⟩) (by simp <;> omega) _

def keepI : Bool → Bool → Bool := fun x y => x && y
theorem cloI (x y : Bool) (W : World) : Calls Tryz.prog 65 #[.bool x, .bool y] W fun e w' => e = .returned (.bool (keepI x y)) ∧ w' = W := by
  cases x <;> cases y
  all_goals
    go_enter Tryz.func65, Tryz.ntmps65
    go_wp2
    go_ret
    exact ⟨rfl, rfl⟩

set_option maxRecDepth 100000 in
set_option maxHeartbeats 1000000 in
theorem intersection_any (a : Option Addr) (n c : Nat) (zs : List Rg) (a' : Option Addr) (n' c' : Nat) (ys : List Rg) (w : World) (hn : zs.length = n) (hn' : ys.length = n') (hN : n ≤ 5000) (hN' : n' ≤ 5000) (hS : RE TR w a zs) (hS' : RE TR w a' ys) (hc0 : a = none → c = 0) (hc0' : a' = none → c' = 0)
    (hz : Norm zs) (hy : Norm ys) (hvz : ∀ r ∈ zs, validB r = true) (hvy : ∀ r ∈ ys, validB r = true) :
    Calls Tryz.prog 23 #[.agg #[.slice a n c], .agg #[.slice a' n' c']] w fun e w' => CombPost keepI zs ys w e w' := by
  have hb3 : Below w.heap.size w (((w.alloc (.cells #[.slice a n c] 26)).alloc (.cells #[.slice a' n' c'] 26)).alloc (.cells #[.slice none 0 0] 26)) :=
    (((Below.refl _ _).alloc (Nat.le_refl _) _).alloc (by simp) _).alloc (by simp; omega) _
  have hBR : Box (((w.alloc (.cells #[.slice a n c] 26)).alloc (.cells #[.slice a' n' c'] 26)).alloc (.cells #[.slice none 0 0] 26)) (w.heap.size + 1 + 1) 26 (.slice none 0 0) := Box.new ((w.alloc _).alloc _) _ _ _ (by simp)
  have hC := combine_any keepI 65 (enters_of Tryz.func65 (by kernel_rfl) rfl) cloI a n c zs a' n' c' ys _ hn hn' hN hN' (hS.below hb3) (hS'.below hb3) hc0 hc0' hz hy hvz hvy
  clear hS hS' hn hn' hz hy hvz hvy
  go_enter Tryz.func23, Tryz.ntmps23
  go_wp2_with fail
  refine hC.mono ?_
  clear hC
  generalize ((w.alloc (.cells #[.slice a n c] 26)).alloc (.cells #[.slice a' n' c'] 26)).alloc (.cells #[.slice none 0 0] 26) = w0 at *
  rintro e w1 ⟨hb, o, h1, h2, h3, ⟨h4, v, rfl, hO⟩ | ⟨h4, rfl⟩⟩
  · have hX := hBR.below hb hBR.lt
    have hc := hX.cell
    have hf := hX.free
    have HH : Hid (Norm o ∧ (∀ n, memB n o = kept keepI zs ys n) ∧ o.length ≤ 2 * (zs.length + ys.length) ∧ o.length ≤ 4096) := ⟨h1, h2, h3, h4⟩
    obtain ⟨a1, m1, c1, rfl⟩ := hO.sl
    clear h1 h2 h3 h4
    go_wp2
    have hfar := hO.far (a := ⟨w.heap.size + 1 + 1, 0, none⟩) (hO.ne hX (by decide)) (.slice a1 m1 c1)
    have hc7 : (w1.setCell ⟨w.heap.size + 1 + 1, 0, none⟩ (.slice a1 m1 c1)).cell? ⟨w.heap.size + 1 + 1, 0, none⟩ = some (.slice a1 m1 c1) := (hX.set _).cell
    refine bodyPost_ret (v := .tuple #[.agg #[.slice a1 m1 c1], .int .i64 0]) (by simp [results, Tryz.results23, go_sem, hc7]) rfl ⟨?_, o, HH.out.1, HH.out.2.1, HH.out.2.2.1, .inl ⟨HH.out.2.2.2, _, rfl, hfar.mono hb3.size⟩⟩
    exact (below_then' hb3 hb).setCell (p := ⟨w.heap.size + 1 + 1, 0, none⟩) (by simp <;> omega) _
  · have hX := hBR.below hb hBR.lt
    have hc := hX.cell
    have hf := hX.free
    have HH : Hid (Norm o ∧ (∀ n, memB n o = kept keepI zs ys n) ∧ o.length ≤ 2 * (zs.length + ys.length) ∧ ¬ o.length ≤ 4096) := ⟨h1, h2, h3, h4⟩
    clear h1 h2 h3 h4
    go_wp2
    have hc7 : (w1.setCell ⟨w.heap.size + 1 + 1, 0, none⟩ (.slice none 0 0)).cell? ⟨w.heap.size + 1 + 1, 0, none⟩ = some (.slice none 0 0) := (hX.set _).cell
    refine bodyPost_ret (v := .tuple #[.agg #[.slice none 0 0], .int .i64 9]) (by simp [results, Tryz.results23, go_sem, hc7]) rfl ⟨?_, o, HH.out.1, HH.out.2.1, HH.out.2.2.1, .inr ⟨HH.out.2.2.2, rfl⟩⟩
    exact (below_then' hb3 hb).setCell (p := ⟨w.heap.size + 1 + 1, 0, none⟩) (by simp <;> omega) _

def keepD : Bool → Bool → Bool := fun x y => x && !y
theorem cloD (x y : Bool) (W : World) : Calls Tryz.prog 66 #[.bool x, .bool y] W fun e w' => e = .returned (.bool (keepD x y)) ∧ w' = W := by
  cases x <;> cases y
  all_goals
    go_enter Tryz.func66, Tryz.ntmps66
    go_wp2
    go_ret
    exact ⟨rfl, rfl⟩

set_option maxRecDepth 100000 in
set_option maxHeartbeats 1000000 in
theorem difference_any (a : Option Addr) (n c : Nat) (zs : List Rg) (a' : Option Addr) (n' c' : Nat) (ys : List Rg) (w : World) (hn : zs.length = n) (hn' : ys.length = n') (hN : n ≤ 5000) (hN' : n' ≤ 5000) (hS : RE TR w a zs) (hS' : RE TR w a' ys) (hc0 : a = none → c = 0) (hc0' : a' = none → c' = 0)
    (hz : Norm zs) (hy : Norm ys) (hvz : ∀ r ∈ zs, validB r = true) (hvy : ∀ r ∈ ys, validB r = true) :
    Calls Tryz.prog 24 #[.agg #[.slice a n c], .agg #[.slice a' n' c']] w fun e w' => CombPost keepD zs ys w e w' := by
  have hb3 : Below w.heap.size w (((w.alloc (.cells #[.slice a n c] 26)).alloc (.cells #[.slice a' n' c'] 26)).alloc (.cells #[.slice none 0 0] 26)) :=
    (((Below.refl _ _).alloc (Nat.le_refl _) _).alloc (by simp) _).alloc (by simp; omega) _
  have hBR : Box (((w.alloc (.cells #[.slice a n c] 26)).alloc (.cells #[.slice a' n' c'] 26)).alloc (.cells #[.slice none 0 0] 26)) (w.heap.size + 1 + 1) 26 (.slice none 0 0) := Box.new ((w.alloc _).alloc _) _ _ _ (by simp)
  have hC := combine_any keepD 66 (enters_of Tryz.func66 (by kernel_rfl) rfl) cloD a n c zs a' n' c' ys _ hn hn' hN hN' (hS.below hb3) (hS'.below hb3) hc0 hc0' hz hy hvz hvy
  clear hS hS' hn hn' hz hy hvz hvy
  go_enter Tryz.func24, Tryz.ntmps24
  go_wp2_with fail
  refine hC.mono ?_
  clear hC
  generalize ((w.alloc (.cells #[.slice a n c] 26)).alloc (.cells #[.slice a' n' c'] 26)).alloc (.cells #[.slice none 0 0] 26) = w0 at *
  rintro e w1 ⟨hb, o, h1, h2, h3, ⟨h4, v, rfl, hO⟩ | ⟨h4, rfl⟩⟩
  · have hX := hBR.below hb hBR.lt
    have hc := hX.cell
    have hf := hX.free
    have HH : Hid (Norm o ∧ (∀ n, memB n o = kept keepD zs ys n) ∧ o.length ≤ 2 * (zs.length + ys.length) ∧ o.length ≤ 4096) := ⟨h1, h2, h3, h4⟩
    obtain ⟨a1, m1, c1, rfl⟩ := hO.sl
    clear h1 h2 h3 h4
    go_wp2
    have hfar := hO.far (a := ⟨w.heap.size + 1 + 1, 0, none⟩) (hO.ne hX (by decide)) (.slice a1 m1 c1)
    have hc7 : (w1.setCell ⟨w.heap.size + 1 + 1, 0, none⟩ (.slice a1 m1 c1)).cell? ⟨w.heap.size + 1 + 1, 0, none⟩ = some (.slice a1 m1 c1) := (hX.set _).cell
    refine bodyPost_ret (v := .tuple #[.agg #[.slice a1 m1 c1], .int .i64 0]) (by simp [results, Tryz.results24, go_sem, hc7]) rfl ⟨?_, o, HH.out.1, HH.out.2.1, HH.out.2.2.1, .inl ⟨HH.out.2.2.2, _, rfl, hfar.mono hb3.size⟩⟩
    exact (below_then' hb3 hb).setCell (p := ⟨w.heap.size + 1 + 1, 0, none⟩) (by simp <;> omega) _
  · have hX := hBR.below hb hBR.lt
    have hc := hX.cell
    have hf := hX.free
    have HH : Hid (Norm o ∧ (∀ n, memB n o = kept keepD zs ys n) ∧ o.length ≤ 2 * (zs.length + ys.length) ∧ ¬ o.length ≤ 4096) := ⟨h1, h2, h3, h4⟩
    clear h1 h2 h3 h4
    go_wp2
    have hc7 : (w1.setCell ⟨w.heap.size + 1 + 1, 0, none⟩ (.slice none 0 0)).cell? ⟨w.heap.size + 1 + 1, 0, none⟩ = some (.slice none 0 0) := (hX.set _).cell
    refine bodyPost_ret (v := .tuple #[.agg #[.slice none 0 0], .int .i64 9]) (by simp [results, Tryz.results24, go_sem, hc7]) rfl ⟨?_, o, HH.out.1, HH.out.2.1, HH.out.2.2.1, .inr ⟨HH.out.2.2.2, rfl⟩⟩
    exact (below_then' hb3 hb).setCell (p := ⟨w.heap.size + 1 + 1, 0, none⟩) (by simp <;> omega) _
end Go.Proofs.YtddmldfdakmecaaGreatDoor
