/- Walks of newsrc.Of, Set.Add, Set.Remove (of a valid range). -/
import Derived.Test.YtddmldfdakmecaaGreatDoorNwOps
namespace Go.Proofs.YtddmldfdakmecaaGreatDoor
open Go.RowKit Go.Gn Go.El Go.Nw

def dup (n : Int) : Rg := (n, n)
theorem dup_snoc (l : List Int) (k : Nat) (h : k < l.length) : (l.take (k + 1)).map dup = (l.take k).map dup ++ [dup l[k]] := by
  rw [List.take_succ_eq_append_getElem h, List.map_append]; rfl

set_option maxRecDepth 100000 in
set_option maxHeartbeats 1000000 in
/-- 'Of', of at most 4096 numbers. -/
theorem of_any (a : Option Addr) (n c : Nat) (zs : List Int) (w : World) (hn : zs.length = n) (hN : n ≤ 4096) (hS : RE TN w a zs) :
    Calls Tryz.prog 28 #[.slice a n c] w fun e w' => FromPost (zs.map dup) w e w' := by
  have HN := Lib.hid hn
  have hb0 : Below w.heap.size w (w.alloc (.cells #[.slice none 0 0] 26)) := (Below.refl _ _).alloc (Nat.le_refl _) _
  have hX0 : Box (w.alloc (.cells #[.slice none 0 0] 26)) w.heap.size 26 (.slice none 0 0) := Box.new w _ _ _ rfl
  have HSZ : Hid ((w.alloc (.cells #[.slice none 0 0] 26)).heap.size = w.heap.size + 1) := by unfold Hid; simp
  have hS0 := hS.below hb0
  clear hS hn
  go_enter Tryz.func28, Tryz.ntmps28
  go_wp2
  generalize w.alloc (.cells #[.slice none 0 0] 26) = w0 at *
  go_loopg [4, 9] n (fun gg s4 s9 wr => ∃ (k : Nat), k ≤ n ∧ n - k ≤ gg ∧ s9 = .int .i64 k ∧ OE TR wr w0.heap.size s4 ((zs.take k).map dup) ∧ Below w0.heap.size w0 wr)
  case atStart => exact ⟨0, Nat.zero_le _, by omega, rfl, OE.nil _ _ _, Below.refl _ _⟩
  case round =>
    obtain ⟨k, hk, hg, rfl, hO, hB⟩ := hrel
    by_cases hlt : k < n
    · have hltz : (k : Int) < (n : Int) := by omega
      have hkz : k < zs.length := by rw [HN.out]; exact hlt
      obtain ⟨b, off, rfl, hb, hx⟩ := re_int (hS0.below hB) hkz
      have HTK : Hid ((zs.take (k + 1)).map dup = (zs.take k).map dup ++ [dup zs[k]]) := dup_snoc zs k hkz
      have hll : ((zs.take k).map dup).length + 1 ≤ 30000000000 := by rw [List.length_map, List.length_take]; omega
      generalize zs[k] = x at hx HTK
      have hOO := hO.alloc (.cells #[.int .i64 x, .int .i64 x] 92)
      have hNN : RE TR (wr.alloc (.cells #[.int .i64 x, .int .i64 x] 92)) (some ⟨wr.heap.size, 0, none⟩) [dup x] := RE.new TR wr [dup x] #[.int .i64 x, .int .i64 x] 92 wr.heap.size rfl rfl
      have hbs : w0.heap.size ≤ (wr.alloc (.cells #[.int .i64 x, .int .i64 x] 92)).heap.size := by have := hB.size; simp; omega
      have hB' : Below w0.heap.size w0 (wr.alloc (.cells #[.int .i64 x, .int .i64 x] 92)) := hB.alloc hB.size _
      go_wp2_with (at_builtin; refine El.app TR (m := 1) hOO hNN rfl (by intro e; cases e) hll hbs _ _ rfl rfl rfl rfl ?_; intro v2 w2 hO2 hG2)
      go_roundg (n - (k + 1))
      case measure => omega
      case rel => exact ⟨k + 1, by omega, by omega, by go_num, by rw [HTK.out]; exact hO2, hB'.grown hG2 hbs (fun q hq => (World.ownsRow.lt hO q hq).1)⟩
    · have hltz : ¬ (k : Int) < (n : Int) := by omega
      rw [List.take_of_length_le (by rw [HN.out]; omega)] at hO
      obtain ⟨a1, c1, rfl, hR, q1, q2, q3, q4⟩ := hO.re
      have hF := from_any a1 (zs.map dup).length c1 (zs.map dup) wr rfl (by rw [List.length_map, HN.out]; exact hN) hR
      clear q1 q2 q3 q4
      generalize (zs.map dup).length = m at hF ⊢
      go_wp2_with fail
      refine hF.mono ?_
      clear hF
      rintro e w1 ⟨hb, ⟨hal, v, rfl, hO1⟩ | ⟨hal, rfl⟩⟩
      · have HAL := Lib.hid hal
        have hb01 : Below w0.heap.size w0 w1 := hB.trans (hb.mono hB.size)
        have hX := hX0.below hb01 hX0.lt
        have hc := hX.cell
        have hf := hX.free
        obtain ⟨a2, m2, c2, rfl⟩ := hO1.sl
        clear hal
        go_wp2
        have hfar := hO1.far (a := ⟨w.heap.size, 0, none⟩) (hO1.ne hX (by decide)) (.slice a2 m2 c2)
        have hc7 : (w1.setCell ⟨w.heap.size, 0, none⟩ (.slice a2 m2 c2)).cell? ⟨w.heap.size, 0, none⟩ = some (.slice a2 m2 c2) := (hX.set _).cell
        refine bodyPost_ret (v := .tuple #[.agg #[.slice a2 m2 c2], .int .i64 0]) (by simp [results, Tryz.results28, go_sem, hc7]) rfl ⟨?_, .inl ⟨HAL.out, _, rfl, hfar.mono ?_⟩⟩
        · exact (hb0.trans (hb01.mono (by have := HSZ.out; omega))).setCell (p := ⟨w.heap.size, 0, none⟩) (Nat.le_refl _) _
        · have := hB.size; have := HSZ.out; omega
      · have HAL := Lib.hid hal
        have hb01 : Below w0.heap.size w0 w1 := hB.trans (hb.mono hB.size)
        have hX := hX0.below hb01 hX0.lt
        have hc := hX.cell
        have hf := hX.free
        clear hal
        go_wp2
        have hc7 : (w1.setCell ⟨w.heap.size, 0, none⟩ (.slice none 0 0)).cell? ⟨w.heap.size, 0, none⟩ = some (.slice none 0 0) := (hX.set _).cell
        refine bodyPost_ret (v := .tuple #[.agg #[.slice none 0 0], .int .i64 2]) (by simp [results, Tryz.results28, go_sem, hc7]) rfl ⟨?_, .inr ⟨HAL.out, rfl⟩⟩
        exact (hb0.trans (hb01.mono (by have := HSZ.out; omega))).setCell (p := ⟨w.heap.size, 0, none⟩) (Nat.le_refl _) _

set_option maxRecDepth 100000 in
set_option maxHeartbeats 1000000 in
/-- 'Add' of a valid range. -/
theorem add_any (a : Option Addr) (n c : Nat) (zs : List Rg) (r : Rg) (w : World) (hn : zs.length = n) (hN : n ≤ 5000) (hS : RE TR w a zs) (hc0 : a = none → c = 0) (hz : Norm zs) (hvz : ∀ r ∈ zs, validB r = true) (hr : validB r = true) :
    Calls Tryz.prog 74 #[.agg #[.slice a n c], .agg #[.int .i64 r.1, .int .i64 r.2]] w fun e w' => CombPost keepU zs [r] w e w' := by
  have hr1 := valid_le hr
  have hV := valid_any r
  rw [hr] at hV
  have hU := fun (W : World) (b : Nat) (hS : RE TR W a zs) (hR : RE TR W (some ⟨b, 0, none⟩) [r]) => union_any a n c zs (some ⟨b, 0, none⟩) 1 1 [r] W hn rfl hN (by decide) hS hR hc0 (by intro e; cases e) hz (Norm.one hr1) hvz (by intro q hq; obtain rfl := List.mem_singleton.1 hq; exact hr)
  have HU := Lib.hid hU
  clear hn hz hvz hr hr1 hU
  obtain ⟨x, y⟩ := r
  simp only at hV ⊢
  have hb0 : Below w.heap.size w (((w.alloc (.cells #[.slice a n c] 26)).alloc (.cells #[.int .i64 x, .int .i64 y] 92)).alloc (.cells #[.slice none 0 0] 26)) := (((Below.refl _ _).alloc (Nat.le_refl _) _).alloc (by simp) _).alloc (by simp; omega) _
  have hBA : Box (((w.alloc (.cells #[.slice a n c] 26)).alloc (.cells #[.int .i64 x, .int .i64 y] 92)).alloc (.cells #[.slice none 0 0] 26)) w.heap.size 26 (.slice a n c) := ((Box.new w _ _ _ rfl).alloc _).alloc _
  have hBR : Box (((w.alloc (.cells #[.slice a n c] 26)).alloc (.cells #[.int .i64 x, .int .i64 y] 92)).alloc (.cells #[.slice none 0 0] 26)) (w.heap.size + 1 + 1) 26 (.slice none 0 0) := Box.new ((w.alloc _).alloc _) _ _ _ (by simp)
  have hk := ((Below.refl _ ((w.alloc (.cells #[.slice a n c] 26)).alloc (.cells #[.int .i64 x, .int .i64 y] 92))).alloc (Nat.le_refl _) (.cells #[.slice none 0 0] 26))
  have k0 : (((w.alloc (.cells #[.slice a n c] 26)).alloc (.cells #[.int .i64 x, .int .i64 y] 92)).alloc (.cells #[.slice none 0 0] 26)).cell? ⟨w.heap.size + 1, 0, none⟩ = some (.int .i64 x) := (hk.cell (p := ⟨w.heap.size + 1, 0, none⟩) (by simp)).trans (cell2 _ _ _ _ (by simp)).1
  have k1 : (((w.alloc (.cells #[.slice a n c] 26)).alloc (.cells #[.int .i64 x, .int .i64 y] 92)).alloc (.cells #[.slice none 0 0] 26)).cell? ⟨w.heap.size + 1, 1, none⟩ = some (.int .i64 y) := (hk.cell (p := ⟨w.heap.size + 1, 1, none⟩) (by simp)).trans (cell2 _ _ _ _ (by simp)).2
  have HSZ : Hid ((((w.alloc (.cells #[.slice a n c] 26)).alloc (.cells #[.int .i64 x, .int .i64 y] 92)).alloc (.cells #[.slice none 0 0] 26)).heap.size = w.heap.size + 1 + 1 + 1) := by unfold Hid; simp
  have hS0 := hS.below hb0
  clear hk hS
  unfold GivesB at hV
  go_enter Tryz.func74, Tryz.ntmps74
  go_wp2_with fail
  generalize ((w.alloc (.cells #[.slice a n c] 26)).alloc (.cells #[.int .i64 x, .int .i64 y] 92)).alloc (.cells #[.slice none 0 0] 26) = w0 at *
  refine (hV _).mono ?_
  rintro e w1 ⟨rfl, hb1⟩
  have hc := (hBA.below hb1 hBA.lt).cell
  have c0 := (hb1.cell (p := ⟨w.heap.size + 1, 0, none⟩) (by have := HSZ.out; simp; omega)).trans k0
  have c1 := (hb1.cell (p := ⟨w.heap.size + 1, 1, none⟩) (by have := HSZ.out; simp; omega)).trans k1
  have hU := HU.out (w1.alloc (.cells #[.int .i64 x, .int .i64 y] 92)) w1.heap.size ((hS0.below hb1).alloc _) (RE.new TR w1 [(x, y)] #[.int .i64 x, .int .i64 y] 92 w1.heap.size rfl rfl)
  have hb1' : Below w0.heap.size w0 (w1.alloc (.cells #[.int .i64 x, .int .i64 y] 92)) := hb1.alloc hb1.size _
  have hs1 : w.heap.size + 1 + 1 + 1 ≤ w1.heap.size := by have := hb1.size; have := HSZ.out; omega
  clear hV k0 k1
  go_wp2_with fail
  refine hU.mono ?_
  clear hU
  rintro e w2 ⟨hb, o, h1, h2, h3, ⟨h4, v, rfl, hO⟩ | ⟨h4, rfl⟩⟩
  · have hb02 := below_then' hb1' hb
    have hX := hBR.below hb02 hBR.lt
    have hc' := hX.cell
    have hf := hX.free
    have HH : Hid (Norm o ∧ (∀ n, memB n o = kept keepU zs [(x, y)] n) ∧ o.length ≤ 2 * (zs.length + [(x, y)].length) ∧ o.length ≤ 4096) := ⟨h1, h2, h3, h4⟩
    obtain ⟨a1, m1, c1', rfl⟩ := hO.sl
    clear h1 h2 h3 h4
    go_wp2
    have hfar := hO.far (a := ⟨w.heap.size + 1 + 1, 0, none⟩) (hO.ne hX (by decide)) (.slice a1 m1 c1')
    have hc7 : (w2.setCell ⟨w.heap.size + 1 + 1, 0, none⟩ (.slice a1 m1 c1')).cell? ⟨w.heap.size + 1 + 1, 0, none⟩ = some (.slice a1 m1 c1') := (hX.set _).cell
    refine bodyPost_ret (v := .tuple #[.agg #[.slice a1 m1 c1'], .int .i64 0]) (by simp [results, Tryz.results74, go_sem, hc7]) rfl ⟨?_, o, HH.out.1, HH.out.2.1, HH.out.2.2.1, .inl ⟨HH.out.2.2.2, _, rfl, hfar.mono (by simp; omega)⟩⟩
    exact (below_then' hb0 hb02).setCell (p := ⟨w.heap.size + 1 + 1, 0, none⟩) (by simp <;> omega) _
  · have hb02 := below_then' hb1' hb
    have hX := hBR.below hb02 hBR.lt
    have hc' := hX.cell
    have hf := hX.free
    have HH : Hid (Norm o ∧ (∀ n, memB n o = kept keepU zs [(x, y)] n) ∧ o.length ≤ 2 * (zs.length + [(x, y)].length) ∧ ¬ o.length ≤ 4096) := ⟨h1, h2, h3, h4⟩
    clear h1 h2 h3 h4
    go_wp2
    have hc7 : (w2.setCell ⟨w.heap.size + 1 + 1, 0, none⟩ (.slice none 0 0)).cell? ⟨w.heap.size + 1 + 1, 0, none⟩ = some (.slice none 0 0) := (hX.set _).cell
    refine bodyPost_ret (v := .tuple #[.agg #[.slice none 0 0], .int .i64 9]) (by simp [results, Tryz.results74, go_sem, hc7]) rfl ⟨?_, o, HH.out.1, HH.out.2.1, HH.out.2.2.1, .inr ⟨HH.out.2.2.2, rfl⟩⟩
    exact (below_then' hb0 hb02).setCell (p := ⟨w.heap.size + 1 + 1, 0, none⟩) (by simp <;> omega) _

set_option maxRecDepth 100000 in
set_option maxHeartbeats 1000000 in
/-- 'Remove' of a valid range. -/
theorem remove_any (a : Option Addr) (n c : Nat) (zs : List Rg) (r : Rg) (w : World) (hn : zs.length = n) (hN : n ≤ 5000) (hS : RE TR w a zs) (hc0 : a = none → c = 0) (hz : Norm zs) (hvz : ∀ r ∈ zs, validB r = true) (hr : validB r = true) :
    Calls Tryz.prog 76 #[.agg #[.slice a n c], .agg #[.int .i64 r.1, .int .i64 r.2]] w fun e w' => CombPost keepD zs [r] w e w' := by
  have hr1 := valid_le hr
  have hV := valid_any r
  rw [hr] at hV
  have hU := fun (W : World) (b : Nat) (hS : RE TR W a zs) (hR : RE TR W (some ⟨b, 0, none⟩) [r]) => difference_any a n c zs (some ⟨b, 0, none⟩) 1 1 [r] W hn rfl hN (by decide) hS hR hc0 (by intro e; cases e) hz (Norm.one hr1) hvz (by intro q hq; obtain rfl := List.mem_singleton.1 hq; exact hr)
  have HU := Lib.hid hU
  clear hn hz hvz hr hr1 hU
  obtain ⟨x, y⟩ := r
  simp only at hV ⊢
  have hb0 : Below w.heap.size w (((w.alloc (.cells #[.slice a n c] 26)).alloc (.cells #[.int .i64 x, .int .i64 y] 92)).alloc (.cells #[.slice none 0 0] 26)) := (((Below.refl _ _).alloc (Nat.le_refl _) _).alloc (by simp) _).alloc (by simp; omega) _
  have hBA : Box (((w.alloc (.cells #[.slice a n c] 26)).alloc (.cells #[.int .i64 x, .int .i64 y] 92)).alloc (.cells #[.slice none 0 0] 26)) w.heap.size 26 (.slice a n c) := ((Box.new w _ _ _ rfl).alloc _).alloc _
  have hBR : Box (((w.alloc (.cells #[.slice a n c] 26)).alloc (.cells #[.int .i64 x, .int .i64 y] 92)).alloc (.cells #[.slice none 0 0] 26)) (w.heap.size + 1 + 1) 26 (.slice none 0 0) := Box.new ((w.alloc _).alloc _) _ _ _ (by simp)
  have hk := ((Below.refl _ ((w.alloc (.cells #[.slice a n c] 26)).alloc (.cells #[.int .i64 x, .int .i64 y] 92))).alloc (Nat.le_refl _) (.cells #[.slice none 0 0] 26))
  have k0 : (((w.alloc (.cells #[.slice a n c] 26)).alloc (.cells #[.int .i64 x, .int .i64 y] 92)).alloc (.cells #[.slice none 0 0] 26)).cell? ⟨w.heap.size + 1, 0, none⟩ = some (.int .i64 x) := (hk.cell (p := ⟨w.heap.size + 1, 0, none⟩) (by simp)).trans (cell2 _ _ _ _ (by simp)).1
  have k1 : (((w.alloc (.cells #[.slice a n c] 26)).alloc (.cells #[.int .i64 x, .int .i64 y] 92)).alloc (.cells #[.slice none 0 0] 26)).cell? ⟨w.heap.size + 1, 1, none⟩ = some (.int .i64 y) := (hk.cell (p := ⟨w.heap.size + 1, 1, none⟩) (by simp)).trans (cell2 _ _ _ _ (by simp)).2
  have HSZ : Hid ((((w.alloc (.cells #[.slice a n c] 26)).alloc (.cells #[.int .i64 x, .int .i64 y] 92)).alloc (.cells #[.slice none 0 0] 26)).heap.size = w.heap.size + 1 + 1 + 1) := by unfold Hid; simp
  have hS0 := hS.below hb0
  clear hk hS
  unfold GivesB at hV
  go_enter Tryz.func76, Tryz.ntmps76
  go_wp2_with fail
  generalize ((w.alloc (.cells #[.slice a n c] 26)).alloc (.cells #[.int .i64 x, .int .i64 y] 92)).alloc (.cells #[.slice none 0 0] 26) = w0 at *
  refine (hV _).mono ?_
  rintro e w1 ⟨rfl, hb1⟩
  have hc := (hBA.below hb1 hBA.lt).cell
  have c0 := (hb1.cell (p := ⟨w.heap.size + 1, 0, none⟩) (by have := HSZ.out; simp; omega)).trans k0
  have c1 := (hb1.cell (p := ⟨w.heap.size + 1, 1, none⟩) (by have := HSZ.out; simp; omega)).trans k1
  have hU := HU.out (w1.alloc (.cells #[.int .i64 x, .int .i64 y] 92)) w1.heap.size ((hS0.below hb1).alloc _) (RE.new TR w1 [(x, y)] #[.int .i64 x, .int .i64 y] 92 w1.heap.size rfl rfl)
  have hb1' : Below w0.heap.size w0 (w1.alloc (.cells #[.int .i64 x, .int .i64 y] 92)) := hb1.alloc hb1.size _
  have hs1 : w.heap.size + 1 + 1 + 1 ≤ w1.heap.size := by have := hb1.size; have := HSZ.out; omega
  clear hV k0 k1
  go_wp2_with fail
  refine hU.mono ?_
  clear hU
  rintro e w2 ⟨hb, o, h1, h2, h3, ⟨h4, v, rfl, hO⟩ | ⟨h4, rfl⟩⟩
  · have hb02 := below_then' hb1' hb
    have hX := hBR.below hb02 hBR.lt
    have hc' := hX.cell
    have hf := hX.free
    have HH : Hid (Norm o ∧ (∀ n, memB n o = kept keepD zs [(x, y)] n) ∧ o.length ≤ 2 * (zs.length + [(x, y)].length) ∧ o.length ≤ 4096) := ⟨h1, h2, h3, h4⟩
    obtain ⟨a1, m1, c1', rfl⟩ := hO.sl
    clear h1 h2 h3 h4
    go_wp2
    have hfar := hO.far (a := ⟨w.heap.size + 1 + 1, 0, none⟩) (hO.ne hX (by decide)) (.slice a1 m1 c1')
    have hc7 : (w2.setCell ⟨w.heap.size + 1 + 1, 0, none⟩ (.slice a1 m1 c1')).cell? ⟨w.heap.size + 1 + 1, 0, none⟩ = some (.slice a1 m1 c1') := (hX.set _).cell
    refine bodyPost_ret (v := .tuple #[.agg #[.slice a1 m1 c1'], .int .i64 0]) (by simp [results, Tryz.results76, go_sem, hc7]) rfl ⟨?_, o, HH.out.1, HH.out.2.1, HH.out.2.2.1, .inl ⟨HH.out.2.2.2, _, rfl, hfar.mono (by simp; omega)⟩⟩
    exact (below_then' hb0 hb02).setCell (p := ⟨w.heap.size + 1 + 1, 0, none⟩) (by simp <;> omega) _
  · have hb02 := below_then' hb1' hb
    have hX := hBR.below hb02 hBR.lt
    have hc' := hX.cell
    have hf := hX.free
    have HH : Hid (Norm o ∧ (∀ n, memB n o = kept keepD zs [(x, y)] n) ∧ o.length ≤ 2 * (zs.length + [(x, y)].length) ∧ ¬ o.length ≤ 4096) := ⟨h1, h2, h3, h4⟩
    clear h1 h2 h3 h4
    go_wp2
    have hc7 : (w2.setCell ⟨w.heap.size + 1 + 1, 0, none⟩ (.slice none 0 0)).cell? ⟨w.heap.size + 1 + 1, 0, none⟩ = some (.slice none 0 0) := (hX.set _).cell
    refine bodyPost_ret (v := .tuple #[.agg #[.slice none 0 0], .int .i64 9]) (by simp [results, Tryz.results76, go_sem, hc7]) rfl ⟨?_, o, HH.out.1, HH.out.2.1, HH.out.2.2.1, .inr ⟨HH.out.2.2.2, rfl⟩⟩
    exact (below_then' hb0 hb02).setCell (p := ⟨w.heap.size + 1 + 1, 0, none⟩) (by simp <;> omega) _
end Go.Proofs.YtddmldfdakmecaaGreatDoor
