/- Walks of newsrc.limited and FromRanges. -/
import Derived.Test.YtddmldfdakmecaaGreatDoorNwExtend2
namespace Go.Proofs.YtddmldfdakmecaaGreatDoor
open Go.RowKit Go.Gn Go.El Go.Nw

def setV (v : Value) : Value := .agg #[v]

theorem limited_ok (a : Option Addr) (n c : Nat) (w : World) (hn : n ≤ 4096) :
    GivesB Tryz.prog 57 #[.agg #[.slice a n c]] (.tuple #[.agg #[.slice a n c], .int .i64 0]) w := by
  unfold GivesB
  have hz : ¬ (4096 : Int) < (n : Int) := by omega
  go_enter Tryz.func57, Tryz.ntmps57
  go_wp2
  refine bodyPost_ret (v := .tuple #[.agg #[.slice a n c], .int .i64 0]) (by simp [results, Tryz.results57, go_sem]) rfl ⟨rfl, ?_⟩
  exact (((Below.refl _ _).alloc (Nat.le_refl _) _).alloc (by simp) _).mono (Nat.le_refl _)

theorem limited_no (a : Option Addr) (n c : Nat) (w : World) (hn : ¬ n ≤ 4096) :
    GivesB Tryz.prog 57 #[.agg #[.slice a n c]] (.tuple #[.agg #[.slice none 0 0], .int .i64 9]) w := by
  unfold GivesB
  have hz : (4096 : Int) < (n : Int) := by omega
  go_enter Tryz.func57, Tryz.ntmps57
  go_wp2
  refine bodyPost_ret (v := .tuple #[.agg #[.slice none 0 0], .int .i64 9]) (by simp [results, Tryz.results57, go_sem]) rfl ⟨rfl, ?_⟩
  exact (((Below.refl _ _).alloc (Nat.le_refl _) _).alloc (by simp) _).mono (Nat.le_refl _)

theorem valid_le {r : Rg} (h : validB r = true) : r.1 ≤ r.2 := (validB_iff.1 h).2.2

theorem memB_bounds {n : Int} {l : List Rg} (hv : ∀ r ∈ l, validB r = true) (h : memB n l = true) : 1 ≤ n ∧ n ≤ 1099511627776 := by
  obtain ⟨r, hr, h1, h2⟩ := memB_iff.1 h
  have := validB_iff.1 (hv r hr)
  omega
theorem norm_bounds {l m : List Rg} (hv : ∀ r ∈ l, validB r = true) (hN : Norm m) (he : ∀ n, memB n m = memB n l) : ∀ q ∈ m, validB q = true := fun q hq => by
  have h0 := hN.1 q hq
  have h1 := memB_bounds (n := q.1) hv (by rw [← he, memB_iff]; exact ⟨q, hq, Int.le_refl _, h0⟩)
  have h2 := memB_bounds (n := q.2) hv (by rw [← he, memB_iff]; exact ⟨q, hq, h0, Int.le_refl _⟩)
  exact validB_iff.2 ⟨h1.1, h2.2, h0⟩
theorem merge_bounds {l : List Rg} (hv : ∀ r ∈ l, validB r = true) (hs : Sorted l) : ∀ q ∈ merge l, validB q = true :=
  norm_bounds hv (merge_norm l (fun r hr => valid_le (hv r hr)) hs).1 (merge_norm l (fun r hr => valid_le (hv r hr)) hs).2.1

/-- What FromRanges gives: the normal form, or ErrRange. -/
def FromPost (zs : List Rg) (w : World) (e : Ending) (w' : World) : Prop :=
  Below w.heap.size w w' ∧
  (((∀ r ∈ zs, validB r = true) ∧ ∃ v, e = .returned (.tuple #[.agg #[v], .int .i64 0]) ∧ OE TR w' w.heap.size v (normal zs)) ∨
   ((¬ ∀ r ∈ zs, validB r = true) ∧ e = .returned (.tuple #[.agg #[.slice none 0 0], .int .i64 2])))

set_option maxRecDepth 100000 in
set_option maxHeartbeats 2000000 in
/-- 'FromRanges', of at most 4096 ranges. -/
theorem from_any (a : Option Addr) (n c : Nat) (zs : List Rg) (w : World) (hn : zs.length = n) (hN : n ≤ 4096) (hS : RE TR w a zs) :
    Calls Tryz.prog 12 #[.slice a n c] w fun e w' => FromPost zs w e w' := by
  have HN := Lib.hid hn
  clear hn
  go_enter Tryz.func12, Tryz.ntmps12
  go_wp2
  have hX0 : Box (w.alloc (.cells #[.slice none 0 0] 26)) w.heap.size 26 (.slice none 0 0) := Box.new w _ _ _ rfl
  have hb0 : Below w.heap.size w (w.alloc (.cells #[.slice none 0 0] 26)) := (Below.refl _ _).alloc (Nat.le_refl _) _
  have hsz0 : (w.alloc (.cells #[.slice none 0 0] 26)).heap.size = w.heap.size + 1 := by simp
  have HSZ0 := Lib.hid hsz0
  clear hsz0
  have hS0 := hS.alloc (.cells #[.slice none 0 0] 26)
  clear hS
  generalize w.alloc (.cells #[.slice none 0 0] 26) = w0 at *
  go_loopg [12] n (fun gg s12 wr => ∃ k : Nat, k ≤ n ∧ n - k ≤ gg ∧ s12 = .int .i64 k ∧ Below w0.heap.size w0 wr ∧ Aside (∀ j (hj : j < zs.length), j < k → validB zs[j] = true))
  case atStart => exact ⟨0, Nat.zero_le _, by omega, rfl, Below.refl _ _, show Aside _ from fun j _ h => absurd h (Nat.not_lt_zero _)⟩
  case round =>
    obtain ⟨k, hk, hg, rfl, hB, A⟩ := hrel
    by_cases hlt : k < n
    · have hltz : (k : Int) < (n : Int) := by omega
      have hkz : k < zs.length := by rw [HN.out]; exact hlt
      obtain ⟨b, off, rfl, hb, hx1, hx2⟩ := RE.rg (T := TR) rfl rfl (hS0.below hB) hkz
      have hV := fun W => valid_any zs[k] W
      have hXr := hX0.below hB hX0.lt
      have hlx := hX0.lt
      unfold GivesB at hV
      cases hv : validB zs[k] with
      | true =>
        rw [hv] at hV
        have HV := Lib.hid hv
        clear hv
        generalize hr : zs[k] = r at hx1 hx2 hV HV
        have HR := Lib.hid hr
        clear hr
        go_wp2_with fail
        refine (hV _).mono ?_
        rintro e w3 ⟨rfl, hb3⟩
        go_wp2_with fail
        go_roundg (n - (k + 1))
        case measure => omega
        case rel =>
          refine ⟨k + 1, by omega, by omega, by go_num, (hB.alloc hB.size _).trans (hb3.mono (by simp; have := hB.size; omega)), show Aside _ from fun j hj h => ?_⟩
          by_cases e : j = k
          · subst e; rw [HR.out]; exact HV.out
          · exact A.out j hj (by omega)
      | false =>
        rw [hv] at hV
        have HBAD : Hid (¬ ∀ r ∈ zs, validB r = true) := fun h => by rw [h _ (List.getElem_mem hkz)] at hv; cases hv
        clear hv
        generalize zs[k] = r at hx1 hx2 hV
        go_wp2_with fail
        refine (hV _).mono ?_
        rintro e w3 ⟨rfl, hb3⟩
        have hb03 : Below w0.heap.size w0 w3 := (hB.alloc hB.size _).trans (hb3.mono (by simp; have := hB.size; omega))
        have hX3 := hX0.below hb03 hlx
        have hc3 := hX3.cell
        have hf3 := hX3.free
        go_wp2
        refine bodyPost_ret (v := .tuple #[.agg #[.slice none 0 0], .int .i64 2]) (by simp [results, Tryz.results12, go_sem, hc3]) rfl ⟨?_, .inr ⟨HBAD.out, rfl⟩⟩
        exact (hb0.trans (hb03.mono (by have := HSZ0.out; omega))).setCell (p := ⟨w.heap.size, 0, none⟩) (Nat.le_refl _) _
    · have hltz : ¬ (k : Int) < (n : Int) := by omega
      have HALL : Hid (∀ r ∈ zs, validB r = true) := fun r hr => by
        obtain ⟨j, hj, rfl⟩ := List.getElem_of_mem hr
        exact A.out j hj (by rw [HN.out] at hj; omega)
      have hC := cloneR_any a n c zs wr HN.out (by omega) (hS0.below hB)
      go_wp2_with fail
      refine hC.mono ?_
      rintro e w1 ⟨v1, rfl, hO1, hb1⟩
      have hb01 : Below w0.heap.size w0 w1 := hB.trans (hb1.mono hB.size)
      clear hC
      have hSo := sortR_any wr.heap.size v1 zs w1 hO1 (by rw [HN.out]; omega) hb1.size
      go_wp2_with fail
      refine hSo.mono ?_
      rintro e w2 ⟨rfl, ys, hO2, hperm, hsort, hb2⟩
      have HP := Lib.hid hperm
      have HSO := Lib.hid hsort
      clear hSo hperm hsort
      have hb02 : Below w0.heap.size w0 w2 := hb01.trans (hb2.mono hB.size)
      obtain ⟨a2, c2, rfl, hR2, q1, q2, q3, q4⟩ := hO2.re
      clear q1 q2 q3 q4
      have HY : Hid (ys.length = n) := by unfold Hid; rw [HP.out.length_eq, HN.out]
      generalize hm : ys.length = m at HY ⊢
      have HM := Lib.hid hm
      clear hm hO1 hO2
      have hmn : m ≤ 4096 := by rw [HY.out]; exact hN
      go_wp2
      have hw2 : Below w2.heap.size w2 (w2.alloc (.cells #[.slice none 0 0] 26)) := (Below.refl _ _).alloc (Nat.le_refl _) _
      have hXb : Box (w2.alloc (.cells #[.slice none 0 0] 26)) w2.heap.size 26 (.slice none 0 0) := Box.new w2 _ _ _ rfl
      have hvl : ∀ r ∈ ys, validB r = true := fun r hr => HALL.out r (HP.out.mem_iff.1 hr)
      have HVL := Lib.hid hvl
      clear hvl
      go_loopg [27] m (fun gg s27 wr => ∃ (k : Nat) (v : Value), k ≤ m ∧ m - k ≤ gg ∧ s27 = .int .i64 k ∧ Below w2.heap.size w2 wr ∧ Box wr w2.heap.size 26 v ∧ OE TR wr w2.heap.size v (merge (ys.take k)))
      case atStart => exact ⟨0, _, Nat.zero_le _, by omega, rfl, hw2, hXb, OE.nil _ _ _⟩
      case round =>
        obtain ⟨k2, v, hk2, hg2, rfl, hB2, hX2, hO⟩ := hrel
        by_cases hlt2 : k2 < m
        · have hltz2 : (k2 : Int) < (m : Int) := by omega
          have hkz : k2 < ys.length := by rw [HM.out]; exact hlt2
          obtain ⟨b, off, rfl, hb, hx1, hx2⟩ := RE.rg (T := TR) rfl rfl (hR2.below hB2) hkz
          have hml := merge_length (ys.take k2)
          rw [List.length_take] at hml
          have HTK : Hid (merge (ys.take (k2 + 1)) = extend (merge (ys.take k2)) ys[k2]) := by
            unfold Hid; rw [List.take_succ_eq_append_getElem hkz, merge_snoc]
          have hbd : ∀ q ∈ merge (ys.take k2), -1099511627776 ≤ q.2 ∧ q.2 ≤ 1099511627776 := fun q hq => by
            have := validB_iff.1 (merge_bounds (l := ys.take k2) (fun r hr => HVL.out r (List.mem_of_mem_take hr)) (HSO.out.sublist (List.take_sublist _ _)) q hq)
            omega
          have HBD := Lib.hid hbd
          clear hbd
          generalize ys[k2] = r at hx1 hx2 HTK
          have hE := fun (o : Obj) => extend_any w2.heap.size w2.heap.size v (merge (ys.take k2)) r (wr.alloc o) (hX2.alloc o) (hO.alloc o) (Nat.le_refl _) (by omega) HBD.out
          have hs2 := hB2.size
          go_wp2_with fail
          refine (hE _).mono ?_
          clear hE
          rintro e w4 ⟨rfl, v4, hX4, hO4, hb4⟩
          have hb24 : Below w2.heap.size w2 w4 := (hB2.alloc hB2.size _).trans hb4
          go_wp2_with fail
          go_roundg (m - (k2 + 1))
          case measure => omega
          case rel => exact ⟨k2 + 1, v4, by omega, by omega, by go_num, hb24, hX4, by rw [HTK.out]; exact hO4⟩
        · have hltz2 : ¬ (k2 : Int) < (m : Int) := by omega
          have HF : Hid (merge (ys.take k2) = normal zs) := by
            unfold Hid
            rw [List.take_of_length_le (by rw [HM.out]; omega)]
            exact normal_of HP.out HSO.out fun r hr => valid_le (HALL.out r hr)
          rw [HF.out] at hO
          have hml := normal_length zs
          obtain ⟨a5, c5, rfl, hR5, hle5, hcm5, q1, q2⟩ := hO.re
          clear q1 q2
          have hc2 := hX2.cell
          have hLim := limited_ok a5 (normal zs).length c5
          generalize hL : (normal zs).length = L at hc2 hX2 hO hLim ⊢
          have hLL := fun (W : World) => hLim W (by rw [← hL]; exact Nat.le_trans hml (by rw [HN.out]; exact hN))
          have HL := Lib.hid hL
          clear hL hLim
          unfold GivesB at hLL
          go_wp2_with fail
          refine (hLL _).mono ?_
          rintro e w6 ⟨rfl, hb6⟩
          have hO6 := hO.below hb6
          have hb02' : Below w0.heap.size w0 wr := hb02.trans (hB2.mono hb02.size)
          have hb06 : Below w0.heap.size w0 w6 := hb02'.trans (hb6.mono hb02'.size)
          have hX6 := hX0.below hb06 hX0.lt
          have hc6 := hX6.cell
          have hf6 := hX6.free
          go_wp2
          have hfar := hO6.far (a := ⟨w.heap.size, 0, none⟩) (hO6.ne hX6 (by decide)) (.slice a5 L c5)
          have hc7 : (w6.setCell ⟨w.heap.size, 0, none⟩ (.slice a5 L c5)).cell? ⟨w.heap.size, 0, none⟩ = some (.slice a5 L c5) := (hX6.set _).cell
          refine bodyPost_ret (v := .tuple #[.agg #[.slice a5 L c5], .int .i64 0]) (by simp [results, Tryz.results12, go_sem, hc7]) rfl ⟨?_, .inl ⟨HALL.out, _, rfl, hfar.mono ?_⟩⟩
          · exact (hb0.trans (hb06.mono (by have := HSZ0.out; omega))).setCell (p := ⟨w.heap.size, 0, none⟩) (Nat.le_refl _) _
          · have := hb02.size; have := HSZ0.out; omega
end Go.Proofs.YtddmldfdakmecaaGreatDoor
