/- Walks of Set.Count, slices.Equal at newsrc.Range, EqualSets, Ranges. -/
import Derived.Test.YtddmldfdakmecaaGreatDoorNwAt
import Derived.Laws.StructEq
namespace Go.Proofs.YtddmldfdakmecaaGreatDoor
open Go.RowKit Go.Gn Go.El Go.Nw

theorem neqR (x y : Rg) (w : World) : (binOp .neq 92 (.agg #[.int .i64 x.1, .int .i64 x.2]) (.agg #[.int .i64 y.1, .int .i64 y.2])).run Tryz.prog w = .ok (.bool (!(x.1 == y.1 && x.2 == y.2))) w := by
  have u3 := Tryz.underlying3
  have a3 := Tryz.isAgg3
  have z3 := Tryz.sizeOf3
  have hS : Tryz.prog.underlying 92 = some (.struct (Tryz.prog.fieldsOf 92)) := by kernel_rfl
  have hp : Tryz.prog.stoodInHeld 92 = false := by kernel_rfl
  rw [run_neq_struct, show (10000 : Nat) = 9999 + 1 from rfl, run_equalIn_agg w 9999 92 _ _ hS hp]
  simp only [Program.fieldsOf, Tryz.underlying92]
  go_simp
  by_cases h1 : x.fst = y.fst <;> by_cases h2 : x.snd = y.snd <;> simp [h1, h2]

theorem eq_beq (x y : Rg) : (x.1 == y.1 && x.2 == y.2) = decide (x = y) := by
  rw [Bool.eq_iff_iff]
  simp [Prod.ext_iff]

theorem eq_step {α : Type} [DecidableEq α] {L M : List α} {k : Nat} {x y : α} (hx : L[k]? = some x) (hy : M[k]? = some y) (h : x = y) : decide (L.drop k = M.drop k) = decide (L.drop (k + 1) = M.drop (k + 1)) := by
  obtain ⟨h1, e1⟩ := List.getElem?_eq_some_iff.1 hx
  obtain ⟨h2, e2⟩ := List.getElem?_eq_some_iff.1 hy
  rw [List.drop_eq_getElem_cons h1, List.drop_eq_getElem_cons h2, e1, e2, h]; simp
theorem eq_stop {α : Type} [DecidableEq α] {L M : List α} {k : Nat} {x y : α} (hx : L[k]? = some x) (hy : M[k]? = some y) (h : x ≠ y) : decide (L.drop k = M.drop k) = false := by
  obtain ⟨h1, e1⟩ := List.getElem?_eq_some_iff.1 hx
  obtain ⟨h2, e2⟩ := List.getElem?_eq_some_iff.1 hy
  rw [List.drop_eq_getElem_cons h1, List.drop_eq_getElem_cons h2, e1, e2]; simp [h]

set_option maxRecDepth 100000 in
set_option maxHeartbeats 1000000 in
/-- slices.Equal at newsrc.Range. -/
theorem equalR_any (a : Option Addr) (n c : Nat) (zs : List Rg) (a' : Option Addr) (n' c' : Nat) (zs' : List Rg) (w : World) (hn : zs.length = n) (hn' : zs'.length = n') (hN : n ≤ 1000000) (hN' : n' ≤ 1000000) (hS : RE TR w a zs) (hS' : RE TR w a' zs') :
    GivesB Tryz.prog 68 #[.slice a n c, .slice a' n' c'] (.bool (decide (zs = zs'))) w := by
  unfold GivesB
  by_cases hnn : n = n'
  · subst hnn
    have HN := Lib.hid hn
    have HN' := Lib.hid hn'
    clear hn hn'
    have hEG := fun (W : World) (x y : Operand) (xs ys : Array Value) => run_eqGuard_agg (P := Tryz.prog) W .neq 92 x y xs ys (by kernel_rfl)
    go_enter Tryz.func68, Tryz.ntmps68
    go_wp2
    go_loopg [13] n (fun gg s4 wr => ∃ (k : Nat), k ≤ n ∧ n - k ≤ gg ∧ s4 = .int .i64 k ∧ Below w.heap.size w wr ∧ Aside (decide (zs = zs') = decide (zs.drop k = zs'.drop k)))
    case atStart => exact ⟨0, Nat.zero_le _, by omega, rfl, Below.refl _ _, show Aside _ from rfl⟩
    case round =>
      obtain ⟨k, hk, hg, rfl, hB, A⟩ := hrel
      by_cases hlt : k < n
      · have hltz : (k : Int) < (n : Int) := by omega
        have hkz : k < zs.length := by rw [HN.out]; exact hlt
        have hkz' : k < zs'.length := by rw [HN'.out]; exact hlt
        obtain ⟨b, off, rfl, hb, hx1, hx2⟩ := RE.rg (T := TR) rfl rfl (hS.below hB) hkz
        obtain ⟨b', off', rfl, hb', hy1, hy2⟩ := RE.rg (T := TR) rfl rfl (hS'.below hB) hkz'
        have HX : Hid (zs[k]? = some zs[k]) := List.getElem?_eq_getElem hkz
        have HY : Hid (zs'[k]? = some zs'[k]) := List.getElem?_eq_getElem hkz'
        have hq := neqR zs[k] zs'[k]
        rw [eq_beq] at hq
        generalize zs[k] = x at hx1 hx2 HX hq
        generalize zs'[k] = y at hy1 hy2 HY hq
        by_cases he : x = y
        · have HV : Hid (decide (zs = zs') = decide (zs.drop (k + 1) = zs'.drop (k + 1))) := by unfold Hid; rw [A.out, eq_step HX.out HY.out he]
          rw [decide_eq_true he] at hq
          clear he
          go_wp2_with fail
          go_quiet (fail)
          go_wp2
          go_roundg (n - (k + 1))
          case measure => omega
          case rel => exact ⟨k + 1, by omega, by omega, by go_num, Go.below_drewN hB _, by unfold Aside; exact HV.out⟩
        · have HV : Hid (decide (zs = zs') = false) := by unfold Hid; rw [A.out, eq_stop HX.out HY.out he]
          rw [decide_eq_false he] at hq
          clear he
          go_wp2_with fail
          go_quiet (fail)
          go_wp2
          go_ret
          exact ⟨ret_bool HV.out.symm, Go.below_drewN hB _⟩
      · have hltz : ¬ (k : Int) < (n : Int) := by omega
        go_wp2
        go_ret
        refine ⟨ret_bool ?_, hB⟩
        rw [A.out, List.drop_of_length_le (by rw [HN.out]; omega), List.drop_of_length_le (by rw [HN'.out]; omega)]; rfl
  · have hne : decide (zs = zs') = false := by
      simp only [decide_eq_false_iff_not]
      intro e
      have := congrArg List.length e
      omega
    have HNE := Lib.hid hne
    have hz : ¬ (n : Int) = (n' : Int) := by omega
    clear hne hn hn'
    go_enter Tryz.func68, Tryz.ntmps68
    go_wp2
    go_ret
    exact ⟨ret_bool HNE.out.symm, Below.refl _ _⟩

set_option maxRecDepth 100000 in
theorem equalSets_any (a : Option Addr) (n c : Nat) (zs : List Rg) (a' : Option Addr) (n' c' : Nat) (zs' : List Rg) (w : World) (hn : zs.length = n) (hn' : zs'.length = n') (hN : n ≤ 1000000) (hN' : n' ≤ 1000000) (hS : RE TR w a zs) (hS' : RE TR w a' zs') :
    GivesB Tryz.prog 26 #[.agg #[.slice a n c], .agg #[.slice a' n' c']] (.bool (decide (zs = zs'))) w := by
  have hE := fun (W : World) (hb : Below w.heap.size w W) => equalR_any a n c zs a' n' c' zs' W hn hn' hN hN' (hS.below hb) (hS'.below hb)
  unfold GivesB at *
  clear hS hS' hn hn'
  go_enter Tryz.func26, Tryz.ntmps26
  go_wp2_with fail
  have hb0 : Below w.heap.size w ((w.alloc (.cells #[.slice a n c] 26)).alloc (.cells #[.slice a' n' c'] 26)) := ((Below.refl _ _).alloc (Nat.le_refl _) _).alloc (by simp) _
  refine (hE _ hb0).mono ?_
  rintro e w' ⟨rfl, hb⟩
  go_wp2_with fail
  go_ret
  exact ⟨rfl, below_then' hb0 hb⟩

set_option maxRecDepth 100000 in
theorem ranges_any (a : Option Addr) (n c : Nat) (zs : List Rg) (w : World) (hn : zs.length = n) (hN : n ≤ 1000000) (hS : RE TR w a zs) :
    Calls Tryz.prog 62 #[.agg #[.slice a n c]] w fun e w' => CloneR zs w e w' := by
  have hb0 : Below w.heap.size w (w.alloc (.cells #[.slice a n c] 26)) := (Below.refl _ _).alloc (Nat.le_refl _) _
  have hE := cloneR_any a n c zs (w.alloc (.cells #[.slice a n c] 26)) hn hN (hS.alloc _)
  clear hS hn
  go_enter Tryz.func62, Tryz.ntmps62
  go_wp2_with fail
  refine hE.mono ?_
  rintro e w' ⟨v, rfl, hO, hb⟩
  go_wp2_with fail
  go_ret
  exact ⟨v, rfl, hO.mono (by simp), below_then' hb0 hb⟩

/-- How many numbers ranges have. -/
def countL (l : List Rg) : Int := l.foldr (fun r s => r.2 - r.1 + 1 + s) 0
theorem countL_snoc (l : List Rg) (r : Rg) : countL (l ++ [r]) = countL l + (r.2 - r.1 + 1) := by
  induction l with
  | nil => simp [countL]
  | cons x l ih =>
    have e : ∀ (x : Rg) (m : List Rg), countL (x :: m) = x.2 - x.1 + 1 + countL m := fun _ _ => rfl
    rw [List.cons_append, e, e, ih]; omega
theorem countL_bounds {l : List Rg} (h : ∀ r ∈ l, validB r = true) : 0 ≤ countL l ∧ countL l ≤ l.length * 1099511627776 := by
  induction l with
  | nil => simp [countL]
  | cons x l ih =>
    have e : ∀ (x : Rg) (m : List Rg), countL (x :: m) = x.2 - x.1 + 1 + countL m := fun _ _ => rfl
    have h1 := validB_iff.1 (h x (by simp))
    have h2 := ih fun r hr => h r (by simp [hr])
    rw [e, List.length_cons]
    omega

set_option maxRecDepth 100000 in
set_option maxHeartbeats 1000000 in
/-- 'Count'. -/
theorem count_any (a : Option Addr) (n c : Nat) (zs : List Rg) (w : World) (hn : zs.length = n) (hN : n ≤ 100000) (hS : RE TR w a zs) (hv : ∀ r ∈ zs, validB r = true) :
    GivesB Tryz.prog 27 #[.agg #[.slice a n c]] (.int .i64 (countL zs)) w := by
  have hb0 : Below w.heap.size w (w.alloc (.cells #[.slice a n c] 26)) := (Below.refl _ _).alloc (Nat.le_refl _) _
  have hS0 := hS.alloc (.cells #[.slice a n c] 26)
  have HN := Lib.hid hn
  have HV := Lib.hid hv
  clear hn hv hS
  unfold GivesB
  go_enter Tryz.func27, Tryz.ntmps27
  go_wp2
  generalize w.alloc (.cells #[.slice a n c] 26) = w0 at *
  go_loopg [3, 9] n (fun gg s3 s9 wr => ∃ (k : Nat) (m : Int), k ≤ n ∧ n - k ≤ gg ∧ s9 = .int .i64 k ∧ s3 = .int .i64 m ∧ 0 ≤ m ∧ m ≤ k * 1099511627776 ∧ Below w0.heap.size w0 wr ∧ Aside (m = countL (zs.take k)))
  case atStart => exact ⟨0, 0, Nat.zero_le _, by omega, rfl, rfl, Int.le_refl _, by simp, Below.refl _ _, show Aside _ from rfl⟩
  case round =>
    obtain ⟨k, m, hk, hg, rfl, rfl, hm0, hm1, hB, A⟩ := hrel
    by_cases hlt : k < n
    · have hltz : (k : Int) < (n : Int) := by omega
      have hkz : k < zs.length := by rw [HN.out]; exact hlt
      obtain ⟨b, off, rfl, hb, hx1, hx2⟩ := RE.rg (T := TR) rfl rfl (hS0.below hB) hkz
      have hvk := validB_iff.1 (HV.out _ (List.getElem_mem hkz))
      have HT : Hid (countL (zs.take (k + 1)) = countL (zs.take k) + (zs[k].2 - zs[k].1 + 1)) := by
        unfold Hid; rw [List.take_succ_eq_append_getElem hkz, countL_snoc]
      generalize zs[k] = r at hx1 hx2 hvk HT
      obtain ⟨x, y⟩ := r
      simp only at hx1 hx2 hvk HT
      obtain ⟨v1, v2, v3⟩ := hvk
      go_wp2
      go_roundg (n - (k + 1))
      case measure => omega
      case rel => exact ⟨k + 1, m + (y - x + 1), by omega, by omega, by go_num, by go_num, by omega, by omega, hB.alloc hB.size _, by unfold Aside; rw [HT.out, A.out]⟩
    · have hltz : ¬ (k : Int) < (n : Int) := by omega
      go_wp2
      go_ret
      refine ⟨ret_int ?_, below_then' hb0 hB⟩
      rw [A.out, List.take_of_length_le (by rw [HN.out]; omega)]
end Go.Proofs.YtddmldfdakmecaaGreatDoor
