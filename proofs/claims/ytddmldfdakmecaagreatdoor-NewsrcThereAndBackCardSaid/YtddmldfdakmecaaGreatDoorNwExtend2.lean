/- Walk of (*newsrc.Set).extend, the way that appends; the contract of extend. -/
import Derived.Test.YtddmldfdakmecaaGreatDoorNwExtend
namespace Go.Proofs.YtddmldfdakmecaaGreatDoor
open Go.RowKit Go.Gn Go.El Go.Nw

set_option maxRecDepth 100000 in
set_option maxHeartbeats 1000000 in
theorem extend_add_any (base B g : Nat) (c : Nat) (t : List Rg) (q r : Rg) (w : World) (hB : Box w B 26 (.slice (some ⟨g, 0, none⟩) (t.length + 1) c)) (hO : OE TR w base (.slice (some ⟨g, 0, none⟩) (t.length + 1) c) (t ++ [q])) (hbB : base ≤ B) (hT : t.length ≤ 1000000)
    (hq0 : -1099511627776 ≤ q.2) (hq1 : q.2 ≤ 1099511627776) (hj : ¬ r.1 ≤ q.2 + 1) :
    Calls Tryz.prog 56 #[.pointer (some ⟨B, 0, none⟩), .agg #[.int .i64 r.1, .int .i64 r.2]] w fun e w' => ExtPost base B (t ++ [q] ++ [r]) w e w' := by
  obtain ⟨x, y⟩ := r
  obtain ⟨q1, q2⟩ := q
  simp only at hj hq0 hq1 ⊢
  have hc := hB.cell
  have hlt := hB.lt
  obtain ⟨_, hR, hnc, hcm, _, hgg⟩ := hO.shape
  have hg := hgg g 0 rfl
  have hgl := hg.2.2
  obtain ⟨g', o', e', _, hx1, hx2⟩ := RE.rg (T := TR) rfl rfl hR (k := t.length) (by simp)
  injection e' with e'
  injection e' with e1 e2
  subst e1; subst e2
  rw [List.getElem_append_right (Nat.le_refl _)] at hx1 hx2
  simp only [Nat.sub_self, List.getElem_cons_zero, Nat.zero_add] at hx1 hx2
  have hlen : (t ++ [(q1, q2)]).length ≤ 1000001 := by simp; omega
  have HLEN := Lib.hid hlen
  clear hlen
  generalize hn : t.length = n at *
  have HN := Lib.hid hn
  clear hn
  have hd : decide ((0 : Int) < (n : Int) + 1) = true := decide_eq_true (by omega)
  have w1 : IntKind.i64.wrap ((n : Int) + 1 - 1) = (n : Int) := by rw [IntWalk.i64_in _ (by omega)]; omega
  have w2 : IntKind.i64.wrap (q2 + 1) = q2 + 1 := IntWalk.i64_in _ (by omega)
  have hj' : decide (x ≤ q2 + 1) = false := by simpa using hj
  go_enter Tryz.func56, Tryz.ntmps56
  go_wp2_with fail
  go_quiet (fail)
  clear w2 hj'
  have hB2 := (hB.alloc (.cells #[.int .i64 x, .int .i64 y] 92)).drewN nq
  have hO2 := (hO.alloc (.cells #[.int .i64 x, .int .i64 y] 92)).drewN nq
  have k0 : ((w.alloc (.cells #[.int .i64 x, .int .i64 y] 92)).drewN nq).cell? ⟨w.heap.size, 0, none⟩ = some (.int .i64 x) := (new2 w _ _ _).1
  have k1 : ((w.alloc (.cells #[.int .i64 x, .int .i64 y] 92)).drewN nq).cell? ⟨w.heap.size, 1, none⟩ = some (.int .i64 y) := (new2 w _ _ _).2
  have hb2 : Below base w ((w.alloc (.cells #[.int .i64 x, .int .i64 y] 92)).drewN nq) := Go.below_drewN ((Below.refl _ _).alloc (by omega) _) nq
  go_wp2_with fail
  clear hx1 hx2 hc w1
  generalize (w.alloc (.cells #[.int .i64 x, .int .i64 y] 92)).drewN nq = w2 at *
  have hc2 := hB2.cell
  have hne := hO2.ne hB2 (by decide)
  have hl2 := hB2.lt
  have hOO : OE TR (w2.alloc (.cells #[.int .i64 x, .int .i64 y] 92)).drew base (.slice (some ⟨g, 0, none⟩) (n + 1) c) (t ++ [(q1, q2)]) := hO2.alloc _
  have hNN : RE TR (w2.alloc (.cells #[.int .i64 x, .int .i64 y] 92)).drew (some ⟨w2.heap.size, 0, none⟩) [(x, y)] := RE.new TR w2 [(x, y)] #[.int .i64 x, .int .i64 y] 92 w2.heap.size rfl rfl
  have hbs : base ≤ (w2.alloc (.cells #[.int .i64 x, .int .i64 y] 92)).drew.heap.size := by show base ≤ (w2.alloc _).heap.size; simp; omega
  have hBB : Box (w2.alloc (.cells #[.int .i64 x, .int .i64 y] 92)).drew B 26 (.slice (some ⟨g, 0, none⟩) (n + 1) c) := hB2.alloc _
  have hll : Hid ((t ++ [(q1, q2)]).length + 1 ≤ 30000000000) := by unfold Hid; have := HLEN.out; omega
  go_region_law (refine El.step TR (m := 1) hOO hNN rfl (by intro e; cases e) hll.out hbs (.tmp 51) (.tmp 53) rfl rfl rfl rfl ?_; intro v1 w3 hO3 hG3; have hB3 := hBB.kept hG3 (Ne.symm hne); have hc3 := hB3.cell; have hf3 := hB3.free; obtain ⟨a1, m1, c1, rfl⟩ := hO3.sl)
  all_goals
    go_end0
    have hne3 := hO3.ne hB3 (by decide)
    exact ⟨rfl, _, hB3.set _, hO3.far hne3 _, ((Go.below_drewN (hb2.alloc (by omega) (.cells #[.int .i64 x, .int .i64 y] 92)) 1).grown hG3 hbs (fun q hq => (World.ownsRow.lt hOO q hq).1)).setCell hbB _⟩

/-- 'extend'. -/
theorem extend_any (base B : Nat) (v : Value) (xs : List Rg) (r : Rg) (w : World) (hB : Box w B 26 v) (hO : OE TR w base v xs) (hbB : base ≤ B) (hT : xs.length ≤ 1000000) (hq : ∀ q ∈ xs, -1099511627776 ≤ q.2 ∧ q.2 ≤ 1099511627776) :
    Calls Tryz.prog 56 #[.pointer (some ⟨B, 0, none⟩), .agg #[.int .i64 r.1, .int .i64 r.2]] w fun e w' => ExtPost base B (extend xs r) w e w' := by
  rcases List.eq_nil_or_concat xs with rfl | ⟨t, q, rfl⟩
  · obtain ⟨a, c, rfl, _⟩ := hO.re
    exact extend_nil_any base B a c r w hB hO hbB
  · rw [List.concat_eq_append] at *
    obtain ⟨hq0, hq1⟩ := hq q (by simp)
    have hlen : (t ++ [q]).length = t.length + 1 := by simp
    obtain ⟨g, c, hv⟩ : ∃ g c, v = .slice (some ⟨g, 0, none⟩) (t.length + 1) c := by
      rcases hO.2 with ⟨_, h2⟩ | ⟨g, cap, cur, h1, _⟩
      · rw [hlen] at h2; cases h2
      · exact ⟨g, cap, by rw [h1, hlen]⟩
    subst hv
    rw [extend_snoc]
    by_cases hj : r.1 ≤ q.2 + 1
    · rw [if_pos hj]
      exact extend_join_any base B g c t q r w hB hO hbB (by omega) hq0 hq1 hj
    · rw [if_neg hj]
      exact extend_add_any base B g c t q r w hB hO hbB (by omega) hq0 hq1 hj
end Go.Proofs.YtddmldfdakmecaaGreatDoor
