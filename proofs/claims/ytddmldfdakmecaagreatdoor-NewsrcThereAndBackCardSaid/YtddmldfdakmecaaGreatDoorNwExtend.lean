/- Walk of (*newsrc.Set).extend. -/
import Derived.Test.YtddmldfdakmecaaGreatDoorNwFrom
import Derived.StillTailTactics
import Derived.BigRegion
namespace Go.Proofs.YtddmldfdakmecaaGreatDoor
open Go.RowKit Go.Gn Go.El Go.Nw

def ExtPost (base B : Nat) (xs : List Rg) (w : World) (e : Ending) (w' : World) : Prop :=
  e = .returned (.tuple #[]) ∧ ∃ v', Box w' B 26 v' ∧ OE TR w' base v' xs ∧ Below base w w'

set_option maxRecDepth 100000 in
set_option maxHeartbeats 1000000 in
theorem extend_nil_any (base B : Nat) (a : Option Addr) (c : Nat) (r : Rg) (w : World) (hB : Box w B 26 (.slice a 0 c)) (hO : OE TR w base (.slice a 0 c) []) (hbB : base ≤ B) :
    Calls Tryz.prog 56 #[.pointer (some ⟨B, 0, none⟩), .agg #[.int .i64 r.1, .int .i64 r.2]] w fun e w' => ExtPost base B (extend [] r) w e w' := by
  obtain ⟨x, y⟩ := r
  simp only
  have hc := hB.cell
  have hlt := hB.lt
  have hd : decide ((0 : Int) < 0) = false := rfl
  go_enter Tryz.func56, Tryz.ntmps56
  go_wp2_with fail
  go_quiet (fail)
  have hB2 := (hB.alloc (.cells #[.int .i64 x, .int .i64 y] 92)).drewN nq
  have hO2 := (hO.alloc (.cells #[.int .i64 x, .int .i64 y] 92)).drewN nq
  have k0 : ((w.alloc (.cells #[.int .i64 x, .int .i64 y] 92)).drewN nq).cell? ⟨w.heap.size, 0, none⟩ = some (.int .i64 x) := (new2 w _ _ _).1
  have k1 : ((w.alloc (.cells #[.int .i64 x, .int .i64 y] 92)).drewN nq).cell? ⟨w.heap.size, 1, none⟩ = some (.int .i64 y) := (new2 w _ _ _).2
  have hb2 : Below base w ((w.alloc (.cells #[.int .i64 x, .int .i64 y] 92)).drewN nq) := Go.below_drewN ((Below.refl _ _).alloc (by omega) _) nq
  go_wp2_with fail
  generalize (w.alloc (.cells #[.int .i64 x, .int .i64 y] 92)).drewN nq = w2 at *
  have hc2 := hB2.cell
  have hne := hO2.ne hB2 (by decide)
  have hl2 := hB2.lt
  have hOO : OE TR (w2.alloc (.cells #[.int .i64 x, .int .i64 y] 92)).drew base (.slice a 0 c) [] := hO2.alloc _
  have hNN : RE TR (w2.alloc (.cells #[.int .i64 x, .int .i64 y] 92)).drew (some ⟨w2.heap.size, 0, none⟩) [(x, y)] := RE.new TR w2 [(x, y)] #[.int .i64 x, .int .i64 y] 92 w2.heap.size rfl rfl
  have hbs : base ≤ (w2.alloc (.cells #[.int .i64 x, .int .i64 y] 92)).drew.heap.size := by show base ≤ (w2.alloc _).heap.size; simp; omega
  have hBB : Box (w2.alloc (.cells #[.int .i64 x, .int .i64 y] 92)).drew B 26 (.slice a 0 c) := hB2.alloc _
  go_region_law (refine El.step TR hOO hNN rfl (by intro e; cases e) (by simp) hbs (.tmp 51) (.tmp 53) rfl rfl rfl rfl ?_; intro v1 w3 hO3 hG3; have hB3 := hBB.kept hG3 (Ne.symm hne); have hc3 := hB3.cell; have hf3 := hB3.free; obtain ⟨a1, m1, c1, rfl⟩ := hO3.sl)
  all_goals
    go_end0
    have hne3 := hO3.ne hB3 (by decide)
    exact ⟨rfl, _, hB3.set _, hO3.far hne3 _, ((Go.below_drewN (hb2.alloc (by omega) (.cells #[.int .i64 x, .int .i64 y] 92)) 1).grown hG3 hbs (fun q hq => (World.ownsRow.lt hOO q hq).1)).setCell hbB _⟩

set_option maxRecDepth 100000 in
set_option maxHeartbeats 1000000 in
theorem extend_join_any (base B g : Nat) (c : Nat) (t : List Rg) (q r : Rg) (w : World) (hB : Box w B 26 (.slice (some ⟨g, 0, none⟩) (t.length + 1) c)) (hO : OE TR w base (.slice (some ⟨g, 0, none⟩) (t.length + 1) c) (t ++ [q])) (hbB : base ≤ B) (hT : t.length ≤ 1000000)
    (hq0 : -1099511627776 ≤ q.2) (hq1 : q.2 ≤ 1099511627776) (hj : r.1 ≤ q.2 + 1) :
    Calls Tryz.prog 56 #[.pointer (some ⟨B, 0, none⟩), .agg #[.int .i64 r.1, .int .i64 r.2]] w fun e w' => ExtPost base B (t ++ [(q.1, max q.2 r.2)]) w e w' := by
  obtain ⟨x, y⟩ := r
  obtain ⟨q1, q2⟩ := q
  simp only at hj hq0 hq1 ⊢
  have hc := hB.cell
  have hlt := hB.lt
  obtain ⟨_, hR, hnc, hcm, _, hgg⟩ := hO.shape
  have hg := hgg g 0 rfl
  obtain ⟨g', o', e', hgl, hx1, hx2⟩ := RE.rg (T := TR) rfl rfl hR (k := t.length) (by simp)
  injection e' with e'
  injection e' with e1 e2
  subst e1; subst e2
  rw [List.getElem_append_right (Nat.le_refl _)] at hx1 hx2
  simp only [Nat.sub_self, List.getElem_cons_zero, Nat.zero_add] at hx1 hx2
  generalize hn : t.length = n at *
  have HN := Lib.hid hn
  clear hn
  have hd : decide ((0 : Int) < (n : Int) + 1) = true := decide_eq_true (by omega)
  have hgl := hg.2.2
  have w1 : IntKind.i64.wrap ((n : Int) + 1 - 1) = (n : Int) := by rw [IntWalk.i64_in _ (by omega)]; omega
  have w0 : IntKind.i64.wrap (n : Int) = (n : Int) := IntWalk.i64_in _ (by omega)
  have w2 : IntKind.i64.wrap (q2 + 1) = q2 + 1 := IntWalk.i64_in _ (by omega)
  have hj' : decide (x ≤ q2 + 1) = true := by simpa using hj
  go_enter Tryz.func56, Tryz.ntmps56
  go_wp2_with fail
  go_quiet (fail)
  clear w2 hj'
  have hB2 := (hB.alloc (.cells #[.int .i64 x, .int .i64 y] 92)).drewN nq
  have hO2 := (hO.alloc (.cells #[.int .i64 x, .int .i64 y] 92)).drewN nq
  have k0 : ((w.alloc (.cells #[.int .i64 x, .int .i64 y] 92)).drewN nq).cell? ⟨w.heap.size, 0, none⟩ = some (.int .i64 x) := (new2 w _ _ _).1
  have k1 : ((w.alloc (.cells #[.int .i64 x, .int .i64 y] 92)).drewN nq).cell? ⟨w.heap.size, 1, none⟩ = some (.int .i64 y) := (new2 w _ _ _).2
  have hb2 : Below base w ((w.alloc (.cells #[.int .i64 x, .int .i64 y] 92)).drewN nq) := Go.below_drewN ((Below.refl _ _).alloc (by omega) _) nq
  go_wp2_with fail
  have y2 : ((w.alloc (.cells #[.int .i64 x, .int .i64 y] 92)).drewN nq).cell? ⟨g, n * 2 + 1, none⟩ = some (.int .i64 q2) := ((Below.refl w.heap.size w).alloc (Nat.le_refl _) (.cells #[.int .i64 x, .int .i64 y] 92)).cell (p := ⟨g, n * 2 + 1, none⟩) hgl |>.trans hx2
  clear hx1 hx2 hc
  generalize (w.alloc (.cells #[.int .i64 x, .int .i64 y] 92)).drewN nq = w2 at *
  have hc2 := hB2.cell
  have f2 := hO2.free (n * 2 + 1)
  have i0 : (0 : Int) ≤ (n : Int) := by omega
  have i1 : (n : Int) < (n : Int) + 1 := by omega
  have i2 : (n : Int) < ((n + 1 : Nat) : Int) := by omega
  go_still_tail 20, (by kernel_rfl)
  change wpList _ _ _ _ _ w2.drew
  clear w0 w1
  have hc3 : w2.drew.cell? ⟨g, n * 2 + 1, none⟩ = some (.int .i64 q2) := y2
  have f3 : w2.drew.frozen? ⟨g, n * 2 + 1, none⟩ = false := f2
  go_wp2
  go_end0
  have hne : B ≠ g := fun e => hO2.ne hB2 (by decide) (by rw [e]; rfl)
  have hst := hO2.cell n 1 (.int .i64 (max q2 y)) (x := (q1, q2)) (y := (q1, max q2 y)) (by rw [← HN.out]; simp) (by decide) rfl
  have e2 : (t ++ [(q1, q2)]).set n (q1, max q2 y) = t ++ [(q1, max q2 y)] := by rw [← HN.out]; simp
  rw [e2] at hst
  exact ⟨rfl, _, (hB2.far (p := ⟨g, n * 2 + 1, none⟩) hne _).drewN 1, hst.drewN 1, Go.below_drewN (hb2.setCell (p := ⟨g, n * 2 + 1, none⟩) hg.1 _) 1⟩
end Go.Proofs.YtddmldfdakmecaaGreatDoor
