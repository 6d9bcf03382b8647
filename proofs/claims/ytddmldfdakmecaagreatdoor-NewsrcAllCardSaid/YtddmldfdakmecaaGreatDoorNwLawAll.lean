/- The law NewsrcAll answers true. -/
import Derived.Test.YtddmldfdakmecaaGreatDoorNwAll
import Derived.Test.YtddmldfdakmecaaGreatDoorNwRefNormal
import Derived.Test.YtddmldfdakmecaaGreatDoorNwHeld
import Derived.StillTailTactics
namespace Go.Proofs.YtddmldfdakmecaaGreatDoor
def lastOf (pre : List Int) : Int := pre.getLast?.getD 0
theorem lastOf_nil : lastOf [] = 0 := rfl
theorem lastOf_snoc (pre : List Int) (x : Int) : lastOf (pre ++ [x]) = x := by unfold lastOf; simp
end Go.Proofs.YtddmldfdakmecaaGreatDoor
namespace Go.Proofs.YtddmldfdakmecaaGreatDoor
open Go.RowKit Go.Shelf Go.Gn Go.El Go.Nw
attribute [local go_sem] Oper.semAt_some

theorem pre_good {X : List Rg} (hN : Norm X) (hv : ∀ r ∈ X, validB r = true) {pre : List Int} {x : Int} (hp : (pre ++ [x]) <+: nums X) : lastOf pre < x ∧ memB x X = true := by
  have hm : x ∈ nums X := hp.subset (by simp)
  have hb := mem_nums.1 hm
  refine ⟨?_, hb⟩
  have h1 := memB_bounds hv hb
  have hpw := (nums_pairwise hN).sublist hp.sublist
  rcases List.eq_nil_or_concat pre with rfl | ⟨t, q, rfl⟩
  · rw [lastOf_nil]; omega
  · rw [List.concat_eq_append] at *
    rw [lastOf_snoc]
    rw [List.pairwise_append] at hpw
    exact hpw.2.2 q (by simp) x (by simp)
theorem nums_none {X : List Rg} (hv : ∀ r ∈ X, validB r = true) (h : nums X = []) : X = [] := by
  cases X with
  | nil => rfl
  | cons r l =>
    have h1 := validB_iff.1 (hv r (by simp))
    have : r.1 ∈ nums (r :: l) := mem_nums.2 (memB_iff.2 ⟨r, by simp, Int.le_refl _, h1.2.2⟩)
    rw [h] at this; cases this
theorem betw_last {X : List Rg} (hN : Norm X) {pre : List Int} (hp : pre <+: nums X) (h0 : pre = [] → X = []) : betw (lastOf pre) X = (pre.length : Int) := by
  rcases List.eq_nil_or_concat pre with rfl | ⟨t, q, rfl⟩
  · rw [h0 rfl]; rfl
  · rw [List.concat_eq_append] at *
    rw [lastOf_snoc, betw_prefix hN hp]
    simp

theorem Box.own {W W' : World} {row : Option Nat} {B : Nat} {t : TypeId} {v : Value} (h : Box W B t v) (hg : W.grownBy W' row) (hr : ∀ r, row = some r → ∃ o : Obj, W.heap[r]? = some o ∧ o.isCells = false) : Box W' B t v :=
  h.kept hg fun e => by
    obtain ⟨o, ho, hc⟩ := hr B e.symm
    rw [show W.heap[B]? = _ from h] at ho; cases ho; cases hc
theorem KeepC.own {S : Nat → Prop} {W0 W W' : World} {row : Option Nat} (h : KeepC S W0 W) (hg : W.grownBy W' row) (hr : ∀ r, row = some r → ∃ o : Obj, W.heap[r]? = some o ∧ o.isCells = false) : KeepC S W0 W' :=
  ⟨Nat.le_trans h.size hg.size, fun b o hS hb ho => by
    have h1 := h.same b o hS hb ho
    refine (hg.block b (Array.getElem?_eq_some_iff.1 h1).1 fun e => ?_).trans h1
    obtain ⟨o', ho', hc'⟩ := hr b e.symm
    rw [h1] at ho'; cases ho'; rw [ho] at hc'; cases hc'⟩

set_option maxRecDepth 100000 in
theorem five (w : World) (o7 o8 o9 o10 o11 : Obj) : (((((w.alloc o7).alloc o8).alloc o9).alloc o10).alloc o11).heap.size = w.heap.size + 5 ∧ Below w.heap.size w (((((w.alloc o7).alloc o8).alloc o9).alloc o10).alloc o11) ∧
    (((((w.alloc o7).alloc o8).alloc o9).alloc o10).alloc o11).heap[w.heap.size]? = some o7 ∧ (((((w.alloc o7).alloc o8).alloc o9).alloc o10).alloc o11).heap[w.heap.size + 1]? = some o8 ∧
    (((((w.alloc o7).alloc o8).alloc o9).alloc o10).alloc o11).heap[w.heap.size + 2]? = some o9 ∧ (((((w.alloc o7).alloc o8).alloc o9).alloc o10).alloc o11).heap[w.heap.size + 3]? = some o10 ∧
    (((((w.alloc o7).alloc o8).alloc o9).alloc o10).alloc o11).heap[w.heap.size + 4]? = some o11 := by
  refine ⟨by simp, (((((Below.refl _ w).alloc (Nat.le_refl _) _).alloc (by simp) _).alloc (by simp; omega) _).alloc (by simp; omega) _).alloc (by simp; omega) _, ?_, ?_, ?_, ?_, ?_⟩ <;> (simp only [World.alloc, Array.getElem?_push, Array.size_push]; repeat (first | rfl | rw [if_pos (by omega)] | rw [if_neg (by omega)]))

/-- A region's end, no panic let in. -/
def onlyN (Q : Exit → Act → World → Prop) : Exit → Act → World → Prop
  | .normal, a, w => Q .normal a w
  | _, _, _ => False
theorem wp_onlyN {P : Program} {c : Code} {Q : Exit → Act → World → Prop} {a : Act} {w : World} (h : c.wp P (onlyN Q) a w) : c.wp P Q a w :=
  wp_mono h fun e a w hq => by cases e <;> first | exact hq | exact hq.elim
theorem onlyN_normal {Q : Exit → Act → World → Prop} {a : Act} {w : World} (h : Q .normal a w) : onlyN Q .normal a w := h
theorem KeepC.box {S : Nat → Prop} {W W' : World} (h : KeepC S W W') {B : Nat} {t : TypeId} {v : Value} (hb : Box W B t v) (hS : ¬ S B) : Box W' B t v := h.same _ _ hS hb rfl

/-- Between two rounds: how many numbers have come, and the last of them. -/
def AllI (most : Int) (h base : Nat) (w W0 : World) (pre : List Int) (W : World) : Prop :=
  ((pre.length : Int) < most ∧ Box W (h + 1) 3 (.int .i64 pre.length) ∧ Box W (h + 2) 3 (.int .i64 (lastOf pre)) ∧ KeepC (fun b => b = h + 1 ∨ b = h + 2) W0 W) ∧ Below base w W
/-- A round has left. -/
def AllX (X : List Rg) (most : Int) (h base : Nat) (w W0 : World) (c : Code) (pre : List Int) (W : World) : Prop :=
  ((c = .exit 0 ∧ (pre.length : Int) = most ∧ Box W (h + 1) 3 (.int .i64 pre.length) ∧ Box W (h + 2) 3 (.int .i64 (lastOf pre)) ∧ KeepC (fun b => b = h + 1 ∨ b = h + 2) W0 W) ∨
    (c = .ret ∧ ∃ p x, pre = p ++ [x] ∧ ¬ (lastOf p < x ∧ memB x X = true))) ∧ Below base w W

set_option maxRecDepth 100000 in
set_option maxHeartbeats 4000000 in
theorem lawAll_main (a : Option Addr) (n c : Nat) (zs : List Rg) (s : Int) (w : World) (hn : zs.length = n) (hR : RE TG w a zs) (hM : ML w) (hT : TB w) (h1 : n ≤ 60) (hs0 : 0 ≤ s) (hs1 : s ≤ 255) :
    GivesB Tryz.prog 3 #[.slice a n c, .int .u8 s] (.bool true) w := by
  have hbA : Below w.heap.size w (w.alloc (.cells #[.bool false] 4)) := (Below.refl _ _).alloc (Nat.le_refl _) _
  have hk := known_any _ (hM.below hbA) (hT.below hbA)
  have hx4 := Box.new w 4 (.bool false) w.heap.size rfl
  have hR1 := hR.below hbA
  have hz1 : ¬ (60 : Int) < (n : Int) := by omega
  have w1 : IntKind.i64.wrap s = s := IntWalk.i64_in _ (by omega)
  have w2 : IntKind.i64.wrap (1 + s) = 1 + s := IntWalk.i64_in _ (by omega)
  unfold GivesB at hk ⊢
  refine (callsIn_wide (n := 3)).1 (callsIn_of_wp_marks Tryz.func3 rfl trivial ?_ rfl)
  simp only [Tryz.ntmps3, List.size_toArray, List.length_cons, List.length_nil, Nat.reduceAdd, Nat.reduceSub, Array.replicate_succ, Array.replicate_zero, List.push_toArray, List.append_toArray, List.nil_append, List.cons_append]
  refine wpIn_wide.2 ?_
  go_wp2_with fail
  generalize w.alloc (.cells #[.bool false] 4) = wa at *
  have hlB := hx4.lt
  refine hk.mono ?_
  clear hk
  rintro e w1 ⟨rfl, hB1⟩
  go_wp2_with fail
  refine (own_any a n c zs w1 hn (by omega) (hR1.below hB1)).mono ?_
  rintro e w2 ⟨hb2, v2, rfl, hO2⟩
  have hB2 := hB1.trans (hb2.mono hB1.size)
  obtain ⟨p2, c2, rfl, hR2, q1, q2, q3, q4⟩ := hO2.re
  rw [hn]
  clear q1 q2 q3 q4 hO2 hb2
  go_wp2_with fail
  refine (from_any p2 n c2 zs w2 hn (by omega) hR2).mono ?_
  rintro e w3 hF
  obtain ⟨hb3, v3, X, er, rfl, hO3, hX1, hX2, hX3, hX4⟩ := hF.out
  have hB3 := hB2.trans (hb3.mono hB2.size)
  obtain ⟨a1, n1, c1, rfl, hS1⟩ := SetIn.of hO3 hX1 hX2 (by omega)
  clear hF hO3 hb3 hR2
  have hB3' := hB3.alloc hB3.size (.cells #[.slice a1 n1 c1] 26)
  have hbx4 := hx4.below hB3' hlB
  rcases hX4 with ⟨rfl, hv, rfl⟩ | ⟨rfl, _, rfl⟩
  case inr =>
    have hc4 := hbx4.cell
    have hf4 := hbx4.free
    go_wp2_with fail
    have hc5 := World.cell?_setCell_same' _ ⟨w.heap.size, 0, none⟩ (.bool true) (by rw [hc4]; rfl)
    refine ⟨.bool true, by simp [results, Tryz.f3, go_sem, hc5], rfl, ?_⟩
    exact (hbA.trans (hB3'.mono hbA.size)).setCell (p := ⟨w.heap.size, 0, none⟩) (Nat.le_refl _) _
  go_wp2_with fail
  generalize hsb : w3.heap.size = b1 at *
  generalize w3.alloc (.cells #[.slice a1 n1 c1] 26) = w4 at *
  clear hsb
  refine (refNormal_any a n c zs w4 hn (by omega) (hR1.below hB3') hv).mono ?_
  rintro e w5 ⟨hb5, v5, rfl, hO5⟩
  have hB5 := hB3'.trans (hb5.mono hB3'.size)
  have hS5 := hS1.below hb5
  have hx5 := hbx4.below hb5 hbx4.lt
  obtain ⟨a5, c5, rfl, hR5, q1, q2, q3, q4⟩ := hO5.re
  clear q1 q2 q3 q4 hO5 hb5 hS1 hbx4
  have hXl : (normal zs).length ≤ 60 := by omega
  generalize hn5 : (normal zs).length = n5 at *
  generalize normal zs = X at *
  have hlb5 := hS5.box.lt
  have hbe : Below w5.heap.size w5 ((((w5.alloc (.cells #[.slice a5 n5 c5] 22)).alloc (.cells #[.int .i64 0] 3)).alloc (.cells #[.int .i64 0] 3)).alloc (.cells #[.int .i64 (1 + s)] 3)) :=
    ((((Below.refl _ w5).alloc (Nat.le_refl _) _).alloc (by simp) _).alloc (by simp; omega) _).alloc (by simp; omega) _
  have hcW := (hbe.cell (p := ⟨b1, 0, none⟩) hlb5).trans hS5.box.cell
  go_wp2_with fail
  refine (all_any a1 n1 c1 _).mono ?_
  rintro e w6 ⟨rfl, rfl⟩
  go_wp2_with fail
  obtain ⟨f0, f1, e7, e8, e9, e10, es⟩ := five w5 (.cells #[.slice a5 n5 c5] 22) (.cells #[.int .i64 0] 3) (.cells #[.int .i64 0] 3) (.cells #[.int .i64 (1 + s)] 3) (.cells #[.slice a1 n1 c1] 26)
  clear hbe hcW
  have hlh := f1.size
  generalize ((((w5.alloc (.cells #[.slice a5 n5 c5] 22)).alloc (.cells #[.int .i64 0] 3)).alloc (.cells #[.int .i64 0] 3)).alloc (.cells #[.int .i64 (1 + s)] 3)).alloc (.cells #[.slice a1 n1 c1] 26) = W0 at *
  have hx0 : Box W0 w.heap.size 4 (.bool false) := hx5.below f1 hx5.lt
  have hb4 : w.heap.size < w5.heap.size := hx5.lt
  have hB0 : Below w.heap.size w W0 := hbA.trans ((hB5.trans (f1.mono hB5.size)).mono hbA.size)
  have hS0 := hS5.re.below f1
  have hV0 := hR5.below f1
  have h7 : Box W0 w5.heap.size 22 (.slice a5 n5 c5) := e7
  have h8 : Box W0 (w5.heap.size + 1) 3 (.int .i64 0) := e8
  have h9 : Box W0 (w5.heap.size + 2) 3 (.int .i64 0) := e9
  have h10 : Box W0 (w5.heap.size + 3) 3 (.int .i64 (1 + s)) := e10
  have hs : Box W0 (w5.heap.size + 4) 26 (.slice a1 n1 c1) := es
  have hSl : X ≠ [] → ∀ b off, a1 = some ⟨b, off, none⟩ → b < w5.heap.size := fun hne b off e => by
    rcases hS5.re with h | ⟨b', off', e', hl, _⟩
    · exact absurd h hne
    · rw [e] at e'; injection e' with e'; injection e' with e'; subst e'; exact hl
  have hVl : X ≠ [] → ∀ b off, a5 = some ⟨b, off, none⟩ → b < w5.heap.size := fun hne b off e => by
    rcases hR5 with h | ⟨b', off', e', hl, _⟩
    · exact absurd h hne
    · rw [e] at e'; injection e' with e'; injection e' with e'; subst e'; exact hl
  have hlen1 := hS5.len
  generalize w5.heap.size = h at *
  clear e7 e8 e9 e10 es f1 hx5 hS5 hR5 hB5 hlb5 hlh
  refine (wpIn_wide (n := 3)).1 ?_
  apply wpIn_rangeFunc_ownG (F := Fence.wide) (n := 3) rfl (by omega) (gf := 58) (lb := #[.pointer (some ⟨h + 4, 0, none⟩)]) rfl trivial (enters_of Tryz.func58 (by kernel_rfl) rfl)
    (all_stops Fence.wide (3 - 1) trivial rfl (by omega) (h + 4) (fun b => b = h + 1 ∨ b = h + 2) a1 n1 c1 X hlen1 (by omega) hX2 W0 hs.cell hs.lt hS0 (fun hne b off e hb => by have := hSl hne b off e; omega) (fun b hb => by rw [f0]; omega))
    KeepC.trans (fun W l o o' _ h1 h2 _ => KeepC.putObj o' h1 h2) (Below.refl _ _) (fun _ => rfl)
    (AllI (1 + s) h w.heap.size w W0) (AllX X (1 + s) h w.heap.size w W0)
  case hI => exact OwnFrom.and (Own.from (fun s A B row hs hg hr => ⟨hs.1, Box.own hs.2.1 hg hr, Box.own hs.2.2.1 hg hr, hs.2.2.2.own hg hr⟩) _) (ownFrom_below (Nat.le_refl _) (by omega))
  case hIx =>
    intro c
    refine OwnFrom.and (Own.from (fun s A B row hs hg hr => ?_) _) (ownFrom_below (Nat.le_refl _) (by omega))
    rcases hs with ⟨q1, q2, q3, q4, q5⟩ | hs
    · exact .inl ⟨q1, q2, Box.own q3 hg hr, Box.own q4 hg hr, q5.own hg hr⟩
    · exact .inr hs
  case h0 => exact ⟨⟨by simp; omega, h8, h9, KeepC.refl _ _⟩, hB0⟩
  case hassign =>
    intro l x W K hK
    gi_wp2
    exact hK
  case hbody =>
    rintro l pre x W ⟨⟨hlen, hb8, hb9, hk⟩, hB⟩ _
    have hc4 := (hk.box hx0 (by omega)).cell
    have hf4 := (hk.box hx0 (by omega)).free
    have hc7 := (hk.box h7 (by omega)).cell
    have hc10 := (hk.box h10 (by omega)).cell
    have hc8 := hb8.cell
    have hf8 := hb8.free
    have hc9 := hb9.cell
    have hf9 := hb9.free
    have hrx := refHas_any a5 n5 c5 X x W hn5 (by omega) (hk.re hV0 fun hne b off e hb => by have := hVl hne b off e; omega)
    have hwn : IntKind.i64.wrap ((pre.length : Int) + 1) = (pre.length : Int) + 1 := IntWalk.i64_in _ (by omega)
    have e1 : ((pre ++ [x]).length : Int) = (pre.length : Int) + 1 := by simp
    have e2 : lastOf (pre ++ [x]) = x := lastOf_snoc pre x
    have g8 := (hb8.set (.int .i64 ((pre.length : Int) + 1))).far (p := ⟨h + 2, 0, none⟩) (show h + 1 ≠ h + 2 by omega) (.int .i64 x)
    have g9 := (hb9.far (p := ⟨h + 1, 0, none⟩) (show h + 2 ≠ h + 1 by omega) (.int .i64 ((pre.length : Int) + 1))).set (.int .i64 x)
    have gk : KeepC (fun b => b = h + 1 ∨ b = h + 2) W ((W.setCell ⟨h + 1, 0, none⟩ (.int .i64 ((pre.length : Int) + 1))).setCell ⟨h + 2, 0, none⟩ (.int .i64 x)) :=
      (KeepC.setCell W _ _ (.inl rfl)).trans (KeepC.setCell _ _ _ (.inr rfl))
    have go : KeepsOthers W ((W.setCell ⟨h + 1, 0, none⟩ (.int .i64 ((pre.length : Int) + 1))).setCell ⟨h + 2, 0, none⟩ (.int .i64 x)) := (KeepsOthers.setCell W _ _).trans (KeepsOthers.setCell _ _ _)
    have gB := (hB.setCell (p := ⟨h + 1, 0, none⟩) (show w.heap.size ≤ h + 1 by omega) (.int .i64 ((pre.length : Int) + 1))).setCell (p := ⟨h + 2, 0, none⟩) (show w.heap.size ≤ h + 2 by omega) (.int .i64 x)
    have HX : Hid (¬ (lastOf pre < x ∧ memB x X = true) → AllX X (1 + s) h w.heap.size w W0 .ret (pre ++ [x]) (W.setCell ⟨w.heap.size, 0, none⟩ (.bool false))) :=
      fun hbad => ⟨.inr ⟨rfl, pre, x, rfl, hbad⟩, hB.setCell (p := ⟨w.heap.size, 0, none⟩) (Nat.le_refl _) _⟩
    by_cases hg1 : lastOf pre < x
    · have hd : decide (x ≤ lastOf pre) = false := decide_eq_false (by omega)
      cases hm : memB x X with
      | false =>
        rw [hm] at hrx
        gi_wp2_with (refine ⟨trivial, ?_⟩; gi_at_call 16; refine (CallsIn.inRound l (callsIn_wide.2 hrx)).mono ?_; rintro e w' ⟨rfl, rfl⟩)
        exact ⟨(KeepsOthers.setCell _ _ _).from _, HX.out fun h => by rw [hm] at h; cases h.2⟩
      | true =>
        rw [hm] at hrx
        by_cases hmost : (pre.length : Int) + 1 = 1 + s
        · have hq : ((pre.length : Int) + 1 == 1 + s) = true := by simpa using hmost
          clear hmost
          gi_wp2_with (refine ⟨trivial, ?_⟩; gi_at_call 16; refine (CallsIn.inRound l (callsIn_wide.2 hrx)).mono ?_; rintro e w' ⟨rfl, rfl⟩)
          have hmo : (pre.length : Int) + 1 = 1 + s := eq_of_beq hq
          have e3 : ((pre ++ [x]).length : Int) = 1 + s := by rw [← hmo]; simp
          exact ⟨go.from _, .inl ⟨rfl, e3, by rw [e1]; exact g8, by rw [e2]; exact g9, hk.trans gk⟩, gB⟩
        · have hq : ((pre.length : Int) + 1 == 1 + s) = false := by simpa using hmost
          gi_wp2_with (refine ⟨trivial, ?_⟩; gi_at_call 16; refine (CallsIn.inRound l (callsIn_wide.2 hrx)).mono ?_; rintro e w' ⟨rfl, rfl⟩)
          exact ⟨go.from _, gk, ⟨by rw [e1]; omega, by rw [e1]; exact g8, by rw [e2]; exact g9, hk.trans gk⟩, gB⟩
    · have hd : decide (x ≤ lastOf pre) = true := decide_eq_true (by omega)
      gi_wp2
      refine ⟨trivial, ?_⟩
      gi_wp2
      have hle : x ≤ lastOf pre := by assumption
      exact ⟨(KeepsOthers.setCell _ _ _).from _, HX.out fun h => by omega⟩
  case' hdone =>
    rintro D pre W hD hpe ⟨⟨hlen, hb8, hb9, hk⟩, hB⟩ hK
    have hpre : pre <+: nums X := hpe ▸ List.prefix_refl _
    have hnil : pre = [] → X = [] := fun e => nums_none hX2 (hpe ▸ e)
    have hcnt : countL X = (pre.length : Int) := by rw [hpe]; exact (nums_length fun r hr => (validB_iff.1 (hX2 r hr)).2.2).symm
    have hmin : min (1 + s) (countL X) = (pre.length : Int) := by omega
  case' hstop =>
    rintro D c pre W hD hpre hIx hK
    rcases hIx with ⟨⟨rfl, hlen, hb8, hb9, hk⟩ | ⟨rfl, p, x, rfl, hbad⟩, hB⟩
    case' inr => exact absurd (pre_good hX1 hX2 hpre) hbad
    have hnil : pre = [] → X = [] := fun e => by rw [e] at hlen; simp at hlen; omega
    have hcnt : (pre.length : Int) ≤ countL X := by
      rw [← nums_length fun r hr => (validB_iff.1 (hX2 r hr)).2.2]
      exact_mod_cast hpre.length_le
    have hmin : min (1 + s) (countL X) = (pre.length : Int) := by omega
    refine wpIn_wide.2 ?_
  all_goals
    have hbw := betw_last hX1 hpre hnil
    have hVW : RE TG W a5 X := hk.re hV0 fun hne b off e hb => by have := hVl hne b off e; omega
    have k1 : W.cell? ⟨h, 0, none⟩ = some (.slice a5 n5 c5) := (hk.box h7 (by omega)).cell
    have k2 : W.cell? ⟨h + 1, 0, none⟩ = some (.int .i64 pre.length) := hb8.cell
    have k3 : W.cell? ⟨h + 1 + 1, 0, none⟩ = some (.int .i64 (lastOf pre)) := hb9.cell
    have k4 : W.cell? ⟨h + 1 + 1 + 1, 0, none⟩ = some (.int .i64 (1 + s)) := (hk.box h10 (by omega)).cell
    have hl3 : h + 3 < W.heap.size := (hk.box h10 (by omega)).lt
    have hx0W : Box W w.heap.size 4 (.bool false) := hk.box hx0 (by omega)
    have hcn : ∀ Wx, Below W.heap.size W Wx → GivesB Tryz.prog 17 #[.slice a5 n5 c5] (.int .i64 (countL X)) Wx := fun Wx hb => refCount_any a5 n5 c5 X Wx hn5 (by omega) (hVW.below hb) hX2
    have cell : ∀ Wx, Below W.heap.size W Wx → Wx.cell? ⟨h, 0, none⟩ = some (.slice a5 n5 c5) ∧ Wx.cell? ⟨h + 1, 0, none⟩ = some (.int .i64 pre.length) ∧ Wx.cell? ⟨h + 1 + 1, 0, none⟩ = some (.int .i64 (lastOf pre)) ∧ Wx.cell? ⟨h + 1 + 1 + 1, 0, none⟩ = some (.int .i64 (1 + s)) :=
      fun Wx hb => ⟨(hb.cell (p := ⟨h, 0, none⟩) (show h < _ by omega)).trans k1, (hb.cell (p := ⟨h + 1, 0, none⟩) (show h + 1 < _ by omega)).trans k2, (hb.cell (p := ⟨h + 1 + 1, 0, none⟩) (show h + 1 + 1 < _ by omega)).trans k3, (hb.cell (p := ⟨h + 1 + 1 + 1, 0, none⟩) (show h + 1 + 1 + 1 < _ by omega)).trans k4⟩
    have hbb := betw_bounds (lastOf pre) hX2
    have HBW := Lib.hid hbw
    have HPL : Hid ((pre.length : Int) ≤ 256) := by unfold Hid; omega
    have hne0 : ((pre.length : Int) != min (1 + s) (countL X)) = false := by rw [hmin]; simp
    generalize countL X = kX at *
    clear hbw hmin hcnt hlen hpre hnil
    generalize hpl : (pre.length : Int) = pl at *
    generalize lastOf pre = la at *
    clear hpl
    unfold GivesB at hcn
    have hz : Below W.heap.size W W := Below.refl _ _
    go_wp2_with fail
    refine wp_onlyN ?_
    refine wp_region_held_drew (S := fun Wx => Below W.heap.size W Wx ∧ Wx.cell? ⟨h, 0, none⟩ = some (.slice a5 n5 c5) ∧ Wx.cell? ⟨h + 1, 0, none⟩ = some (.int .i64 pl) ∧ Wx.cell? ⟨h + 1 + 1, 0, none⟩ = some (.int .i64 la) ∧ Wx.cell? ⟨h + 1 + 1 + 1, 0, none⟩ = some (.int .i64 (1 + s))) (by kernel_rfl) ⟨Go.below_drewN hz 1, k1, k2, k3, k4⟩ (fun hh0 => ?_)
    refine take_op (i := 0) (d := some 53) (v := ?_) (by kernel_rfl) (by kernel_rfl) (by kernel_rfl) (by kernel_rfl) (fun _ _ _ h => h) (fun o ho => ?_) hh0 ?_
    rotate_left
    · simp only [List.getElem?_toArray, List.getElem?_cons_succ, List.getElem?_cons_zero, Option.some.injEq] at ho; subst ho; refine Or.inl ⟨by rfl, fun w hSw => ?_⟩; obtain ⟨hSb, k1, k2, k3, k4⟩ := hSw; go_simp; all_goals with_reducible rfl
    try simp only [Act.put, List.setIfInBounds_toArray, List.set_cons_zero, List.set_cons_succ]
    refine take_op (i := 1) (d := some 54) (v := ?_) (by kernel_rfl) (by kernel_rfl) (by kernel_rfl) (by kernel_rfl) (fun _ _ _ h => h) (fun o ho => ?_) hh0 ?_
    rotate_left
    · simp only [List.getElem?_toArray, List.getElem?_cons_succ, List.getElem?_cons_zero, Option.some.injEq] at ho; subst ho; refine Or.inl ⟨by rfl, fun w hSw => ?_⟩; obtain ⟨hSb, k1, k2, k3, k4⟩ := hSw; go_simp; all_goals with_reducible rfl
    try simp only [Act.put, List.setIfInBounds_toArray, List.set_cons_zero, List.set_cons_succ]
    refine take_op (i := 2) (d := some 55) (v := ?_) (by kernel_rfl) (by kernel_rfl) (by kernel_rfl) (by kernel_rfl) (fun _ _ _ h => h) (fun o ho => ?_) hh0 ?_
    rotate_left
    · simp only [List.getElem?_toArray, List.getElem?_cons_succ, List.getElem?_cons_zero, Option.some.injEq] at ho; subst ho; refine Or.inl ⟨by rfl, fun w hSw => ?_⟩; obtain ⟨hSb, k1, k2, k3, k4⟩ := hSw; go_simp; all_goals with_reducible rfl
    try simp only [Act.put, List.setIfInBounds_toArray, List.set_cons_zero, List.set_cons_succ]
    refine wpAnyH_ready (rs := [3]) (by kernel_rfl) (by simp) (one_op (d := some 56) (by kernel_rfl) fun o ho K hK2 => ?_)
    simp only [List.getElem?_toArray, List.getElem?_cons_succ, List.getElem?_cons_zero, Option.some.injEq] at ho
    subst ho
    go_simp
    refine (hcn _ hh0.1).mono ?_
    rintro e y1 ⟨rfl, hb⟩
    go_wp2_with fail
    have hy1 := hh0.1.trans (hb.mono hh0.1.size)
    have hh1 : Below W.heap.size W y1 ∧ _ := ⟨hy1, cell y1 hy1⟩
    refine hK2.out _ _ hh1 (fun _ => ?_)
    clear hK2 K hb hh0
    try simp only [Act.put, List.setIfInBounds_toArray, List.set_cons_zero, List.set_cons_succ]
    refine take_op (i := 4) (d := some 57) (v := ?_) (by kernel_rfl) (by kernel_rfl) (by kernel_rfl) (by kernel_rfl) (fun _ _ _ h => h) (fun o ho => ?_) hh1 ?_
    rotate_left
    · simp only [List.getElem?_toArray, List.getElem?_cons_succ, List.getElem?_cons_zero, Option.some.injEq] at ho; subst ho; refine Or.inl ⟨by rfl, fun w hSw => ?_⟩; obtain ⟨hSb, k1, k2, k3, k4⟩ := hSw; go_simp; all_goals with_reducible rfl
    try simp only [Act.put, List.setIfInBounds_toArray, List.set_cons_zero, List.set_cons_succ]
    refine take_op (i := 5) (d := some 58) (v := ?_) (by kernel_rfl) (by kernel_rfl) (by kernel_rfl) (by kernel_rfl) (fun _ _ _ h => h) (fun o ho => ?_) hh1 ?_
    rotate_left
    · simp only [List.getElem?_toArray, List.getElem?_cons_succ, List.getElem?_cons_zero, Option.some.injEq] at ho; subst ho; refine Or.inl ⟨by rfl, fun w hSw => ?_⟩; obtain ⟨hSb, k1, k2, k3, k4⟩ := hSw; go_simp; all_goals with_reducible rfl
    try simp only [Act.put, List.setIfInBounds_toArray, List.set_cons_zero, List.set_cons_succ]
    refine wpAnyH_done (by kernel_rfl) (onlyN_normal ?_) _
    clear hh1 k1 k2 k3 k4
    obtain ⟨k1, k2, k3, k4⟩ := cell y1 hy1
    clear hcn hne0
    have hy1s := hy1.size
    go_wp2_with fail
    go_loopg [12, 13] n5 (fun gg s12 s13 wr => ∃ (i : Nat) (v : Int), i ≤ n5 ∧ n5 - i ≤ gg ∧ s13 = .int .i64 i ∧ s12 = .int .i64 v ∧ 0 ≤ v ∧ v ≤ (i : Int) * 1099511627776 ∧ Below W.heap.size W wr ∧ Aside (v = betw la (X.take i)))
    case atStart => exact ⟨0, 0, Nat.zero_le _, by omega, rfl, rfl, Int.le_refl _, by simp, hy1, show Aside _ from rfl⟩
    case round =>
      obtain ⟨i, v, hi, hgg, rfl, rfl, hv0, hv1, hBr, A⟩ := hrel
      obtain ⟨k1, k2, k3, k4⟩ := cell _ hBr
      by_cases hlt : i < n5
      · have hltz : (i : Int) < (n5 : Int) := by omega
        have hi0 : (0 : Int) ≤ (i : Int) := by omega
        have hix : i < X.length := by rw [hn5]; exact hlt
        obtain ⟨b, off, rfl, hb, hx1, hx2⟩ := RE.rg (T := TG) rfl rfl (hVW.below hBr) hix
        have HBS : Hid (betw la (X.take (i + 1)) = betw la (X.take i) + (if X[i].1 ≤ la then min X[i].2 la - X[i].1 + 1 else 0)) := by
          unfold Hid; rw [List.take_succ_eq_append_getElem hix, betw_snoc]
        have hvk := validB_iff.1 (hX2 _ (List.getElem_mem hix))
        generalize X[i] = r at hx1 hx2 HBS hvk
        obtain ⟨x, y⟩ := r
        simp only at hx1 hx2 hvk
        obtain ⟨v1, v2, v3⟩ := hvk
        by_cases hle : x ≤ la
        · have hd : decide (x ≤ la) = true := decide_eq_true hle
          have HBT : Hid (betw la (X.take (i + 1)) = v + min y la - x + 1) := by
            unfold Hid; rw [HBS.out, A.out, if_pos hle]; simp only []; omega
          have q1 : IntKind.i64.wrap (v + min y la) = v + min y la := IntWalk.i64_in _ (by omega)
          have q2 : IntKind.i64.wrap (v + min y la - x) = v + min y la - x := IntWalk.i64_in _ (by omega)
          have q3 : IntKind.i64.wrap (v + min y la - x + 1) = v + min y la - x + 1 := IntWalk.i64_in _ (by omega)
          go_wp2
          go_quiet (fail)
          go_wp2_with fail
          have hB4 := Go.below_drewN hBr nq
          have hy1 : (wr.drewN nq).cell? ⟨b, off + i * 2, none⟩ = some (.int .i64 x) := hx1
          have hy2 : (wr.drewN nq).cell? ⟨b, off + i * 2 + 1, none⟩ = some (.int .i64 y) := hx2
          have m1 : (wr.drewN nq).cell? ⟨h, 0, none⟩ = some (.slice (some ⟨b, off, none⟩) n5 c5) := k1
          have m3 : (wr.drewN nq).cell? ⟨h + 1 + 1, 0, none⟩ = some (.int .i64 la) := k3
          clear k1 k2 k3 k4 hx1 hx2 hBr hd
          generalize wr.drewN nq = w4 at *
          go_still (by kernel_rfl)
          go_wp2_with fail
          go_roundg (n5 - (i + 1))
          case measure => omega
          case rel => exact ⟨i + 1, v + min y la - x + 1, by omega, by omega, by go_num, rfl, by omega, by omega, Go.below_drewN hB4 _, show Aside _ from HBT.out.symm⟩
        · have hd : decide (x ≤ la) = false := decide_eq_false hle
          have HBT : Hid (betw la (X.take (i + 1)) = v) := by
            unfold Hid; rw [HBS.out, A.out, if_neg hle]; omega
          go_wp2
          go_quiet (fail)
          go_wp2
          go_roundg (n5 - (i + 1))
          case measure => omega
          case rel => exact ⟨i + 1, v, by omega, by omega, by go_num, rfl, hv0, by omega, Go.below_drewN hBr _, show Aside _ from HBT.out.symm⟩
      · have hltz : ¬ (i : Int) < (n5 : Int) := by omega
        have hvp : v = pl := by
          rw [A.out, List.take_of_length_le (by omega)]; exact HBW.out
        subst hvp
        have hqq : (v == v) = true := by simp
        have hx0r := hx0W.below hBr hx0W.lt
        have hc4 := hx0r.cell
        have hf4 := hx0r.free
        have hDl : D < W.heap.size := (Array.getElem?_eq_some_iff.1 hK).1
        have hK1 : wr.heap[D]? = some (.deferred (some [])) := (hBr.block D hDl).trans hK
        have hBf : Below w.heap.size w wr := hB.trans (hBr.mono hB.size)
        clear A hBr hVW cell
        go_wp2_with fail
        have hK' := (KeepsOthers.setCell wr ⟨w.heap.size, 0, none⟩ (.bool true)).same D _ hK1 rfl
        refine ⟨by simp, .inl ⟨_, _, rfl, run_takeDeferred hK', ?_⟩⟩
        have hc5 := cell_kept (World.cell?_setCell_same' wr ⟨w.heap.size, 0, none⟩ (.bool true) (by rw [hc4]; rfl)) (grownBy_putObj' _ D (.deferred none)) (fun r e => by cases e; exact ⟨_, hK', rfl⟩)
        refine ⟨.bool true, ?_, rfl, (hBf.setCell (p := ⟨w.heap.size, 0, none⟩) (Nat.le_refl _) _).trans (belowK_b (w := w) (Nat.le_refl _) _ D _ _ (by omega) hK' rfl rfl)⟩
        simp [results, Tryz.f3, go_sem, hc5]

set_option maxRecDepth 100000 in
set_option maxHeartbeats 1000000 in
theorem lawAll_big (a : Option Addr) (n c : Nat) (s : Int) (w : World) (hM : ML w) (hT : TB w) (h1 : ¬ n ≤ 60) :
    GivesB Tryz.prog 3 #[.slice a n c, .int .u8 s] (.bool true) w := by
  have hbA : Below w.heap.size w (w.alloc (.cells #[.bool false] 4)) := (Below.refl _ _).alloc (Nat.le_refl _) _
  have hk := known_any _ (hM.below hbA) (hT.below hbA)
  have hk2 : ∀ W, Below (w.alloc (.cells #[.bool false] 4)).heap.size (w.alloc (.cells #[.bool false] 4)) W → GivesB Tryz.prog 11 #[] (.bool true) W := fun W hb => known_any W ((hM.below hbA).below hb) ((hT.below hbA).below hb)
  have hx4 := Box.new w 4 (.bool false) w.heap.size rfl
  have hz1 : (60 : Int) < (n : Int) := by omega
  clear h1
  unfold GivesB at hk hk2 ⊢
  refine (callsIn_wide (n := 3)).1 (callsIn_of_wp_marks Tryz.func3 rfl trivial ?_ rfl)
  simp only [Tryz.ntmps3, List.size_toArray, List.length_cons, List.length_nil, Nat.reduceAdd, Nat.reduceSub, Array.replicate_succ, Array.replicate_zero, List.push_toArray, List.append_toArray, List.nil_append, List.cons_append]
  refine wpIn_wide.2 ?_
  go_wp2_with fail
  generalize w.alloc (.cells #[.bool false] 4) = wa at *
  have hlB := hx4.lt
  refine hk.mono ?_
  clear hk
  rintro e w1 ⟨rfl, hB1⟩
  go_wp2_with fail
  refine (hk2 w1 hB1).mono ?_
  rintro e w2 ⟨rfl, hb2⟩
  have hB2 := hB1.trans (hb2.mono hB1.size)
  have hb4 := hx4.below hB2 hlB
  have hc4 := hb4.cell
  have hf4 := hb4.free
  go_wp2_with fail
  have hc5 := World.cell?_setCell_same' _ ⟨w.heap.size, 0, none⟩ (.bool true) (by rw [hc4]; rfl)
  refine ⟨.bool true, by simp [results, Tryz.f3, go_sem, hc5], rfl, ?_⟩
  exact (hbA.trans (hB2.mono hbA.size)).setCell (p := ⟨w.heap.size, 0, none⟩) (Nat.le_refl _) _

theorem lawAll_any (a : Option Addr) (n c : Nat) (zs : List Rg) (s : Int) (w : World) (hM : ML w) (hT : TB w) (hn : zs.length = n) (hR : RE TG w a zs) (hs : (Lit.int .u8 s).wf = true) :
    GivesB Tryz.prog 3 #[.slice a n c, .int .u8 s] (.bool true) w := by
  have hb : 0 ≤ s ∧ s < 256 := by
    unfold Lit.wf at hs
    rw [Bool.and_eq_true, decide_eq_true_eq, decide_eq_true_eq] at hs
    have e1 : IntKind.min .u8 = 0 := by decide
    have e2 : IntKind.max .u8 = 255 := by decide
    rw [e1, e2] at hs
    omega
  by_cases h1 : n ≤ 60
  · exact lawAll_main a n c zs s w hn hR hM hT h1 hb.1 (by omega)
  · exact lawAll_big a n c s w hM hT h1
end Go.Proofs.YtddmldfdakmecaaGreatDoor
