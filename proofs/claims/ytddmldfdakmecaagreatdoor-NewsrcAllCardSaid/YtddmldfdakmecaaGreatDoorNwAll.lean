/- Walk of (newsrc.Set).All and of its iterator: the numbers of a set in increasing order, for every loop body that leaves alone what lay outside its own cells. -/
import Derived.Test.YtddmldfdakmecaaGreatDoorNwAllPure
import Derived.RangeFuncNested
import Derived.RangeFuncBound
import Derived.RangeFuncCalls
import Derived.RangeFuncLeaves
import Derived.Shelf.Abstract
import Derived.Shelf.RegionOpen
import Derived.WalkKit
import Derived.OwnWalkIn
import Derived.TacticsInMore
import Derived.LoopNIn
import Derived.LoopIn
namespace Go.Proofs.YtddmldfdakmecaaGreatDoor
open Go.RowKit Go.Shelf Go.Gn Go.El Go.Nw
attribute [local go_sem] Oper.semAt_some

/-- Whatever lay in cells outside the blocks of S lies as it lay. -/
structure KeepC (S : Nat → Prop) (W W' : World) : Prop where
  size : W.heap.size ≤ W'.heap.size
  same : ∀ b o, ¬ S b → W.heap[b]? = some o → o.isCells = true → W'.heap[b]? = some o

theorem KeepC.refl (S : Nat → Prop) (W : World) : KeepC S W W := ⟨Nat.le_refl _, fun _ _ _ h _ => h⟩
theorem KeepC.trans {S : Nat → Prop} {A B C : World} (h : KeepC S A B) (k : KeepC S B C) : KeepC S A C :=
  ⟨Nat.le_trans h.size k.size, fun b o hS hb ho => k.same b o hS (h.same b o hS hb ho) ho⟩
theorem KeepC.below {S : Nat → Prop} {W W' : World} (h : Below W.heap.size W W') : KeepC S W W' :=
  ⟨h.size, fun b _ _ hb _ => (h.block b (Array.getElem?_eq_some_iff.1 hb).1).trans hb⟩
theorem KeepC.setCell {S : Nat → Prop} (W : World) (p : Addr) (v : Value) (hp : S p.block) : KeepC S W (W.setCell p v) :=
  ⟨(KeepsWalks.setCell W p v).size, fun b _ hS hb _ => (Below.heap_setCell W p v b (fun e => hS (e ▸ hp))).trans hb⟩
theorem KeepC.putObj {S : Nat → Prop} {W : World} {l : Nat} {o : Obj} (o' : Obj) (hl : W.heap[l]? = some o) (ho : o.isCells = false) : KeepC S W (W.putObj l o') :=
  ⟨by simp, fun b o2 _ hb h2 => by
    by_cases e : b = l
    · subst e; rw [hl] at hb; cases hb; rw [ho] at h2; cases h2
    · exact (World.putObj_heap_other e).trans hb⟩
theorem KeepC.cell {S : Nat → Prop} {W W' : World} (h : KeepC S W W') {p : Addr} {v : Value} (hc : W.cell? p = some v) (hS : ¬ S p.block) : W'.cell? p = some v := by
  unfold World.cell? at hc ⊢
  cases ho : W.heap[p.block]? with
  | none => simp [ho] at hc
  | some o =>
    have h1 : o.isCells = true := by cases o <;> simp_all [Obj.isCells]
    rw [h.same _ _ hS ho h1]
    rw [ho] at hc
    exact hc
theorem KeepC.re {S : Nat → Prop} {W W' : World} (h : KeepC S W W') {T : Ty Tryz.prog Rg} {a : Option Addr} {zs : List Rg} (hR : RE T W a zs) (hS : zs ≠ [] → ∀ b off, a = some ⟨b, off, none⟩ → ¬ S b) : RE T W' a zs := by
  by_cases he : zs = []
  · exact .inl he
  rcases hR with e | ⟨b, off, ha, hb, hc⟩
  · exact .inl e
  · exact .inr ⟨b, off, ha, Nat.lt_of_lt_of_le hb h.size, fun j x hx i v hv => h.cell (hc j x hx i v hv) (hS he b off ha)⟩

/-- (newsrc.Set).All hands back the iterator, which captures the set's box. -/
theorem all_any (a : Option Addr) (m c : Nat) (w : World) :
    Calls Tryz.prog 15 #[.agg #[.slice a m c]] w fun e w' => e = .returned (.func (.func 58) #[] #[.pointer (some ⟨w.heap.size, 0, none⟩)]) ∧ w' = w.alloc (.cells #[.slice a m c] 26) := by
  go_enter Tryz.func15, Tryz.ntmps15
  go_wp2
  go_ret
  exact ⟨rfl, rfl⟩

set_option maxRecDepth 100000 in
set_option maxHeartbeats 2000000 in
/-- The iterator: for every loop body that leaves alone the set and what else lies outside the blocks of S. -/
theorem all1_in (F : Fence) (n : Nat) (hF : F.fn 58) (hro : F.round = none) (hn : 1 ≤ n) (l Bs : Nat) (S : Nat → Prop) (a : Option Addr) (m c : Nat) (zs : List Rg) (hm : zs.length = m) (hM : m ≤ 1000000) (hv : ∀ r ∈ zs, validB r = true) (J Jx : List Int → World → Prop)
    (hY : ∀ pre x W, J pre W → pre.length < (nums zs).length → YieldAt F (n - 1) Tryz.prog l #[.int .i64 x] W fun e W' =>
      (e = .returned (.bool true) ∧ J (pre ++ [x]) W' ∧ KeepC S W W') ∨ (e = .returned (.bool false) ∧ Jx (pre ++ [x]) W'))
    (W : World) (hJ : AbidesFrom W.heap.size J) (hBs : W.cell? ⟨Bs, 0, none⟩ = some (.slice a m c)) (hR : RE TR W a zs) (hSa : zs ≠ [] → ∀ b off, a = some ⟨b, off, none⟩ → ¬ S b) (hSl : ∀ b, S b → b < W.heap.size) (h0 : J [] W) :
    CallsIn F n Tryz.prog 58 #[.func (.yield l) #[] #[], .pointer (some ⟨Bs, 0, none⟩)] W fun e W' => (∃ v, e = .returned v) ∧
      ((∃ ys, ys = nums zs ∧ J ys W') ∨ (∃ pre, pre <+: nums zs ∧ Jx pre W')) := by
  have HV := Lib.hid hv
  have HM := Lib.hid hm
  have HSL := Lib.hid hSl
  clear hm hv hSl
  refine callsIn_of_wp Tryz.func58 rfl hF ?_ hro
  simp only [Tryz.ntmps58, List.size_toArray, List.length_cons, List.length_nil, Nat.reduceAdd, Nat.reduceSub, Array.replicate_succ, Array.replicate_zero, List.push_toArray, List.append_toArray, List.nil_append, List.cons_append]
  gi_wp2
  gi_loopw [9] (fun i wr => ∃ k : Nat, k ≤ m ∧ i = .int .i64 k ∧ J (nums (zs.take k)) wr ∧ KeepC S W wr) (fun i _ => m - (intOf i).toNat)
  case atStart => exact ⟨0, Nat.zero_le _, rfl, h0, KeepC.refl S W⟩
  case round =>
    obtain ⟨k, hk, rfl, hJs, hKp⟩ := hrel
    by_cases hlt : k < m
    · have hltz : (k : Int) < (m : Int) := by omega
      have hks : k < zs.length := by rw [HM.out]; exact hlt
      obtain ⟨b, off, rfl, hb, hx1, hx2⟩ := RE.rg (T := TR) rfl rfl (hKp.re hR hSa) hks
      have HNT : Hid (nums (zs.take (k + 1)) = nums (zs.take k) ++ numsOf zs[k]) := by
        unfold Hid; rw [List.take_succ_eq_append_getElem hks, nums_snoc]
      have HNS : Hid (nums zs = nums (zs.take k) ++ numsOf zs[k] ++ nums (zs.drop (k + 1))) := by
        unfold Hid
        rw [← HNT.out]
        unfold nums
        rw [← List.flatMap_append, List.take_append_drop]
      have hvk := validB_iff.1 (HV.out _ (List.getElem_mem hks))
      generalize zs[k] = r at hx1 hx2 HNT HNS hvk
      obtain ⟨x, y⟩ := r
      simp only at hx1 hx2 hvk
      obtain ⟨v1, v2, v3⟩ := hvk
      obtain ⟨wo, rfl⟩ : ∃ wo : World, wo = wr := ⟨_, rfl⟩
      have hJa := hJ _ wo (wo.alloc (.cells #[.int .i64 x, .int .i64 y] 92)) none hJs (World.grownBy_alloc wo _ none) (fun r e => by cases e)
      have hn4 := new2 wo 92 (.int .i64 x) (.int .i64 y)
      have hnS : ¬ S wo.heap.size := fun h => by have := HSL.out _ h; have := hKp.size; omega
      have hKa : KeepC S W (wo.alloc (.cells #[.int .i64 x, .int .i64 y] 92)) := hKp.trans (KeepC.below ((Below.refl _ _).alloc (Nat.le_refl _) _))
      generalize hpn : nums (zs.take k) = pn at *
      have HPN := Lib.hid hpn
      clear hpn
      gi_wp2
      gi_loopw [5] (fun i wx => ∃ t : Nat, t ≤ (y - x + 1).toNat ∧ i = .int .i64 (x + (t : Int)) ∧ J (pn ++ (numsOf (x, y)).take t) wx ∧ KeepC S (wo.alloc (.cells #[.int .i64 x, .int .i64 y] 92)) wx) (fun i _ => (y + 1 - intOf i).toNat)
      case atStart => exact ⟨0, Nat.zero_le _, by simp, by simpa using hJa, KeepC.refl _ _⟩
      case round =>
        obtain ⟨t, ht, rfl, hJt, hKt⟩ := hrel
        have hcy := hKt.cell hn4.2 hnS
        have HLN : Hid ((numsOf (x, y)).length = (y - x + 1).toNat) := by unfold Hid numsOf; rw [List.length_map, List.length_range]
        by_cases hlt2 : x + (t : Int) ≤ y
        · have HG : Hid ((numsOf (x, y)).take (t + 1) = (numsOf (x, y)).take t ++ [x + (t : Int)]) := by
            unfold Hid
            rw [List.take_succ_eq_append_getElem (by rw [HLN.out]; omega)]
            congr 2
            unfold numsOf
            rw [List.getElem_map, List.getElem_range]
          obtain ⟨fn, tmps, assign, body, hy, hRd⟩ := hY _ (x + (t : Int)) wr hJt (by
            rw [HNS.out, List.length_append, List.length_append, List.length_append, List.length_take, HLN.out]
            omega)
          have w1 : IntKind.i64.wrap (x + (t : Int) + 1) = x + (t : Int) + 1 := IntWalk.i64_in _ (by omega)
          gi_wp2
          refine hRd.mono ?_
          rintro e W3 (⟨rfl, hJ3, hk3⟩ | ⟨rfl, hJx3⟩)
          · gi_wp2
            go_roundw
            case rel => exact ⟨t + 1, by omega, congrArg (Value.int .i64) (by omega), by rw [HG.out, ← List.append_assoc]; exact hJ3, hKt.trans hk3⟩
            case measure => simp [intOf]; omega
          · gi_wp2
            refine bodyPost_ret (results_none rfl _ _ _) rfl ?_
            refine ⟨⟨_, rfl⟩, .inr ⟨_, ?_, hJx3⟩⟩
            rw [List.append_assoc, ← HG.out, HNS.out, List.append_assoc, List.prefix_append_right_inj]
            exact (List.take_prefix _ _).trans (List.prefix_append _ _)
        · have hte : (numsOf (x, y)).take t = numsOf (x, y) := List.take_of_length_le (by rw [HLN.out]; omega)
          rw [hte] at hJt
          clear hte
          have w1 : IntKind.i64.wrap ((k : Int) + 1) = (k : Int) + 1 := IntWalk.i64_in _ (by omega)
          gi_wp2
          go_roundw
          case rel => exact ⟨k + 1, by omega, by simp, by rw [HNT.out]; exact hJt, hKa.trans hKt⟩
          case measure => simp [intOf]; omega
    · obtain rfl : k = m := by omega
      gi_wp2
      go_end0
      exact ⟨⟨_, rfl⟩, .inl ⟨_, by rw [List.take_of_length_le (by rw [HM.out]; exact Nat.le_refl _)], hJs⟩⟩

/-- (newsrc.Set).All hands back an iterator. -/
theorem all_stops (F : Fence) (n : Nat) (hF : F.fn 58) (hro : F.round = none) (hn : 1 ≤ n) (Bs : Nat) (S : Nat → Prop) (a : Option Addr) (m c : Nat) (zs : List Rg) (hm : zs.length = m) (hM : m ≤ 1000000) (hv : ∀ r ∈ zs, validB r = true) (w : World)
    (hBs : w.cell? ⟨Bs, 0, none⟩ = some (.slice a m c)) (hBl : Bs < w.heap.size) (hR : RE TR w a zs) (hSa : zs ≠ [] → ∀ b off, a = some ⟨b, off, none⟩ → ¬ S b) (hSl : ∀ b, S b → b < w.heap.size) :
    SeqStopsK F n Tryz.prog 58 #[.pointer (some ⟨Bs, 0, none⟩)] (fun x : Int => #[Value.int .i64 x]) (KeepC S) (fun ys => ys = nums zs) (fun pre => pre <+: nums zs) (nums zs).length w := fun l J Jx W hW hJ hJx hY h0 =>
  all1_in F n hF hro hn l Bs S a m c zs hm hM hv J Jx hY W hJ ((hW.cell (p := ⟨Bs, 0, none⟩) hBl).trans hBs) (hR.below hW) hSa (fun b hb => Nat.lt_of_lt_of_le (hSl b hb) hW.size) h0
end Go.Proofs.YtddmldfdakmecaaGreatDoor
