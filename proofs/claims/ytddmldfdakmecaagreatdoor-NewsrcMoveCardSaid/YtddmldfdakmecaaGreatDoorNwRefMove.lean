/- The law's numbers: the reference's numbers of articles as those of the package. The reference's Move. -/
import Derived.Test.YtddmldfdakmecaaGreatDoorNwMove
import Derived.Test.YtddmldfdakmecaaGreatDoorNwOwn
import Derived.Test.YtddmldfdakmecaaGreatDoorNwHeld
import Derived.Test.YtddmldfdakmecaaGreatDoorNwRefNormal
namespace Go.Proofs.YtddmldfdakmecaaGreatDoor
open Go.RowKit Go.Gn Go.El Go.Nw

theorem idc_sizeR (i : Idt) : (Tryz.prog.info? 55).map (·.size) = some (idc i).length := by rw [idc_length]; kernel_rfl
theorem exec_build_num (W : World) (a : Act) (x y : Operand) {o : Oper} (ho : o.op = .build 58 #[(0, x), (1, y)]) (r : Num) (hx : a.eval x = .agg (idc r.1).toArray) (hy : a.eval y = .int .i64 r.2) :
    (execOp a.eval o).run Tryz.prog W = .ok (.value (.agg (nuc r).toArray)) W := by
  have h := run_build W 58 #[(0, .agg (idc r.1).toArray), (1, .int .i64 r.2)] _ (built_num (idc r.1) (idc_length r.1) r.2)
  unfold execOp
  simp only [ho, Sem.run_bind, List.map_toArray, List.map_cons, List.map_nil, hx, hy, h, Result.andThen_ok]
  rfl
theorem step_slice_num {ops : Array Oper} {o : Oper} {act : Act} {K : Act → World → Prop} {Q : Exit → Act → World → Prop} {E : Prop} {w : World} (hgd : o.guard = none) (x : Operand)
    (ho : o.op = .buildSlice 41 1 #[(0, x)]) (r : Num) (hx : act.eval x = .agg (nuc r).toArray)
    (h : K (act.put o.dst (.slice (some ⟨w.heap.size, 0, none⟩) 1 1)) (w.alloc (.cells (nuc r).toArray 58))) :
    if Region.wanted o (yielded ops act.tmps) = true then Oper.wp Tryz.prog o act w K Q else E := by
  have hw : Region.wanted o (yielded ops act.tmps) = true := by simp [Region.wanted, hgd]
  rw [if_pos hw]
  have hr := run_slice_num w (idc r.1) (idc_length r.1) r.2
  unfold Oper.wp execOp
  simp only [ho, Sem.run_bind, List.map_toArray, List.map_cons, List.map_nil, hx]
  rw [show (nuc r).toArray = (idc r.1 ++ [Value.int .i64 r.2]).toArray from rfl, hr]
  exact h

set_option maxRecDepth 100000 in
set_option maxHeartbeats 4000000 in
/-- 'numbers'. -/
theorem numbers_any (a : Option Addr) (n c : Nat) (zs : List Num) (w : World) (hn : zs.length = n) (hN : n ≤ 1000) (hS : RE TV w a zs) :
    Calls Tryz.prog 19 #[.slice a n c] w fun e w' => Below w.heap.size w w' ∧ ∃ v, e = .returned v ∧ OE TU w' w.heap.size v zs := by
  have HN := Lib.hid hn
  clear hn
  go_enter Tryz.func19, Tryz.ntmps19
  go_wp2
  go_loopg [3, 4] n (fun gg s3 s4 wr => ∃ (k : Nat), k ≤ n ∧ n - k ≤ gg ∧ s4 = .int .i64 k ∧ OE TU wr w.heap.size s3 (zs.take k) ∧ Below w.heap.size w wr)
  case atStart => exact ⟨0, Nat.zero_le _, by omega, rfl, OE.nil _ _ _, Below.refl _ _⟩
  case round =>
    obtain ⟨k, hk, hg, rfl, hO, hB⟩ := hrel
    by_cases hlt : k < n
    · have hltz : (k : Int) < (n : Int) := by omega
      have hk0 : (0 : Int) ≤ (k : Int) := by omega
      have hkz : k < zs.length := by rw [HN.out]; exact hlt
      obtain ⟨b, off, rfl, hb, hrg, hri, hx⟩ := re_num (T := TV) rfl rfl hS hkz
      have HTK : Hid (zs.take (k + 1) = zs.take k ++ [zs[k]]) := take_snoc zs k hkz
      have hll : Hid ((zs.take k).length + 1 ≤ 30000000000) := by unfold Hid; rw [List.length_take]; omega
      generalize zs[k] = r at hrg hri hx HTK
      have hcell : ∀ Wx, Below w.heap.size w Wx → Wx.cell? ⟨b, off + k * 33 + 32, none⟩ = some (.int .i64 r.2) := fun Wx h => (h.cell (p := ⟨b, off + k * 33 + 32, none⟩) hb).trans hx
      have hrange : ∀ Wx, Below w.heap.size w Wx → Wx.rangeAt b (off + k * 33) (idc r.1) := fun Wx h j v hv => (h.cell (p := ⟨b, off + k * 33 + j, none⟩) hb).trans (hri j v hv)
      have hBd := hB.drew
      have hSB : Below w.heap.size w (wr.drew.alloc (.cells (nuc r).toArray 58)) := hBd.alloc hBd.size _
      have hOO : OE TU (wr.drew.alloc (.cells (nuc r).toArray 58)) w.heap.size u3 (zs.take k) := (hO.drewN 1).alloc _
      have hNN : RE TU (wr.drew.alloc (.cells (nuc r).toArray 58)) (some ⟨wr.drew.heap.size, 0, none⟩) [r] := RE.new TU wr.drew [r] (nuc r).toArray 58 wr.drew.heap.size rfl (by simp [Ty.flat, TU])
      have hbs : w.heap.size ≤ (wr.drew.alloc (.cells (nuc r).toArray 58)).heap.size := hSB.size
      go_wp2
      try dsimp only [List.append]
      refine wp_region_held_drew (S := fun Wx => Below w.heap.size w Wx) (by kernel_rfl) hBd (fun hh0 => ?_)
      refine take_op (i := 0) (d := some 11) (v := ?_) (by kernel_rfl) (by kernel_rfl) (by kernel_rfl) (by kernel_rfl) (fun _ _ _ h => h) (fun o ho => ?_) hh0 ?_
      rotate_left
      · simp only [List.getElem?_toArray, List.getElem?_cons_succ, List.getElem?_cons_zero, Option.some.injEq] at ho; subst ho; refine Or.inl ⟨by rfl, fun Wx hSw => ?_⟩; have k1 := hcell Wx hSw; go_simp; all_goals with_reducible rfl
      try simp only [Act.put, List.setIfInBounds_toArray, List.set_cons_zero, List.set_cons_succ]
      refine take_op (i := 1) (d := some 12) (v := ?_) (by kernel_rfl) (by kernel_rfl) (by kernel_rfl) (by kernel_rfl) (fun _ _ _ h => h) (fun o ho => ?_) hh0 ?_
      rotate_left
      · simp only [List.getElem?_toArray, List.getElem?_cons_succ, List.getElem?_cons_zero, Option.some.injEq] at ho; subst ho; refine Or.inl ⟨by rfl, fun Wx hSw => ?_⟩; have k1 := hcell Wx hSw; go_simp; all_goals with_reducible rfl
      try simp only [Act.put, List.setIfInBounds_toArray, List.set_cons_zero, List.set_cons_succ]
      refine take_op (i := 2) (d := some 13) (v := ?_) (by kernel_rfl) (by kernel_rfl) (by kernel_rfl) (by kernel_rfl) (fun _ _ _ h => h) (fun o ho => ?_) hh0 ?_
      rotate_left
      · simp only [List.getElem?_toArray, List.getElem?_cons_succ, List.getElem?_cons_zero, Option.some.injEq] at ho; subst ho; refine Or.inl ⟨by rfl, fun Wx hSw => ?_⟩; have k1 := hcell Wx hSw; go_simp; all_goals with_reducible rfl
      try simp only [Act.put, List.setIfInBounds_toArray, List.set_cons_zero, List.set_cons_succ]
      refine take_op (i := 3) (d := some 14) (v := ?_) (by kernel_rfl) (by kernel_rfl) (by kernel_rfl) (by kernel_rfl) (fun _ _ _ h => h) (fun o ho => ?_) hh0 ?_
      rotate_left
      · simp only [List.getElem?_toArray, List.getElem?_cons_succ, List.getElem?_cons_zero, Option.some.injEq] at ho; subst ho; refine Or.inl ⟨by rfl, fun Wx hSw => ?_⟩; have k1 := hcell Wx hSw; go_simp; all_goals with_reducible rfl
      try simp only [Act.put, List.setIfInBounds_toArray, List.set_cons_zero, List.set_cons_succ]
      refine take_op (i := 4) (d := some 15) (v := ?_) (by kernel_rfl) (by kernel_rfl) (by kernel_rfl) (by kernel_rfl) (fun _ _ _ h => h) (fun o ho => ?_) hh0 ?_
      rotate_left
      · simp only [List.getElem?_toArray, List.getElem?_cons_succ, List.getElem?_cons_zero, Option.some.injEq] at ho; subst ho; refine Or.inl ⟨by rfl, fun Wx hSw => ?_⟩; have k1 := hcell Wx hSw; go_simp; all_goals with_reducible rfl
      try simp only [Act.put, List.setIfInBounds_toArray, List.set_cons_zero, List.set_cons_succ]
      refine take_op (i := 5) (d := some 16) (v := .agg (idc r.1).toArray) (by kernel_rfl) (by kernel_rfl) (by kernel_rfl) (by kernel_rfl) (fun _ _ _ h => h) (fun o ho => ?_) hh0 ?_
      · simp only [List.getElem?_toArray, List.getElem?_cons_succ, List.getElem?_cons_zero, Option.some.injEq] at ho; subst ho; exact yieldsIf_load_mid (by rfl) 55 _ rfl b (off + k * 33) rfl (idc r.1) _ (fun Wx hSw => hrange Wx hSw) Tryz.underlying55 rfl (idc_sizeR r.1)
      try simp only [Act.put, List.setIfInBounds_toArray, List.set_cons_zero, List.set_cons_succ]
      refine take_op (i := 6) (d := some 17) (v := ?_) (by kernel_rfl) (by kernel_rfl) (by kernel_rfl) (by kernel_rfl) (fun _ _ _ h => h) (fun o ho => ?_) hh0 ?_
      rotate_left
      · simp only [List.getElem?_toArray, List.getElem?_cons_succ, List.getElem?_cons_zero, Option.some.injEq] at ho; subst ho; refine Or.inl ⟨by rfl, fun Wx hSw => ?_⟩; have k1 := hcell Wx hSw; go_simp; all_goals with_reducible rfl
      try simp only [Act.put, List.setIfInBounds_toArray, List.set_cons_zero, List.set_cons_succ]
      refine take_op (i := 7) (d := some 18) (v := ?_) (by kernel_rfl) (by kernel_rfl) (by kernel_rfl) (by kernel_rfl) (fun _ _ _ h => h) (fun o ho => ?_) hh0 ?_
      rotate_left
      · simp only [List.getElem?_toArray, List.getElem?_cons_succ, List.getElem?_cons_zero, Option.some.injEq] at ho; subst ho; refine Or.inl ⟨by rfl, fun Wx hSw => ?_⟩; have k1 := hcell Wx hSw; go_simp; all_goals with_reducible rfl
      try simp only [Act.put, List.setIfInBounds_toArray, List.set_cons_zero, List.set_cons_succ]
      refine take_op (i := 8) (d := some 19) (v := ?_) (by kernel_rfl) (by kernel_rfl) (by kernel_rfl) (by kernel_rfl) (fun _ _ _ h => h) (fun o ho => ?_) hh0 ?_
      rotate_left
      · simp only [List.getElem?_toArray, List.getElem?_cons_succ, List.getElem?_cons_zero, Option.some.injEq] at ho; subst ho; refine Or.inl ⟨by rfl, fun Wx hSw => ?_⟩; have k1 := hcell Wx hSw; go_simp; all_goals with_reducible rfl
      try simp only [Act.put, List.setIfInBounds_toArray, List.set_cons_zero, List.set_cons_succ]
      refine take_op (i := 9) (d := some 20) (v := ?_) (by kernel_rfl) (by kernel_rfl) (by kernel_rfl) (by kernel_rfl) (fun _ _ _ h => h) (fun o ho => ?_) hh0 ?_
      rotate_left
      · simp only [List.getElem?_toArray, List.getElem?_cons_succ, List.getElem?_cons_zero, Option.some.injEq] at ho; subst ho; refine Or.inl ⟨by rfl, fun Wx hSw => ?_⟩; have k1 := hcell Wx hSw; go_simp; all_goals with_reducible rfl
      try simp only [Act.put, List.setIfInBounds_toArray, List.set_cons_zero, List.set_cons_succ]
      refine take_op (i := 10) (d := some 21) (v := ?_) (by kernel_rfl) (by kernel_rfl) (by kernel_rfl) (by kernel_rfl) (fun _ _ _ h => h) (fun o ho => ?_) hh0 ?_
      rotate_left
      · simp only [List.getElem?_toArray, List.getElem?_cons_succ, List.getElem?_cons_zero, Option.some.injEq] at ho; subst ho; refine Or.inl ⟨by rfl, fun Wx hSw => ?_⟩; have k1 := hcell Wx hSw; go_simp; all_goals with_reducible rfl
      try simp only [Act.put, List.setIfInBounds_toArray, List.set_cons_zero, List.set_cons_succ]
      refine take_op (i := 11) (d := some 22) (v := .agg (nuc r).toArray) (by kernel_rfl) (by kernel_rfl) (by kernel_rfl) (by kernel_rfl) (fun _ _ _ h => h) (fun o ho => ?_) hh0 ?_
      · simp only [List.getElem?_toArray, List.getElem?_cons_succ, List.getElem?_cons_zero, Option.some.injEq] at ho; subst ho; refine Or.inl ⟨by rfl, fun Wx hSw => ?_⟩; exact exec_build_num Wx _ (.tmp 16) (.tmp 21) rfl r rfl rfl
      try simp only [Act.put, List.setIfInBounds_toArray, List.set_cons_zero, List.set_cons_succ]
      refine wpAnyH_ready (rs := [12]) (by kernel_rfl) (by simp) (one_op (d := some 23) (by kernel_rfl) fun o ho K hK => ?_)
      simp only [List.getElem?_toArray, List.getElem?_cons_succ, List.getElem?_cons_zero, Option.some.injEq] at ho
      subst ho
      refine step_slice_num rfl (.tmp 22) rfl r rfl ?_
      refine hK.out _ _ hSB (fun _ => ?_)
      clear hK K
      try simp only [Act.put, List.setIfInBounds_toArray, List.set_cons_zero, List.set_cons_succ]
      refine wpAnyH_ready (rs := [13]) (by kernel_rfl) (by simp) (one_op (d := some 24) (by kernel_rfl) fun o ho K hK => ?_)
      simp only [List.getElem?_toArray, List.getElem?_cons_succ, List.getElem?_cons_zero, Option.some.injEq] at ho
      subst ho
      refine El.step TU (m := 1) hOO hNN rfl (by intro e; cases e) hll.out hbs (.tmp 11) (.tmp 23) rfl rfl rfl rfl ?_
      intro v1 w3 hO3 hG3
      have hB3 := hSB.grown hG3 hbs (fun q hq => (World.ownsRow.lt hOO q hq).1)
      refine hK.out _ _ hB3 (fun _ => ?_)
      clear hK K
      obtain ⟨a5, m5, c5, rfl⟩ := hO3.sl
      try simp only [Act.put, List.setIfInBounds_toArray, List.set_cons_zero, List.set_cons_succ]
      refine take_op (i := 14) (d := some 3) (v := ?_) (by kernel_rfl) (by kernel_rfl) (by kernel_rfl) (by kernel_rfl) (fun _ _ _ h => h) (fun o ho => ?_) hB3 ?_
      rotate_left
      · simp only [List.getElem?_toArray, List.getElem?_cons_succ, List.getElem?_cons_zero, Option.some.injEq] at ho; subst ho; refine Or.inl ⟨by rfl, fun Wx hSw => ?_⟩; skip; go_simp; all_goals with_reducible rfl
      try simp only [Act.put, List.setIfInBounds_toArray, List.set_cons_zero, List.set_cons_succ]
      refine wpAnyH_done (by kernel_rfl) ?_ _
      go_wp2
      go_roundg (n - (k + 1))
      case measure => omega
      case rel => exact ⟨k + 1, by omega, by omega, by go_num, by rw [HTK.out]; exact hO3, hB3⟩
    · have hltz : ¬ (k : Int) < (n : Int) := by omega
      rw [List.take_of_length_le (by rw [HN.out]; omega)] at hO
      go_wp2
      go_ret
      exact ⟨hB, _, rfl, hO⟩
end Go.Proofs.YtddmldfdakmecaaGreatDoor

namespace Go.Proofs.YtddmldfdakmecaaGreatDoor
open Go.RowKit Go.Gn Go.El Go.Nw

/-- What one article there adds; what all add. -/
def outI (X : List Rg) (t : Num) (zs : List Num) : List Rg := (zs.filter fun h => decide (h.1 = t.1) && memB h.2 X).map fun _ => dup t.2
def outR (X : List Rg) (zs ys : List Num) : List Rg := ys.flatMap fun t => outI X t zs
theorem outI_snoc (X : List Rg) (t : Num) (zs : List Num) (h : Num) : outI X t (zs ++ [h]) = outI X t zs ++ (if (decide (h.1 = t.1) && memB h.2 X) = true then [dup t.2] else []) := by
  unfold outI
  rw [List.filter_append, List.map_append]
  congr 1
  cases e : (decide (h.1 = t.1) && memB h.2 X) <;> simp [e]
theorem outR_snoc (X : List Rg) (zs ys : List Num) (t : Num) : outR X zs (ys ++ [t]) = outR X zs ys ++ outI X t zs := by
  unfold outR; rw [List.flatMap_append]; simp
theorem outI_length (X : List Rg) (t : Num) (zs : List Num) : (outI X t zs).length ≤ zs.length := by
  unfold outI; rw [List.length_map]; exact List.length_filter_le _ _
theorem outR_length (X : List Rg) (zs : List Num) : ∀ ys : List Num, (outR X zs ys).length ≤ ys.length * zs.length
  | [] => by simp [outR]
  | t :: ys => by
    have h1 := outR_length X zs ys
    have h2 := outI_length X t zs
    show (outI X t zs ++ outR X zs ys).length ≤ _
    rw [List.length_append, List.length_cons, Nat.succ_mul]
    omega
theorem mem_outR {X : List Rg} {zs ys : List Num} {r : Rg} : r ∈ outR X zs ys ↔ ∃ t ∈ ys, (∃ h ∈ zs, h.1 = t.1 ∧ memB h.2 X = true) ∧ r = dup t.2 := by
  unfold outR outI
  simp only [List.mem_flatMap, List.mem_map, List.mem_filter, Bool.and_eq_true, decide_eq_true_eq]
  exact ⟨fun ⟨t, ht, h, ⟨hh, he⟩, e⟩ => ⟨t, ht, ⟨h, hh, he⟩, e.symm⟩, fun ⟨t, ht, ⟨h, hh, he⟩, e⟩ => ⟨t, ht, h, ⟨hh, he⟩, e.symm⟩⟩
theorem mem_moved {X : List Rg} {zs ys : List Num} {r : Rg} : r ∈ (moved (known X zs) ys).map dup ↔ ∃ t ∈ ys, (∃ h ∈ zs, h.1 = t.1 ∧ memB h.2 X = true) ∧ r = dup t.2 := by
  unfold moved known
  simp only [List.mem_map, List.mem_filter, decide_eq_true_eq]
  constructor
  · rintro ⟨x, ⟨t, ⟨ht, h, ⟨hh, hm⟩, e⟩, rfl⟩, rfl⟩
    exact ⟨t, ht, ⟨h, hh, e, hm⟩, rfl⟩
  · rintro ⟨t, ht, ⟨h, hh, e, hm⟩, rfl⟩
    exact ⟨t.2, ⟨t, ⟨ht, h, ⟨hh, hm⟩, e⟩, rfl⟩, rfl⟩
theorem normal_out {X : List Rg} {zs ys : List Num} : normal (outR X zs ys) = normal ((moved (known X zs) ys).map dup) := by
  have h1 : ∀ r ∈ outR X zs ys, r.1 ≤ r.2 := fun r hr => by obtain ⟨t, _, _, rfl⟩ := mem_outR.1 hr; exact Int.le_refl _
  have h2 : ∀ r ∈ (moved (known X zs) ys).map dup, r.1 ≤ r.2 := fun r hr => by obtain ⟨t, _, _, rfl⟩ := mem_moved.1 hr; exact Int.le_refl _
  refine normal_eq (normal_spec h1).1 h2 fun n => ?_
  rw [(normal_spec h1).2, Bool.eq_iff_iff, memB_iff, memB_iff]
  constructor
  · rintro ⟨r, hr, h⟩; exact ⟨r, mem_moved.2 (mem_outR.1 hr), h⟩
  · rintro ⟨r, hr, h⟩; exact ⟨r, mem_outR.2 (mem_moved.1 hr), h⟩

theorem refLimited_ok (a : Option Addr) (n c : Nat) (w : World) (hn : n ≤ 4096) :
    Calls Tryz.prog 61 #[.slice a n c] w fun e w' => e = .returned (.tuple #[.slice a n c, .int .i64 0]) ∧ w' = w := by
  have hz : ¬ (4096 : Int) < (n : Int) := by omega
  go_enter Tryz.func61, Tryz.ntmps61
  go_wp2
  exact bodyPost_ret (v := .tuple #[.slice a n c, .int .i64 0]) (by simp [results, Tryz.results61, go_sem]) rfl ⟨rfl, rfl⟩

theorem exec_eql_id (W : World) (a : Act) (x y : Operand) {o : Oper} (ho : o.op = .binOp .eql 55 x y 55) (p q : Idt) (hx : a.eval x = .agg (idc p).toArray) (hy : a.eval y = .agg (idc q).toArray) {bb : Bool} (hd : decide (p = q) = bb) :
    (execOp a.eval o).run Tryz.prog W = .ok (.value (.bool bb)) W := by
  have hrun := eql_id idTyR p q W
  have hm : Tryz.prog.eqGuardType Tryz.prog.depth 55 = false := by kernel_rfl
  rw [hd] at hrun
  unfold execOp
  simp [ho, hx, hy, run_eqGuard_agg, hm, hrun]

def RefMovePost (X : List Rg) (zs ys : List Num) (w : World) (e : Ending) (w' : World) : Prop :=
  Below w.heap.size w w' ∧
  ((numsB (zs ++ ys) ∧ ∃ v, e = .returned (.tuple #[v, .int .i64 0]) ∧ OE TG w' w.heap.size v (normal ((moved (known X zs) ys).map dup))) ∨
   (¬ numsB (zs ++ ys) ∧ e = .returned (.tuple #[.slice none 0 0, .int .i64 2])))

set_option maxRecDepth 100000 in
set_option maxHeartbeats 8000000 in
/-- The reference's 'Move'. -/
theorem refMove_any (a : Option Addr) (n c : Nat) (X : List Rg) (a1 : Option Addr) (n1 c1 : Nat) (zs : List Num) (a2 : Option Addr) (n2 c2 : Nat) (ys : List Num) (w : World) (hn : X.length = n) (hN : n ≤ 1000) (hR : RE TG w a X)
    (hn1 : zs.length = n1) (hN1 : n1 ≤ 40) (hR1 : RE TV w a1 zs) (hc1 : a1 = none → c1 = 0) (hn2 : ys.length = n2) (hN2 : n2 ≤ 40) (hR2 : RE TV w a2 ys) (hc2 : a2 = none → c2 = 0) :
    Calls Tryz.prog 20 #[.slice a n c, .slice a1 n1 c1, .slice a2 n2 c2] w fun e w' => RefMovePost X zs ys w e w' := by
  have hb0 := (Below.refl w.heap.size w).alloc (Nat.le_refl _) (.cells #[] 102)
  have hO0 : OE TV (w.alloc (.cells #[] 102)) w.heap.size (.slice (some ⟨w.heap.size, 0, none⟩) 0 0) [] := OE.lit TV w _ _ rfl (Nat.le_refl _)
  have hR10 := hR1.below hb0
  have hs0 := hb0.size
  have HN := Lib.hid hn
  have HN1 := Lib.hid hn1
  have HN2 := Lib.hid hn2
  clear hn hn1 hn2
  obtain ⟨m, hmd⟩ : ∃ m, m = n1 + n2 := ⟨_, rfl⟩
  have HLEN : Hid (([] ++ zs ++ ys : List Num).length = m) := by unfold Hid; rw [List.nil_append, List.length_append, HN1.out, HN2.out, hmd]
  have HM : Hid ((zs ++ ys).length = m) := HLEN.out
  have hm2 : m ≤ 80 := by omega
  clear hmd
  go_enter Tryz.func20, Tryz.ntmps20
  go_wp2_with (first | (at_builtin; refine El.app TV (base := w.heap.size) hOA hR2A HN2.out hc2 (by rw [List.nil_append, HN1.out]; omega) hsA _ _ rfl rfl rfl rfl ?_; intro v2 w2 hO2 hG2; have hb2 := hbA.grown hG2 hsA (fun q hq => (World.ownsRow.lt hOA q hq).1); obtain ⟨a4, c4, rfl, hR4, q1, q2, q3, q4⟩ := hO2.re; rw [HLEN.out]) | (at_builtin; refine El.app TV (base := w.heap.size) hO0 hR10 HN1.out hc1 (by simp; omega) hs0 _ _ rfl rfl rfl rfl ?_; intro v1 w1 hOA hGA; have hbA := hb0.grown hGA hs0 (fun q hq => by cases hq; exact Nat.le_refl _); have hR2A := hR2.below hbA; have hsA := hbA.size))
  clear hOA hGA hbA hR2A hsA hG2 q1 q2 q3 q4 hb0 hO0 hR10 hs0
  have hs2 := hb2.size
  rw [List.nil_append] at hO2 hR4
  have hX2 := hR.below hb2
  have hS1 := hR1.below hb2
  have hS2 := hR2.below hb2
  clear hO2
  go_wp2
  go_loopg [9] m (fun gg s9 wr => ∃ (k : Nat), k ≤ m ∧ m - k ≤ gg ∧ s9 = .int .i64 k ∧ wr = w2 ∧ Aside (numsB ((zs ++ ys).take k)))
  case atStart => exact ⟨0, Nat.zero_le _, by omega, rfl, rfl, show Aside _ from fun q hq => by rw [List.take_zero] at hq; cases hq⟩
  case round =>
    obtain ⟨k, hk, hg, rfl, rfl, A⟩ := hrel
    by_cases hlt : k < m
    · have hltz : (k : Int) < (m : Int) := by omega
      have hkz : k < (zs ++ ys).length := by rw [HM.out]; exact hlt
      obtain ⟨b, off, rfl, hb, _, _, hx⟩ := re_num (T := TV) rfl rfl hR4 hkz
      have HTK : Hid (numsB ((zs ++ ys).take (k + 1)) ↔ numsB ((zs ++ ys).take k) ∧ artB (zs ++ ys)[k].2 = true) := by
        unfold Hid numsB
        rw [List.take_succ_eq_append_getElem hkz]
        simp only [List.mem_append, List.mem_singleton]
        exact ⟨fun h => ⟨fun q hq => h q (.inl hq), h _ (.inr rfl)⟩, fun h q hq => hq.elim (h.1 q) fun e => e ▸ h.2⟩
      have HBAD : Hid (¬ artB (zs ++ ys)[k].2 = true → ¬ numsB (zs ++ ys)) := fun h hall => h (hall _ (List.getElem_mem hkz))
      generalize (zs ++ ys)[k].2 = x at hx HTK HBAD
      by_cases h1 : x < 1
      · have HNO : Hid (¬ numsB (zs ++ ys)) := HBAD.out fun h => by have := artB_iff.1 h; omega
        have hd1 : decide (x < 1) = true := decide_eq_true h1
        go_wp2
        exact bodyPost_ret (v := .tuple #[.slice none 0 0, .int .i64 2]) (by simp [results, Tryz.results20, go_sem]) rfl ⟨hb2, .inr ⟨HNO.out, rfl⟩⟩
      · have hd1 : decide (x < 1) = false := decide_eq_false h1
        by_cases h2 : 1099511627776 < x
        · have HNO : Hid (¬ numsB (zs ++ ys)) := HBAD.out fun h => by have := artB_iff.1 h; omega
          have hd2 : decide (1099511627776 < x) = true := decide_eq_true h2
          go_wp2
          exact bodyPost_ret (v := .tuple #[.slice none 0 0, .int .i64 2]) (by simp [results, Tryz.results20, go_sem]) rfl ⟨hb2, .inr ⟨HNO.out, rfl⟩⟩
        · have HOK : Hid (numsB ((zs ++ ys).take (k + 1))) := HTK.out.2 ⟨A.out, artB_iff.2 (by omega)⟩
          have hd2 : decide (1099511627776 < x) = false := decide_eq_false h2
          go_wp2
          go_roundg (m - (k + 1))
          case measure => omega
          case rel => exact ⟨k + 1, by omega, by omega, by go_num, rfl, show Aside _ from HOK.out⟩
    · have hltz : ¬ (k : Int) < (m : Int) := by omega
      have HALL : Hid (numsB (zs ++ ys)) := by
        have := A.out
        rwa [List.take_of_length_le (by rw [HM.out]; omega)] at this
      obtain ⟨w2, rfl⟩ : ∃ w2 : World, w2 = wr := ⟨_, rfl⟩
      clear A hR4
      go_wp2
      go_loopg [10, 11] n2 (fun gg s10 s11 wx => ∃ (i : Nat), i ≤ n2 ∧ n2 - i ≤ gg ∧ s11 = .int .i64 i ∧ OE TG wx w2.heap.size s10 (outR X zs (ys.take i)) ∧ Below w2.heap.size w2 wx)
      case atStart => exact ⟨0, Nat.zero_le _, by omega, rfl, OE.nil _ _ _, Below.refl _ _⟩
      case round =>
        obtain ⟨i, hi, hgi, rfl, hOi, hBi⟩ := hrel
        by_cases hlt : i < n2
        · have hltz : (i : Int) < (n2 : Int) := by omega
          have hi0 : (0 : Int) ≤ (i : Int) := by omega
          have hkz : i < ys.length := by rw [HN2.out]; exact hlt
          obtain ⟨b2, o2, rfl, hbb2, _, hri2, hx2⟩ := re_num (T := TV) rfl rfl hS2 hkz
          have HTI : Hid (outR X zs (ys.take (i + 1)) = outR X zs (ys.take i) ++ outI X ys[i] zs) := by
            unfold Hid; rw [List.take_succ_eq_append_getElem hkz, outR_snoc]
          have HLO : Hid ((outR X zs (ys.take i)).length ≤ 1600) := by
            unfold Hid
            have := outR_length X zs (ys.take i)
            have h2 : (ys.take i).length * zs.length ≤ 40 * 40 := Nat.mul_le_mul (by rw [List.length_take]; omega) (by rw [HN1.out]; exact hN1)
            omega
          generalize ys[i] = t at hri2 hx2 HTI
          generalize hpo : outR X zs (ys.take i) = po at *
          clear hpo
          go_wp2
          go_loopg [10, 12] n1 (fun gg s10 s12 wx => ∃ (k : Nat), k ≤ n1 ∧ n1 - k ≤ gg ∧ s12 = .int .i64 k ∧ OE TG wx w2.heap.size s10 (po ++ outI X t (zs.take k)) ∧ Below w2.heap.size w2 wx)
          case atStart => exact ⟨0, Nat.zero_le _, by omega, rfl, by rw [List.take_zero]; simpa [outI] using hOi, hBi⟩
          case round =>
            obtain ⟨k, hk, hgk, rfl, hO, hB⟩ := hrel
            by_cases hlt1 : k < n1
            · have hltz1 : (k : Int) < (n1 : Int) := by omega
              have hk0 : (0 : Int) ≤ (k : Int) := by omega
              have hkz1 : k < zs.length := by rw [HN1.out]; exact hlt1
              obtain ⟨b1, o1, rfl, hbb1, _, hri1, hx1⟩ := re_num (T := TV) rfl rfl hS1 hkz1
              have HTK : Hid (outI X t (zs.take (k + 1)) = outI X t (zs.take k) ++ (if (decide (zs[k].1 = t.1) && memB zs[k].2 X) = true then [dup t.2] else [])) := by
                unfold Hid; rw [List.take_succ_eq_append_getElem hkz1, outI_snoc]
              have hll : Hid ((po ++ outI X t (zs.take k)).length + 1 ≤ 30000000000) := by
                unfold Hid; have h1 := outI_length X t (zs.take k); have h2 := HLO.out; rw [List.length_take] at h1; rw [List.length_append]; omega
              generalize zs[k] = h at hri1 hx1 HTK
              have hcell : ∀ Wx, Below w2.heap.size w2 Wx → Wx.cell? ⟨b1, o1 + k * 33 + 32, none⟩ = some (.int .i64 h.2) := fun Wx hh => (hh.cell (p := ⟨b1, o1 + k * 33 + 32, none⟩) hbb1).trans hx1
              have hrange1 : ∀ Wx, Below w2.heap.size w2 Wx → Wx.rangeAt b1 (o1 + k * 33) (idc h.1) := fun Wx hh j v hv => (hh.cell (p := ⟨b1, o1 + k * 33 + j, none⟩) hbb1).trans (hri1 j v hv)
              have hrange2 : ∀ Wx, Below w2.heap.size w2 Wx → Wx.rangeAt b2 (o2 + i * 33) (idc t.1) := fun Wx hh j v hv => (hh.cell (p := ⟨b2, o2 + i * 33 + j, none⟩) hbb2).trans (hri2 j v hv)
              have hBd := hB.drew
              have hcell2 := (hBd.cell (p := ⟨b2, o2 + i * 33 + 32, none⟩) hbb2).trans hx2
              have hHas : ∀ Wx, Below w2.heap.size w2 Wx → Calls Tryz.prog 16 #[.slice a n c, .int .i64 h.2] Wx fun e w' => e = .returned (.bool (memB h.2 X)) ∧ w' = Wx := fun Wx hh => refHas_any a n c X h.2 Wx HN.out (by omega) (hX2.below hh)
              clear hri1 hri2 hx1 hx2
              by_cases he : h.1 = t.1
              · have hdec : decide (h.1 = t.1) = true := decide_eq_true he
                cases hv : memB h.2 X with
                | true =>
                  have HIN : Hid (outI X t (zs.take (k + 1)) = outI X t (zs.take k) ++ [dup t.2]) := by unfold Hid; rw [HTK.out, hdec, hv]; rfl
                  rw [hv] at hHas
                  clear hv he
                  go_wp2
                  try dsimp only [List.append]
                  refine wp_region_held_drew (S := fun Wx => Below w2.heap.size w2 Wx) (by kernel_rfl) hBd (fun hh0 => ?_)
                  refine take_op (i := 0) (d := some 50) (v := ?_) (by kernel_rfl) (by kernel_rfl) (by kernel_rfl) (by kernel_rfl) (fun _ _ _ h => h) (fun o ho => ?_) hh0 ?_
                  rotate_left
                  · simp only [List.getElem?_toArray, List.getElem?_cons_succ, List.getElem?_cons_zero, Option.some.injEq] at ho; subst ho; refine Or.inl ⟨by rfl, fun Wx hSw => ?_⟩; have k1 := hcell Wx hSw; go_simp; all_goals with_reducible rfl
                  try simp only [Act.put, List.setIfInBounds_toArray, List.set_cons_zero, List.set_cons_succ]
                  refine take_op (i := 1) (d := some 51) (v := ?_) (by kernel_rfl) (by kernel_rfl) (by kernel_rfl) (by kernel_rfl) (fun _ _ _ h => h) (fun o ho => ?_) hh0 ?_
                  rotate_left
                  · simp only [List.getElem?_toArray, List.getElem?_cons_succ, List.getElem?_cons_zero, Option.some.injEq] at ho; subst ho; refine Or.inl ⟨by rfl, fun Wx hSw => ?_⟩; have k1 := hcell Wx hSw; go_simp; all_goals with_reducible rfl
                  try simp only [Act.put, List.setIfInBounds_toArray, List.set_cons_zero, List.set_cons_succ]
                  refine take_op (i := 2) (d := some 52) (v := ?_) (by kernel_rfl) (by kernel_rfl) (by kernel_rfl) (by kernel_rfl) (fun _ _ _ h => h) (fun o ho => ?_) hh0 ?_
                  rotate_left
                  · simp only [List.getElem?_toArray, List.getElem?_cons_succ, List.getElem?_cons_zero, Option.some.injEq] at ho; subst ho; refine Or.inl ⟨by rfl, fun Wx hSw => ?_⟩; have k1 := hcell Wx hSw; go_simp; all_goals with_reducible rfl
                  try simp only [Act.put, List.setIfInBounds_toArray, List.set_cons_zero, List.set_cons_succ]
                  refine take_op (i := 3) (d := some 53) (v := ?_) (by kernel_rfl) (by kernel_rfl) (by kernel_rfl) (by kernel_rfl) (fun _ _ _ h => h) (fun o ho => ?_) hh0 ?_
                  rotate_left
                  · simp only [List.getElem?_toArray, List.getElem?_cons_succ, List.getElem?_cons_zero, Option.some.injEq] at ho; subst ho; refine Or.inl ⟨by rfl, fun Wx hSw => ?_⟩; have k1 := hcell Wx hSw; go_simp; all_goals with_reducible rfl
                  try simp only [Act.put, List.setIfInBounds_toArray, List.set_cons_zero, List.set_cons_succ]
                  refine take_op (i := 4) (d := some 54) (v := .agg (idc h.1).toArray) (by kernel_rfl) (by kernel_rfl) (by kernel_rfl) (by kernel_rfl) (fun _ _ _ h => h) (fun o ho => ?_) hh0 ?_
                  · simp only [List.getElem?_toArray, List.getElem?_cons_succ, List.getElem?_cons_zero, Option.some.injEq] at ho; subst ho; exact yieldsIf_load_mid (by rfl) 55 _ rfl b1 (o1 + k * 33) rfl (idc h.1) _ (fun Wx hSw => hrange1 Wx hSw) Tryz.underlying55 rfl (idc_sizeR h.1)
                  try simp only [Act.put, List.setIfInBounds_toArray, List.set_cons_zero, List.set_cons_succ]
                  refine take_op (i := 5) (d := some 55) (v := ?_) (by kernel_rfl) (by kernel_rfl) (by kernel_rfl) (by kernel_rfl) (fun _ _ _ h => h) (fun o ho => ?_) hh0 ?_
                  rotate_left
                  · simp only [List.getElem?_toArray, List.getElem?_cons_succ, List.getElem?_cons_zero, Option.some.injEq] at ho; subst ho; refine Or.inl ⟨by rfl, fun Wx hSw => ?_⟩; have k1 := hcell Wx hSw; go_simp; all_goals with_reducible rfl
                  try simp only [Act.put, List.setIfInBounds_toArray, List.set_cons_zero, List.set_cons_succ]
                  refine take_op (i := 6) (d := some 56) (v := ?_) (by kernel_rfl) (by kernel_rfl) (by kernel_rfl) (by kernel_rfl) (fun _ _ _ h => h) (fun o ho => ?_) hh0 ?_
                  rotate_left
                  · simp only [List.getElem?_toArray, List.getElem?_cons_succ, List.getElem?_cons_zero, Option.some.injEq] at ho; subst ho; refine Or.inl ⟨by rfl, fun Wx hSw => ?_⟩; have k1 := hcell Wx hSw; go_simp; all_goals with_reducible rfl
                  try simp only [Act.put, List.setIfInBounds_toArray, List.set_cons_zero, List.set_cons_succ]
                  refine take_op (i := 7) (d := some 57) (v := ?_) (by kernel_rfl) (by kernel_rfl) (by kernel_rfl) (by kernel_rfl) (fun _ _ _ h => h) (fun o ho => ?_) hh0 ?_
                  rotate_left
                  · simp only [List.getElem?_toArray, List.getElem?_cons_succ, List.getElem?_cons_zero, Option.some.injEq] at ho; subst ho; refine Or.inl ⟨by rfl, fun Wx hSw => ?_⟩; have k1 := hcell Wx hSw; go_simp; all_goals with_reducible rfl
                  try simp only [Act.put, List.setIfInBounds_toArray, List.set_cons_zero, List.set_cons_succ]
                  refine take_op (i := 8) (d := some 58) (v := ?_) (by kernel_rfl) (by kernel_rfl) (by kernel_rfl) (by kernel_rfl) (fun _ _ _ h => h) (fun o ho => ?_) hh0 ?_
                  rotate_left
                  · simp only [List.getElem?_toArray, List.getElem?_cons_succ, List.getElem?_cons_zero, Option.some.injEq] at ho; subst ho; refine Or.inl ⟨by rfl, fun Wx hSw => ?_⟩; have k1 := hcell Wx hSw; go_simp; all_goals with_reducible rfl
                  try simp only [Act.put, List.setIfInBounds_toArray, List.set_cons_zero, List.set_cons_succ]
                  refine take_op (i := 9) (d := some 59) (v := .agg (idc t.1).toArray) (by kernel_rfl) (by kernel_rfl) (by kernel_rfl) (by kernel_rfl) (fun _ _ _ h => h) (fun o ho => ?_) hh0 ?_
                  · simp only [List.getElem?_toArray, List.getElem?_cons_succ, List.getElem?_cons_zero, Option.some.injEq] at ho; subst ho; exact yieldsIf_load_mid (by rfl) 55 _ rfl b2 (o2 + i * 33) rfl (idc t.1) _ (fun Wx hSw => hrange2 Wx hSw) Tryz.underlying55 rfl (idc_sizeR t.1)
                  try simp only [Act.put, List.setIfInBounds_toArray, List.set_cons_zero, List.set_cons_succ]
                  refine take_op (i := 10) (d := some 60) (v := .bool true) (by kernel_rfl) (by kernel_rfl) (by kernel_rfl) (by kernel_rfl) (fun _ _ _ h => h) (fun o ho => ?_) hh0 ?_
                  · simp only [List.getElem?_toArray, List.getElem?_cons_succ, List.getElem?_cons_zero, Option.some.injEq] at ho; subst ho; refine Or.inl ⟨by rfl, fun Wx hSw => ?_⟩; exact exec_eql_id Wx _ (.tmp 54) (.tmp 59) rfl h.1 t.1 rfl rfl hdec
                  try simp only [Act.put, List.setIfInBounds_toArray, List.set_cons_zero, List.set_cons_succ]
                  refine take_op (i := 11) (d := some 61) (v := ?_) (by kernel_rfl) (by kernel_rfl) (by kernel_rfl) (by kernel_rfl) (fun _ _ _ h => h) (fun o ho => ?_) hh0 ?_
                  rotate_left
                  · simp only [List.getElem?_toArray, List.getElem?_cons_succ, List.getElem?_cons_zero, Option.some.injEq] at ho; subst ho; refine Or.inl ⟨by rfl, fun Wx hSw => ?_⟩; have k1 := hcell Wx hSw; go_simp; all_goals with_reducible rfl
                  try simp only [Act.put, List.setIfInBounds_toArray, List.set_cons_zero, List.set_cons_succ]
                  refine take_op (i := 12) (d := some 62) (v := ?_) (by kernel_rfl) (by kernel_rfl) (by kernel_rfl) (by kernel_rfl) (fun _ _ _ h => h) (fun o ho => ?_) hh0 ?_
                  rotate_left
                  · simp only [List.getElem?_toArray, List.getElem?_cons_succ, List.getElem?_cons_zero, Option.some.injEq] at ho; subst ho; refine Or.inl ⟨by rfl, fun Wx hSw => ?_⟩; have k1 := hcell Wx hSw; go_simp; all_goals with_reducible rfl
                  try simp only [Act.put, List.setIfInBounds_toArray, List.set_cons_zero, List.set_cons_succ]
                  refine take_op (i := 13) (d := some 63) (v := ?_) (by kernel_rfl) (by kernel_rfl) (by kernel_rfl) (by kernel_rfl) (fun _ _ _ h => h) (fun o ho => ?_) hh0 ?_
                  rotate_left
                  · simp only [List.getElem?_toArray, List.getElem?_cons_succ, List.getElem?_cons_zero, Option.some.injEq] at ho; subst ho; refine Or.inl ⟨by rfl, fun Wx hSw => ?_⟩; have k1 := hcell Wx hSw; go_simp; all_goals with_reducible rfl
                  try simp only [Act.put, List.setIfInBounds_toArray, List.set_cons_zero, List.set_cons_succ]
                  refine take_op (i := 14) (d := some 64) (v := ?_) (by kernel_rfl) (by kernel_rfl) (by kernel_rfl) (by kernel_rfl) (fun _ _ _ h => h) (fun o ho => ?_) hh0 ?_
                  rotate_left
                  · simp only [List.getElem?_toArray, List.getElem?_cons_succ, List.getElem?_cons_zero, Option.some.injEq] at ho; subst ho; refine Or.inl ⟨by rfl, fun Wx hSw => ?_⟩; have k1 := hcell Wx hSw; go_simp; all_goals with_reducible rfl
                  try simp only [Act.put, List.setIfInBounds_toArray, List.set_cons_zero, List.set_cons_succ]
                  refine take_op (i := 15) (d := some 65) (v := ?_) (by kernel_rfl) (by kernel_rfl) (by kernel_rfl) (by kernel_rfl) (fun _ _ _ h => h) (fun o ho => ?_) hh0 ?_
                  rotate_left
                  · simp only [List.getElem?_toArray, List.getElem?_cons_succ, List.getElem?_cons_zero, Option.some.injEq] at ho; subst ho; refine Or.inl ⟨by rfl, fun Wx hSw => ?_⟩; have k1 := hcell Wx hSw; go_simp; all_goals with_reducible rfl
                  try simp only [Act.put, List.setIfInBounds_toArray, List.set_cons_zero, List.set_cons_succ]
                  refine take_op (i := 16) (d := some 66) (v := ?_) (by kernel_rfl) (by kernel_rfl) (by kernel_rfl) (by kernel_rfl) (fun _ _ _ h => h) (fun o ho => ?_) hh0 ?_
                  rotate_left
                  · simp only [List.getElem?_toArray, List.getElem?_cons_succ, List.getElem?_cons_zero, Option.some.injEq] at ho; subst ho; refine Or.inl ⟨by rfl, fun Wx hSw => ?_⟩; have k1 := hcell Wx hSw; go_simp; all_goals with_reducible rfl
                  try simp only [Act.put, List.setIfInBounds_toArray, List.set_cons_zero, List.set_cons_succ]
                  refine take_op (i := 17) (d := some 67) (v := ?_) (by kernel_rfl) (by kernel_rfl) (by kernel_rfl) (by kernel_rfl) (fun _ _ _ h => h) (fun o ho => ?_) hh0 ?_
                  rotate_left
                  · simp only [List.getElem?_toArray, List.getElem?_cons_succ, List.getElem?_cons_zero, Option.some.injEq] at ho; subst ho; refine Or.inl ⟨by rfl, fun Wx hSw => ?_⟩; have k1 := hcell Wx hSw; go_simp; all_goals with_reducible rfl
                  try simp only [Act.put, List.setIfInBounds_toArray, List.set_cons_zero, List.set_cons_succ]
                  refine wpAnyH_ready (rs := [18]) (by kernel_rfl) (by simp) (one_op (d := some 68) (by kernel_rfl) fun o ho K hK => ?_)
                  simp only [List.getElem?_toArray, List.getElem?_cons_succ, List.getElem?_cons_zero, Option.some.injEq] at ho
                  subst ho
                  go_simp
                  refine (hHas _ hh0).mono ?_
                  rintro e y1 ⟨rfl, rfl⟩
                  go_wp2_with fail
                  refine hK.out _ _ hh0 (fun _ => ?_)
                  clear hK K
                  try simp only [Act.put, List.setIfInBounds_toArray, List.set_cons_zero, List.set_cons_succ]
                  refine take_op (i := 19) (d := some 69) (v := ?_) (by kernel_rfl) (by kernel_rfl) (by kernel_rfl) (by kernel_rfl) (fun _ _ _ h => h) (fun o ho => ?_) hh0 ?_
                  rotate_left
                  · simp only [List.getElem?_toArray, List.getElem?_cons_succ, List.getElem?_cons_zero, Option.some.injEq] at ho; subst ho; refine Or.inl ⟨by rfl, fun Wx hSw => ?_⟩; have k1 := hcell Wx hSw; go_simp; all_goals with_reducible rfl
                  try simp only [Act.put, List.setIfInBounds_toArray, List.set_cons_zero, List.set_cons_succ]
                  refine wpAnyH_done (by kernel_rfl) ?_ _
                  clear hh0
                  have hOD : OE TG wr.drew w2.heap.size u10 _ := hO.drewN 1
                  have hc2' : wr.drew.cell? ⟨b2, o2 + i * 33 + 32, none⟩ = some (.int .i64 t.2) := hcell2
                  clear hO hcell2 hcell hHas hrange1 hrange2
                  generalize wr.drew = w5 at *
                  have hsz5 := hBd.size
                  have hOO : OE TG (w5.alloc (.cells #[.int .i64 t.2, .int .i64 t.2] 37)).drew w2.heap.size u10 _ := hOD.alloc _
                  have hNN : RE TG (w5.alloc (.cells #[.int .i64 t.2, .int .i64 t.2] 37)).drew (some ⟨w5.heap.size, 0, none⟩) [dup t.2] := RE.new TG w5 [dup t.2] #[.int .i64 t.2, .int .i64 t.2] 37 w5.heap.size rfl rfl
                  have hbs : w2.heap.size ≤ (w5.alloc (.cells #[.int .i64 t.2, .int .i64 t.2] 37)).drew.heap.size := by show w2.heap.size ≤ (w5.alloc _).heap.size; simp; omega
                  have hB' : Below w2.heap.size w2 (w5.alloc (.cells #[.int .i64 t.2, .int .i64 t.2] 37)).drew := (hBd.alloc hsz5 _).drew
                  go_wp2_with fail
                  go_region_law (refine El.step TG (m := 1) hOO hNN rfl (by intro e; cases e) hll.out hbs (.tmp 70) (.tmp 82) rfl rfl rfl rfl ?_; intro v1 w3 hO3 hG3)
                  all_goals
                    go_wp2
                    go_roundg (n1 - (k + 1))
                    case measure => omega
                    case rel => exact ⟨k + 1, by omega, by omega, by go_num, by rw [HIN.out, ← List.append_assoc]; exact hO3, hB'.grown hG3 hbs (fun q hq => (World.ownsRow.lt hOO q hq).1)⟩
                | false =>
                  have HIN : Hid (outI X t (zs.take (k + 1)) = outI X t (zs.take k) ++ []) := by unfold Hid; rw [HTK.out, hdec, hv]; rfl
                  rw [hv] at hHas
                  clear hv he
                  go_wp2
                  try dsimp only [List.append]
                  refine wp_region_held_drew (S := fun Wx => Below w2.heap.size w2 Wx) (by kernel_rfl) hBd (fun hh0 => ?_)
                  refine take_op (i := 0) (d := some 50) (v := ?_) (by kernel_rfl) (by kernel_rfl) (by kernel_rfl) (by kernel_rfl) (fun _ _ _ h => h) (fun o ho => ?_) hh0 ?_
                  rotate_left
                  · simp only [List.getElem?_toArray, List.getElem?_cons_succ, List.getElem?_cons_zero, Option.some.injEq] at ho; subst ho; refine Or.inl ⟨by rfl, fun Wx hSw => ?_⟩; have k1 := hcell Wx hSw; go_simp; all_goals with_reducible rfl
                  try simp only [Act.put, List.setIfInBounds_toArray, List.set_cons_zero, List.set_cons_succ]
                  refine take_op (i := 1) (d := some 51) (v := ?_) (by kernel_rfl) (by kernel_rfl) (by kernel_rfl) (by kernel_rfl) (fun _ _ _ h => h) (fun o ho => ?_) hh0 ?_
                  rotate_left
                  · simp only [List.getElem?_toArray, List.getElem?_cons_succ, List.getElem?_cons_zero, Option.some.injEq] at ho; subst ho; refine Or.inl ⟨by rfl, fun Wx hSw => ?_⟩; have k1 := hcell Wx hSw; go_simp; all_goals with_reducible rfl
                  try simp only [Act.put, List.setIfInBounds_toArray, List.set_cons_zero, List.set_cons_succ]
                  refine take_op (i := 2) (d := some 52) (v := ?_) (by kernel_rfl) (by kernel_rfl) (by kernel_rfl) (by kernel_rfl) (fun _ _ _ h => h) (fun o ho => ?_) hh0 ?_
                  rotate_left
                  · simp only [List.getElem?_toArray, List.getElem?_cons_succ, List.getElem?_cons_zero, Option.some.injEq] at ho; subst ho; refine Or.inl ⟨by rfl, fun Wx hSw => ?_⟩; have k1 := hcell Wx hSw; go_simp; all_goals with_reducible rfl
                  try simp only [Act.put, List.setIfInBounds_toArray, List.set_cons_zero, List.set_cons_succ]
                  refine take_op (i := 3) (d := some 53) (v := ?_) (by kernel_rfl) (by kernel_rfl) (by kernel_rfl) (by kernel_rfl) (fun _ _ _ h => h) (fun o ho => ?_) hh0 ?_
                  rotate_left
                  · simp only [List.getElem?_toArray, List.getElem?_cons_succ, List.getElem?_cons_zero, Option.some.injEq] at ho; subst ho; refine Or.inl ⟨by rfl, fun Wx hSw => ?_⟩; have k1 := hcell Wx hSw; go_simp; all_goals with_reducible rfl
                  try simp only [Act.put, List.setIfInBounds_toArray, List.set_cons_zero, List.set_cons_succ]
                  refine take_op (i := 4) (d := some 54) (v := .agg (idc h.1).toArray) (by kernel_rfl) (by kernel_rfl) (by kernel_rfl) (by kernel_rfl) (fun _ _ _ h => h) (fun o ho => ?_) hh0 ?_
                  · simp only [List.getElem?_toArray, List.getElem?_cons_succ, List.getElem?_cons_zero, Option.some.injEq] at ho; subst ho; exact yieldsIf_load_mid (by rfl) 55 _ rfl b1 (o1 + k * 33) rfl (idc h.1) _ (fun Wx hSw => hrange1 Wx hSw) Tryz.underlying55 rfl (idc_sizeR h.1)
                  try simp only [Act.put, List.setIfInBounds_toArray, List.set_cons_zero, List.set_cons_succ]
                  refine take_op (i := 5) (d := some 55) (v := ?_) (by kernel_rfl) (by kernel_rfl) (by kernel_rfl) (by kernel_rfl) (fun _ _ _ h => h) (fun o ho => ?_) hh0 ?_
                  rotate_left
                  · simp only [List.getElem?_toArray, List.getElem?_cons_succ, List.getElem?_cons_zero, Option.some.injEq] at ho; subst ho; refine Or.inl ⟨by rfl, fun Wx hSw => ?_⟩; have k1 := hcell Wx hSw; go_simp; all_goals with_reducible rfl
                  try simp only [Act.put, List.setIfInBounds_toArray, List.set_cons_zero, List.set_cons_succ]
                  refine take_op (i := 6) (d := some 56) (v := ?_) (by kernel_rfl) (by kernel_rfl) (by kernel_rfl) (by kernel_rfl) (fun _ _ _ h => h) (fun o ho => ?_) hh0 ?_
                  rotate_left
                  · simp only [List.getElem?_toArray, List.getElem?_cons_succ, List.getElem?_cons_zero, Option.some.injEq] at ho; subst ho; refine Or.inl ⟨by rfl, fun Wx hSw => ?_⟩; have k1 := hcell Wx hSw; go_simp; all_goals with_reducible rfl
                  try simp only [Act.put, List.setIfInBounds_toArray, List.set_cons_zero, List.set_cons_succ]
                  refine take_op (i := 7) (d := some 57) (v := ?_) (by kernel_rfl) (by kernel_rfl) (by kernel_rfl) (by kernel_rfl) (fun _ _ _ h => h) (fun o ho => ?_) hh0 ?_
                  rotate_left
                  · simp only [List.getElem?_toArray, List.getElem?_cons_succ, List.getElem?_cons_zero, Option.some.injEq] at ho; subst ho; refine Or.inl ⟨by rfl, fun Wx hSw => ?_⟩; have k1 := hcell Wx hSw; go_simp; all_goals with_reducible rfl
                  try simp only [Act.put, List.setIfInBounds_toArray, List.set_cons_zero, List.set_cons_succ]
                  refine take_op (i := 8) (d := some 58) (v := ?_) (by kernel_rfl) (by kernel_rfl) (by kernel_rfl) (by kernel_rfl) (fun _ _ _ h => h) (fun o ho => ?_) hh0 ?_
                  rotate_left
                  · simp only [List.getElem?_toArray, List.getElem?_cons_succ, List.getElem?_cons_zero, Option.some.injEq] at ho; subst ho; refine Or.inl ⟨by rfl, fun Wx hSw => ?_⟩; have k1 := hcell Wx hSw; go_simp; all_goals with_reducible rfl
                  try simp only [Act.put, List.setIfInBounds_toArray, List.set_cons_zero, List.set_cons_succ]
                  refine take_op (i := 9) (d := some 59) (v := .agg (idc t.1).toArray) (by kernel_rfl) (by kernel_rfl) (by kernel_rfl) (by kernel_rfl) (fun _ _ _ h => h) (fun o ho => ?_) hh0 ?_
                  · simp only [List.getElem?_toArray, List.getElem?_cons_succ, List.getElem?_cons_zero, Option.some.injEq] at ho; subst ho; exact yieldsIf_load_mid (by rfl) 55 _ rfl b2 (o2 + i * 33) rfl (idc t.1) _ (fun Wx hSw => hrange2 Wx hSw) Tryz.underlying55 rfl (idc_sizeR t.1)
                  try simp only [Act.put, List.setIfInBounds_toArray, List.set_cons_zero, List.set_cons_succ]
                  refine take_op (i := 10) (d := some 60) (v := .bool true) (by kernel_rfl) (by kernel_rfl) (by kernel_rfl) (by kernel_rfl) (fun _ _ _ h => h) (fun o ho => ?_) hh0 ?_
                  · simp only [List.getElem?_toArray, List.getElem?_cons_succ, List.getElem?_cons_zero, Option.some.injEq] at ho; subst ho; refine Or.inl ⟨by rfl, fun Wx hSw => ?_⟩; exact exec_eql_id Wx _ (.tmp 54) (.tmp 59) rfl h.1 t.1 rfl rfl hdec
                  try simp only [Act.put, List.setIfInBounds_toArray, List.set_cons_zero, List.set_cons_succ]
                  refine take_op (i := 11) (d := some 61) (v := ?_) (by kernel_rfl) (by kernel_rfl) (by kernel_rfl) (by kernel_rfl) (fun _ _ _ h => h) (fun o ho => ?_) hh0 ?_
                  rotate_left
                  · simp only [List.getElem?_toArray, List.getElem?_cons_succ, List.getElem?_cons_zero, Option.some.injEq] at ho; subst ho; refine Or.inl ⟨by rfl, fun Wx hSw => ?_⟩; have k1 := hcell Wx hSw; go_simp; all_goals with_reducible rfl
                  try simp only [Act.put, List.setIfInBounds_toArray, List.set_cons_zero, List.set_cons_succ]
                  refine take_op (i := 12) (d := some 62) (v := ?_) (by kernel_rfl) (by kernel_rfl) (by kernel_rfl) (by kernel_rfl) (fun _ _ _ h => h) (fun o ho => ?_) hh0 ?_
                  rotate_left
                  · simp only [List.getElem?_toArray, List.getElem?_cons_succ, List.getElem?_cons_zero, Option.some.injEq] at ho; subst ho; refine Or.inl ⟨by rfl, fun Wx hSw => ?_⟩; have k1 := hcell Wx hSw; go_simp; all_goals with_reducible rfl
                  try simp only [Act.put, List.setIfInBounds_toArray, List.set_cons_zero, List.set_cons_succ]
                  refine take_op (i := 13) (d := some 63) (v := ?_) (by kernel_rfl) (by kernel_rfl) (by kernel_rfl) (by kernel_rfl) (fun _ _ _ h => h) (fun o ho => ?_) hh0 ?_
                  rotate_left
                  · simp only [List.getElem?_toArray, List.getElem?_cons_succ, List.getElem?_cons_zero, Option.some.injEq] at ho; subst ho; refine Or.inl ⟨by rfl, fun Wx hSw => ?_⟩; have k1 := hcell Wx hSw; go_simp; all_goals with_reducible rfl
                  try simp only [Act.put, List.setIfInBounds_toArray, List.set_cons_zero, List.set_cons_succ]
                  refine take_op (i := 14) (d := some 64) (v := ?_) (by kernel_rfl) (by kernel_rfl) (by kernel_rfl) (by kernel_rfl) (fun _ _ _ h => h) (fun o ho => ?_) hh0 ?_
                  rotate_left
                  · simp only [List.getElem?_toArray, List.getElem?_cons_succ, List.getElem?_cons_zero, Option.some.injEq] at ho; subst ho; refine Or.inl ⟨by rfl, fun Wx hSw => ?_⟩; have k1 := hcell Wx hSw; go_simp; all_goals with_reducible rfl
                  try simp only [Act.put, List.setIfInBounds_toArray, List.set_cons_zero, List.set_cons_succ]
                  refine take_op (i := 15) (d := some 65) (v := ?_) (by kernel_rfl) (by kernel_rfl) (by kernel_rfl) (by kernel_rfl) (fun _ _ _ h => h) (fun o ho => ?_) hh0 ?_
                  rotate_left
                  · simp only [List.getElem?_toArray, List.getElem?_cons_succ, List.getElem?_cons_zero, Option.some.injEq] at ho; subst ho; refine Or.inl ⟨by rfl, fun Wx hSw => ?_⟩; have k1 := hcell Wx hSw; go_simp; all_goals with_reducible rfl
                  try simp only [Act.put, List.setIfInBounds_toArray, List.set_cons_zero, List.set_cons_succ]
                  refine take_op (i := 16) (d := some 66) (v := ?_) (by kernel_rfl) (by kernel_rfl) (by kernel_rfl) (by kernel_rfl) (fun _ _ _ h => h) (fun o ho => ?_) hh0 ?_
                  rotate_left
                  · simp only [List.getElem?_toArray, List.getElem?_cons_succ, List.getElem?_cons_zero, Option.some.injEq] at ho; subst ho; refine Or.inl ⟨by rfl, fun Wx hSw => ?_⟩; have k1 := hcell Wx hSw; go_simp; all_goals with_reducible rfl
                  try simp only [Act.put, List.setIfInBounds_toArray, List.set_cons_zero, List.set_cons_succ]
                  refine take_op (i := 17) (d := some 67) (v := ?_) (by kernel_rfl) (by kernel_rfl) (by kernel_rfl) (by kernel_rfl) (fun _ _ _ h => h) (fun o ho => ?_) hh0 ?_
                  rotate_left
                  · simp only [List.getElem?_toArray, List.getElem?_cons_succ, List.getElem?_cons_zero, Option.some.injEq] at ho; subst ho; refine Or.inl ⟨by rfl, fun Wx hSw => ?_⟩; have k1 := hcell Wx hSw; go_simp; all_goals with_reducible rfl
                  try simp only [Act.put, List.setIfInBounds_toArray, List.set_cons_zero, List.set_cons_succ]
                  refine wpAnyH_ready (rs := [18]) (by kernel_rfl) (by simp) (one_op (d := some 68) (by kernel_rfl) fun o ho K hK => ?_)
                  simp only [List.getElem?_toArray, List.getElem?_cons_succ, List.getElem?_cons_zero, Option.some.injEq] at ho
                  subst ho
                  go_simp
                  refine (hHas _ hh0).mono ?_
                  rintro e y1 ⟨rfl, rfl⟩
                  go_wp2_with fail
                  refine hK.out _ _ hh0 (fun _ => ?_)
                  clear hK K
                  try simp only [Act.put, List.setIfInBounds_toArray, List.set_cons_zero, List.set_cons_succ]
                  refine take_op (i := 19) (d := some 69) (v := ?_) (by kernel_rfl) (by kernel_rfl) (by kernel_rfl) (by kernel_rfl) (fun _ _ _ h => h) (fun o ho => ?_) hh0 ?_
                  rotate_left
                  · simp only [List.getElem?_toArray, List.getElem?_cons_succ, List.getElem?_cons_zero, Option.some.injEq] at ho; subst ho; refine Or.inl ⟨by rfl, fun Wx hSw => ?_⟩; have k1 := hcell Wx hSw; go_simp; all_goals with_reducible rfl
                  try simp only [Act.put, List.setIfInBounds_toArray, List.set_cons_zero, List.set_cons_succ]
                  refine wpAnyH_done (by kernel_rfl) ?_ _
                  clear hh0
                  go_wp2
                  go_roundg (n1 - (k + 1))
                  case measure => omega
                  case rel => exact ⟨k + 1, by omega, by omega, by go_num, by rw [HIN.out, List.append_nil]; exact hO.drewN 1, hBd⟩
              · have hdec : decide (h.1 = t.1) = false := decide_eq_false he
                have HIN : Hid (outI X t (zs.take (k + 1)) = outI X t (zs.take k) ++ []) := by unfold Hid; rw [HTK.out, hdec]; rfl
                clear he
                go_wp2
                try dsimp only [List.append]
                refine wp_region_held_drew (S := fun Wx => Below w2.heap.size w2 Wx) (by kernel_rfl) hBd (fun hh0 => ?_)
                refine take_op (i := 0) (d := some 50) (v := ?_) (by kernel_rfl) (by kernel_rfl) (by kernel_rfl) (by kernel_rfl) (fun _ _ _ h => h) (fun o ho => ?_) hh0 ?_
                rotate_left
                · simp only [List.getElem?_toArray, List.getElem?_cons_succ, List.getElem?_cons_zero, Option.some.injEq] at ho; subst ho; refine Or.inl ⟨by rfl, fun Wx hSw => ?_⟩; have k1 := hcell Wx hSw; go_simp; all_goals with_reducible rfl
                try simp only [Act.put, List.setIfInBounds_toArray, List.set_cons_zero, List.set_cons_succ]
                refine take_op (i := 1) (d := some 51) (v := ?_) (by kernel_rfl) (by kernel_rfl) (by kernel_rfl) (by kernel_rfl) (fun _ _ _ h => h) (fun o ho => ?_) hh0 ?_
                rotate_left
                · simp only [List.getElem?_toArray, List.getElem?_cons_succ, List.getElem?_cons_zero, Option.some.injEq] at ho; subst ho; refine Or.inl ⟨by rfl, fun Wx hSw => ?_⟩; have k1 := hcell Wx hSw; go_simp; all_goals with_reducible rfl
                try simp only [Act.put, List.setIfInBounds_toArray, List.set_cons_zero, List.set_cons_succ]
                refine take_op (i := 2) (d := some 52) (v := ?_) (by kernel_rfl) (by kernel_rfl) (by kernel_rfl) (by kernel_rfl) (fun _ _ _ h => h) (fun o ho => ?_) hh0 ?_
                rotate_left
                · simp only [List.getElem?_toArray, List.getElem?_cons_succ, List.getElem?_cons_zero, Option.some.injEq] at ho; subst ho; refine Or.inl ⟨by rfl, fun Wx hSw => ?_⟩; have k1 := hcell Wx hSw; go_simp; all_goals with_reducible rfl
                try simp only [Act.put, List.setIfInBounds_toArray, List.set_cons_zero, List.set_cons_succ]
                refine take_op (i := 3) (d := some 53) (v := ?_) (by kernel_rfl) (by kernel_rfl) (by kernel_rfl) (by kernel_rfl) (fun _ _ _ h => h) (fun o ho => ?_) hh0 ?_
                rotate_left
                · simp only [List.getElem?_toArray, List.getElem?_cons_succ, List.getElem?_cons_zero, Option.some.injEq] at ho; subst ho; refine Or.inl ⟨by rfl, fun Wx hSw => ?_⟩; have k1 := hcell Wx hSw; go_simp; all_goals with_reducible rfl
                try simp only [Act.put, List.setIfInBounds_toArray, List.set_cons_zero, List.set_cons_succ]
                refine take_op (i := 4) (d := some 54) (v := .agg (idc h.1).toArray) (by kernel_rfl) (by kernel_rfl) (by kernel_rfl) (by kernel_rfl) (fun _ _ _ h => h) (fun o ho => ?_) hh0 ?_
                · simp only [List.getElem?_toArray, List.getElem?_cons_succ, List.getElem?_cons_zero, Option.some.injEq] at ho; subst ho; exact yieldsIf_load_mid (by rfl) 55 _ rfl b1 (o1 + k * 33) rfl (idc h.1) _ (fun Wx hSw => hrange1 Wx hSw) Tryz.underlying55 rfl (idc_sizeR h.1)
                try simp only [Act.put, List.setIfInBounds_toArray, List.set_cons_zero, List.set_cons_succ]
                refine take_op (i := 5) (d := some 55) (v := ?_) (by kernel_rfl) (by kernel_rfl) (by kernel_rfl) (by kernel_rfl) (fun _ _ _ h => h) (fun o ho => ?_) hh0 ?_
                rotate_left
                · simp only [List.getElem?_toArray, List.getElem?_cons_succ, List.getElem?_cons_zero, Option.some.injEq] at ho; subst ho; refine Or.inl ⟨by rfl, fun Wx hSw => ?_⟩; have k1 := hcell Wx hSw; go_simp; all_goals with_reducible rfl
                try simp only [Act.put, List.setIfInBounds_toArray, List.set_cons_zero, List.set_cons_succ]
                refine take_op (i := 6) (d := some 56) (v := ?_) (by kernel_rfl) (by kernel_rfl) (by kernel_rfl) (by kernel_rfl) (fun _ _ _ h => h) (fun o ho => ?_) hh0 ?_
                rotate_left
                · simp only [List.getElem?_toArray, List.getElem?_cons_succ, List.getElem?_cons_zero, Option.some.injEq] at ho; subst ho; refine Or.inl ⟨by rfl, fun Wx hSw => ?_⟩; have k1 := hcell Wx hSw; go_simp; all_goals with_reducible rfl
                try simp only [Act.put, List.setIfInBounds_toArray, List.set_cons_zero, List.set_cons_succ]
                refine take_op (i := 7) (d := some 57) (v := ?_) (by kernel_rfl) (by kernel_rfl) (by kernel_rfl) (by kernel_rfl) (fun _ _ _ h => h) (fun o ho => ?_) hh0 ?_
                rotate_left
                · simp only [List.getElem?_toArray, List.getElem?_cons_succ, List.getElem?_cons_zero, Option.some.injEq] at ho; subst ho; refine Or.inl ⟨by rfl, fun Wx hSw => ?_⟩; have k1 := hcell Wx hSw; go_simp; all_goals with_reducible rfl
                try simp only [Act.put, List.setIfInBounds_toArray, List.set_cons_zero, List.set_cons_succ]
                refine take_op (i := 8) (d := some 58) (v := ?_) (by kernel_rfl) (by kernel_rfl) (by kernel_rfl) (by kernel_rfl) (fun _ _ _ h => h) (fun o ho => ?_) hh0 ?_
                rotate_left
                · simp only [List.getElem?_toArray, List.getElem?_cons_succ, List.getElem?_cons_zero, Option.some.injEq] at ho; subst ho; refine Or.inl ⟨by rfl, fun Wx hSw => ?_⟩; have k1 := hcell Wx hSw; go_simp; all_goals with_reducible rfl
                try simp only [Act.put, List.setIfInBounds_toArray, List.set_cons_zero, List.set_cons_succ]
                refine take_op (i := 9) (d := some 59) (v := .agg (idc t.1).toArray) (by kernel_rfl) (by kernel_rfl) (by kernel_rfl) (by kernel_rfl) (fun _ _ _ h => h) (fun o ho => ?_) hh0 ?_
                · simp only [List.getElem?_toArray, List.getElem?_cons_succ, List.getElem?_cons_zero, Option.some.injEq] at ho; subst ho; exact yieldsIf_load_mid (by rfl) 55 _ rfl b2 (o2 + i * 33) rfl (idc t.1) _ (fun Wx hSw => hrange2 Wx hSw) Tryz.underlying55 rfl (idc_sizeR t.1)
                try simp only [Act.put, List.setIfInBounds_toArray, List.set_cons_zero, List.set_cons_succ]
                refine take_op (i := 10) (d := some 60) (v := .bool false) (by kernel_rfl) (by kernel_rfl) (by kernel_rfl) (by kernel_rfl) (fun _ _ _ h => h) (fun o ho => ?_) hh0 ?_
                · simp only [List.getElem?_toArray, List.getElem?_cons_succ, List.getElem?_cons_zero, Option.some.injEq] at ho; subst ho; refine Or.inl ⟨by rfl, fun Wx hSw => ?_⟩; exact exec_eql_id Wx _ (.tmp 54) (.tmp 59) rfl h.1 t.1 rfl rfl hdec
                try simp only [Act.put, List.setIfInBounds_toArray, List.set_cons_zero, List.set_cons_succ]
                refine take_op (i := 11) (d := some 61) (v := ?_) (by kernel_rfl) (by kernel_rfl) (by kernel_rfl) (by kernel_rfl) (fun _ _ _ h => h) (fun o ho => ?_) hh0 ?_
                rotate_left
                · simp only [List.getElem?_toArray, List.getElem?_cons_succ, List.getElem?_cons_zero, Option.some.injEq] at ho; subst ho; refine Or.inl ⟨by rfl, fun Wx hSw => ?_⟩; have k1 := hcell Wx hSw; go_simp; all_goals with_reducible rfl
                try simp only [Act.put, List.setIfInBounds_toArray, List.set_cons_zero, List.set_cons_succ]
                refine take_op (i := 12) (d := some 62) (v := undef) (by kernel_rfl) (by kernel_rfl) (by kernel_rfl) (by kernel_rfl) (fun _ _ _ h => h) (fun o ho => ?_) hh0 ?_
                · simp only [List.getElem?_toArray, List.getElem?_cons_succ, List.getElem?_cons_zero, Option.some.injEq] at ho; subst ho; exact Or.inr ⟨by rfl, rfl⟩
                try simp only [Act.put, List.setIfInBounds_toArray, List.set_cons_zero, List.set_cons_succ]
                refine take_op (i := 13) (d := some 63) (v := undef) (by kernel_rfl) (by kernel_rfl) (by kernel_rfl) (by kernel_rfl) (fun _ _ _ h => h) (fun o ho => ?_) hh0 ?_
                · simp only [List.getElem?_toArray, List.getElem?_cons_succ, List.getElem?_cons_zero, Option.some.injEq] at ho; subst ho; exact Or.inr ⟨by rfl, rfl⟩
                try simp only [Act.put, List.setIfInBounds_toArray, List.set_cons_zero, List.set_cons_succ]
                refine take_op (i := 14) (d := some 64) (v := undef) (by kernel_rfl) (by kernel_rfl) (by kernel_rfl) (by kernel_rfl) (fun _ _ _ h => h) (fun o ho => ?_) hh0 ?_
                · simp only [List.getElem?_toArray, List.getElem?_cons_succ, List.getElem?_cons_zero, Option.some.injEq] at ho; subst ho; exact Or.inr ⟨by rfl, rfl⟩
                try simp only [Act.put, List.setIfInBounds_toArray, List.set_cons_zero, List.set_cons_succ]
                refine take_op (i := 15) (d := some 65) (v := undef) (by kernel_rfl) (by kernel_rfl) (by kernel_rfl) (by kernel_rfl) (fun _ _ _ h => h) (fun o ho => ?_) hh0 ?_
                · simp only [List.getElem?_toArray, List.getElem?_cons_succ, List.getElem?_cons_zero, Option.some.injEq] at ho; subst ho; exact Or.inr ⟨by rfl, rfl⟩
                try simp only [Act.put, List.setIfInBounds_toArray, List.set_cons_zero, List.set_cons_succ]
                refine take_op (i := 16) (d := some 66) (v := undef) (by kernel_rfl) (by kernel_rfl) (by kernel_rfl) (by kernel_rfl) (fun _ _ _ h => h) (fun o ho => ?_) hh0 ?_
                · simp only [List.getElem?_toArray, List.getElem?_cons_succ, List.getElem?_cons_zero, Option.some.injEq] at ho; subst ho; exact Or.inr ⟨by rfl, rfl⟩
                try simp only [Act.put, List.setIfInBounds_toArray, List.set_cons_zero, List.set_cons_succ]
                refine take_op (i := 17) (d := some 67) (v := undef) (by kernel_rfl) (by kernel_rfl) (by kernel_rfl) (by kernel_rfl) (fun _ _ _ h => h) (fun o ho => ?_) hh0 ?_
                · simp only [List.getElem?_toArray, List.getElem?_cons_succ, List.getElem?_cons_zero, Option.some.injEq] at ho; subst ho; exact Or.inr ⟨by rfl, rfl⟩
                try simp only [Act.put, List.setIfInBounds_toArray, List.set_cons_zero, List.set_cons_succ]
                refine take_op (i := 18) (d := some 68) (v := undef) (by kernel_rfl) (by kernel_rfl) (by kernel_rfl) (by kernel_rfl) (fun _ _ _ h => h) (fun o ho => ?_) hh0 ?_
                · simp only [List.getElem?_toArray, List.getElem?_cons_succ, List.getElem?_cons_zero, Option.some.injEq] at ho; subst ho; exact Or.inr ⟨by rfl, rfl⟩
                try simp only [Act.put, List.setIfInBounds_toArray, List.set_cons_zero, List.set_cons_succ]
                refine take_op (i := 19) (d := some 69) (v := ?_) (by kernel_rfl) (by kernel_rfl) (by kernel_rfl) (by kernel_rfl) (fun _ _ _ h => h) (fun o ho => ?_) hh0 ?_
                rotate_left
                · simp only [List.getElem?_toArray, List.getElem?_cons_succ, List.getElem?_cons_zero, Option.some.injEq] at ho; subst ho; refine Or.inl ⟨by rfl, fun Wx hSw => ?_⟩; have k1 := hcell Wx hSw; go_simp; all_goals with_reducible rfl
                try simp only [Act.put, List.setIfInBounds_toArray, List.set_cons_zero, List.set_cons_succ]
                refine wpAnyH_done (by kernel_rfl) ?_ _
                clear hh0
                go_wp2
                go_roundg (n1 - (k + 1))
                case measure => omega
                case rel => exact ⟨k + 1, by omega, by omega, by go_num, by rw [HIN.out, List.append_nil]; exact hO.drewN 1, hBd⟩
            · have hltz1 : ¬ (k : Int) < (n1 : Int) := by omega
              rw [List.take_of_length_le (by rw [HN1.out]; omega)] at hO
              go_wp2
              go_roundg (n2 - (i + 1))
              case measure => omega
              case rel => exact ⟨i + 1, by omega, by omega, by go_num, by rw [HTI.out]; exact hO, hB⟩
        · have hltz : ¬ (i : Int) < (n2 : Int) := by omega
          rw [List.take_of_length_le (by rw [HN2.out]; omega)] at hOi
          obtain ⟨a5, c5, rfl, hR5, q1, q2, q3, q4⟩ := hOi.re
          clear q1 q2 q3 q4
          have HLN : Hid ((outR X zs ys).length ≤ 1600) := by
            unfold Hid
            have := outR_length X zs ys
            have h2 : ys.length * zs.length ≤ 40 * 40 := Nat.mul_le_mul (by rw [HN2.out]; exact hN2) (by rw [HN1.out]; exact hN1)
            omega
          have hvO : ∀ r ∈ outR X zs ys, validB r = true := fun r hr => by
            obtain ⟨t, ht, _, rfl⟩ := mem_outR.1 hr
            have := artB_iff.1 (HALL.out t (List.mem_append_right _ ht))
            exact validB_iff.2 ⟨this.1, this.2, Int.le_refl _⟩
          have hNo := refNormal_any a5 (outR X zs ys).length c5 (outR X zs ys) wr rfl (by have := HLN.out; omega) hR5 hvO
          have HNL : Hid ((normal (outR X zs ys)).length ≤ 4096) := by unfold Hid; have := normal_length (outR X zs ys); have := HLN.out; omega
          rw [normal_out] at hNo HNL
          clear hvO
          generalize (outR X zs ys).length = ml at *
          go_wp2_with fail
          refine hNo.mono ?_
          clear hNo
          rintro e w6 ⟨hb6, v6, rfl, hO6⟩
          obtain ⟨a7, c7, rfl, _⟩ := hO6.re
          go_wp2_with fail
          refine (refLimited_ok a7 _ c7 w6 HNL.out).mono ?_
          rintro e w7 ⟨rfl, rfl⟩
          have hBf := hBi.trans (hb6.mono hBi.size)
          have hlo := hBi.size
          generalize hnl : (normal ((moved (known X zs) ys).map dup)).length = nl at *
          go_wp2
          refine bodyPost_ret (v := .tuple #[.slice a7 nl c7, .int .i64 0]) (by simp [results, Tryz.results20, go_sem]) rfl ⟨hb2.trans (hBf.mono hb2.size), .inl ⟨HALL.out, _, rfl, hO6.mono (by omega)⟩⟩
end Go.Proofs.YtddmldfdakmecaaGreatDoor
