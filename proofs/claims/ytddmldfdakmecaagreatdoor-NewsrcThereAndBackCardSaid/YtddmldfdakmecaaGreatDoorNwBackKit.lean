/- The law NewsrcThereAndBack answers true. -/
import Derived.Test.YtddmldfdakmecaaGreatDoorNwBackPure
import Derived.Test.YtddmldfdakmecaaGreatDoorNwHeld
import Derived.Maps.AppendAt
namespace Go.Proofs.YtddmldfdakmecaaGreatDoor
open Go.RowKit Go.Gn Go.El Go.Nw

/-- []uint8. -/
def TY8 : Ty Tryz.prog UInt8 where
  e := 5
  s := 52
  k := 1
  by' := 1
  enc := fun b => [.int .u8 b.toNat]
  zero := .int .u8 0
  under := Tryz.underlying52
  info := by kernel_rfl
  len := fun _ => rfl
  one := fun x v hv => by obtain rfl := List.mem_singleton.1 hv; rfl
  zlen := rfl
  kpos := by decide
  small := by decide
/-- []bool. -/
def TBo : Ty Tryz.prog Bool where
  e := 4
  s := 54
  k := 1
  by' := 1
  enc := fun b => [.bool b]
  zero := .bool false
  under := Tryz.underlying54
  info := by kernel_rfl
  len := fun _ => rfl
  one := fun x v hv => by obtain rfl := List.mem_singleton.1 hv; rfl
  zlen := rfl
  kpos := by decide
  small := by decide
theorem re_one {α : Type} {T : Ty Tryz.prog α} {f : α → Value} (hk : T.k = 1) (he : T.enc = fun x => [f x]) {w : World} {a : Option Addr} {zs : List α} (h : RE T w a zs) {k : Nat} (hlt : k < zs.length) :
    ∃ b off, a = some ⟨b, off, Option.none⟩ ∧ b < w.heap.size ∧ w.cell? ⟨b, off + k, Option.none⟩ = some (f zs[k]) := by
  obtain ⟨b, off, ha, hb, hc⟩ := h.some hlt
  rw [hk, he] at hc
  exact ⟨b, off, ha, hb, by have := hc 0 _ rfl; rwa [Nat.mul_one, Nat.add_zero] at this⟩
def usedL (n : Nat) (ks : List Nat) : List Bool := (List.range n).map fun j => decide (j ∈ ks)
theorem usedL_length (n : Nat) (ks : List Nat) : (usedL n ks).length = n := by unfold usedL; rw [List.length_map, List.length_range]
theorem usedL_get (n : Nat) (ks : List Nat) (k : Nat) (h : k < (usedL n ks).length) : (usedL n ks)[k] = decide (k ∈ ks) := by simp [usedL]
theorem usedL_set (n : Nat) (ks : List Nat) (k : Nat) : (usedL n ks).set k true = usedL n (ks ++ [k]) := by
  apply List.ext_getElem
  · rw [List.length_set, usedL_length, usedL_length]
  · intro i h1 h2
    rw [List.getElem_set, usedL_get]
    by_cases e : k = i
    · subst e; rw [if_pos rfl, usedL_get]; simp
    · rw [if_neg e, usedL_get]
      congr 1
      simp [Ne.symm e]
theorem usedL_new (n : Nat) : usedL n [] = List.replicate n false := by
  apply List.ext_getElem
  · rw [usedL_length, List.length_replicate]
  · intro i h1 h2
    rw [usedL_get, List.getElem_replicate]
    simp
theorem flat_false : ∀ n : Nat, TBo.flat (List.replicate n false) = List.replicate n (Value.bool false)
  | 0 => rfl
  | n + 1 => by
    rw [List.replicate_succ, List.replicate_succ, ← flat_false n]
    rfl
theorem used_made {w : World} {base n : Nat} {v : Value} (h : w.ownsRow base 4 1 v n (madeCells #[Value.bool false] n).toList) : OE TBo w base v (usedL n []) := by
  unfold OE
  rw [usedL_length]
  have e : TBo.flat (usedL n []) = (madeCells #[Value.bool false] n).toList := by
    rw [usedL_new]
    rw [flat_false]
    unfold madeCells
    apply List.ext_getElem
    · simp
    · intro i h1 h2
      simp [Nat.mod_one]
  rw [e]
  exact h

/-- Apart: two slices of the call's own in two blocks. -/
def Apart (u v : Value) : Prop := u.ownBlock = none ∨ u.ownBlock ≠ v.ownBlock
theorem Apart.symm {u v : Value} (h : Apart u v) (hv : v.ownBlock = none ∨ v.ownBlock ≠ none) : Apart v u := by
  rcases hv with hv | hv
  · exact .inl hv
  · rcases h with h | h
    · exact .inr fun e => hv (e.trans h)
    · exact .inr fun e => h e.symm
theorem apart_symm {u v : Value} (h : Apart u v) : Apart v u := h.symm (Classical.em _)
theorem oe_apart2 {α β : Type} {T : Ty Tryz.prog α} {T' : Ty Tryz.prog β} {w : World} {b b' : Nat} {u v : Value} {xs : List α} {ys : List β} (h : OE T w b u xs) (h' : OE T' w b' v ys) (hne : T.e ≠ T'.e) : Apart u v := by
  rcases h.2 with ⟨rfl, _⟩ | ⟨g, cap, cur, rfl, _, hg, _⟩
  · exact .inl rfl
  · refine .inr fun e => ?_
    rcases h'.2 with ⟨rfl, _⟩ | ⟨g', cap', cur', rfl, _, hg', _⟩
    · cases e
    · have e' : g = g' := by simpa [Value.ownBlock] using e
      subst e'
      rw [hg] at hg'
      simp at hg'
      exact hne hg'.2
theorem oe_lt {α : Type} {T : Ty Tryz.prog α} {w : World} {b : Nat} {v : Value} {xs : List α} (h : OE T w b v xs) : v.ownBlock ≠ some w.heap.size := fun e => by
  have := (World.ownsRow.lt h w.heap.size e).2
  omega
theorem apart_grown {u u1 v : Value} {N : Nat} (h : Apart u v) (hat : u1.ownBlock = u.ownBlock ∨ u1.ownBlock = some N) (hv : v.ownBlock ≠ some N) : Apart u1 v := by
  rcases hat with e | e
  · rcases h with h | h
    · exact .inl (e.trans h)
    · exact .inr fun e' => h (e.symm.trans e')
  · exact .inr fun e' => hv (e'.symm.trans e)

/-- append of one element, told where the row lies. -/
theorem app_at {P : Program} {α : Type} {w : World} {base : Nat} {v : Value} {xs : List α} {ops : Array Oper} {rest : List Oper} {o : Oper} {act : Act} {Q : Exit → Act → World → Prop} (T : Ty P α) {x : α} {b0 : Nat} (HO : OE T w base v xs) (HZ : RE T w (some ⟨b0, 0, none⟩) [x]) (hl : xs.length + 1 ≤ 30000000000) (hbase : base ≤ w.heap.size)
    (s y : Operand) (hgd : o.guard = none)
    (ho : o.op = .call { callee := .builtin .append, args := #[s, y], argTypes := #[T.s, T.s] })
    (hs : act.eval s = v) (hx : act.eval y = .slice (some ⟨b0, 0, none⟩) 1 1)
    (h : ∀ v1 w1, OE T w1 base v1 (xs ++ [x]) → w.grownBy w1 v.ownBlock → (v1.ownBlock = v.ownBlock ∨ v1.ownBlock = some w.heap.size) → wpList P ops Q rest (act.put o.dst v1) w1) :
    wpList P ops Q (o :: rest) act w := by
  obtain ⟨i0, hi, hz0, hz1, hz2⟩ := info_some T
  have hsm := T.small
  have hby : (xs.length + 1) * T.by' ≤ 140737488355328 := Nat.le_trans (Nat.mul_le_mul hl hsm) (by decide)
  refine wpList_append_own_at w hgd s y T.s ho base T.e i0 T.zero T.k T.by' T.under hi hz0 hz1 hz2 T.zlen T.kpos v xs.length (T.flat xs) hs HO ⟨b0, 0, none⟩ 1 1 (T.flat [x]) hx (by rw [T.flat_length]; rfl)
    (fun j u hu => by
      obtain ⟨j', i, x', rfl, hik, hx', hv⟩ := T.flat_inv [x] j u hu
      rcases HZ with h0 | ⟨b, off, h0, _, hc⟩
      · cases h0
      · injection h0 with h0
        injection h0 with h1 h2
        subst h1; subst h2
        rw [off_add]
        exact hc j' x' hx' i u hv) (T.flat_one [x]) (by simp only [maxLen]; omega) hby hbase ?_
  intro v1 w1 h2 h3 _ h5
  exact h v1 w1 (by unfold OE; rw [List.length_append, T.flat_append]; exact h2) h3 h5

/-- An operation that yields. -/
theorem wpList_yields {P : Program} {w : World} {ops : Array Oper} {rest : List Oper} {o : Oper} {a : Act} {Q : Exit → Act → World → Prop} (hg : o.guard = none) {v : Value} (hrun : (execOp a.eval o).run P w = .ok (.value v) w) (h : wpList P ops Q rest (a.put o.dst v) w) : wpList P ops Q (o :: rest) a w :=
  wpList_plain hg fun K hK => by
    unfold Oper.wp
    rw [hrun]
    exact hK _ _ h
set_option maxRecDepth 100000 in
theorem built_id (b : UInt8) : Tryz.prog.built 56 [(0, .int .u8 b.toNat)] = some (idc (idb b)).toArray := by kernel_rfl
theorem exec_build_id (W : World) (a : Act) (x : Operand) {o : Oper} (ho : o.op = .build 56 #[(0, x)]) (b : UInt8) (hx : a.eval x = .int .u8 b.toNat) :
    (execOp a.eval o).run Tryz.prog W = .ok (.value (.agg (idc (idb b)).toArray)) W := by
  have h := run_build W 56 #[(0, .int .u8 b.toNat)] _ (built_id b)
  unfold execOp
  simp only [ho, Sem.run_bind, List.map_toArray, List.map_cons, List.map_nil, hx, h, Result.andThen_ok]
  rfl
theorem exec_build_nu (W : World) (a : Act) (x y : Operand) {o : Oper} (ho : o.op = .build 58 #[(0, x), (1, y)]) (r : Num) (hx : a.eval x = .agg (idc r.1).toArray) (hy : a.eval y = .int .i64 r.2) :
    (execOp a.eval o).run Tryz.prog W = .ok (.value (.agg (nuc r).toArray)) W := by
  have h := run_build W 58 #[(0, .agg (idc r.1).toArray), (1, .int .i64 r.2)] _ (built_num (idc r.1) (idc_length r.1) r.2)
  unfold execOp
  simp only [ho, Sem.run_bind, List.map_toArray, List.map_cons, List.map_nil, hx, hy, h, Result.andThen_ok]
  rfl
theorem wpList_slice_nu {ops : Array Oper} {rest : List Oper} {o : Oper} {a : Act} {Q : Exit → Act → World → Prop} {w : World} (hg : o.guard = none) (x : Operand)
    (ho : o.op = .buildSlice 41 1 #[(0, x)]) (r : Num) (hx : a.eval x = .agg (nuc r).toArray)
    (h : wpList Tryz.prog ops Q rest (a.put o.dst (.slice (some ⟨w.heap.size, 0, none⟩) 1 1)) (w.alloc (.cells (nuc r).toArray 58))) :
    wpList Tryz.prog ops Q (o :: rest) a w := by
  refine wpList_plain hg fun K hK => ?_
  have hr := run_slice_num w (idc r.1) (idc_length r.1) r.2
  unfold Oper.wp execOp
  simp only [ho, Sem.run_bind, List.map_toArray, List.map_cons, List.map_nil, hx]
  rw [show (nuc r).toArray = (idc r.1 ++ [Value.int .i64 r.2]).toArray from rfl, hr]
  exact hK _ _ h
theorem u8_small {i : Nat} (h : i < 256) : IntKind.u8.wrap (i : Int) = ((UInt8.ofNat i).toNat : Int) := by
  rw [UInt8.toNat_ofNat', IntWalk.u8_in _ (by omega)]
  omega
end Go.Proofs.YtddmldfdakmecaaGreatDoor
