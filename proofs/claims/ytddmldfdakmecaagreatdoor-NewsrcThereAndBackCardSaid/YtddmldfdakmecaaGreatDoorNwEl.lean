/- Plain laws on memory, of whatever program: slices whose elements take k cells: read wherever they lie, owned, appended to, stored into. -/
import Derived.WalkKit
import Derived.WalkSmall
import Derived.Lib.Hide
import Derived.Laws.AppendOwn
import Derived.Laws.AppendOwnNone
import Derived.Laws.OwnMore
import Derived.Deep.RegionLaw
import Derived.Deep.Onto
import Derived.OneCell
import Derived.WalkSpells
import Derived.WalkLawsBesides
namespace Go.El
open Go.RowKit

/-- How an element type lies in memory. -/
structure Ty (P : Program) (α : Type) where
  e : TypeId
  s : TypeId
  k : Nat
  by' : Nat
  enc : α → List Value
  zero : Value
  under : P.underlying s = some (.slice e)
  info : (P.info? e).map (fun i => (i.zero, i.size, i.bytes)) = some (some zero, k, by')
  len : ∀ x, (enc x).length = k
  one : ∀ x, ∀ v ∈ enc x, v.oneCell' = true
  zlen : zero.cells.size = k
  kpos : 0 < k
  small : by' ≤ 4096

variable {P : Program} {α : Type}

theorem plain_add (g j : Nat) : (⟨g, 0, none⟩ : Addr).add j = ⟨g, j, none⟩ := by unfold Addr.add; split <;> simp_all
theorem off_add (g o j : Nat) : (⟨g, o, none⟩ : Addr).add j = ⟨g, o + j, none⟩ := by unfold Addr.add; split <;> simp_all

def Ty.flat (T : Ty P α) (xs : List α) : List Value := xs.flatMap T.enc
theorem Ty.flat_length (T : Ty P α) (xs : List α) : (T.flat xs).length = xs.length * T.k := by
  unfold Ty.flat
  induction xs with
  | nil => simp
  | cons x xs ih => rw [List.flatMap_cons, List.length_append, ih, T.len, List.length_cons, Nat.add_mul]; omega
theorem Ty.flat_append (T : Ty P α) (xs ys : List α) : T.flat (xs ++ ys) = T.flat xs ++ T.flat ys := by unfold Ty.flat; rw [List.flatMap_append]
theorem Ty.flat_get (T : Ty P α) : ∀ (xs : List α) (j : Nat) (x : α), xs[j]? = some x → ∀ i, i < T.k → (T.flat xs)[j * T.k + i]? = (T.enc x)[i]?
  | [], j, x, h, i, hi => by simp at h
  | y :: xs, 0, x, h, i, hi => by
    simp at h; subst h
    unfold Ty.flat
    rw [List.flatMap_cons, Nat.zero_mul, Nat.zero_add, List.getElem?_append_left (by rw [T.len]; exact hi)]
  | y :: xs, j + 1, x, h, i, hi => by
    have ih := T.flat_get xs j x (by simpa using h) i hi
    unfold Ty.flat at *
    rw [List.flatMap_cons, List.getElem?_append_right (by rw [T.len, Nat.add_mul]; omega), T.len, show (j + 1) * T.k + i - T.k = j * T.k + i by rw [Nat.add_mul]; omega, ih]
theorem Ty.flat_inv (T : Ty P α) (xs : List α) (m : Nat) (v : Value) (h : (T.flat xs)[m]? = some v) : ∃ j i x, m = j * T.k + i ∧ i < T.k ∧ xs[j]? = some x ∧ (T.enc x)[i]? = some v := by
  have hm := (List.getElem?_eq_some_iff.1 h).1
  rw [T.flat_length] at hm
  have hk := T.kpos
  have h1 : m / T.k < xs.length := Nat.div_lt_of_lt_mul (by rw [Nat.mul_comm]; exact hm)
  have h2 : m % T.k < T.k := Nat.mod_lt _ hk
  have e : m = m / T.k * T.k + m % T.k := by rw [Nat.mul_comm]; exact (Nat.div_add_mod m T.k).symm
  refine ⟨m / T.k, m % T.k, xs[m / T.k], e, h2, List.getElem?_eq_getElem h1, ?_⟩
  rw [← T.flat_get xs (m / T.k) _ (List.getElem?_eq_getElem h1) _ h2, ← e]
  exact h
theorem Ty.flat_one (T : Ty P α) (xs : List α) : ∀ v ∈ T.flat xs, v.oneCell' = true := fun v hv => by
  obtain ⟨x, _, hx⟩ := List.mem_flatMap.1 hv
  exact T.one x v hx

/-- A slice's elements, wherever it lies. -/
def RE (T : Ty P α) (w : World) (a : Option Addr) (zs : List α) : Prop :=
  zs = [] ∨ ∃ b off, a = some ⟨b, off, none⟩ ∧ b < w.heap.size ∧ ∀ j x, zs[j]? = some x → ∀ i v, (T.enc x)[i]? = some v → w.cell? ⟨b, off + (j * T.k + i), none⟩ = some v

variable {T : Ty P α} {w w' : World} {a : Option Addr} {zs : List α}

theorem RE.nil (T : Ty P α) (w : World) (a : Option Addr) : RE T w a [] := .inl rfl
theorem RE.below (h : RE T w a zs) (hb : Below w.heap.size w w') : RE T w' a zs := by
  rcases h with h | ⟨b, off, ha, hlt, hc⟩
  · exact .inl h
  · exact .inr ⟨b, off, ha, Nat.lt_of_lt_of_le hlt hb.size, fun j x hx i v hv => (hb.cell (p := ⟨b, off + (j * T.k + i), none⟩) hlt).trans (hc j x hx i v hv)⟩
theorem RE.alloc (h : RE T w a zs) (o : Obj) : RE T (w.alloc o) a zs := h.below ((Below.refl _ _).alloc (Nat.le_refl _) _)
theorem RE.drewN (h : RE T w a zs) (n : Nat) : RE T (w.drewN n) a zs := h
theorem RE.kept {b off : Nat} {row : Option Nat} (h : RE T w (some ⟨b, off, none⟩) zs) (hg : w.grownBy w' row) (hne : some b ≠ row) : RE T w' (some ⟨b, off, none⟩) zs := by
  rcases h with h | ⟨b', off', ha, hlt, hc⟩
  · exact .inl h
  · injection ha with ha
    injection ha with e1 e2
    subst e1; subst e2
    refine .inr ⟨b, off, rfl, Nat.lt_of_lt_of_le hlt hg.size, fun j x hx i v hv => ?_⟩
    rw [World.cell?_of_block (hg.block b hlt hne)]
    exact hc j x hx i v hv
theorem RE.some (h : RE T w a zs) {k : Nat} (hk : k < zs.length) : ∃ b off, a = Option.some ⟨b, off, none⟩ ∧ b < w.heap.size ∧ ∀ i v, (T.enc zs[k])[i]? = Option.some v → w.cell? ⟨b, off + (k * T.k + i), none⟩ = Option.some v := by
  rcases h with h | ⟨b, off, ha, hb, hc⟩
  · rw [h] at hk; exact absurd hk (Nat.not_lt_zero _)
  · exact ⟨b, off, ha, hb, fun i v hv => hc k _ (List.getElem?_eq_getElem hk) i v hv⟩
theorem RE.take (h : RE T w a zs) (k : Nat) : RE T w a (zs.take k) := by
  rcases h with rfl | ⟨b, off, ha, hb, hc⟩
  · exact .inl (by simp)
  · refine .inr ⟨b, off, ha, hb, fun j x hx => hc j x ?_⟩
    rw [List.getElem?_take] at hx
    split at hx
    · exact hx
    · cases hx
theorem RE.drop {b off : Nat} (h : RE T w (Option.some ⟨b, off, none⟩) zs) (k : Nat) : RE T w (Option.some ⟨b, off + k * T.k, none⟩) (zs.drop k) := by
  rcases h with h | ⟨b', off', ha, hlt, hc⟩
  · exact .inl (by rw [h]; simp)
  · injection ha with ha
    injection ha with e1 e2
    subst e1; subst e2
    refine .inr ⟨b, off + k * T.k, rfl, hlt, fun j x hx i v hv => ?_⟩
    rw [List.getElem?_drop] at hx
    have := hc (k + j) x hx i v hv
    rwa [Nat.add_mul, Nat.add_assoc, ← Nat.add_assoc off] at this
/-- One new block that holds the elements. -/
theorem RE.new (T : Ty P α) (w : World) (l : List α) (cs : Array Value) (t : TypeId) (m : Nat) (hm : w.heap.size = m) (hcs : cs.toList = T.flat l) : RE T (w.alloc (.cells cs t)) (Option.some ⟨m, 0, none⟩) l := by
  subst hm
  refine .inr ⟨w.heap.size, 0, rfl, by simp, fun j x hx i v hv => ?_⟩
  simp only [World.cell?, heap_alloc_new]
  have hi : i < T.k := by
    have := (List.getElem?_eq_some_iff.1 hv).1
    rwa [T.len] at this
  have := T.flat_get l j x hx i hi
  rw [← hcs, hv, Array.getElem?_toList] at this
  simpa using this

/-- A slice of the call's own. -/
def OE (T : Ty P α) (w : World) (base : Nat) (v : Value) (xs : List α) : Prop := w.ownsRow base T.e T.k v xs.length (T.flat xs)

variable {base : Nat} {v : Value} {xs : List α}

theorem OE.nil (T : Ty P α) (w : World) (base : Nat) : OE T w base (.slice none 0 0) [] := World.ownsRow_nil w base _ _
theorem OE.below (h : OE T w base v xs) (hb : Below w.heap.size w w') : OE T w' base v xs :=
  World.ownsRow.kept (row := none) h ⟨hb.os, hb.tape, hb.output, hb.size, fun i hi _ => hb.block i hi⟩ (by cases v.ownBlock <;> simp)
theorem OE.alloc (h : OE T w base v xs) (o : Obj) : OE T (w.alloc o) base v xs := World.ownsRow.alloc h o
theorem OE.drewN (h : OE T w base v xs) (n : Nat) : OE T (w.drewN n) base v xs := h
theorem OE.mono {base' : Nat} (h : OE T w base v xs) (hb : base' ≤ base) : OE T w base' v xs := World.ownsRow.mono h hb
theorem OE.kept {row : Option Nat} (h : OE T w base v xs) (hg : w.grownBy w' row) (hne : v.ownBlock = none ∨ v.ownBlock ≠ row) : OE T w' base v xs := World.ownsRow.kept h hg hne
theorem OE.lit (T : Ty P α) (w : World) (base m : Nat) (hm : w.heap.size = m) (hb : base ≤ m) : OE T (w.alloc (.cells #[] T.e)) base (.slice (some ⟨m, 0, none⟩) 0 0) [] := by
  subst hm
  exact World.ownsRow_lit w #[] 0 hb (Nat.zero_le _) (by simp)
theorem OE.re (h : OE T w base v xs) : ∃ a c, v = .slice a xs.length c ∧ RE T w a xs ∧ xs.length ≤ c ∧ c ≤ maxLen ∧ (a = none → c = 0) ∧ ∀ b off, a = some ⟨b, off, none⟩ → base ≤ b ∧ off = 0 ∧ b < w.heap.size := by
  have h' := h
  rcases h.2 with ⟨rfl, h0⟩ | ⟨g, cap, cur, rfl, hb, hg, hle, hcap, _⟩
  · obtain rfl : xs = [] := List.eq_nil_of_length_eq_zero h0
    exact ⟨none, 0, rfl, .inl rfl, Nat.le_refl _, Nat.zero_le _, fun _ => rfl, by simp⟩
  · have hlt := (Array.getElem?_eq_some_iff.1 hg).1
    refine ⟨_, cap, rfl, .inr ⟨g, 0, rfl, hlt, fun j x hx i v hv => ?_⟩, hle, hcap, by simp, fun b off e => ?_⟩
    · have hi : i < T.k := by
        have := (List.getElem?_eq_some_iff.1 hv).1
        rwa [T.len] at this
      have := World.ownsRow.cells h' (g := g) rfl (j * T.k + i) v (by rw [T.flat_get xs j x hx i hi, hv])
      rwa [plain_add, ← Nat.zero_add (j * T.k + i)] at this
    · injection e with e
      injection e with e1 e2
      exact ⟨e1 ▸ hb, e2.symm, e1 ▸ hlt⟩
theorem OE.shape {n c : Nat} {a : Option Addr} (h : OE T w base (.slice a n c) xs) : xs.length = n ∧ RE T w a xs ∧ n ≤ c ∧ c ≤ maxLen ∧ (a = none → c = 0) ∧ ∀ b off, a = some ⟨b, off, none⟩ → base ≤ b ∧ off = 0 ∧ b < w.heap.size := by
  obtain ⟨a', c', e, h1, h2, h3, h4, h5⟩ := h.re
  simp only [Value.slice.injEq] at e
  obtain ⟨rfl, rfl, rfl⟩ := e
  exact ⟨rfl, h1, h2, h3, h4, h5⟩

theorem OE.sl (h : OE T w base v xs) : ∃ a m c, v = .slice a m c := by
  obtain ⟨a, c, e, _⟩ := h.re
  exact ⟨a, _, c, e⟩

theorem info_some (T : Ty P α) : ∃ i, P.info? T.e = some i ∧ i.zero = some T.zero ∧ i.size = T.k ∧ i.bytes = T.by' := by
  have h := T.info
  cases hi : P.info? T.e with
  | none => rw [hi] at h; cases h
  | some i =>
    rw [hi] at h
    simp only [Option.map_some, Option.some.injEq, Prod.mk.injEq] at h
    exact ⟨i, rfl, h.1, h.2.1, h.2.2⟩

/-- append(v, zs...), run. -/
theorem run_app {a' : Option Addr} {m c' : Nat} (HO : OE T w base v xs) (HZ : RE T w a' zs) (hm : zs.length = m) (hc0 : a' = none → c' = 0) (hl : xs.length + m ≤ 30000000000) (hbase : base ≤ w.heap.size) (ty : TypeId) :
    ∃ v1 w1, (Builtin.append_ #[T.s, T.s] ty #[v, .slice a' m c']).run P w = .ok v1 w1 ∧ OE T w1 base v1 (xs ++ zs) ∧ w.grownBy w1 v.ownBlock := by
  obtain ⟨i0, hi, hz0, hz1, hz2⟩ := info_some T
  cases a' with
  | none =>
    have hzs : zs = [] := by
      rcases HZ with h | ⟨b, off, h, _⟩
      · exact h
      · cases h
    subst hzs
    have hm0 : m = 0 := by rw [← hm]; rfl
    subst hm0
    rw [hc0 rfl]
    have hrun := run_append_owned_none (P := P) (w := w) base T.s ty T.e i0 T.k T.under hi v xs.length (T.flat xs) HO
    exact ⟨v, w, hrun, by rw [List.append_nil]; exact HO, ⟨rfl, rfl, rfl, Nat.le_refl _, fun _ _ _ => rfl⟩⟩
  | some ad =>
    have hsm := T.small
    have hby : (xs.length + m) * T.by' ≤ 140737488355328 := Nat.le_trans (Nat.mul_le_mul hl hsm) (by decide)
    obtain ⟨v1, w1, hr, h2, h3, _⟩ := run_append_own (P := P) w base T.s ty T.e i0 T.zero T.k T.by' T.under hi hz0 hz1 hz2 T.zlen T.kpos v xs.length (T.flat xs) HO ad m c' (T.flat zs) (by rw [T.flat_length, hm])
      (fun j u hu => by
        obtain ⟨j', i, x, rfl, hik, hx, hv⟩ := T.flat_inv zs j u hu
        rcases HZ with h0 | ⟨b, off, h0, _, hc⟩
        · rw [h0] at hx; simp at hx
        · injection h0 with h0
          subst h0
          rw [off_add]
          exact hc j' x hx i u hv) (T.flat_one zs) (by simp only [maxLen]; omega) hby hbase
    exact ⟨v1, w1, hr, by unfold OE; rw [List.length_append, T.flat_append, hm]; exact h2, h3⟩

/-- append(v, zs...), at the operation. -/
theorem app {ops : Array Oper} {rest : List Oper} {o : Oper} {act : Act} {Q : Exit → Act → World → Prop} {a' : Option Addr} {m c' : Nat} (T : Ty P α) (HO : OE T w base v xs) (HZ : RE T w a' zs) (hm : zs.length = m) (hc0 : a' = none → c' = 0) (hl : xs.length + m ≤ 30000000000) (hbase : base ≤ w.heap.size)
    (s x : Operand) (hgd : o.guard = none)
    (ho : o.op = .call { callee := .builtin .append, args := #[s, x], argTypes := #[T.s, T.s] })
    (hs : act.eval s = v) (hx : act.eval x = .slice a' m c')
    (h : ∀ v1 w1, OE T w1 base v1 (xs ++ zs) → w.grownBy w1 v.ownBlock → wpList P ops Q rest (act.put o.dst v1) w1) :
    wpList P ops Q (o :: rest) act w := by
  refine wpList_plain hgd fun K hK => ?_
  obtain ⟨v1, w1, hr, h2, h3⟩ := run_app HO HZ hm hc0 hl hbase o.type
  unfold Oper.wp execOp
  simp only [ho, resolve, invoke, builtin, Sem.run_bind, Sem.run_pure, Result.andThen_ok, List.map_toArray, List.map_cons, List.map_nil, hs, hx, hr]
  exact hK _ _ (h v1 w1 h2 h3)

/-- append(v, zs...), as one step of a region that draws its order. -/
theorem step {ops : Array Oper} {o : Oper} {act : Act} {K : Act → World → Prop} {Q : Exit → Act → World → Prop} {E : Prop} {a' : Option Addr} {m c' : Nat} (T : Ty P α) (HO : OE T w base v xs) (HZ : RE T w a' zs) (hm : zs.length = m) (hc0 : a' = none → c' = 0) (hl : xs.length + m ≤ 30000000000) (hbase : base ≤ w.heap.size)
    (s x : Operand) (hgd : o.guard = none)
    (ho : o.op = .call { callee := .builtin .append, args := #[s, x], argTypes := #[T.s, T.s] })
    (hs : act.eval s = v) (hx : act.eval x = .slice a' m c')
    (h : ∀ v1 w1, OE T w1 base v1 (xs ++ zs) → w.grownBy w1 v.ownBlock → K (act.put o.dst v1) w1) :
    if Region.wanted o (yielded ops act.tmps) = true then Oper.wp P o act w K Q else E := by
  have hw : Region.wanted o (yielded ops act.tmps) = true := by simp [Region.wanted, hgd]
  rw [if_pos hw]
  obtain ⟨v1, w1, hr, h2, h3⟩ := run_app HO HZ hm hc0 hl hbase o.type
  unfold Oper.wp execOp
  simp only [ho, resolve, invoke, builtin, Sem.run_bind, Sem.run_pure, Result.andThen_ok, List.map_toArray, List.map_cons, List.map_nil, hs, hx, hr]
  exact h v1 w1 h2 h3

/-- What an append to an owned slice leaves lies below. -/
theorem OE.grown {w0 : World} (h : OE T w base v xs) (hB : Below base w0 w) (hbase : base ≤ w.heap.size) (hg : w.grownBy w' v.ownBlock) : Below base w0 w' := hB.grown hg hbase fun q hq => (World.ownsRow.lt h q hq).1

/-- A store of one cell of an element. -/
theorem OE.cell {g n c : Nat} (h : OE T w base (.slice (some ⟨g, 0, none⟩) n c) xs) (j i : Nat) (u : Value) {x y : α} (hj : xs[j]? = some x) (hi : i < T.k) (hy : T.enc y = (T.enc x).set i u) :
    OE T (w.setCell ⟨g, j * T.k + i, none⟩ u) base (.slice (some ⟨g, 0, none⟩) n c) (xs.set j y) := by
  obtain ⟨rfl, _⟩ := h.shape
  have h1 := (World.ownsRow.stored h (j * T.k + i) u).1
  unfold OE
  have e : (T.flat xs).set (j * T.k + i) u = T.flat (xs.set j y) := by
    have hjl := (List.getElem?_eq_some_iff.1 hj).1
    apply List.ext_getElem?
    intro m
    rw [List.getElem?_set]
    by_cases hm : m < xs.length * T.k
    · have hk := T.kpos
      have hd : m / T.k < xs.length := Nat.div_lt_of_lt_mul (by rw [Nat.mul_comm]; exact hm)
      have hr : m % T.k < T.k := Nat.mod_lt _ hk
      have em : m = m / T.k * T.k + m % T.k := by rw [Nat.mul_comm]; exact (Nat.div_add_mod m T.k).symm
      have hlen : (T.flat xs).length = xs.length * T.k := T.flat_length xs
      by_cases hjd : m / T.k = j
      · have hset : (xs.set j y)[m / T.k]? = some y := by rw [List.getElem?_set, if_pos hjd.symm, if_pos hjl]
        have hflat : (T.flat (xs.set j y))[m]? = (T.enc y)[m % T.k]? := by
          have := T.flat_get (xs.set j y) (m / T.k) y hset (m % T.k) hr
          rwa [← em] at this
        rw [hflat, hy, List.getElem?_set, T.len]
        by_cases hii : i = m % T.k
        · subst hii
          have em' : j * T.k + m % T.k = m := by rw [← hjd]; exact em.symm
          rw [em', if_pos rfl, if_pos (by rw [hlen]; exact hm), if_pos rfl, if_pos hr]
        · rw [if_neg (by rw [hjd] at em; omega), if_neg hii]
          have := T.flat_get xs (m / T.k) x (by rw [hjd]; exact hj) (m % T.k) hr
          rwa [← em] at this
      · have hset : (xs.set j y)[m / T.k]? = some xs[m / T.k] := by rw [List.getElem?_set, if_neg (fun e => hjd e.symm), List.getElem?_eq_getElem hd]
        have h2 := T.flat_get (xs.set j y) (m / T.k) _ hset (m % T.k) hr
        have h3 := T.flat_get xs (m / T.k) _ (List.getElem?_eq_getElem hd) (m % T.k) hr
        rw [← em] at h2 h3
        rw [h2, ← h3, if_neg]
        intro e
        apply hjd
        rw [← e, Nat.mul_comm, Nat.mul_add_div hk, Nat.div_eq_of_lt hi, Nat.add_zero]
    · have l1 : (T.flat xs).length ≤ m := by rw [T.flat_length]; omega
      have l2 : (T.flat (xs.set j y)).length ≤ m := by rw [T.flat_length, List.length_set]; omega
      rw [List.getElem?_eq_none l2]
      split
      · rw [if_neg (by omega)]
      · exact List.getElem?_eq_none l1
  rw [List.length_set, ← e]
  exact h1

/-- A block of one cell. -/
def Box (w : World) (B : Nat) (t : TypeId) (v : Value) : Prop := w.heap[B]? = some (.cells #[v] t (0, 0))
theorem Box.lt {w : World} {B : Nat} {t : TypeId} {v : Value} (h : Box w B t v) : B < w.heap.size := (Array.getElem?_eq_some_iff.1 h).1
theorem Box.cell {w : World} {B : Nat} {t : TypeId} {v : Value} (h : Box w B t v) : w.cell? ⟨B, 0, none⟩ = some v := by unfold Box at h; simp [World.cell?, h]
theorem Box.free {w : World} {B : Nat} {t : TypeId} {v : Value} (h : Box w B t v) : w.frozen? ⟨B, 0, none⟩ = false := by unfold Box at h; simp [World.frozen?, h]
theorem Box.new (w : World) (t : TypeId) (v : Value) (m : Nat) (hm : w.heap.size = m) : Box (w.alloc (.cells #[v] t)) m t v := by subst hm; exact heap_alloc_new w _
theorem Box.below {w w' : World} {B base : Nat} {t : TypeId} {v : Value} (h : Box w B t v) (hb : Below base w w') (hB : B < base) : Box w' B t v := (hb.block B hB).trans h
theorem Box.alloc {w : World} {B : Nat} {t : TypeId} {v : Value} (h : Box w B t v) (o : Obj) : Box (w.alloc o) B t v := (Below.heap_alloc w o B h.lt).trans h
theorem Box.drewN {w : World} {B : Nat} {t : TypeId} {v : Value} (h : Box w B t v) (n : Nat) : Box (w.drewN n) B t v := h
theorem Box.kept {w w' : World} {B : Nat} {t : TypeId} {v : Value} {row : Option Nat} (h : Box w B t v) (hg : w.grownBy w' row) (hne : some B ≠ row) : Box w' B t v := (hg.block B h.lt hne).trans h
theorem Box.set {w : World} {B : Nat} {t : TypeId} {v : Value} (h : Box w B t v) (u : Value) : Box (w.setCell ⟨B, 0, none⟩ u) B t u := by
  unfold Box at h ⊢
  simp [World.setCell, Array.getElem?_modify, h]
theorem Box.far {w : World} {B : Nat} {t : TypeId} {v : Value} (h : Box w B t v) {p : Addr} (hp : B ≠ p.block) (u : Value) : Box (w.setCell p u) B t v := (Below.heap_setCell w p u B hp).trans h

theorem OE.ne {B : Nat} {t : TypeId} {u : Value} (h : OE T w base v xs) (hB : Box w B t u) (hne : T.e ≠ t) : v.ownBlock ≠ some B := by
  rcases h.2 with ⟨rfl, _⟩ | ⟨g', cap, cur, rfl, _, hh, _⟩
  · simp [Value.ownBlock]
  · intro he
    have : g' = B := by simpa [Value.ownBlock] using he
    subst this
    unfold Box at hB
    rw [hB] at hh
    injection hh with hh
    injection hh with _ ht
    exact hne ht.symm

theorem OE.free {g n c : Nat} (h : OE T w base (.slice (some ⟨g, 0, none⟩) n c) xs) (j : Nat) : w.frozen? ⟨g, j, none⟩ = false := by
  obtain ⟨rfl, _⟩ := h.shape
  exact World.ownsRow.frozenAt h j
theorem OE.far (h : OE T w base v xs) {a : Addr} (ha : v.ownBlock ≠ some a.block) (u : Value) : OE T (w.setCell a u) base v xs := ownsRow_setCell_other h ha u

theorem new2 (w : World) (t : TypeId) (u v : Value) : (w.alloc (.cells #[u, v] t)).cell? ⟨w.heap.size, 0, none⟩ = some u ∧ (w.alloc (.cells #[u, v] t)).cell? ⟨w.heap.size, 1, none⟩ = some v := by
  constructor <;> simp only [World.cell?, heap_alloc_new] <;> rfl

end Go.El
