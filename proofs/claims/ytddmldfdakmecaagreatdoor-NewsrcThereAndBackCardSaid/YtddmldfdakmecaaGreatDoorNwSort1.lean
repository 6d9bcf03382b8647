/- Laws on memory, of whatever program: a slice of the call's own of one-cell elements, in the words of the library's sort; new rows out of slices.Grow. -/
import Derived.Test.YtddmldfdakmecaaGreatDoorNwSortK
import Derived.Test.YtddmldfdakmecaaGreatDoorGnCompact
namespace Go.El
open Go.RowKit Go.Sort Go.Proofs Go.Gn
variable {P : Program} {α : Type} [Inhabited α] {T : Ty P α}

omit [Inhabited α] in
theorem flat1 {f : α → Value} (he : T.enc = fun x => [f x]) (xs : List α) : T.flat xs = xs.map f := by
  unfold Ty.flat; rw [he]; induction xs with
  | nil => rfl
  | cons x xs ih => rw [List.flatMap_cons, ih]; rfl

theorem holds1 {f : α → Value} (he : T.enc = fun x => [f x]) (hk : T.k = 1) {w : World} {g : Nat} {cur : Array Value} {xs : List α} (hb : w.heap[g]? = some (.cells cur T.e (0, 0))) (ht : cur.toList.take (xs.length * T.k) = T.flat xs) : Holds f w g 0 xs.toArray := by
  intro j hj
  have hj' : j < xs.length := by simpa using hj
  refine ⟨?_, by simp [World.frozen?, hb]⟩
  rw [flat1 he, hk, Nat.mul_one] at ht
  have h1 : (cur.toList.take xs.length)[j]? = (xs.map f)[j]? := by rw [ht]
  rw [List.getElem?_take_of_lt hj'] at h1
  simp only [World.cell?, hb, Nat.zero_add]
  simp only [Option.isSome_none, Bool.false_eq_true, if_false]
  rw [← Array.getElem?_toList, h1, getElem!_pos _ j hj]
  simp [hj']

theorem heap_put1 {f : α → Value} {w : World} {g n : Nat} {os : Array Obj} {cur : Array Value} {e : TypeId} {fr : Nat × Nat} (d : Array α) (hb : w.heap[g]? = some (.cells cur e fr)) :
    (grow (putRow f (Sort.ahead w n) g 0 d) os).heap[g]? = some (.cells (putCells f 0 d cur) e fr) := by
  have hg : g < w.heap.size := (Array.getElem?_eq_some_iff.1 hb).1
  rw [heap_grow_old _ _ (by simpa using hg)]
  simp [putRow, mapBlock, Sort.ahead, Array.getElem?_modify, hb, onCells]

theorem grownBy_put1 {f : α → Value} {w : World} {g n : Nat} {os : Array Obj} (d : Array α) : w.grownBy (grow (putRow f (Sort.ahead w n) g 0 d) os) (some g) := by
  refine ⟨rfl, rfl, rfl, by simp, fun k hk hne => ?_⟩
  rw [heap_grow_old _ _ (by simpa using hk)]
  have : g ≠ k := fun e => hne (by rw [e])
  simp [putRow, mapBlock, Sort.ahead, Array.getElem?_modify, this]

theorem take_put1 {f : α → Value} (cur : Array Value) (ts : List α) (h : ts.length ≤ cur.size) : (putCells f 0 ts.toArray cur).toList.take ts.length = ts.map f := by
  apply List.ext_getElem?
  intro j
  by_cases hj : j < ts.length
  · rw [List.getElem?_take_of_lt hj, Array.getElem?_toList]
    simp [putCells, hj, show j < cur.size by omega]
  · rw [List.getElem?_take_eq_none (by omega), List.getElem?_eq_none (by simp; omega)]

theorem own_put1 {f : α → Value} (he : T.enc = fun x => [f x]) (hk : T.k = 1) {w : World} {base g cap n : Nat} {os : Array Obj} {cur : Array Value} {xs ys : List α} (hl : ys.length = xs.length) (hbase : base ≤ g) (hb : w.heap[g]? = some (.cells cur T.e (0, 0)))
    (h1 : xs.length ≤ cap) (h2 : cap ≤ maxLen) (h3 : cur.size = cap * T.k) :
    OE T (grow (putRow f (Sort.ahead w n) g 0 ys.toArray) os) base (.slice (some ⟨g, 0, none⟩) xs.length cap) ys := by
  have h3' : cur.size = cap := by rw [h3, hk, Nat.mul_one]
  refine ⟨T.flat_length ys, .inr ⟨g, cap, _, by rw [hl], hbase, heap_put1 _ hb, by omega, h2, by simp [putCells, h3], ?_⟩⟩
  rw [hk, Nat.mul_one, take_put1 _ _ (by omega), flat1 he]

/-- Whole numbers compared. -/
def cmpI (a b : Int) : Int := if a < b then -1 else if b < a then 1 else 0
theorem cmpI_is : IsCmp cmpI where
  rng := by intro a b; unfold cmpI; split <;> (try split) <;> simp
  eq := by intro a b; unfold cmpI; split <;> (try split) <;> simp <;> omega
  neg := by intro a b; unfold cmpI; repeat' split
            all_goals omega
  trans := by intro a b d; unfold cmpI; repeat' split
              all_goals omega
theorem cmpI_lt (a b : Int) : cmpI a b < 0 ↔ a < b := by unfold cmpI; split <;> (try split) <;> simp <;> omega
theorem cmpI_le (a b : Int) : cmpI a b ≤ 0 ↔ a ≤ b := by unfold cmpI; split <;> (try split) <;> simp <;> omega

/-- Sorted, then compacted: strictly increasing, the same numbers. -/
theorem compact_ints (L : List Int) : (Lib.compact (L.mergeSort fun x y => decide (x ≤ y))).Pairwise (· < ·) ∧ ∀ x, x ∈ Lib.compact (L.mergeSort fun x y => decide (x ≤ y)) ↔ x ∈ L := by
  have hs := List.pairwise_mergeSort (le := fun (x y : Int) => decide (x ≤ y)) (fun a b c h1 h2 => by simp at *; omega) (fun a b => by simp; omega) L
  obtain ⟨h1, h2⟩ := compact_sorted cmpI_is (L.mergeSort fun x y => decide (x ≤ y)) (hs.imp fun h => (cmpI_le _ _).2 (by simpa using h))
  exact ⟨h1.imp fun h => (cmpI_lt _ _).1 h, fun x => by rw [h2]; exact (List.mergeSort_perm L _).mem_iff⟩

omit [Inhabited α] in
/-- What slices.Grow lays for a nil slice. -/
theorem own_grown (T : Ty P α) (w : World) (n G : Nat) (hG : n ≤ G) (hm : G ≤ maxLen) :
    OE T (w.alloc (.cells ((#[] : Array Value) ++ Builtin.zeroCells T.zero.cells n ++ Builtin.zeroCells T.zero.cells (G - n)) T.e)) w.heap.size (.slice (some ⟨w.heap.size, 0, none⟩) 0 G) [] := by
  refine ⟨T.flat_length [], .inr ⟨w.heap.size, G, _, rfl, Nat.le_refl _, heap_alloc_new w _, Nat.zero_le _, hm, ?_, ?_⟩⟩
  · rw [Array.size_append, Array.size_append, size_zeroCells, size_zeroCells, T.zlen]
    have : n * T.k + (G - n) * T.k = G * T.k := by rw [← Nat.add_mul]; congr 1; omega
    simp; omega
  · simp [Ty.flat]
end Go.El
