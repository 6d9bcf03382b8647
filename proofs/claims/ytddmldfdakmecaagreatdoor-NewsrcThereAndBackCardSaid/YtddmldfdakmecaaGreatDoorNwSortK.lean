/- Laws on memory, of whatever program: a slice of the call's own whose elements take k cells, sorted by the library. -/
import Derived.Test.YtddmldfdakmecaaGreatDoorNwEl
import Derived.Shelf.SlSortCmp.WholeK
import Derived.Shelf.SlSortCmp.NoneTotal
import Derived.Sort.OwnSorted
namespace Go.El
open Go.RowKit Go.Sort Go.Proofs
variable {P : Program} {α : Type} [Inhabited α] {T : Ty P α}

theorem flatK_toList (T : Ty P α) (xs : List α) : (flatK T.enc T.k xs.toArray).toList = T.flat xs := by
  apply List.ext_getElem?
  intro t
  by_cases ht : t < xs.length * T.k
  · have hk := T.kpos
    have h1 : t / T.k < xs.length := Nat.div_lt_of_lt_mul (by rw [Nat.mul_comm]; exact ht)
    have h2 : t % T.k < T.k := Nat.mod_lt _ hk
    have e : t / T.k * T.k + t % T.k = t := by rw [Nat.mul_comm]; exact Nat.div_add_mod t T.k
    have h3 := T.flat_get xs (t / T.k) _ (List.getElem?_eq_getElem h1) _ h2
    rw [e] at h3
    have hs : t < (flatK T.enc T.k xs.toArray).size := by simpa using ht
    have h4 := get_flatK T.enc T.k xs.toArray t (by simpa using ht)
    rw [getElem!_pos _ t hs] at h4
    rw [h3, Array.getElem?_toList, Array.getElem?_eq_getElem hs, h4]
    have h5 : xs.toArray[t / T.k]! = xs[t / T.k] := by rw [getElem!_pos _ _ (by simpa using h1)]; simp
    rw [h5, getElem!_pos _ _ (by rw [T.len]; exact h2), List.getElem?_eq_getElem (by rw [T.len]; exact h2)]
  · rw [List.getElem?_eq_none (by simp; omega), List.getElem?_eq_none (by rw [T.flat_length]; omega)]

theorem holdsK_of_own {w : World} {g : Nat} {cur : Array Value} {xs : List α} (hb : w.heap[g]? = some (.cells cur T.e (0, 0))) (ht : cur.toList.take (xs.length * T.k) = T.flat xs) : HoldsK T.enc T.k w g 0 xs.toArray := by
  intro j hj
  have hj' : j < xs.length * T.k := by simpa using hj
  refine ⟨?_, by simp [World.frozen?, hb]⟩
  have h1 : (cur.toList.take (xs.length * T.k))[j]? = (flatK T.enc T.k xs.toArray).toList[j]? := by rw [ht, flatK_toList]
  rw [List.getElem?_take_of_lt hj'] at h1
  simp only [World.cell?, hb, Nat.zero_add]
  simp only [Option.isSome_none, Bool.false_eq_true, if_false]
  rw [← Array.getElem?_toList, h1, Array.getElem?_toList, getElem!_pos _ j hj, Array.getElem?_eq_getElem hj]; rfl

theorem heap_sortedK {w : World} {g n : Nat} {os : Array Obj} {cur : Array Value} {e : TypeId} {fr : Nat × Nat} (T : Ty P α) (d : Array α) (hb : w.heap[g]? = some (.cells cur e fr)) :
    (sortWorldK T.enc T.k w g 0 n d os).heap[g]? = some (.cells (putCells id 0 (flatK T.enc T.k d) cur) e fr) := by
  have hg : g < w.heap.size := (Array.getElem?_eq_some_iff.1 hb).1
  unfold sortWorldK putRowK
  rw [heap_grow_old _ _ (by simpa [putRow, mapBlock, Sort.ahead] using hg)]
  simp [putRow, mapBlock, Sort.ahead, Array.getElem?_modify, hb, onCells]

theorem grownBy_sortedK {w : World} {g n : Nat} {os : Array Obj} (T : Ty P α) (d : Array α) : w.grownBy (sortWorldK T.enc T.k w g 0 n d os) (some g) := by
  unfold sortWorldK putRowK
  refine ⟨rfl, rfl, rfl, by simp [putRow, mapBlock, Sort.ahead, grow], fun k hk hne => ?_⟩
  rw [heap_grow_old _ _ (by simpa [putRow, mapBlock, Sort.ahead] using hk)]
  have : g ≠ k := fun e => hne (by rw [e])
  simp [putRow, mapBlock, Sort.ahead, Array.getElem?_modify, this]

theorem take_putFlat (cur F : Array Value) (h : F.size ≤ cur.size) : (putCells id 0 F cur).toList.take F.size = F.toList := by
  apply List.ext_getElem?
  intro j
  by_cases hj : j < F.size
  · rw [List.getElem?_take_of_lt hj, Array.getElem?_toList, Array.getElem?_toList]
    simp [putCells, hj, show j < cur.size by omega]
  · rw [List.getElem?_take_eq_none (by omega), List.getElem?_eq_none (by simp; omega)]

theorem own_sortedK {w : World} {base g cap n : Nat} {os : Array Obj} {cur : Array Value} {xs ys : List α} (hl : ys.length = xs.length) (hbase : base ≤ g) (hb : w.heap[g]? = some (.cells cur T.e (0, 0)))
    (h1 : xs.length ≤ cap) (h2 : cap ≤ maxLen) (h3 : cur.size = cap * T.k) :
    OE T (sortWorldK T.enc T.k w g 0 n ys.toArray os) base (.slice (some ⟨g, 0, none⟩) xs.length cap) ys := by
  have hF : (flatK T.enc T.k ys.toArray).size = ys.length * T.k := by simp
  refine ⟨T.flat_length ys, .inr ⟨g, cap, _, by rw [hl], hbase, heap_sortedK T _ hb, by omega, h2, by simp [putCells, h3], ?_⟩⟩
  rw [← hF, take_putFlat _ _ (by rw [hF, h3]; exact Nat.mul_le_mul_right _ (by omega)), flatK_toList]

end Go.El
