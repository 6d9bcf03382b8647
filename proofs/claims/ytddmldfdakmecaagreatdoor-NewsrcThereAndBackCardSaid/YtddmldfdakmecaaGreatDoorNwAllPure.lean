/- Plain Lean, no program: the numbers of ranges in their order, and how many of them are at most one of them. No condition. -/
import Derived.Test.YtddmldfdakmecaaGreatDoorNwCount
namespace Go.Proofs.YtddmldfdakmecaaGreatDoor
open Go.Nw

def numsOf (r : Rg) : List Int := (List.range (r.2 - r.1 + 1).toNat).map fun (i : Nat) => r.1 + (i : Int)
def nums (l : List Rg) : List Int := l.flatMap numsOf

theorem mem_numsOf {r : Rg} {n : Int} : n ∈ numsOf r ↔ r.1 ≤ n ∧ n ≤ r.2 := by
  unfold numsOf
  rw [List.mem_map]
  constructor
  · rintro ⟨i, hi, rfl⟩
    rw [List.mem_range] at hi
    omega
  · intro h
    exact ⟨(n - r.1).toNat, by rw [List.mem_range]; omega, by omega⟩

theorem mem_nums {l : List Rg} {n : Int} : n ∈ nums l ↔ memB n l = true := by
  unfold nums
  rw [List.mem_flatMap, memB_iff]
  exact ⟨fun ⟨r, h1, h2⟩ => ⟨r, h1, mem_numsOf.1 h2⟩, fun ⟨r, h1, h2⟩ => ⟨r, h1, mem_numsOf.2 h2⟩⟩

theorem numsOf_pairwise (r : Rg) : (numsOf r).Pairwise (· < ·) := by
  unfold numsOf
  rw [List.pairwise_map]
  exact List.pairwise_lt_range.imp fun h => by omega

theorem nums_cons (r : Rg) (l : List Rg) : nums (r :: l) = numsOf r ++ nums l := by unfold nums; rw [List.flatMap_cons]
theorem nums_nil : nums [] = [] := rfl
theorem nums_snoc (l : List Rg) (r : Rg) : nums (l ++ [r]) = nums l ++ numsOf r := by unfold nums; rw [List.flatMap_append]; simp

theorem nums_pairwise : ∀ {l : List Rg}, Norm l → (nums l).Pairwise (· < ·)
  | [], _ => List.Pairwise.nil
  | r :: l, h => by
    rw [nums_cons, List.pairwise_append]
    refine ⟨numsOf_pairwise r, nums_pairwise h.tail, fun x hx y hy => ?_⟩
    obtain ⟨q, hq, h1, h2⟩ := memB_iff.1 (mem_nums.1 hy)
    have h3 := mem_numsOf.1 hx
    have h4 := h.head.2 q hq
    omega

theorem numsOf_length {r : Rg} (h : r.1 ≤ r.2) : ((numsOf r).length : Int) = r.2 - r.1 + 1 := by
  unfold numsOf; rw [List.length_map, List.length_range]; omega

theorem nums_length : ∀ {l : List Rg}, (∀ r ∈ l, r.1 ≤ r.2) → ((nums l).length : Int) = countL l
  | [], _ => rfl
  | r :: l, h => by
    rw [nums_cons, List.length_append, countL_cons]
    have h1 := numsOf_length (h r (by simp))
    have h2 := nums_length fun s hs => h s (List.mem_cons_of_mem _ hs)
    omega

/-- How many numbers of the ranges are at most 'last', as the statement counts them. -/
def betw (last : Int) : List Rg → Int
  | [] => 0
  | r :: l => (if r.1 ≤ last then min r.2 last - r.1 + 1 else 0) + betw last l
theorem betw_snoc (last : Int) (r : Rg) : ∀ l : List Rg, betw last (l ++ [r]) = betw last l + (if r.1 ≤ last then min r.2 last - r.1 + 1 else 0)
  | [] => by simp [betw]
  | s :: l => by
    rw [List.cons_append]
    simp only [betw]
    rw [betw_snoc last r l]
    omega
theorem betw_bounds (last : Int) : ∀ {l : List Rg}, (∀ r ∈ l, validB r = true) → 0 ≤ betw last l ∧ betw last l ≤ (l.length : Int) * 1099511627776
  | [], _ => ⟨Int.le_refl _, by simp [betw]⟩
  | r :: l, h => by
    have h1 := betw_bounds last (l := l) fun s hs => h s (List.mem_cons_of_mem _ hs)
    obtain ⟨v1, v2, v3⟩ := validB_iff.1 (h r (by simp))
    simp only [betw, List.length_cons]
    split <;> omega

theorem count_range_le (a last : Int) : ∀ n : Nat, (((List.range n).map fun (i : Nat) => a + (i : Int)).countP fun x => decide (x ≤ last)) = min n (last - a + 1).toNat
  | 0 => by simp
  | n + 1 => by
    rw [List.range_succ, List.map_append, List.countP_append, count_range_le a last n]
    simp only [List.map_cons, List.map_nil, List.countP_cons, List.countP_nil, decide_eq_true_eq]
    split <;> omega

theorem betw_count (last : Int) : ∀ {l : List Rg}, (∀ r ∈ l, r.1 ≤ r.2) → betw last l = ((nums l).countP fun x => decide (x ≤ last) : Nat)
  | [], _ => rfl
  | r :: l, h => by
    rw [nums_cons, List.countP_append]
    have h1 := betw_count last (l := l) fun s hs => h s (List.mem_cons_of_mem _ hs)
    have h2 := h r (by simp)
    simp only [betw]
    rw [h1]
    unfold numsOf
    rw [count_range_le]
    split <;> omega

/-- The number of those that are at most the last one of a part that begins the list. -/
theorem betw_prefix {l : List Rg} {pre : List Int} {x : Int} (h : Norm l) (hp : (pre ++ [x]) <+: nums l) : betw x l = (pre.length : Int) + 1 := by
  obtain ⟨rest, hr⟩ := hp
  have hpw := nums_pairwise h
  rw [betw_count x h.1, ← hr]
  rw [← hr, List.pairwise_append, List.pairwise_append] at hpw
  obtain ⟨⟨_, _, h1⟩, _, h2⟩ := hpw
  rw [List.countP_append, List.countP_append]
  have e1 : pre.countP (fun y => decide (y ≤ x)) = pre.length := List.countP_eq_length.2 fun y hy => by
    have := h1 y hy x (by simp)
    simp; omega
  have e2 : rest.countP (fun y => decide (y ≤ x)) = 0 := List.countP_eq_zero.2 fun y hy => by
    have := h2 x (by simp) y hy
    simp; omega
  rw [e1, e2]
  simp
end Go.Proofs.YtddmldfdakmecaaGreatDoor
