/- Plain Lean: insertion sort without repetitions. No condition. -/
import Derived.Test.YtddmldfdakmecaaGreatDoorGnOrder
namespace Go.Gn

def Strict {α : Type} (c : α → α → Int) (l : List α) : Prop := l.Pairwise fun a b => c a b < 0

theorem Strict.unique {α : Type} {c : α → α → Int} (h : IsCmp c) : ∀ {l m : List α}, Strict c l → Strict c m → (∀ x, x ∈ l ↔ x ∈ m) → l = m
  | [], [], _, _, _ => rfl
  | [], y :: m, _, _, hm => by have := (hm y).2 (by simp); simp at this
  | x :: l, [], _, _, hm => by have := (hm x).1 (by simp); simp at this
  | x :: l, y :: m, h1, h2, hm => by
    have a1 := List.pairwise_cons.1 h1
    have a2 := List.pairwise_cons.1 h2
    have exy : x = y := by
      rcases List.mem_cons.1 ((hm x).1 (by simp)) with e | e
      · exact e
      · rcases List.mem_cons.1 ((hm y).2 (by simp)) with e' | e'
        · exact e'.symm
        · have b1 := a2.1 x e
          have b2 := a1.1 y e'
          have := h.neg x y
          omega
    subst exy
    congr 1
    refine Strict.unique h a1.2 a2.2 fun z => ?_
    constructor
    · intro hz
      rcases List.mem_cons.1 ((hm z).1 (by simp [hz])) with e | e
      · subst e; have := a1.1 z hz; have := h.refl z; omega
      · exact e
    · intro hz
      rcases List.mem_cons.1 ((hm z).2 (by simp [hz])) with e | e
      · subst e; have := a2.1 z hz; have := h.refl z; omega
      · exact e

/-- Insertion into a sorted list without repetitions. -/
def ins {α : Type} (c : α → α → Int) : List α → α → List α
  | [], s => [s]
  | x :: l, s => if c x s < 0 then x :: ins c l s else if c x s = 0 then x :: l else s :: x :: l

theorem mem_ins {α : Type} {c : α → α → Int} (h : IsCmp c) (s : α) : ∀ (l : List α) (z : α), z ∈ ins c l s ↔ z = s ∨ z ∈ l
  | [], z => by simp [ins]
  | x :: l, z => by
    unfold ins
    split
    · rw [List.mem_cons, mem_ins h s l z, List.mem_cons]
      constructor
      · rintro (a | a | a) <;> simp [a]
      · rintro (a | a | a) <;> simp [a]
    · split
      · rename_i e
        have := (h.eq x s).1 e
        subst this
        simp
      · simp

theorem strict_ins {α : Type} {c : α → α → Int} (h : IsCmp c) (s : α) : ∀ (l : List α), Strict c l → Strict c (ins c l s)
  | [], _ => List.pairwise_singleton _ _
  | x :: l, hs => by
    have a1 := List.pairwise_cons.1 hs
    unfold ins
    split
    · rename_i e
      refine List.pairwise_cons.2 ⟨fun z hz => ?_, strict_ins h s l a1.2⟩
      rcases (mem_ins h s l z).1 hz with rfl | hz
      · exact e
      · exact a1.1 z hz
    · split
      · exact hs
      · rename_i e1 e2
        have hn := h.neg x s
        refine List.pairwise_cons.2 ⟨fun z hz => ?_, hs⟩
        rcases List.mem_cons.1 hz with rfl | hz
        · omega
        · have := a1.1 z hz
          exact h.trans s x z (by omega) this

/-- The different elements in increasing order. -/
def sortU {α : Type} (c : α → α → Int) (l : List α) : List α := l.foldl (ins c) []

theorem sortU_aux {α : Type} {c : α → α → Int} (h : IsCmp c) : ∀ (l acc : List α), Strict c acc → Strict c (l.foldl (ins c) acc) ∧ ∀ z, z ∈ l.foldl (ins c) acc ↔ z ∈ l ∨ z ∈ acc
  | [], acc, ha => ⟨ha, by simp⟩
  | x :: l, acc, ha => by
    obtain ⟨h1, h2⟩ := sortU_aux h l (ins c acc x) (strict_ins h x acc ha)
    refine ⟨h1, fun z => ?_⟩
    rw [List.foldl_cons, h2 z, mem_ins h x acc z, List.mem_cons]
    constructor
    · rintro (a | a | a) <;> simp [a]
    · rintro ((a | a) | a) <;> simp [a]

theorem strict_sortU {α : Type} {c : α → α → Int} (h : IsCmp c) (l : List α) : Strict c (sortU c l) := (sortU_aux h l [] List.Pairwise.nil).1
theorem mem_sortU {α : Type} {c : α → α → Int} (h : IsCmp c) (l : List α) (z : α) : z ∈ sortU c l ↔ z ∈ l := by
  rw [sortU, (sortU_aux h l [] List.Pairwise.nil).2 z]; simp

theorem sortU_eq {α : Type} {c : α → α → Int} (h : IsCmp c) {l m : List α} (h1 : Strict c m) (h2 : ∀ z, z ∈ m ↔ z ∈ l) : m = sortU c l :=
  Strict.unique h h1 (strict_sortU h l) fun z => by rw [h2, mem_sortU h]

theorem sortU_congr {α : Type} {c : α → α → Int} (h : IsCmp c) {l m : List α} (h2 : ∀ z, z ∈ m ↔ z ∈ l) : sortU c m = sortU c l :=
  sortU_eq h (strict_sortU h m) fun z => by rw [mem_sortU h, h2]

end Go.Gn
