/- Plain Lean: a sorted list without repetitions is the sorted set. -/
import Derived.Test.YtddmldfdakmecaaGreatDoorGnSort
import Derived.Lib.SlicesCompact
namespace Go.Gn
open Go.Lib

theorem compact_sorted {α : Type} [Inhabited α] [DecidableEq α] {c : α → α → Int} (h : IsCmp c) (L : List α) (hs : L.Pairwise fun x y => c x y ≤ 0) : Strict c (compact L) ∧ ∀ x, x ∈ compact L ↔ x ∈ L := by
  have key : ∀ m, m ≤ L.length → Strict c (compactUpTo L.toArray m) ∧ ∀ x, x ∈ compactUpTo L.toArray m ↔ x ∈ L.take m := by
    intro m
    induction m with
    | zero => intro _; exact ⟨List.Pairwise.nil, by intro x; simp [compactUpTo]⟩
    | succ m ih =>
      intro hm
      obtain ⟨ih1, ih2⟩ := ih (by omega)
      have hlt : m < L.length := by omega
      have hdm : L.toArray[m]! = L[m] := by rw [getElem!_pos _ m (by simpa using hlt)]; simp
      have htake : L.take (m + 1) = L.take m ++ [L[m]] := List.take_succ_eq_append_getElem hlt
      have hpw := List.pairwise_iff_getElem.1 hs
      rw [compactUpTo_succ, hdm, htake]
      by_cases hk : keeps L.toArray m = true
      · rw [if_pos hk]
        refine ⟨List.pairwise_append.2 ⟨ih1, List.pairwise_singleton _ _, fun a ha b hb => ?_⟩, fun x => by rw [List.mem_append, List.mem_append, ih2]⟩
        obtain rfl := List.mem_singleton.1 hb
        rw [ih2] at ha
        obtain ⟨i, hi, rfl⟩ := List.getElem_of_mem ha
        rw [List.length_take] at hi
        rw [List.getElem_take]
        have h1 := hpw i m (by omega) hlt (by omega)
        by_cases e : c L[i] L[m] = 0
        · exfalso
          have e1 := (h.eq _ _).1 e
          have hm0 : 0 < m := by omega
          have h2 := hpw (m - 1) m (by omega) hlt (by omega)
          have h3 : c L[i] L[m - 1] ≤ 0 := by
            by_cases e2 : i = m - 1
            · subst e2; rw [h.refl]; exact Int.le_refl _
            · exact hpw i (m - 1) (by omega) (by omega) (by omega)
          rw [e1] at h3
          have h4 := h.neg L[m - 1] L[m]
          have h5 : c L[m - 1] L[m] = 0 := by omega
          have h6 := (h.eq _ _).1 h5
          simp only [keeps, decide_eq_true_eq] at hk
          rcases hk with hk | hk
          · omega
          · apply hk
            rw [hdm, getElem!_pos _ (m - 1) (by simp; omega)]
            simp [h6]
        · omega
      · rw [if_neg hk, List.append_nil]
        refine ⟨ih1, fun x => ?_⟩
        rw [ih2, List.mem_append, List.mem_singleton]
        constructor
        · exact .inl
        · rintro (h1 | rfl)
          · exact h1
          · simp only [keeps, decide_eq_true_eq] at hk
            have hm0 : m ≠ 0 := fun e => hk (.inl e)
            have h2 : L.toArray[m]! = L.toArray[m - 1]! := by
              by_cases e : L.toArray[m]! = L.toArray[m - 1]!
              · exact e
              · exact absurd (.inr e) hk
            rw [hdm, getElem!_pos _ (m - 1) (by simp; omega)] at h2
            simp only [List.getElem_toArray] at h2
            rw [h2]
            rw [List.mem_take_iff_getElem]
            exact ⟨m - 1, by omega, rfl⟩
  have := key L.length (Nat.le_refl _)
  rwa [List.take_length] at this

end Go.Gn
