/- Plain Lean: the parent of a name; the last index of a dot. No condition. -/
import Derived.Test.YtddmldfdakmecaaGreatDoorGnSort
import Derived.Lib.LastIndexLaws
namespace Go.Gn
open Go.Lib

/-- All but the last component. -/
def parent (s : Str) : Str := text 46 (parts 46 s).dropLast

theorem text_append (sep : UInt8) (l : List Str) (q : Str) (qs : List Str) (hl : l ≠ []) : text sep (l ++ q :: qs) = text sep l ++ sep :: text sep (q :: qs) := by
  induction l with
  | nil => exact absurd rfl hl
  | cons p l ih =>
    cases l with
    | nil => rfl
    | cons p' l =>
      rw [List.cons_append, text_cons sep p (p' :: l ++ q :: qs) (by simp), ih (by simp), text_cons sep p (p' :: l) (by simp)]
      simp

theorem split_last (s : Str) (h : (parts 46 s).length ≠ 1) : ∃ last, s = parent s ++ 46 :: last ∧ (46 : UInt8) ∉ last := by
  have hne := parts_ne_nil 46 s
  have hlast := List.dropLast_concat_getLast hne
  refine ⟨(parts 46 s).getLast hne, ?_, mem_parts_not 46 s _ (List.getLast_mem hne)⟩
  have h2 : (parts 46 s).dropLast ≠ [] := by
    intro e
    rw [e] at hlast
    have := congrArg List.length hlast
    simp at this
    omega
  have h3 := text_append 46 (parts 46 s).dropLast ((parts 46 s).getLast hne) [] h2
  rw [show text 46 [(parts 46 s).getLast hne] = (parts 46 s).getLast hne from rfl, hlast, text_parts] at h3
  exact h3

theorem occAt_one (s : Str) (c : UInt8) (i : Nat) : occAt s [c] i = true ↔ s[i]? = some c := by
  unfold occAt
  rw [List.isPrefixOf_iff_prefix]
  constructor
  · rintro ⟨t, ht⟩
    have := congrArg (fun l => l[0]?) ht
    simp at this
    exact this.symm
  · intro h
    have hlt : i < s.length := (List.getElem?_eq_some_iff.1 h).1
    rw [List.drop_eq_getElem_cons hlt]
    have : s[i] = c := (List.getElem?_eq_some_iff.1 h).2
    rw [this]
    exact ⟨_, rfl⟩

theorem lastIndex_none (s : Str) (c : UInt8) (h : c ∉ s) : lastIndex s [c] = -1 := by
  unfold lastIndex
  split
  · rcases lastOcc_spec s [c] (s.length - [c].length + 1) with ⟨e, _⟩ | ⟨i, _, _, ho, _⟩
    · exact e
    · rw [occAt_one] at ho
      exact absurd (List.mem_of_getElem? ho) h
  · rfl

theorem lastIndex_of (p last : Str) (c : UInt8) (h : c ∉ last) : lastIndex (p ++ c :: last) [c] = p.length := by
  unfold lastIndex
  rw [if_pos (by simp; omega)]
  have hp : occAt (p ++ c :: last) [c] p.length = true := by rw [occAt_one]; simp
  rcases lastOcc_spec (p ++ c :: last) [c] ((p ++ c :: last).length - [c].length + 1) with ⟨_, hn⟩ | ⟨i, hi, e, ho, hn⟩
  · have := hn p.length (by simp; omega)
    rw [hp] at this; cases this
  · rw [e]
    rw [occAt_one] at ho
    by_cases hlt : i < p.length
    · have := hn p.length hlt (by simp; omega)
      rw [hp] at this; cases this
    · by_cases he : i = p.length
      · rw [he]
      · exfalso
        rw [List.getElem?_append_right (by omega)] at ho
        obtain ⟨j, hj⟩ : ∃ j, i - p.length = j + 1 := ⟨i - p.length - 1, by omega⟩
        rw [hj, List.getElem?_cons_succ] at ho
        exact h (List.mem_of_getElem? ho)

theorem lastIndex_dot (s : Str) : lastIndex s [46] = if (parts 46 s).length = 1 then -1 else ((parent s).length : Int) := by
  by_cases h : (parts 46 s).length = 1
  · rw [if_pos h]
    apply lastIndex_none
    obtain ⟨q, hq⟩ := List.length_eq_one_iff.1 h
    have h1 := text_parts 46 s
    rw [hq] at h1
    have h2 := mem_parts_not 46 s q (by rw [hq]; simp)
    rw [show text 46 [q] = q from rfl] at h1
    rwa [h1] at h2
  · rw [if_neg h]
    obtain ⟨last, e, hl⟩ := split_last s h
    have := lastIndex_of (parent s) last 46 hl
    rwa [← e] at this

theorem parent_take (s : Str) (h : (parts 46 s).length ≠ 1) : s.take (parent s).length = parent s := by
  obtain ⟨last, e, _⟩ := split_last s h
  have : s.take (parent s).length = (parent s ++ 46 :: last).take (parent s).length := by rw [← e]
  rw [this]; simp

end Go.Gn
