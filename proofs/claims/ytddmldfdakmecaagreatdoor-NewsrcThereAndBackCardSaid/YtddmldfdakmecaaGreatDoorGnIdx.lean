/- The library contract of slices.IndexFunc is brought to strings. -/
import Derived.Shelf.GgClosure.StringsIndexFunc
import Derived.Test.YtddmldfdakmecaaGreatDoorGnPure
namespace Go.Gn
open Go.Lib
theorem idxFrom_permitted (s : ByteArray) : ∀ (f pos : Nat), s.size ≤ pos + f →
    (Lib.idxFuncFrom (fun r => !permitted r) true s f pos = -1 ↔ ∀ i, pos ≤ i → i < s.size → permitted (s.get! i).toNat = true)
  | 0, pos, h => by
    simp only [Lib.idxFuncFrom, true_iff]; intro i h1 h2; omega
  | f + 1, pos, h => by
    unfold Lib.idxFuncFrom
    by_cases hp : pos < s.size
    · rw [if_pos hp]
      by_cases ha : (s.get! pos).toNat < 128
      · rw [decode_ascii s pos ha]
        by_cases hq : permitted (s.get! pos).toNat = true
        · simp only [hq, Bool.not_true, Bool.false_eq_true, if_false]
          rw [idxFrom_permitted s f (pos + 1) (by omega)]
          constructor
          · intro H i h1 h2
            by_cases e : i = pos
            · subst e; exact hq
            · exact H i (by omega) h2
          · intro H i h1 h2; exact H i (by omega) h2
        · have hq' : permitted (s.get! pos).toNat = false := by simpa using hq
          simp only [hq', Bool.not_false, if_true]
          constructor
          · intro H; omega
          · intro H; rw [H pos (Nat.le_refl _) hp] at hq'; cases hq'
      · have h1 := decode_nonascii s pos ha
        have h2 : permitted (Utf8.decode s pos).1 = false := by
          cases h3 : permitted (Utf8.decode s pos).1 with
          | false => rfl
          | true => have := permitted_ascii _ h3; omega
        simp only [h2, Bool.not_false, if_true]
        constructor
        · intro H; omega
        · intro H
          have := permitted_ascii _ (H pos (Nat.le_refl _) hp)
          omega
    · rw [if_neg hp]
      simp only [true_iff]; intro i h1 h2; omega

theorem get!_data (s : ByteArray) (i : Nat) (h : i < s.size) : s.get! i = s.data.toList[i]'(by simpa using h) := by
  have : s.get! i = s.data[i]! := rfl
  rw [this, getElem!_pos s.data i (by simpa using h)]
  simp

theorem idx_permitted (s : ByteArray) : decide (0 ≤ Lib.idxFunc (fun r => !permitted r) true s) = !(s.data.toList.all fun c => permitted c.toNat) := by
  have h := idxFrom_permitted s s.size 0 (by omega)
  have hr := Lib.idxFunc_range (fun r => !permitted r) true s
  rw [show Lib.idxFuncFrom (fun r => !permitted r) true s s.size 0 = Lib.idxFunc (fun r => !permitted r) true s from rfl] at h
  rw [Bool.eq_iff_iff]
  simp only [decide_eq_true_eq, Bool.not_eq_true']
  rw [← Bool.not_eq_true, List.all_eq_true]
  constructor
  · intro h0 H
    have : Lib.idxFunc (fun r => !permitted r) true s = -1 := h.2 fun i _ h2 => by
      rw [get!_data s i h2]; exact H _ (List.getElem_mem _)
    omega
  · intro H
    rcases hr with e | ⟨e, _⟩
    · exfalso; apply H
      intro c hc
      obtain ⟨i, hi, rfl⟩ := List.getElem_of_mem hc
      have h2 : i < s.size := by simpa using hi
      have := h.1 e i (Nat.zero_le _) h2
      rwa [get!_data s i h2] at this
    · exact e


end Go.Gn
