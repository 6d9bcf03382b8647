/- Small laws on strings, lists of strings and results, that the walks share. No condition. -/
import Derived.Test.YtddmldfdakmecaaGreatDoorGnWalkD
import Derived.Test.YtddmldfdakmecaaGreatDoorGnMore
import Derived.Test.YtddmldfdakmecaaGreatDoorGnList
import Derived.Test.YtddmldfdakmecaaGreatDoorGnRefPure
namespace Go.Proofs.YtddmldfdakmecaaGreatDoor
open Go.RowKit Go.Gn

abbrev mkS (l : Str) : ByteArray := ⟨l.toArray⟩

theorem size_mkS (l : Str) : (mkS l).size = l.length := by simp [mkS, ByteArray.size]
theorem bs_mk (l : Str) : bs (mkS l) = l := rfl
theorem mk_bs (s : ByteArray) : mkS (bs s) = s := by
  cases s; rfl

theorem ret_si {a b : ByteArray} {k : IntKind} {m n : Int} (h : a = b) (h2 : m = n) : Ending.returned (.tuple #[.string a, .int k m]) = Ending.returned (.tuple #[.string b, .int k n]) := by rw [h, h2]

theorem SS.take {w : World} {a : Option Addr} {zs : List ByteArray} (h : SS w a zs) (k : Nat) : SS w a (zs.take k) := by
  rcases h with rfl | ⟨b, off, ha, hb, hc⟩
  · exact .inl (by simp)
  · refine .inr ⟨b, off, ha, hb, fun j x hx => hc j x ?_⟩
    rw [List.getElem?_take] at hx
    split at hx
    · exact hx
    · cases hx

theorem drop_at {L : List Str} {k : Nat} {s : Str} (h : L[k]? = some s) : L.drop k = s :: L.drop (k + 1) := by
  obtain ⟨hk, e⟩ := List.getElem?_eq_some_iff.1 h
  rw [List.drop_eq_getElem_cons hk, e]
theorem take_at {L : List Str} {k : Nat} {s : Str} (h : L[k]? = some s) : L.take (k + 1) = L.take k ++ [s] := by
  obtain ⟨hk, e⟩ := List.getElem?_eq_some_iff.1 h
  rw [List.take_succ_eq_append_getElem hk, e]

theorem mem_parts_le (c : UInt8) (s : Str) : ∀ p ∈ parts c s, p.length ≤ s.length := by
  induction s with
  | nil => intro p hp; simp [parts] at hp; simp [hp]
  | cons x xs ih =>
    intro p hp
    by_cases h : x = c
    · subst h; rw [parts_cons_eq] at hp
      rcases List.mem_cons.1 hp with rfl | hp
      · simp
      · have := ih p hp; simp; omega
    · obtain ⟨q, qs, h1, h2⟩ := parts_cons_ne c x xs h
      rw [h2] at hp
      rcases List.mem_cons.1 hp with rfl | hp
      · have := ih q (by rw [h1]; simp); simp; omega
      · have := ih p (by rw [h1]; simp [hp]); simp; omega


end Go.Proofs.YtddmldfdakmecaaGreatDoor
