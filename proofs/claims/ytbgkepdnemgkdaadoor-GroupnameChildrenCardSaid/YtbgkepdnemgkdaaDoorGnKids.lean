/- Plain Lean: the next component of a name, as the program and as the reference reckon it. No condition. -/
import Derived.Test.YtbgkepdnemgkdaaDoorGnWalkR
namespace Go.Proofs.YtbgkepdnemgkdaaDoor
open Go.RowKit Go.Gn

theorem index_free {rest : Str} (h : (46 : UInt8) ∉ rest) : Lib.index rest [46] = -1 := by
  induction rest with
  | nil => rfl
  | cons c rest ih =>
    have h1 : (46 : UInt8) ≠ c := fun e => h (by simp [e])
    have h2 := ih (fun e => h (by simp [e]))
    rw [Lib.index, h2]
    simp [List.isPrefixOf, h1]

theorem index_at {p rest : Str} (h : (46 : UInt8) ∉ p) : Lib.index (p ++ 46 :: rest) [46] = p.length := by
  induction p with
  | nil => simp [Lib.index, List.isPrefixOf]
  | cons c p ih =>
    have h1 : (46 : UInt8) ≠ c := fun e => h (by simp [e])
    have h2 := ih (fun e => h (by simp [e]))
    rw [List.cons_append, Lib.index, h2]
    simp [List.isPrefixOf, h1]
    try omega

/-- What strings.Cut gives first is the first part. -/
theorem cut_head (s : Str) : (parts 46 s).head? = some (Lib.cut s [46]).1 := by
  unfold Lib.cut
  by_cases h : (46 : UInt8) ∈ s
  · obtain ⟨a, b, rfl, ha⟩ := List.eq_append_cons_of_mem h
    rw [index_at ha, if_pos (by omega), parts_append_sep, parts_free 46 a ha]
    simp
  · rw [index_free h, if_neg (by decide), parts_free 46 s h]; rfl

/-- The next component, as the reference reckons it. -/
def rkid (h s : Str) : Option Str := (parts 46 s)[if h = [] then 0 else (parts 46 h).length]?.filter fun _ => h = [] || below s h

theorem rkid_eq (h s : Str) : kid (preOf h) s = rkid h s := by
  unfold kid rkid preOf
  by_cases h0 : h = []
  · subst h0
    have e1 : Lib.hasPrefix s [] = true := by simp [Lib.hasPrefix]
    have e2 : Lib.trimPrefix s [] = s := by simp [Lib.trimPrefix]
    rw [if_pos rfl, if_pos e1, e2, if_pos rfl]
    have := cut_head s
    rw [List.head?_eq_getElem?] at this
    rw [this]; rfl
  · rw [if_neg h0, if_neg h0]
    by_cases hp : Lib.hasPrefix s (h ++ [46]) = true
    · rw [if_pos hp]
      have hp' : (h ++ [46]).isPrefixOf s = true := hp
      obtain ⟨t, rfl⟩ := List.isPrefixOf_iff_prefix.1 hp'
      have e2 : Lib.trimPrefix (h ++ [46] ++ t) (h ++ [46]) = t := by
        unfold Lib.trimPrefix
        rw [if_pos hp, List.drop_left]
      have hb : below (h ++ [46] ++ t) h = true := by
        unfold below
        rw [List.isPrefixOf_iff_prefix, ← prefix_text]
        exact .inl hp'
      have hc := cut_head t
      rw [List.head?_eq_getElem?] at hc
      have e3 : (parts 46 (h ++ [46] ++ t))[(parts 46 h).length]? = (parts 46 t)[0]? := by
        rw [List.append_assoc, List.singleton_append, parts_append_sep, List.getElem?_append_right (Nat.le_refl _), Nat.sub_self]
      rw [e2, e3, hc, hb]; simp [Option.filter]
    · rw [if_neg hp]
      cases hx : (parts 46 s)[(parts 46 h).length]? with
      | none => rfl
      | some x =>
        by_cases hb : below s h = true
        · exfalso
          unfold below at hb
          rw [List.isPrefixOf_iff_prefix, ← prefix_text] at hb
          rcases hb with hb | hb
          · exact hp hb
          · subst hb
            rw [List.getElem?_eq_none (Nat.le_refl _)] at hx
            cases hx
        · simp [h0, hb]

theorem cmp_free {a b : Str} (ha : (46 : UInt8) ∉ a) (hb : (46 : UInt8) ∉ b) : cmp a b = cmpS a b := by
  unfold cmp
  rw [parts_free 46 a ha, parts_free 46 b hb, cmpL]
  split
  · rename_i e; rw [e]; rfl
  · rfl

theorem ins_free {s : Str} (hs : (46 : UInt8) ∉ s) : ∀ (l : List Str), (∀ x ∈ l, (46 : UInt8) ∉ x) → ins cmp l s = ins cmpS l s
  | [], _ => rfl
  | x :: l, h => by
    rw [ins, ins, cmp_free (h x (by simp)) hs, ins_free hs l fun y hy => h y (by simp [hy])]

theorem sortU_free (K : List Str) (h : ∀ x ∈ K, (46 : UInt8) ∉ x) : sortU cmp K = sortU cmpS K := by
  have : ∀ (K acc : List Str), (∀ x ∈ K, (46 : UInt8) ∉ x) → (∀ x ∈ acc, (46 : UInt8) ∉ x) → K.foldl (ins cmp) acc = K.foldl (ins cmpS) acc := by
    intro K
    induction K with
    | nil => intro acc _ _; rfl
    | cons x K ih =>
      intro acc h1 h2
      rw [List.foldl_cons, List.foldl_cons, ins_free (h1 x (by simp)) acc h2]
      refine ih _ (fun y hy => h1 y (by simp [hy])) fun y hy => ?_
      rcases (mem_ins cmpS_is x acc y).1 hy with rfl | hy
      · exact h1 y (by simp)
      · exact h2 y hy
  exact this K [] h (by simp)

end Go.Proofs.YtbgkepdnemgkdaaDoor
