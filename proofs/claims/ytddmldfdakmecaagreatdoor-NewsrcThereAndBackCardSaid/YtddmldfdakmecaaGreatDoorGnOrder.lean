/- Plain Lean: the order of names is a total order; hierarchies by parts. No condition. -/
import Derived.Test.YtddmldfdakmecaaGreatDoorGnPure
import Derived.Lib.Bytealg
namespace Go.Gn
open Go.Lib

/-! ### A three-way comparison of lists out of one of elements -/
def cmpL {α : Type} (c : α → α → Int) : List α → List α → Int
  | [], [] => 0
  | [], _ :: _ => -1
  | _ :: _, [] => 1
  | a :: as, b :: bs => if c a b = 0 then cmpL c as bs else c a b

/-- What a comparison is: values -1, 0, 1; 0 for equals alone; the other way round it turns its sign; transitive. -/
structure IsCmp {α : Type} (c : α → α → Int) : Prop where
  rng : ∀ a b, c a b = -1 ∨ c a b = 0 ∨ c a b = 1
  eq : ∀ a b, c a b = 0 ↔ a = b
  neg : ∀ a b, c b a = - c a b
  trans : ∀ a b d, c a b < 0 → c b d < 0 → c a d < 0

theorem IsCmp.refl {α : Type} {c : α → α → Int} (h : IsCmp c) (a : α) : c a a = 0 := (h.eq a a).2 rfl

theorem IsCmp.transLe {α : Type} {c : α → α → Int} (h : IsCmp c) {a b d : α} (h1 : c a b ≤ 0) (h2 : c b d ≤ 0) : c a d ≤ 0 := by
  by_cases e1 : c a b = 0
  · rw [(h.eq a b).1 e1]; exact h2
  by_cases e2 : c b d = 0
  · rw [← (h.eq b d).1 e2]; exact h1
  · have := h.trans a b d (by omega) (by omega); omega

theorem IsCmp.list {α : Type} {c : α → α → Int} (h : IsCmp c) : IsCmp (cmpL c) where
  rng := by
    intro a
    induction a with
    | nil => intro b; cases b <;> simp [cmpL]
    | cons x a ih =>
      intro b
      cases b with
      | nil => simp [cmpL]
      | cons y b => unfold cmpL; split; exact ih b; exact h.rng x y
  eq := by
    intro a
    induction a with
    | nil => intro b; cases b <;> simp [cmpL]
    | cons x a ih =>
      intro b
      cases b with
      | nil => simp [cmpL]
      | cons y b =>
        unfold cmpL
        split
        · rename_i e; rw [ih b, (h.eq x y).1 e]; simp
        · rename_i e
          constructor
          · intro e'; exact absurd e' e
          · intro e'; injection e' with e1 _; exact absurd ((h.eq x y).2 e1) e
  neg := by
    intro a
    induction a with
    | nil => intro b; cases b <;> simp [cmpL]
    | cons x a ih =>
      intro b
      cases b with
      | nil => simp [cmpL]
      | cons y b =>
        unfold cmpL
        have hn := h.neg x y
        by_cases e : c x y = 0
        · rw [if_pos e, if_pos (by omega)]; exact ih b
        · rw [if_neg e, if_neg (by omega)]; exact hn
  trans := by
    intro a
    induction a with
    | nil =>
      intro b d h1 h2
      cases b with
      | nil => simp [cmpL] at h1
      | cons y b =>
        cases d with
        | nil => simp [cmpL] at h2
        | cons z d => simp [cmpL]
    | cons x a ih =>
      intro b d h1 h2
      cases b with
      | nil => simp [cmpL] at h1
      | cons y b =>
        cases d with
        | nil => simp [cmpL] at h2
        | cons z d =>
          unfold cmpL at h1 h2 ⊢
          by_cases e1 : c x y = 0
          · rw [if_pos e1] at h1
            obtain rfl := (h.eq x y).1 e1
            by_cases e2 : c x z = 0
            · rw [if_pos e2] at h2 ⊢; exact ih b d h1 h2
            · rw [if_neg e2] at h2 ⊢; exact h2
          · rw [if_neg e1] at h1
            by_cases e2 : c y z = 0
            · obtain rfl := (h.eq y z).1 e2
              rw [if_neg e1]; exact h1
            · rw [if_neg e2] at h2
              have := h.trans x y z h1 h2
              rw [if_neg (by omega)]; exact this

/-- Bytes compared. -/
def cmpB (a b : UInt8) : Int := if a < b then -1 else if b < a then 1 else 0

theorem cmpB_is : IsCmp cmpB where
  rng := by intro a b; unfold cmpB; split <;> (try split) <;> simp
  eq := by
    intro a b; unfold cmpB
    simp only [UInt8.lt_iff_toNat_lt]
    have : a = b ↔ a.toNat = b.toNat := UInt8.toNat_inj.symm
    rw [this]
    split
    · simp; omega
    · split
      · simp; omega
      · simp; omega
  neg := by
    intro a b; unfold cmpB
    simp only [UInt8.lt_iff_toNat_lt]
    repeat' split
    all_goals omega
  trans := by
    intro a b d; unfold cmpB
    simp only [UInt8.lt_iff_toNat_lt]
    repeat' split
    all_goals omega

/-- Strings compared. -/
def cmpS : Str → Str → Int := cmpL cmpB
theorem cmpS_is : IsCmp cmpS := cmpB_is.list

theorem compareBytes_cmpS : ∀ a b : Str, compareBytes a b = cmpS a b
  | [], [] => rfl
  | [], _ :: _ => rfl
  | _ :: _, [] => rfl
  | a :: as, b :: bs => by
    have ih := compareBytes_cmpS as bs
    unfold compareBytes cmpS cmpL
    rw [ih]
    by_cases h1 : a < b
    · simp [cmpB, h1]
    · by_cases h2 : b < a
      · simp [cmpB, h1, h2]
      · have e : cmpB a b = 0 := by simp [cmpB, h1, h2]
        rw [if_neg h1, if_neg h2, if_pos e]; rfl

/-- Names compared, component by component. -/
def cmp (a b : Str) : Int := cmpL cmpS (parts 46 a) (parts 46 b)

theorem parts_inj (sep : UInt8) {a b : Str} (h : parts sep a = parts sep b) : a = b := by
  rw [← text_parts sep a, h, text_parts]

theorem cmp_is : IsCmp cmp where
  rng a b := cmpS_is.list.rng _ _
  eq a b := by
    unfold cmp
    rw [cmpS_is.list.eq]
    exact ⟨parts_inj 46, fun h => by rw [h]⟩
  neg a b := cmpS_is.list.neg _ _
  trans a b d := cmpS_is.list.trans _ _ _

/-! ### Hierarchies -/
/-- h is a name's hierarchy: its components come first. -/
def below (name h : Str) : Bool := (parts 46 h).isPrefixOf (parts 46 name)

theorem prefix_text (s h : Str) : ((h ++ [46]).isPrefixOf s = true ∨ s = h) ↔ parts 46 h <+: parts 46 s := by
  constructor
  · rintro (e | rfl)
    · obtain ⟨t, rfl⟩ := List.isPrefixOf_iff_prefix.1 e
      rw [List.append_assoc, List.singleton_append, parts_append_sep]
      exact List.prefix_append _ _
    · exact List.prefix_refl _
  · rintro ⟨t, ht⟩
    have hs := text_parts 46 s
    rw [← ht] at hs
    cases t with
    | nil => right; rw [← hs, List.append_nil, text_parts]
    | cons q qs =>
      left
      rw [List.isPrefixOf_iff_prefix]
      have : ∀ (l : List Str), l ≠ [] → text 46 (l ++ q :: qs) = text 46 l ++ 46 :: text 46 (q :: qs) := by
        intro l hl
        induction l with
        | nil => exact absurd rfl hl
        | cons p l ih =>
          cases l with
          | nil => rfl
          | cons p' l =>
            rw [List.cons_append, text_cons 46 p (p' :: l ++ q :: qs) (by simp), ih (by simp), text_cons 46 p (p' :: l) (by simp)]
            simp
      rw [this _ (parts_ne_nil _ _), text_parts] at hs
      exact ⟨text 46 (q :: qs), by rw [← hs]; simp⟩

end Go.Gn
