/- Plain Lean, no program: parts, text, component, check of a group name. No condition. -/
import Derived.Lib.SplitLaws
import Derived.Lib.Join
import Derived.Lib.DecodeN
import Derived.Lib.RuneCount
namespace Go.Gn
open Go.Lib

/-- A string as its bytes. -/
abbrev Str := List UInt8

/-- The parts into which a byte divides a string. -/
def parts (sep : UInt8) : Str → List Str
  | [] => [[]]
  | c :: cs => if c = sep then [] :: parts sep cs else
    match parts sep cs with
    | [] => [[c]]
    | p :: ps => (c :: p) :: ps

theorem parts_ne_nil (sep : UInt8) (s : Str) : parts sep s ≠ [] := by
  cases s with
  | nil => simp [parts]
  | cons c cs => unfold parts; split <;> (try split) <;> simp

theorem parts_cons_eq (sep : UInt8) (s : Str) : parts sep (sep :: s) = [] :: parts sep s := by simp [parts]

theorem parts_cons_ne (sep c : UInt8) (s : Str) (h : c ≠ sep) : ∃ p ps, parts sep s = p :: ps ∧ parts sep (c :: s) = (c :: p) :: ps := by
  cases hp : parts sep s with
  | nil => exact absurd hp (parts_ne_nil sep s)
  | cons p ps => exact ⟨p, ps, rfl, by simp [parts, h, hp]⟩

/-- Joining with a separator. -/
def text (sep : UInt8) : List Str → Str
  | [] => []
  | [p] => p
  | p :: q :: ps => p ++ sep :: text sep (q :: ps)

theorem text_cons (sep : UInt8) (p : Str) (ps : List Str) (h : ps ≠ []) : text sep (p :: ps) = p ++ sep :: text sep ps := by
  cases ps with
  | nil => exact absurd rfl h
  | cons q qs => rfl

theorem text_parts (sep : UInt8) : ∀ s : Str, text sep (parts sep s) = s
  | [] => rfl
  | c :: cs => by
    have ih := text_parts sep cs
    by_cases h : c = sep
    · subst h; rw [parts_cons_eq, text_cons _ _ _ (parts_ne_nil _ _), ih]; rfl
    · obtain ⟨p, ps, h1, h2⟩ := parts_cons_ne sep c cs h
      rw [h2]
      rw [h1] at ih
      cases ps with
      | nil => simp only [text] at ih ⊢; rw [ih]
      | cons q qs => rw [text_cons _ _ _ (by simp)] at ih ⊢; rw [← ih]; rfl

theorem mem_parts_not (sep : UInt8) : ∀ (s : Str) (p : Str), p ∈ parts sep s → sep ∉ p
  | [], p, h => by simp [parts] at h; subst h; simp
  | c :: cs, p, h => by
    by_cases e : c = sep
    · subst e; rw [parts_cons_eq] at h
      rcases List.mem_cons.1 h with rfl | h
      · simp
      · exact mem_parts_not _ cs p h
    · obtain ⟨q, qs, h1, h2⟩ := parts_cons_ne sep c cs e
      rw [h2] at h
      rcases List.mem_cons.1 h with rfl | h
      · have := mem_parts_not sep cs q (by rw [h1]; simp)
        simp [this, Ne.symm e]
      · exact mem_parts_not sep cs p (by rw [h1]; simp [h])

theorem parts_append_sep (sep : UInt8) : ∀ (a b : Str), parts sep (a ++ sep :: b) = parts sep a ++ parts sep b
  | [], b => by simp [parts_cons_eq, parts]
  | c :: a, b => by
    by_cases h : c = sep
    · subst h; rw [List.cons_append, parts_cons_eq, parts_cons_eq, parts_append_sep]; rfl
    · obtain ⟨p, ps, h1, h2⟩ := parts_cons_ne sep c a h
      have ih := parts_append_sep sep a b
      rw [h1] at ih
      rw [List.cons_append, h2]
      simp [parts, h, ih]

theorem parts_free (sep : UInt8) : ∀ (a : Str), sep ∉ a → parts sep a = [a]
  | [], _ => rfl
  | c :: a, h => by
    have h' : c ≠ sep := fun e => h (by simp [e])
    have ih := parts_free sep a (fun e => h (by simp [e]))
    simp [parts, h', ih]

theorem parts_text (sep : UInt8) : ∀ (l : List Str), l ≠ [] → (∀ p ∈ l, sep ∉ p) → parts sep (text sep l) = l
  | [], h, _ => absurd rfl h
  | [p], _, h => parts_free sep p (h p (by simp))
  | p :: q :: ps, _, h => by
    rw [text_cons _ _ _ (by simp), parts_append_sep, parts_free sep p (h p (by simp)), parts_text sep (q :: ps) (by simp) (fun x hx => h x (by simp [hx]))]
    rfl

/-- The parts are what the shelf's splitting gives. -/
theorem splitK_parts (sep : UInt8) : ∀ (k : Nat) (s : Str), s.count sep = k → splitK [sep] 0 k s = parts sep s := by
  intro k
  induction k with
  | zero =>
    intro s h
    rw [parts_free sep s (by simp [← List.count_eq_zero, h])]; rfl
  | succ k ih =>
    intro s h
    -- split s at the first sep
    have hm : sep ∈ s := by
      rw [← List.count_pos_iff]; omega
    obtain ⟨a, b, rfl, ha⟩ := List.eq_append_cons_of_mem hm
    have hidx : ∀ a : Str, sep ∉ a → index (a ++ sep :: b) [sep] = a.length := by
      intro a ha
      induction a with
      | nil => simp [index, List.isPrefixOf]
      | cons c a ih =>
        have h1 : sep ≠ c := fun e => ha (by simp [e])
        have h2 := ih (fun e => ha (by simp [e]))
        rw [List.cons_append, index]
        rw [h2]
        have : ([sep] : Str).isPrefixOf (c :: (a ++ sep :: b)) = false := by simp [List.isPrefixOf, h1]
        rw [this]
        simp
        try omega
    have hi := hidx a ha
    unfold splitK
    rw [hi]
    have hne : ((a.length : Int) == -1) = false := by
      have : (a.length : Int) ≠ -1 := by omega
      simp
    rw [hne]
    have hc : b.count sep = k := by
      have h0 : a.count sep = 0 := List.count_eq_zero.2 ha
      simp [List.count_append, h0] at h
      omega
    simp only [Bool.false_eq_true, if_false, Nat.add_zero, Int.toNat_natCast]
    rw [parts_append_sep, parts_free sep a ha]
    have e1 : (a ++ sep :: b).take a.length = a := by simp
    have e2 : (a ++ sep :: b).drop (a.length + [sep].length) = b := by
      rw [List.drop_append]; simp
    rw [e1, e2, ih b hc]
    rfl

theorem split_parts (sep : UInt8) (s : Str) : split s [sep] = parts sep s := by
  unfold split
  rw [count_one]
  exact splitK_parts sep _ s rfl

theorem text_join (sep : UInt8) : ∀ l : List Str, join l [sep] = text sep l
  | [] => rfl
  | [p] => by rw [join_one]; rfl
  | p :: q :: ps => by
    rw [text_cons _ _ _ (by simp), ← text_join sep (q :: ps)]
    simp [join, List.intercalate, List.intersperse]


/-- Whether a byte may occur in a component. -/
def permitted (c : Nat) : Bool := (decide (97 ≤ c) && decide (c ≤ 122)) || (decide (48 ≤ c) && decide (c ≤ 57)) || decide (c = 45) || decide (c = 43) || decide (c = 95)

theorem permitted_ascii (c : Nat) (h : permitted c = true) : c < 128 := by
  simp [permitted] at h; omega

theorem decode_ascii (s : ByteArray) (i : Nat) (h : (s.get! i).toNat < 128) : Utf8.decode s i = ((s.get! i).toNat, 1) := by
  simp [Utf8.decode, h]

theorem decode_nonascii (s : ByteArray) (i : Nat) (h : ¬ (s.get! i).toNat < 128) : 128 ≤ (Utf8.decode s i).1 := by
  simp only [Utf8.decode, Nat.add_zero, h, if_false, Utf8.runeError]
  repeat' split
  all_goals (try simp only []) <;> (try simp only [ge_iff_le, Bool.and_eq_true, decide_eq_true_eq] at *) <;> omega

/-- Whether a string is a component. -/
def component (s : Str) : Bool :=
  match s with
  | [] => false
  | c :: _ => decide (s.length ≤ 20) && decide (97 ≤ c.toNat) && decide (c.toNat ≤ 122) && s.all fun c => permitted c.toNat

/-- The error of a name. -/
def check (s : Str) : Nat := if 80 < s.length then 5 else if (parts 46 s).all component then (if 10 < (parts 46 s).length then 9 else 0) else 12

theorem component_free (s : Str) (h : component s = true) : (46 : UInt8) ∉ s := by
  cases s with
  | nil => simp
  | cons c cs =>
    simp only [component, Bool.and_eq_true, List.all_eq_true] at h
    intro hm
    have := h.2 46 hm
    simp [permitted] at this

theorem check_zero (s : Str) : check s = 0 ↔ s.length ≤ 80 ∧ (∀ p ∈ parts 46 s, component p = true) ∧ (parts 46 s).length ≤ 10 := by
  unfold check
  by_cases h1 : 80 < s.length
  · simp [h1]; try omega
  · by_cases h2 : (parts 46 s).all component = true
    · by_cases h3 : 10 < (parts 46 s).length
      · simp [h1, h2, h3]; try omega
      · simp only [h1, h2, h3, if_false, if_true, true_iff]
        exact ⟨by omega, List.all_eq_true.1 h2, by omega⟩
    · simp only [h1, h2, if_false]
      constructor
      · intro h; simp at h
      · rintro ⟨_, h, _⟩; exact absurd (List.all_eq_true.2 h) h2

end Go.Gn
