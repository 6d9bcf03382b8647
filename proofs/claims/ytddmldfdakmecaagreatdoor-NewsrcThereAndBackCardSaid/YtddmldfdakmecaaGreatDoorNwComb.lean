/- Plain Lean, no program: combining two sets of ranges along their cuts. No condition. -/
import Derived.Test.YtddmldfdakmecaaGreatDoorNwPure
namespace Go.Nw

/-- What a combination keeps. -/
def kept (keep : Bool → Bool → Bool) (a b : List Rg) (n : Int) : Bool := (memB n a || memB n b) && keep (memB n a) (memB n b)

/-- The cuts: where a range begins, or where one is over. -/
def ends (l : List Rg) : List Int := l.flatMap fun r => [r.1, r.2 + 1]

theorem mem_ends {l : List Rg} {x : Int} : x ∈ ends l ↔ ∃ r ∈ l, x = r.1 ∨ x = r.2 + 1 := by
  unfold ends; simp [List.mem_flatMap]
theorem ends_append (l m : List Rg) : ends (l ++ m) = ends l ++ ends m := by unfold ends; rw [List.flatMap_append]
theorem ends_length (l : List Rg) : (ends l).length = 2 * l.length := by
  induction l with
  | nil => rfl
  | cons r l ih => rw [show ends (r :: l) = [r.1, r.2 + 1] ++ ends l from rfl, List.length_append, ih]; simp; omega

/-- Between two cuts nothing turns. -/
theorem memB_between {l : List Rg} {x n : Int} (hl : ∀ r ∈ l, r.1 ≤ r.2) (h1 : x ≤ n) (h : ∀ c ∈ ends l, c ≤ x ∨ n < c) : memB n l = memB x l := by
  rw [Bool.eq_iff_iff, memB_iff, memB_iff]
  constructor
  · rintro ⟨r, hr, a, b⟩
    have c1 := h r.1 (mem_ends.2 ⟨r, hr, .inl rfl⟩)
    have c2 := h (r.2 + 1) (mem_ends.2 ⟨r, hr, .inr rfl⟩)
    exact ⟨r, hr, by omega, by omega⟩
  · rintro ⟨r, hr, a, b⟩
    have c1 := h r.1 (mem_ends.2 ⟨r, hr, .inl rfl⟩)
    have c2 := h (r.2 + 1) (mem_ends.2 ⟨r, hr, .inr rfl⟩)
    exact ⟨r, hr, by omega, by omega⟩

theorem memB_low {l : List Rg} {n : Int} (h : ∀ c ∈ ends l, n < c) : memB n l = false := by
  rw [← Bool.not_eq_true, memB_iff]
  rintro ⟨r, hr, a, b⟩
  have := h r.1 (mem_ends.2 ⟨r, hr, .inl rfl⟩)
  omega
theorem memB_high {l : List Rg} {n : Int} (h : ∀ c ∈ ends l, c ≤ n) : memB n l = false := by
  rw [← Bool.not_eq_true, memB_iff]
  rintro ⟨r, hr, a, b⟩
  have := h (r.2 + 1) (mem_ends.2 ⟨r, hr, .inr rfl⟩)
  omega

/-- The state behind the first i pieces: cs are the cuts in increasing order. -/
def CombAt (F : Int → Bool) (cs : List Int) (i : Nat) (out : List Rg) : Prop :=
  Norm out ∧ (∀ q ∈ out, ∀ x, cs[i]? = some x → q.1 < x) ∧ (∀ n, memB n out = (F n && (match cs[i]? with | some x => decide (n < x) | none => true))) ∧ out.length ≤ i

theorem comb_start {keep : Bool → Bool → Bool} {a b : List Rg} {cs : List Int} (hs : cs.Pairwise (· < ·)) (hm : ∀ x, x ∈ cs ↔ x ∈ ends a ∨ x ∈ ends b) : CombAt (kept keep a b) cs 0 [] := by
  refine ⟨Norm.nil, by simp, fun n => ?_, Nat.le_refl _⟩
  rw [memB_nil]
  cases cs with
  | nil =>
    have h1 : memB n a = false := memB_low fun c hc => by have := (hm c).2 (.inl hc); simp at this
    have h2 : memB n b = false := memB_low fun c hc => by have := (hm c).2 (.inr hc); simp at this
    simp [kept, h1, h2]
  | cons x cs =>
    by_cases hn : n < x
    · have hx : ∀ c, c ∈ ends a ∨ c ∈ ends b → n < c := fun c hc => by
        rcases List.mem_cons.1 ((hm c).2 hc) with rfl | h
        · exact hn
        · have := (List.pairwise_cons.1 hs).1 c h; omega
      have h1 : memB n a = false := memB_low fun c hc => hx c (.inl hc)
      have h2 : memB n b = false := memB_low fun c hc => hx c (.inr hc)
      simp [kept, h1, h2]
    · simp [hn]

/-- One piece more. -/
theorem comb_step {keep : Bool → Bool → Bool} {a b : List Rg} {cs : List Int} {i : Nat} {x y : Int} {out : List Rg} (ha : ∀ r ∈ a, r.1 ≤ r.2) (hb : ∀ r ∈ b, r.1 ≤ r.2) (hs : cs.Pairwise (· < ·)) (hm : ∀ x, x ∈ cs ↔ x ∈ ends a ∨ x ∈ ends b)
    (hx : cs[i]? = some x) (hy : cs[i + 1]? = some y) (h : CombAt (kept keep a b) cs i out) :
    CombAt (kept keep a b) cs (i + 1) (if kept keep a b x then extend out (x, y - 1) else out) := by
  obtain ⟨h1, h2, h3, h4⟩ := h
  obtain ⟨hi, ex⟩ := List.getElem?_eq_some_iff.1 hx
  obtain ⟨hi', ey⟩ := List.getElem?_eq_some_iff.1 hy
  have hpw := List.pairwise_iff_getElem.1 hs
  have hxy : x < y := by rw [← ex, ← ey]; exact hpw i (i + 1) hi hi' (by omega)
  have hcut : ∀ c ∈ cs, c ≤ x ∨ y ≤ c := fun c hc => by
    obtain ⟨j, hj, rfl⟩ := List.getElem_of_mem hc
    rcases Nat.lt_trichotomy j i with hji | hji | hji
    · left; rw [← ex]; exact Int.le_of_lt (hpw j i hj hi hji)
    · subst hji; left; omega
    · right
      by_cases hj1 : j = i + 1
      · subst hj1; omega
      · rw [← ey]; exact Int.le_of_lt (hpw (i + 1) j hi' hj (by omega))
  have hF : ∀ n, x ≤ n → n < y → kept keep a b n = kept keep a b x := fun n hn1 hn2 => by
    unfold kept
    rw [memB_between ha hn1 fun c hc => by have := hcut c ((hm c).2 (.inl hc)); omega, memB_between hb hn1 fun c hc => by have := hcut c ((hm c).2 (.inr hc)); omega]
  rw [hx] at h3
  simp only [] at h3
  have hlow : ∀ q ∈ out, q.1 ≤ x := fun q hq => Int.le_of_lt (h2 q hq x hx)
  by_cases hk : kept keep a b x = true
  · rw [if_pos hk]
    obtain ⟨e1, e2, e3⟩ := extend_norm (r := (x, y - 1)) h1 (by simp only []; omega) hlow
    refine ⟨e1, fun q hq z hz => ?_, fun n => ?_, by have := extend_length out (x, y - 1); omega⟩
    · rw [hy] at hz; injection hz with hz; subst hz
      have := e3 q hq
      simp only [] at this
      omega
    · rw [e2, h3, hy, memB_one]
      simp only []
      by_cases n1 : n < x
      · have : n < y := by omega
        simp [n1, this]; intro; omega
      · by_cases n2 : n < y
        · rw [hF n (by omega) n2, hk]; simp [n1, n2]; omega
        · have e : ¬ n ≤ y - 1 := by omega
          simp [n1, n2, e]
  · rw [if_neg hk]
    refine ⟨h1, fun q hq z hz => ?_, fun n => ?_, by omega⟩
    · rw [hy] at hz; injection hz with hz; subst hz
      have := h2 q hq x hx; omega
    · rw [h3, hy]
      simp only []
      by_cases n1 : n < x
      · have : n < y := by omega
        simp [n1, this]
      · by_cases n2 : n < y
        · have := hF n (by omega) n2
          rw [this]; simp [hk]
        · simp [n1, n2]

/-- Behind the last piece. -/
theorem comb_end {keep : Bool → Bool → Bool} {a b : List Rg} {cs : List Int} {i : Nat} {out : List Rg} (hs : cs.Pairwise (· < ·)) (hm : ∀ x, x ∈ cs ↔ x ∈ ends a ∨ x ∈ ends b) (hi : cs.length ≤ i + 1)
    (h : CombAt (kept keep a b) cs i out) : Norm out ∧ ∀ n, memB n out = kept keep a b n := by
  obtain ⟨h1, h2, h3, _⟩ := h
  refine ⟨h1, fun n => ?_⟩
  rw [h3]
  cases hx : cs[i]? with
  | none => simp
  | some x =>
    simp only []
    by_cases hn : n < x
    · simp [hn]
    · obtain ⟨hi', ex⟩ := List.getElem?_eq_some_iff.1 hx
      have hpw := List.pairwise_iff_getElem.1 hs
      have hall : ∀ c ∈ cs, c ≤ n := fun c hc => by
        obtain ⟨j, hj, rfl⟩ := List.getElem_of_mem hc
        by_cases hji : j = i
        · subst hji; omega
        · have := hpw j i hj hi' (by omega); omega
      have a1 : memB n a = false := memB_high fun c hc => hall c ((hm c).2 (.inl hc))
      have a2 : memB n b = false := memB_high fun c hc => hall c ((hm c).2 (.inr hc))
      simp [kept, a1, a2, hn]

/-- The combination, as the one normal form. -/
theorem kept_unique {keep : Bool → Bool → Bool} {a b o p : List Rg} (h1 : Norm o) (h2 : ∀ n, memB n o = kept keep a b n) (h3 : Norm p) (h4 : ∀ n, memB n p = kept keep a b n) : o = p :=
  Norm.unique h1 h3 fun n => by rw [h2, h4]

end Go.Nw
