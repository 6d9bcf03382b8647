/- Plain Lean, no program: sets of whole numbers as lists of ranges. No condition. -/
import Derived.WalkKit
namespace Go.Nw

/-- A range: its first and its last number. -/
abbrev Rg := Int × Int

/-- Is a number in a range of the list? -/
def memB (n : Int) (l : List Rg) : Bool := l.any fun r => decide (r.1 ≤ n) && decide (n ≤ r.2)

theorem memB_iff {n : Int} {l : List Rg} : memB n l = true ↔ ∃ r ∈ l, r.1 ≤ n ∧ n ≤ r.2 := by
  unfold memB; rw [List.any_eq_true]; simp
theorem memB_append (n : Int) (l m : List Rg) : memB n (l ++ m) = (memB n l || memB n m) := by unfold memB; exact List.any_append
theorem memB_nil (n : Int) : memB n [] = false := rfl
theorem memB_one (n : Int) (r : Rg) : memB n [r] = (decide (r.1 ≤ n) && decide (n ≤ r.2)) := by unfold memB; simp
theorem memB_cons (n : Int) (r : Rg) (l : List Rg) : memB n (r :: l) = ((decide (r.1 ≤ n) && decide (n ≤ r.2)) || memB n l) := rfl
theorem memB_perm {l m : List Rg} (h : l.Perm m) (n : Int) : memB n l = memB n m := by
  rw [Bool.eq_iff_iff, memB_iff, memB_iff]
  exact ⟨fun ⟨r, h1, h2⟩ => ⟨r, h.mem_iff.1 h1, h2⟩, fun ⟨r, h1, h2⟩ => ⟨r, h.mem_iff.2 h1, h2⟩⟩

/-- The normal form: no empty range; between two of them a number is missing. -/
def Norm (l : List Rg) : Prop := (∀ r ∈ l, r.1 ≤ r.2) ∧ l.Pairwise fun r s => r.2 + 1 < s.1

theorem Norm.nil : Norm [] := ⟨by simp, List.Pairwise.nil⟩
theorem Norm.tail {r : Rg} {l : List Rg} (h : Norm (r :: l)) : Norm l := ⟨fun s hs => h.1 s (by simp [hs]), (List.pairwise_cons.1 h.2).2⟩
theorem Norm.head {r : Rg} {l : List Rg} (h : Norm (r :: l)) : r.1 ≤ r.2 ∧ ∀ s ∈ l, r.2 + 1 < s.1 ∧ s.1 ≤ s.2 :=
  ⟨h.1 r (by simp), fun s hs => ⟨(List.pairwise_cons.1 h.2).1 s hs, h.1 s (by simp [hs])⟩⟩
theorem Norm.one {r : Rg} (h : r.1 ≤ r.2) : Norm [r] := ⟨by simpa using h, List.pairwise_singleton _ _⟩

/-- A set has one normal form. -/
theorem Norm.unique : ∀ {l m : List Rg}, Norm l → Norm m → (∀ n, memB n l = memB n m) → l = m
  | [], [], _, _, _ => rfl
  | [], s :: m, _, hm, h => by
    have h1 := h s.1
    rw [memB_nil, memB_cons] at h1
    have := hm.head.1
    simp [this] at h1
  | r :: l, [], hl, _, h => by
    have h1 := h r.1
    rw [memB_nil, memB_cons] at h1
    have := hl.head.1
    simp [this] at h1
  | r :: l, s :: m, hl, hm, h => by
    obtain ⟨a1, a2⟩ := hl.head
    obtain ⟨b1, b2⟩ := hm.head
    have key : ∀ {r s : Rg} {l m : List Rg}, r.1 ≤ r.2 → s.1 ≤ s.2 → (∀ q ∈ l, r.2 + 1 < q.1 ∧ q.1 ≤ q.2) → (∀ q ∈ m, s.2 + 1 < q.1 ∧ q.1 ≤ q.2) → (∀ n, memB n (r :: l) = memB n (s :: m)) → s.1 ≤ r.1 ∧ r.2 ≤ s.2 := by
      intro r s l m a1 b1 a2 b2 h
      have h1 : memB r.1 (s :: m) = true := by rw [← h, memB_cons]; simp [a1]
      have lo : s.1 ≤ r.1 := by
        obtain ⟨q, hq, c1, c2⟩ := memB_iff.1 h1
        rcases List.mem_cons.1 hq with rfl | hq
        · exact c1
        · have := b2 q hq; omega
      refine ⟨lo, ?_⟩
      by_cases hle : r.2 ≤ s.2
      · exact hle
      · exfalso
        by_cases hst : r.1 ≤ s.2 + 1
        · have h2 : memB (s.2 + 1) (s :: m) = true := by rw [← h, memB_cons]; simp; left; omega
          obtain ⟨q, hq, c1, c2⟩ := memB_iff.1 h2
          rcases List.mem_cons.1 hq with rfl | hq
          · omega
          · have := b2 q hq; omega
        · have h2 : memB s.1 (r :: l) = true := by rw [h, memB_cons]; simp [b1]
          obtain ⟨q, hq, c1, c2⟩ := memB_iff.1 h2
          rcases List.mem_cons.1 hq with rfl | hq
          · omega
          · have := a2 q hq; omega
    have k1 := key a1 b1 a2 b2 h
    have k2 := key b1 a1 b2 a2 (fun n => (h n).symm)
    have ers : r = s := Prod.ext (by omega) (by omega)
    subst ers
    congr 1
    refine Norm.unique hl.tail hm.tail fun n => ?_
    have hn := h n
    rw [memB_cons, memB_cons] at hn
    by_cases hr : r.1 ≤ n ∧ n ≤ r.2
    · have e1 : ∀ {l : List Rg}, (∀ q ∈ l, r.2 + 1 < q.1 ∧ q.1 ≤ q.2) → memB n l = false := by
        intro l hl
        rw [← Bool.not_eq_true, memB_iff]
        rintro ⟨q, hq, c1, c2⟩
        have := hl q hq
        omega
      rw [e1 a2, e1 b2]
    · have : (decide (r.1 ≤ n) && decide (n ≤ r.2)) = false := by simp; omega
      rw [this, Bool.false_or, Bool.false_or] at hn
      exact hn

/-- Adds a range that does not begin before the last one. -/
def extend (s : List Rg) (r : Rg) : List Rg :=
  match s.getLast? with
  | none => [r]
  | some q => if r.1 ≤ q.2 + 1 then s.dropLast ++ [(q.1, max q.2 r.2)] else s ++ [r]

theorem extend_nil (r : Rg) : extend [] r = [r] := rfl
theorem extend_snoc (s : List Rg) (q r : Rg) : extend (s ++ [q]) r = if r.1 ≤ q.2 + 1 then s ++ [(q.1, max q.2 r.2)] else s ++ [q] ++ [r] := by
  unfold extend
  rw [List.getLast?_append]
  simp

theorem extend_norm {s : List Rg} {r : Rg} (hs : Norm s) (hr : r.1 ≤ r.2) (hb : ∀ q ∈ s, q.1 ≤ r.1) : Norm (extend s r) ∧ (∀ n, memB n (extend s r) = (memB n s || memB n [r])) ∧ ∀ q ∈ extend s r, q.1 ≤ r.1 := by
  rcases List.eq_nil_or_concat s with rfl | ⟨t, q, rfl⟩
  · exact ⟨Norm.one hr, fun n => by rw [extend_nil, memB_nil, Bool.false_or], by simp [extend_nil]⟩
  · rw [List.concat_eq_append] at *
    have hq := hs.1 q (by simp)
    have hqr := hb q (by simp)
    have hpw := List.pairwise_append.1 hs.2
    rw [extend_snoc]
    by_cases h : r.1 ≤ q.2 + 1
    · rw [if_pos h]
      refine ⟨⟨fun x hx => ?_, List.pairwise_append.2 ⟨hpw.1, List.pairwise_singleton _ _, fun x hx y hy => ?_⟩⟩, fun n => ?_, fun x hx => ?_⟩
      · rcases List.mem_append.1 hx with hx | hx
        · exact hs.1 x (by simp [hx])
        · obtain rfl := List.mem_singleton.1 hx
          simp only []
          omega
      · obtain rfl := List.mem_singleton.1 hy
        exact hpw.2.2 x hx q (by simp)
      · rw [memB_append, memB_append, memB_one, memB_one, memB_one, Bool.or_assoc]
        congr 1
        rw [Bool.eq_iff_iff]
        simp only [Bool.and_eq_true, Bool.or_eq_true, decide_eq_true_eq]
        omega
      · rcases List.mem_append.1 hx with hx | hx
        · exact hb x (by simp [hx])
        · obtain rfl := List.mem_singleton.1 hx
          exact hqr
    · rw [if_neg h]
      refine ⟨⟨fun x hx => ?_, List.pairwise_append.2 ⟨hs.2, List.pairwise_singleton _ _, fun x hx y hy => ?_⟩⟩, fun n => ?_, fun x hx => ?_⟩
      · rcases List.mem_append.1 hx with hx | hx
        · exact hs.1 x hx
        · obtain rfl := List.mem_singleton.1 hx
          exact hr
      · obtain rfl := List.mem_singleton.1 hy
        rcases List.mem_append.1 hx with hx | hx
        · have h1 := hpw.2.2 x hx q (by simp)
          omega
        · obtain rfl := List.mem_singleton.1 hx
          omega
      · rw [memB_append]
      · rcases List.mem_append.1 hx with hx | hx
        · exact hb x hx
        · obtain rfl := List.mem_singleton.1 hx
          omega

theorem extend_length (s : List Rg) (r : Rg) : (extend s r).length ≤ s.length + 1 := by
  rcases List.eq_nil_or_concat s with rfl | ⟨t, q, rfl⟩
  · simp [extend_nil]
  · rw [List.concat_eq_append, extend_snoc]
    split <;> simp

/-- Ranges in the order of their first numbers. -/
def Sorted (l : List Rg) : Prop := l.Pairwise fun r s => r.1 ≤ s.1
def merge (l : List Rg) : List Rg := l.foldl extend []

theorem merge_snoc (l : List Rg) (r : Rg) : merge (l ++ [r]) = extend (merge l) r := by unfold merge; rw [List.foldl_append]; rfl

theorem merge_norm : ∀ (l : List Rg), (∀ r ∈ l, r.1 ≤ r.2) → Sorted l → Norm (merge l) ∧ (∀ n, memB n (merge l) = memB n l) ∧ (∀ q ∈ merge l, ∀ r, (∀ s ∈ l, s.1 ≤ r) → q.1 ≤ r) := by
  intro l
  induction hn : l.length generalizing l with
  | zero =>
    obtain rfl := List.eq_nil_of_length_eq_zero hn
    exact fun _ _ => ⟨Norm.nil, fun _ => rfl, by simp [merge]⟩
  | succ k ih =>
    rcases List.eq_nil_or_concat l with rfl | ⟨t, q, rfl⟩
    · simp at hn
    · rw [List.concat_eq_append] at *
      intro hv hs
      have hpw := List.pairwise_append.1 hs
      obtain ⟨h1, h2, h3⟩ := ih t (by simpa using hn) (fun r hr => hv r (by simp [hr])) hpw.1
      obtain ⟨e1, e2, e3⟩ := extend_norm h1 (hv q (by simp)) (fun x hx => h3 x hx q.1 fun s hs => hpw.2.2 s hs q (by simp))
      rw [merge_snoc]
      refine ⟨e1, fun n => ?_, fun x hx r hr => ?_⟩
      · rw [e2, h2, memB_append]
      · have := e3 x hx
        have := hr q (by simp)
        omega

/-- The normal form of ranges. -/
def normal (l : List Rg) : List Rg := merge (l.mergeSort fun r s => decide (r.1 ≤ s.1))

theorem normal_spec {l : List Rg} (h : ∀ r ∈ l, r.1 ≤ r.2) : Norm (normal l) ∧ ∀ n, memB n (normal l) = memB n l := by
  have hp := List.mergeSort_perm l fun r s => decide (r.1 ≤ s.1)
  have hs : Sorted (l.mergeSort fun r s => decide (r.1 ≤ s.1)) := by
    have := List.pairwise_mergeSort (le := fun (r s : Rg) => decide (r.1 ≤ s.1)) (fun a b c h1 h2 => by simp at *; omega) (fun a b => by simp; omega) l
    exact this.imp fun h => by simpa using h
  obtain ⟨h1, h2, _⟩ := merge_norm _ (fun r hr => h r (hp.mem_iff.1 hr)) hs
  exact ⟨h1, fun n => by rw [show normal l = merge _ from rfl, h2, memB_perm hp]⟩

theorem normal_of {l m : List Rg} (hp : m.Perm l) (hs : Sorted m) (h : ∀ r ∈ l, r.1 ≤ r.2) : merge m = normal l := by
  obtain ⟨h1, h2, _⟩ := merge_norm m (fun r hr => h r (hp.mem_iff.1 hr)) hs
  obtain ⟨h3, h4⟩ := normal_spec h
  exact Norm.unique h1 h3 fun n => by rw [h2, h4, memB_perm hp]

theorem normal_eq {l m : List Rg} (hm : Norm m) (h : ∀ r ∈ l, r.1 ≤ r.2) (he : ∀ n, memB n m = memB n l) : m = normal l :=
  Norm.unique hm (normal_spec h).1 fun n => by rw [he, (normal_spec h).2]

theorem merge_length (l : List Rg) : (merge l).length ≤ l.length := by
  induction hn : l.length generalizing l with
  | zero => obtain rfl := List.eq_nil_of_length_eq_zero hn; simp [merge]
  | succ k ih =>
    rcases List.eq_nil_or_concat l with rfl | ⟨t, q, rfl⟩
    · simp at hn
    · rw [List.concat_eq_append] at *
      rw [merge_snoc]
      have h1 := ih t (by simpa using hn)
      have h2 := extend_length (merge t) q
      omega
theorem normal_length (l : List Rg) : (normal l).length ≤ l.length := by
  unfold normal
  have := merge_length (l.mergeSort fun r s => decide (r.1 ≤ s.1))
  rwa [List.length_mergeSort] at this

end Go.Nw
