/- Counting a set: the union and the intersection hold together as many numbers as the two sets. -/
import Derived.Test.YtddmldfdakmecaaGreatDoorNwOwn
namespace Go.Nw

def cntIn (N : Nat) (p : Int → Bool) : Nat := (List.range N).countP fun i : Nat => p ((i : Int) + 1)
theorem countP_or_and {α : Type} (p q : α → Bool) : ∀ l : List α, l.countP (fun x => p x || q x) + l.countP (fun x => p x && q x) = l.countP p + l.countP q
  | [] => rfl
  | x :: l => by
    have ih := countP_or_and p q l
    simp only [List.countP_cons]
    cases p x <;> cases q x <;> simp <;> omega
theorem cnt_or_and (N : Nat) (p q : Int → Bool) : cntIn N (fun n => p n || q n) + cntIn N (fun n => p n && q n) = cntIn N p + cntIn N q :=
  countP_or_and (fun i : Nat => p ((i : Int) + 1)) (fun i : Nat => q ((i : Int) + 1)) _
theorem cnt_row (a b : Int) (ha : 1 ≤ a) (hb : a ≤ b) : ∀ N : Nat, (cntIn N (fun n => decide (a ≤ n) && decide (n ≤ b)) : Int) = max 0 (min b N - a + 1)
  | 0 => by simp [cntIn]; omega
  | N + 1 => by
    have ih := cnt_row a b ha hb N
    unfold cntIn at ih ⊢
    rw [List.range_succ, List.countP_append, Int.natCast_add, ih]
    simp only [List.countP_cons, List.countP_nil]
    by_cases h1 : a ≤ (N : Int) + 1 <;> by_cases h2 : (N : Int) + 1 ≤ b
    all_goals simp [h1, h2]
    all_goals omega
end Go.Nw
namespace Go.Proofs.YtddmldfdakmecaaGreatDoor
open Go.RowKit Go.Gn Go.El Go.Nw
theorem countL_cons (r : Rg) (l : List Rg) : countL (r :: l) = r.2 - r.1 + 1 + countL l := rfl
theorem cnt_norm (N : Nat) : ∀ l : List Rg, Norm l → (∀ r ∈ l, 1 ≤ r.1 ∧ r.2 ≤ N) → (cntIn N (fun n => memB n l) : Int) = countL l
  | [], _, _ => by
    have : cntIn N (fun n => memB n []) = 0 := by unfold cntIn; rw [List.countP_eq_zero]; intro x _; show ¬ memB ((x : Int) + 1) [] = true; rw [memB_nil]; decide
    rw [this]; rfl
  | r :: l, hn, hb => by
    have ih := cnt_norm N l hn.tail fun s hs => hb s (List.mem_cons_of_mem _ hs)
    have h0 := cnt_or_and N (fun n => decide (r.1 ≤ n) && decide (n ≤ r.2)) (fun n => memB n l)
    have h1 := cnt_row r.1 r.2 (hb r (by simp)).1 hn.head.1 N
    have h2 : cntIn N (fun n => (decide (r.1 ≤ n) && decide (n ≤ r.2)) && memB n l) = 0 := by
      unfold cntIn
      rw [List.countP_eq_zero]
      intro i _ hi
      rw [Bool.and_eq_true, Bool.and_eq_true, decide_eq_true_eq, decide_eq_true_eq] at hi
      obtain ⟨⟨_, h3⟩, h4⟩ := hi
      obtain ⟨s, hs, h5, _⟩ := memB_iff.1 h4
      have := (hn.head.2 s hs).1
      omega
    have h3 : cntIn N (fun n => memB n (r :: l)) = cntIn N (fun n => (decide (r.1 ≤ n) && decide (n ≤ r.2)) || memB n l) := by
      unfold cntIn
      refine List.countP_congr fun i _ => ?_
      show memB ((i : Int) + 1) (r :: l) = true ↔ _
      rw [memB_cons]
    have h4 := (hb r (by simp)).2
    rw [countL_cons, h3]
    have h5 := hn.head.1
    omega
/-- The union and the intersection together hold as many numbers as the two sets. -/
theorem countL_or_and {X Y O A : List Rg} (hX : Norm X) (hY : Norm Y) (hO : Norm O) (hA : Norm A) (vX : ∀ r ∈ X, validB r = true) (vY : ∀ r ∈ Y, validB r = true) (vO : ∀ r ∈ O, validB r = true) (vA : ∀ r ∈ A, validB r = true)
    (h1 : ∀ n, memB n O = (memB n X || memB n Y)) (h2 : ∀ n, memB n A = (memB n X && memB n Y)) : countL O + countL A = countL X + countL Y := by
  obtain ⟨N, hN⟩ : ∃ N : Nat, (1099511627776 : Int) ≤ N := ⟨1099511627776, by decide⟩
  have key : ∀ l : List Rg, (∀ r ∈ l, validB r = true) → ∀ r ∈ l, 1 ≤ r.1 ∧ r.2 ≤ (N : Int) := fun l h r hr => by
    have := validB_iff.1 (h r hr); omega
  have e1 := cnt_norm N X hX (key X vX)
  have e2 := cnt_norm N Y hY (key Y vY)
  have e3 := cnt_norm N O hO (key O vO)
  have e4 := cnt_norm N A hA (key A vA)
  have h := cnt_or_and N (fun n => memB n X) (fun n => memB n Y)
  have f1 : (fun n => memB n O) = fun n => memB n X || memB n Y := funext h1
  have f2 : (fun n => memB n A) = fun n => memB n X && memB n Y := funext h2
  rw [f1] at e3
  rw [f2] at e4
  omega
theorem countL_bound {l : List Rg} (h : ∀ r ∈ l, validB r = true) : 0 ≤ countL l ∧ countL l ≤ (l.length : Int) * 1099511627776 := by
  induction l with
  | nil => exact ⟨by decide, by decide⟩
  | cons r l ih =>
    have h1 := ih fun s hs => h s (List.mem_cons_of_mem _ hs)
    have h2 := validB_iff.1 (h r (by simp))
    rw [countL_cons, List.length_cons]
    have : ((l.length + 1 : Nat) : Int) * 1099511627776 = (l.length : Int) * 1099511627776 + 1099511627776 := by omega
    omega

/-- A set in a box of its own. -/
structure SetIn (w : World) (B : Nat) (a : Option Addr) (n c : Nat) (o : List Rg) : Prop where
  box : Box w B 26 (.slice a n c)
  re : RE TR w a o
  len : o.length = n
  c0 : a = none → c = 0
  norm : Norm o
  valid : ∀ r ∈ o, validB r = true
  small : n ≤ 1000
theorem SetIn.below {w w' : World} {B : Nat} {a : Option Addr} {n c : Nat} {o : List Rg} (h : SetIn w B a n c o) (hb : Below w.heap.size w w') : SetIn w' B a n c o :=
  ⟨h.box.below hb h.box.lt, h.re.below hb, h.len, h.c0, h.norm, h.valid, h.small⟩
theorem SetIn.of {w : World} {base : Nat} {v : Value} {o : List Rg} (h : OE TR w base v o) (hn : Norm o) (hv : ∀ r ∈ o, validB r = true) (hs : o.length ≤ 1000) :
    ∃ a n c, v = .slice a n c ∧ SetIn (w.alloc (.cells #[.slice a n c] 26)) w.heap.size a n c o := by
  obtain ⟨a, c, rfl, hR, _, _, h0, _⟩ := h.re
  exact ⟨a, o.length, c, rfl, Box.new w _ _ _ rfl, hR.alloc _, rfl, h0, hn, hv, hs⟩
/-- What a combination of two sets answers. -/
def CombOut (keep : Bool → Bool → Bool) (X Y : List Rg) (w : World) (e : Ending) (w' : World) : Prop :=
  Below w.heap.size w w' ∧ ∃ v o, e = .returned (.tuple #[.agg #[v], .int .i64 0]) ∧ OE TR w' w.heap.size v o ∧ Norm o ∧ (∀ r ∈ o, validB r = true) ∧ (∀ n, memB n o = keep (memB n X) (memB n Y)) ∧ o.length ≤ 2 * (X.length + Y.length)
theorem CombPost.out {keep : Bool → Bool → Bool} {X Y : List Rg} {w w' : World} {e : Ending} (h : CombPost keep X Y w e w') (hk : keep false false = false) (hl : X.length + Y.length ≤ 2000) (hv : ∀ r ∈ X ++ Y, validB r = true) : CombOut keep X Y w e w' := by
  obtain ⟨h1, o, h2, h3, h5, h4⟩ := h
  have hm : ∀ n, memB n o = keep (memB n X) (memB n Y) := fun n => by
    rw [h3]; unfold kept
    cases memB n X <;> cases memB n Y <;> simp [hk]
  refine ⟨h1, ?_⟩
  rcases h4 with ⟨_, v, he, hO⟩ | ⟨h4, _⟩
  · exact ⟨v, o, he, hO, h2, kept_bounds (F := fun _ => true) rfl hv h2 (fun n => by rw [h3, Bool.and_true]), hm, h5⟩
  · exact absurd (by omega) h4
/-- What FromRanges answers, the error a number. -/
def FromOut (zs : List Rg) (w : World) (e : Ending) (w' : World) : Prop :=
  Below w.heap.size w w' ∧ ∃ v o er, e = .returned (.tuple #[.agg #[v], .int .i64 er]) ∧ OE TR w' w.heap.size v o ∧ Norm o ∧ (∀ r ∈ o, validB r = true) ∧ o.length ≤ zs.length ∧ ((er = 0 ∧ (∀ r ∈ zs, validB r = true) ∧ o = normal zs) ∨ (er = 2 ∧ (¬ ∀ r ∈ zs, validB r = true) ∧ o = []))
theorem normal_valid {zs : List Rg} (h : ∀ r ∈ zs, validB r = true) : Norm (normal zs) ∧ ∀ r ∈ normal zs, validB r = true := by
  have hs := normal_spec (l := zs) fun r hr => (validB_iff.1 (h r hr)).2.2
  refine ⟨hs.1, kept_bounds (keep := keepU) (zs := zs) (ys := []) (L := zs ++ []) (F := fun _ => true) rfl (by simpa using h) hs.1 fun n => ?_⟩
  rw [hs.2]; unfold kept keepU; rw [memB_nil]; simp
theorem FromPost.out {zs : List Rg} {w w' : World} {e : Ending} (h : FromPost zs w e w') : FromOut zs w e w' := by
  obtain ⟨h1, ⟨hv, v, rfl, hO⟩ | ⟨hv, rfl⟩⟩ := h
  · exact ⟨h1, v, _, 0, rfl, hO, (normal_valid hv).1, (normal_valid hv).2, normal_length zs, .inl ⟨rfl, hv, rfl⟩⟩
  · exact ⟨h1, _, [], 2, rfl, OE.nil _ _ _, Norm.nil, by simp, Nat.zero_le _, .inr ⟨rfl, hv, rfl⟩⟩
theorem union_in {w : World} {B B' : Nat} {a a' : Option Addr} {n n' c c' : Nat} {X Y : List Rg} (h : SetIn w B a n c X) (h' : SetIn w B' a' n' c' Y) :
    Calls Tryz.prog 22 #[.agg #[.slice a n c], .agg #[.slice a' n' c']] w fun e w' => CombOut keepU X Y w e w' :=
  (union_any a n c X a' n' c' Y w h.len h'.len (by have := h.small; omega) (by have := h'.small; omega) h.re h'.re h.c0 h'.c0 h.norm h'.norm h.valid h'.valid).mono fun _ _ hc => hc.out rfl (by rw [h.len, h'.len]; have := h.small; have := h'.small; omega) fun r hr => (List.mem_append.1 hr).elim (h.valid r) (h'.valid r)
theorem inter_in {w : World} {B B' : Nat} {a a' : Option Addr} {n n' c c' : Nat} {X Y : List Rg} (h : SetIn w B a n c X) (h' : SetIn w B' a' n' c' Y) :
    Calls Tryz.prog 23 #[.agg #[.slice a n c], .agg #[.slice a' n' c']] w fun e w' => CombOut keepI X Y w e w' :=
  (intersection_any a n c X a' n' c' Y w h.len h'.len (by have := h.small; omega) (by have := h'.small; omega) h.re h'.re h.c0 h'.c0 h.norm h'.norm h.valid h'.valid).mono fun _ _ hc => hc.out rfl (by rw [h.len, h'.len]; have := h.small; have := h'.small; omega) fun r hr => (List.mem_append.1 hr).elim (h.valid r) (h'.valid r)
theorem diff_in {w : World} {B B' : Nat} {a a' : Option Addr} {n n' c c' : Nat} {X Y : List Rg} (h : SetIn w B a n c X) (h' : SetIn w B' a' n' c' Y) :
    Calls Tryz.prog 24 #[.agg #[.slice a n c], .agg #[.slice a' n' c']] w fun e w' => CombOut keepD X Y w e w' :=
  (difference_any a n c X a' n' c' Y w h.len h'.len (by have := h.small; omega) (by have := h'.small; omega) h.re h'.re h.c0 h'.c0 h.norm h'.norm h.valid h'.valid).mono fun _ _ hc => hc.out rfl (by rw [h.len, h'.len]; have := h.small; have := h'.small; omega) fun r hr => (List.mem_append.1 hr).elim (h.valid r) (h'.valid r)
theorem has_in {w : World} {B : Nat} {a : Option Addr} {n c : Nat} {X : List Rg} (h : SetIn w B a n c X) (x : Int) : GivesB Tryz.prog 25 #[.agg #[.slice a n c], .int .i64 x] (.bool (memB x X)) w :=
  has_any a n c X x w h.len (by have := h.small; omega) h.re h.norm
theorem count_in {w : World} {B : Nat} {a : Option Addr} {n c : Nat} {X : List Rg} (h : SetIn w B a n c X) : GivesB Tryz.prog 27 #[.agg #[.slice a n c]] (.int .i64 (countL X)) w :=
  count_any a n c X w h.len (by have := h.small; omega) h.re h.valid
theorem equal_in {w : World} {B B' : Nat} {a a' : Option Addr} {n n' c c' : Nat} {X Y : List Rg} (h : SetIn w B a n c X) (h' : SetIn w B' a' n' c' Y) : GivesB Tryz.prog 26 #[.agg #[.slice a n c], .agg #[.slice a' n' c']] (.bool (decide (X = Y))) w :=
  equalSets_any a n c X a' n' c' Y w h.len h'.len (by have := h.small; omega) (by have := h'.small; omega) h.re h'.re
end Go.Proofs.YtddmldfdakmecaaGreatDoor
