/- Walks of slices.Clone, slices.SortFunc at newsrc.Range, and of the closure of FromRanges. -/
import Derived.Test.YtddmldfdakmecaaGreatDoorNwTy
import Derived.Test.YtddmldfdakmecaaGreatDoorNwSortK
import Derived.Test.YtddmldfdakmecaaGreatDoorShelfB
namespace Go.Proofs.YtddmldfdakmecaaGreatDoor
open Go.RowKit Go.Gn Go.El Go.Nw Go.Sort

theorem closureR (x y : Rg) (W : World) : Calls Tryz.prog 54 #[.agg #[.int .i64 x.1, .int .i64 x.2], .agg #[.int .i64 y.1, .int .i64 y.2]] W fun e w' => e = .returned (.int .i64 (Lib.compareInt x.1 y.1)) ∧ ∃ q os', w' = grow (W.drewN q) os' := by
  have hcon := fun W' => Tryz.cmp_Compare_int x.1 y.1 W'
  obtain ⟨a, b⟩ := x
  obtain ⟨c, d⟩ := y
  simp only at hcon ⊢
  generalize Lib.compareInt a c = r at hcon ⊢
  go_enter Tryz.func54, Tryz.ntmps54
  go_wp2_with (go_at_call 55; refine (hcon _).mono ?_; rintro e w' ⟨rfl, rfl⟩)
  go_ret
  exact ⟨rfl, 0, _, by rw [alloc_eq_grow, alloc_eq_grow, grow_grow]; rfl⟩

def cfR (x y : Rg) : Int := Lib.compareInt x.1 y.1
theorem ltR (x y : Rg) : ltOf cfR x y = decide (x.1 < y.1) := by
  unfold ltOf cfR Lib.compareInt
  by_cases h1 : x.1 < y.1
  · simp [h1]
  · by_cases h2 : y.1 < x.1 <;> simp [h1, h2]
theorem swoR : SWO (ltOf cfR) where
  irrefl x := by rw [ltR]; simp
  trans x y z h1 h2 := by rw [ltR] at *; simp at *; omega
  ntrans x y z h1 h2 := by rw [ltR] at *; simp at *; omega

theorem perm_toList {α : Type} [Inhabited α] {d d' : Array α} (h : PermIn 0 d.size d d') : d'.toList.Perm d.toList := by
  obtain ⟨h1, _, h2⟩ := h
  rw [← h1, Array.extract_size, h1, Array.extract_size] at h2
  exact h2

theorem RE.none {T : Ty Tryz.prog Rg} {w : World} {zs : List Rg} (h : RE T w none zs) : zs = [] := by
  rcases h with h | ⟨b, off, h, _⟩
  · exact h
  · cases h

def CloneR (zs : List Rg) (w : World) (e : Ending) (w' : World) : Prop := ∃ v, e = .returned v ∧ OE TR w' w.heap.size v zs ∧ Below w.heap.size w w'

set_option maxRecDepth 100000 in
/-- slices.Clone at newsrc.Range. -/
theorem cloneR_any (a : Option Addr) (n c : Nat) (zs : List Rg) (w : World) (hn : zs.length = n) (hN : n ≤ 1000000) (hS : RE TR w a zs) :
    Calls Tryz.prog 52 #[.slice a n c] w fun e w' => CloneR zs w e w' := by
  subst hn
  cases a with
  | none =>
    obtain rfl := RE.none hS
    exact (AnyE.slices_Clone_nil Tryz.cloneR 0 c w).mono fun e w' ⟨he, hw⟩ => ⟨_, he, OE.nil _ _ _, hw ▸ Below.refl _ _⟩
  | some ad =>
    have qT : ∀ (W : World) (a : Option Addr) (n c : Nat), (binOp .eql 24 (.slice a n c) (.slice none 0 0)).run Tryz.prog W = .ok (.bool a.isNone) W := fun W a n c => Lib.run_eql_slice_nil W _ _ a n c 0 0 Tryz.underlying24
    go_enter Tryz.func52, Tryz.ntmps52
    go_wp2_with (at_builtin; go_loud (refine app TR (base := w.heap.size) (OE.lit TR w _ _ rfl (Nat.le_refl _)) (RE.alloc hS _) rfl (by intro e; cases e) (by simp; omega) (by simp) _ _ rfl rfl rfl rfl ?_); intro v1 w1 hO1 hG1)
    go_ret
    exact ⟨v1, rfl, hO1, ((Below.refl _ _).alloc (Nat.le_refl _) _).grown hG1 (by simp) (fun q hq => by cases hq; exact Nat.le_refl _)⟩

def SortR (base : Nat) (v : Value) (zs : List Rg) (w : World) (e : Ending) (w' : World) : Prop :=
  e = .returned (.tuple #[]) ∧ ∃ ys : List Rg, OE TR w' base v ys ∧ ys.Perm zs ∧ Sorted ys ∧ Below base w w'

/-- slices.SortFunc at newsrc.Range. -/
theorem sortR_any (base : Nat) (v : Value) (zs : List Rg) (w : World) (hO : OE TR w base v zs) (hN : zs.length ≤ 1000000) (hbase : base ≤ w.heap.size) :
    Calls Tryz.prog 53 #[v, .func (.func 54) #[] #[]] w fun e w' => SortR base v zs w e w' := by
  have hO' := hO
  rcases hO.2 with ⟨rfl, h2⟩ | ⟨g, cap, cur, rfl, hbg, hb, hle, hcap, hcs, htk⟩
  · obtain rfl : zs = [] := List.eq_nil_of_length_eq_zero h2
    exact (AnyF.slices_SortFunc_none { Tryz.sortR with } none 0 _ w).mono fun e w' ⟨he, hw⟩ => ⟨he, [], hw ▸ hO', List.Perm.refl _, List.Pairwise.nil, hw ▸ Below.refl _ _⟩
  · have hH := holdsK_of_own (T := TR) hb htk
    have hgl : g < w.heap.size := (Array.getElem?_eq_some_iff.1 hb).1
    have hcon := AnyQ.slices_SortFunc Tryz.sortR 2 Tryz.isAgg92 Tryz.sizeOf92 rgc (fun _ => rfl) rgc_one cfR swoR 54 #[] g 0 cap zs.toArray w (enters_of Tryz.func54 (by kernel_rfl) rfl)
      (fun _ _ _ _ x y => closureR x y _) hH hgl (by simp; omega)
    rw [List.size_toArray] at hcon
    refine hcon.mono fun e w' ⟨he, d', n, os, hp, hs, hw⟩ => ⟨he, ?_⟩
    have hp' := perm_toList (d := zs.toArray) (by simpa using hp)
    have hlen : d'.size = zs.length := by have := hp'.length_eq; simpa using this
    refine ⟨d'.toList, ?_, by simpa using hp', ?_, ?_⟩
    · rw [hw]
      have := own_sortedK (T := TR) (n := n) (os := os) (xs := zs) (ys := d'.toList) (by simpa using hlen) hbg hb hle hcap hcs
      rw [Array.toArray_toList] at this
      exact this
    · refine List.pairwise_iff_getElem.2 fun i j hi hj hij => ?_
      have := hs i j (Nat.zero_le _) hij (by simpa [hlen] using hj)
      rw [ltR, getElem!_pos _ j (by simpa using hj), getElem!_pos _ i (by simpa using hi)] at this
      simpa using this
    · rw [hw]
      exact (Below.refl base w).grown (grownBy_sortedK TR d') hbase (fun q hq => by cases hq; exact hbg)

end Go.Proofs.YtddmldfdakmecaaGreatDoor
