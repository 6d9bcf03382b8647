/- slices.Clone over strings and slices.SortFunc by groupname.Compare. -/
import Derived.Test.YtbgkepdnemgkdaaGreatDoorGnWalkN
import Derived.Test.YtbgkepdnemgkdaaGreatDoorGnWalkJ
import Derived.Test.YtbgkepdnemgkdaaGreatDoorShelfB
import Derived.Sort.OwnSorted
namespace Go.Proofs.YtbgkepdnemgkdaaGreatDoor
open Go.RowKit Go.Gn Go.Sort

/-- A short string. -/
abbrev Nm := { l : Str // l.length ≤ 80 }
instance : Inhabited Nm := ⟨⟨[], by decide⟩⟩
def encN (x : Nm) : Value := encStr x.1
def cfN (x y : Nm) : Int := cmp x.1 y.1

theorem ltN (x y : Nm) : ltOf cfN x y = true ↔ cmp x.1 y.1 < 0 := by unfold ltOf cfN; exact decide_eq_true_iff
theorem ltN' (x y : Nm) : ltOf cfN x y = false ↔ ¬ cmp x.1 y.1 < 0 := by rw [← Bool.not_eq_true, ltN]
theorem swoN : SWO (ltOf cfN) where
  irrefl x := by rw [ltN', cmp_is.refl]; decide
  trans x y z h1 h2 := by
    rw [ltN] at *
    exact cmp_is.trans _ _ _ h1 h2
  ntrans x y z h1 h2 := by
    rw [ltN'] at *
    have e1 := cmp_is.neg x.1 y.1
    have e2 := cmp_is.neg y.1 z.1
    have e3 := cmp_is.neg x.1 z.1
    have := cmp_is.transLe (a := z.1) (b := y.1) (d := x.1) (by omega) (by omega)
    omega
theorem totN (x y : Nm) (h1 : ltOf cfN x y = false) (h2 : ltOf cfN y x = false) : x = y := by
  rw [ltN'] at h1 h2
  have e1 := cmp_is.neg x.1 y.1
  exact Subtype.ext ((cmp_is.eq x.1 y.1).1 (by omega))

theorem grow_alloc2 (w : World) (A B : Obj) : (w.alloc A).alloc B = grow (w.drewN 0) #[A, B] := by
  rw [World.drewN_zero]
  simp only [grow, World.alloc]
  congr 1

theorem ML.sortWorld {w : World} (hM : ML w) {α : Type} [Inhabited α] (enc : α → Value) (blk off m : Nat) (dk : Array α) (os : Array Obj) (hne : 0 ≠ blk) : ML (Go.Proofs.sortWorld enc w blk off m dk os) := by
  obtain ⟨q, hq⟩ := hM
  refine ⟨q, ?_⟩
  unfold Go.Proofs.sortWorld
  have hlt := World.block_lt_of_cell? w _ hq
  rw [cell?_grow _ _ _ (by simpa [putRow, mapBlock, Sort.ahead] using hlt), cell?_putRow_other _ _ _ _ _ _ (.inl hne)]
  exact hq

theorem cmpLaysN (w : World) (blk off size : Nat) (hM : ML w) (hne : 0 ≠ blk) : CmpLays1 Tryz.prog 32 #[] encN cfN blk off size w := fun m os dk _ x y =>
  (gcompare_at (mkS x.1) (mkS y.1) _ (by rw [size_mkS]; exact Nat.le_trans x.2 (by decide)) (by rw [size_mkS]; exact Nat.le_trans y.2 (by decide)) (hM.sortWorld _ _ _ _ _ _ hne)).mono fun e w' ⟨he, A, B, hw⟩ =>
    ⟨he, 0, #[A, B], by rw [hw, grow_alloc2]⟩

theorem encStr_bs (x : ByteArray) : encStr (bs x) = .string x := by show Value.string (mkS (bs x)) = _; rw [mk_bs]
theorem map_encStr (xs : List ByteArray) : (xs.map bs).map encStr = xs.map Value.string := by
  rw [List.map_map]; exact List.map_congr_left fun x _ => encStr_bs x
theorem map_mkS (L : List Str) : (L.map mkS).map bs = L := by rw [List.map_map]; exact List.map_id'' (fun x => rfl) L

theorem OwnS.shape {w : World} {base : Nat} {v : Value} {xs : List ByteArray} (h : OwnS w base v xs) : ∃ a c, v = .slice a xs.length c := by
  obtain ⟨a, c, hv, _⟩ := h.ss
  exact ⟨a, c, hv⟩

def ClonePost (n : Nat) (zs : List ByteArray) (w : World) (e : Ending) (w' : World) : Prop :=
  ∃ a' c', e = .returned (.slice a' n c') ∧ OwnS w' w.heap.size (.slice a' n c') zs ∧ Below w.heap.size w w'

/-- slices.Clone. -/
theorem clone_any (a : Option Addr) (n c : Nat) (zs : List ByteArray) (w : World) (hn : zs.length = n) (hN : n ≤ 1000000) (hS : SS w a zs) :
    Calls Tryz.prog 54 #[.slice a n c] w fun e w' => ClonePost n zs w e w' := by
  subst hn
  rcases hS with rfl | ⟨b, off, rfl, hb, hc⟩
  · cases a with
    | none => exact (Tryz.slices_Clone_string_nil 0 c w).mono fun e w' ⟨he, hw⟩ => ⟨none, 0, he, OwnS.nil _ _, hw ▸ Below.refl _ _⟩
    | some a =>
      refine (Tryz.slices_Clone_string_zero a c w).mono fun e w' ⟨v, he, hO, _, hB⟩ => ?_
      obtain ⟨a', c', rfl⟩ := OwnS.shape (xs := []) hO
      exact ⟨a', c', he, hO, hB⟩
  · refine (Tryz.slices_Clone_string b off zs.length c zs w (Nat.le_refl _) (by omega) (fun j hj => by
      rw [hc j zs[j] (List.getElem?_eq_getElem hj)]; simp [List.getD_eq_getElem?_getD, List.getElem?_eq_getElem hj])).mono fun e w' ⟨v, he, hO, _, hB⟩ => ?_
    rw [List.take_length] at hO
    obtain ⟨a', c', rfl⟩ := OwnS.shape hO
    exact ⟨a', c', he, hO, hB⟩

/-- The names as short strings. -/
def nms (zs : List ByteArray) (h : ∀ x ∈ zs, (bs x).length ≤ 80) : List Nm := zs.pmap (fun x hx => (⟨bs x, hx⟩ : Nm)) h
theorem nms_val (zs : List ByteArray) (h : ∀ x ∈ zs, (bs x).length ≤ 80) : (nms zs h).map (·.1) = zs.map bs := by
  unfold nms; rw [List.map_pmap, List.pmap_eq_map]

theorem holdsN {w : World} {g off : Nat} {d : Array Nm} (h : Holds encStr w g off (d.map (·.1))) : Holds encN w g off d := fun j hj => by
  have := h j (by simpa using hj)
  rw [getElem!_pos _ j (by simpa using hj), Array.getElem_map] at this
  rw [getElem!_pos d j hj]
  exact this
theorem putRowN (w : World) (g off : Nat) (d : Array Nm) : putRow encN w g off d = putRow encStr w g off (d.map (·.1)) := by
  unfold putRow
  congr 1
  funext c
  unfold putCells
  congr 1
  funext k x
  rw [Array.size_map]
  by_cases h : off ≤ k ∧ k < off + d.size
  · rw [if_pos h, if_pos h, getElem!_pos d (k - off) (by omega), getElem!_pos _ (k - off) (by simp; omega), Array.getElem_map]; rfl
  · rw [if_neg h, if_neg h]

def SortPost (base : Nat) (a : Option Addr) (n c : Nat) (zs : List ByteArray) (w : World) (e : Ending) (w' : World) : Prop :=
  e = .returned (.tuple #[]) ∧ ∃ ys : List ByteArray, ys.length = n ∧ OwnS w' base (.slice a n c) ys ∧ (ys.map bs).Perm (zs.map bs) ∧ (ys.map bs).Pairwise (fun x y => cmp x y ≤ 0) ∧ Below base w w'

theorem nil_own {w : World} {base n c : Nat} {xs : List ByteArray} (h : OwnS w base (.slice none n c) xs) : n = 0 ∧ xs = [] := by
  rcases h.2 with ⟨h1, h2⟩ | ⟨g, cap, cur, h1, _⟩
  · simp only [Value.slice.injEq] at h1
    exact ⟨h1.2.1, List.eq_nil_of_length_eq_zero h2⟩
  · simp at h1

set_option maxHeartbeats 1000000 in
/-- slices.SortFunc by Compare. -/
theorem sortFunc_any (base : Nat) (a : Option Addr) (n c : Nat) (zs : List ByteArray) (w : World) (hO : OwnS w base (.slice a n c) zs) (hsz : ∀ x ∈ zs, (bs x).length ≤ 80) (hM : ML w) (hbase : 0 < base) (hN : n ≤ 1000000) :
    Calls Tryz.prog 55 #[.slice a n c, .func (.func 32) #[] #[]] w fun e w' => SortPost base a n c zs w e w' := by
  have hO' := hO
  rcases hO.2 with ⟨h1, h2⟩ | ⟨g, cap, cur, h1, hbg, hb, hle, hcap, hcs, htk⟩
  · simp only [Value.slice.injEq] at h1
    obtain ⟨rfl, rfl, rfl⟩ := h1
    obtain rfl : zs = [] := List.eq_nil_of_length_eq_zero h2
    exact (AnyF.slices_SortFunc_none { Tryz.sortFuncS with } none 0 _ w).mono fun e w' ⟨he, hw⟩ => ⟨he, [], rfl, hw ▸ hO', List.Perm.refl _, List.Pairwise.nil, hw ▸ Below.refl _ _⟩
  · simp only [Value.slice.injEq] at h1
    obtain ⟨rfl, hn, rfl⟩ := h1
    subst hn
    have hval := nms_val zs hsz
    have hlen : (nms zs hsz).length = zs.length := by have := congrArg List.length hval; simpa using this
    have htk' : cur.toList.take (zs.map bs).length = (zs.map bs).map encStr := by
      rw [map_encStr, List.length_map, ← htk, Nat.mul_one]
    have hH : Holds encN w g 0 (nms zs hsz).toArray := by
      apply holdsN
      rw [List.map_toArray, hval]
      exact holds_of_block hb htk'
    have hgl : g < w.heap.size := (Array.getElem?_eq_some_iff.1 hb).1
    have hcon := Any.slices_SortFunc_total Tryz.sortFuncS encN (fun _ => rfl) cfN swoN 32 #[] g 0 c (nms zs hsz).toArray w (enters_of Tryz.func32 (by kernel_rfl) rfl) (cmpLaysN w g 0 _ hM (by omega)) hH hgl (by simp; omega) totN
    rw [List.size_toArray, hlen] at hcon
    refine hcon.mono fun e w' ⟨he, m, os, hw⟩ => ⟨he, ?_⟩
    generalize hms : (List.mergeSort (nms zs hsz).toArray.toList fun x y => !ltOf cfN y x) = ms at hw
    have hperm : ms.Perm (nms zs hsz) := by rw [← hms]; exact List.mergeSort_perm _ _
    have hpw : ms.Pairwise (fun x y => cmp x.1 y.1 ≤ 0) := by
      rw [← hms]
      refine (List.pairwise_mergeSort (le := fun x y => !ltOf cfN y x) ?_ ?_ _).imp ?_
      · intro x y z h1 h2
        simp only [Bool.not_eq_true', ltN'] at *
        have e1 := cmp_is.neg x.1 y.1
        have e2 := cmp_is.neg y.1 z.1
        have e3 := cmp_is.neg x.1 z.1
        have := cmp_is.transLe (a := x.1) (b := y.1) (d := z.1) (by omega) (by omega)
        omega
      · intro x y
        have e1 := cmp_is.neg x.1 y.1
        simp only [Bool.or_eq_true, Bool.not_eq_true', ltN']
        omega
      · intro x y h
        simp only [Bool.not_eq_true', ltN'] at h
        have e1 := cmp_is.neg x.1 y.1
        omega
    have hml : ms.length = zs.length := by rw [hperm.length_eq, hlen]
    refine ⟨ms.map fun x => mkS x.1, by rw [List.length_map, hml], ?_, ?_, ?_, ?_⟩
    · have h3 := ownsRow_sorted (os := os) (n := m) (ss := zs.map bs) (ts := ms.map (·.1)) (base := base) (by simp [hml]) hbg hb (by simpa using hle) hcap hcs
      rw [List.length_map] at h3
      unfold OwnS
      rw [hw, List.length_map, hml]
      unfold sortWorld
      rw [putRowN, List.map_toArray]
      rw [List.map_map]
      rw [List.map_map] at h3
      exact h3
    · rw [List.map_map]
      have : (ms.map (·.1)).Perm ((nms zs hsz).map (·.1)) := hperm.map _
      rw [hval] at this
      exact this
    · rw [List.map_map, List.pairwise_map]
      exact hpw
    · rw [hw]
      unfold sortWorld
      rw [putRowN]
      exact (Below.refl base w).grown (grownBy_sorted _) (by omega) (fun k hk => by cases hk; exact hbg)

end Go.Proofs.YtbgkepdnemgkdaaGreatDoor
