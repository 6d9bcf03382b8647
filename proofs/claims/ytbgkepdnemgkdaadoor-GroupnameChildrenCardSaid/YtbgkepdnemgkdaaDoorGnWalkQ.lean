/- slices.Sorted of maps.Keys of a map from strings to truth values. -/
import Derived.Test.YtbgkepdnemgkdaaDoorGnWalkP
import Derived.Maps.Views
import Derived.Maps.OwnSet
import Derived.Sort.KeysCollected
namespace Go.Proofs.YtbgkepdnemgkdaaDoor
open Go.RowKit Go.Gn Go.Sort Go.Maps Go.Shelf

/-- slices.Sort's two contracts at this dump, at the fence that asks nothing. -/
theorem sortsS (m : Nat) : AnyZ.SortsIn Tryd.prog Tryd.sortedS_ren Fence.wide m :=
  ⟨fun blk off cap ss W hH hblk hsz => callsIn_wide.2 (Any.slices_Sort_string Tryd.sort190 blk off cap ss W hH hblk hsz),
   fun p cap W => callsIn_wide.2 (Any.slices_Sort_string_none Tryd.sort190 p cap W)⟩

/-- maps.Keys over a map to truth values. -/
theorem keysB_any (mb : Option Nat) (W : World) : Calls Tryd.prog 31 #[.map mb] W fun e w' => e = .returned (.func (.func 47) #[] #[.pointer (some ⟨W.heap.size, 0, none⟩)]) ∧ w' = W.alloc (.cells #[.map mb] 50) :=
  callsIn_wide.1 (AnyZ.keys_in Tryd.keysB Fence.wide 5 trivial rfl mb W)

set_option maxHeartbeats 1000000 in
/-- slices.Sorted at what maps.Keys gave. -/
theorem sortedB_any {H : Type} (b nn : Nat) (D0 : DataW H) (R : Value → Option (DataW H × List MemPlace)) (w : World) (hown : w.ownsMap Tryd.prog 9 R b nn D0) (hmax : Maps.size D0 ≤ maxLen) (hbytes : Maps.size D0 * 16 ≤ 140737488355328) :
    Calls Tryd.prog 30 #[.func (.func 47) #[] #[.pointer (some ⟨w.heap.size, 0, none⟩)]] (w.alloc (.cells #[.map (some b)] 50)) fun e w' => ∃ (v : Value) (ss : List (List UInt8)), e = .returned v ∧ ss.Perm (strKeys D0) ∧
      w'.ownsRow (w.alloc (.cells #[.map (some b)] 50)).heap.size 9 1 v ss.length ((ss.mergeSort (fun x y => decide (x ≤ y))).map encStr) ∧ (v = .slice none 0 0 ↔ ss = []) ∧ Below (w.alloc (.cells #[.map (some b)] 50)).heap.size (w.alloc (.cells #[.map (some b)] 50)) w' := by
  have hbl := hown.lt
  have hseq : SeqGives Fence.wide 2 Tryd.prog 47 #[.pointer (some ⟨w.heap.size, 0, none⟩)] encStr (fun ss => ss.Perm (strKeys D0)) (Maps.size D0) (w.alloc (.cells #[.map (some b)] 50)) :=
    AnyZ.keys_gives (ρ := Tryd.keysB_ren) { Tryd.keysB with } Fence.wide _ trivial rfl (by omega) w.heap.size b nn D0 _ (by simp) (by simp) (by
      obtain ⟨es, clock, hb, Ft, hs, hD⟩ := hown
      exact ⟨es, clock, (Below.heap_alloc _ _ b hbl).trans hb, Ft, hs, hD⟩)
  exact callsIn_wide.1 (AnyZ.sorted_in Tryd.sortedS Fence.wide 5 trivial trivial trivial trivial rfl (by omega) (sortsS _) (enters_of Tryd.func46 (by kernel_rfl) rfl) 47 #[.pointer (some ⟨w.heap.size, 0, none⟩)] trivial (enters_of Tryd.func47 (by kernel_rfl) rfl) _ _ hmax hbytes _ hseq)

theorem lt_cmpS : ∀ (x y : Str), x < y ↔ cmpS x y < 0
  | [], [] => by simp [cmpS, cmpL]
  | [], _ :: _ => by simp [cmpS, cmpL]
  | _ :: _, [] => by simp [cmpS, cmpL]
  | a :: x, b :: y => by
    rw [List.cons_lt_cons_iff, lt_cmpS x y]
    unfold cmpS
    rw [cmpL]
    by_cases e : cmpB a b = 0
    · have e' := (cmpB_is.eq a b).1 e
      subst e'
      rw [if_pos e]
      constructor
      · rintro (h | h)
        · exact absurd h (UInt8.lt_irrefl a)
        · exact h.2
      · intro h; exact .inr ⟨rfl, h⟩
    · rw [if_neg e]
      have e' : a ≠ b := fun h => e ((cmpB_is.eq a b).2 h)
      unfold cmpB
      constructor
      · rintro (h | h)
        · rw [if_pos h]; decide
        · exact absurd h.1 e'
      · intro h
        by_cases h1 : a < b
        · exact .inl h1
        · rw [if_neg h1] at h
          split at h <;> simp at h

theorem le_cmpS (x y : Str) : x ≤ y ↔ cmpS x y ≤ 0 := by
  rw [← List.not_lt, lt_cmpS, cmpS_is.neg x y]; omega

theorem mem_strKeys {H : Type} (es : List (Lit × DataW H)) (hk : ∀ p ∈ es, ∃ x, p.1 = .string x) (x : Str) : x ∈ strKeys (.map es) ↔ has (.map es) (.string x) = true := by
  rw [has_eq, List.any_eq_true]
  show x ∈ es.map (fun p => strOf p.1) ↔ _
  rw [List.mem_map]
  constructor
  · rintro ⟨p, hp, rfl⟩
    obtain ⟨y, hy⟩ := hk p hp
    refine ⟨p, hp, ?_⟩
    rw [hy]
    exact WideAt.sameKey_self (by simp [WideAt.IsKeyLit, strOf])
  · rintro ⟨p, hp, h⟩
    have := WideAt.sameKey_eq h
    exact ⟨p, hp, by rw [this]; rfl⟩

theorem sortKeys_eq {H : Type} {w : World} {b nn : Nat} {R : Value → Option (DataW H × List MemPlace)} {D : DataW H} (hown : w.ownsMap Tryd.prog 9 R b nn D) {ss L : List Str} (hp : ss.Perm (strKeys D)) (hL : ∀ x, has D (.string x) = true ↔ x ∈ L) :
    ss.mergeSort (fun x y => decide (x ≤ y)) = sortU cmpS L := by
  obtain ⟨es, rfl, hko⟩ := hown.keysOf
  have hk : ∀ p ∈ es, ∃ x, p.1 = .string x := fun p hp => by
    obtain ⟨v, hv⟩ := hko p hp
    obtain ⟨x, _, hx, _⟩ := Maps.keyOf_str Tryd.underlying9 hv
    exact ⟨x, hx⟩
  obtain ⟨es', he, hd⟩ := hown.tidy (Maps.string_keyed Tryd.underlying9)
  injection he with he
  subst he
  have tr : ∀ a b c : List UInt8, leB a b = true → leB b c = true → leB a c = true := fun a b c h1 h2 => by simp only [leB, decide_eq_true_eq] at *; exact List.le_trans h1 h2
  have tot : ∀ a b : List UInt8, (leB a b || leB b a) = true := fun a b => by simp only [leB, Bool.or_eq_true, decide_eq_true_eq]; exact List.le_total a b
  have hmp := List.mergeSort_perm ss leB
  have hnd : (ss.mergeSort leB).Nodup := by
    refine (hmp.trans hp).nodup_iff.2 ?_
    show (es.map fun p => strOf p.1).Nodup
    refine List.pairwise_map.2 (hd.imp_of_mem fun {p q} hp' hq' hne e => hne ?_)
    obtain ⟨a, ha⟩ := hk p hp'
    obtain ⟨b, hb⟩ := hk q hq'
    rw [ha, hb] at e ⊢
    exact congrArg _ e
  refine sortU_eq cmpS_is ?_ fun z => ?_
  · have h1 := List.pairwise_mergeSort tr tot ss
    refine (h1.and hnd).imp fun {x y} ⟨h1, h2⟩ => ?_
    have h3 := (le_cmpS x y).1 (by simpa [leB] using h1)
    have h4 : ¬ cmpS x y = 0 := fun e => h2 ((cmpS_is.eq x y).1 e)
    omega
  · rw [← hL z, ← mem_strKeys es hk z, ← hp.mem_iff]
    exact hmp.mem_iff

end Go.Proofs.YtbgkepdnemgkdaaDoor
