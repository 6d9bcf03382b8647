/- slices.Sorted of maps.Keys of a map from strings to truth values. -/
import Derived.Test.YtbgkepdnemgkdaaGreatDoorGnWalkP
import Derived.Maps.Views
import Derived.Maps.OwnSet
import Derived.Sort.KeysCollected
namespace Go.Proofs.YtbgkepdnemgkdaaGreatDoor
open Go.RowKit Go.Gn Go.Sort Go.Maps Go.Shelf

/-- slices.Sort's two contracts at this dump, at the fence that asks nothing. -/
theorem sortsS (m : Nat) : AnyZ.SortsIn Tryz.prog Tryz.sortedS_ren Fence.wide m :=
  ⟨fun blk off cap ss W hH hblk hsz => callsIn_wide.2 (Any.slices_Sort_string Tryz.sort190 blk off cap ss W hH hblk hsz),
   fun p cap W => callsIn_wide.2 (Any.slices_Sort_string_none Tryz.sort190 p cap W)⟩

/-- maps.Keys over a map to truth values. -/
theorem keysB_any (mb : Option Nat) (W : World) : Calls Tryz.prog 41 #[.map mb] W fun e w' => e = .returned (.func (.func 62) #[] #[.pointer (some ⟨W.heap.size, 0, none⟩)]) ∧ w' = W.alloc (.cells #[.map mb] 62) :=
  callsIn_wide.1 (AnyZ.keys_in Tryz.keysB Fence.wide 5 trivial rfl mb W)

set_option maxHeartbeats 1000000 in
/-- slices.Sorted at what maps.Keys gave. -/
theorem sortedB_any {H : Type} (b nn : Nat) (D0 : DataW H) (R : Value → Option (DataW H × List MemPlace)) (w : World) (hown : w.ownsMap Tryz.prog 9 R b nn D0) (hmax : Maps.size D0 ≤ maxLen) (hbytes : Maps.size D0 * 16 ≤ 140737488355328) :
    Calls Tryz.prog 40 #[.func (.func 62) #[] #[.pointer (some ⟨w.heap.size, 0, none⟩)]] (w.alloc (.cells #[.map (some b)] 62)) fun e w' => ∃ (v : Value) (ss : List (List UInt8)), e = .returned v ∧ ss.Perm (strKeys D0) ∧
      w'.ownsRow (w.alloc (.cells #[.map (some b)] 62)).heap.size 9 1 v ss.length ((ss.mergeSort (fun x y => decide (x ≤ y))).map encStr) ∧ (v = .slice none 0 0 ↔ ss = []) ∧ Below (w.alloc (.cells #[.map (some b)] 62)).heap.size (w.alloc (.cells #[.map (some b)] 62)) w' := by
  have hbl := hown.lt
  have hseq : SeqGives Fence.wide 2 Tryz.prog 62 #[.pointer (some ⟨w.heap.size, 0, none⟩)] encStr (fun ss => ss.Perm (strKeys D0)) (Maps.size D0) (w.alloc (.cells #[.map (some b)] 62)) :=
    AnyZ.keys_gives (ρ := Tryz.keysB_ren) { Tryz.keysB with } Fence.wide _ trivial rfl (by omega) w.heap.size b nn D0 _ (by simp) (by simp) (by
      obtain ⟨es, clock, hb, Ft, hs, hD⟩ := hown
      exact ⟨es, clock, (Below.heap_alloc _ _ b hbl).trans hb, Ft, hs, hD⟩)
  exact callsIn_wide.1 (AnyZ.sorted_in Tryz.sortedS Fence.wide 5 trivial trivial trivial trivial rfl (by omega) (sortsS _) (enters_of Tryz.func61 (by kernel_rfl) rfl) 62 #[.pointer (some ⟨w.heap.size, 0, none⟩)] trivial (enters_of Tryz.func62 (by kernel_rfl) rfl) _ _ hmax hbytes _ hseq)

theorem lt_cmpS : ∀ (x y : Str), x < y ↔ cmpS x y < 0
  | [], [] => by simp [cmpS, cmpL]
  | [], _ :: _ => by simp [cmpS, cmpL]
  | _ :: _, [] => by simp [cmpS, cmpL]
  | a :: x, b :: y => by
    rw [List.cons_lt_cons_iff, lt_cmpS x y]
    unfold cmpS
    rw [cmpL]
    by_cases e : cmpB a b = 0
    · have e' := (cmpB_is.eq a b).1 e
      subst e'
      rw [if_pos e]
      constructor
      · rintro (h | h)
        · exact absurd h (UInt8.lt_irrefl a)
        · exact h.2
      · intro h; exact .inr ⟨rfl, h⟩
    · rw [if_neg e]
      have e' : a ≠ b := fun h => e ((cmpB_is.eq a b).2 h)
      unfold cmpB
      constructor
      · rintro (h | h)
        · rw [if_pos h]; decide
        · exact absurd h.1 e'
      · intro h
        by_cases h1 : a < b
        · exact .inl h1
        · rw [if_neg h1] at h
          split at h <;> simp at h

theorem le_cmpS (x y : Str) : x ≤ y ↔ cmpS x y ≤ 0 := by
  rw [← List.not_lt, lt_cmpS, cmpS_is.neg x y]; omega

theorem mem_strKeys {H : Type} (es : List (Lit × DataW H)) (hk : ∀ p ∈ es, ∃ x, p.1 = .string x) (x : Str) : x ∈ strKeys (.map es) ↔ has (.map es) (.string x) = true := by
  rw [has_eq, List.any_eq_true]
  show x ∈ es.map (fun p => strOf p.1) ↔ _
  rw [List.mem_map]
  constructor
  · rintro ⟨p, hp, rfl⟩
    obtain ⟨y, hy⟩ := hk p hp
    refine ⟨p, hp, ?_⟩
    rw [hy]
    exact WideAt.sameKey_self (by simp [WideAt.IsKeyLit, strOf])
  · rintro ⟨p, hp, h⟩
    have := WideAt.sameKey_eq h
    exact ⟨p, hp, by rw [this]; rfl⟩

theorem sortKeys_eq {H : Type} {w : World} {b nn : Nat} {R : Value → Option (DataW H × List MemPlace)} {D : DataW H} (hown : w.ownsMap Tryz.prog 9 R b nn D) {ss L : List Str} (hp : ss.Perm (strKeys D)) (hL : ∀ x, has D (.string x) = true ↔ x ∈ L) :
    ss.mergeSort (fun x y => decide (x ≤ y)) = sortU cmpS L := by
  obtain ⟨es, rfl, hko⟩ := hown.keysOf
  have hk : ∀ p ∈ es, ∃ x, p.1 = .string x := fun p hp => by
    obtain ⟨v, hv⟩ := hko p hp
    obtain ⟨x, _, hx, _⟩ := Maps.keyOf_str Tryz.underlying9 hv
    exact ⟨x, hx⟩
  obtain ⟨es', he, hd⟩ := hown.tidy (Maps.string_keyed Tryz.underlying9)
  injection he with he
  subst he
  have tr : ∀ a b c : List UInt8, leB a b = true → leB b c = true → leB a c = true := fun a b c h1 h2 => by simp only [leB, decide_eq_true_eq] at *; exact List.le_trans h1 h2
  have tot : ∀ a b : List UInt8, (leB a b || leB b a) = true := fun a b => by simp only [leB, Bool.or_eq_true, decide_eq_true_eq]; exact List.le_total a b
  have hmp := List.mergeSort_perm ss leB
  have hnd : (ss.mergeSort leB).Nodup := by
    refine (hmp.trans hp).nodup_iff.2 ?_
    show (es.map fun p => strOf p.1).Nodup
    refine List.pairwise_map.2 (hd.imp_of_mem fun {p q} hp' hq' hne e => hne ?_)
    obtain ⟨a, ha⟩ := hk p hp'
    obtain ⟨b, hb⟩ := hk q hq'
    rw [ha, hb] at e ⊢
    exact congrArg _ e
  refine sortU_eq cmpS_is ?_ fun z => ?_
  · have h1 := List.pairwise_mergeSort tr tot ss
    refine (h1.and hnd).imp fun {x y} ⟨h1, h2⟩ => ?_
    have h3 := (le_cmpS x y).1 (by simpa [leB] using h1)
    have h4 : ¬ cmpS x y = 0 := fun e => h2 ((cmpS_is.eq x y).1 e)
    omega
  · rw [← hL z, ← mem_strKeys es hk z, ← hp.mem_iff]
    exact hmp.mem_iff

end Go.Proofs.YtbgkepdnemgkdaaGreatDoor
