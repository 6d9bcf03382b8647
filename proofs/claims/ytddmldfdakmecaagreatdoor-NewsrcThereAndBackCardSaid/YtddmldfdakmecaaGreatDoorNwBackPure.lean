/- Plain Lean, no program: the numbers of the same articles at two sites, the one order a rearrangement of the other: there and back. -/
import Derived.Test.YtddmldfdakmecaaGreatDoorNwMove
import Derived.Test.YtddmldfdakmecaaGreatDoorNwAllPure
namespace Go.Proofs.YtddmldfdakmecaaGreatDoor
open Go.Nw

def idb (b : UInt8) : Idt := ⟨b :: List.replicate 31 0, by simp⟩
theorem idb_inj {a b : UInt8} (h : idb a = idb b) : a = b := by
  have := congrArg Subtype.val h
  unfold idb at this
  exact (List.cons.inj this).1
def idn (i : Nat) : Idt := idb (UInt8.ofNat i)
theorem idn_inj {i j : Nat} (hi : i < 256) (hj : j < 256) (h : idn i = idn j) : i = j := by
  have h1 := congrArg UInt8.toNat (idb_inj h)
  rw [UInt8.toNat_ofNat', UInt8.toNat_ofNat'] at h1
  omega
def hereL (n : Nat) : List Num := (List.range n).map fun (i : Nat) => (idn (i + 1), (i : Int) + 1)
def thereL (g : Int) (ks : List Nat) : List Num := ks.zipIdx.map fun (p : Nat × Nat) => (idn (p.1 + 1), 1 + (p.2 : Int) * (1 + g))
def allL (n : Nat) : List Int := (List.range n).map fun (i : Nat) => (i : Int) + 1
theorem hereL_succ (n : Nat) : hereL (n + 1) = hereL n ++ [(idn (n + 1), (n : Int) + 1)] := by unfold hereL; rw [List.range_succ, List.map_append]; rfl
theorem allL_succ (n : Nat) : allL (n + 1) = allL n ++ [(n : Int) + 1] := by unfold allL; rw [List.range_succ, List.map_append]; rfl
theorem thereL_snoc (g : Int) (ks : List Nat) (k : Nat) : thereL g (ks ++ [k]) = thereL g ks ++ [(idn (k + 1), 1 + (ks.length : Int) * (1 + g))] := by
  unfold thereL
  rw [List.zipIdx_append, List.map_append]
  simp

theorem pigeon : ∀ (n : Nat) (ks : List Nat), (∀ j, j < n → j ∈ ks) → n ≤ ks.length
  | 0, _, _ => Nat.zero_le _
  | n + 1, ks, h => by
    have hm := h n (Nat.lt_succ_self n)
    have h1 := pigeon n (ks.erase n) fun j hj => (List.mem_erase_of_ne (by omega)).2 (h j (by omega))
    have h2 := List.length_erase_of_mem hm
    have h3 := List.length_pos_of_mem hm
    omega
theorem pigeon2 : ∀ (n : Nat) (ks : List Nat), ks.Nodup → (∀ k ∈ ks, k < n) → ks.length ≤ n
  | 0, ks, _, h => by
    cases ks with
    | nil => exact Nat.le_refl _
    | cons k ks => exact absurd (h k (by simp)) (Nat.not_lt_zero _)
  | n + 1, ks, hd, h => by
    have h1 := pigeon2 n (ks.erase n) (hd.erase n) fun k hk => by
      have := (hd.mem_erase_iff).1 hk
      have := h k this.2
      omega
    by_cases hm : n ∈ ks
    · have h2 := List.length_erase_of_mem hm
      omega
    · rw [List.erase_of_not_mem hm] at h1
      omega
theorem free {n : Nat} {ks : List Nat} (h : ks.length < n) : ∃ j, j < n ∧ j ∉ ks := by
  apply Classical.byContradiction
  intro hc
  have := pigeon n ks fun j hj => Classical.byContradiction fun hm => hc ⟨j, hj, hm⟩
  omega
theorem full {n : Nat} {ks : List Nat} (hd : ks.Nodup) (hl : ks.length = n) (hk : ∀ k ∈ ks, k < n) {j : Nat} (hj : j < n) : j ∈ ks := by
  apply Classical.byContradiction
  intro hm
  have := pigeon2 n (j :: ks) (List.nodup_cons.2 ⟨hm, hd⟩) fun k h => by
    rcases List.mem_cons.1 h with rfl | h
    · exact hj
    · exact hk k h
  rw [List.length_cons] at this
  omega

theorem memB_dup {q : Int} {l : List Int} : memB q (l.map dup) = true ↔ q ∈ l := by
  rw [memB_iff]
  constructor
  · rintro ⟨r, hr, h1, h2⟩
    obtain ⟨x, hx, rfl⟩ := List.mem_map.1 hr
    unfold dup at h1 h2
    simp only at h1 h2
    rwa [show q = x by omega]
  · intro h
    exact ⟨dup q, List.mem_map.2 ⟨q, h, rfl⟩, Int.le_refl _, Int.le_refl _⟩
theorem dup_le {l : List Int} : ∀ r ∈ l.map dup, r.1 ≤ r.2 := fun r hr => by obtain ⟨x, _, rfl⟩ := List.mem_map.1 hr; exact Int.le_refl _
theorem memB_ndup {q : Int} {l : List Int} : memB q (normal (l.map dup)) = true ↔ q ∈ l := by rw [(normal_spec dup_le).2, memB_dup]
theorem mem_moved2 {X : List Rg} {zs ys : List Num} {x : Int} : x ∈ moved (known X zs) ys ↔ ∃ t ∈ ys, (∃ h ∈ zs, h.1 = t.1 ∧ memB h.2 X = true) ∧ x = t.2 := by
  unfold moved known
  simp only [List.mem_map, List.mem_filter, decide_eq_true_eq]
  constructor
  · rintro ⟨t, ⟨ht, h, ⟨hh, hm⟩, e⟩, rfl⟩
    exact ⟨t, ht, ⟨h, hh, e, hm⟩, rfl⟩
  · rintro ⟨t, ht, ⟨h, hh, e, hm⟩, rfl⟩
    exact ⟨t, ⟨ht, h, ⟨hh, hm⟩, e⟩, rfl⟩

theorem countL_ndup {l : List Int} (hd : l.Nodup) : countL (normal (l.map dup)) = (l.length : Int) := by
  have hs := normal_spec (dup_le (l := l))
  rw [← nums_length fun r hr => hs.1.1 r hr]
  have hp : (nums (normal (l.map dup))).Perm l := by
    rw [List.perm_ext_iff_of_nodup ((nums_pairwise hs.1).imp fun h => by omega) hd]
    intro q
    rw [mem_nums, memB_ndup]
  rw [hp.length_eq]

/-- Which articles here were read. -/
theorem here_known {X : List Rg} {n k : Nat} (hn : n ≤ 40) (hk : k < n) : (∃ h ∈ hereL n, h.1 = idn (k + 1) ∧ memB h.2 X = true) ↔ memB ((k : Int) + 1) X = true := by
  unfold hereL
  constructor
  · rintro ⟨h, hh, e, hm⟩
    obtain ⟨i, hi, rfl⟩ := List.mem_map.1 hh
    rw [List.mem_range] at hi
    have := idn_inj (by omega) (by omega) e
    have : i = k := by omega
    subst this
    exact hm
  · intro hm
    exact ⟨_, List.mem_map.2 ⟨k, List.mem_range.2 hk, rfl⟩, rfl, hm⟩
theorem mem_T {X : List Rg} {n : Nat} {g : Int} {ks : List Nat} (hn : n ≤ 40) (hk : ∀ k ∈ ks, k < n) {q : Int} :
    q ∈ moved (known X (hereL n)) (thereL g ks) ↔ ∃ p ∈ ks.zipIdx, memB ((p.1 : Int) + 1) X = true ∧ q = 1 + (p.2 : Int) * (1 + g) := by
  rw [mem_moved2]
  unfold thereL
  constructor
  · rintro ⟨t, ht, hh, rfl⟩
    obtain ⟨p, hp, rfl⟩ := List.mem_map.1 ht
    have hpk := hk p.1 (List.fst_mem_of_mem_zipIdx hp)
    exact ⟨p, hp, (here_known hn hpk).1 hh, rfl⟩
  · rintro ⟨p, hp, hm, rfl⟩
    have hpk := hk p.1 (List.fst_mem_of_mem_zipIdx hp)
    exact ⟨_, List.mem_map.2 ⟨p, hp, rfl⟩, (here_known hn hpk).2 hm, rfl⟩
/-- Which articles there were read. -/
theorem there_known {X : List Rg} {n : Nat} {g : Int} {ks : List Nat} (hn : n ≤ 40) (hg : 0 ≤ g) (hd : ks.Nodup) (hl : ks.length = n) (hk : ∀ k ∈ ks, k < n) {j : Nat} (hj : j < n) :
    (∃ t ∈ thereL g ks, t.1 = idn (j + 1) ∧ memB t.2 (normal ((moved (known X (hereL n)) (thereL g ks)).map dup)) = true) ↔ memB ((j : Int) + 1) X = true := by
  constructor
  · rintro ⟨t, ht, e, hm⟩
    unfold thereL at ht
    obtain ⟨⟨k, i⟩, hp, rfl⟩ := List.mem_map.1 ht
    have hpk := hk k (List.fst_mem_of_mem_zipIdx hp)
    have hkj := idn_inj (by simp only; omega) (by omega) e
    simp only at hkj
    have : k = j := by omega
    subst this
    rw [memB_ndup, mem_T hn hk] at hm
    obtain ⟨⟨k', i'⟩, hp', hm', he⟩ := hm
    simp only at he hm'
    have hmul : (i : Int) * (1 + g) = (i' : Int) * (1 + g) := by omega
    have hii : (i : Int) = (i' : Int) := Int.eq_of_mul_eq_mul_right (by omega) hmul
    have : i = i' := by omega
    subst this
    rw [List.mem_zipIdx_iff_getElem?] at hp hp'
    simp only at hp hp'
    rw [hp] at hp'
    injection hp' with hp'
    subst hp'
    exact hm'
  · intro hm
    obtain ⟨i, hi, e⟩ := List.getElem_of_mem (full hd hl hk hj)
    have hz : (j, i) ∈ ks.zipIdx := by
      rw [List.mem_zipIdx_iff_getElem?]
      simp only
      rw [List.getElem?_eq_getElem hi, e]
    refine ⟨_, List.mem_map.2 ⟨(j, i), hz, rfl⟩, rfl, ?_⟩
    rw [memB_ndup, mem_T hn hk]
    exact ⟨(j, i), hz, hm, rfl⟩

theorem hereL_snd (n : Nat) : (hereL n).map (·.2) = allL n := by unfold hereL allL; rw [List.map_map]; rfl
theorem allL_nodup (n : Nat) : (allL n).Nodup := by
  unfold allL
  rw [List.nodup_iff_pairwise_ne, List.pairwise_map]
  exact List.pairwise_lt_range.imp fun h => by omega
theorem thereL_snd (g : Int) (ks : List Nat) : (thereL g ks).map (·.2) = (List.range ks.length).map fun (i : Nat) => 1 + (i : Int) * (1 + g) := by
  unfold thereL
  rw [List.map_map]
  have : ks.zipIdx.map (fun (p : Nat × Nat) => p.2) = List.range ks.length := by
    rw [List.range_eq_range']
    exact List.zipIdx_map_snd 0 ks
  rw [← this, List.map_map]
  rfl
theorem thereL_nodup {g : Int} (hg : 0 ≤ g) (ks : List Nat) : ((thereL g ks).map (·.2)).Nodup := by
  rw [thereL_snd, List.nodup_iff_pairwise_ne, List.pairwise_map]
  refine List.pairwise_lt_range.imp fun {i j} h => ?_
  intro e
  have hmul : (i : Int) * (1 + g) = (j : Int) * (1 + g) := by omega
  have : (i : Int) = (j : Int) := Int.eq_of_mul_eq_mul_right (by omega) hmul
  omega
theorem moved_sub (ks : List Idt) (l : List Num) : List.Sublist (moved ks l) (l.map (·.2)) := by unfold moved; exact (List.filter_sublist).map _

theorem moved_count (ks : List Idt) (l : List Num) : (moved ks l).length = l.countP fun q => decide (q.1 ∈ ks) := by
  unfold moved; rw [List.length_map, List.countP_eq_length_filter]
theorem mem_known {X : List Rg} {zs : List Num} {i : Idt} : i ∈ known X zs ↔ ∃ h ∈ zs, h.1 = i ∧ memB h.2 X = true := by
  unfold known
  simp only [List.mem_map, List.mem_filter]
  exact ⟨fun ⟨h, ⟨hh, hm⟩, e⟩ => ⟨h, hh, e, hm⟩, fun ⟨h, hh, e, hm⟩ => ⟨h, ⟨hh, hm⟩, e⟩⟩

/-- THE LAW. -/
theorem back_law {X W : List Rg} {n : Nat} {g : Int} {ks : List Nat} (hn : n ≤ 40) (hg : 0 ≤ g) (hd : ks.Nodup) (hl : ks.length = n) (hk : ∀ k ∈ ks, k < n) (hW : Norm W)
    (hm : ∀ q, memB q W = (memB q X && memB q (normal ((allL n).map dup)))) :
    normal ((moved (known (normal ((moved (known X (hereL n)) (thereL g ks)).map dup)) (thereL g ks)) (hereL n)).map dup) = W ∧
    countL (normal ((moved (known X (hereL n)) (thereL g ks)).map dup)) = countL W := by
  generalize hT : normal ((moved (known X (hereL n)) (thereL g ks)).map dup) = T
  have hB : normal ((moved (known T (thereL g ks)) (hereL n)).map dup) = W := by
    refine Norm.unique (normal_spec dup_le).1 hW fun q => ?_
    rw [Bool.eq_iff_iff, memB_ndup, mem_moved2, hm, Bool.and_eq_true, memB_ndup]
    unfold allL
    constructor
    · rintro ⟨h, hh, ⟨t, ht, e, hmt⟩, rfl⟩
      unfold hereL at hh
      obtain ⟨j, hj, rfl⟩ := List.mem_map.1 hh
      rw [List.mem_range] at hj
      rw [← hT] at hmt
      exact ⟨(there_known hn hg hd hl hk hj).1 ⟨t, ht, e, hmt⟩, List.mem_map.2 ⟨j, List.mem_range.2 hj, rfl⟩⟩
    · rintro ⟨hx, hq⟩
      obtain ⟨j, hj, rfl⟩ := List.mem_map.1 hq
      rw [List.mem_range] at hj
      obtain ⟨t, ht, e, hmt⟩ := (there_known hn hg hd hl hk hj).2 hx
      rw [hT] at hmt
      exact ⟨_, List.mem_map.2 ⟨j, List.mem_range.2 hj, rfl⟩, ⟨t, ht, e, hmt⟩, rfl⟩
  refine ⟨hB, ?_⟩
  rw [← hB, ← hT, countL_ndup ((thereL_nodup hg ks).sublist (moved_sub _ _)), hT, countL_ndup (by
    have := allL_nodup n
    rw [← hereL_snd] at this
    exact this.sublist (moved_sub _ _)), moved_count, moved_count]
  have e1 : (thereL g ks).countP (fun q => decide (q.1 ∈ known X (hereL n))) = ks.countP fun (k : Nat) => memB ((k : Int) + 1) X := by
    unfold thereL
    rw [List.countP_map]
    have e : ks = ks.zipIdx.map Prod.fst := (List.zipIdx_map_fst 0 ks).symm
    conv => rhs; rw [e, List.countP_map]
    refine List.countP_congr fun p hp => ?_
    have hpk := hk p.1 (List.fst_mem_of_mem_zipIdx hp)
    simp only [Function.comp, decide_eq_true_eq]
    rw [mem_known]
    exact here_known hn hpk
  have e2 : (hereL n).countP (fun q => decide (q.1 ∈ known T (thereL g ks))) = (List.range n).countP fun (k : Nat) => memB ((k : Int) + 1) X := by
    conv => lhs; unfold hereL
    rw [List.countP_map]
    refine List.countP_congr fun j hj => ?_
    rw [List.mem_range] at hj
    simp only [Function.comp, decide_eq_true_eq]
    rw [mem_known, ← hT]
    exact there_known hn hg hd hl hk hj
  rw [e1, e2]
  have hp : ks.Perm (List.range n) := (List.perm_ext_iff_of_nodup hd List.nodup_range).2 fun j => ⟨fun h => List.mem_range.2 (hk j h), fun h => full hd hl hk (List.mem_range.1 h)⟩
  rw [hp.countP_eq]
end Go.Proofs.YtddmldfdakmecaaGreatDoor
