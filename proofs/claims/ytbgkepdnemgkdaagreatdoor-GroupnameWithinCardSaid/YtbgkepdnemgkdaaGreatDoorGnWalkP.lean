/- Walk of groupname.Sort, for at most 4096 names. -/
import Derived.Test.YtbgkepdnemgkdaaGreatDoorGnWalkO
import Derived.Test.YtbgkepdnemgkdaaGreatDoorGnCompact
namespace Go.Proofs.YtbgkepdnemgkdaaGreatDoor
open Go.RowKit Go.Gn Go.Sort

def CompactPost (base : Nat) (a : Option Addr) (c : Nat) (L : List Str) (w : World) (e : Ending) (w' : World) : Prop :=
  ∃ ys : List ByteArray, e = .returned (.slice a ys.length c) ∧ ys.map bs = Lib.compact L ∧ SS w' a ys ∧ ys.length ≤ c ∧ Below base w w'

theorem compact_le {α : Type} [Inhabited α] [DecidableEq α] (L : List α) : (Lib.compact L).length ≤ L.length := by
  unfold Lib.compact Lib.compactUpTo
  rw [List.length_map]
  exact Nat.le_trans (List.length_filter_le _ _) (by simp)

/-- slices.Compact. -/
theorem compact_any (base : Nat) (a : Option Addr) (n c : Nat) (zs : List ByteArray) (w : World) (hO : OwnS w base (.slice a n c) zs) (hn : zs.length = n) (hN : n ≤ 1000000) :
    Calls Tryz.prog 56 #[.slice a n c] w fun e w' => CompactPost base a c (zs.map bs) w e w' := by
  subst hn
  have hO' := hO
  rcases hO.2 with ⟨h1, h2⟩ | ⟨g, cap, cur, h1, hbg, hb, hle, hcap, hcs, htk⟩
  · simp only [Value.slice.injEq] at h1
    obtain ⟨rfl, _, rfl⟩ := h1
    obtain rfl : zs = [] := List.eq_nil_of_length_eq_zero h2
    exact (Tryz.slices_Compact_string_empty none 0 w).mono fun e w' ⟨he, hw⟩ => ⟨[], he, rfl, .inl rfl, Nat.le_refl _, hw ▸ Below.refl _ _⟩
  · simp only [Value.slice.injEq] at h1
    obtain ⟨rfl, _, rfl⟩ := h1
    have htk' : cur.toList.take (zs.map bs).length = (zs.map bs).map encStr := by
      rw [map_encStr, List.length_map, ← htk, Nat.mul_one]
    have hH : Holds encStr w g 0 (zs.map bs).toArray := holds_of_block hb htk'
    have hcl := compact_le (zs.map bs)
    have hcon := Tryz.slices_Compact_string g 0 c (zs.map bs) w hH (by rw [List.length_map]; omega) (by rw [List.length_map]; exact hle)
    rw [List.length_map] at hcl hcon
    refine hcon.mono fun e w' ⟨he, q, hw⟩ => ?_
    have h3 := ownsRow_sorted (os := #[]) (n := q) (ss := zs.map bs) (ts := Lib.compact (zs.map bs) ++ List.replicate (zs.length - (Lib.compact (zs.map bs)).length) []) (base := base) (by simp; omega) hbg hb (by simpa using hle) hcap hcs
    rw [grow_empty, ← hw] at h3
    refine ⟨(Lib.compact (zs.map bs)).map mkS, by rw [he, List.length_map], map_mkS _, .inr ⟨g, 0, rfl, ?_, ?_⟩, by rw [List.length_map]; omega, ?_⟩
    · exact ((World.ownsRow.lt h3) g rfl).2
    · intro j x hx
      have := World.ownsRow.cells h3 (g := g) rfl j (.string x) (by
        rw [List.map_append, List.getElem?_append_left (by
          have := (List.getElem?_eq_some_iff.1 hx).1
          simpa using this), List.getElem?_map]
        rw [List.getElem?_map] at hx
        cases hc : (Lib.compact (zs.map bs))[j]? with
        | none => rw [hc] at hx; cases hx
        | some y => rw [hc] at hx; simp only [Option.map_some, Option.some.injEq] at hx ⊢; rw [← hx])
      rwa [add_plain, ← Nat.zero_add j] at this
    · rw [hw]
      have := grownBy_sorted (w := w) (g := g) (n := q) (os := #[]) (Lib.compact (zs.map bs) ++ List.replicate (zs.length - (Lib.compact (zs.map bs)).length) []).toArray
      rw [grow_empty] at this
      exact (Below.refl base w).grown this (Nat.le_of_lt (Nat.lt_of_le_of_lt hbg (Array.getElem?_eq_some_iff.1 hb).1)) (fun k hk => by cases hk; exact hbg)

/-- The first error of names. -/
def sortErr : List Str → Nat
  | [] => 0
  | s :: rest => if check s ≠ 0 then check s else sortErr rest

theorem sortErr_stop {s : Str} {rest : List Str} (h : check s ≠ 0) : sortErr (s :: rest) = check s := by rw [sortErr, if_pos h]
theorem sortErr_on {s : Str} {rest : List Str} (h : check s = 0) : sortErr (s :: rest) = sortErr rest := by rw [sortErr, if_neg (by simp [h])]
theorem sortErr_zero : ∀ (L : List Str), sortErr L = 0 → ∀ s ∈ L, check s = 0
  | [], _, s, hs => by simp at hs
  | x :: L, h, s, hs => by
    by_cases hx : check x = 0
    · rw [sortErr_on hx] at h
      rcases List.mem_cons.1 hs with rfl | hs
      · exact hx
      · exact sortErr_zero L h s hs
    · rw [sortErr_stop hx] at h; exact absurd h hx

theorem ret_nilk {m n : Int} (h : m = n) : Ending.returned (.tuple #[.slice none 0 0, .int .i64 m]) = Ending.returned (.tuple #[.slice none 0 0, .int .i64 n]) := by rw [h]
theorem ML.lt {w : World} (h : ML w) : 0 < w.heap.size := by
  obtain ⟨m, hm⟩ := h
  exact World.block_lt_of_cell? w _ hm

theorem sorted_final {L Z M : List Str} (hp : Z.Perm L) (hs : Z.Pairwise fun x y => cmp x y ≤ 0) (hM : M = Lib.compact Z) : M = sortU cmp L := by
  obtain ⟨h1, h2⟩ := compact_sorted cmp_is Z hs
  rw [hM]
  exact sortU_eq cmp_is h1 fun z => by rw [h2, hp.mem_iff]

def GSortPost (n : Nat) (L : List Str) (w : World) (e : Ending) (w' : World) : Prop :=
  Below w.heap.size w w' ∧
  ((sortErr L ≠ 0 ∧ e = .returned (.tuple #[.slice none 0 0, .int .i64 (sortErr L : Nat)])) ∨
   (sortErr L = 0 ∧ ∃ (a : Option Addr) (c : Nat) (ys : List ByteArray), e = .returned (.tuple #[.slice a ys.length c, .int .i64 0]) ∧ ys.map bs = sortU cmp L ∧ SS w' a ys ∧ ys.length ≤ c))

set_option maxRecDepth 100000 in
set_option maxHeartbeats 2000000 in
/-- 'Sort', up to 4096 names. -/
theorem gsort_any (a : Option Addr) (n c : Nat) (zs : List ByteArray) (w : World) (hn : zs.length = n) (hN : n ≤ 4096) (hS : SS w a zs) (hsz : ∀ x ∈ zs, x.size ≤ 1000000) (hM : ML w) :
    Calls Tryz.prog 35 #[.slice a n c] w fun e w' => GSortPost n (zs.map bs) w e w' := by
  have HN := Lib.hid hn
  clear hn
  go_enter Tryz.func35, Tryz.ntmps35
  go_wp2
  go_loopg [5, 6, 13] n (fun gg _ _ s13 wr => ∃ kk : Nat, kk ≤ n ∧ n - kk ≤ gg ∧ s13 = .int .i64 kk ∧ Below w.heap.size w wr ∧ Aside (sortErr (zs.map bs) = sortErr ((zs.map bs).drop kk)))
  case atStart => exact ⟨0, Nat.zero_le _, by omega, rfl, Below.refl _ _, show Aside _ from rfl⟩
  case round =>
    obtain ⟨kk, hkk, hg, rfl, hB, A⟩ := hrel
    by_cases hlt : kk < n
    · have hltz : (kk : Int) < (n : Int) := by omega
      have hkz : kk < zs.length := by rw [HN.out]; exact hlt
      obtain ⟨b, off, rfl, hb, hcell0⟩ := hS.some hkz
      have hcell := (hB.cell (p := ⟨b, off + kk, none⟩) hb).trans hcell0
      have hy := hsz _ (List.getElem_mem hkz)
      have HG : Hid ((zs.map bs)[kk]? = some (bs zs[kk])) := get_bs hkz
      clear hcell0 hsz
      generalize zs[kk] = y at hcell HG hy
      have hK := check_any y wr (by omega) (hM.below hB)
      unfold GivesB at hK
      have HS := Lib.hid hS
      clear hS
      by_cases hq : check (bs y) = 0
      · have HQ := Lib.hid hq
        rw [hq] at hK
        clear hq
        go_wp2_with (go_at_call 19; refine hK.mono ?_; rintro e w' ⟨rfl, hb1⟩)
        go_roundg (n - (kk + 1))
        case measure => omega
        case rel => exact ⟨kk + 1, by omega, by omega, by go_num, below_then' hB hb1, by unfold Aside; rw [A.out, drop_at HG.out, sortErr_on HQ.out]⟩
      · have HV : Hid (sortErr (zs.map bs) = check (bs y)) := by unfold Hid; rw [A.out, drop_at HG.out, sortErr_stop hq]
        have HQ := Lib.hid hq
        have hk : (((check (bs y) : Nat) : Int) != 0) = true := by simp; omega
        generalize hkk : check (bs y) = k at hK hk HV HQ
        clear hq hkk
        go_wp2_with (go_at_call 19; refine hK.mono ?_; rintro e w' ⟨rfl, hb1⟩)
        go_ret2
        exact ⟨below_then' hB hb1, .inl ⟨by rw [HV.out]; exact HQ.out, ret_nilk (by rw [HV.out])⟩⟩
    · have hltz : ¬ (kk : Int) < (n : Int) := by omega
      have HZ : Hid (sortErr (zs.map bs) = 0) := by unfold Hid; rw [A.out, List.drop_of_length_le (by rw [List.length_map, HN.out]; omega)]; rfl
      have hCl := clone_any a n c zs wr HN.out (by omega) (hS.below hB)
      have hMr := hM.below hB
      have h80 : ∀ x ∈ zs, (bs x).length ≤ 80 := fun x hx => ((check_zero (bs x)).1 (sortErr_zero _ HZ.out _ (List.mem_map_of_mem hx))).1
      have HH := Lib.hid h80
      clear hsz h80 hS hM
      go_wp2_with (go_at_call 54; refine hCl.mono ?_; rintro e w1 ⟨a1, c1, rfl, hO1, hB1⟩)
      have hSo := sortFunc_any wr.heap.size a1 n c1 zs w1 hO1 HH.out (hMr.below hB1) hMr.lt (by omega)
      have hLt := Lib.hid hSo
      clear hSo
      refine hLt.out.mono ?_
      rintro e w2 ⟨rfl, ys, hyn, hO2, hperm, hpw, hB2⟩
      have HP := Lib.hid hperm
      have HW := Lib.hid hpw
      have hCo := compact_any wr.heap.size a1 n c1 ys w2 hO2 hyn (by omega)
      have HY := Lib.hid hyn
      clear hperm hpw hyn
      go_wp2_with (go_at_call 56; refine hCo.mono ?_; rintro e w3 ⟨zz, rfl, hzz, hS3, hle3, hB3⟩; have HZZ := Lib.hid hzz; clear hzz)
      go_ret2
      refine ⟨?_, .inr ⟨HZ.out, a1, c1, zz, rfl, sorted_final HP.out HW.out HZZ.out, hS3, hle3⟩⟩
      exact hB.trans (((hB1.trans hB2).trans hB3).mono hB.size)

end Go.Proofs.YtbgkepdnemgkdaaGreatDoor
