/- Walk of the reference Children, for lists of at most 4096 strings. -/
import Derived.Test.YtbgkepdnemgkdaaDoorGnRefSort
import Derived.Test.YtbgkepdnemgkdaaDoorGnKids
import Derived.Test.YtbgkepdnemgkdaaDoorGnRefWithin
namespace Go.Proofs.YtbgkepdnemgkdaaDoor
open Go.RowKit Go.Gn

def RKidsPost (L : List Str) (h : Str) (w : World) (e : Ending) (w' : World) : Prop :=
  Below w.heap.size w w' ∧
  ((kidErr L h ≠ 0 ∧ e = .returned (.tuple #[.slice none 0 0, .int .i64 (kidErr L h : Nat)])) ∨
   (kidErr L h = 0 ∧ ∃ (a : Option Addr) (c : Nat) (ys : List ByteArray), e = .returned (.tuple #[.slice a ys.length c, .int .i64 0]) ∧ ys.map bs = sortU cmp (kids (preOf h) (sortU cmp L)) ∧ SS w' a ys ∧ ys.length ≤ c))

theorem kids_take' {pre : Str} {L : List Str} {k : Nat} {s : Str} (hk : L[k]? = some s) : kids pre (L.take (k + 1)) = kids pre (L.take k) ++ (kid pre s).toList := by
  unfold kids
  rw [List.take_add_one, hk, List.filterMap_append]
  congr 1
theorem sortU_snoc (K : List Str) (x : Str) : sortU cmp (K ++ [x]) = ins cmp (sortU cmp K) x := by
  unfold sortU; rw [List.foldl_append]; rfl

set_option maxRecDepth 100000 in
set_option maxHeartbeats 2000000 in
theorem rchildren0 (a : Option Addr) (n c : Nat) (zs : List ByteArray) (w : World) (hn : zs.length = n) (hN : n ≤ 4096) (hS : SS w a zs) (hsz : ∀ x ∈ zs, x.size ≤ 1000) :
    Calls Tryd.prog 15 #[.slice a n c, .string ⟨#[]⟩] w fun e w' => RKidsPost (zs.map bs) [] w e w' := by
  have hs1 := rsort_any a n c zs w hn hN hS hsz
  have HN := Lib.hid hn
  have HKE : Hid (kidErr (zs.map bs) [] = sortErr (zs.map bs)) := by unfold Hid kidErr; rw [if_neg (by simp)]
  clear hn hS hsz
  go_enter Tryd.func15, Tryd.ntmps15
  go_wp2_with fail
  refine hs1.mono ?_
  clear hs1
  rintro e w2 ⟨hb2, ⟨hnz, rfl⟩ | ⟨hz, a2, c2, ys, rfl, hys, hS2, hle⟩⟩
  · have hk : (((sortErr (zs.map bs) : Nat) : Int) != 0) = true := by simp; omega
    have HNZ := Lib.hid hnz
    clear hnz
    generalize sortErr (zs.map bs) = q at hk HNZ HKE
    go_wp2
    go_ret2
    exact ⟨hb2, .inl ⟨by rw [HKE.out]; exact HNZ.out, ret_nilk (by rw [HKE.out])⟩⟩
  · have HZ : Hid (kidErr (zs.map bs) [] = 0) := by unfold Hid; rw [HKE.out, hz]
    have HSE := Lib.hid hz
    have HYS := Lib.hid hys
    clear hz hys HKE
    have HSZ : Hid (∀ y ∈ ys, y.size ≤ 80) := fun y hy => by
      have h1 : bs y ∈ sortU cmp (zs.map bs) := by rw [← HYS.out]; exact List.mem_map_of_mem hy
      have h2 := ((check_zero _).1 (sortErr_zero _ HSE.out _ ((mem_sortU cmp_is _ _).1 h1))).1
      rwa [len_bs] at h2
    have hn4 : ys.length ≤ n := by
      rw [← List.length_map (f := bs), HYS.out]
      exact Nat.le_trans (length_sortU _ _) (by rw [List.length_map, HN.out]; exact Nat.le_refl _)
    clear HSE
    go_wp2
    go_loopg [9, 10] ys.length (fun gg s9 s10 wr => ∃ (k : Nat) (ao : Option Addr) (co : Nat) (os : List ByteArray), k ≤ ys.length ∧ ys.length - k ≤ gg ∧ s10 = .int .i64 k ∧ s9 = .slice ao os.length co ∧ SS wr ao os ∧ os.length ≤ co ∧ (ao = none → co = 0) ∧ co ≤ 9223372036854775807 ∧ os.length ≤ k ∧ Below w2.heap.size w2 wr ∧ Aside (os.map bs = sortU cmp (kids (preOf []) ((ys.map bs).take k)) ∧ ∀ y ∈ os, y.size ≤ 1000))
    case atStart => exact ⟨0, none, 0, [], Nat.zero_le _, by omega, rfl, rfl, .inl rfl, Nat.le_refl _, fun _ => rfl, Nat.zero_le _, Nat.le_refl _, Below.refl _ _, show Aside _ from ⟨rfl, by simp⟩⟩
    case round =>
      obtain ⟨k, ao, co, os, hk, hg, rfl, rfl, hO, hco, hno, hcm, hok, hB, A⟩ := hrel
      by_cases hlt : k < ys.length
      · have hltz : (k : Int) < (ys.length : Int) := by omega
        obtain ⟨b, off, rfl, hb, hcell0⟩ := hS2.some hlt
        have HC0 := Lib.hid hcell0
        have hcell := (hB.cell (p := ⟨b, off + k, none⟩) hb).trans hcell0
        have hy := HSZ.out _ (List.getElem_mem hlt)
        have HG : Hid ((ys.map bs)[k]? = some (bs ys[k])) := get_bs hlt
        clear hcell0
        generalize ys[k] = y at hcell HG hy HC0
        have hP := rparts_dot y wr (by omega)
        have HKT : Hid (kids (preOf []) ((ys.map bs).take (k + 1)) = kids (preOf []) ((ys.map bs).take k) ++ (kid (preOf []) (bs y)).toList) := kids_take' HG.out
        go_wp2_with fail
        refine hP.mono ?_
        rintro e w3 ⟨ax, cx, x, hx, rfl, hX, hxc, hxm, hB3⟩
        have hxl := len_split hx
        have HX := Lib.hid hx
        have h0 : 0 < x.length := by
          rw [← List.length_map (f := bs), hx]
          exact List.length_pos_iff.2 (parts_ne_nil _ _)
        clear hP hx
        obtain ⟨bx, ox, rfl, hbx, hxc0⟩ := hX.some h0
        rw [Nat.add_zero] at hxc0
        have HK : Hid (kid (preOf []) (bs y) = some (bs x[0])) := by
          unfold Hid
          rw [rkid_eq, rkid, if_pos rfl, ← HX.out, get_bs h0]; rfl
        have hx0 : x[0].size ≤ 80 := by
          have := size_mem_parts HX.out x[0] (List.getElem_mem h0)
          omega
        generalize x[0] = x0 at hxc0 HK hx0
        have hw3 := hB.trans (hB3.mono hB.size)
        go_wp2_with fail
        refine (rinsert_any ao os.length co os x0 w3 rfl hco hcm (by omega) (hO.below hB3) hno (fun z hz => A.out.2 z hz) (by omega)).mono ?_
        rintro e w4 ⟨a4, c4, zs4, rfl, hy4, hS4, hle4, hno4, hcm4, hb4⟩
        have HY := Lib.hid hy4
        clear hy4
        go_wp2
        go_roundg (ys.length - (k + 1))
        case measure => omega
        case rel =>
          have hl4 : zs4.length ≤ k + 1 := by
            have := length_ins cmp (bs x0) (os.map bs)
            rw [← HY.out, List.length_map, List.length_map] at this
            omega
          refine ⟨k + 1, a4, c4, zs4, by omega, by omega, by go_num, rfl, hS4, hle4, hno4, hcm4, hl4, hw3.trans (hb4.mono hw3.size), show Aside _ from ⟨?_, fun z hz => ?_⟩⟩
          · rw [HY.out, A.out.1, HKT.out, HK.out]; exact (sortU_snoc _ _).symm
          · have h1 : bs z ∈ ins cmp (os.map bs) (bs x0) := by rw [← HY.out]; exact List.mem_map_of_mem hz
            rcases (mem_ins cmp_is (bs x0) (os.map bs) (bs z)).1 h1 with e1 | e1
            · have := congrArg List.length e1
              rw [len_bs, len_bs] at this
              omega
            · obtain ⟨z', hz', e2⟩ := List.mem_map.1 e1
              have := congrArg List.length e2
              rw [len_bs, len_bs] at this
              have := A.out.2 z' hz'
              omega
      · have hltz : ¬ (k : Int) < (ys.length : Int) := by omega
        have HF : Hid (os.map bs = sortU cmp (kids (preOf []) (ys.map bs))) := by unfold Hid; rw [A.out.1, List.take_of_length_le (by rw [List.length_map]; omega)]
        go_wp2
        go_ret2
        exact ⟨below_then' hb2 hB, .inr ⟨HZ.out, ao, co, os, rfl, by rw [HF.out, HYS.out], hO, hco⟩⟩
set_option maxRecDepth 100000 in
set_option maxHeartbeats 2000000 in
theorem rchildren1 (a : Option Addr) (n c : Nat) (zs : List ByteArray) (w : World) (hn : zs.length = n) (hN : n ≤ 4096) (hS : SS w a zs) (hsz : ∀ x ∈ zs, x.size ≤ 1000) (h : ByteArray) (hh : h.size ≤ 1000) (hne : bs h ≠ []) :
    Calls Tryd.prog 15 #[.slice a n c, .string h] w fun e w' => RKidsPost (zs.map bs) (bs h) w e w' := by
  have hs1 := fun (W : World) (hb : Below w.heap.size w W) => rsort_any a n c zs W hn hN (hS.below hb) hsz
  have hC := fun (W : World) => rcheck_any h W (by omega)
  have HN := Lib.hid hn
  have HNE := Lib.hid hne
  have hem : (!h.toList.isEmpty) = true := by
    rw [ByteArray.toList_eq]
    cases hc : h.data.toList with
    | nil => exact absurd hc hne
    | cons x y => rfl
  have hem2 : h.toList.isEmpty = false := by simpa using hem
  clear hn hS hsz hne
  unfold GivesB at hC
  by_cases hck : check (bs h) = 0
  case neg =>
    have HE : Hid (kidErr (zs.map bs) (bs h) = check (bs h)) := by unfold Hid kidErr; rw [if_pos ⟨HNE.out, hck⟩]
    have HCK := Lib.hid hck
    generalize check (bs h) = q at hC HE HCK hck
    have hk : ((q : Int) != 0) = true := by simp; omega
    clear hck
    go_enter Tryd.func15, Tryd.ntmps15
    go_wp2_with fail
    refine (hC _).mono ?_
    rintro e w1 ⟨rfl, hb1⟩
    go_wp2_with fail
    refine (hC _).mono ?_
    rintro e w2 ⟨rfl, hb2⟩
    go_wp2
    go_ret2
    exact ⟨below_then' hb1 hb2, .inl ⟨by rw [HE.out]; exact HCK.out, ret_nilk (by rw [HE.out])⟩⟩
  have HCK := Lib.hid hck
  have HKE : Hid (kidErr (zs.map bs) (bs h) = sortErr (zs.map bs)) := by unfold Hid kidErr; rw [if_neg (by simp [hck])]
  rw [hck] at hC
  clear hck
  go_enter Tryd.func15, Tryd.ntmps15
  go_wp2_with fail
  refine (hC _).mono ?_
  clear hC
  rintro e w1 ⟨rfl, hb1⟩
  go_wp2_with fail
  have hs1 := hs1 _ hb1
  refine hs1.mono ?_
  clear hs1
  rintro e w2 ⟨hb2, ⟨hnz, rfl⟩ | ⟨hz, a2, c2, ys, rfl, hys, hS2, hle⟩⟩
  · have hk : (((sortErr (zs.map bs) : Nat) : Int) != 0) = true := by simp; omega
    have HNZ := Lib.hid hnz
    clear hnz
    generalize sortErr (zs.map bs) = q at hk HNZ HKE
    go_wp2
    go_ret2
    exact ⟨below_then' hb1 hb2, .inl ⟨by rw [HKE.out]; exact HNZ.out, ret_nilk (by rw [HKE.out])⟩⟩
  · have HZ : Hid (kidErr (zs.map bs) (bs h) = 0) := by unfold Hid; rw [HKE.out, hz]
    have HSE := Lib.hid hz
    have HYS := Lib.hid hys
    clear hz hys HKE
    have HSZ : Hid (∀ y ∈ ys, y.size ≤ 80) := fun y hy => by
      have h1 : bs y ∈ sortU cmp (zs.map bs) := by rw [← HYS.out]; exact List.mem_map_of_mem hy
      have h2 := ((check_zero _).1 (sortErr_zero _ HSE.out _ ((mem_sortU cmp_is _ _).1 h1))).1
      rwa [len_bs] at h2
    have HCY : Hid (∀ y ∈ ys, check (bs y) = 0) := fun y hy => by
      have h1 : bs y ∈ sortU cmp (zs.map bs) := by rw [← HYS.out]; exact List.mem_map_of_mem hy
      exact sortErr_zero _ HSE.out _ ((mem_sortU cmp_is _ _).1 h1)
    have hn4 : ys.length ≤ n := by
      rw [← List.length_map (f := bs), HYS.out]
      exact Nat.le_trans (length_sortU _ _) (by rw [List.length_map, HN.out]; exact Nat.le_refl _)
    clear HSE
    have hb2 := below_then' hb1 hb2
    go_wp2_with fail
    refine (rparts_dot h w2 (by omega)).mono ?_
    rintro e w2b ⟨ah, ch, xh, hxh, rfl, hXh, hxhc, hxhm, hB2b⟩
    have HXH : Hid ((parts 46 (bs h)).length = xh.length) := by unfold Hid; rw [← hxh, List.length_map]
    have hxhl := len_split hxh
    have hS2 := hS2.below hB2b
    have hb2 := below_then' hb2 hB2b
    clear hxh hB2b hXh
    have hR := fun (y : ByteArray) (hy : y.size ≤ 80) (W : World) => rwithin_any y h W (by omega) (by omega)
    unfold GivesB at hR
    go_wp2
    go_loopg [9, 10] ys.length (fun gg s9 s10 wr => ∃ (k : Nat) (ao : Option Addr) (co : Nat) (os : List ByteArray), k ≤ ys.length ∧ ys.length - k ≤ gg ∧ s10 = .int .i64 k ∧ s9 = .slice ao os.length co ∧ SS wr ao os ∧ os.length ≤ co ∧ (ao = none → co = 0) ∧ co ≤ 9223372036854775807 ∧ os.length ≤ k ∧ Below w2b.heap.size w2b wr ∧ Aside (os.map bs = sortU cmp (kids (preOf (bs h)) ((ys.map bs).take k)) ∧ ∀ y ∈ os, y.size ≤ 1000))
    case atStart => exact ⟨0, none, 0, [], Nat.zero_le _, by omega, rfl, rfl, .inl rfl, Nat.le_refl _, fun _ => rfl, Nat.zero_le _, Nat.le_refl _, Below.refl _ _, show Aside _ from ⟨rfl, by simp⟩⟩
    case round =>
      obtain ⟨k, ao, co, os, hk, hg, rfl, rfl, hO, hco, hno, hcm, hok, hB, A⟩ := hrel
      by_cases hlt : k < ys.length
      · have hltz : (k : Int) < (ys.length : Int) := by omega
        obtain ⟨b, off, rfl, hb, hcell0⟩ := hS2.some hlt
        have HC0 := Lib.hid hcell0
        have hcell := (hB.cell (p := ⟨b, off + k, none⟩) hb).trans hcell0
        have hy := HSZ.out _ (List.getElem_mem hlt)
        have hcy := HCY.out _ (List.getElem_mem hlt)
        have HG : Hid ((ys.map bs)[k]? = some (bs ys[k])) := get_bs hlt
        clear hcell0
        generalize ys[k] = y at hcell HG hy HC0 hcy
        have HCYY := Lib.hid hcy
        clear hcy
        have hP := rparts_dot y wr (by omega)
        have HKT : Hid (kids (preOf (bs h)) ((ys.map bs).take (k + 1)) = kids (preOf (bs h)) ((ys.map bs).take k) ++ (kid (preOf (bs h)) (bs y)).toList) := kids_take' HG.out
        go_wp2_with fail
        refine hP.mono ?_
        rintro e w3 ⟨ax, cx, x, hx, rfl, hX, hxc, hxm, hB3⟩
        have hxl := len_split hx
        have HX := Lib.hid hx
        clear hP hx
        have hw3 := hB.trans (hB3.mono hB.size)
        have hRy := hR y hy
        have hcell3 := (hB3.cell (p := ⟨b, off + k, none⟩) (Nat.lt_of_lt_of_le hb hB.size)).trans hcell
        have HLX : Hid ((parts 46 (bs y)).length = x.length) := by unfold Hid; rw [← HX.out, List.length_map]
        by_cases hlx : xh.length < x.length
        · have hlz : (xh.length : Int) < (x.length : Int) := by omega
          obtain ⟨bx, ox, rfl, hbx, hxc0⟩ := hX.some hlx
          have hx0 : x[xh.length].size ≤ 80 := by
            have := size_mem_parts HX.out x[xh.length] (List.getElem_mem hlx)
            omega
          by_cases hbl : below (bs y) (bs h) = true
          · have HWT : withinB (bs y) (bs h) = true := by unfold withinB; rw [HCYY.out, HCK.out, hbl]; rfl
            rw [HWT] at hRy
            have HK : Hid (kid (preOf (bs h)) (bs y) = some (bs x[xh.length])) := by
              unfold Hid
              rw [rkid_eq, rkid, if_neg HNE.out, ← HX.out, HXH.out, get_bs hlx, hbl]
              simp [Option.filter]
            generalize x[xh.length] = x0 at hxc0 HK hx0
            clear HWT hbl
            go_wp2_with fail
            refine (hRy _).mono ?_
            clear hRy
            rintro e w4 ⟨rfl, hb4⟩
            have hw4 := hw3.trans (hb4.mono hw3.size)
            have hxc4 := (hb4.cell (p := ⟨bx, ox + xh.length, none⟩) hbx).trans hxc0
            clear hxc0
            have hO4 := (hO.below hB3).below hb4
            go_wp2_with fail
            refine (rinsert_any ao os.length co os x0 w4 rfl hco hcm (by omega) hO4 hno (fun z hz => A.out.2 z hz) (by omega)).mono ?_
            rintro e w5 ⟨a4, c4, zs4, rfl, hy4, hS4, hle4, hno4, hcm4, hb5⟩
            have HY := Lib.hid hy4
            clear hy4
            go_wp2
            go_roundg (ys.length - (k + 1))
            case measure => omega
            case rel =>
              have hl4 : zs4.length ≤ k + 1 := by
                have := length_ins cmp (bs x0) (os.map bs)
                rw [← HY.out, List.length_map, List.length_map] at this
                omega
              refine ⟨k + 1, a4, c4, zs4, by omega, by omega, by go_num, rfl, hS4, hle4, hno4, hcm4, hl4, hw4.trans (hb5.mono hw4.size), show Aside _ from ⟨?_, fun z hz => ?_⟩⟩
              · rw [HY.out, A.out.1, HKT.out, HK.out]; exact (sortU_snoc _ _).symm
              · have h1 : bs z ∈ ins cmp (os.map bs) (bs x0) := by rw [← HY.out]; exact List.mem_map_of_mem hz
                rcases (mem_ins cmp_is (bs x0) (os.map bs) (bs z)).1 h1 with e1 | e1
                · have := congrArg List.length e1
                  rw [len_bs, len_bs] at this
                  omega
                · obtain ⟨z', hz', e2⟩ := List.mem_map.1 e1
                  have := congrArg List.length e2
                  rw [len_bs, len_bs] at this
                  have := A.out.2 z' hz'
                  omega
          · have HWF : withinB (bs y) (bs h) = false := by unfold withinB; rw [Bool.not_eq_true] at hbl; rw [hbl]; simp
            rw [HWF] at hRy
            have HK : Hid (kid (preOf (bs h)) (bs y) = none) := by
              unfold Hid
              rw [rkid_eq, rkid, if_neg HNE.out]
              have hbl' : below (bs y) (bs h) = false := by simpa using hbl
              rw [hbl']
              cases (parts 46 (bs y))[(parts 46 (bs h)).length]? <;> simp [Option.filter, HNE.out]
            clear HWF hbl hxc0 hx0
            go_wp2_with fail
            refine (hRy _).mono ?_
            clear hRy
            rintro e w4 ⟨rfl, hb4⟩
            have hw4 := hw3.trans (hb4.mono hw3.size)
            have hO4 := (hO.below hB3).below hb4
            go_wp2
            go_roundg (ys.length - (k + 1))
            case measure => omega
            case rel => exact ⟨k + 1, ao, co, os, by omega, by omega, by go_num, rfl, hO4, hco, hno, hcm, by omega, hw4, show Aside _ from ⟨by rw [A.out.1, HKT.out, HK.out, Option.toList_none, List.append_nil], A.out.2⟩⟩
        · have hlz : ¬ (xh.length : Int) < (x.length : Int) := by omega
          have HK : Hid (kid (preOf (bs h)) (bs y) = none) := by
            unfold Hid
            rw [rkid_eq, rkid, if_neg HNE.out, List.getElem?_eq_none (by rw [HLX.out, HXH.out]; omega)]; rfl
          have hO4 := hO.below hB3
          go_wp2
          go_roundg (ys.length - (k + 1))
          case measure => omega
          case rel => exact ⟨k + 1, ao, co, os, by omega, by omega, by go_num, rfl, hO4, hco, hno, hcm, by omega, hw3, show Aside _ from ⟨by rw [A.out.1, HKT.out, HK.out, Option.toList_none, List.append_nil], A.out.2⟩⟩
      · have hltz : ¬ (k : Int) < (ys.length : Int) := by omega
        have HF : Hid (os.map bs = sortU cmp (kids (preOf (bs h)) (ys.map bs))) := by unfold Hid; rw [A.out.1, List.take_of_length_le (by rw [List.length_map]; omega)]
        go_wp2
        go_ret2
        exact ⟨below_then' hb2 hB, .inr ⟨HZ.out, ao, co, os, rfl, by rw [HF.out, HYS.out], hO, hco⟩⟩
end Go.Proofs.YtbgkepdnemgkdaaDoor
