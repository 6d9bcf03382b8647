/- The reference of chapter 46: Normal: an insertion sort by the first numbers, then the merge. -/
import Derived.Test.YtddmldfdakmecaaGreatDoorNwRefHas
namespace Go.Nw
theorem ins_perm (s : List Rg) (k : Nat) (r : Rg) : (s.take k ++ r :: s.drop k).Perm (s ++ [r]) := by
  have h1 : (s.take k ++ r :: s.drop k).Perm (r :: (s.take k ++ s.drop k)) := List.perm_middle
  rw [List.take_append_drop] at h1
  exact h1.trans (List.perm_append_singleton r s).symm
theorem ins_sorted (s : List Rg) (k : Nat) (r : Rg) (hs : Sorted s) (h1 : ∀ p ∈ s.take k, p.1 ≤ r.1) (h2 : ∀ p ∈ s.drop k, r.1 ≤ p.1) : Sorted (s.take k ++ r :: s.drop k) := by
  unfold Sorted at *
  have hc := hs
  rw [← List.take_append_drop k s, List.pairwise_append] at hc
  rw [List.pairwise_append]
  refine ⟨hc.1, List.pairwise_cons.2 ⟨fun p hp => h2 p hp, hc.2.1⟩, fun p hp q hq => ?_⟩
  rcases List.mem_cons.1 hq with rfl | hq
  · exact h1 p hp
  · exact hc.2.2 p hp q hq
theorem sorted_take_le {s : List Rg} (hs : Sorted s) {k : Nat} (hk : k < s.length) {r : Rg} (h : s[k].1 ≤ r.1) : ∀ p ∈ s.take (k + 1), p.1 ≤ r.1 := fun p hp => by
  obtain ⟨i, hi, rfl⟩ := List.getElem_of_mem hp
  rw [List.length_take] at hi
  rw [List.getElem_take]
  by_cases e : i = k
  · subst e; exact h
  · have := List.pairwise_iff_getElem.1 hs i k (by omega) hk (by omega)
    omega
theorem shift_set (s : List Rg) (k : Nat) (x y : Rg) (hk : k ≤ s.length) : (s.take k ++ x :: s.drop k).set k y = s.take k ++ y :: s.drop k := by
  rw [List.set_append_right _ _ (by rw [List.length_take]; omega)]
  have : k - (s.take k).length = 0 := by rw [List.length_take]; omega
  rw [this]; rfl
theorem shift_down (s : List Rg) (k : Nat) (hk : k < s.length) : s.take (k + 1) ++ s[k] :: s.drop (k + 1) = s.take k ++ s[k] :: s.drop k := by
  rw [List.take_succ_eq_append_getElem hk, List.drop_eq_getElem_cons hk, List.append_assoc]
  rfl
theorem shift_get (s : List Rg) (k : Nat) (x : Rg) (hk : k < s.length) : ∃ h, (s.take (k + 1) ++ x :: s.drop (k + 1))[k]'h = s[k] := by
  have h : k < (s.take (k + 1) ++ x :: s.drop (k + 1)).length := by rw [List.length_append, List.length_take]; omega
  refine ⟨h, ?_⟩
  rw [List.getElem_append_left (by rw [List.length_take]; omega), List.getElem_take]
theorem shift_length (s : List Rg) (k : Nat) (x : Rg) : (s.take k ++ x :: s.drop k).length = s.length + 1 := by
  rw [List.length_append, List.length_cons, ← Nat.add_assoc, ← List.length_append, List.take_append_drop]
end Go.Nw
namespace Go.Proofs.YtddmldfdakmecaaGreatDoor
open Go.RowKit Go.Gn Go.El Go.Nw

theorem oe_pair {w : World} {base g n c j : Nat} {xs : List Rg} (h : OE TG w base (.slice (some ⟨g, 0, none⟩) n c) xs) (hj : j < xs.length) (x y : Int) :
    OE TG ((w.setCell ⟨g, j * 2, none⟩ (.int .i64 x)).setCell ⟨g, j * 2 + 1, none⟩ (.int .i64 y)) base (.slice (some ⟨g, 0, none⟩) n c) (xs.set j (x, y)) := by
  have h1 := h.cell j 0 (.int .i64 x) (x := xs[j]) (y := (x, xs[j].2)) (List.getElem?_eq_getElem hj) (by decide) rfl
  have h2 := h1.cell j 1 (.int .i64 y) (x := (x, xs[j].2)) (y := (x, y)) (by rw [List.getElem?_set_self hj]) (by decide) rfl
  rw [List.set_set] at h2
  exact h2

theorem oe_snoc {w : World} {base m : Nat} {v : Value} {xs : List Rg} {q : Rg} (h : OE TG w base v (xs ++ [q])) (hm : xs.length = m) : ∃ g c, v = .slice (some ⟨g, 0, none⟩) (m + 1) c := by
  rcases h.2 with ⟨_, h2⟩ | ⟨g, cap, cur, h1, _⟩
  · rw [List.length_append] at h2; cases h2
  · exact ⟨g, cap, by rw [h1, List.length_append, hm]; rfl⟩

set_option maxRecDepth 100000 in
set_option maxHeartbeats 4000000 in
/-- The reference's 'Normal', at valid ranges. -/
theorem refNormal_any (a : Option Addr) (n c : Nat) (zs : List Rg) (w : World) (hn : zs.length = n) (hN : n ≤ 100000) (hS : RE TG w a zs) (hv : ∀ r ∈ zs, validB r = true) :
    Calls Tryz.prog 14 #[.slice a n c] w fun e w' => Below w.heap.size w w' ∧ ∃ v, e = .returned v ∧ OE TG w' w.heap.size v (normal zs) := by
  have HN := Lib.hid hn
  have HV := Lib.hid hv
  clear hn hv
  go_enter Tryz.func14, Tryz.ntmps14
  go_wp2
  go_loopg [3, 4] n (fun gg s3 s4 wr => ∃ (i : Nat) (srt : List Rg), i ≤ n ∧ n - i ≤ gg ∧ s4 = .int .i64 i ∧ OE TG wr w.heap.size s3 srt ∧ Below w.heap.size w wr ∧ Aside (srt.Perm (zs.take i) ∧ Sorted srt))
  case atStart => exact ⟨0, [], Nat.zero_le _, by omega, rfl, OE.nil _ _ _, Below.refl _ _, show Aside _ from ⟨List.Perm.refl _, List.Pairwise.nil⟩⟩
  case round =>
    obtain ⟨i, srt, hi, hg, rfl, hO, hB, A⟩ := hrel
    by_cases hlt : i < n
    · have hltz : (i : Int) < (n : Int) := by omega
      have hiz : i < zs.length := by rw [HN.out]; exact hlt
      obtain ⟨p, cp, rfl, hRs, q1, q2, q3, q4⟩ := hO.re
      have HL : Hid (srt.length = i) := by unfold Hid; rw [A.out.1.length_eq, List.length_take]; omega
      have HSO : Hid (Sorted srt) := A.out.2
      obtain ⟨b, off, rfl, hb, hx1, hx2⟩ := RE.rg (T := TG) rfl rfl hS hiz
      have HTK : Hid (zs.take (i + 1) = zs.take i ++ [zs[i]]) := take_snoc zs i hiz
      have HPE : Hid (srt.Perm (zs.take i)) := A.out.1
      generalize zs[i] = r at hx1 hx2 HTK
      obtain ⟨x, y⟩ := r
      simp only at hx1 hx2 HTK
      have hlen : srt.length ≤ 100000 := by have := HL.out; omega
      generalize hm : srt.length = m at *
      have HM := Lib.hid hm
      clear hm q1 q2 q3
      go_upto_block 2 with fail
      go_cut [5] from 18 to 35 (fun s5 wx => ∃ (k : Nat), k ≤ m ∧ s5 = .int .i64 k ∧ OE TG wx w.heap.size (.slice p m cp) srt ∧ Below w.heap.size w wx ∧ Aside ((∀ q ∈ srt.take k, q.1 ≤ x) ∧ ∀ q ∈ srt.drop k, x < q.1))
      case first =>
        go_wp2_with fail
        go_loopg [5] m (fun gg s5 wx => ∃ (k : Nat), k ≤ m ∧ k ≤ gg ∧ s5 = .int .i64 k ∧ OE TG wx w.heap.size (.slice p m cp) srt ∧ Below w.heap.size w wx ∧ Aside (∀ q ∈ srt.drop k, x < q.1))
        case atStart => exact ⟨m, Nat.le_refl _, Nat.le_refl _, rfl, hO, hB, show Aside _ from fun q hq => by rw [List.drop_of_length_le (by rw [HM.out]; exact Nat.le_refl _)] at hq; cases hq⟩
        case round =>
          obtain ⟨k, hk, hgk, rfl, hOx, hBx, Ax⟩ := hrel
          by_cases hmore : ∃ k', k = k' + 1 ∧ ∃ h : k' < srt.length, x < srt[k'].1
          · obtain ⟨k', rfl, hks, hgt⟩ := hmore
            obtain ⟨b2, o2, e2, hb2, hy1, _⟩ := RE.rg (T := TG) rfl rfl hOx.shape.2.1 hks
            subst e2
            have hi0 : (k' : Int) < (m : Int) := by omega
            have hi1 : (0 : Int) ≤ (k' : Int) := by omega
            have ho2 := (hOx.shape.2.2.2.2.2 b2 o2 rfl).2.1
            subst ho2
            rw [Nat.zero_add] at hy1
            have HDR : Hid (∀ q ∈ srt.drop k', x < q.1) := fun q hq => by
              rw [List.drop_eq_getElem_cons hks] at hq
              rcases List.mem_cons.1 hq with rfl | hq
              · exact hgt
              · exact Ax.out q hq
            have hz1 := (hBx.cell (p := ⟨b, off + i * 2, none⟩) hb).trans hx1
            generalize srt[k'].1 = u at hy1 hgt
            have hd : decide ((0 : Int) < (k' : Int) + 1) = true := decide_eq_true (by omega)
            have g1 : decide (u > x) = true := decide_eq_true hgt
            have w1 : IntKind.i64.wrap ((k' : Int) + 1 - 1) = (k' : Int) := by rw [IntWalk.i64_in _ (by omega)]; omega
            have w0 : IntKind.i64.wrap (k' : Int) = (k' : Int) := IntWalk.i64_in _ (by omega)
            go_wp2
            go_quiet (fail)
            clear hd g1
            go_wp2
            go_roundg k'
            case measure => omega
            case rel => exact ⟨k', by omega, by omega, by go_num, hOx.drewN _, Go.below_drewN hBx _, show Aside _ from HDR.out⟩
          · have HEX : Hid (∀ q ∈ srt.take k, q.1 ≤ x) := by
              unfold Hid
              rcases k with _ | k'
              · intro q hq; rw [List.take_zero] at hq; cases hq
              · have hks : k' < srt.length := by rw [HM.out]; omega
                exact sorted_take_le (r := (x, y)) HSO.out hks (by
                  have : ¬ x < srt[k'].1 := fun h => hmore ⟨k', rfl, hks, h⟩
                  show srt[k'].1 ≤ x
                  omega)
            have HDR : Hid (∀ q ∈ srt.drop k, x < q.1) := Ax.out
            have hz0 := hx1
            rcases k with _ | k'
            case' zero =>
              have hd : decide ((0 : Int) < 0) = false := rfl
              have hkk : (0 : Nat) ≤ m := Nat.zero_le _
            case' succ =>
              have hks : k' < srt.length := by rw [HM.out]; omega
              obtain ⟨b2, o2, e2, hb2, hy1, _⟩ := RE.rg (T := TG) rfl rfl hOx.shape.2.1 hks
              subst e2
              have hkk : k' + 1 ≤ m := hk
              have hi0 : (k' : Int) < (m : Int) := by omega
              have hi1 : (0 : Int) ≤ (k' : Int) := by omega
              have ho2 := (hOx.shape.2.2.2.2.2 b2 o2 rfl).2.1
              subst ho2
              rw [Nat.zero_add] at hy1
              have hz1 := (hBx.cell (p := ⟨b, off + i * 2, none⟩) hb).trans hx1
              have hgt : ¬ x < srt[k'].1 := fun h => hmore ⟨k', rfl, hks, h⟩
              generalize srt[k'].1 = u at hy1 hgt
              have hd : decide ((0 : Int) < (k' : Int) + 1) = true := decide_eq_true (by omega)
              have g1 : decide (u > x) = false := decide_eq_false hgt
              have w1 : IntKind.i64.wrap ((k' : Int) + 1 - 1) = (k' : Int) := by rw [IntWalk.i64_in _ (by omega)]; omega
              have w0 : IntKind.i64.wrap (k' : Int) = (k' : Int) := IntWalk.i64_in _ (by omega)
            all_goals
              clear hmore Ax A
              go_wp2
              go_quiet (fail)
              go_wp2
              go_meet
              case rel => exact ⟨_, hkk, rfl, hOx.drewN _, Go.below_drewN hBx _, show Aside _ from ⟨HEX.out, HDR.out⟩⟩
      case rest =>
        obtain ⟨k, hk, rfl, hOx, hBx, Ax⟩ := hcut
        have hOO := hOx.alloc (.cells #[.int .i64 0, .int .i64 0] 37)
        have hNN : RE TG (wc.alloc (.cells #[.int .i64 0, .int .i64 0] 37)) (some ⟨wc.heap.size, 0, none⟩) [(0, 0)] := RE.new TG wc [(0, 0)] #[.int .i64 0, .int .i64 0] 37 wc.heap.size rfl rfl
        have hll : srt.length + 1 ≤ 30000000000 := by rw [HM.out]; omega
        have hbs : w.heap.size ≤ (wc.alloc (.cells #[.int .i64 0, .int .i64 0] 37)).heap.size := by have := hBx.size; simp; omega
        have hB' : Below w.heap.size w (wc.alloc (.cells #[.int .i64 0, .int .i64 0] 37)) := hBx.alloc hBx.size _
        go_wp2_with (at_builtin; refine El.app TG (m := 1) hOO hNN rfl (by intro e; cases e) hll hbs _ _ rfl rfl rfl rfl ?_; intro v2 w2 hO2 hG2; obtain ⟨g2, c2, rfl⟩ := oe_snoc hO2 HM.out)
        have hB2 := hB'.grown hG2 hbs (fun q hq => (World.ownsRow.lt hOO q hq).1)
        have HST : Hid (srt.take m ++ (0, 0) :: srt.drop m = srt ++ [(0, 0)]) := by
          unfold Hid; rw [List.take_of_length_le (by rw [HM.out]; exact Nat.le_refl _), List.drop_of_length_le (by rw [HM.out]; exact Nat.le_refl _)]
        go_loopg [6] m (fun gg s6 wx => ∃ (j : Nat) (z : Rg), k ≤ j ∧ j ≤ m ∧ j ≤ gg ∧ s6 = .int .i64 j ∧ OE TG wx w.heap.size (.slice (some ⟨g2, 0, none⟩) (m + 1) c2) (srt.take j ++ z :: srt.drop j) ∧ Below w.heap.size w wx)
        case atStart => exact ⟨m, (0, 0), hk, Nat.le_refl _, Nat.le_refl _, by go_num, by rw [HST.out]; exact hO2, hB2⟩
        case round =>
          obtain ⟨j, z, hkj, hjm, hgj, rfl, hOj, hBj⟩ := hrel
          by_cases hlt2 : k < j
          · obtain ⟨j', rfl⟩ : ∃ j', j = j' + 1 := ⟨j - 1, by omega⟩
            have hjs : j' < srt.length := by rw [HM.out]; omega
            obtain ⟨hL', hget⟩ := shift_get srt j' z hjs
            obtain ⟨b3, o3, e3, hb3, hc1, hc2⟩ := RE.rg (T := TG) rfl rfl hOj.shape.2.1 hL'
            obtain ⟨b4, o4, e4, hb4, hc3, hc4⟩ := RE.rg (T := TG) rfl rfl hOj.shape.2.1 (k := j' + 1) (by rw [shift_length, HM.out]; omega)
            injection e3 with e3
            injection e3 with e5 e6
            subst e5; subst e6
            injection e4 with e4
            injection e4 with e5 e6
            subst e5; subst e6
            rw [hget] at hc1 hc2
            rw [Nat.zero_add] at hc1 hc2 hc3 hc4
            generalize (srt.take (j' + 1) ++ z :: srt.drop (j' + 1))[j' + 1]'_ = zz at hc3 hc4
            have f1 := hOj.free ((j' + 1) * 2)
            have f2 := hOj.free ((j' + 1) * 2 + 1)
            have hgl : w.heap.size ≤ g2 := (hOj.shape.2.2.2.2.2 g2 0 rfl).1
            have hst := oe_pair hOj (j := j' + 1) (by rw [shift_length, HM.out]; omega) srt[j'].1 srt[j'].2
            have HSH : Hid ((srt.take (j' + 1) ++ z :: srt.drop (j' + 1)).set (j' + 1) (srt[j'].1, srt[j'].2) = srt.take j' ++ srt[j'] :: srt.drop j') := by
              unfold Hid; rw [shift_set _ _ _ _ (by omega)]; exact shift_down srt j' hjs
            rw [HSH.out] at hst
            generalize hu : srt[j'] = u at hc1 hc2 hst
            obtain ⟨u1, u2⟩ := u
            clear hu hget HSH
            simp only at hc1 hc2 hst
            have hi0 : (k : Int) < (j' : Int) + 1 := by omega
            have hi1 : (j' : Int) < (m : Int) + 1 := by omega
            have hi2 : (j' : Int) + 1 < (m : Int) + 1 := by omega
            have w1 : IntKind.i64.wrap ((j' : Int) + 1 - 1) = (j' : Int) := by rw [IntWalk.i64_in _ (by omega)]; omega
            go_wp2
            go_roundg j'
            case measure => omega
            case rel => exact ⟨j', (u1, u2), by omega, by omega, Nat.le_refl _, by go_num, hst, (hBj.setCell (p := ⟨g2, (j' + 1) * 2, none⟩) hgl _).setCell (p := ⟨g2, (j' + 1) * 2 + 1, none⟩) hgl _⟩
          · obtain rfl : j = k := by omega
            obtain ⟨b4, o4, e4, hb4, hc3, hc4⟩ := RE.rg (T := TG) rfl rfl hOj.shape.2.1 (k := j) (by rw [shift_length, HM.out]; omega)
            injection e4 with e4
            injection e4 with e5 e6
            subst e5; subst e6
            rw [Nat.zero_add] at hc3 hc4
            generalize (srt.take j ++ z :: srt.drop j)[j]'_ = zz at hc3 hc4
            have f1 := hOj.free (j * 2)
            have f2 := hOj.free (j * 2 + 1)
            have hgl : w.heap.size ≤ g2 := (hOj.shape.2.2.2.2.2 g2 0 rfl).1
            have hst := oe_pair hOj (j := j) (by rw [shift_length, HM.out]; omega) x y
            rw [shift_set _ _ _ _ (by rw [HM.out]; omega)] at hst
            have hz1 := (hBj.cell (p := ⟨b, off + i * 2, none⟩) hb).trans hx1
            have hz2 := (hBj.cell (p := ⟨b, off + i * 2 + 1, none⟩) hb).trans hx2
            have hi0 : ¬ (j : Int) < (j : Int) := by omega
            have hi2 : (j : Int) < (m : Int) + 1 := by omega
            have HPF : Hid ((srt.take j ++ (x, y) :: srt.drop j).Perm (zs.take (i + 1)) ∧ Sorted (srt.take j ++ (x, y) :: srt.drop j)) := by
              unfold Hid
              rw [HTK.out]
              exact ⟨(ins_perm srt j (x, y)).trans (HPE.out.append_right _), ins_sorted srt j (x, y) HSO.out Ax.out.1 fun p hp => Int.le_of_lt (Ax.out.2 p hp)⟩
            go_wp2
            go_roundg (n - (i + 1))
            case measure => omega
            case rel => exact ⟨i + 1, _, by omega, by omega, by go_num, hst, (hBj.setCell (p := ⟨g2, j * 2, none⟩) hgl _).setCell (p := ⟨g2, j * 2 + 1, none⟩) hgl _, show Aside _ from HPF.out⟩
    · have hltz : ¬ (i : Int) < (n : Int) := by omega
      have HPZ : Hid (srt.Perm zs ∧ Sorted srt) := by
        unfold Hid
        have h := A.out
        rw [List.take_of_length_le (by rw [HN.out]; omega)] at h
        exact h
      have HL : Hid (srt.length = n) := by unfold Hid; rw [HPZ.out.1.length_eq]; exact HN.out
      have HVS : Hid (∀ r ∈ srt, validB r = true) := fun r hr => HV.out r (HPZ.out.1.mem_iff.1 hr)
      have HE : Hid (merge srt = normal zs) := normal_of HPZ.out.1 HPZ.out.2 fun r hr => (validB_iff.1 (HV.out r hr)).2.2
      obtain ⟨p, cp, rfl, hRs, q1, q2, q3, q4⟩ := hO.re
      clear A q1 q2 q3 q4
      generalize hm : srt.length = m at *
      have hmn : m = n := HL.out
      have HM := Lib.hid hm
      clear hm
      obtain ⟨wo, rfl⟩ : ∃ wo : World, wo = wr := ⟨_, rfl⟩
      go_wp2
      go_loopg [7, 8] m (fun gg s7 s8 wx => ∃ (j : Nat), j ≤ m ∧ m - j ≤ gg ∧ s8 = .int .i64 j ∧ OE TG wx wo.heap.size s7 (merge (srt.take j)) ∧ Below wo.heap.size wo wx)
      case atStart => exact ⟨0, Nat.zero_le _, by omega, rfl, OE.nil _ _ _, Below.refl _ _⟩
      case round =>
        obtain ⟨j, hj, hg, rfl, hO2, hB2⟩ := hrel
        by_cases hlt2 : j < m
        · have hltz2 : (j : Int) < (m : Int) := by omega
          have hj0 : (0 : Int) ≤ (j : Int) := by omega
          have hjs : j < srt.length := by rw [HM.out]; exact hlt2
          have HMS : Hid (merge (srt.take (j + 1)) = Go.Nw.extend (merge (srt.take j)) srt[j]) := by
            unfold Hid; rw [List.take_succ_eq_append_getElem hjs, merge_snoc]
          have HLM : Hid ((merge (srt.take j)).length ≤ 100000) := by
            unfold Hid; have := merge_length (srt.take j); rw [List.length_take, HM.out] at this; omega
          have HVM : Hid (∀ q ∈ merge (srt.take j), validB q = true) := merge_bounds (fun r hr => HVS.out r (List.mem_of_mem_take hr)) (HPZ.out.2.sublist (List.take_sublist _ _))
          obtain ⟨b, off, rfl, hb, hx1, hx2⟩ := RE.rg (T := TG) rfl rfl (hRs.below hB2) hjs
          generalize srt[j] = r at hx1 hx2 HMS
          obtain ⟨x, y⟩ := r
          simp only at hx1 hx2
          generalize merge (srt.take j) = ms at hO2 HMS HLM HVM
          have hcase : (ms = [] ∨ ∃ (t : List Rg) (q : Rg), ms = t ++ [q] ∧ ¬ x ≤ q.2 + 1) ∨ ∃ (t : List Rg) (q : Rg), ms = t ++ [q] ∧ x ≤ q.2 + 1 := by
            rcases List.eq_nil_or_concat ms with rfl | ⟨t, q, rfl⟩
            · exact .inl (.inl rfl)
            · rw [List.concat_eq_append]
              by_cases h : x ≤ q.2 + 1
              · exact .inr ⟨t, q, rfl, h⟩
              · exact .inl (.inr ⟨t, q, rfl, h⟩)
          have hbs2 := hB2.size
          rcases hcase with hcase | ⟨t, q, rfl, hjoin⟩
          · have HES : Hid (Go.Nw.extend ms (x, y) = ms ++ [(x, y)]) := by
              unfold Hid
              rcases hcase with rfl | ⟨t, q, rfl, hno⟩
              · rfl
              · rw [extend_snoc, if_neg hno]
            rcases hcase with rfl | ⟨t, q, rfl, hno⟩
            case' inl =>
              obtain ⟨a3, c3, rfl, _⟩ := hO2.re
              have HLE : Hid (([] : List Rg).length = 0) := rfl
              have hd : decide ((0 : Int) < 0) = false := rfl
            case' inr =>
              obtain ⟨q1, q2⟩ := q
              obtain ⟨g3, c3, rfl⟩ := oe_snoc hO2 rfl
              obtain ⟨_, hR3, _, _, _, hgg⟩ := hO2.shape
              obtain ⟨g', o', e', hgl, hy1, hy2⟩ := RE.rg (T := TG) rfl rfl hR3 (k := t.length) (by simp)
              injection e' with e'
              injection e' with e1 e2
              subst e1; subst e2
              rw [List.getElem_append_right (Nat.le_refl _)] at hy1 hy2
              simp only [Nat.sub_self, List.getElem_cons_zero, Nat.zero_add] at hy1 hy2
              have hq := validB_iff.1 (HVM.out (q1, q2) (by simp))
              simp only at hq hno
              have hlk : t.length ≤ 100000 := by have := HLM.out; simp at this; omega
              have HLE : Hid ((t ++ [(q1, q2)]).length = t.length + 1) := by unfold Hid; simp
              generalize hk : t.length = k at *
              clear hk
              have hd : decide ((0 : Int) < (k : Int) + 1) = true := decide_eq_true (by omega)
              have w1 : IntKind.i64.wrap ((k : Int) + 1 - 1) = (k : Int) := by rw [IntWalk.i64_in _ (by omega)]; omega
              have w2 : IntKind.i64.wrap (q2 + 1) = q2 + 1 := IntWalk.i64_in _ (by omega)
              have hj' : decide (x ≤ q2 + 1) = false := decide_eq_false hno
              have i0 : (0 : Int) ≤ (k : Int) := by omega
              have i1 : (k : Int) < (k : Int) + 1 := by omega
            all_goals
              go_wp2
              go_quiet (fail)
              have hOO := (hO2.drewN nq).alloc (.cells #[.int .i64 x, .int .i64 y] 37)
              have hNN : RE TG ((wr.drewN nq).alloc (.cells #[.int .i64 x, .int .i64 y] 37)) (some ⟨wr.heap.size, 0, none⟩) [(x, y)] := RE.new TG (wr.drewN nq) [(x, y)] #[.int .i64 x, .int .i64 y] 37 wr.heap.size rfl rfl
              have hbs : wo.heap.size ≤ ((wr.drewN nq).alloc (.cells #[.int .i64 x, .int .i64 y] 37)).heap.size := by rw [World.size_alloc]; show _ ≤ wr.heap.size + 1; omega
              have hll : Hid (List.length _ + 1 ≤ 30000000000) := Nat.le_trans (Nat.succ_le_succ HLM.out) (by decide)
              have hx3 : (wr.drewN nq).cell? ⟨b, off + j * 2, none⟩ = some (.int .i64 x) := hx1
              have hx4 : (wr.drewN nq).cell? ⟨b, off + j * 2 + 1, none⟩ = some (.int .i64 y) := hx2
              go_wp2_with (at_builtin; refine El.app TG (m := 1) hOO hNN rfl (by intro e; cases e) hll.out hbs _ _ rfl rfl rfl rfl ?_; intro v2 w2 hO3 hG3; obtain ⟨g2, c2, rfl⟩ := oe_snoc hO3 HLE.out)
              go_roundg (m - (j + 1))
              case measure => omega
              case rel => exact ⟨j + 1, by omega, by omega, by go_num, by rw [HMS.out, HES.out]; exact hO3, ((Go.below_drewN hB2 nq).alloc hbs2 _).grown hG3 hbs (fun q hq => (World.ownsRow.lt hOO q hq).1)⟩
          · obtain ⟨q1, q2⟩ := q
            have HES : Hid (Go.Nw.extend (t ++ [(q1, q2)]) (x, y) = t ++ [(q1, max q2 y)]) := by
              unfold Hid
              rw [extend_snoc, if_pos hjoin]
            obtain ⟨g3, c3, rfl⟩ := oe_snoc hO2 rfl
            obtain ⟨_, hR3, _, _, _, hgg⟩ := hO2.shape
            have hgb := (hgg g3 0 rfl).1
            obtain ⟨g', o', e', hgl, hy1, hy2⟩ := RE.rg (T := TG) rfl rfl hR3 (k := t.length) (by simp)
            injection e' with e'
            injection e' with e1 e2
            subst e1; subst e2
            rw [List.getElem_append_right (Nat.le_refl _)] at hy1 hy2
            simp only [Nat.sub_self, List.getElem_cons_zero, Nat.zero_add] at hy1 hy2
            have hq := validB_iff.1 (HVM.out (q1, q2) (by simp))
            simp only at hq hjoin
            have hlk : t.length ≤ 100000 := by have := HLM.out; simp at this; omega
            have HSET : Hid ((t ++ [(q1, q2)]).set t.length (q1, max q2 y) = t ++ [(q1, max q2 y)]) := by unfold Hid; simp
            have HGET : Hid ((t ++ [(q1, q2)])[t.length]? = some (q1, q2)) := by unfold Hid; simp
            generalize hk : t.length = k at *
            clear hk
            have hd : decide ((0 : Int) < (k : Int) + 1) = true := decide_eq_true (by omega)
            have w1 : IntKind.i64.wrap ((k : Int) + 1 - 1) = (k : Int) := by rw [IntWalk.i64_in _ (by omega)]; omega
            have w0 : IntKind.i64.wrap (k : Int) = (k : Int) := IntWalk.i64_in _ (by omega)
            have w2 : IntKind.i64.wrap (q2 + 1) = q2 + 1 := IntWalk.i64_in _ (by omega)
            have hj' : decide (x ≤ q2 + 1) = true := decide_eq_true hjoin
            have i0 : (0 : Int) ≤ (k : Int) := by omega
            have i1 : (k : Int) < (k : Int) + 1 := by omega
            have i2 : (k : Int) < ((k + 1 : Nat) : Int) := by omega
            go_wp2
            go_quiet (fail)
            clear hj' w2
            have hO3 := hO2.drewN nq
            have f2 := hO3.free (k * 2 + 1)
            have hx3 : (wr.drewN nq).cell? ⟨b, off + j * 2 + 1, none⟩ = some (.int .i64 y) := hx2
            have hy3 : (wr.drewN nq).cell? ⟨g3, k * 2 + 1, none⟩ = some (.int .i64 q2) := hy2
            have hB3 := Go.below_drewN hB2 nq
            clear hx1 hx2 hy1 hy2 hO2 hB2
            generalize wr.drewN nq = w4 at *
            go_wp2_with fail
            go_still_tail 17, (by kernel_rfl)
            change wpList _ _ _ _ _ w4.drew
            have hc3 : w4.drew.cell? ⟨g3, k * 2 + 1, none⟩ = some (.int .i64 q2) := hy3
            have f3 : w4.drew.frozen? ⟨g3, k * 2 + 1, none⟩ = false := f2
            clear w0 w1
            go_wp2
            have hst := hO3.cell k 1 (.int .i64 (max q2 y)) (x := (q1, q2)) (y := (q1, max q2 y)) HGET.out (by decide) rfl
            rw [HSET.out] at hst
            go_roundg (m - (j + 1))
            case measure => omega
            case rel => exact ⟨j + 1, by omega, by omega, by go_num, by rw [HMS.out, HES.out]; exact hst.drewN 1, Go.below_drewN (hB3.setCell (p := ⟨g3, k * 2 + 1, none⟩) hgb _) 1⟩
        · have hltz2 : ¬ (j : Int) < (m : Int) := by omega
          have HFE : Hid (merge (srt.take j) = normal zs) := by
            unfold Hid; rw [List.take_of_length_le (by rw [HM.out]; omega)]; exact HE.out
          rw [HFE.out] at hO2
          clear HFE
          obtain ⟨a3, c3, rfl, _⟩ := hO2.re
          go_wp2
          go_ret
          exact ⟨hB.trans (hB2.mono hB.size), _, rfl, hO2.mono hB.size⟩
end Go.Proofs.YtddmldfdakmecaaGreatDoor
