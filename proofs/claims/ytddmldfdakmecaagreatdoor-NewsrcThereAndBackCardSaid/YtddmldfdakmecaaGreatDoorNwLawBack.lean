/- The law NewsrcThereAndBack answers true. -/
import Derived.Test.YtddmldfdakmecaaGreatDoorNwBackKit
namespace Go.Proofs.YtddmldfdakmecaaGreatDoor
open Go.RowKit Go.Gn Go.El Go.Nw

set_option maxRecDepth 100000 in
set_option maxHeartbeats 40000000 in
theorem lawBack_main (a : Option Addr) (n0 c0 : Nat) (zs0 : List Rg) (a' : Option Addr) (n c' : Nat) (os : List UInt8) (g : Int) (w : World) (hn0 : zs0.length = n0) (hR : RE TG w a zs0) (hno : os.length = n) (hRo : RE TY8 w a' os)
    (hM : ML w) (hT : TB w) (h30 : n0 ≤ 30) (h40 : n ≤ 40) (hg0 : 0 ≤ g) (hg1 : g ≤ 255) (hv : ∀ r ∈ zs0, validB r = true) :
    GivesB Tryz.prog 6 #[.slice a n0 c0, .slice a' n c', .int .u8 g] (.bool true) w := by
  have hk := known_any w hM hT
  clear hM hT
  have hz1 : ¬ (30 : Int) < (n0 : Int) := by omega
  have hz2 : ¬ (40 : Int) < (n : Int) := by omega
  obtain ⟨ib, hib, hib0, hib1, hib2⟩ := info_some TBo
  unfold GivesB at hk ⊢
  go_enter Tryz.func6, Tryz.ntmps6
  go_wp2_with fail
  refine hk.mono ?_
  clear hk
  rintro e w1 ⟨rfl, hB1⟩
  go_wp2_with fail
  refine (own_any a n0 c0 zs0 w1 hn0 (by omega) (hR.below hB1)).mono ?_
  rintro e w2 ⟨hb2, v2, rfl, hO2⟩
  have hB2 := hB1.trans (hb2.mono hB1.size)
  obtain ⟨p2, c2', rfl, hR2, q1, q2, q3, q4⟩ := hO2.re
  rw [hn0]
  clear q1 q2 q3 q4 hO2 hb2
  go_wp2_with fail
  refine (from_any p2 n0 c2' zs0 w2 hn0 (by omega) hR2).mono ?_
  rintro e w3 ⟨hb3, ⟨_, v3, rfl, hO3⟩ | ⟨hno, _⟩⟩
  rotate_left
  · exact absurd hv hno
  have hB3 := hB2.trans (hb3.mono hB2.size)
  obtain ⟨aX, nX, cX, rfl, hSX⟩ := SetIn.of hO3 (normal_valid hv).1 (normal_valid hv).2 (by have := normal_length zs0; omega)
  have hB5 := hB3.alloc hB3.size (.cells #[.slice aX nX cX] 26)
  clear hO3 hb3 hR2 hR
  go_wp2_with (at_make; refine wpList_make_full _ rfl _ _ 54 rfl _ 4 ib (.bool false) 1 Tryz.underlying54 hib hib0 hib1 _ _ _ _ n rfl rfl rfl rfl (by rw [hib2]; show 1 * n ≤ _; omega) (by simp only [maxLen]; omega) (Nat.le_refl _) ?_)
  intro w6 hown6 hgrow6
  have hsz5 : (w3.alloc (.cells #[.slice aX nX cX] 26)).heap.size = w3.heap.size + 1 := World.size_alloc _ _
  generalize w3.alloc (.cells #[.slice aX nX cX] 26) = w5 at *
  generalize w3.heap.size = b1 at *
  rw [← hsz5] at hown6 ⊢
  clear hsz5
  have hB6 : Below w5.heap.size w5 w6 := (Below.refl _ w5).grown hgrow6 (Nat.le_refl _) (fun q hq => by cases hq)
  have hU6 := used_made hown6
  have hRo5 := hRo.below hB5
  have hXs : (normal zs0).length ≤ 30 := by have := normal_length zs0; omega
  generalize normal zs0 = X at *
  clear hown6 hgrow6 hib hib0 hib1 hib2 hv hRo
  have hs6 := hB6.size
  have hSX6 := hSX
  go_wp2
  go_loopg [9, 10, 11, 13] n (fun gg s9 s10 s11 s13 wx => ∃ (i : Nat) (ks : List Nat), i ≤ n ∧ n - i ≤ gg ∧ s13 = .int .i64 i ∧ OE TU wx w5.heap.size s9 (hereL i) ∧ OE TU wx w5.heap.size s10 (thereL g ks) ∧ OE TN wx w5.heap.size s11 (allL i) ∧
    OE TBo wx w5.heap.size (.slice (some ⟨w5.heap.size, 0, none⟩) n n) (usedL n ks) ∧ Aside (Apart s9 s10) ∧ Below w5.heap.size w5 wx ∧ Aside (ks.length = i ∧ ks.Nodup ∧ ∀ k ∈ ks, k < n))
  case atStart => exact ⟨0, [], Nat.zero_le _, by omega, rfl, OE.nil _ _ _, OE.nil _ _ _, OE.nil _ _ _, hU6, show Aside _ from .inl rfl, hB6, show Aside _ from ⟨rfl, List.nodup_nil, by simp⟩⟩
  case round =>
    obtain ⟨i, ks, hi, hgg, rfl, hO9, hO10, hO11, hOU, hAp, hBr, A⟩ := hrel
    by_cases hlt : i < n
    · have hltz : (i : Int) < (n : Int) := by omega
      have hi0 : (0 : Int) ≤ (i : Int) := by omega
      have HAP : Hid (Apart u9 u10) := hAp
      have HKS : Hid (ks.length = i ∧ ks.Nodup ∧ ∀ k ∈ ks, k < n) := A
      clear hAp A
      obtain ⟨b8, off8, rfl, hb8, hx8⟩ := re_one (T := TY8) (f := fun b => .int .u8 b.toNat) rfl rfl (hRo5.below hBr) (k := i) (by rw [hno]; exact hlt)
      generalize os[i]'_ = ob at hx8
      have hob := ob.toNat_lt
      generalize ob.toNat = on at hx8 hob
      have w1 : IntKind.i64.wrap (on : Int) = (on : Int) := IntWalk.i64_in _ (by omega)
      have hnn : ((n : Int) == 0) = false := by simp; omega
      have htm : (on : Int).tmod (n : Int) = ((on % n : Nat) : Int) := by rw [Int.tmod_eq_emod_of_nonneg (by omega)]; omega
      have hkn : on % n < n := Nat.mod_lt _ (by omega)
      have w2 : IntKind.i64.wrap ((on % n : Nat) : Int) = ((on % n : Nat) : Int) := IntWalk.i64_in _ (by omega)
      obtain ⟨j, hj, hjn⟩ := free (n := n) (ks := ks) (by have := HKS.out.1; omega)
      have HFR : Hid ((on % n + (n - on % n + j)) % n ∉ ks) := by
        unfold Hid
        rw [show on % n + (n - on % n + j) = n + j by omega, Nat.add_mod_left, Nat.mod_eq_of_lt hj]
        exact hjn
      generalize on % n = k0 at *
      obtain ⟨wo, rfl⟩ : ∃ wo : World, wo = wr := ⟨_, rfl⟩
      have hRow := hRo5.below hBr
      go_wp2
      clear w1 w2 htm hx8
      go_loopg [14] (2 * n) (fun gg s14 wx => ∃ (k t : Nat), k < n ∧ t ≤ gg ∧ s14 = .int .i64 k ∧ wx = wo ∧ Aside ((k + t) % n ∉ ks))
      case atStart => exact ⟨k0, n - k0 + j, hkn, by omega, rfl, rfl, show Aside _ from HFR.out⟩
      case round =>
        obtain ⟨k, t, hk, ht, rfl, rfl, A⟩ := hrel
        obtain ⟨_, _, eU, _, hxu⟩ := re_one (T := TBo) (f := fun b => .bool b) rfl rfl hOU.shape.2.1 (k := k) (by rw [usedL_length]; exact hk)
        injection eU with eU
        injection eU with e1 e2
        subst e1; subst e2
        rw [usedL_get, Nat.zero_add] at hxu
        have hk0' : (0 : Int) ≤ (k : Int) := by omega
        have hkz : (k : Int) < (n : Int) := by omega
        by_cases hm : k ∈ ks
        · rw [decide_eq_true hm] at hxu
          obtain ⟨t', rfl⟩ : ∃ t', t = t' + 1 := by
            cases t with
            | zero => exact absurd hm (by have := A.out; rwa [Nat.add_zero, Nat.mod_eq_of_lt hk] at this)
            | succ t' => exact ⟨t', rfl⟩
          have w1 : IntKind.i64.wrap ((k : Int) + 1) = (k : Int) + 1 := IntWalk.i64_in _ (by omega)
          have htm : ((k : Int) + 1).tmod (n : Int) = (((k + 1) % n : Nat) : Int) := by rw [Int.tmod_eq_emod_of_nonneg (by omega)]; exact (Int.natCast_emod (k + 1) n).symm
          have hkn1 : (k + 1) % n < n := Nat.mod_lt _ (by omega)
          have w2 : IntKind.i64.wrap (((k + 1) % n : Nat) : Int) = (((k + 1) % n : Nat) : Int) := IntWalk.i64_in _ (by omega)
          have HNX : Hid (((k + 1) % n + t') % n ∉ ks) := by
            unfold Hid
            rw [Nat.mod_add_mod]
            have := A.out
            rwa [show k + (t' + 1) = k + 1 + t' by omega] at this
          generalize (k + 1) % n = k1 at *
          clear A hm
          go_wp2
          go_roundg t'
          case measure => omega
          case rel => exact ⟨k1, t', hkn1, Nat.le_refl _, rfl, rfl, show Aside _ from HNX.out⟩
        · rw [decide_eq_false hm] at hxu
          have HNM : Hid (k ∉ ks) := hm
          have fxu := hOU.free k
          have hst : OE TBo (wr.setCell ⟨w5.heap.size, k, none⟩ (.bool true)) w5.heap.size (.slice (some ⟨w5.heap.size, 0, none⟩) n n) (usedL n (ks ++ [k])) := by
            have h := hOU.cell k 0 (.bool true) (x := decide (k ∈ ks)) (y := true) (by rw [List.getElem?_eq_getElem (by rw [usedL_length]; exact hk), usedL_get]) (by decide) rfl
            rw [usedL_set] at h
            have e : k * TBo.k + 0 = k := by show k * 1 + 0 = k; omega
            rw [e] at h
            exact h
          have hne9 : u9.ownBlock ≠ some w5.heap.size := fun e => by
            rcases oe_apart2 hOU hO9 (by decide) with h | h
            · cases h
            · exact h e.symm
          have hne10 : u10.ownBlock ≠ some w5.heap.size := fun e => by
            rcases oe_apart2 hOU hO10 (by decide) with h | h
            · cases h
            · exact h e.symm
          have hne11 : u11.ownBlock ≠ some w5.heap.size := fun e => by
            rcases oe_apart2 hOU hO11 (by decide) with h | h
            · cases h
            · exact h e.symm
          have hO9a := hO9.far (a := ⟨w5.heap.size, k, none⟩) hne9 (.bool true)
          have hO10a := hO10.far (a := ⟨w5.heap.size, k, none⟩) hne10 (.bool true)
          have hO11a := hO11.far (a := ⟨w5.heap.size, k, none⟩) hne11 (.bool true)
          have hBa := hBr.setCell (p := ⟨w5.heap.size, k, none⟩) (Nat.le_refl _) (.bool true)
          obtain ⟨bb, hbb⟩ : ∃ bb, bb = UInt8.ofNat (i + 1) := ⟨_, rfl⟩
          obtain ⟨bc, hbc⟩ : ∃ bc, bc = UInt8.ofNat (k + 1) := ⟨_, rfl⟩
          have hu8 : IntKind.u8.wrap ((i : Int) + 1) = (bb.toNat : Int) := by have := u8_small (i := i + 1) (by omega); rw [hbb, ← this]; congr 1
          have hu9 : IntKind.u8.wrap ((k : Int) + 1) = (bc.toNat : Int) := by have := u8_small (i := k + 1) (by omega); rw [hbc, ← this]; congr 1
          have HB1 : Hid (idb bb = idn (i + 1)) := by unfold Hid; rw [hbb]; rfl
          have HB2 : Hid (idb bc = idn (k + 1)) := by unfold Hid; rw [hbc]; rfl
          have w1 : IntKind.i64.wrap ((i : Int) + 1) = (i : Int) + 1 := IntWalk.i64_in _ (by omega)
          have w2 : IntKind.i64.wrap ((k : Int) + 1) = (k : Int) + 1 := IntWalk.i64_in _ (by omega)
          have hl9 : (hereL i).length + 1 ≤ 30000000000 := by unfold hereL; rw [List.length_map, List.length_range]; omega
          have HL10 : Hid ((thereL g ks).length + 1 ≤ 30000000000) := by unfold Hid thereL; rw [List.length_map, List.length_zipIdx, HKS.out.1]; omega
          have HL11 : Hid ((allL i).length + 1 ≤ 30000000000) := by unfold Hid allL; rw [List.length_map, List.length_range]; omega
          have hO9A := hO9a.alloc (.cells (nuc (idb bb, (i : Int) + 1)).toArray 58)
          have hN9 : RE TU ((wr.setCell ⟨w5.heap.size, k, none⟩ (.bool true)).alloc (.cells (nuc (idb bb, (i : Int) + 1)).toArray 58)) (some ⟨(wr.setCell ⟨w5.heap.size, k, none⟩ (.bool true)).heap.size, 0, none⟩) [(idb bb, (i : Int) + 1)] := RE.new TU _ _ _ _ _ rfl (by simp [Ty.flat, TU])
          have hBA := hBa.alloc hBa.size (.cells (nuc (idb bb, (i : Int) + 1)).toArray 58)
          clear hbb hbc hm A
          go_wp2_with (first | (refine wpList_yields rfl (exec_build_id _ _ (.tmp 76) rfl bb rfl) ?_) | (refine wpList_yields rfl (exec_build_nu _ _ (.tmp 77) (.tmp 79) rfl (idb bb, (i : Int) + 1) rfl rfl) ?_) | (refine wpList_slice_nu rfl (.tmp 80) rfl (idb bb, (i : Int) + 1) rfl ?_) | (at_builtin; go_loud (refine app_at TU hO9A hN9 hl9 hBA.size (.tmp 73) (.tmp 81) rfl rfl rfl rfl ?_)))
          intro v9 wb hO9b hG9 hat9
          have hO10b := (hO10a.alloc (.cells (nuc (idb bb, (i : Int) + 1)).toArray 58)).kept hG9 (apart_symm HAP.out)
          have hO11b := (hO11a.alloc (.cells (nuc (idb bb, (i : Int) + 1)).toArray 58)).kept hG9 (oe_apart2 hO11 hO9 (by decide))
          have hOUb := (hst.alloc (.cells (nuc (idb bb, (i : Int) + 1)).toArray 58)).kept hG9 (oe_apart2 hOU hO9 (by decide))
          have hBb := hBA.grown hG9 hBA.size (fun q hq => (World.ownsRow.lt hO9A q hq).1)
          have HAPb : Hid (Apart v9 u10) := apart_grown HAP.out hat9 (by have h := oe_lt (hO10a.alloc (.cells (nuc (idb bb, (i : Int) + 1)).toArray 58)); simpa using h)
          clear hO9 hO10 hO11 hOU hst hO9a hO10a hO11a hBa hO9A hN9 hBA hG9 hat9 hxu fxu hne9 hne10 hne11 hl9 hBr
          have HMU : Hid (0 ≤ (i : Int) * (1 + g) ∧ (i : Int) * (1 + g) ≤ 10240) := by
            unfold Hid
            refine ⟨Int.mul_nonneg hi0 (by omega), ?_⟩
            have h1 : (i : Int) * (1 + g) ≤ 40 * (1 + g) := Int.mul_le_mul_of_nonneg_right (by omega) (by omega)
            omega
          have x1 : IntKind.i64.wrap g = g := IntWalk.i64_in _ (by omega)
          have x2 : IntKind.i64.wrap (1 + g) = 1 + g := IntWalk.i64_in _ (by omega)
          have x3 : IntKind.i64.wrap ((i : Int) * (1 + g)) = (i : Int) * (1 + g) := IntWalk.i64_in _ (by have := HMU.out; omega)
          have x4 : IntKind.i64.wrap (1 + (i : Int) * (1 + g)) = 1 + (i : Int) * (1 + g) := IntWalk.i64_in _ (by have := HMU.out; omega)
          have hO10B := hO10b.alloc (.cells (nuc (idb bc, 1 + (i : Int) * (1 + g))).toArray 58)
          have hN10 : RE TU (wb.alloc (.cells (nuc (idb bc, 1 + (i : Int) * (1 + g))).toArray 58)) (some ⟨wb.heap.size, 0, none⟩) [(idb bc, 1 + (i : Int) * (1 + g))] := RE.new TU _ _ _ _ _ rfl (by simp [Ty.flat, TU])
          have hBB := hBb.alloc hBb.size (.cells (nuc (idb bc, 1 + (i : Int) * (1 + g))).toArray 58)
          go_wp2_with (first | (refine wpList_yields rfl (exec_build_id _ _ (.tmp 86) rfl bc rfl) ?_) | (refine wpList_yields rfl (exec_build_nu _ _ (.tmp 87) (.tmp 93) rfl (idb bc, 1 + (i : Int) * (1 + g)) rfl rfl) ?_) | (refine wpList_slice_nu rfl (.tmp 94) rfl (idb bc, 1 + (i : Int) * (1 + g)) rfl ?_) | (at_builtin; go_loud (refine app_at TU hO10B hN10 HL10.out hBB.size (.tmp 83) (.tmp 95) rfl rfl rfl rfl ?_)))
          intro v10 wc hO10c hG10 hat10
          have hO9c := (hO9b.alloc (.cells (nuc (idb bc, 1 + (i : Int) * (1 + g))).toArray 58)).kept hG10 HAPb.out
          have hO11c := (hO11b.alloc (.cells (nuc (idb bc, 1 + (i : Int) * (1 + g))).toArray 58)).kept hG10 (oe_apart2 hO11b hO10b (by decide))
          have hOUc := (hOUb.alloc (.cells (nuc (idb bc, 1 + (i : Int) * (1 + g))).toArray 58)).kept hG10 (oe_apart2 hOUb hO10b (by decide))
          have hBc := hBB.grown hG10 hBB.size (fun q hq => (World.ownsRow.lt hO10B q hq).1)
          have HAPc : Hid (Apart v9 v10) := apart_symm (apart_grown (apart_symm HAPb.out) hat10 (by have h := oe_lt (hO9b.alloc (.cells (nuc (idb bc, 1 + (i : Int) * (1 + g))).toArray 58)); simpa using h))
          clear hO9b hO10b hO11b hOUb hBb hO10B hN10 hBB hG10 hat10 x1 x2 x3 x4 hu8 hu9
          have hO11C := hO11c.alloc (.cells #[.int .i64 ((i : Int) + 1)] 3)
          have hN11 : RE TN (wc.alloc (.cells #[.int .i64 ((i : Int) + 1)] 3)) (some ⟨wc.heap.size, 0, none⟩) [(i : Int) + 1] := RE.new TN _ _ _ _ _ rfl rfl
          have hBC := hBc.alloc hBc.size (.cells #[.int .i64 ((i : Int) + 1)] 3)
          go_wp2_with (at_builtin; go_loud (refine El.app TN (m := 1) hO11C hN11 rfl (by intro e; cases e) HL11.out hBC.size (.tmp 97) (.tmp 100) rfl rfl rfl rfl ?_))
          intro v11 wd hO11d hG11
          have hO9d := (hO9c.alloc (.cells #[.int .i64 ((i : Int) + 1)] 3)).kept hG11 (oe_apart2 hO9c hO11c (by decide))
          have hO10d := (hO10c.alloc (.cells #[.int .i64 ((i : Int) + 1)] 3)).kept hG11 (oe_apart2 hO10c hO11c (by decide))
          have hOUd := (hOUc.alloc (.cells #[.int .i64 ((i : Int) + 1)] 3)).kept hG11 (oe_apart2 hOUc hO11c (by decide))
          have hBd := hBC.grown hG11 hBC.size (fun q hq => (World.ownsRow.lt hO11C q hq).1)
          clear hO9c hO10c hO11c hOUc hBc hO11C hN11 hBC hG11
          have HE9 : Hid (hereL (i + 1) = hereL i ++ [(idb bb, (i : Int) + 1)]) := by unfold Hid; rw [hereL_succ, HB1.out]
          have HE10 : Hid (thereL g (ks ++ [k]) = thereL g ks ++ [(idb bc, 1 + (i : Int) * (1 + g))]) := by unfold Hid; rw [thereL_snoc, HB2.out, HKS.out.1]
          have HE11 : Hid (allL (i + 1) = allL i ++ [(i : Int) + 1]) := allL_succ i
          have HK2 : Hid ((ks ++ [k]).length = i + 1 ∧ (ks ++ [k]).Nodup ∧ ∀ q ∈ ks ++ [k], q < n) := by
            obtain ⟨q1, q2, q3⟩ := HKS.out
            refine ⟨by simp [q1], ?_, fun q hq => ?_⟩
            · rw [List.nodup_append]
              exact ⟨q2, by simp, fun a ha b hb e => by obtain rfl := List.mem_singleton.1 hb; subst e; exact HNM.out ha⟩
            · rcases List.mem_append.1 hq with h | h
              · exact q3 q h
              · obtain rfl := List.mem_singleton.1 h; exact hk
          go_wp2
          go_roundg (n - (i + 1))
          case measure => omega
          case rel => exact ⟨i + 1, ks ++ [k], by omega, by omega, by go_num, by rw [HE9.out]; exact hO9d, by rw [HE10.out]; exact hO10d, by rw [HE11.out]; exact hO11d, hOUd, show Aside _ from HAPc.out, hBd, show Aside _ from HK2.out⟩
    · have hltz : ¬ (i : Int) < (n : Int) := by omega
      obtain rfl : i = n := by omega
      have HKS : Hid (ks.length = i ∧ ks.Nodup ∧ ∀ k ∈ ks, k < i) := A
      obtain ⟨wo, rfl⟩ : ∃ wo : World, wo = wr := ⟨_, rfl⟩
      obtain ⟨a9, d9, rfl, hR9, p1, p2', p3, p4⟩ := hO9.re
      obtain ⟨a10, d10, rfl, hR10, p5, p6, p7, p8⟩ := hO10.re
      obtain ⟨a11, d11, rfl, hR11, p9, p10, p11, p12⟩ := hO11.re
      have hl9 : (hereL i).length = i := by unfold hereL; rw [List.length_map, List.length_range]
      have hl10 : (thereL g ks).length = i := by unfold thereL; rw [List.length_map, List.length_zipIdx, HKS.out.1]
      have hl11 : (allL i).length = i := by unfold allL; rw [List.length_map, List.length_range]
      rw [hl9, hl10, hl11]
      have hSX5 := hSX.below hBr
      clear p1 p2' p4 p5 p6 p8 p9 p10 p12 hO9 hO10 hO11 hOU hAp A hU6 hltz hlt
      have hva : ∀ r ∈ (allL i).map dup, validB r = true := fun r hr => by
        obtain ⟨x, hx, rfl⟩ := List.mem_map.1 hr
        unfold allL at hx
        obtain ⟨q, hq, rfl⟩ := List.mem_map.1 hx
        rw [List.mem_range] at hq
        exact validB_iff.2 ⟨by unfold dup; simp only; omega, by unfold dup; simp only; omega, Int.le_refl _⟩
      have hnums : numsB (hereL i ++ thereL g ks) := fun q hq => by
        rcases List.mem_append.1 hq with h | h
        · unfold hereL at h
          obtain ⟨x, hx, rfl⟩ := List.mem_map.1 h
          rw [List.mem_range] at hx
          exact artB_iff.2 ⟨by simp only; omega, by simp only; omega⟩
        · have h2 : q.2 ∈ (thereL g ks).map (·.2) := List.mem_map.2 ⟨q, h, rfl⟩
          rw [thereL_snd] at h2
          obtain ⟨x, hx, e⟩ := List.mem_map.1 h2
          rw [List.mem_range, HKS.out.1] at hx
          have m1 : 0 ≤ (x : Int) * (1 + g) := Int.mul_nonneg (by omega) (by omega)
          have m2 : (x : Int) * (1 + g) ≤ 40 * (1 + g) := Int.mul_le_mul_of_nonneg_right (by omega) (by omega)
          exact artB_iff.2 ⟨by omega, by omega⟩
      have hnums2 : numsB (thereL g ks ++ hereL i) := fun q hq => hnums q (by rw [List.mem_append] at hq ⊢; exact hq.symm)
      have hBw := hB5.trans (hBr.mono hB5.size)
      go_wp2_with fail
      refine (of_any a11 i d11 (allL i) wo hl11 (by omega) hR11).mono ?_
      rintro e y1 ⟨hb1', ⟨_, v, rfl, hOA⟩ | ⟨hno, _⟩⟩
      rotate_left
      · exact absurd hva hno
      obtain ⟨aA, nA, cA, rfl, hSA⟩ := SetIn.of hOA (normal_valid hva).1 (normal_valid hva).2 (by have := normal_length ((allL i).map dup); rw [List.length_map, hl11] at this; omega)
      have hb1a := hb1'.alloc hb1'.size (.cells #[.slice aA nA cA] 26)
      have hSX1 := hSX5.below hb1a
      have hR9a := hR9.below hb1a
      have hR10a := hR10.below hb1a
      have hBw1 := hBw.trans (hb1a.mono hBw.size)
      have cX1 := hSX1.box.cell
      go_wp2_with fail
      generalize y1.heap.size = b2 at *
      generalize y1.alloc (.cells #[.slice aA nA cA] 26) = z1 at *
      refine (move_any aX nX cX X a9 i d9 (hereL i) a10 i d10 (thereL g ks) z1 hSX1.len (by have := hSX1.small; omega) hSX1.re hSX1.norm hl9 (by omega) hR9a p3 hl10 (by omega) hR10a p7).mono ?_
      rintro e y2 ⟨hb2, ⟨_, v, rfl, hOT⟩ | ⟨hno, _⟩⟩
      rotate_left
      · exact absurd hnums hno
      have hTv : ∀ r ∈ (moved (known X (hereL i)) (thereL g ks)).map dup, validB r = true := fun r hr => by
        obtain ⟨x, hx, rfl⟩ := List.mem_map.1 hr
        unfold moved at hx
        obtain ⟨q, hq, rfl⟩ := List.mem_map.1 hx
        have := artB_iff.1 (hnums q (List.mem_append_right _ (List.mem_filter.1 hq).1))
        exact validB_iff.2 ⟨this.1, this.2, Int.le_refl _⟩
      obtain ⟨aT, nT, cT, rfl, hST⟩ := SetIn.of hOT (normal_valid hTv).1 (normal_valid hTv).2 (by have h1 := normal_length ((moved (known X (hereL i)) (thereL g ks)).map dup); have h2 := moved_length (known X (hereL i)) (thereL g ks); rw [List.length_map] at h1; omega)
      have hb2a := hb2.alloc hb2.size (.cells #[.slice aT nT cT] 26)
      have hSX2 := hSX1.below hb2a
      have hSA2 := hSA.below hb2a
      have hR9b := hR9a.below hb2a
      have hR10b := hR10a.below hb2a
      have hBw2 := hBw1.trans (hb2a.mono hBw1.size)
      have cT2 := hST.box.cell
      go_wp2_with fail
      generalize y2.heap.size = b3 at *
      generalize y2.alloc (.cells #[.slice aT nT cT] 26) = z2 at *
      refine (move_any aT nT cT _ a10 i d10 (thereL g ks) a9 i d9 (hereL i) z2 hST.len (by have := hST.small; omega) hST.re hST.norm hl10 (by omega) hR10b p7 hl9 (by omega) hR9b p3).mono ?_
      rintro e y3 ⟨hb3, ⟨_, v, rfl, hOB⟩ | ⟨hno, _⟩⟩
      rotate_left
      · exact absurd hnums2 hno
      generalize hTe : normal ((moved (known X (hereL i)) (thereL g ks)).map dup) = T at *
      have hBv : ∀ r ∈ (moved (known T (thereL g ks)) (hereL i)).map dup, validB r = true := fun r hr => by
        obtain ⟨x, hx, rfl⟩ := List.mem_map.1 hr
        unfold moved at hx
        obtain ⟨q, hq, rfl⟩ := List.mem_map.1 hx
        have := artB_iff.1 (hnums q (List.mem_append_left _ (List.mem_filter.1 hq).1))
        exact validB_iff.2 ⟨this.1, this.2, Int.le_refl _⟩
      obtain ⟨aB, nB, cB, rfl, hSB⟩ := SetIn.of hOB (normal_valid hBv).1 (normal_valid hBv).2 (by have h1 := normal_length ((moved (known T (thereL g ks)) (hereL i)).map dup); have h2 := moved_length (known T (thereL g ks)) (hereL i); rw [List.length_map] at h1; omega)
      have hb3a := hb3.alloc hb3.size (.cells #[.slice aB nB cB] 26)
      have hSX3 := hSX2.below hb3a
      have hSA3 := hSA2.below hb3a
      have hST3 := hST.below hb3a
      have hBw3 := hBw2.trans (hb3a.mono hBw2.size)
      have cX3 := hSX3.box.cell
      have cA3 := hSA3.box.cell
      go_wp2_with fail
      generalize y3.heap.size = b4 at *
      generalize y3.alloc (.cells #[.slice aB nB cB] 26) = z3 at *
      refine (inter_in hSX3 hSA3).mono ?_
      rintro e y4 ⟨hb4, v, W, rfl, hOW, hWn, hWv, hWm, hWl⟩
      have hsm := hSX3.small
      have hsm2 := hSA3.small
      obtain ⟨aW, nW, cW', rfl, hSW⟩ := SetIn.of hOW hWn hWv (by have h1 := hSX3.len; have h2 := hSA3.len; have h3 := normal_length ((allL i).map dup); rw [List.length_map, hl11] at h3; omega)
      have hb4a := hb4.alloc hb4.size (.cells #[.slice aW nW cW'] 26)
      have hST4 := hST3.below hb4a
      have hSB4 := hSB.below hb4a
      have hU5 := hBw3.trans (hb4a.mono hBw3.size)
      obtain ⟨hBW, hCT⟩ := back_law (g := g) (by omega : i ≤ 40) hg0 HKS.out.2.1 HKS.out.1 HKS.out.2.2 hWn (fun q => hWm q)
      rw [hTe] at hBW hCT
      rw [hBW] at hSB4
      go_wp2_with fail
      generalize y4.heap.size = b5 at *
      generalize y4.alloc (.cells #[.slice aW nW cW'] 26) = u5 at *
      have lE : ∀ Wx, Below u5.heap.size u5 Wx → GivesB Tryz.prog 26 #[.agg #[.slice aB nB cB], .agg #[.slice aW nW cW']] (.bool true) Wx := fun Wx hb => by
        have h := equal_in (hSB4.below hb) (hSW.below hb); rwa [decide_eq_true rfl] at h
      have lT : ∀ Wx, Below u5.heap.size u5 Wx → GivesB Tryz.prog 27 #[.agg #[.slice aT nT cT]] (.int .i64 (countL W)) Wx := fun Wx hb => by
        have h := count_in (hST4.below hb); rwa [hCT] at h
      have lW : ∀ Wx, Below u5.heap.size u5 Wx → GivesB Tryz.prog 27 #[.agg #[.slice aW nW cW']] (.int .i64 (countL W)) Wx := fun Wx hb => count_in (hSW.below hb)
      have cell : ∀ Wx, Below u5.heap.size u5 Wx → Wx.cell? ⟨b4, 0, none⟩ = some (.slice aB nB cB) ∧ Wx.cell? ⟨b5, 0, none⟩ = some (.slice aW nW cW') ∧ Wx.cell? ⟨b3, 0, none⟩ = some (.slice aT nT cT) := fun Wx hb => ⟨(hSB4.below hb).box.cell, (hSW.below hb).box.cell, (hST4.below hb).box.cell⟩
      clear hSB4 hSW hST4 hST3 hSX3 hSA3 hSX2 hSA2 hST hSX1 hSA cX3 cA3 cT2 cX1 hTe hTv hBv hOB hOW hWm hWn hWv hWl
      generalize countL W = kW at *
      unfold GivesB at lE lT lW
      have hz : Below u5.heap.size u5 u5 := Below.refl _ _
      obtain ⟨k1, k2, k3⟩ := cell u5 hz
      clear hnums hnums2 hva hR9 hR10 hR11 hR9a hR10a hR9b hR10b HKS hBr hBw hBw1 hBw2 hBw3 hRo5 hSX hSX5 hSX6 hB6 hB5 hb1' hb1a hb2 hb2a hb3 hb3a hb4 hb4a hl9 hl10 hl11 p3 p7 p11 hXs hsm hsm2 hBW hCT
      try dsimp only [List.append]
      refine wp_region_held_drew (S := fun Wx => Below u5.heap.size u5 Wx ∧ Wx.cell? ⟨b4, 0, none⟩ = some (.slice aB nB cB) ∧ Wx.cell? ⟨b5, 0, none⟩ = some (.slice aW nW cW') ∧ Wx.cell? ⟨b3, 0, none⟩ = some (.slice aT nT cT)) (by kernel_rfl) ⟨Go.below_drewN hz 1, k1, k2, k3⟩ (fun hh0 => ?_)
      clear k1 k2 k3 hz
      refine take_op (i := 0) (d := some 127) (v := ?_) (by kernel_rfl) (by kernel_rfl) (by kernel_rfl) (by kernel_rfl) (fun _ _ _ h => h) (fun o ho => ?_) hh0 ?_
      rotate_left
      · simp only [List.getElem?_toArray, List.getElem?_cons_succ, List.getElem?_cons_zero, Option.some.injEq] at ho; subst ho; refine Or.inl ⟨by rfl, fun Wx hSw => ?_⟩; obtain ⟨hSb, k1, k2, k3⟩ := hSw; go_simp; all_goals with_reducible rfl
      try simp only [Act.put, List.setIfInBounds_toArray, List.set_cons_zero, List.set_cons_succ]
      refine take_op (i := 1) (d := some 128) (v := ?_) (by kernel_rfl) (by kernel_rfl) (by kernel_rfl) (by kernel_rfl) (fun _ _ _ h => h) (fun o ho => ?_) hh0 ?_
      rotate_left
      · simp only [List.getElem?_toArray, List.getElem?_cons_succ, List.getElem?_cons_zero, Option.some.injEq] at ho; subst ho; refine Or.inl ⟨by rfl, fun Wx hSw => ?_⟩; obtain ⟨hSb, k1, k2, k3⟩ := hSw; go_simp; all_goals with_reducible rfl
      try simp only [Act.put, List.setIfInBounds_toArray, List.set_cons_zero, List.set_cons_succ]
      refine take_op (i := 2) (d := some 129) (v := ?_) (by kernel_rfl) (by kernel_rfl) (by kernel_rfl) (by kernel_rfl) (fun _ _ _ h => h) (fun o ho => ?_) hh0 ?_
      rotate_left
      · simp only [List.getElem?_toArray, List.getElem?_cons_succ, List.getElem?_cons_zero, Option.some.injEq] at ho; subst ho; refine Or.inl ⟨by rfl, fun Wx hSw => ?_⟩; obtain ⟨hSb, k1, k2, k3⟩ := hSw; go_simp; all_goals with_reducible rfl
      try simp only [Act.put, List.setIfInBounds_toArray, List.set_cons_zero, List.set_cons_succ]
      refine take_op (i := 3) (d := some 130) (v := ?_) (by kernel_rfl) (by kernel_rfl) (by kernel_rfl) (by kernel_rfl) (fun _ _ _ h => h) (fun o ho => ?_) hh0 ?_
      rotate_left
      · simp only [List.getElem?_toArray, List.getElem?_cons_succ, List.getElem?_cons_zero, Option.some.injEq] at ho; subst ho; refine Or.inl ⟨by rfl, fun Wx hSw => ?_⟩; obtain ⟨hSb, k1, k2, k3⟩ := hSw; go_simp; all_goals with_reducible rfl
      try simp only [Act.put, List.setIfInBounds_toArray, List.set_cons_zero, List.set_cons_succ]
      refine take_op (i := 4) (d := some 131) (v := ?_) (by kernel_rfl) (by kernel_rfl) (by kernel_rfl) (by kernel_rfl) (fun _ _ _ h => h) (fun o ho => ?_) hh0 ?_
      rotate_left
      · simp only [List.getElem?_toArray, List.getElem?_cons_succ, List.getElem?_cons_zero, Option.some.injEq] at ho; subst ho; refine Or.inl ⟨by rfl, fun Wx hSw => ?_⟩; obtain ⟨hSb, k1, k2, k3⟩ := hSw; go_simp; all_goals with_reducible rfl
      try simp only [Act.put, List.setIfInBounds_toArray, List.set_cons_zero, List.set_cons_succ]
      refine take_op (i := 5) (d := some 132) (v := ?_) (by kernel_rfl) (by kernel_rfl) (by kernel_rfl) (by kernel_rfl) (fun _ _ _ h => h) (fun o ho => ?_) hh0 ?_
      rotate_left
      · simp only [List.getElem?_toArray, List.getElem?_cons_succ, List.getElem?_cons_zero, Option.some.injEq] at ho; subst ho; refine Or.inl ⟨by rfl, fun Wx hSw => ?_⟩; obtain ⟨hSb, k1, k2, k3⟩ := hSw; go_simp; all_goals with_reducible rfl
      try simp only [Act.put, List.setIfInBounds_toArray, List.set_cons_zero, List.set_cons_succ]
      refine take_op (i := 6) (d := some 133) (v := ?_) (by kernel_rfl) (by kernel_rfl) (by kernel_rfl) (by kernel_rfl) (fun _ _ _ h => h) (fun o ho => ?_) hh0 ?_
      rotate_left
      · simp only [List.getElem?_toArray, List.getElem?_cons_succ, List.getElem?_cons_zero, Option.some.injEq] at ho; subst ho; refine Or.inl ⟨by rfl, fun Wx hSw => ?_⟩; obtain ⟨hSb, k1, k2, k3⟩ := hSw; go_simp; all_goals with_reducible rfl
      try simp only [Act.put, List.setIfInBounds_toArray, List.set_cons_zero, List.set_cons_succ]
      refine take_op (i := 7) (d := some 134) (v := ?_) (by kernel_rfl) (by kernel_rfl) (by kernel_rfl) (by kernel_rfl) (fun _ _ _ h => h) (fun o ho => ?_) hh0 ?_
      rotate_left
      · simp only [List.getElem?_toArray, List.getElem?_cons_succ, List.getElem?_cons_zero, Option.some.injEq] at ho; subst ho; refine Or.inl ⟨by rfl, fun Wx hSw => ?_⟩; obtain ⟨hSb, k1, k2, k3⟩ := hSw; go_simp; all_goals with_reducible rfl
      try simp only [Act.put, List.setIfInBounds_toArray, List.set_cons_zero, List.set_cons_succ]
      refine take_op (i := 8) (d := some 135) (v := ?_) (by kernel_rfl) (by kernel_rfl) (by kernel_rfl) (by kernel_rfl) (fun _ _ _ h => h) (fun o ho => ?_) hh0 ?_
      rotate_left
      · simp only [List.getElem?_toArray, List.getElem?_cons_succ, List.getElem?_cons_zero, Option.some.injEq] at ho; subst ho; refine Or.inl ⟨by rfl, fun Wx hSw => ?_⟩; obtain ⟨hSb, k1, k2, k3⟩ := hSw; go_simp; all_goals with_reducible rfl
      try simp only [Act.put, List.setIfInBounds_toArray, List.set_cons_zero, List.set_cons_succ]
      refine take_op (i := 9) (d := some 136) (v := ?_) (by kernel_rfl) (by kernel_rfl) (by kernel_rfl) (by kernel_rfl) (fun _ _ _ h => h) (fun o ho => ?_) hh0 ?_
      rotate_left
      · simp only [List.getElem?_toArray, List.getElem?_cons_succ, List.getElem?_cons_zero, Option.some.injEq] at ho; subst ho; refine Or.inl ⟨by rfl, fun Wx hSw => ?_⟩; obtain ⟨hSb, k1, k2, k3⟩ := hSw; go_simp; all_goals with_reducible rfl
      try simp only [Act.put, List.setIfInBounds_toArray, List.set_cons_zero, List.set_cons_succ]
      refine take_op (i := 10) (d := some 137) (v := ?_) (by kernel_rfl) (by kernel_rfl) (by kernel_rfl) (by kernel_rfl) (fun _ _ _ h => h) (fun o ho => ?_) hh0 ?_
      rotate_left
      · simp only [List.getElem?_toArray, List.getElem?_cons_succ, List.getElem?_cons_zero, Option.some.injEq] at ho; subst ho; refine Or.inl ⟨by rfl, fun Wx hSw => ?_⟩; obtain ⟨hSb, k1, k2, k3⟩ := hSw; go_simp; all_goals with_reducible rfl
      try simp only [Act.put, List.setIfInBounds_toArray, List.set_cons_zero, List.set_cons_succ]
      refine take_op (i := 11) (d := some 138) (v := ?_) (by kernel_rfl) (by kernel_rfl) (by kernel_rfl) (by kernel_rfl) (fun _ _ _ h => h) (fun o ho => ?_) hh0 ?_
      rotate_left
      · simp only [List.getElem?_toArray, List.getElem?_cons_succ, List.getElem?_cons_zero, Option.some.injEq] at ho; subst ho; refine Or.inl ⟨by rfl, fun Wx hSw => ?_⟩; obtain ⟨hSb, k1, k2, k3⟩ := hSw; go_simp; all_goals with_reducible rfl
      try simp only [Act.put, List.setIfInBounds_toArray, List.set_cons_zero, List.set_cons_succ]
      refine take_op (i := 12) (d := some 139) (v := ?_) (by kernel_rfl) (by kernel_rfl) (by kernel_rfl) (by kernel_rfl) (fun _ _ _ h => h) (fun o ho => ?_) hh0 ?_
      rotate_left
      · simp only [List.getElem?_toArray, List.getElem?_cons_succ, List.getElem?_cons_zero, Option.some.injEq] at ho; subst ho; refine Or.inl ⟨by rfl, fun Wx hSw => ?_⟩; obtain ⟨hSb, k1, k2, k3⟩ := hSw; go_simp; all_goals with_reducible rfl
      try simp only [Act.put, List.setIfInBounds_toArray, List.set_cons_zero, List.set_cons_succ]
      refine take_op (i := 13) (d := some 140) (v := ?_) (by kernel_rfl) (by kernel_rfl) (by kernel_rfl) (by kernel_rfl) (fun _ _ _ h => h) (fun o ho => ?_) hh0 ?_
      rotate_left
      · simp only [List.getElem?_toArray, List.getElem?_cons_succ, List.getElem?_cons_zero, Option.some.injEq] at ho; subst ho; refine Or.inl ⟨by rfl, fun Wx hSw => ?_⟩; obtain ⟨hSb, k1, k2, k3⟩ := hSw; go_simp; all_goals with_reducible rfl
      try simp only [Act.put, List.setIfInBounds_toArray, List.set_cons_zero, List.set_cons_succ]
      refine take_op (i := 14) (d := some 141) (v := ?_) (by kernel_rfl) (by kernel_rfl) (by kernel_rfl) (by kernel_rfl) (fun _ _ _ h => h) (fun o ho => ?_) hh0 ?_
      rotate_left
      · simp only [List.getElem?_toArray, List.getElem?_cons_succ, List.getElem?_cons_zero, Option.some.injEq] at ho; subst ho; refine Or.inl ⟨by rfl, fun Wx hSw => ?_⟩; obtain ⟨hSb, k1, k2, k3⟩ := hSw; go_simp; all_goals with_reducible rfl
      try simp only [Act.put, List.setIfInBounds_toArray, List.set_cons_zero, List.set_cons_succ]
      refine take_op (i := 15) (d := some 142) (v := ?_) (by kernel_rfl) (by kernel_rfl) (by kernel_rfl) (by kernel_rfl) (fun _ _ _ h => h) (fun o ho => ?_) hh0 ?_
      rotate_left
      · simp only [List.getElem?_toArray, List.getElem?_cons_succ, List.getElem?_cons_zero, Option.some.injEq] at ho; subst ho; refine Or.inl ⟨by rfl, fun Wx hSw => ?_⟩; obtain ⟨hSb, k1, k2, k3⟩ := hSw; go_simp; all_goals with_reducible rfl
      try simp only [Act.put, List.setIfInBounds_toArray, List.set_cons_zero, List.set_cons_succ]
      refine take_op (i := 16) (d := some 143) (v := ?_) (by kernel_rfl) (by kernel_rfl) (by kernel_rfl) (by kernel_rfl) (fun _ _ _ h => h) (fun o ho => ?_) hh0 ?_
      rotate_left
      · simp only [List.getElem?_toArray, List.getElem?_cons_succ, List.getElem?_cons_zero, Option.some.injEq] at ho; subst ho; refine Or.inl ⟨by rfl, fun Wx hSw => ?_⟩; obtain ⟨hSb, k1, k2, k3⟩ := hSw; go_simp; all_goals with_reducible rfl
      try simp only [Act.put, List.setIfInBounds_toArray, List.set_cons_zero, List.set_cons_succ]
      refine wpAnyH_ready (rs := [17]) (by kernel_rfl) (by simp) (one_op (d := some 144) (by kernel_rfl) fun o ho K hK => ?_)
      simp only [List.getElem?_toArray, List.getElem?_cons_succ, List.getElem?_cons_zero, Option.some.injEq] at ho
      subst ho
      go_simp
      refine (lE _ hh0.1).mono ?_
      rintro e y1 ⟨rfl, hb⟩
      go_wp2_with fail
      have hy1 := hh0.1.trans (hb.mono hh0.1.size)
      have hh1 : Below u5.heap.size u5 y1 ∧ _ := ⟨hy1, cell y1 hy1⟩
      refine hK.out _ _ hh1 (fun _ => ?_)
      clear hK K hb hy1 hh0
      try simp only [Act.put, List.setIfInBounds_toArray, List.set_cons_zero, List.set_cons_succ]
      refine take_op (i := 18) (d := some 145) (v := ?_) (by kernel_rfl) (by kernel_rfl) (by kernel_rfl) (by kernel_rfl) (fun _ _ _ h => h) (fun o ho => ?_) hh1 ?_
      rotate_left
      · simp only [List.getElem?_toArray, List.getElem?_cons_succ, List.getElem?_cons_zero, Option.some.injEq] at ho; subst ho; refine Or.inl ⟨by rfl, fun Wx hSw => ?_⟩; obtain ⟨hSb, k1, k2, k3⟩ := hSw; go_simp; all_goals with_reducible rfl
      try simp only [Act.put, List.setIfInBounds_toArray, List.set_cons_zero, List.set_cons_succ]
      refine take_op (i := 19) (d := some 146) (v := ?_) (by kernel_rfl) (by kernel_rfl) (by kernel_rfl) (by kernel_rfl) (fun _ _ _ h => h) (fun o ho => ?_) hh1 ?_
      rotate_left
      · simp only [List.getElem?_toArray, List.getElem?_cons_succ, List.getElem?_cons_zero, Option.some.injEq] at ho; subst ho; refine Or.inl ⟨by rfl, fun Wx hSw => ?_⟩; obtain ⟨hSb, k1, k2, k3⟩ := hSw; go_simp; all_goals with_reducible rfl
      try simp only [Act.put, List.setIfInBounds_toArray, List.set_cons_zero, List.set_cons_succ]
      refine take_op (i := 20) (d := some 147) (v := ?_) (by kernel_rfl) (by kernel_rfl) (by kernel_rfl) (by kernel_rfl) (fun _ _ _ h => h) (fun o ho => ?_) hh1 ?_
      rotate_left
      · simp only [List.getElem?_toArray, List.getElem?_cons_succ, List.getElem?_cons_zero, Option.some.injEq] at ho; subst ho; refine Or.inl ⟨by rfl, fun Wx hSw => ?_⟩; obtain ⟨hSb, k1, k2, k3⟩ := hSw; go_simp; all_goals with_reducible rfl
      try simp only [Act.put, List.setIfInBounds_toArray, List.set_cons_zero, List.set_cons_succ]
      refine take_op (i := 22) (d := some 149) (v := ?_) (by kernel_rfl) (by kernel_rfl) (by kernel_rfl) (by kernel_rfl) (fun _ _ _ h => h) (fun o ho => ?_) hh1 ?_
      rotate_left
      · simp only [List.getElem?_toArray, List.getElem?_cons_succ, List.getElem?_cons_zero, Option.some.injEq] at ho; subst ho; refine Or.inl ⟨by rfl, fun Wx hSw => ?_⟩; obtain ⟨hSb, k1, k2, k3⟩ := hSw; go_simp; all_goals with_reducible rfl
      try simp only [Act.put, List.setIfInBounds_toArray, List.set_cons_zero, List.set_cons_succ]
      refine wpAnyH_ready (rs := [21]) (by kernel_rfl) (by simp) (one_op (d := some 148) (by kernel_rfl) fun o ho K hK => ?_)
      simp only [List.getElem?_toArray, List.getElem?_cons_succ, List.getElem?_cons_zero, Option.some.injEq] at ho
      subst ho
      go_simp
      refine (lT _ hh1.1).mono ?_
      rintro e y2 ⟨rfl, hb⟩
      go_wp2_with fail
      have hy2 := hh1.1.trans (hb.mono hh1.1.size)
      have hh2 : Below u5.heap.size u5 y2 ∧ _ := ⟨hy2, cell y2 hy2⟩
      refine hK.out _ _ hh2 (fun _ => ?_)
      clear hK K hb hy2 hh1
      try simp only [Act.put, List.setIfInBounds_toArray, List.set_cons_zero, List.set_cons_succ]
      refine wpAnyH_ready (rs := [23]) (by kernel_rfl) (by simp) (one_op (d := some 150) (by kernel_rfl) fun o ho K hK => ?_)
      simp only [List.getElem?_toArray, List.getElem?_cons_succ, List.getElem?_cons_zero, Option.some.injEq] at ho
      subst ho
      go_simp
      refine (lW _ hh2.1).mono ?_
      rintro e y3 ⟨rfl, hb⟩
      go_wp2_with fail
      have hy3 := hh2.1.trans (hb.mono hh2.1.size)
      have hh3 : Below u5.heap.size u5 y3 ∧ _ := ⟨hy3, cell y3 hy3⟩
      refine hK.out _ _ hh3 (fun _ => ?_)
      clear hK K hb hy3 hh2
      try simp only [Act.put, List.setIfInBounds_toArray, List.set_cons_zero, List.set_cons_succ]
      refine take_op (i := 24) (d := some 151) (v := ?_) (by kernel_rfl) (by kernel_rfl) (by kernel_rfl) (by kernel_rfl) (fun _ _ _ h => h) (fun o ho => ?_) hh3 ?_
      rotate_left
      · simp only [List.getElem?_toArray, List.getElem?_cons_succ, List.getElem?_cons_zero, Option.some.injEq] at ho; subst ho; refine Or.inl ⟨by rfl, fun Wx hSw => ?_⟩; obtain ⟨hSb, k1, k2, k3⟩ := hSw; go_simp; all_goals with_reducible rfl
      try simp only [Act.put, List.setIfInBounds_toArray, List.set_cons_zero, List.set_cons_succ]
      refine take_op (i := 25) (d := some 152) (v := ?_) (by kernel_rfl) (by kernel_rfl) (by kernel_rfl) (by kernel_rfl) (fun _ _ _ h => h) (fun o ho => ?_) hh3 ?_
      rotate_left
      · simp only [List.getElem?_toArray, List.getElem?_cons_succ, List.getElem?_cons_zero, Option.some.injEq] at ho; subst ho; refine Or.inl ⟨by rfl, fun Wx hSw => ?_⟩; obtain ⟨hSb, k1, k2, k3⟩ := hSw; go_simp; all_goals with_reducible rfl
      try simp only [Act.put, List.setIfInBounds_toArray, List.set_cons_zero, List.set_cons_succ]
      refine take_op (i := 26) (d := some 6) (v := ?_) (by kernel_rfl) (by kernel_rfl) (by kernel_rfl) (by kernel_rfl) (fun _ _ _ h => h) (fun o ho => ?_) hh3 ?_
      rotate_left
      · simp only [List.getElem?_toArray, List.getElem?_cons_succ, List.getElem?_cons_zero, Option.some.injEq] at ho; subst ho; refine Or.inl ⟨by rfl, fun Wx hSw => ?_⟩; obtain ⟨hSb, k1, k2, k3⟩ := hSw; go_simp; all_goals with_reducible rfl
      try simp only [Act.put, List.setIfInBounds_toArray, List.set_cons_zero, List.set_cons_succ]
      refine wpAnyH_done (by kernel_rfl) ?_ _
      go_wp2_with fail
      go_ret
      exact ⟨rfl, hU5.trans (hh3.1.mono hU5.size)⟩

set_option maxRecDepth 100000 in
set_option maxHeartbeats 2000000 in
theorem lawBack_bad (a : Option Addr) (n0 c0 : Nat) (zs0 : List Rg) (a' : Option Addr) (n c' : Nat) (g : Int) (w : World) (hn0 : zs0.length = n0) (hR : RE TG w a zs0)
    (hM : ML w) (hT : TB w) (h30 : n0 ≤ 30) (h40 : n ≤ 40) (hv : ¬ ∀ r ∈ zs0, validB r = true) :
    GivesB Tryz.prog 6 #[.slice a n0 c0, .slice a' n c', .int .u8 g] (.bool true) w := by
  have hk := known_any w hM hT
  clear hM hT
  have hz1 : ¬ (30 : Int) < (n0 : Int) := by omega
  have hz2 : ¬ (40 : Int) < (n : Int) := by omega
  unfold GivesB at hk ⊢
  go_enter Tryz.func6, Tryz.ntmps6
  go_wp2_with fail
  refine hk.mono ?_
  clear hk
  rintro e w1 ⟨rfl, hB1⟩
  go_wp2_with fail
  refine (own_any a n0 c0 zs0 w1 hn0 (by omega) (hR.below hB1)).mono ?_
  rintro e w2 ⟨hb2, v2, rfl, hO2⟩
  have hB2 := hB1.trans (hb2.mono hB1.size)
  obtain ⟨p2, c2', rfl, hR2, q1, q2, q3, q4⟩ := hO2.re
  rw [hn0]
  clear q1 q2 q3 q4 hO2 hb2
  go_wp2_with fail
  refine (from_any p2 n0 c2' zs0 w2 hn0 (by omega) hR2).mono ?_
  rintro e w3 ⟨hb3, ⟨hyes, _⟩ | ⟨_, rfl⟩⟩
  · exact absurd hyes hv
  have hB3 := hB2.trans (hb3.mono hB2.size)
  have hB5 := hB3.alloc hB3.size (.cells #[.slice none 0 0] 26)
  go_wp2_with fail
  go_ret
  exact ⟨rfl, hB5⟩

set_option maxRecDepth 100000 in
set_option maxHeartbeats 2000000 in
theorem lawBack_big (a : Option Addr) (n0 c0 : Nat) (a' : Option Addr) (n c' : Nat) (g : Int) (w : World) (hM : ML w) (hT : TB w) (h : ¬ (n0 ≤ 30 ∧ n ≤ 40)) :
    GivesB Tryz.prog 6 #[.slice a n0 c0, .slice a' n c', .int .u8 g] (.bool true) w := by
  have hk := known_any w hM hT
  have hk2 : ∀ W, Below w.heap.size w W → GivesB Tryz.prog 11 #[] (.bool true) W := fun W hb => known_any W (hM.below hb) (hT.below hb)
  clear hM hT
  unfold GivesB at hk hk2 ⊢
  have hcase : (30 : Int) < (n0 : Int) ∨ (¬ (30 : Int) < (n0 : Int) ∧ (40 : Int) < (n : Int)) := by omega
  clear h
  rcases hcase with hz1 | ⟨hz1, hz2⟩
  all_goals
    go_enter Tryz.func6, Tryz.ntmps6
    go_wp2_with fail
    refine hk.mono ?_
    clear hk
    rintro e w1 ⟨rfl, hB1⟩
    go_wp2_with fail
    refine (hk2 w1 hB1).mono ?_
    rintro e w2 ⟨rfl, hB2⟩
    go_wp2_with fail
    go_ret
    exact ⟨rfl, hB1.trans (hB2.mono hB1.size)⟩

theorem lawBack_any (a : Option Addr) (n0 c0 : Nat) (zs0 : List Rg) (a' : Option Addr) (n c' : Nat) (os : List UInt8) (g : Int) (w : World) (hM : ML w) (hT : TB w) (hn0 : zs0.length = n0) (hR : RE TG w a zs0) (hno : os.length = n) (hRo : RE TY8 w a' os) (hs : (Lit.int .u8 g).wf = true) :
    GivesB Tryz.prog 6 #[.slice a n0 c0, .slice a' n c', .int .u8 g] (.bool true) w := by
  have hb : 0 ≤ g ∧ g < 256 := by
    unfold Lit.wf at hs
    rw [Bool.and_eq_true, decide_eq_true_eq, decide_eq_true_eq] at hs
    have e1 : IntKind.min .u8 = 0 := by decide
    have e2 : IntKind.max .u8 = 255 := by decide
    rw [e1, e2] at hs
    omega
  by_cases h : n0 ≤ 30 ∧ n ≤ 40
  case neg => exact lawBack_big a n0 c0 a' n c' g w hM hT h
  by_cases hv : ∀ r ∈ zs0, validB r = true
  · exact lawBack_main a n0 c0 zs0 a' n c' os g w hn0 hR hno hRo hM hT h.1 h.2 hb.1 (by omega) hv
  · exact lawBack_bad a n0 c0 zs0 a' n c' g w hn0 hR hM hT h.1 h.2 hv
end Go.Proofs.YtddmldfdakmecaaGreatDoor
