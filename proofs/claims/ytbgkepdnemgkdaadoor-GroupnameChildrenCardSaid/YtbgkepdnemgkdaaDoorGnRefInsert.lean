/- Walk of the reference insert, for lists of at most 100000 strings. -/
import Derived.Test.YtbgkepdnemgkdaaDoorGnWalkV
import Derived.Laws.AppendOwnNone
import Derived.Laws.OwnMore
import Derived.Deep.RegionLaw
namespace Go.Proofs.YtbgkepdnemgkdaaDoor
open Go.RowKit Go.Gn

theorem OwnS.alloc {w : World} {base : Nat} {v : Value} {xs : List ByteArray} (h : OwnS w base v xs) (o : Obj) : OwnS (w.alloc o) base v xs := World.ownsRow.alloc h o
theorem OwnS.lit (W : World) (base : Nat) (hb : base ≤ W.heap.size) : OwnS (W.alloc (.cells #[] 9)) base (.slice (some ⟨W.heap.size, 0, none⟩) 0 0) [] :=
  World.ownsRow_lit W #[] 0 hb (Nat.zero_le _) rfl
theorem OwnS.lit1 (W : World) (base m : Nat) (hm : W.heap.size = m) (hb : base ≤ W.heap.size) : OwnS (W.alloc (.cells #[] 9)) base (.slice (some ⟨m, 0, none⟩) 0 0) [] := hm ▸ OwnS.lit W base hb
theorem SS.new1 (W : World) (m : Nat) (hm : W.heap.size = m) (l : List ByteArray) (t : TypeId) : SS (W.alloc (.cells (l.map Value.string).toArray t)) (Option.some ⟨m, 0, none⟩) l := hm ▸ SS.new W l t
theorem SS.alloc {w : World} {a : Option Addr} {zs : List ByteArray} (h : SS w a zs) (o : Obj) : SS (w.alloc o) a zs := h.below ((Below.refl _ _).alloc (Nat.le_refl _) _)
theorem SS.kept {w w' : World} {b off : Nat} {zs : List ByteArray} {row : Option Nat} (h : SS w (Option.some ⟨b, off, none⟩) zs) (hg : w.grownBy w' row) (hne : Option.some b ≠ row) : SS w' (Option.some ⟨b, off, none⟩) zs := by
  rcases h with h | ⟨b', off', ha, hlt, hc⟩
  · exact .inl h
  · injection ha with ha
    injection ha with e1 e2
    subst e1; subst e2
    refine .inr ⟨b, off, rfl, Nat.lt_of_lt_of_le hlt hg.size, fun j x hx => ?_⟩
    rw [World.cell?_of_block (hg.block b hlt hne)]
    exact hc j x hx
theorem SS.drop {w : World} {b off : Nat} {zs : List ByteArray} (h : SS w (Option.some ⟨b, off, none⟩) zs) (k : Nat) : SS w (Option.some ⟨b, off + k, none⟩) (zs.drop k) := by
  rcases h with h | ⟨b', off', ha, hlt, hc⟩
  · exact .inl (by rw [h]; simp)
  · injection ha with ha
    injection ha with e1 e2
    subst e1; subst e2
    refine .inr ⟨b, off + k, rfl, hlt, fun j x hx => ?_⟩
    rw [List.getElem?_drop] at hx
    rw [Nat.add_assoc]
    exact hc (k + j) x hx

theorem SS.dropIf {w : World} {b off c : Nat} {zs : List ByteArray} (h : SS w (Option.some ⟨b, off, none⟩) zs) (k : Nat) (hc : zs.length ≤ c) : SS w (if c = k then Option.some ⟨b, off, none⟩ else Option.some ⟨b, off + k, none⟩) (zs.drop k) := by
  split
  · exact .inl (List.drop_of_length_le (by omega))
  · exact h.drop k

set_option maxRecDepth 100000 in
/-- append(v, zs...) with a source that lies anywhere, as one step of a region that draws its order. -/
theorem step_app {ops : Array Oper} {o : Oper} {a : Act} {K : Act → World → Prop} {Q : Exit → Act → World → Prop} {E : Prop} {W : World} {base : Nat} {v : Value} {xs zs : List ByteArray} {a' : Option Addr} {m c' : Nat} (HO : OwnS W base v xs)
    (HZ : SS W a' zs) (hm : zs.length = m) (hc0 : a' = none → c' = 0) (hl : xs.length + m ≤ 8000000000000) (hbase : base ≤ W.heap.size)
    (s x : Operand) (hgd : o.guard = none)
    (ho : o.op = .call { callee := .builtin .append, args := #[s, x], argTypes := #[24, 24] })
    (hs : a.eval s = v) (hx : a.eval x = .slice a' m c')
    (h : ∀ v1 w1, OwnS w1 base v1 (xs ++ zs) → W.grownBy w1 v.ownBlock → K (a.put o.dst v1) w1) :
    if Region.wanted o (yielded ops a.tmps) = true then Oper.wp Tryd.prog o a W K Q else E := by
  have hw : Region.wanted o (yielded ops a.tmps) = true := by simp [Region.wanted, hgd]
  rw [if_pos hw]
  obtain ⟨i0, hi, hz0, hz1, hz2⟩ := info_parts infoStr
  cases a' with
  | none =>
    have hzs : zs = [] := by
      rcases HZ with h | ⟨b, off, h, _⟩
      · exact h
      · cases h
    subst hzs
    have hm0 : m = 0 := by rw [← hm]; rfl
    subst hm0
    rw [hc0 rfl] at hx
    have hrun := run_append_owned_none (P := Tryd.prog) (w := W) base 24 o.type 9 i0 1 Tryd.underlying24 hi v xs.length (xs.map Value.string) HO
    unfold Oper.wp
    simp [execOp, ho, resolve, invoke, builtin, hs, hx, hrun, Result.andThen]
    exact h v W (by rw [List.append_nil]; exact HO) ⟨rfl, rfl, rfl, Nat.le_refl _, fun _ _ _ => rfl⟩
  | some ad =>
    refine wp_append_own W s x 24 ho base 9 i0 (.string ByteArray.empty) 1 16 Tryd.underlying24 hi hz0 hz1 hz2 rfl (by decide) v xs.length (xs.map Value.string) hs HO ad m c' (zs.map Value.string) hx (by rw [List.length_map, hm, Nat.mul_one])
      (fun j u hu => ?_) (fun u hu => ?_) (by simp only [maxLen]; omega) (by omega) hbase ?_
    · rw [List.getElem?_map] at hu
      cases hj : zs[j]? with
      | none => rw [hj] at hu; cases hu
      | some y =>
        rw [hj] at hu
        simp only [Option.map_some, Option.some.injEq] at hu
        subst hu
        rcases HZ with h0 | ⟨b, off, h0, _, hc⟩
        · rw [h0] at hj; cases hj
        · injection h0 with h0
          subst h0
          rw [Go.WideShapes.add_plain]
          exact hc j y hj
    · obtain ⟨y, _, rfl⟩ := List.mem_map.1 hu
      rfl
    · intro v1 w1 hown hg _
      exact h v1 w1 (by unfold OwnS; rw [List.length_append, List.map_append, hm]; exact hown) hg

theorem cmp_beq' (a b : ByteArray) : (a.toList == b.toList) = decide (cmp (bs a) (bs b) = 0) := by
  rw [ByteArray.toList_eq, ByteArray.toList_eq, Bool.eq_iff_iff, beq_iff_eq, decide_eq_true_eq, cmp_is.eq]

theorem OwnS.ssn {w : World} {base : Nat} {v : Value} {xs : List ByteArray} (h : OwnS w base v xs) : ∃ a c, v = .slice a xs.length c ∧ SS w a xs ∧ xs.length ≤ c ∧ c ≤ maxLen ∧ (a = none → c = 0) := by
  obtain ⟨a, c, hv, hS, hle, hm⟩ := h.ss
  refine ⟨a, c, hv, hS, hle, hm, fun e => ?_⟩
  rcases h.2 with ⟨h', _⟩ | ⟨g, cap, cur, h', _⟩
  · rw [hv] at h'; injection h'
  · rw [hv, e] at h'; injection h' with h1; cases h1

def InsPost (L : List Str) (s : Str) (w : World) (e : Ending) (w' : World) : Prop :=
  ∃ (a : Option Addr) (c : Nat) (ys : List ByteArray), e = .returned (.slice a ys.length c) ∧ ys.map bs = ins cmp L s ∧ SS w' a ys ∧ ys.length ≤ c ∧ (a = none → c = 0) ∧ c ≤ 9223372036854775807 ∧ Below w.heap.size w w'

set_option maxRecDepth 100000 in
set_option maxHeartbeats 2000000 in
theorem rinsert_any (a : Option Addr) (n c : Nat) (zs : List ByteArray) (s : ByteArray) (w : World) (hn : zs.length = n) (hc : n ≤ c) (hcm : c ≤ 9223372036854775807) (hN : n ≤ 100000) (hS : SS w a zs) (hc0 : a = none → c = 0) (hsz : ∀ x ∈ zs, x.size ≤ 1000) (hs : s.size ≤ 1000) :
    Calls Tryd.prog 27 #[.slice a n c, .string s] w fun e w' => InsPost (zs.map bs) (bs s) w e w' := by
  have HN := Lib.hid hn
  clear hn
  go_enter Tryd.func27, Tryd.ntmps27
  go_wp2
  go_loopg [5] n (fun gg s5 wr => ∃ (k : Nat), k ≤ n ∧ n - k ≤ gg ∧ s5 = .int .i64 k ∧ Below w.heap.size w wr ∧ Aside (ins cmp (zs.map bs) (bs s) = (zs.map bs).take k ++ ins cmp ((zs.map bs).drop k) (bs s)))
  case atStart => exact ⟨0, Nat.zero_le _, by omega, rfl, Below.refl _ _, show Aside _ from rfl⟩
  case round =>
    obtain ⟨k, hk, hg, rfl, hB, A⟩ := hrel
    by_cases hlt : k < n
    · have hltz : (k : Int) < (n : Int) := by omega
      have hkz : k < zs.length := by rw [HN.out]; exact hlt
      have hy := hsz _ (List.getElem_mem hkz)
      have HG : Hid ((zs.map bs)[k]? = some (bs zs[k])) := get_bs hkz
      obtain ⟨b, off, rfl, hb, hcell0⟩ := hS.some hkz
      have hcell := (hB.cell (p := ⟨b, off + k, none⟩) hb).trans hcell0
      have HC0 := Lib.hid hcell0
      have hcall := rcompare_any zs[k] s wr (by omega) (by omega)
      unfold GivesB at hcall
      clear hcell0
      generalize zs[k] = y at hcell HG hy hcall HC0
      by_cases hq : cmp (bs y) (bs s) < 0
      · have HV : Hid (ins cmp (zs.map bs) (bs s) = (zs.map bs).take (k + 1) ++ ins cmp ((zs.map bs).drop (k + 1)) (bs s)) := by
          unfold Hid; rw [A.out, drop_at HG.out, ins, if_pos hq, take_at HG.out, List.append_assoc]; rfl
        generalize cmp (bs y) (bs s) = v at hq hcall
        go_wp2_with (go_at_call 10; refine hcall.mono ?_; rintro e w2 ⟨rfl, hb2⟩)
        go_roundg (n - (k + 1))
        case measure => omega
        case rel => exact ⟨k + 1, by omega, by omega, by go_num, below_then' hB hb2, by unfold Aside; exact HV.out⟩
      · by_cases hq0 : cmp (bs y) (bs s) = 0
        · have HV : Hid (zs.map bs = ins cmp (zs.map bs) (bs s)) := by
            unfold Hid
            have : ins cmp ((zs.map bs).drop k) (bs s) = (zs.map bs).drop k := by rw [drop_at HG.out, ins, if_neg hq, if_pos hq0]
            rw [A.out, this, List.take_append_drop]
          have he : (y.toList == s.toList) = true := by rw [cmp_beq', decide_eq_true hq0]
          generalize cmp (bs y) (bs s) = v at hq hcall
          clear hq0
          go_wp2_with (go_at_call 10; refine hcall.mono ?_; rintro e w2 ⟨rfl, hb2⟩; have hcell2 := (hb2.cell (p := ⟨b, off + k, none⟩) (Nat.lt_of_lt_of_le hb hB.size)).trans hcell)
          go_ret
          refine ⟨some ⟨b, off, none⟩, c, zs, by rw [HN.out]; rfl, HV.out, hS.below (below_then' hB hb2), by rw [HN.out]; exact hc, hc0, hcm, below_then' hB hb2⟩
        · have HV : Hid (ins cmp (zs.map bs) (bs s) = (zs.map bs).take k ++ bs s :: (zs.map bs).drop k) := by
            unfold Hid; rw [A.out, drop_at HG.out, ins, if_neg hq, if_neg hq0]
          have he : (y.toList == s.toList) = false := by rw [cmp_beq', decide_eq_false hq0]
          generalize cmp (bs y) (bs s) = v at hq hcall
          clear hq0
          go_wp2_with (go_at_call 10; refine hcall.mono ?_; rintro e w2 ⟨rfl, hb2⟩; have hcell2 := (hb2.cell (p := ⟨b, off + k, none⟩) (Nat.lt_of_lt_of_le hb hB.size)).trans hcell)
          have hbw2 := below_then' hB hb2
          clear hcell hcell2 hcall HC0 hb2
          have hkc : (k : Int) ≤ (c : Int) := by omega
          have hkn : (k : Int) ≤ (n : Int) := by omega
          have hT1 : ∀ W, Below w.heap.size w W → SS W (some ⟨b, off, none⟩) (zs.take k) := fun W hb => (hS.below hb).take k
          have hT2 : ∀ W, Below w.heap.size w W → SS W (if c = k then some ⟨b, off, none⟩ else some ⟨b, off + k, none⟩) (zs.drop k) := fun W hb => (hS.below hb).dropIf k (by rw [HN.out]; exact hc)
          have hzl : (zs.take k).length = k := by rw [List.length_take, HN.out]; omega
          have hzl2 : (zs.drop k).length = n - k := by rw [List.length_drop, HN.out]
          have hbd : Below w.heap.size w w2.drew := Go.below_drewN hbw2 1
          go_region_law (first
            | (refine step_app (base := w2.drew.heap.size) (OwnS.lit w2.drew _ (Nat.le_refl _)) (hT1 _ (hbd.alloc hbd.size _)) hzl (by intro e; cases e) (by simp <;> omega) (by simp) (.tmp 34) (.tmp 37) rfl rfl rfl rfl ?_; intro v1 w3 hO1 hG1; have hz3 : w2.drew.heap.size ≤ w3.heap.size := Nat.le_trans (by simp <;> omega) hG1.size; have hB3 : Below w.heap.size w w3 := (hbd.alloc hbd.size _).grown hG1 (Nat.le_trans hbd.size (by simp)) (fun q hq => by cases hq; exact hbd.size))
            | (refine step_app (base := w2.drew.heap.size) ((OwnS.lit w2.drew _ (Nat.le_refl _)).alloc _) (hT1 _ ((hbd.alloc hbd.size _).alloc (Nat.le_trans hbd.size (by simp)) _)) hzl (by intro e; cases e) (by simp <;> omega) (by simp <;> omega) (.tmp 34) (.tmp 37) rfl rfl rfl rfl ?_; intro v1 w3 hO1 hG1; have hz3 : w2.drew.heap.size ≤ w3.heap.size := Nat.le_trans (by simp <;> omega) hG1.size; have hB3 : Below w.heap.size w w3 := ((hbd.alloc hbd.size _).alloc (Nat.le_trans hbd.size (by simp)) _).grown hG1 (Nat.le_trans hbd.size (by simp <;> omega)) (fun q hq => by cases hq; exact hbd.size); have hs3 := ((SS.new1 (w2.drew.alloc (.cells #[] 9)) (w2.heap.size + 1) (by simp) [s] 9).kept hG1 (by intro e; simp [Value.ownBlock] at e)))
            | (refine step_app (base := w2.drew.heap.size) (OwnS.lit1 (w2.drew.alloc (.cells #[.string s] 9)) _ (w2.heap.size + 1) (by simp) (by simp)) (hT1 _ ((hbd.alloc hbd.size _).alloc (Nat.le_trans hbd.size (by simp)) _)) hzl (by intro e; cases e) (by simp <;> omega) (by simp <;> omega) (.tmp 34) (.tmp 37) rfl rfl rfl rfl ?_; intro v1 w3 hO1 hG1; have hz3 : w2.drew.heap.size ≤ w3.heap.size := Nat.le_trans (by simp <;> omega) hG1.size; have hB3 : Below w.heap.size w w3 := ((hbd.alloc hbd.size _).alloc (Nat.le_trans hbd.size (by simp)) _).grown hG1 (Nat.le_trans hbd.size (by simp <;> omega)) (fun q hq => by cases hq; exact Nat.le_trans hbd.size (by simp)); have hs3 := (((SS.new1 w2.drew w2.heap.size rfl [s] 9).alloc (.cells #[] 9)).kept hG1 (by intro e; simp [Value.ownBlock] at e)))
            | (refine step_app (hO1.alloc _) (SS.new w3 [s] 9) rfl (by intro e; cases e) (by simp <;> omega) (Nat.le_trans hz3 (by simp)) (.tmp 38) (.tmp 40) rfl rfl rfl rfl ?_; intro v2 w4 hO2 hG2; have hz4 : w2.drew.heap.size ≤ w4.heap.size := Nat.le_trans (Nat.le_trans hz3 (by simp)) hG2.size; have hB4 : Below w.heap.size w w4 := (hB3.alloc hB3.size _).grown hG2 (Nat.le_trans hB3.size (by simp)) (fun q hq => Nat.le_trans hbd.size (hO1.lt q hq).1))
            | (refine step_app hO1 hs3 rfl (by intro e; cases e) (by simp <;> omega) hz3 (.tmp 38) (.tmp 40) rfl rfl rfl rfl ?_; intro v2 w4 hO2 hG2; have hz4 : w2.drew.heap.size ≤ w4.heap.size := Nat.le_trans hz3 hG2.size; have hB4 : Below w.heap.size w w4 := hB3.grown hG2 hB3.size (fun q hq => Nat.le_trans hbd.size (hO1.lt q hq).1))
            | (refine step_app hO2 (hT2 _ hB4) hzl2 (by intro e; split at e <;> cases e) (by simp <;> omega) hz4 (.tmp 41) (.tmp 44) rfl rfl rfl rfl ?_; intro v3 w5 hO3 hG3; have hB5 : Below w.heap.size w w5 := hB4.grown hG3 hB4.size (fun q hq => Nat.le_trans hbd.size (hO2.lt q hq).1)))
          all_goals
            generalize hL5 : [] ++ zs.take k ++ [s] ++ zs.drop k = ys at hO3
            obtain ⟨a5, c5, rfl, hS5, hle5, hcm5, hno5⟩ := hO3.ssn
            have HL5 := Lib.hid hL5
            clear hL5
            go_wp2
            go_ret
            refine ⟨a5, c5, ys, rfl, ?_, hS5, hle5, hno5, Nat.le_trans hcm5 (by decide), hB5⟩
            rw [HV.out, ← HL5.out]
            simp [List.map_take, List.map_drop]
    · have hltz : ¬ (k : Int) < (n : Int) := by omega
      have hkn : k = n := by omega
      have hdn : zs.drop k = [] := List.drop_of_length_le (by rw [HN.out]; omega)
      have HV : Hid (ins cmp (zs.map bs) (bs s) = (zs.map bs).take k ++ bs s :: (zs.map bs).drop k) := by
        unfold Hid; rw [A.out, ← List.map_drop, hdn]; rfl
      have hkc : (k : Int) ≤ (c : Int) := by omega
      have hkn2 : (k : Int) ≤ (n : Int) := by omega
      subst hkn
      have HD : Hid (zs.drop k = []) := Lib.hid hdn
      have hbw2 := hB
      have hT2 : ∀ (q : Option Addr) (W : World), Below w.heap.size w W → SS W q (zs.drop k) := fun _ _ _ => .inl HD.out
      clear hdn
      cases a with
      | none =>
        have hcz := hc0 rfl
        subst hcz
        have hk0 : k = 0 := by omega
        subst hk0
        have hT1 : ∀ W, Below w.heap.size w W → SS W none (zs.take 0) := fun W hb => .inl rfl
        go_wp2
        obtain ⟨w2, hw2⟩ : ∃ w2, w2 = wr := ⟨wr, rfl⟩
        rw [← hw2] at hbw2 ⊢
        clear hw2
        have hzl : (zs.take 0).length = 0 := by rw [List.length_take, HN.out]; omega
        have hzl2 : (zs.drop 0).length = 0 - 0 := by rw [List.length_drop, HN.out]
        have hbd : Below w.heap.size w w2.drew := Go.below_drewN hbw2 1
        go_region_law (first
          | (refine step_app (base := w2.drew.heap.size) (OwnS.lit w2.drew _ (Nat.le_refl _)) (hT1 _ (hbd.alloc hbd.size _)) hzl (fun _ => rfl) (by simp <;> omega) (by simp) (.tmp 34) (.tmp 37) rfl rfl rfl rfl ?_; intro v1 w3 hO1 hG1; have hz3 : w2.drew.heap.size ≤ w3.heap.size := Nat.le_trans (by simp <;> omega) hG1.size; have hB3 : Below w.heap.size w w3 := (hbd.alloc hbd.size _).grown hG1 (Nat.le_trans hbd.size (by simp)) (fun q hq => by cases hq; exact hbd.size))
          | (refine step_app (base := w2.drew.heap.size) ((OwnS.lit w2.drew _ (Nat.le_refl _)).alloc _) (hT1 _ ((hbd.alloc hbd.size _).alloc (Nat.le_trans hbd.size (by simp)) _)) hzl (fun _ => rfl) (by simp <;> omega) (by simp <;> omega) (.tmp 34) (.tmp 37) rfl rfl rfl rfl ?_; intro v1 w3 hO1 hG1; have hz3 : w2.drew.heap.size ≤ w3.heap.size := Nat.le_trans (by simp <;> omega) hG1.size; have hB3 : Below w.heap.size w w3 := ((hbd.alloc hbd.size _).alloc (Nat.le_trans hbd.size (by simp)) _).grown hG1 (Nat.le_trans hbd.size (by simp <;> omega)) (fun q hq => by cases hq; exact hbd.size); have hs3 := ((SS.new1 (w2.drew.alloc (.cells #[] 9)) (w2.heap.size + 1) (by simp) [s] 9).kept hG1 (by intro e; simp [Value.ownBlock] at e)))
          | (refine step_app (base := w2.drew.heap.size) (OwnS.lit1 (w2.drew.alloc (.cells #[.string s] 9)) _ (w2.heap.size + 1) (by simp) (by simp)) (hT1 _ ((hbd.alloc hbd.size _).alloc (Nat.le_trans hbd.size (by simp)) _)) hzl (fun _ => rfl) (by simp <;> omega) (by simp <;> omega) (.tmp 34) (.tmp 37) rfl rfl rfl rfl ?_; intro v1 w3 hO1 hG1; have hz3 : w2.drew.heap.size ≤ w3.heap.size := Nat.le_trans (by simp <;> omega) hG1.size; have hB3 : Below w.heap.size w w3 := ((hbd.alloc hbd.size _).alloc (Nat.le_trans hbd.size (by simp)) _).grown hG1 (Nat.le_trans hbd.size (by simp <;> omega)) (fun q hq => by cases hq; exact Nat.le_trans hbd.size (by simp)); have hs3 := (((SS.new1 w2.drew w2.heap.size rfl [s] 9).alloc (.cells #[] 9)).kept hG1 (by intro e; simp [Value.ownBlock] at e)))
          | (refine step_app (hO1.alloc _) (SS.new w3 [s] 9) rfl (by intro e; cases e) (by simp <;> omega) (Nat.le_trans hz3 (by simp)) (.tmp 38) (.tmp 40) rfl rfl rfl rfl ?_; intro v2 w4 hO2 hG2; have hz4 : w2.drew.heap.size ≤ w4.heap.size := Nat.le_trans (Nat.le_trans hz3 (by simp)) hG2.size; have hB4 : Below w.heap.size w w4 := (hB3.alloc hB3.size _).grown hG2 (Nat.le_trans hB3.size (by simp)) (fun q hq => Nat.le_trans hbd.size (hO1.lt q hq).1))
          | (refine step_app hO1 hs3 rfl (by intro e; cases e) (by simp <;> omega) hz3 (.tmp 38) (.tmp 40) rfl rfl rfl rfl ?_; intro v2 w4 hO2 hG2; have hz4 : w2.drew.heap.size ≤ w4.heap.size := Nat.le_trans hz3 hG2.size; have hB4 : Below w.heap.size w w4 := hB3.grown hG2 hB3.size (fun q hq => Nat.le_trans hbd.size (hO1.lt q hq).1))
          | (refine step_app hO2 (hT2 _ _ hB4) hzl2 (fun _ => by simp) (by simp <;> omega) hz4 (.tmp 41) (.tmp 44) rfl rfl rfl rfl ?_; intro v3 w5 hO3 hG3; have hB5 : Below w.heap.size w w5 := hB4.grown hG3 hB4.size (fun q hq => Nat.le_trans hbd.size (hO2.lt q hq).1)))
        all_goals
          generalize hL5 : [] ++ zs.take 0 ++ [s] ++ zs.drop 0 = ys at hO3
          obtain ⟨a5, c5, rfl, hS5, hle5, hcm5, hno5⟩ := hO3.ssn
          have HL5 := Lib.hid hL5
          clear hL5
          go_wp2
          go_ret
          refine ⟨a5, c5, ys, rfl, ?_, hS5, hle5, hno5, Nat.le_trans hcm5 (by decide), hB5⟩
          rw [HV.out, ← HL5.out]
          simp [List.map_take, List.map_drop]
      | some ad =>
        have hT1 : ∀ W, Below w.heap.size w W → SS W (some ad) (zs.take k) := fun W hb => (hS.below hb).take k
        go_wp2
        obtain ⟨w2, hw2⟩ : ∃ w2, w2 = wr := ⟨wr, rfl⟩
        rw [← hw2] at hbw2 ⊢
        clear hw2
        have hzl : (zs.take k).length = k := by rw [List.length_take, HN.out]; omega
        have hzl2 : (zs.drop k).length = 0 := by rw [HD.out]; rfl
        have hbd : Below w.heap.size w w2.drew := Go.below_drewN hbw2 1
        go_region_law (first
          | (refine step_app (base := w2.drew.heap.size) (OwnS.lit w2.drew _ (Nat.le_refl _)) (hT1 _ (hbd.alloc hbd.size _)) hzl (by intro e; cases e) (by simp <;> omega) (by simp) (.tmp 34) (.tmp 37) rfl rfl rfl rfl ?_; intro v1 w3 hO1 hG1; have hz3 : w2.drew.heap.size ≤ w3.heap.size := Nat.le_trans (by simp <;> omega) hG1.size; have hB3 : Below w.heap.size w w3 := (hbd.alloc hbd.size _).grown hG1 (Nat.le_trans hbd.size (by simp)) (fun q hq => by cases hq; exact hbd.size))
          | (refine step_app (base := w2.drew.heap.size) ((OwnS.lit w2.drew _ (Nat.le_refl _)).alloc _) (hT1 _ ((hbd.alloc hbd.size _).alloc (Nat.le_trans hbd.size (by simp)) _)) hzl (by intro e; cases e) (by simp <;> omega) (by simp <;> omega) (.tmp 34) (.tmp 37) rfl rfl rfl rfl ?_; intro v1 w3 hO1 hG1; have hz3 : w2.drew.heap.size ≤ w3.heap.size := Nat.le_trans (by simp <;> omega) hG1.size; have hB3 : Below w.heap.size w w3 := ((hbd.alloc hbd.size _).alloc (Nat.le_trans hbd.size (by simp)) _).grown hG1 (Nat.le_trans hbd.size (by simp <;> omega)) (fun q hq => by cases hq; exact hbd.size); have hs3 := ((SS.new1 (w2.drew.alloc (.cells #[] 9)) (w2.heap.size + 1) (by simp) [s] 9).kept hG1 (by intro e; simp [Value.ownBlock] at e)))
          | (refine step_app (base := w2.drew.heap.size) (OwnS.lit1 (w2.drew.alloc (.cells #[.string s] 9)) _ (w2.heap.size + 1) (by simp) (by simp)) (hT1 _ ((hbd.alloc hbd.size _).alloc (Nat.le_trans hbd.size (by simp)) _)) hzl (by intro e; cases e) (by simp <;> omega) (by simp <;> omega) (.tmp 34) (.tmp 37) rfl rfl rfl rfl ?_; intro v1 w3 hO1 hG1; have hz3 : w2.drew.heap.size ≤ w3.heap.size := Nat.le_trans (by simp <;> omega) hG1.size; have hB3 : Below w.heap.size w w3 := ((hbd.alloc hbd.size _).alloc (Nat.le_trans hbd.size (by simp)) _).grown hG1 (Nat.le_trans hbd.size (by simp <;> omega)) (fun q hq => by cases hq; exact Nat.le_trans hbd.size (by simp)); have hs3 := (((SS.new1 w2.drew w2.heap.size rfl [s] 9).alloc (.cells #[] 9)).kept hG1 (by intro e; simp [Value.ownBlock] at e)))
          | (refine step_app (hO1.alloc _) (SS.new w3 [s] 9) rfl (by intro e; cases e) (by simp <;> omega) (Nat.le_trans hz3 (by simp)) (.tmp 38) (.tmp 40) rfl rfl rfl rfl ?_; intro v2 w4 hO2 hG2; have hz4 : w2.drew.heap.size ≤ w4.heap.size := Nat.le_trans (Nat.le_trans hz3 (by simp)) hG2.size; have hB4 : Below w.heap.size w w4 := (hB3.alloc hB3.size _).grown hG2 (Nat.le_trans hB3.size (by simp)) (fun q hq => Nat.le_trans hbd.size (hO1.lt q hq).1))
          | (refine step_app hO1 hs3 rfl (by intro e; cases e) (by simp <;> omega) hz3 (.tmp 38) (.tmp 40) rfl rfl rfl rfl ?_; intro v2 w4 hO2 hG2; have hz4 : w2.drew.heap.size ≤ w4.heap.size := Nat.le_trans hz3 hG2.size; have hB4 : Below w.heap.size w w4 := hB3.grown hG2 hB3.size (fun q hq => Nat.le_trans hbd.size (hO1.lt q hq).1))
          | (refine step_app hO2 (hT2 _ _ hB4) hzl2 (by intro e; split at e <;> cases e) (by simp <;> omega) hz4 (.tmp 41) (.tmp 44) rfl rfl rfl rfl ?_; intro v3 w5 hO3 hG3; have hB5 : Below w.heap.size w w5 := hB4.grown hG3 hB4.size (fun q hq => Nat.le_trans hbd.size (hO2.lt q hq).1)))
        all_goals
          generalize hL5 : [] ++ zs.take k ++ [s] ++ zs.drop k = ys at hO3
          obtain ⟨a5, c5, rfl, hS5, hle5, hcm5, hno5⟩ := hO3.ssn
          have HL5 := Lib.hid hL5
          clear hL5
          go_wp2
          all_goals
            go_ret
            refine ⟨a5, c5, ys, rfl, ?_, hS5, hle5, hno5, Nat.le_trans hcm5 (by decide), hB5⟩
            rw [HV.out, ← HL5.out]
            simp [List.map_take, List.map_drop]
end Go.Proofs.YtbgkepdnemgkdaaDoor
