/- Walk of groupname.Children, for at most 4096 names. -/
import Derived.Test.YtbgkepdnemgkdaaGreatDoorGnWalkQ
import Derived.StringKeys
namespace Go.Proofs.YtbgkepdnemgkdaaGreatDoor
open Go.RowKit Go.Gn Go.Sort Go.Maps

/-- The next component of a name behind a beginning. -/
def kid (pre s : Str) : Option Str := if Lib.hasPrefix s pre then some (Lib.cut (Lib.trimPrefix s pre) [46]).1 else none
def kids (pre : Str) (L : List Str) : List Str := L.filterMap (kid pre)
def preOf (h : Str) : Str := if h = [] then [] else h ++ [46]
def kidErr (L : List Str) (h : Str) : Nat := if h ≠ [] ∧ check h ≠ 0 then check h else sortErr L

theorem kids_take {pre : Str} {L : List Str} {k : Nat} {s : Str} (hk : L[k]? = some s) (x : Str) : x ∈ kids pre (L.take (k + 1)) ↔ x ∈ kids pre (L.take k) ∨ kid pre s = some x := by
  unfold kids
  rw [List.take_add_one, hk, List.filterMap_append, List.mem_append]
  have : x ∈ List.filterMap (kid pre) (some s).toList ↔ kid pre s = some x := by
    rw [List.mem_filterMap]; simp
  rw [this]

theorem has_step {H : Type} {D : DataW H} {d : DataW H} {L K : List Str} {y : Str} (hD : IsMap D) (h : ∀ x, has D (.string x) = true ↔ x ∈ L) (hK : ∀ x, x ∈ K ↔ x ∈ L ∨ some y = some x) : ∀ x, has (D.put (.string y) d) (.string x) = true ↔ x ∈ K := by
  intro x
  rw [hK x, ← h x]
  by_cases e : x = y
  · subst e
    rw [has_put_same hD (by simp [WideAt.IsKeyLit])]
    simp
  · rw [has_put_other (by intro e'; injection e' with e'; exact e e')]
    simp [Ne.symm e]

theorem has_skip {H : Type} {D : DataW H} {L K : List Str} (h : ∀ x, has D (.string x) = true ↔ x ∈ L) (hK : ∀ x, x ∈ K ↔ x ∈ L ∨ none = some x) : ∀ x, has D (.string x) = true ↔ x ∈ K := by
  intro x
  rw [hK x, ← h x]
  simp

theorem length_ins {α : Type} (c : α → α → Int) (s : α) : ∀ l : List α, (ins c l s).length ≤ l.length + 1
  | [] => by simp [ins]
  | x :: l => by
    have := length_ins c s l
    unfold ins
    split
    · simp only [List.length_cons]; omega
    · split <;> simp only [List.length_cons] <;> omega
theorem length_sortU {α : Type} (c : α → α → Int) (l : List α) : (sortU c l).length ≤ l.length := by
  have : ∀ (l acc : List α), (l.foldl (ins c) acc).length ≤ acc.length + l.length := by
    intro l
    induction l with
    | nil => intro acc; simp
    | cons x l ih =>
      intro acc
      have h1 := ih (ins c acc x)
      have h2 := length_ins c x acc
      rw [List.foldl_cons, List.length_cons]; omega
  have := this l []
  simpa [sortU] using this

def KidsPost (L : List Str) (h : Str) (w : World) (e : Ending) (w' : World) : Prop :=
  Below w.heap.size w w' ∧
  ((kidErr L h ≠ 0 ∧ e = .returned (.tuple #[.slice none 0 0, .int .i64 (kidErr L h : Nat)])) ∨
   (kidErr L h = 0 ∧ ∃ (a : Option Addr) (c : Nat) (ys : List ByteArray), e = .returned (.tuple #[.slice a ys.length c, .int .i64 0]) ∧ ys.map bs = sortU cmpS (kids (preOf h) (sortU cmp L)) ∧ SS w' a ys ∧ ys.length ≤ c))

theorem owns_drewN {H : Type} {P : Program} {k : TypeId} {R : Value → Option (DataW H × List MemPlace)} {w : World} {b n : Nat} {D : DataW H} (h : w.ownsMap P k R b n D) (m : Nat) : (w.drewN m).ownsMap P k R b n D := h

theorem len_bs (s : ByteArray) : (bs s).length = s.size := by rw [Array.length_toList]; rfl

theorem cutPrefix_any (s p : ByteArray) (w : World) :
    Calls Tryz.prog 38 #[.string s, .string p] w fun e w' => ∃ tb : ByteArray, bs tb = Lib.trimPrefix (bs s) (bs p) ∧ tb.size ≤ s.size ∧ e = .returned (.tuple #[.string tb, .bool (Lib.hasPrefix (bs s) (bs p))]) ∧ w' = w :=
  (Tryz.strings_CutPrefix s p w).mono fun e w' ⟨he, hw⟩ => ⟨mkS (Lib.trimPrefix (bs s) (bs p)), rfl, by
    rw [size_mkS]
    unfold Lib.trimPrefix
    split
    · rw [List.length_drop, len_bs]; exact Nat.sub_le _ _
    · rw [len_bs]; exact Nat.le_refl _, he, hw⟩

theorem cut_any (s : ByteArray) (w : World) (hs : s.size ≤ 1000000) (hM : ML w) :
    Calls Tryz.prog 39 #[.string s, .string ⟨#[46]⟩] w fun e w' => ∃ (f1 f2 : ByteArray) (f3 : Bool) (n : Nat), bs f1 = (Lib.cut (bs s) [46]).1 ∧ f1.size ≤ s.size ∧ e = .returned (.tuple #[.string f1, .string f2, .bool f3]) ∧ w' = w.drewN n := by
  obtain ⟨m, hm⟩ := hM
  refine (Tryz.strings_Cut s ⟨#[46]⟩ m w (by omega) hm).mono fun e w' ⟨he, n, hw⟩ => ⟨mkS (Lib.cut (bs s) [46]).1, _, _, n, rfl, ?_, he, hw⟩
  rw [size_mkS]
  unfold Lib.cut
  split
  · rw [List.length_take, len_bs]; exact Nat.min_le_right _ _
  · rw [len_bs]; exact Nat.le_refl _

theorem kids_end {H : Type} {wr w' : World} {b nn : Nat} {R : Value → Option (DataW H × List MemPlace)} {D : DataW H} {v : Value} {ss L : List Str} {base : Nat} (hown : wr.ownsMap Tryz.prog 9 R b nn D) (hL : ∀ x, has D (.string x) = true ↔ x ∈ L) (hp : ss.Perm (strKeys D))
    (hr : w'.ownsRow base 9 1 v ss.length ((ss.mergeSort fun x y => decide (x ≤ y)).map encStr)) :
    ∃ (a : Option Addr) (c : Nat) (ys : List ByteArray), v = .slice a ys.length c ∧ ys.map bs = sortU cmpS L ∧ SS w' a ys ∧ ys.length ≤ c := by
  have hO : OwnS w' base v ((ss.mergeSort fun x y => decide (x ≤ y)).map mkS) := by
    unfold OwnS
    rw [List.length_map, List.length_mergeSort, List.map_map]
    exact hr
  obtain ⟨a, c, hv, hS, hle, _⟩ := hO.ss
  exact ⟨a, c, _, hv, by rw [map_mkS, sortKeys_eq hown hp hL], hS, hle⟩

set_option maxRecDepth 100000 in
set_option maxHeartbeats 2000000 in
/-- 'Children' of no hierarchy. -/
theorem children0 (a : Option Addr) (n c : Nat) (zs : List ByteArray) (w : World) (hn : zs.length = n) (hN : n ≤ 4096) (hS : SS w a zs) (hsz : ∀ x ∈ zs, x.size ≤ 1000000) (hM : ML w) :
    Calls Tryz.prog 15 #[.slice a n c, .string ⟨#[]⟩] w fun e w' => KidsPost (zs.map bs) [] w e w' := by
  have hs1 := gsort_any a n c zs w hn hN hS hsz hM
  have HN := Lib.hid hn
  have HKE : Hid (kidErr (zs.map bs) [] = sortErr (zs.map bs)) := by unfold Hid kidErr; rw [if_neg (by simp)]
  have HPR : Hid (bs ⟨#[]⟩ = preOf []) := by unfold Hid preOf; rw [if_pos rfl]
  have hb : Below w.heap.size w w := Below.refl _ w
  clear hn hS hsz
  have hmm := @run_makeMap Tryz.prog
  generalize hpr : (⟨#[]⟩ : ByteArray) = pr at HPR
  go_enter Tryz.func15, Tryz.ntmps15
  go_wp2_with fail
  refine hs1.mono ?_
  clear hs1
  rintro e w2 ⟨hb2, ⟨hnz, rfl⟩ | ⟨hz, a2, c2, ys, rfl, hys, hS2, hle⟩⟩
  · have hk : (((sortErr (zs.map bs) : Nat) : Int) != 0) = true := by simp; omega
    have HNZ := Lib.hid hnz
    clear hnz
    generalize sortErr (zs.map bs) = q at hk HNZ HKE
    go_wp2
    go_ret2
    exact ⟨below_then' hb hb2, .inl ⟨by rw [HKE.out]; exact HNZ.out, ret_nilk (by rw [HKE.out])⟩⟩
  · have HZ : Hid (kidErr (zs.map bs) [] = 0) := by unfold Hid; rw [HKE.out, hz]
    have HSE := Lib.hid hz
    have HYS := Lib.hid hys
    clear hz hys HKE
    have hbW := below_then' hb hb2
    have hM2 := hM.below hbW
    clear hM hb hb2
    have HSZ : Hid (∀ y ∈ ys, y.size ≤ 80) := by
      intro y hy
      have h1 : bs y ∈ sortU cmp (zs.map bs) := by rw [← HYS.out]; exact List.mem_map_of_mem hy
      have h2 := ((check_zero _).1 (sortErr_zero _ HSE.out _ ((mem_sortU cmp_is _ _).1 h1))).1
      rwa [len_bs] at h2
    have hn4 : ys.length ≤ n := by
      rw [← List.length_map (f := bs), HYS.out]
      exact Nat.le_trans (length_sortU _ _) (by rw [List.length_map, HN.out]; exact Nat.le_refl _)
    clear HSE
    go_wp2
    go_loopg [11, 12, 13, 14, 37] ys.length (fun gg _ _ _ _ s37 wr => ∃ (kk : Nat) (D : DataW Unit), kk ≤ ys.length ∧ ys.length - kk ≤ gg ∧ s37 = .int .i64 kk ∧ wr.ownsMap Tryz.prog 9 (plainElem Tryz.prog 4) w2.heap.size kk D ∧ Below w2.heap.size w2 wr ∧ Aside (∀ x, has D (.string x) = true ↔ x ∈ kids (bs pr) ((ys.map bs).take kk)))
    case atStart => exact ⟨0, .map [], Nat.zero_le _, by omega, rfl, World.ownsMap_made _ _ _ _, (Below.refl _ _).alloc (Nat.le_refl _) _, by unfold Aside; simp [has, kids]⟩
    case round =>
      obtain ⟨kk, D, hkk, hg, rfl, hown, hB, A⟩ := hrel
      by_cases hlt : kk < ys.length
      · have hltz : (kk : Int) < (ys.length : Int) := by omega
        obtain ⟨b, off, rfl, hb, hcell0⟩ := hS2.some hlt
        have hcell := (hB.cell (p := ⟨b, off + kk, none⟩) hb).trans hcell0
        have hy := HSZ.out _ (List.getElem_mem hlt)
        have HG : Hid ((ys.map bs)[kk]? = some (bs ys[kk])) := get_bs hlt
        clear hcell0
        generalize ys[kk] = y at hcell HG hy
        have hCP := cutPrefix_any y pr wr
        have HKT : Hid (∀ x, x ∈ kids (bs pr) ((ys.map bs).take (kk + 1)) ↔ x ∈ kids (bs pr) ((ys.map bs).take kk) ∨ kid (bs pr) (bs y) = some x) := fun x => kids_take HG.out x
        have hMr := hM2.below hB
        have hisM := Lib.hid hown.isMap
        have HTW := Lib.hid hbW
        clear HG hbW
        by_cases hp : Lib.hasPrefix (bs y) (bs pr) = true
        · rw [hp] at hCP
          have HKID : Hid (kid (bs pr) (bs y) = some (Lib.cut (Lib.trimPrefix (bs y) (bs pr)) [46]).1) := by unfold Hid kid; rw [if_pos hp]
          clear hp
          go_wp2_with (first
            | (go_at_call 38; refine hCP.mono ?_; rintro e w' ⟨tb, htb, hts, rfl, rfl⟩; have HTB := Lib.hid htb; clear htb hCP)
            | (go_at_call 39; refine (cut_any tb _ (by omega) hMr).mono ?_; rintro e w' ⟨f1, f2, f3, m, hf, hfs, rfl, rfl⟩; have HF := Lib.hid hf; clear hf)
            | (at_mapUpdate; go_loud (refine wpList_mapUpdate_own _ rfl _ _ _ 62 rfl 9 4 (Maps.string_keyed Tryz.underlying9) Tryz.underlying62 (plainElem (H := Unit) Tryz.prog 4) w2.heap.size kk D rfl (owns_drewN hown _) (by unfold maxLen; omega) _ _ _ rfl rfl (WideMaps.keyOf_string_mk Tryz.underlying9 (by unfold maxLen; omega)) _ [] (plainElem_bool Tryz.underlying4 true) ?_; intro w3 hown3 hgrow3)))
          go_roundg (ys.length - (kk + 1))
          case measure => omega
          case rel =>
            refine ⟨kk + 1, _, by omega, by omega, by go_num, hown3, (Go.below_drewN hB m).grown hgrow3 hB.size (fun k hk => by cases hk; exact Nat.le_refl _), ?_⟩
            unfold Aside
            have e1 : f1.data.toList = (Lib.cut (Lib.trimPrefix (bs y) (bs pr)) [46]).1 := by rw [← HTB.out]; exact HF.out
            exact has_step hisM.out A.out (fun x => by rw [HKT.out x, HKID.out, e1])
        · have hp' : Lib.hasPrefix (bs y) (bs pr) = false := by simpa using hp
          rw [hp'] at hCP
          have HKID : Hid (kid (bs pr) (bs y) = none) := by unfold Hid kid; rw [if_neg hp]
          clear hp hp'
          go_wp2_with (first
            | (go_at_call 38; refine hCP.mono ?_; rintro e w' ⟨tb, htb, hts, rfl, rfl⟩; have HTB := Lib.hid htb; clear htb hCP))
          go_roundg (ys.length - (kk + 1))
          case measure => omega
          case rel =>
            refine ⟨kk + 1, D, by omega, by omega, by go_num, hown.mono (Nat.le_succ _), hB, ?_⟩
            unfold Aside
            exact has_skip A.out (fun x => by rw [HKT.out x, HKID.out])
      · have hltz : ¬ (kk : Int) < (ys.length : Int) := by omega
        have hkl : kk = ys.length := by omega
        have hK := keysB_any (some w2.heap.size) wr
        have hsl := hown.size_le
        have hSo := sortedB_any w2.heap.size kk D (plainElem Tryz.prog 4) wr hown (by unfold maxLen; omega) (by omega)
        have HA : Hid (∀ x, has D (.string x) = true ↔ x ∈ kids (bs pr) (ys.map bs)) := by
          have := A.out
          rw [hkl, ← List.length_map (f := bs), List.take_length] at this
          exact this
        clear hsl
        go_wp2_with (first
          | (go_at_call 41; refine hK.mono ?_; rintro e w' ⟨rfl, rfl⟩)
          | (go_at_call 40; refine hSo.mono ?_; rintro e w4 ⟨v, ss, rfl, hperm, hrow, hnil, hb4⟩; have HP := Lib.hid hperm; clear hperm hnil))
        have hke := kids_end hown HA.out HP.out hrow
        obtain ⟨a4, c4, ks, rfl, hks, hS4, hle4⟩ := hke
        go_ret2
        refine ⟨below_then' hbW (hB.trans ((below_then' ((Below.refl _ wr).alloc (Nat.le_refl _) _) hb4).mono hB.size)), .inr ⟨HZ.out, a4, c4, ks, rfl, ?_, hS4, hle4⟩⟩
        rw [hks, HPR.out, HYS.out]

set_option maxRecDepth 100000 in
set_option maxHeartbeats 2000000 in
/-- 'Children' of a hierarchy. -/
theorem children1 (a : Option Addr) (n c : Nat) (zs : List ByteArray) (h : ByteArray) (w : World) (hn : zs.length = n) (hN : n ≤ 4096) (hS : SS w a zs) (hsz : ∀ x ∈ zs, x.size ≤ 1000000) (hh : h.size ≤ 1000000) (hM : ML w) (hne : bs h ≠ []) :
    Calls Tryz.prog 15 #[.slice a n c, .string h] w fun e w' => KidsPost (zs.map bs) (bs h) w e w' := by
  have hsort := fun (W : World) (hb : Below w.heap.size w W) => gsort_any a n c zs W hn hN (hS.below hb) hsz (hM.below hb)
  have hC := check_any h w (by omega) hM
  unfold GivesB at hC
  have hh' : h.size + 1 ≤ 9223372036854775807 := by omega
  have HN := Lib.hid hn
  have HNE := Lib.hid hne
  have hem : (!h.toList.isEmpty) = true := by
    rw [ByteArray.toList_eq]
    cases hc : h.data.toList with
    | nil => exact absurd hc hne
    | cons x y => rfl
  clear hn hS hsz hne
  have hmm := @run_makeMap Tryz.prog
  go_enter Tryz.func15, Tryz.ntmps15
  go_wp2_with (first
    | (go_at_call 19; refine hC.mono ?_; clear hC; rintro e w' ⟨rfl, hb⟩)
    | (go_at_call 35; fail))
  · go_ret2
    have hnz : check (bs h) ≠ 0 := by intro e0; simp [e0] at *
    have e1 : kidErr (zs.map bs) (bs h) = check (bs h) := by unfold kidErr; rw [if_pos ⟨HNE.out, hnz⟩]
    exact ⟨hb, .inl ⟨by rw [e1]; exact hnz, ret_nilk (by rw [e1])⟩⟩
  · have hck : check (bs h) = 0 := by simp at *; omega
    have HKE : Hid (kidErr (zs.map bs) (bs h) = sortErr (zs.map bs)) := by unfold Hid kidErr; rw [if_neg (by simp [hck])]
    have HPR : Hid (bs (h ++ ⟨#[46]⟩) = preOf (bs h)) := by
      unfold Hid preOf; rw [if_neg HNE.out]; simp [bs]
    generalize h ++ ⟨#[46]⟩ = pr at HPR ⊢
    have hs1 := hsort _ hb
    clear hsort hck
    refine hs1.mono ?_
    clear hs1
    rintro e w2 ⟨hb2, ⟨hnz, rfl⟩ | ⟨hz, a2, c2, ys, rfl, hys, hS2, hle⟩⟩
    · have hk : (((sortErr (zs.map bs) : Nat) : Int) != 0) = true := by simp; omega
      have HNZ := Lib.hid hnz
      clear hnz
      generalize sortErr (zs.map bs) = q at hk HNZ HKE
      go_wp2
      go_ret2
      exact ⟨below_then' hb hb2, .inl ⟨by rw [HKE.out]; exact HNZ.out, ret_nilk (by rw [HKE.out])⟩⟩
    · have HZ : Hid (kidErr (zs.map bs) (bs h) = 0) := by unfold Hid; rw [HKE.out, hz]
      have HSE := Lib.hid hz
      have HYS := Lib.hid hys
      clear hz hys HKE
      have hbW := below_then' hb hb2
      have hM2 := hM.below hbW
      clear hM hb hb2
      have HSZ : Hid (∀ y ∈ ys, y.size ≤ 80) := by
        intro y hy
        have h1 : bs y ∈ sortU cmp (zs.map bs) := by rw [← HYS.out]; exact List.mem_map_of_mem hy
        have h2 := ((check_zero _).1 (sortErr_zero _ HSE.out _ ((mem_sortU cmp_is _ _).1 h1))).1
        rwa [len_bs] at h2
      have hn4 : ys.length ≤ n := by
        rw [← List.length_map (f := bs), HYS.out]
        exact Nat.le_trans (length_sortU _ _) (by rw [List.length_map, HN.out]; exact Nat.le_refl _)
      clear HSE
      go_wp2
      go_loopg [11, 12, 13, 14, 37] ys.length (fun gg _ _ _ _ s37 wr => ∃ (kk : Nat) (D : DataW Unit), kk ≤ ys.length ∧ ys.length - kk ≤ gg ∧ s37 = .int .i64 kk ∧ wr.ownsMap Tryz.prog 9 (plainElem Tryz.prog 4) w2.heap.size kk D ∧ Below w2.heap.size w2 wr ∧ Aside (∀ x, has D (.string x) = true ↔ x ∈ kids (bs pr) ((ys.map bs).take kk)))
      case atStart => exact ⟨0, .map [], Nat.zero_le _, by omega, rfl, World.ownsMap_made _ _ _ _, (Below.refl _ _).alloc (Nat.le_refl _) _, by unfold Aside; simp [has, kids]⟩
      case round =>
        obtain ⟨kk, D, hkk, hg, rfl, hown, hB, A⟩ := hrel
        by_cases hlt : kk < ys.length
        · have hltz : (kk : Int) < (ys.length : Int) := by omega
          obtain ⟨b, off, rfl, hb, hcell0⟩ := hS2.some hlt
          have hcell := (hB.cell (p := ⟨b, off + kk, none⟩) hb).trans hcell0
          have hy := HSZ.out _ (List.getElem_mem hlt)
          have HG : Hid ((ys.map bs)[kk]? = some (bs ys[kk])) := get_bs hlt
          clear hcell0
          generalize ys[kk] = y at hcell HG hy
          have hCP := cutPrefix_any y pr wr
          have HKT : Hid (∀ x, x ∈ kids (bs pr) ((ys.map bs).take (kk + 1)) ↔ x ∈ kids (bs pr) ((ys.map bs).take kk) ∨ kid (bs pr) (bs y) = some x) := fun x => kids_take HG.out x
          have hMr := hM2.below hB
          have hisM := Lib.hid hown.isMap
          have HTW := Lib.hid hbW
          clear HG hbW
          by_cases hp : Lib.hasPrefix (bs y) (bs pr) = true
          · rw [hp] at hCP
            have HKID : Hid (kid (bs pr) (bs y) = some (Lib.cut (Lib.trimPrefix (bs y) (bs pr)) [46]).1) := by unfold Hid kid; rw [if_pos hp]
            clear hp
            go_wp2_with (first
              | (go_at_call 38; refine hCP.mono ?_; rintro e w' ⟨tb, htb, hts, rfl, rfl⟩; have HTB := Lib.hid htb; clear htb hCP)
              | (go_at_call 39; refine (cut_any tb _ (by omega) hMr).mono ?_; rintro e w' ⟨f1, f2, f3, m, hf, hfs, rfl, rfl⟩; have HF := Lib.hid hf; clear hf)
              | (at_mapUpdate; go_loud (refine wpList_mapUpdate_own _ rfl _ _ _ 62 rfl 9 4 (Maps.string_keyed Tryz.underlying9) Tryz.underlying62 (plainElem (H := Unit) Tryz.prog 4) w2.heap.size kk D rfl (owns_drewN hown _) (by unfold maxLen; omega) _ _ _ rfl rfl (WideMaps.keyOf_string_mk Tryz.underlying9 (by unfold maxLen; omega)) _ [] (plainElem_bool Tryz.underlying4 true) ?_; intro w3 hown3 hgrow3)))
            go_roundg (ys.length - (kk + 1))
            case measure => omega
            case rel =>
              refine ⟨kk + 1, _, by omega, by omega, by go_num, hown3, (Go.below_drewN hB m).grown hgrow3 hB.size (fun k hk => by cases hk; exact Nat.le_refl _), ?_⟩
              unfold Aside
              have e1 : f1.data.toList = (Lib.cut (Lib.trimPrefix (bs y) (bs pr)) [46]).1 := by rw [← HTB.out]; exact HF.out
              exact has_step hisM.out A.out (fun x => by rw [HKT.out x, HKID.out, e1])
          · have hp' : Lib.hasPrefix (bs y) (bs pr) = false := by simpa using hp
            rw [hp'] at hCP
            have HKID : Hid (kid (bs pr) (bs y) = none) := by unfold Hid kid; rw [if_neg hp]
            clear hp hp'
            go_wp2_with (first
              | (go_at_call 38; refine hCP.mono ?_; rintro e w' ⟨tb, htb, hts, rfl, rfl⟩; have HTB := Lib.hid htb; clear htb hCP))
            go_roundg (ys.length - (kk + 1))
            case measure => omega
            case rel =>
              refine ⟨kk + 1, D, by omega, by omega, by go_num, hown.mono (Nat.le_succ _), hB, ?_⟩
              unfold Aside
              exact has_skip A.out (fun x => by rw [HKT.out x, HKID.out])
        · have hltz : ¬ (kk : Int) < (ys.length : Int) := by omega
          have hkl : kk = ys.length := by omega
          have hK := keysB_any (some w2.heap.size) wr
          have hsl := hown.size_le
          have hSo := sortedB_any w2.heap.size kk D (plainElem Tryz.prog 4) wr hown (by unfold maxLen; omega) (by omega)
          have HA : Hid (∀ x, has D (.string x) = true ↔ x ∈ kids (bs pr) (ys.map bs)) := by
            have := A.out
            rw [hkl, ← List.length_map (f := bs), List.take_length] at this
            exact this
          clear hsl
          go_wp2_with (first
            | (go_at_call 41; refine hK.mono ?_; rintro e w' ⟨rfl, rfl⟩)
            | (go_at_call 40; refine hSo.mono ?_; rintro e w4 ⟨v, ss, rfl, hperm, hrow, hnil, hb4⟩; have HP := Lib.hid hperm; clear hperm hnil))
          have hke := kids_end hown HA.out HP.out hrow
          obtain ⟨a4, c4, ks, rfl, hks, hS4, hle4⟩ := hke
          go_ret2
          refine ⟨below_then' hbW (hB.trans ((below_then' ((Below.refl _ wr).alloc (Nat.le_refl _) _) hb4).mono hB.size)), .inr ⟨HZ.out, a4, c4, ks, rfl, ?_, hS4, hle4⟩⟩
          rw [hks, HPR.out, HYS.out]

/-- 'Children'. -/
theorem children_any (a : Option Addr) (n c : Nat) (zs : List ByteArray) (h : ByteArray) (w : World) (hn : zs.length = n) (hN : n ≤ 4096) (hS : SS w a zs) (hsz : ∀ x ∈ zs, x.size ≤ 1000000) (hh : h.size ≤ 1000000) (hM : ML w) :
    Calls Tryz.prog 15 #[.slice a n c, .string h] w fun e w' => KidsPost (zs.map bs) (bs h) w e w' := by
  by_cases he : bs h = []
  · have := children0 a n c zs w hn hN hS hsz hM
    have e1 : h = ⟨#[]⟩ := by
      rw [← mk_bs h, he]
    rw [he, e1]; exact this
  · exact children1 a n c zs h w hn hN hS hsz hh hM he

end Go.Proofs.YtbgkepdnemgkdaaGreatDoor
