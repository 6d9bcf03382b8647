/- Walk of Set.Text. -/
import Derived.Test.YtddmldfdakmecaaGreatDoorNwAdd
import Derived.Lib.ItoaLen
import Derived.Lib.LaidTab
namespace Go.Proofs.YtddmldfdakmecaaGreatDoor
open Go.RowKit Go.Gn Go.El Go.Nw

/-- strings.Join at a separator of one byte. -/
theorem join_any (sep : UInt8) (a : Option Addr) (n c : Nat) (zs : List ByteArray) (w : World) (hn : zs.length = n) (hc : n ≤ c) (hS : SS w a zs) (hlen : (text sep (zs.map bs)).length ≤ 140737488355328) (hN : n ≤ 140737488355328) :
    GivesB Tryz.prog 88 #[.slice a n c, .string ⟨#[sep]⟩] (.string (mkS (text sep (zs.map bs)))) w := by
  unfold GivesB
  subst hn
  rcases hS with rfl | ⟨b, off, rfl, hb, hcell⟩
  · exact (Any.strings_Join_none Tryz.lays156 Tryz.Builder_Extra_156 a c ⟨#[sep]⟩ w).mono fun e w' ⟨he, hw⟩ => ⟨he, hw ▸ Below.refl _ _⟩
  · rw [← text_join] at hlen ⊢
    exact Tryz.strings_Join b off c zs ⟨#[sep]⟩ w hcell hb hN hc hlen

/-- The library's table of powers of ten. -/
def TB (w : World) : Prop := Lib.TabIs Tryz.prog w "internal/strconv.uint64pow10" .u64 Lib.pow10Tab ∧ 1 < w.heap.size
theorem TB.below {w w' : World} (h : TB w) (hb : Below w.heap.size w w') : TB w' :=
  ⟨var?_below hb (by kernel_rfl) h.2 h.1, Nat.lt_of_lt_of_le h.2 hb.size⟩

theorem below_grow (w : World) (n : Nat) (os : Array Obj) : Below w.heap.size w (Sort.grow (w.drewN n) os) :=
  ⟨rfl, rfl, rfl, by simp [Sort.grow], fun k hk => Sort.heap_grow_old _ _ (by simpa using hk)⟩

theorem itoa_any (n : Int) (w : World) (h0 : 0 ≤ n) (h1 : n ≤ 1099511627777) (hT : TB w) : GivesB Tryz.prog 87 #[.int .i64 n] (.string (mkS (Lib.itoa n))) w :=
  (Tryz.strconv_Itoa n (by omega) (by omega) w hT.1).mono fun e w' ⟨he, k, os, hw⟩ => ⟨he, hw ▸ below_grow w k os⟩

theorem itoa_len (n : Int) (h0 : 0 ≤ n) (h1 : n ≤ 1099511627777) : (Lib.itoa n).length ≤ 13 ∧ 1 ≤ (Lib.itoa n).length := by
  have e : Lib.itoa n = Lib.decDigits n.toNat := by unfold Lib.itoa; rw [if_neg (by omega)]
  rw [e, Lib.decDigits_length]
  refine ⟨?_, Lib.nDigits_pos _⟩
  by_cases h : Lib.nDigits n.toNat ≤ 13
  · exact h
  · exfalso
    have key : ∀ k u, k < Lib.nDigits u → 10 ^ k ≤ u ∨ k = 0 := by
      intro k
      induction k with
      | zero => intro u _; exact .inr rfl
      | succ k ih =>
        intro u hu
        left
        by_cases hs : u < 10
        · rw [Lib.nDigits_small hs] at hu; omega
        · rw [Lib.nDigits_big hs] at hu
          rcases ih (u / 10) (by omega) with h | rfl
          · rw [Nat.pow_succ]; omega
          · simp; omega
    rcases key 13 n.toNat (by omega) with h | h
    · omega
    · cases h

/-- The text of a range, of a set. -/
def rgText (r : Rg) : Str := if r.1 < r.2 then Lib.itoa r.1 ++ 45 :: Lib.itoa r.2 else Lib.itoa r.1
def setText (l : List Rg) : Str := text 44 (l.map rgText)

theorem rgText_len (r : Rg) (h : validB r = true) : (rgText r).length ≤ 27 ∧ 1 ≤ (rgText r).length := by
  obtain ⟨h1, h2, h3⟩ := validB_iff.1 h
  have a := itoa_len r.1 (by omega) (by omega)
  have b := itoa_len r.2 (by omega) (by omega)
  unfold rgText
  split
  · rw [List.length_append, List.length_cons]; omega
  · omega

theorem text_bound (sep : UInt8) (m : Nat) : ∀ L : List Str, (∀ s ∈ L, s.length ≤ m) → (text sep L).length ≤ L.length * (m + 1)
  | [], _ => by simp [text]
  | [p], h => by have := h p (by simp); simp [text]; omega
  | p :: q :: ps, h => by
    have h1 := h p (by simp)
    have h2 := text_bound sep m (q :: ps) fun s hs => h s (by simp [hs])
    rw [text_cons _ _ _ (by simp), List.length_append, List.length_cons]
    have e : (p :: q :: ps).length = (q :: ps).length + 1 := rfl
    rw [e, Nat.add_mul]
    omega
theorem setText_len (l : List Rg) (h : ∀ r ∈ l, validB r = true) : (setText l).length ≤ l.length * 28 := by
  have := text_bound 44 27 (l.map rgText) fun s hs => by
    obtain ⟨r, hr, rfl⟩ := List.mem_map.1 hs
    exact (rgText_len r (h r hr)).1
  rwa [List.length_map] at this

set_option maxRecDepth 100000 in
set_option maxHeartbeats 1000000 in
/-- 'Set.Text'. -/
theorem stext_any (a : Option Addr) (n c : Nat) (zs : List Rg) (w : World) (hn : zs.length = n) (hN : n ≤ 100000) (hS : RE TR w a zs) (hv : ∀ r ∈ zs, validB r = true) (hT : TB w) :
    GivesB Tryz.prog 45 #[.agg #[.slice a n c]] (.string (mkS (setText zs))) w := by
  have HN := Lib.hid hn
  have HV := Lib.hid hv
  have HT := Lib.hid hT
  have hb0 : Below w.heap.size w (w.alloc (.cells #[.slice a n c] 26)) := (Below.refl _ _).alloc (Nat.le_refl _) _
  have hS0 := hS.below hb0
  have hT0 := hT.below hb0
  clear hS hn hv hT
  unfold GivesB
  go_enter Tryz.func45, Tryz.ntmps45
  go_wp2
  generalize w.alloc (.cells #[.slice a n c] 26) = w0 at *
  go_loopg [3, 10] n (fun gg s3 s10 wr => ∃ (k : Nat) (xs : List ByteArray), k ≤ n ∧ n - k ≤ gg ∧ s10 = .int .i64 k ∧ OwnS wr w0.heap.size s3 xs ∧ xs.length = k ∧ Below w0.heap.size w0 wr ∧ Aside (xs.map bs = (zs.take k).map rgText))
  case atStart => exact ⟨0, [], Nat.zero_le _, by omega, rfl, OwnS.nil _ _, rfl, Below.refl _ _, show Aside _ from rfl⟩
  case round =>
    obtain ⟨k, xs, hk, hg, rfl, hO, hxl, hB, A⟩ := hrel
    have HXL := Lib.hid hxl
    clear hxl
    by_cases hlt : k < n
    · have hltz : (k : Int) < (n : Int) := by omega
      have hkz : k < zs.length := by rw [HN.out]; exact hlt
      obtain ⟨b, off, rfl, hb, hx1, hx2⟩ := RE.rg (T := TR) rfl rfl (hS0.below hB) hkz
      have hvk := validB_iff.1 (HV.out _ (List.getElem_mem hkz))
      have HTK : Hid ((zs.take (k + 1)).map rgText = (zs.take k).map rgText ++ [rgText zs[k]]) := by
        unfold Hid; rw [List.take_succ_eq_append_getElem hkz, List.map_append]; rfl
      generalize zs[k] = r at hx1 hx2 hvk HTK
      obtain ⟨x, y⟩ := r
      simp only at hx1 hx2 hvk HTK
      obtain ⟨v1, v2, v3⟩ := hvk
      have hl1 := itoa_len x (by omega) (by omega)
      have hl2 := itoa_len y (by omega) (by omega)
      have hs1 : (mkS (Lib.itoa x)).size ≤ 13 := by rw [size_mkS]; exact hl1.1
      have hs2 : (mkS (Lib.itoa y)).size ≤ 13 := by rw [size_mkS]; exact hl2.1
      have hIx := fun W hT => itoa_any x W (by omega) (by omega) hT
      have hIy := fun W hT => itoa_any y W (by omega) (by omega) hT
      unfold GivesB at hIx hIy
      obtain ⟨sx, hsx⟩ : ∃ sx, sx = mkS (Lib.itoa x) := ⟨_, rfl⟩
      obtain ⟨sy, hsy⟩ : ∃ sy, sy = mkS (Lib.itoa y) := ⟨_, rfl⟩
      rw [← hsx] at hIx hs1
      rw [← hsy] at hIy hs2
      have HSX := Lib.hid hsx
      have HSY := Lib.hid hsy
      clear hsx hsy hl1 hl2
      have hTr := hT0.below hB
      have hba : Below wr.heap.size wr (wr.alloc (.cells #[.int .i64 x, .int .i64 y] 92)) := (Below.refl _ _).alloc (Nat.le_refl _) _
      have kk := cell2 (w := wr) 92 (.int .i64 x) (.int .i64 y) wr.heap.size rfl
      obtain ⟨kk0, kk1⟩ := kk
      have hlta : wr.heap.size < (wr.alloc (.cells #[.int .i64 x, .int .i64 y] 92)).heap.size := by simp
      have hIx' := hIx _ (hTr.below hba)
      go_wp2_with fail
      generalize wr.alloc (.cells #[.int .i64 x, .int .i64 y] 92) = wa at *
      refine hIx'.mono ?_
      clear hIx hIx'
      rintro e w3 ⟨rfl, hb3⟩
      have c0 := (hb3.cell (p := ⟨wr.heap.size, 0, none⟩) hlta).trans kk0
      have c1 := (hb3.cell (p := ⟨wr.heap.size, 1, none⟩) hlta).trans kk1
      have hb13 : Below wr.heap.size wr w3 := below_then' hba hb3
      clear kk0 kk1 hb3 hba
      by_cases hxy : x < y
      · have HR : Hid (rgText (x, y) = Lib.itoa x ++ 45 :: Lib.itoa y) := by unfold Hid rgText; rw [if_pos hxy]
        have hIy' := hIy _ (hTr.below hb13)
        go_wp2_with fail
        refine hIy'.mono ?_
        clear hIy hIy'
        rintro e w4 ⟨rfl, hb4⟩
        have hb14 : Below wr.heap.size wr w4 := below_then' hb13 hb4
        have hO4 := hO.below hb14
        have hB4 : Below w0.heap.size w0 w4 := hB.trans (hb14.mono hB.size)
        go_wp2_with (at_builtin; refine app_str hO4 hB4 hB4.size (by have := HXL.out; omega) _ _ _ rfl rfl rfl rfl ?_; intro v1' w5 hO5 hB5)
        go_roundg (n - (k + 1))
        case measure => omega
        case rel =>
          refine ⟨k + 1, _, by omega, by omega, by go_num, hO5, by simp [HXL.out], hB5, ?_⟩
          unfold Aside
          rw [HTK.out, List.map_append, A.out, HR.out]
          simp [HSX.out, HSY.out, bs]
      · have HR : Hid (rgText (x, y) = Lib.itoa x) := by unfold Hid rgText; rw [if_neg hxy]
        have hO4 := hO.below hb13
        have hB4 : Below w0.heap.size w0 w3 := hB.trans (hb13.mono hB.size)
        go_wp2_with (at_builtin; refine app_str hO4 hB4 hB4.size (by have := HXL.out; omega) _ _ _ rfl rfl rfl rfl ?_; intro v1' w5 hO5 hB5)
        go_roundg (n - (k + 1))
        case measure => omega
        case rel =>
          refine ⟨k + 1, _, by omega, by omega, by go_num, hO5, by simp [HXL.out], hB5, ?_⟩
          unfold Aside
          rw [HTK.out, List.map_append, A.out, HR.out]
          simp [HSX.out, bs]
    · have hltz : ¬ (k : Int) < (n : Int) := by omega
      have HE : Hid (text 44 (xs.map bs) = setText zs) := by unfold Hid; rw [A.out, List.take_of_length_le (by rw [HN.out]; omega)]; rfl
      obtain ⟨a1, c1, rfl, hSx, hle, hcm⟩ := hO.ss
      have hJ := join_any 44 a1 xs.length c1 xs wr rfl hle hSx (by rw [HE.out]; have := setText_len zs HV.out; rw [HN.out] at this; omega) (by have := HXL.out; omega)
      rw [HE.out] at hJ
      unfold GivesB at hJ
      generalize xs.length = m at hJ HXL ⊢
      go_wp2_with fail
      refine hJ.mono ?_
      rintro e w3 ⟨rfl, hb3⟩
      go_wp2_with fail
      go_ret
      exact ⟨rfl, below_then' hb0 (hB.trans (hb3.mono hB.size))⟩
end Go.Proofs.YtddmldfdakmecaaGreatDoor
