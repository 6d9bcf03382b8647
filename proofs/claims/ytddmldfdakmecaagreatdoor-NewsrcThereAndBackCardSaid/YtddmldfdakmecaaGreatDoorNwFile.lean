/- The text of marks: a builder's writes, (*Marks).Text. -/
import Derived.Test.YtddmldfdakmecaaGreatDoorNwRead
import Derived.Shelf.Strings.BuilderK
namespace Go.Proofs
open Go.Shelf Go.RowKit
def Tryz.wrRen : Go.Shelf.Ren := ⟨fun | 167 => 81 | n => Tryz.lays156_ren.f n, Tryz.lays156_ren.t, Tryz.lays156_ren.g⟩
theorem Tryz.wrLays166 : Lays.n166 Tryz.prog Tryz.lays156_ren := { Tryz.lays156 with }
theorem Tryz.wrLays167 : Lays.n167 Tryz.prog Tryz.wrRen := {
  Tryz.lays156, Tryz.Builder_Extra_156 with
  f167 := Tryz.func81.trans (congrArg some (by kernel_rfl))
  f240 := Tryz.func113.trans (congrArg some (by kernel_rfl))
  f276 := Tryz.func142.trans (congrArg some (by kernel_rfl)) }
set_option maxRecDepth 100000 in
theorem Tryz.wrExtra : Builder.Extra Tryz.prog Tryz.wrRen := { Tryz.Builder_Extra_156 with }
theorem Tryz.wrString (B b : Nat) (l : List UInt8) (s : ByteArray) (w : World) (h : Lib.IsBuilderF 123 5 B b (Lib.byteCells l) w) (hlen : l.length + s.size ≤ 140737488355328) (hBw : B ≤ w.heap.size) :
    Calls Tryz.prog 80 #[.pointer (some ⟨b, 0, none⟩), .string s] w fun e w' => e = .returned (.tuple #[.int .i64 s.size, .nilIface]) ∧ (Lib.IsBuilderF 123 5 B b (Lib.byteCells (l ++ s.data.toList)) w' ∧ Below B w w' ∧ Lib.OthersKept 5 (some b) w w') :=
  (Any.Builder_WriteString_k Tryz.wrLays166 Tryz.Builder_Extra_156 B b (Lib.byteCells l) s w h (by rw [Lib.byteCells_length]; exact hlen) hBw).mono fun e w' ⟨h1, h2, h3, h4⟩ => ⟨h1, .inr (by
    have e1 : Lib.byteCells (l ++ s.data.toList) = Lib.byteCells l ++ Lib.strCells s := by simp [Lib.byteCells, Lib.strCells]
    rw [e1]; exact h2), h3, h4⟩
theorem Tryz.wrByte (B b : Nat) (l : List UInt8) (c : UInt8) (w : World) (h : Lib.IsBuilderF 123 5 B b (Lib.byteCells l) w) (hlen : l.length + 1 ≤ 140737488355328) (hBw : B ≤ w.heap.size) :
    Calls Tryz.prog 81 #[.pointer (some ⟨b, 0, none⟩), .int .u8 c.toNat] w fun e w' => e = .returned .nilIface ∧ (Lib.IsBuilderF 123 5 B b (Lib.byteCells (l ++ [c])) w' ∧ Below B w w' ∧ Lib.OthersKept 5 (some b) w w') :=
  (Any.Builder_WriteByte_k Tryz.wrLays167 Tryz.wrExtra B b (Lib.byteCells l) c.toNat w h (by rw [Lib.byteCells_length]; exact hlen) hBw).mono fun e w' ⟨h1, h2, h3, h4⟩ => ⟨h1, .inr (by
    have e1 : Lib.byteCells (l ++ [c]) = Lib.byteCells l ++ [.int .u8 c.toNat] := by simp [Lib.byteCells]
    rw [e1]; exact h2), h3, h4⟩
theorem Tryz.bldBelow {B b : Nat} {bs : List Value} {W W' : World} (h : Lib.IsBuilderF 123 5 B b bs W) (hb : Below W.heap.size W W') : Lib.IsBuilderF 123 5 B b bs W' := by
  have one : ∀ p, Lib.BuilderAtF 123 5 B b p bs W → Lib.BuilderAtF 123 5 B b p bs W' := by
    intro p h
    have hlt := h.lt
    obtain ⟨hB, v, hv, hown, hne⟩ := h
    exact ⟨hB, v, (hb.block b hlt).trans hv, hown.kept (row := none) ⟨hb.os, hb.tape, hb.output, hb.size, fun k hk _ => hb.block k hk⟩ (Classical.em _), hne⟩
  exact h.elim (fun x => .inl (one _ x)) (fun x => .inr (one _ x))
end Go.Proofs
namespace Go.Proofs.YtddmldfdakmecaaGreatDoor
open Go.RowKit Go.Gn Go.El Go.Nw

/-- An entry's line. -/
def entText (g : Mk) : Str := bs g.name ++ ((if g.sub then (58 : UInt8) else 33) :: ((if setText g.set = [] then [] else 32 :: setText g.set) ++ [10]))
/-- The file's text. -/
def fileText (M : List Mk) : Str := M.flatMap entText
theorem fileText_take {M : List Mk} {k : Nat} (hk : k < M.length) : fileText (M.take (k + 1)) = fileText (M.take k) ++ entText M[k] := by
  unfold fileText
  rw [List.take_succ_eq_append_getElem hk, List.flatMap_append, List.flatMap_singleton]

def BL (w : World) (B : Nat) (l : Str) : Prop := Lib.IsBuilderF 123 5 B B (Lib.byteCells l) w
theorem BL.below {w w' : World} {B : Nat} {l : Str} (h : BL w B l) (hb : Below w.heap.size w w') : BL w' B l := Tryz.bldBelow h hb
theorem BL.new (w : World) (m : Nat) (hm : w.heap.size = m) : BL (w.alloc (.cells #[.pointer none, .slice none 0 0] 123)) m [] := by
  subst hm
  exact (Lib.fresh_isBuilder _ _ w).elim (fun x => .inl (.of x)) (fun x => .inr (.of x))

/-- A world past a builder's write: other blocks of cells that are not bytes lie as they lay. -/
theorem other_cell {w w' : World} {B k : Nat} {cs : Array Value} {t : TypeId} {f : Nat × Nat} (h : Lib.OthersKept 5 (some B) w w') (hk : w.heap[k]? = some (.cells cs t f)) (hne : k ≠ B) (ht : t ≠ 5) : w'.heap[k]? = some (.cells cs t f) :=
  h k _ hk (fun e => hne (Option.some.inj e)) (fun c fz e => by injection e with _ e2; exact ht e2)
theorem heap_cell {w : World} {k : Nat} {cs : Array Value} {t : TypeId} {f : Nat × Nat} (hk : w.heap[k]? = some (.cells cs t f)) (j : Nat) : w.cell? ⟨k, j, none⟩ = cs[j]? := by
  simp [World.cell?, hk]

set_option maxRecDepth 100000 in
set_option maxHeartbeats 1000000 in
/-- 'Marks.Text'. -/
theorem mtext_any (base P : Nat) (v : Value) (es : List Ent) (M : List Mk) (w : World) (hM : MarksAt w base P v es M) (hT : TB w) :
    GivesB Tryz.prog 37 #[.pointer (some ⟨P, 0, none⟩)] (.string (mkS (fileText M))) w := by
  have hc := hM.box.cell
  have HA := Lib.hid hM.are
  have HNM := Lib.hid hM.names
  have hMl : M.length = es.length := hM.are.len.symm
  have hfew := hM.few
  obtain ⟨a, c, rfl, hR, q1, q2, q3, q4⟩ := hM.own.re
  have hPlt := hM.box.lt
  clear hM q1 q2 q3
  have HQ := Lib.hid q4
  clear q4
  generalize hm : es.length = m at *
  have HLEN := Lib.hid hm
  have HM := Lib.hid hMl
  rw [hMl] at hfew
  clear hm hMl
  have hb0 : Below w.heap.size w (w.alloc (.cells #[.pointer none, .slice none 0 0] 123)) := (Below.refl _ _).alloc (Nat.le_refl _) _
  have hc0 := (hb0.cell (p := ⟨P, 0, none⟩) hPlt).trans hc
  have hL0 := BL.new w _ rfl
  have hs0 : w.heap.size < (w.alloc (.cells #[.pointer none, .slice none 0 0] 123)).heap.size := by simp
  unfold GivesB
  go_enter Tryz.func37, Tryz.ntmps37
  go_wp2
  generalize w.alloc (.cells #[.pointer none, .slice none 0 0] 123) = w0 at *
  have hR0 := hR.below hb0
  have hT0 := hT.below hb0
  clear hR0 hT0 hc
  go_loopg [14] m (fun gg s14 wr => ∃ (k : Nat), k ≤ m ∧ m - k ≤ gg ∧ s14 = .int .i64 k ∧ BL wr w.heap.size (fileText (M.take k)) ∧ (fileText (M.take k)).length ≤ k * 120000 ∧ Below w.heap.size w wr ∧ w.heap.size < wr.heap.size)
  case atStart => exact ⟨0, Nat.zero_le _, by omega, rfl, hL0, Nat.zero_le _, hb0, hs0⟩
  case round =>
    obtain ⟨k, hk, hg, rfl, hL, hlen, hB, hsz⟩ := hrel
    by_cases hlt : k < m
    · have hltz : (k : Int) < (m : Int) := by omega
      have hke : k < es.length := by rw [HLEN.out]; exact hlt
      have hkM : k < M.length := by rw [HM.out]; exact hlt
      obtain ⟨b, off, rfl, hb, hx1, hx2, hx3⟩ := re_ent (T := TE) rfl rfl (hR.below hB) hke
      have hE := HA.out.at_ k hke hkM
      have hnm80 := ((check_zero _).1 (HNM.out _ (List.getElem_mem hkM))).1
      have HFT := Lib.hid (fileText_take hkM)
      generalize es[k] = en at hx1 hx2 hx3 hE
      generalize M[k] = g at hE hnm80 HFT
      clear hke
      obtain ⟨nm, sb, ea, en, ec⟩ := en
      obtain ⟨gn, gs, tx0⟩ := g
      obtain ⟨h1, h2, h3, h4, h5, h6⟩ := hE
      simp only at hx1 hx2 hx3 h1 h2 h3 h4 h5 h6 hnm80
      subst h1; subst h2
      have hN : nm.size ≤ 80 := hnm80
      obtain ⟨a', c', hsl, hRS, q1, q2, q3, q4⟩ := h3.re
      clear q1 q2 q3 q4
      injection hsl with z1 z2 z3
      subst z1; subst z2; subst z3
      have hS : ∀ W, TB W → RE TR W ea tx0 → GivesB Tryz.prog 45 #[.agg #[.slice ea tx0.length ec]] (.string (mkS (setText tx0))) W := fun W hT hR => stext_any ea tx0.length ec tx0 W rfl (by omega) hR h5 hT
      have hLt := setText_len tx0 h5
      obtain ⟨tx, htx⟩ : ∃ tx, tx = setText tx0 := ⟨_, rfl⟩
      obtain ⟨ts, hts⟩ : ∃ ts, ts = mkS tx := ⟨_, rfl⟩
      rw [← htx, ← hts] at hS
      rw [← htx] at hLt
      have HTS := Lib.hid hts
      have hTs : ts.size = tx.length := by rw [hts]; exact size_mkS _
      have HTX : Hid (entText ⟨nm, sb, tx0⟩ = bs nm ++ ((if sb then (58 : UInt8) else 33) :: ((if tx = [] then [] else 32 :: tx) ++ [10]))) := by unfold Hid; rw [htx]; rfl
      have HLE : Hid ((entText ⟨nm, sb, tx0⟩).length ≤ 120000) := by
        unfold Hid
        rw [HTX.out]
        have : (bs nm).length = nm.size := rfl
        by_cases e : tx = [] <;> simp [e, this] <;> omega
      generalize tx0.length = tn at *
      generalize entText ⟨nm, sb, tx0⟩ = et at HFT HTX HLE
      clear hts htx h3 h4 h5 hnm80
      generalize fileText (M.take k) = l0 at hL hlen HFT
      have hWB : ∀ (c : UInt8) (l : Str) (W : World), BL W w.heap.size l → l.length + 1 ≤ 140737488355328 → w.heap.size ≤ W.heap.size → _ := fun c l W h1 h2 h3 => Tryz.wrByte w.heap.size w.heap.size l c W h1 h2 h3
      have hh := heap_alloc_new wr (.cells #[.string nm, .bool sb, .slice ea tn ec] 113)
      have hba : Below wr.heap.size wr (wr.alloc (.cells #[.string nm, .bool sb, .slice ea tn ec] 113)) := (Below.refl _ _).alloc (Nat.le_refl _) _
      have hLa := hL.below hba
      have hBa := hB.trans (hba.mono (Nat.le_of_lt hsz))
      have hsza : w.heap.size ≤ (wr.alloc (.cells #[.string nm, .bool sb, .slice ea tn ec] 113)).heap.size := Nat.le_trans (Nat.le_of_lt hsz) hba.size
      have hne : wr.heap.size ≠ w.heap.size := Nat.ne_of_gt hsz
      have hca0 := (heap_cell hh 0).trans rfl
      clear hba hL
      have hsz1 : w.heap.size < (wr.alloc (.cells #[.string nm, .bool sb, .slice ea tn ec] 113)).heap.size := by simp; omega
      have hWN := Tryz.wrString w.heap.size w.heap.size _ nm _ hLa (by omega) hsza
      go_wp2_with fail
      generalize wr.alloc (.cells #[.string nm, .bool sb, .slice ea tn ec] 113) = wa at *
      refine hWN.mono ?_
      clear hWN
      rintro e w3 ⟨rfl, hL3', hb3, ho3⟩
      have hL3 : BL w3 w.heap.size (l0 ++ bs nm) := hL3'
      have hlen3 : (l0 ++ bs nm).length = l0.length + nm.size := List.length_append
      have hh3 := other_cell ho3 hh hne (by decide)
      have hc31 : w3.cell? ⟨wr.heap.size, 1, none⟩ = some (.bool sb) := heap_cell hh3 1
      have hB3 := hBa.trans hb3
      have hsz3 := Nat.le_trans hsza hb3.size
      have hsz3' := Nat.lt_of_lt_of_le hsz1 hb3.size
      clear hL3' hLa ho3 hh hca0 hb3 hBa
      cases sb with
      | true =>
        rw [if_pos rfl] at HTX
        go_wp2_with fail
        refine (hWB 58 _ w3 hL3 (by rw [hlen3]; omega) hsz3).mono ?_
        rintro e w4 ⟨rfl, hL4, hb4, ho4⟩
        have hh4 := other_cell ho4 hh3 hne (by decide)
        have hc42 : w4.cell? ⟨wr.heap.size, 2, none⟩ = some (.slice ea tn ec) := heap_cell hh4 2
        have hB4 := hB3.trans hb4
        have hsz4 := Nat.le_trans hsz3 hb4.size
        have hlen4 : ((l0 ++ bs nm) ++ [(58 : UInt8)]).length = l0.length + nm.size + 1 := by rw [List.length_append, hlen3]; rfl
        have hst := hS w4 (hT.below hB4) (hRS.below hB4)
        unfold GivesB at hst
        go_wp2_with fail
        refine hst.mono ?_
        clear hst
        rintro e w5 ⟨rfl, hb5⟩
        have hL5 := BL.below hL4 hb5
        have hB5 := hB4.trans (hb5.mono hsz4)
        have hsz5 := Nat.le_trans hsz4 hb5.size
        have hb5' : w.heap.size < w5.heap.size := by have := hb5.size; have := hb4.size; omega
        clear hL4 hb5 hh4 hc42 hh3 hc31 hL3 hb4 ho4
        by_cases htx : tx = []
        · have e1 : ts.toList.isEmpty = true := by rw [HTS.out, htx, ByteArray.toList_eq]; rfl
          have HE1 := Lib.hid htx
          clear htx
          go_wp2_with fail
          refine (hWB 10 _ w5 hL5 (by rw [hlen4]; omega) hsz5).mono ?_
          rintro e w6 ⟨rfl, hL6, hb6, ho6⟩
          go_wp2_with fail
          go_roundg (m - (k + 1))
          case measure => omega
          case rel =>
            have HQ6 : Hid (l0 ++ et = ((l0 ++ bs nm) ++ [(58 : UInt8)]) ++ [10]) := by unfold Hid; rw [HTX.out, if_pos HE1.out]; simp
            refine ⟨k + 1, by omega, by omega, by go_num, ?_, ?_, hB5.trans hb6, by have := hb6.size; have := hb5'; omega⟩
            · rw [HFT.out, HQ6.out]; exact hL6
            · rw [HFT.out, List.length_append]; have := HLE.out; omega
        · have e1 : ts.toList.isEmpty = false := by
            rw [HTS.out, ByteArray.toList_eq]; unfold mkS; cases tx with
            | nil => exact absurd rfl htx
            | cons a l => rfl
          have e2 : (!ts.toList.isEmpty) = true := by rw [e1]; rfl
          have HE1 := Lib.hid htx
          clear htx
          have hWT := Tryz.wrString w.heap.size w.heap.size _ (⟨#[32]⟩ ++ ts) w5 hL5 (by
            have e3 : ((⟨#[32]⟩ : ByteArray) ++ ts).size = 1 + ts.size := by rw [ByteArray.size_append]; rfl
            rw [e3, hlen4]; omega) hsz5
          go_wp2_with fail
          refine hWT.mono ?_
          clear hWT
          rintro e w6 ⟨rfl, hL6, hb6, ho6⟩
          have HD : Hid (((⟨#[32]⟩ : ByteArray) ++ ts).data.toList = 32 :: tx) := by unfold Hid; rw [HTS.out]; simp [mkS]
          rw [HD.out] at hL6
          have hsz6 := Nat.le_trans hsz5 hb6.size
          go_wp2_with fail
          refine (hWB 10 _ w6 hL6 (by rw [List.length_append, hlen4, List.length_cons]; omega) hsz6).mono ?_
          rintro e w7 ⟨rfl, hL7, hb7, ho7⟩
          go_wp2_with fail
          go_roundg (m - (k + 1))
          case measure => omega
          case rel =>
            have HQ6 : Hid (l0 ++ et = (((l0 ++ bs nm) ++ [(58 : UInt8)]) ++ 32 :: tx) ++ [10]) := by unfold Hid; rw [HTX.out, if_neg HE1.out]; simp
            refine ⟨k + 1, by omega, by omega, by go_num, ?_, ?_, (hB5.trans hb6).trans hb7, by have := hb7.size; have := hb6.size; have := hb5'; omega⟩
            · rw [HFT.out, HQ6.out]; exact hL7
            · rw [HFT.out, List.length_append]; have := HLE.out; omega
      | false =>
        rw [if_neg (by decide)] at HTX
        go_wp2_with fail
        refine (hWB 33 _ w3 hL3 (by rw [hlen3]; omega) hsz3).mono ?_
        rintro e w4 ⟨rfl, hL4, hb4, ho4⟩
        have hh4 := other_cell ho4 hh3 hne (by decide)
        have hc42 : w4.cell? ⟨wr.heap.size, 2, none⟩ = some (.slice ea tn ec) := heap_cell hh4 2
        have hB4 := hB3.trans hb4
        have hsz4 := Nat.le_trans hsz3 hb4.size
        have hlen4 : ((l0 ++ bs nm) ++ [(33 : UInt8)]).length = l0.length + nm.size + 1 := by rw [List.length_append, hlen3]; rfl
        have hst := hS w4 (hT.below hB4) (hRS.below hB4)
        unfold GivesB at hst
        go_wp2_with fail
        refine hst.mono ?_
        clear hst
        rintro e w5 ⟨rfl, hb5⟩
        have hL5 := BL.below hL4 hb5
        have hB5 := hB4.trans (hb5.mono hsz4)
        have hsz5 := Nat.le_trans hsz4 hb5.size
        have hb5' : w.heap.size < w5.heap.size := by have := hb5.size; have := hb4.size; omega
        clear hL4 hb5 hh4 hc42 hh3 hc31 hL3 hb4 ho4
        by_cases htx : tx = []
        · have e1 : ts.toList.isEmpty = true := by rw [HTS.out, htx, ByteArray.toList_eq]; rfl
          have HE1 := Lib.hid htx
          clear htx
          go_wp2_with fail
          refine (hWB 10 _ w5 hL5 (by rw [hlen4]; omega) hsz5).mono ?_
          rintro e w6 ⟨rfl, hL6, hb6, ho6⟩
          go_wp2_with fail
          go_roundg (m - (k + 1))
          case measure => omega
          case rel =>
            have HQ6 : Hid (l0 ++ et = ((l0 ++ bs nm) ++ [(33 : UInt8)]) ++ [10]) := by unfold Hid; rw [HTX.out, if_pos HE1.out]; simp
            refine ⟨k + 1, by omega, by omega, by go_num, ?_, ?_, hB5.trans hb6, by have := hb6.size; have := hb5'; omega⟩
            · rw [HFT.out, HQ6.out]; exact hL6
            · rw [HFT.out, List.length_append]; have := HLE.out; omega
        · have e1 : ts.toList.isEmpty = false := by
            rw [HTS.out, ByteArray.toList_eq]; unfold mkS; cases tx with
            | nil => exact absurd rfl htx
            | cons a l => rfl
          have e2 : (!ts.toList.isEmpty) = true := by rw [e1]; rfl
          have HE1 := Lib.hid htx
          clear htx
          have hWT := Tryz.wrString w.heap.size w.heap.size _ (⟨#[32]⟩ ++ ts) w5 hL5 (by
            have e3 : ((⟨#[32]⟩ : ByteArray) ++ ts).size = 1 + ts.size := by rw [ByteArray.size_append]; rfl
            rw [e3, hlen4]; omega) hsz5
          go_wp2_with fail
          refine hWT.mono ?_
          clear hWT
          rintro e w6 ⟨rfl, hL6, hb6, ho6⟩
          have HD : Hid (((⟨#[32]⟩ : ByteArray) ++ ts).data.toList = 32 :: tx) := by unfold Hid; rw [HTS.out]; simp [mkS]
          rw [HD.out] at hL6
          have hsz6 := Nat.le_trans hsz5 hb6.size
          go_wp2_with fail
          refine (hWB 10 _ w6 hL6 (by rw [List.length_append, hlen4, List.length_cons]; omega) hsz6).mono ?_
          rintro e w7 ⟨rfl, hL7, hb7, ho7⟩
          go_wp2_with fail
          go_roundg (m - (k + 1))
          case measure => omega
          case rel =>
            have HQ6 : Hid (l0 ++ et = (((l0 ++ bs nm) ++ [(33 : UInt8)]) ++ 32 :: tx) ++ [10]) := by unfold Hid; rw [HTX.out, if_neg HE1.out]; simp
            refine ⟨k + 1, by omega, by omega, by go_num, ?_, ?_, (hB5.trans hb6).trans hb7, by have := hb7.size; have := hb6.size; have := hb5'; omega⟩
            · rw [HFT.out, HQ6.out]; exact hL7
            · rw [HFT.out, List.length_append]; have := HLE.out; omega
    · have hltz : ¬ (k : Int) < (m : Int) := by omega
      have HE : Hid (fileText (M.take k) = fileText M) := by unfold Hid; rw [List.take_of_length_le (by rw [HM.out]; omega)]
      rw [HE.out] at hL
      have hS := Tryz.Builder_String_any_f w.heap.size w.heap.size (fileText M) wr hL (Nat.le_of_lt hsz)
      go_wp2_with fail
      refine hS.mono ?_
      clear hS
      rintro e w2 ⟨rfl, hL2, hb2⟩
      go_wp2_with fail
      go_ret
      exact ⟨rfl, hB.trans hb2⟩
end Go.Proofs.YtddmldfdakmecaaGreatDoor
