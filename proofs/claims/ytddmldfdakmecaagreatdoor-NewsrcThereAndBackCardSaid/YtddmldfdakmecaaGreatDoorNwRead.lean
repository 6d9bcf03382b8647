/- Walks of (*newsrc.Marks).Read, Unread, CatchUp. -/
import Derived.Test.YtddmldfdakmecaaGreatDoorNwChange
namespace Go.Proofs.YtddmldfdakmecaaGreatDoor
open Go.RowKit Go.Gn Go.El Go.Nw

theorem noneZ {S : List Rg} {T : Ty Tryz.prog Rg} {w : World} {base : Nat} {a : Option Addr} {n c : Nat} (h : OE T w base (.slice a n c) S) : S.length = n ∧ RE T w a S ∧ (a = none → c = 0) := by
  obtain ⟨h1, h2, _, _, h3, _⟩ := h.shape
  exact ⟨h1, h2, h3⟩

set_option maxRecDepth 100000 in
set_option maxHeartbeats 1000000 in
theorem cloRead (base bx : Nat) (a : Option Addr) (n c : Nat) (S : List Rg) (x : Int) (w : World) (hx : w.cell? ⟨bx, 0, none⟩ = some (.int .i64 x)) (hb : bx < w.heap.size) (hbase : base ≤ w.heap.size) (hO : OE TR w base (.slice a n c) S) (hN : Norm S) (hv : ∀ r ∈ S, validB r = true) (hl : S.length ≤ 4096) (hr : validB (dup x) = true) :
    Calls Tryz.prog 73 #[.agg #[.slice a n c], .pointer (some ⟨bx, 0, none⟩)] w fun e w' => SetPost base (combS keepU S [(dup x)]) w e w' := by
  obtain ⟨hsl, hR, hno⟩ := noneZ hO
  have hb0 : Below w.heap.size w ((w.alloc (.cells #[.slice a n c] 26)).alloc (.cells #[.slice none 0 0] 26)) := ((Below.refl _ _).alloc (Nat.le_refl _) _).alloc (by simp) _
  have hBR : Box ((w.alloc (.cells #[.slice a n c] 26)).alloc (.cells #[.slice none 0 0] 26)) (w.heap.size + 1) 26 (.slice none 0 0) := Box.new (w.alloc _) _ _ _ (by simp)
  have hA := add_any a n c S (dup x) _ hsl (by omega) (hR.below hb0) hno hN hv hr
  have hx0 := (hb0.cell (p := ⟨bx, 0, none⟩) hb).trans hx
  have HVV : Hid (∀ r ∈ S ++ [(dup x)], validB r = true) := fun r h => by
    rcases List.mem_append.1 h with h | h
    · exact hv r h
    · obtain rfl := List.mem_singleton.1 h; exact hr
  clear hO hR hsl hno hN hv hr hx
  try simp only at hA
  go_enter Tryz.func73, Tryz.ntmps73
  go_wp2_with fail
  refine hA.mono ?_
  clear hA
  rintro e w1 hP
  obtain ⟨hb1, h2, h3, h4⟩ := hP.set (base := w.heap.size) hb0.size HVV.out
  have H23 : Hid (Norm (combS keepU S [(dup x)]) ∧ ∀ r ∈ combS keepU S [(dup x)], validB r = true) := ⟨h2, h3⟩
  have hX := hBR.below hb1 hBR.lt
  have hc := hX.cell
  have hf := hX.free
  have hb01 := below_then' hb0 hb1
  clear hP h2 h3 hx0
  rcases h4 with ⟨h4, v, rfl, hO⟩ | ⟨h4, rfl⟩
  · have HL := Lib.hid h4
    obtain ⟨a1, m1, c1, rfl⟩ := hO.sl
    clear h4
    go_wp2
    have hfar := hO.far (a := ⟨w.heap.size + 1, 0, none⟩) (hO.ne hX (by decide)) (.slice a1 m1 c1)
    have hc7 : (w1.setCell ⟨w.heap.size + 1, 0, none⟩ (.slice a1 m1 c1)).cell? ⟨w.heap.size + 1, 0, none⟩ = some (.slice a1 m1 c1) := (hX.set _).cell
    refine bodyPost_ret (v := .tuple #[.agg #[.slice a1 m1 c1], .int .i64 0]) (by simp [results, Tryz.results73, go_sem, hc7]) rfl ⟨?_, H23.out.1, H23.out.2, .inl ⟨HL.out, _, rfl, hfar.mono hbase⟩⟩
    exact hb01.setCell (p := ⟨w.heap.size + 1, 0, none⟩) (by simp <;> omega) _
  · have HL := Lib.hid h4
    clear h4
    go_wp2
    have hc7 : (w1.setCell ⟨w.heap.size + 1, 0, none⟩ (.slice none 0 0)).cell? ⟨w.heap.size + 1, 0, none⟩ = some (.slice none 0 0) := (hX.set _).cell
    refine bodyPost_ret (v := .tuple #[.agg #[.slice none 0 0], .int .i64 9]) (by simp [results, Tryz.results73, go_sem, hc7]) rfl ⟨?_, H23.out.1, H23.out.2, .inr ⟨HL.out, rfl⟩⟩
    exact hb01.setCell (p := ⟨w.heap.size + 1, 0, none⟩) (by simp <;> omega) _

set_option maxRecDepth 100000 in
set_option maxHeartbeats 1000000 in
theorem cloUnread (base bx : Nat) (a : Option Addr) (n c : Nat) (S : List Rg) (x : Int) (w : World) (hx : w.cell? ⟨bx, 0, none⟩ = some (.int .i64 x)) (hb : bx < w.heap.size) (hbase : base ≤ w.heap.size) (hO : OE TR w base (.slice a n c) S) (hN : Norm S) (hv : ∀ r ∈ S, validB r = true) (hl : S.length ≤ 4096) (hr : validB (dup x) = true) :
    Calls Tryz.prog 75 #[.agg #[.slice a n c], .pointer (some ⟨bx, 0, none⟩)] w fun e w' => SetPost base (combS keepD S [(dup x)]) w e w' := by
  obtain ⟨hsl, hR, hno⟩ := noneZ hO
  have hb0 : Below w.heap.size w ((w.alloc (.cells #[.slice a n c] 26)).alloc (.cells #[.slice none 0 0] 26)) := ((Below.refl _ _).alloc (Nat.le_refl _) _).alloc (by simp) _
  have hBR : Box ((w.alloc (.cells #[.slice a n c] 26)).alloc (.cells #[.slice none 0 0] 26)) (w.heap.size + 1) 26 (.slice none 0 0) := Box.new (w.alloc _) _ _ _ (by simp)
  have hA := remove_any a n c S (dup x) _ hsl (by omega) (hR.below hb0) hno hN hv hr
  have hx0 := (hb0.cell (p := ⟨bx, 0, none⟩) hb).trans hx
  have HVV : Hid (∀ r ∈ S ++ [(dup x)], validB r = true) := fun r h => by
    rcases List.mem_append.1 h with h | h
    · exact hv r h
    · obtain rfl := List.mem_singleton.1 h; exact hr
  clear hO hR hsl hno hN hv hr hx
  try simp only at hA
  go_enter Tryz.func75, Tryz.ntmps75
  go_wp2_with fail
  refine hA.mono ?_
  clear hA
  rintro e w1 hP
  obtain ⟨hb1, h2, h3, h4⟩ := hP.set (base := w.heap.size) hb0.size HVV.out
  have H23 : Hid (Norm (combS keepD S [(dup x)]) ∧ ∀ r ∈ combS keepD S [(dup x)], validB r = true) := ⟨h2, h3⟩
  have hX := hBR.below hb1 hBR.lt
  have hc := hX.cell
  have hf := hX.free
  have hb01 := below_then' hb0 hb1
  clear hP h2 h3 hx0
  rcases h4 with ⟨h4, v, rfl, hO⟩ | ⟨h4, rfl⟩
  · have HL := Lib.hid h4
    obtain ⟨a1, m1, c1, rfl⟩ := hO.sl
    clear h4
    go_wp2
    have hfar := hO.far (a := ⟨w.heap.size + 1, 0, none⟩) (hO.ne hX (by decide)) (.slice a1 m1 c1)
    have hc7 : (w1.setCell ⟨w.heap.size + 1, 0, none⟩ (.slice a1 m1 c1)).cell? ⟨w.heap.size + 1, 0, none⟩ = some (.slice a1 m1 c1) := (hX.set _).cell
    refine bodyPost_ret (v := .tuple #[.agg #[.slice a1 m1 c1], .int .i64 0]) (by simp [results, Tryz.results75, go_sem, hc7]) rfl ⟨?_, H23.out.1, H23.out.2, .inl ⟨HL.out, _, rfl, hfar.mono hbase⟩⟩
    exact hb01.setCell (p := ⟨w.heap.size + 1, 0, none⟩) (by simp <;> omega) _
  · have HL := Lib.hid h4
    clear h4
    go_wp2
    have hc7 : (w1.setCell ⟨w.heap.size + 1, 0, none⟩ (.slice none 0 0)).cell? ⟨w.heap.size + 1, 0, none⟩ = some (.slice none 0 0) := (hX.set _).cell
    refine bodyPost_ret (v := .tuple #[.agg #[.slice none 0 0], .int .i64 9]) (by simp [results, Tryz.results75, go_sem, hc7]) rfl ⟨?_, H23.out.1, H23.out.2, .inr ⟨HL.out, rfl⟩⟩
    exact hb01.setCell (p := ⟨w.heap.size + 1, 0, none⟩) (by simp <;> omega) _

set_option maxRecDepth 100000 in
set_option maxHeartbeats 1000000 in
theorem cloCatchUp (base bx : Nat) (a : Option Addr) (n c : Nat) (S : List Rg) (x : Int) (w : World) (h0 : (x == 0) = false) (hx : w.cell? ⟨bx, 0, none⟩ = some (.int .i64 x)) (hb : bx < w.heap.size) (hbase : base ≤ w.heap.size) (hO : OE TR w base (.slice a n c) S) (hN : Norm S) (hv : ∀ r ∈ S, validB r = true) (hl : S.length ≤ 4096) (hr : validB ((1, x) : Rg) = true) :
    Calls Tryz.prog 77 #[.agg #[.slice a n c], .pointer (some ⟨bx, 0, none⟩)] w fun e w' => SetPost base (combS keepU S [((1, x) : Rg)]) w e w' := by
  obtain ⟨hsl, hR, hno⟩ := noneZ hO
  have hb0 : Below w.heap.size w ((w.alloc (.cells #[.slice a n c] 26)).alloc (.cells #[.slice none 0 0] 26)) := ((Below.refl _ _).alloc (Nat.le_refl _) _).alloc (by simp) _
  have hBR : Box ((w.alloc (.cells #[.slice a n c] 26)).alloc (.cells #[.slice none 0 0] 26)) (w.heap.size + 1) 26 (.slice none 0 0) := Box.new (w.alloc _) _ _ _ (by simp)
  have hA := add_any a n c S ((1, x) : Rg) _ hsl (by omega) (hR.below hb0) hno hN hv hr
  have hx0 := (hb0.cell (p := ⟨bx, 0, none⟩) hb).trans hx
  have HVV : Hid (∀ r ∈ S ++ [((1, x) : Rg)], validB r = true) := fun r h => by
    rcases List.mem_append.1 h with h | h
    · exact hv r h
    · obtain rfl := List.mem_singleton.1 h; exact hr
  clear hO hR hsl hno hN hv hr hx
  try simp only at hA
  go_enter Tryz.func77, Tryz.ntmps77
  go_wp2_with fail
  refine hA.mono ?_
  clear hA
  rintro e w1 hP
  obtain ⟨hb1, h2, h3, h4⟩ := hP.set (base := w.heap.size) hb0.size HVV.out
  have H23 : Hid (Norm (combS keepU S [((1, x) : Rg)]) ∧ ∀ r ∈ combS keepU S [((1, x) : Rg)], validB r = true) := ⟨h2, h3⟩
  have hX := hBR.below hb1 hBR.lt
  have hc := hX.cell
  have hf := hX.free
  have hb01 := below_then' hb0 hb1
  clear hP h2 h3 hx0
  rcases h4 with ⟨h4, v, rfl, hO⟩ | ⟨h4, rfl⟩
  · have HL := Lib.hid h4
    obtain ⟨a1, m1, c1, rfl⟩ := hO.sl
    clear h4
    go_wp2
    have hfar := hO.far (a := ⟨w.heap.size + 1, 0, none⟩) (hO.ne hX (by decide)) (.slice a1 m1 c1)
    have hc7 : (w1.setCell ⟨w.heap.size + 1, 0, none⟩ (.slice a1 m1 c1)).cell? ⟨w.heap.size + 1, 0, none⟩ = some (.slice a1 m1 c1) := (hX.set _).cell
    refine bodyPost_ret (v := .tuple #[.agg #[.slice a1 m1 c1], .int .i64 0]) (by simp [results, Tryz.results77, go_sem, hc7]) rfl ⟨?_, H23.out.1, H23.out.2, .inl ⟨HL.out, _, rfl, hfar.mono hbase⟩⟩
    exact hb01.setCell (p := ⟨w.heap.size + 1, 0, none⟩) (by simp <;> omega) _
  · have HL := Lib.hid h4
    clear h4
    go_wp2
    have hc7 : (w1.setCell ⟨w.heap.size + 1, 0, none⟩ (.slice none 0 0)).cell? ⟨w.heap.size + 1, 0, none⟩ = some (.slice none 0 0) := (hX.set _).cell
    refine bodyPost_ret (v := .tuple #[.agg #[.slice none 0 0], .int .i64 9]) (by simp [results, Tryz.results77, go_sem, hc7]) rfl ⟨?_, H23.out.1, H23.out.2, .inr ⟨HL.out, rfl⟩⟩
    exact hb01.setCell (p := ⟨w.heap.size + 1, 0, none⟩) (by simp <;> omega) _

set_option maxRecDepth 100000 in
theorem cloCatchUp0 (base bx : Nat) (a : Option Addr) (n c : Nat) (S : List Rg) (w : World) (hx : w.cell? ⟨bx, 0, none⟩ = some (.int .i64 0)) (hb : bx < w.heap.size) (hO : OE TR w base (.slice a n c) S) (hN : Norm S) (hv : ∀ r ∈ S, validB r = true) (hl : S.length ≤ 4096) :
    Calls Tryz.prog 77 #[.agg #[.slice a n c], .pointer (some ⟨bx, 0, none⟩)] w fun e w' => SetPost base S w e w' := by
  have hb0 : Below w.heap.size w ((w.alloc (.cells #[.slice a n c] 26)).alloc (.cells #[.slice a n c] 26)) := ((Below.refl _ _).alloc (Nat.le_refl _) _).alloc (by simp) _
  have HH : Hid (Norm S ∧ (∀ r ∈ S, validB r = true) ∧ S.length ≤ 4096) := ⟨hN, hv, hl⟩
  clear hN hv hl
  go_enter Tryz.func77, Tryz.ntmps77
  go_wp2
  exact bodyPost_ret (v := .tuple #[.agg #[.slice a n c], .int .i64 0]) (by simp [results, Tryz.results77, go_sem]) rfl ⟨hb0, HH.out.1, HH.out.2.1, .inl ⟨HH.out.2.2, _, rfl, hO.below hb0⟩⟩

set_option maxRecDepth 100000 in
set_option maxHeartbeats 1000000 in
/-- 'Read'. -/
theorem read_any (base P : Nat) (v : Value) (es : List Ent) (M : List Mk) (s : ByteArray) (n : Int) (w : World) (hM : MarksAt w base P v es M) :
    Calls Tryz.prog 32 #[.pointer (some ⟨P, 0, none⟩), .string s, .int .i64 n] w fun e w' => OpPost base P v (chM M s (artB n) (fun S => combS keepU S [dup n])) w e w' := by
  have hb0 : Below w.heap.size w (w.alloc (.cells #[.int .i64 n] 3)) := (Below.refl _ _).alloc (Nat.le_refl _) _
  have hA := article_any n
  have hlo : base ≤ w.heap.size := by have := hM.lo; have := hM.box.lt; omega
  have hcx : (w.alloc (.cells #[.int .i64 n] 3)).cell? ⟨w.heap.size, 0, none⟩ = some (.int .i64 n) := (Box.new w _ _ _ rfl).cell
  have hC := change_any base P v es M s (artB n) (fun S => combS keepU S [dup n]) 73 #[.pointer (some ⟨w.heap.size, 0, none⟩)] (w.alloc (.cells #[.int .i64 n] 3)) (hM.below hb0) (enters_of Tryz.func73 (by kernel_rfl) rfl) (fun ok W e S hb hO hN hv hl =>
    cloRead base w.heap.size e.a e.n e.c S n W ((hb.cell (p := ⟨w.heap.size, 0, none⟩) (by simp)).trans hcx) (Nat.lt_of_lt_of_le (by simp) hb.size) (by have := hb.size; simp at this; omega) hO hN hv hl (by rw [validB_iff]; have := artB_iff.1 ok; exact ⟨this.1, this.2, Int.le_refl _⟩))
  clear hM
  go_enter Tryz.func32, Tryz.ntmps32
  go_wp2_with (go_at_call 60; refine (hA _).mono ?_; rintro e w' ⟨rfl, rfl⟩)
  refine hC.mono ?_
  clear hC
  rintro e w1 ⟨rfl, ht, v', es', hM'⟩
  have HM := Lib.hid hM'
  clear hM'
  go_wp2_with fail
  go_ret
  exact ⟨rfl, (Turn.of_below hb0 _).trans ht, v', es', HM.out⟩

set_option maxRecDepth 100000 in
set_option maxHeartbeats 1000000 in
/-- 'Unread'. -/
theorem unread_any (base P : Nat) (v : Value) (es : List Ent) (M : List Mk) (s : ByteArray) (n : Int) (w : World) (hM : MarksAt w base P v es M) :
    Calls Tryz.prog 33 #[.pointer (some ⟨P, 0, none⟩), .string s, .int .i64 n] w fun e w' => OpPost base P v (chM M s (artB n) (fun S => combS keepD S [dup n])) w e w' := by
  have hb0 : Below w.heap.size w (w.alloc (.cells #[.int .i64 n] 3)) := (Below.refl _ _).alloc (Nat.le_refl _) _
  have hA := article_any n
  have hlo : base ≤ w.heap.size := by have := hM.lo; have := hM.box.lt; omega
  have hcx : (w.alloc (.cells #[.int .i64 n] 3)).cell? ⟨w.heap.size, 0, none⟩ = some (.int .i64 n) := (Box.new w _ _ _ rfl).cell
  have hC := change_any base P v es M s (artB n) (fun S => combS keepD S [dup n]) 75 #[.pointer (some ⟨w.heap.size, 0, none⟩)] (w.alloc (.cells #[.int .i64 n] 3)) (hM.below hb0) (enters_of Tryz.func75 (by kernel_rfl) rfl) (fun ok W e S hb hO hN hv hl =>
    cloUnread base w.heap.size e.a e.n e.c S n W ((hb.cell (p := ⟨w.heap.size, 0, none⟩) (by simp)).trans hcx) (Nat.lt_of_lt_of_le (by simp) hb.size) (by have := hb.size; simp at this; omega) hO hN hv hl (by rw [validB_iff]; have := artB_iff.1 ok; exact ⟨this.1, this.2, Int.le_refl _⟩))
  clear hM
  go_enter Tryz.func33, Tryz.ntmps33
  go_wp2_with (go_at_call 60; refine (hA _).mono ?_; rintro e w' ⟨rfl, rfl⟩)
  refine hC.mono ?_
  clear hC
  rintro e w1 ⟨rfl, ht, v', es', hM'⟩
  have HM := Lib.hid hM'
  clear hM'
  go_wp2_with fail
  go_ret
  exact ⟨rfl, (Turn.of_below hb0 _).trans ht, v', es', HM.out⟩

/-- What CatchUp does to a set. -/
noncomputable def upS (n : Int) (S : List Rg) : List Rg := if n = 0 then S else combS keepU S [(1, n)]

set_option maxRecDepth 100000 in
set_option maxHeartbeats 1000000 in
/-- 'CatchUp'. -/
theorem catchUp_any (base P : Nat) (v : Value) (es : List Ent) (M : List Mk) (s : ByteArray) (n : Int) (w : World) (hM : MarksAt w base P v es M) :
    Calls Tryz.prog 34 #[.pointer (some ⟨P, 0, none⟩), .string s, .int .i64 n] w fun e w' => OpPost base P v (chM M s (decide (n = 0) || artB n) (upS n)) w e w' := by
  have hb0 : Below w.heap.size w (w.alloc (.cells #[.int .i64 n] 3)) := (Below.refl _ _).alloc (Nat.le_refl _) _
  have hA := article_any n
  have hlo : base ≤ w.heap.size := by have := hM.lo; have := hM.box.lt; omega
  have hcx : (w.alloc (.cells #[.int .i64 n] 3)).cell? ⟨w.heap.size, 0, none⟩ = some (.int .i64 n) := (Box.new w _ _ _ rfl).cell
  have hC := change_any base P v es M s (decide (n = 0) || artB n) (upS n) 77 #[.pointer (some ⟨w.heap.size, 0, none⟩)] (w.alloc (.cells #[.int .i64 n] 3)) (hM.below hb0) (enters_of Tryz.func77 (by kernel_rfl) rfl) (fun ok W e S hb hO hN hv hl => by
    unfold upS
    by_cases h0 : n = 0
    · subst h0
      rw [if_pos rfl]
      exact cloCatchUp0 base w.heap.size e.a e.n e.c S W ((hb.cell (p := ⟨w.heap.size, 0, none⟩) (by simp)).trans hcx) (Nat.lt_of_lt_of_le (by simp) hb.size) hO hN hv hl
    · rw [if_neg h0]
      exact cloCatchUp base w.heap.size e.a e.n e.c S n W (by simpa using h0) ((hb.cell (p := ⟨w.heap.size, 0, none⟩) (by simp)).trans hcx) (Nat.lt_of_lt_of_le (by simp) hb.size) (by have := hb.size; simp at this; omega) hO hN hv hl (by rw [validB_iff]; have hA1 : artB n = true := (by simpa [h0] using ok); have := artB_iff.1 hA1; exact ⟨Int.le_refl _, this.2, this.1⟩))
  clear hM
  by_cases h0 : n = 0
  · subst h0
    have e1 : (decide ((0 : Int) = 0) || artB 0) = true := rfl
    rw [e1] at hC ⊢
    go_enter Tryz.func34, Tryz.ntmps34
    go_wp2_with fail
    refine hC.mono ?_
    clear hC
    rintro e w1 ⟨rfl, ht, v', es', hM'⟩
    have HM := Lib.hid hM'
    clear hM'
    go_wp2_with fail
    go_ret
    exact ⟨rfl, (Turn.of_below hb0 _).trans ht, v', es', HM.out⟩
  · have e1 : (decide (n = 0) || artB n) = artB n := by simp [h0]
    have h0b : (n == 0) = false := by simpa using h0
    rw [e1] at hC ⊢
    clear h0 e1
    go_enter Tryz.func34, Tryz.ntmps34
    go_wp2_with (go_at_call 60; refine (hA _).mono ?_; rintro e w' ⟨rfl, rfl⟩)
    refine hC.mono ?_
    clear hC
    rintro e w1 ⟨rfl, ht, v', es', hM'⟩
    have HM := Lib.hid hM'
    clear hM'
    go_wp2_with fail
    go_ret
    exact ⟨rfl, (Turn.of_below hb0 _).trans ht, v', es', HM.out⟩
end Go.Proofs.YtddmldfdakmecaaGreatDoor
