/- Marks in memory: what a reader's marks, and the reference's list of groups, hold. -/
import Derived.Test.YtddmldfdakmecaaGreatDoorNwText
namespace Go.Proofs.YtddmldfdakmecaaGreatDoor
open Go.RowKit Go.Gn Go.El Go.Nw

/-- An entry's three cells. -/
structure Ent where
  name : ByteArray
  sub : Bool
  a : Option Addr
  n : Nat
  c : Nat
def Ent.sl (e : Ent) : Value := .slice e.a e.n e.c
def entc (e : Ent) : List Value := [.string e.name, .bool e.sub, .slice e.a e.n e.c]
theorem entc_one : ∀ x, ∀ v ∈ entc x, v.oneCell' = true := by
  intro x v hv
  simp only [entc, List.mem_cons, List.not_mem_nil, or_false] at hv
  rcases hv with rfl | rfl | rfl <;> rfl
/-- []newsrc.entry. -/
def TE : Ty Tryz.prog Ent where
  e := 113
  s := 109
  k := 3
  by' := 48
  enc := entc
  zero := .agg #[.string ByteArray.empty, .bool false, .slice none 0 0]
  under := Tryz.underlying109
  info := by kernel_rfl
  len := fun _ => rfl
  one := entc_one
  zlen := rfl
  kpos := by decide
  small := by decide
/-- []bulletinref46.G. -/
def TQ : Ty Tryz.prog Ent where
  e := 133
  s := 63
  k := 3
  by' := 48
  enc := entc
  zero := .agg #[.string ByteArray.empty, .bool false, .slice none 0 0]
  under := Tryz.underlying63
  info := by kernel_rfl
  len := fun _ => rfl
  one := entc_one
  zlen := rfl
  kpos := by decide
  small := by decide

/-- What is marked for a group. -/
structure Mk where
  name : ByteArray
  sub : Bool
  set : List Rg

/-- A world that has turned in the blocks S alone. -/
structure Turn (w w' : World) (S : Nat → Prop) : Prop where
  os : w'.os = w.os
  tape : w'.tape = w.tape
  output : w'.output = w.output
  size : w.heap.size ≤ w'.heap.size
  block : ∀ k, k < w.heap.size → ¬ S k → w'.heap[k]? = w.heap[k]?

theorem Turn.of_below {w w' : World} (h : Below w.heap.size w w') (S : Nat → Prop) : Turn w w' S := ⟨h.os, h.tape, h.output, h.size, fun k hk _ => h.block k hk⟩
theorem Turn.below {w w' : World} {S : Nat → Prop} {B : Nat} (h : Turn w w' S) (hB : B ≤ w.heap.size) (hS : ∀ k, S k → B ≤ k) : Below B w w' :=
  ⟨h.os, h.tape, h.output, h.size, fun k hk => h.block k (Nat.lt_of_lt_of_le hk hB) fun hs => absurd (hS k hs) (Nat.not_le_of_lt hk)⟩
theorem Turn.trans {w w1 w2 : World} {S : Nat → Prop} (h1 : Turn w w1 S) (h2 : Turn w1 w2 S) : Turn w w2 S :=
  ⟨h2.os.trans h1.os, h2.tape.trans h1.tape, h2.output.trans h1.output, Nat.le_trans h1.size h2.size, fun k hk hs => (h2.block k (Nat.lt_of_lt_of_le hk h1.size) hs).trans (h1.block k hk hs)⟩
theorem Turn.refl (w : World) (S : Nat → Prop) : Turn w w S := ⟨rfl, rfl, rfl, Nat.le_refl _, fun _ _ _ => rfl⟩
theorem Turn.set {w w1 : World} {S : Nat → Prop} (h1 : Turn w w1 S) (p : Addr) (u : Value) (hp : S p.block) : Turn w (w1.setCell p u) S :=
  ⟨h1.os, h1.tape, h1.output, Nat.le_trans h1.size (by simp), fun k hk hs => (Below.heap_setCell w1 p u k (fun e => hs (e ▸ hp))).trans (h1.block k hk hs)⟩
theorem Turn.grown {w w1 w2 : World} {S : Nat → Prop} {row : Option Nat} (h1 : Turn w w1 S) (h2 : w1.grownBy w2 row) (hp : ∀ k, row = some k → k < w.heap.size → S k) : Turn w w2 S :=
  ⟨h2.os.trans h1.os, h2.tape.trans h1.tape, h2.output.trans h1.output, Nat.le_trans h1.size h2.size, fun k hk hs => (h2.block k (Nat.lt_of_lt_of_le hk h1.size) (fun e => hs (hp k e.symm hk))).trans (h1.block k hk hs)⟩
theorem Turn.more {w w1 : World} {S R : Nat → Prop} (h1 : Turn w w1 S) (h : ∀ k, k < w.heap.size → S k → R k) : Turn w w1 R :=
  ⟨h1.os, h1.tape, h1.output, h1.size, fun k hk hs => h1.block k hk fun hk' => hs (h k hk hk')⟩

variable {α : Type} {T : Ty Tryz.prog α}
theorem oe_turn {w w' : World} {base : Nat} {v : Value} {xs : List α} {S : Nat → Prop} (h : OE T w base v xs) (ht : Turn w w' S) (hn : ∀ k, v.ownBlock = some k → ¬ S k) : OE T w' base v xs := by
  refine ⟨h.1, ?_⟩
  rcases h.2 with h2 | ⟨g, cap, cur, hv, hg, hh, r⟩
  · exact .inl h2
  · exact .inr ⟨g, cap, cur, hv, hg, (ht.block g (Array.getElem?_eq_some_iff.1 hh).1 (hn g (by rw [hv]; rfl))).trans hh, r⟩
theorem box_turn {w w' : World} {B : Nat} {t : TypeId} {v : Value} {S : Nat → Prop} (h : Box w B t v) (ht : Turn w w' S) (hn : ¬ S B) : Box w' B t v := (ht.block B h.lt hn).trans h
/-- Rows of different element types lie in different blocks. -/
theorem oe_apart {β : Type} {T' : Ty Tryz.prog β} {w : World} {base base' : Nat} {v v' : Value} {xs : List α} {ys : List β} (h : OE T w base v xs) (h' : OE T' w base' v' ys) (hne : T.e ≠ T'.e) : ∀ k, v.ownBlock = some k → v'.ownBlock ≠ some k := by
  intro k hk hk'
  rcases h.2 with ⟨rfl, _⟩ | ⟨g, cap, cur, rfl, _, hh, _⟩
  · cases hk
  rcases h'.2 with ⟨rfl, _⟩ | ⟨g', cap', cur', rfl, _, hh', _⟩
  · cases hk'
  have e1 : g = k := by simpa [Value.ownBlock] using hk
  have e2 : g' = k := by simpa [Value.ownBlock] using hk'
  subst e1; subst e2
  rw [hh] at hh'
  injection hh' with hh'
  injection hh' with _ ht
  exact hne ht

/-- An entry that reads as a mark. -/
structure EntIs (T : Ty Tryz.prog Rg) (w : World) (base : Nat) (e : Ent) (g : Mk) : Prop where
  name : e.name = g.name
  sub : e.sub = g.sub
  own : OE T w base e.sl g.set
  norm : Norm g.set
  valid : ∀ r ∈ g.set, validB r = true
  small : g.set.length ≤ 4096
structure EntsAre (T : Ty Tryz.prog Rg) (w : World) (base : Nat) (es : List Ent) (M : List Mk) : Prop where
  len : es.length = M.length
  at_ : ∀ i (h : i < es.length) (h' : i < M.length), EntIs T w base es[i] M[i]

theorem EntIs.turn {T : Ty Tryz.prog Rg} {w w' : World} {base : Nat} {e : Ent} {g : Mk} {S : Nat → Prop} (h : EntIs T w base e g) (ht : Turn w w' S) (hn : ∀ k, e.sl.ownBlock = some k → ¬ S k) : EntIs T w' base e g :=
  ⟨h.name, h.sub, oe_turn h.own ht hn, h.norm, h.valid, h.small⟩
theorem EntIs.below {T : Ty Tryz.prog Rg} {w w' : World} {base : Nat} {e : Ent} {g : Mk} (h : EntIs T w base e g) (hb : Below w.heap.size w w') : EntIs T w' base e g :=
  ⟨h.name, h.sub, h.own.below hb, h.norm, h.valid, h.small⟩
theorem EntsAre.below {T : Ty Tryz.prog Rg} {w w' : World} {base : Nat} {es : List Ent} {M : List Mk} (h : EntsAre T w base es M) (hb : Below w.heap.size w w') : EntsAre T w' base es M :=
  ⟨h.len, fun i h1 h2 => (h.at_ i h1 h2).below hb⟩

/-- Where a group stands. -/
def findIx (M : List Mk) (s : ByteArray) : Option Nat := M.findIdx? fun g => decide (bs g.name = bs s)

/-- Marks behind a pointer. -/
structure MarksAt (w : World) (base P : Nat) (v : Value) (es : List Ent) (M : List Mk) : Prop where
  box : Box w P 111 v
  lo : base ≤ P
  own : OE TE w base v es
  are : EntsAre TR w base es M
  few : M.length ≤ 1024
  names : ∀ g ∈ M, check (bs g.name) = 0

theorem MarksAt.below {w w' : World} {base P : Nat} {v : Value} {es : List Ent} {M : List Mk} (h : MarksAt w base P v es M) (hb : Below w.heap.size w w') : MarksAt w' base P v es M :=
  ⟨h.box.below hb h.box.lt, h.lo, h.own.below hb, h.are.below hb, h.few, h.names⟩
/-- Other marks' doings leave these. -/
def MarksAt.blocks (P : Nat) (v : Value) (k : Nat) : Prop := k = P ∨ v.ownBlock = some k
theorem EntsAre.turn {w w' : World} {base P : Nat} {v u : Value} {es fs : List Ent} {M : List Mk} {b' : Nat} {t : TypeId} {T : Ty Tryz.prog Rg} (h : EntsAre T w base es M) (hB : Box w P t u) (hO : OE TE w b' v fs) (ht : Turn w w' (MarksAt.blocks P v)) (h1 : T.e ≠ t) (h2 : T.e ≠ TE.e) : EntsAre T w' base es M :=
  ⟨h.len, fun i h3 h4 => (h.at_ i h3 h4).turn ht fun k hk hs => by
    rcases hs with rfl | hs
    · exact (h.at_ i h3 h4).own.ne hB h1 hk
    · exact oe_apart (h.at_ i h3 h4).own hO h2 k hk hs⟩

theorem bs_eq {a b : ByteArray} : bs a = bs b ↔ a = b := ⟨fun h => by rw [← mk_bs a, ← mk_bs b, h], fun h => by rw [h]⟩
theorem beq_bs (a b : ByteArray) : (a.toList == b.toList) = decide (bs a = bs b) := by
  rw [ByteArray.toList_eq, ByteArray.toList_eq, Bool.eq_iff_iff, beq_iff_eq, decide_eq_true_eq]

theorem re_ent {T : Ty Tryz.prog Ent} (hk : T.k = 3) (he : T.enc = entc) {w : World} {a : Option Addr} {zs : List Ent} (h : RE T w a zs) {k : Nat} (hlt : k < zs.length) :
    ∃ b off, a = some ⟨b, off, none⟩ ∧ b < w.heap.size ∧ w.cell? ⟨b, off + k * 3, none⟩ = some (.string zs[k].name) ∧ w.cell? ⟨b, off + k * 3 + 1, none⟩ = some (.bool zs[k].sub) ∧ w.cell? ⟨b, off + k * 3 + 2, none⟩ = some (.slice zs[k].a zs[k].n zs[k].c) := by
  obtain ⟨b, off, ha, hb, hc⟩ := h.some hlt
  rw [hk, he] at hc
  exact ⟨b, off, ha, hb, hc 0 _ rfl, hc 1 _ rfl, hc 2 _ rfl⟩

theorem find_none {M : List Mk} {s : ByteArray} (h : ∀ j (hj : j < M.length), bs M[j].name ≠ bs s) : findIx M s = none := by
  unfold findIx
  rw [List.findIdx?_eq_none_iff]
  intro g hg
  obtain ⟨j, hj, rfl⟩ := List.getElem_of_mem hg
  simpa using h j hj
theorem find_some {M : List Mk} {s : ByteArray} {i : Nat} (hi : i < M.length) (h : ∀ j (hj : j < M.length), j < i → bs M[j].name ≠ bs s) (he : bs M[i].name = bs s) : findIx M s = some i := by
  unfold findIx
  rw [List.findIdx?_eq_some_iff_getElem]
  exact ⟨hi, by simpa using he, fun j hj => by simpa using h j (by omega) hj⟩

def FindPost (M : List Mk) (v : Value) (s : ByteArray) (w : World) (e : Ending) (w' : World) : Prop :=
  w' = w ∧ ((findIx M s = none ∧ e = .returned (.pointer none)) ∨ ∃ i g c, findIx M s = some i ∧ i < M.length ∧ v = .slice (some ⟨g, 0, none⟩) M.length c ∧ e = .returned (.pointer (some ⟨g, i * 3, none⟩)))

set_option maxRecDepth 100000 in
set_option maxHeartbeats 1000000 in
/-- 'find'. -/
theorem find_any (base P : Nat) (v : Value) (es : List Ent) (M : List Mk) (s : ByteArray) (w : World) (hM : MarksAt w base P v es M) :
    Calls Tryz.prog 79 #[.pointer (some ⟨P, 0, none⟩), .string s] w fun e w' => FindPost M v s w e w' := by
  have hc := hM.box.cell
  have HA := Lib.hid hM.are
  have hMl : M.length = es.length := hM.are.len.symm
  have hfew := hM.few
  obtain ⟨a, c, rfl, hR, q1, q2, q3, q4⟩ := hM.own.re
  clear hM q1 q2 q3
  have HQ := Lib.hid q4
  clear q4
  generalize hm : es.length = m at *
  have HLEN := Lib.hid hm
  have HM := Lib.hid hMl
  rw [hMl] at hfew
  clear hm hMl
  go_enter Tryz.func79, Tryz.ntmps79
  go_wp2
  go_loopg [13] m (fun gg s13 wr => ∃ k : Nat, k ≤ m ∧ m - k ≤ gg ∧ s13 = .int .i64 k ∧ wr = w ∧ Aside (∀ j (hj : j < M.length), j < k → bs M[j].name ≠ bs s))
  case atStart => exact ⟨0, Nat.zero_le _, by omega, rfl, rfl, show Aside _ from fun j _ h => absurd h (Nat.not_lt_zero _)⟩
  case round =>
    obtain ⟨k, hk, hg, rfl, rfl, A⟩ := hrel
    by_cases hlt : k < m
    · have hltz : (k : Int) < (m : Int) := by omega
      have hke : k < es.length := by rw [HLEN.out]; exact hlt
      have hkM : k < M.length := by rw [HM.out]; exact hlt
      obtain ⟨b, off, rfl, hb, hx, _, _⟩ := re_ent (T := TE) rfl rfl hR hke
      have hoff := (HQ.out b off rfl).2.1
      subst hoff
      rw [Nat.zero_add] at hx
      have HNM : Hid (es[k].name = M[k].name) := (HA.out.at_ k hke hkM).name
      have hbq := beq_bs es[k].name s
      generalize es[k].name = x at hx HNM hbq
      by_cases he : bs x = bs s
      · have hqq : (x.toList == s.toList) = true := by rw [hbq, decide_eq_true he]
        have HE : Hid (bs M[k].name = bs s) := by unfold Hid; rw [← HNM.out]; exact he
        clear he hbq
        go_wp2
        go_ret
        exact ⟨rfl, .inr ⟨k, b, c, find_some hkM A.out HE.out, hkM, by rw [HM.out], rfl⟩⟩
      · have hqq : (x.toList == s.toList) = false := by rw [hbq, decide_eq_false he]
        have HE : Hid (bs M[k].name ≠ bs s) := by unfold Hid; rw [← HNM.out]; exact he
        clear he hbq
        go_wp2
        go_roundg (m - (k + 1))
        case measure => omega
        case rel =>
          refine ⟨k + 1, by omega, by omega, by go_num, rfl, show Aside _ from fun j hj h => ?_⟩
          by_cases e : j = k
          · subst e; exact HE.out
          · exact A.out j hj (by omega)
    · have hltz : ¬ (k : Int) < (m : Int) := by omega
      go_wp2
      go_ret
      exact ⟨rfl, .inl ⟨find_none fun j hj => A.out j hj (by rw [HM.out] at hj; omega), rfl⟩⟩
end Go.Proofs.YtddmldfdakmecaaGreatDoor
