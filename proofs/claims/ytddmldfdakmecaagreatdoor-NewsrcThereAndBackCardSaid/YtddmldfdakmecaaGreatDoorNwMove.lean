/- The numbers of articles in memory: 32 bytes and a number: 33 cells. The map of the identities that were read: keys of 32 bytes. Walk of slices.Concat at twoU slices of newsrc.Number. Walk of newsrc.Move. -/
import Derived.Test.YtddmldfdakmecaaGreatDoorNwTy
import Derived.Deep.MidRow
import Derived.Laws.Tables
import Derived.Great.BuildSlice
import Derived.Maps.Own
import Derived.Maps.OwnOps
import Derived.Maps.Views
import Derived.DeepKeys4
import Derived.Laws.StructEq
import Derived.Test.YtddmldfdakmecaaGreatDoorNwConcat
import Derived.Test.YtddmldfdakmecaaGreatDoorNwCount
import Derived.Carry
namespace Go.Proofs.YtddmldfdakmecaaGreatDoor
open Go.RowKit Go.Gn Go.El Go.Nw

/-- An identity: 32 bytes. -/
abbrev Idt := { l : List UInt8 // l.length = 32 }
abbrev Num := Idt × Int
def idc (i : Idt) : List Value := i.1.map fun b => .int .u8 b.toNat
def nuc (x : Num) : List Value := idc x.1 ++ [.int .i64 x.2]
theorem idc_length (i : Idt) : (idc i).length = 32 := by unfold idc; rw [List.length_map]; exact i.2
theorem nuc_length (x : Num) : (nuc x).length = 33 := by unfold nuc; rw [List.length_append, idc_length]; rfl
theorem idc_one (i : Idt) : ∀ v ∈ idc i, v.oneCell' = true := fun v hv => by
  obtain ⟨b, _, rfl⟩ := List.mem_map.1 hv; rfl
theorem nuc_one (x : Num) : ∀ v ∈ nuc x, v.oneCell' = true := fun v hv => by
  rcases List.mem_append.1 hv with h | h
  · exact idc_one _ v h
  · obtain rfl := List.mem_singleton.1 h; rfl
def nz : Value := .agg #[.int .u8 0, .int .u8 0, .int .u8 0, .int .u8 0, .int .u8 0, .int .u8 0, .int .u8 0, .int .u8 0, .int .u8 0, .int .u8 0, .int .u8 0, .int .u8 0, .int .u8 0, .int .u8 0, .int .u8 0, .int .u8 0,
  .int .u8 0, .int .u8 0, .int .u8 0, .int .u8 0, .int .u8 0, .int .u8 0, .int .u8 0, .int .u8 0, .int .u8 0, .int .u8 0, .int .u8 0, .int .u8 0, .int .u8 0, .int .u8 0, .int .u8 0, .int .u8 0, .int .i64 0]
/-- []newsrc.Number. -/
def TU : Ty Tryz.prog Num where
  e := 58
  s := 41
  k := 33
  by' := 40
  enc := nuc
  zero := nz
  under := Tryz.underlying41
  info := by kernel_rfl
  len := nuc_length
  one := nuc_one
  zlen := rfl
  kpos := by decide
  small := by decide
/-- []bulletinref46.N. -/
def TV : Ty Tryz.prog Num where
  e := 102
  s := 39
  k := 33
  by' := 40
  enc := nuc
  zero := nz
  under := Tryz.underlying39
  info := by kernel_rfl
  len := nuc_length
  one := nuc_one
  zlen := rfl
  kpos := by decide
  small := by decide

theorem re_num {T : Ty Tryz.prog Num} (hk : T.k = 33) (he : T.enc = nuc) {w : World} {a : Option Addr} {zs : List Num} (h : RE T w a zs) {k : Nat} (hlt : k < zs.length) :
    ∃ b off, a = some ⟨b, off, none⟩ ∧ b < w.heap.size ∧ w.rangeAt b (off + k * 33) (nuc zs[k]) ∧ w.rangeAt b (off + k * 33) (idc zs[k].1) ∧ w.cell? ⟨b, off + k * 33 + 32, none⟩ = some (.int .i64 zs[k].2) := by
  obtain ⟨b, off, ha, hb, hc⟩ := h.some hlt
  rw [hk, he] at hc
  have h1 : w.rangeAt b (off + k * 33) (nuc zs[k]) := fun j v hv => by
    rw [Nat.add_assoc]
    exact hc j v hv
  refine ⟨b, off, ha, hb, h1, fun j v hv => h1 j v ?_, h1 32 _ ?_⟩
  · have hj := (List.getElem?_eq_some_iff.1 hv).1
    unfold nuc
    rw [List.getElem?_append_left hj]
    exact hv
  · unfold nuc
    rw [List.getElem?_append_right (by rw [idc_length]; exact Nat.le_refl _), idc_length]
    rfl

/-- A list of 32 written out. -/
theorem list32 {α : Type} (l : List α) (h : l.length = 32) : ∃ a0 a1 a2 a3 a4 a5 a6 a7 a8 a9 b0 b1 b2 b3 b4 b5 b6 b7 b8 b9 c0 c1 c2 c3 c4 c5 c6 c7 c8 c9 d0 d1, l = [a0, a1, a2, a3, a4, a5, a6, a7, a8, a9, b0, b1, b2, b3, b4, b5, b6, b7, b8, b9, c0, c1, c2, c3, c4, c5, c6, c7, c8, c9, d0, d1] := by
  match l, h with
  | [a0, a1, a2, a3, a4, a5, a6, a7, a8, a9, b0, b1, b2, b3, b4, b5, b6, b7, b8, b9, c0, c1, c2, c3, c4, c5, c6, c7, c8, c9, d0, d1], _ => exact ⟨a0, a1, a2, a3, a4, a5, a6, a7, a8, a9, b0, b1, b2, b3, b4, b5, b6, b7, b8, b9, c0, c1, c2, c3, c4, c5, c6, c7, c8, c9, d0, d1, rfl⟩

set_option maxRecDepth 100000 in
/-- A number put together. -/
theorem built_num (cs : List Value) (hcs : cs.length = 32) (n : Int) : Tryz.prog.built 58 [(0, .agg cs.toArray), (1, .int .i64 n)] = some (cs ++ [Value.int .i64 n]).toArray := by
  obtain ⟨a0, a1, a2, a3, a4, a5, a6, a7, a8, a9, b0, b1, b2, b3, b4, b5, b6, b7, b8, b9, c0, c1, c2, c3, c4, c5, c6, c7, c8, c9, d0, d1, rfl⟩ := list32 cs hcs
  kernel_rfl

set_option maxRecDepth 100000 in
theorem fill_num (cs : List Value) (hcs : cs.length = 32) (v : Value) (hv : v.oneCell' = true) (z : Array Value) (hz : z.size = 33) :
    Instr.fill (fun i => some (i * 33, 33)) z [(0, .agg (cs ++ [v]).toArray)] = some (cs ++ [v]).toArray := by
  have hsz : (cs ++ [v]).toArray.size = 33 := by simp [hcs]
  simp only [Instr.fill, Value.cells, Nat.zero_mul, Nat.zero_add, hsz, hz]
  rw [if_neg (by simp)]
  refine congrArg some ?_
  obtain ⟨zl⟩ := z
  simp only [List.size_toArray] at hz
  have hl : zl.length = 32 + 1 := hz
  obtain ⟨zt, q, rfl⟩ : ∃ zt q, zl = zt ++ [q] := by
    rcases List.eq_nil_or_concat zl with rfl | ⟨t, q, rfl⟩
    · simp at hl
    · exact ⟨t, q, by simp⟩
  have hzt : zt.length = 32 := by simp at hl; exact hl
  obtain ⟨a0, a1, a2, a3, a4, a5, a6, a7, a8, a9, b0, b1, b2, b3, b4, b5, b6, b7, b8, b9, c0, c1, c2, c3, c4, c5, c6, c7, c8, c9, d0, d1, rfl⟩ := list32 cs hcs
  obtain ⟨a0, a1, a2, a3, a4, a5, a6, a7, a8, a9, b0, b1, b2, b3, b4, b5, b6, b7, b8, b9, c0, c1, c2, c3, c4, c5, c6, c7, c8, c9, d0, d1, rfl⟩ := list32 zt hzt
  clear hz hl hzt hcs hsz hv
  show Array.foldl _ _ _ = _
  kernel_rfl

set_option maxRecDepth 100000 in
/-- A slice of one number. -/
theorem run_slice_num (w : World) (cs : List Value) (hcs : cs.length = 32) (n : Int) :
    (Instr.buildSlice 41 1 #[(0, .agg (cs ++ [Value.int .i64 n]).toArray)]).run Tryz.prog w = .ok (.slice (some ⟨w.heap.size, 0, none⟩) 1 1) (w.alloc (.cells (cs ++ [Value.int .i64 n]).toArray 58)) := by
  obtain ⟨i0, hi, hz0, hz1, hz2⟩ := info_some TU
  have hz1' : i0.size = 33 := hz1
  refine run_buildSlice w _ _ 1 _ _ i0 nz (TU).under hi hz0 (by rw [hz1']; decide) (by rw [hz1']; decide) ?_
  rw [hz1']
  exact fill_num cs hcs _ rfl _ (by simp)
end Go.Proofs.YtddmldfdakmecaaGreatDoor

namespace Go.Proofs.YtddmldfdakmecaaGreatDoor
open Go.RowKit Go.Gn Go.El Go.Nw

theorem laidI : laidOutB Tryz.prog = true := by kernel_rfl
/-- A type of identities: an array of 32 bytes. -/
structure IdTy (k : TypeId) : Prop where
  u : Tryz.prog.underlying k = some (.array 32 5)
  c : Tryz.prog.cellsOf k = 32
  kt : Tryz.prog.keyType k = true
  d : Tryz.prog.keyTypeAt 2 k = true
  row : k < Tryz.prog.types.size
theorem idTy : IdTy 56 := ⟨Tryz.underlying56, by kernel_rfl, by kernel_rfl, by kernel_rfl, of_decide_eq_true (by kernel_rfl)⟩
theorem idTyR : IdTy 55 := ⟨Tryz.underlying55, by kernel_rfl, by kernel_rfl, by kernel_rfl, of_decide_eq_true (by kernel_rfl)⟩
theorem IdTy.wide {k : TypeId} (h : IdTy k) : (match Tryz.prog.underlying k with | some (.array _ _) | some (.struct _) => true | _ => false) = true := by rw [h.u]
set_option maxRecDepth 100000 in
theorem IdTy.law {k : TypeId} (h : IdTy k) : Maps.Keyed Tryz.prog k := Maps.Keyed.of_law (deep_law_laid laidI (m := 2) (by omega) h.row h.d h.wide)
theorem idLaw : Maps.Keyed Tryz.prog 56 := idTy.law

theorem wf_u8 (b : UInt8) : (Lit.int .u8 (b.toNat : Int)).wf = true := by
  unfold Lit.wf
  have h := b.toNat_lt
  have e1 : IntKind.min .u8 = 0 := by decide
  have e2 : IntKind.max .u8 = 255 := by decide
  rw [Bool.and_eq_true, decide_eq_true_eq, decide_eq_true_eq, e1, e2]
  omega

theorem mapM_some {α β : Type} {g : α → Option β} : ∀ l : List α, (∀ i ∈ l, ∃ y, g i = some y) → ∃ ys, l.mapM g = some ys
  | [], _ => ⟨[], rfl⟩
  | i :: l, h => by
    obtain ⟨y, hy⟩ := h i (by simp)
    obtain ⟨ys, hys⟩ := mapM_some l fun j hj => h j (List.mem_cons_of_mem _ hj)
    exact ⟨y :: ys, by simp [List.mapM_cons, hy, hys]⟩

theorem keyLits_byte (m : Nat) (b : UInt8) : Tryz.prog.keyLits (m + 1) 5 [.int .u8 b.toNat] = some [.int .u8 b.toNat] := by
  unfold Program.keyLits
  simp [Tryz.underlying5, wf_u8]
theorem cells_byte : Tryz.prog.cellsOf 5 = 1 := by kernel_rfl
theorem keyLits_id {k : TypeId} (h : IdTy k) (m : Nat) (i : Idt) : ∃ ls, Tryz.prog.keyLits (m + 1 + 1) k (idc i) = some ls := by
  unfold Program.keyLits
  simp only [h.u, h.c, cells_byte, idc_length, if_true]
  obtain ⟨ys, hys⟩ := mapM_some (g := fun j => Tryz.prog.keyLits (m + 1) 5 (((idc i).drop (j * 1)).take 1)) (List.range 32) fun j hj => by
    rw [List.mem_range] at hj
    have hl : j < (idc i).length := by rw [idc_length]; exact hj
    have hi : j < i.1.length := by rw [i.2]; exact hj
    have e : ((idc i).drop (j * 1)).take 1 = [Value.int .u8 i.1[j].toNat] := by
      rw [Nat.mul_one, List.drop_eq_getElem_cons hl]
      simp [idc]
    exact ⟨_, by rw [e]; exact keyLits_byte m _⟩
  exact ⟨_, by rw [hys]; rfl⟩
theorem types_size : ∃ m, Tryz.prog.types.size + 1 = m + 1 + 1 := ⟨Tryz.prog.types.size - 1, by have : 1 ≤ Tryz.prog.types.size := of_decide_eq_true (by kernel_rfl); omega⟩
theorem id_formed {k : TypeId} (h : IdTy k) (i : Idt) : (Value.agg (idc i).toArray).formed Tryz.prog k = true := by
  have hc := h.c
  unfold Value.formed
  simp [h.u, hc, idc_length]
set_option maxRecDepth 100000 in
theorem key_id {k : TypeId} (h : IdTy k) (i : Idt) : ∃ l, keyOf Tryz.prog k (.agg (idc i).toArray) = some l := by
  obtain ⟨m, hm⟩ := types_size
  obtain ⟨ls, hls⟩ := keyLits_id h m i
  unfold keyOf
  rw [h.u]
  simp only [h.kt, id_formed h, Bool.and_self, if_true, Value.cells, hm]
  exact ⟨_, by rw [hls]; rfl⟩

/-- An identity as a map's key. -/
noncomputable def idk (i : Idt) : Lit := (keyOf Tryz.prog 56 (.agg (idc i).toArray)).getD (.bool false)
set_option maxRecDepth 100000 in
theorem idk_spec (i : Idt) : keyOf Tryz.prog 56 (.agg (idc i).toArray) = some (idk i) := by
  obtain ⟨l, hl⟩ := key_id idTy i
  unfold idk
  rw [hl]; rfl
theorem idc_inj {i j : Idt} (h : idc i = idc j) : i = j := by
  apply Subtype.ext
  have key : ∀ a b : List UInt8, (a.map fun b => Value.int .u8 (b.toNat : Int)) = b.map (fun b => Value.int .u8 (b.toNat : Int)) → a = b := by
    intro a
    induction a with
    | nil => intro b h; cases b with
      | nil => rfl
      | cons x b => cases h
    | cons x a ih => intro b h; cases b with
      | nil => cases h
      | cons y b =>
        simp only [List.map_cons, List.cons.injEq, Value.int.injEq, true_and] at h
        rw [ih b h.2, show x = y from UInt8.toNat_inj.1 (by omega)]
  exact key _ _ h
set_option maxRecDepth 100000 in
theorem idk_inj {i j : Idt} (h : idk i = idk j) : i = j := by
  have h1 := idk_spec i
  rw [h] at h1
  have := idLaw.inj h1 (idk_spec j)
  injection this with this
  exact idc_inj (by simpa using congrArg Array.toList this)

/-- A map's datum that says yes just at the identities of a list. -/
def Knows (D : DataW Unit) (ks : List Idt) : Prop := Maps.IsMap D ∧ ∀ i, D.atKey (idk i) (.lit (.bool false)) = .lit (.bool (decide (i ∈ ks)))
theorem knows_nil : Knows (.map []) [] := ⟨⟨_, rfl⟩, fun i => by simp [DataW.atKey]⟩
set_option maxRecDepth 100000 in
theorem knows_put {D : DataW Unit} {ks : List Idt} (h : Knows D ks) (i : Idt) : Knows (D.put (idk i) (.lit (.bool true))) (ks ++ [i]) := by
  obtain ⟨⟨es, rfl⟩, h2⟩ := h
  refine ⟨⟨_, rfl⟩, fun j => ?_⟩
  by_cases e : j = i
  · subst e
    rw [Maps.atKey_put_same ⟨_, rfl⟩ (idLaw.key (idk_spec j))]
    simp
  · rw [Maps.atKey_put_other (fun h => e (idk_inj h)), h2]
    congr 2
    simp [e]

theorem plainElem_bool_inv {P : Program} {e : TypeId} (he : P.underlying e = some .bool) {v : Value} {z : DataW Unit × List MemPlace} (h : plainElem P e v = some z) : ∃ x, v = .bool x ∧ z = (.lit (.bool x), []) := by
  unfold plainElem at h
  rw [he] at h
  cases v <;> simp at h
  exact ⟨_, rfl, h.symm⟩

set_option maxRecDepth 100000 in
/-- 'known[x.Id]'. -/
theorem wpList_lookup_id (w : World) {ops : Array Oper} {rest : List Oper} {o : Oper} {a : Act} {Q : Exit → Act → World → Prop}
    (hg : o.guard = none) (m x : Operand) (hop : o.op = Op.lookup 100 m x false) (b n : Nat) (D : DataW Unit) (ks : List Idt)
    (hm : a.eval m = .map (some b)) (hown : w.ownsMap Tryz.prog 56 (plainElem Tryz.prog 4) b n D) (hk : Knows D ks) (i : Idt) (hx : a.eval x = .agg (idc i).toArray)
    (hK : wpList Tryz.prog ops Q rest (a.put o.dst (.bool (decide (i ∈ ks)))) w) :
    wpList Tryz.prog ops Q (o :: rest) a w := by
  refine wpList_plain hg fun K' hK' => ?_
  obtain ⟨v, ps, hrun, hv⟩ := hown.lookup idLaw Tryz.underlying100 (show (zeroValue 4).run Tryz.prog w = .ok (.bool false) w by kernel_rfl) (plainElem_bool Tryz.underlying4 false) (idk_spec i)
  rw [hk.2] at hv
  obtain ⟨x', rfl, hz⟩ := plainElem_bool_inv Tryz.underlying4 hv
  have hz' : decide (i ∈ ks) = x' := by
    have := congrArg Prod.fst hz
    simpa using this
  rw [hz'] at hK
  unfold Oper.wp
  simp [execOp, hop, hm, hx, hrun, Result.andThen]
  exact hK' _ _ hK

set_option maxRecDepth 100000 in
/-- Two identities compared. -/
theorem eql_id {k : TypeId} (h : IdTy k) (p q : Idt) (W : World) : (binOp .eql k (.agg (idc p).toArray) (.agg (idc q).toArray)).run Tryz.prog W = .ok (.bool (decide (p = q))) W := by
  obtain ⟨lp, hp⟩ := key_id h p
  obtain ⟨lq, hq⟩ := key_id h q
  obtain ⟨r, hr, hiff⟩ := run_equal_deep W (m := 2) (by omega) h.d h.wide hp hq
  have hr2 : (Op.equalIn 10000 k (.agg (idc p).toArray) (.agg (idc q).toArray)).run Tryz.prog W = .ok r W := by simpa [Op.equal, Op.maxDepth] using hr
  have e : r = decide (p = q) := by
    rw [Bool.eq_iff_iff, hiff, decide_eq_true_eq]
    constructor
    · intro hl
      subst hl
      have := h.law.inj hp hq
      injection this with this
      exact idc_inj (by simpa using congrArg Array.toList this)
    · intro hl
      subst hl
      rw [hp] at hq
      exact Option.some.inj hq
  rw [run_eql_struct, hr2, e]
  rfl
end Go.Proofs.YtddmldfdakmecaaGreatDoor

namespace Go.Proofs.YtddmldfdakmecaaGreatDoor
open Go.RowKit Go.Gn Go.El Go.Nw

theorem growU_any (n : Nat) (w : World) (hn : n ≤ 1000000) :
    Calls Tryz.prog 100 #[.slice none 0 0, .int .i64 n] w fun e w' => ∃ v, e = .returned v ∧ OE TU w' w.heap.size v [] ∧ Below w.heap.size w w' := by
  by_cases h0 : n = 0
  · subst h0
    exact (Any8.slices_Grow_room Tryz.growN none 0 0 0 w (Nat.le_refl _) (by decide) (by decide) (by decide)).mono fun e w' ⟨he, hw⟩ => ⟨_, he, OE.nil _ _ _, hw ▸ Below.refl _ _⟩
  · obtain ⟨i0, hi, hz0, hz1, hz2⟩ := info_some TU
    have hby : (0 + n) * i0.bytes ≤ 140737488355328 := by
      rw [hz2, Nat.zero_add]
      exact Nat.le_trans (Nat.mul_le_mul hn (TU).small) (by decide)
    refine (Any8.slices_Grow_grow Tryz.growN i0 (TU).zero hi hz0 (by rw [hz1]; exact (TU).kpos) none 0 0 n [] w (Nat.le_refl _) (by omega) hby (by omega) (by simp) (fun _ => rfl) (fun a h => by cases h)).mono fun e w' ⟨he, hw⟩ => ⟨_, he, ?_, ?_⟩
    · rw [hw]
      have h1 := grownCap_ge w (0 + n) 0 (TU).e
      have h2 := grownCap_le_maxLen w (0 + n) 0 (TU).e (by simp only [maxLen]; omega)
      have := own_grown TU w.drew n (grownCap w (0 + n) 0 (TU).e) (by omega) h2
      simp only [Nat.zero_add, Nat.sub_zero] at this ⊢
      exact this
    · rw [hw]
      exact (Go.below_drewN (Below.refl _ w) 1).alloc (Nat.le_refl _) _

def twoU (zs ys : List Num) (k : Nat) : List Num := if k = 0 then [] else if k = 1 then zs else zs ++ ys

set_option maxRecDepth 100000 in
set_option maxHeartbeats 1000000 in
theorem concatU_any (p : Nat) (a : Option Addr) (n c : Nat) (zs : List Num) (a' : Option Addr) (n' c' : Nat) (ys : List Num) (w : World) (hn : zs.length = n) (hn' : ys.length = n') (hN : n ≤ 100000) (hN' : n' ≤ 100000) (hS : RE TU w a zs) (hS' : RE TU w a' ys) (hc0 : a = none → c = 0) (hc0' : a' = none → c' = 0)
    (hp : p < w.heap.size) (h0 : w.cell? ⟨p, 0, none⟩ = some (.slice a n c)) (h1 : w.cell? ⟨p, 1, none⟩ = some (.slice a' n' c')) :
    Calls Tryz.prog 59 #[.slice (some ⟨p, 0, none⟩) 2 2] w fun e w' => ∃ v, e = .returned v ∧ OE TU w' w.heap.size v (zs ++ ys) ∧ Below w.heap.size w w' := by
  have HN := Lib.hid hn
  have HN' := Lib.hid hn'
  clear hn hn'
  go_enter Tryz.func59, Tryz.ntmps59
  go_wp2
  go_loopg [3, 11] 2 (fun gg s3 s11 wr => ∃ (k m : Nat), k ≤ 2 ∧ 2 - k ≤ gg ∧ s11 = .int .i64 k ∧ s3 = .int .i64 m ∧ wr = w ∧ m ≤ 200000 ∧ (k ≤ 1 → m ≤ 100000) ∧ (k = 0 → m = 0))
  case atStart => exact ⟨0, 0, by omega, by omega, rfl, rfl, rfl, by omega, by omega, fun _ => rfl⟩
  case round =>
    obtain ⟨k, m, hk, hg, rfl, rfl, rfl, hm, hm1, hm0⟩ := hrel
    have hcase : k = 0 ∨ k = 1 ∨ k = 2 := by omega
    rcases hcase with rfl | rfl | rfl
    · have hmz := hm0 rfl
      subst hmz
      clear hm hm1 hm0
      go_wp2
      go_roundg 1
      case measure => omega
      case rel => exact ⟨1, n, by omega, by omega, by go_num, by go_num, rfl, by omega, by omega, by omega⟩
    · have hm2 := hm1 (by omega)
      clear hm hm1 hm0
      go_wp2
      go_roundg 0
      case measure => omega
      case rel => exact ⟨2, m + n', by omega, by omega, by go_num, by go_num, rfl, by omega, by omega, by omega⟩
    · clear hm1 hm0
      obtain ⟨wo, rfl⟩ : ∃ wo : World, wo = wr := ⟨_, rfl⟩
      have hG := growU_any m wo (by omega)
      go_wp2_with fail
      refine hG.mono ?_
      clear hG
      rintro e w1 ⟨v1, rfl, hO1, hb1⟩
      have h0' := (hb1.cell (p := ⟨p, 0, none⟩) hp).trans h0
      have h1' := (hb1.cell (p := ⟨p, 1, none⟩) hp).trans h1
      have hSo := hS
      have hSo' := hS'
      clear h0 h1 hS hS'
      go_wp2
      go_loopg [6, 27] 2 (fun gg s6 s27 wq => ∃ (k : Nat) (v : Value), k ≤ 2 ∧ 2 - k ≤ gg ∧ s27 = .int .i64 k ∧ s6 = v ∧ OE TU wq wo.heap.size v (twoU zs ys k) ∧ Below wo.heap.size w1 wq)
      case atStart => exact ⟨0, _, by omega, by omega, rfl, rfl, hO1, Below.refl _ _⟩
      case round =>
        obtain ⟨k, v, hk, hg, rfl, rfl, hO, hB⟩ := hrel
        have hpp := (hB.cell (p := ⟨p, 0, none⟩) hp).trans h0'
        have hpq := (hB.cell (p := ⟨p, 1, none⟩) hp).trans h1'
        have hs0 : wo.heap.size ≤ wr.heap.size := Nat.le_trans hb1.size hB.size
        have hbo : Below wo.heap.size wo wr := hb1.trans hB
        have hcase : k = 0 ∨ k = 1 ∨ k = 2 := by omega
        rcases hcase with rfl | rfl | rfl
        · go_wp2_with (at_builtin; go_loud (refine El.app TU (base := wo.heap.size) hO (hSo.below hbo) HN.out hc0 (by simp [twoU]; omega) hs0 _ _ rfl rfl rfl rfl ?_); intro v2 w2 hO2 hG2)
          go_roundg 1
          case measure => omega
          case rel => exact ⟨1, v2, by omega, by omega, by go_num, rfl, hO2, hB.grown hG2 hs0 (fun q hq => (World.ownsRow.lt hO q hq).1)⟩
        · go_wp2_with (at_builtin; go_loud (refine El.app TU (base := wo.heap.size) hO (hSo'.below hbo) HN'.out hc0' (by simp [twoU, HN.out]; omega) hs0 _ _ rfl rfl rfl rfl ?_); intro v2 w2 hO2 hG2)
          go_roundg 0
          case measure => omega
          case rel => exact ⟨2, v2, by omega, by omega, by go_num, rfl, hO2, hB.grown hG2 hs0 (fun q hq => (World.ownsRow.lt hO q hq).1)⟩
        · go_wp2
          go_ret
          exact ⟨_, rfl, hO, hbo⟩
end Go.Proofs.YtddmldfdakmecaaGreatDoor

namespace Go.Proofs.YtddmldfdakmecaaGreatDoor
open Go.RowKit Go.Gn Go.El Go.Nw

/-- The identities that were read; the numbers that they have there. -/
def known (X : List Rg) (l : List Num) : List Idt := (l.filter fun q => memB q.2 X).map (·.1)
def moved (ks : List Idt) (l : List Num) : List Int := (l.filter fun q => decide (q.1 ∈ ks)).map (·.2)
theorem known_snoc (X : List Rg) (l : List Num) (q : Num) : known X (l ++ [q]) = known X l ++ (if memB q.2 X = true then [q.1] else []) := by
  unfold known
  rw [List.filter_append, List.map_append]
  congr 1
  cases h : memB q.2 X <;> simp [h]
theorem moved_snoc (ks : List Idt) (l : List Num) (q : Num) : moved ks (l ++ [q]) = moved ks l ++ (if q.1 ∈ ks then [q.2] else []) := by
  unfold moved
  rw [List.filter_append, List.map_append]
  congr 1
  by_cases h : q.1 ∈ ks <;> simp [h]
theorem moved_length (ks : List Idt) (l : List Num) : (moved ks l).length ≤ l.length := by
  unfold moved
  rw [List.length_map]
  exact List.length_filter_le _ _
def numsB (l : List Num) : Prop := ∀ q ∈ l, artB q.2 = true

theorem setRow_new (w : World) (old cs : Array Value) (t : TypeId) : (w.alloc (.cells old t)).setRow w.heap.size cs = w.alloc (.cells cs t) := by
  unfold World.setRow World.alloc
  congr 1
  apply Array.ext_getElem?
  intro k
  simp only [Array.getElem?_modify, Array.getElem?_push]
  by_cases h : k = w.heap.size
  · subst h; simp
  · simp [h, Ne.symm h]
theorem ownsMap_below {P : Program} {k : TypeId} {R : Value → Option (DataW Unit × List MemPlace)} {w w' : World} {b n : Nat} {D : DataW Unit} (h : w.ownsMap P k R b n D) (hb : Below w.heap.size w w') : w'.ownsMap P k R b n D :=
  h.kept (row := none) ⟨hb.os, hb.tape, hb.output, hb.size, fun i hi _ => hb.block i hi⟩ (by simp)
theorem three (w : World) (o1 o2 o3 : Obj) : (((w.alloc o1).alloc o2).alloc o3).heap.size = w.heap.size + 3 ∧ Below w.heap.size w (((w.alloc o1).alloc o2).alloc o3) ∧
    (((w.alloc o1).alloc o2).alloc o3).heap[w.heap.size]? = some o1 ∧ (((w.alloc o1).alloc o2).alloc o3).heap[w.heap.size + 1]? = some o2 ∧ (((w.alloc o1).alloc o2).alloc o3).heap[w.heap.size + 2]? = some o3 := by
  refine ⟨by simp, (((Below.refl _ w).alloc (Nat.le_refl _) _).alloc (by simp) _).alloc (by simp; omega) _, ?_, ?_, ?_⟩ <;> (simp only [World.alloc, Array.getElem?_push, Array.size_push]; repeat (first | rfl | rw [if_pos (by omega)] | rw [if_neg (by omega)]))
theorem nuc32 (r : Num) : (nuc r).toArray[32]? = some (.int .i64 r.2) := by
  rw [List.getElem?_toArray]
  unfold nuc
  rw [List.getElem?_append_right (by rw [idc_length]; exact Nat.le_refl _), idc_length]
  rfl
theorem nuc_size (r : Num) : (Tryz.prog.info? 58).map (·.size) = some (nuc r).length := by rw [nuc_length]; kernel_rfl
theorem nuc_size' (r : Num) : (Tryz.prog.info? 58).map (·.size) = some (nuc r).toArray.size := by rw [List.size_toArray, nuc_length]; kernel_rfl
theorem idc_size (i : Idt) : (Tryz.prog.info? 56).map (·.size) = some (idc i).length := by rw [idc_length]; kernel_rfl
theorem nuc_sz (r : Num) : (nuc r).toArray.size = 33 := by rw [List.size_toArray]; exact nuc_length r
theorem nuc_all (r : Num) : (nuc r).toArray.all (·.oneCell') = true := all_oneCell_toArray (nuc_one r)
/-- The identity's cells in a block that holds the whole number. -/
theorem range_new {w : World} {b : Nat} {r : Num} {t : TypeId} {fr : Nat × Nat} (h : w.heap[b]? = some (.cells (nuc r).toArray t fr)) : w.rangeAt b 0 (idc r.1) := fun j v hv => by
  have hj := (List.getElem?_eq_some_iff.1 hv).1
  rw [Nat.zero_add, cell_of_row w b j _ t fr h, List.getElem?_toArray]
  unfold nuc
  rw [List.getElem?_append_left hj]
  exact hv

def MovePost (X : List Rg) (zs ys : List Num) (w : World) (e : Ending) (w' : World) : Prop :=
  Below w.heap.size w w' ∧
  ((numsB (zs ++ ys) ∧ ∃ v, e = .returned (.tuple #[.agg #[v], .int .i64 0]) ∧ OE TR w' w.heap.size v (normal ((moved (known X zs) ys).map dup))) ∨
   (¬ numsB (zs ++ ys) ∧ e = .returned (.tuple #[.agg #[.slice none 0 0], .int .i64 2])))

set_option maxRecDepth 100000 in
set_option maxHeartbeats 4000000 in
/-- 'Move'. -/
theorem move_any (a : Option Addr) (n c : Nat) (X : List Rg) (a1 : Option Addr) (n1 c1 : Nat) (zs : List Num) (a2 : Option Addr) (n2 c2 : Nat) (ys : List Num) (w : World) (hn : X.length = n) (hN : n ≤ 1000) (hR : RE TR w a X) (hX : Norm X)
    (hn1 : zs.length = n1) (hN1 : n1 ≤ 1000) (hR1 : RE TU w a1 zs) (hc1 : a1 = none → c1 = 0) (hn2 : ys.length = n2) (hN2 : n2 ≤ 1000) (hR2 : RE TU w a2 ys) (hc2 : a2 = none → c2 = 0) :
    Calls Tryz.prog 18 #[.agg #[.slice a n c], .slice a1 n1 c1, .slice a2 n2 c2] w fun e w' => MovePost X zs ys w e w' := by
  obtain ⟨f0, f1, e1, e2, e3⟩ := three w (.cells #[.slice a n c] 26) (.cells #[.slice none 0 0] 26) (.cells #[.slice a1 n1 c1, .slice a2 n2 c2] 41)
  have hCC := concatU_any (w.heap.size + 1 + 1) a1 n1 c1 zs a2 n2 c2 ys _ hn1 hn2 (by omega) (by omega) (hR1.below f1) (hR2.below f1) hc1 hc2 (by rw [f0]; omega) (by rw [cell_of_row _ _ 0 _ _ _ e3]; rfl) (by rw [cell_of_row _ _ 1 _ _ _ e3]; rfl)
  have hbs : Box (((w.alloc (.cells #[.slice a n c] 26)).alloc (.cells #[.slice none 0 0] 26)).alloc (.cells #[.slice a1 n1 c1, .slice a2 n2 c2] 41)) w.heap.size 26 (.slice a n c) := e1
  have hbr : Box (((w.alloc (.cells #[.slice a n c] 26)).alloc (.cells #[.slice none 0 0] 26)).alloc (.cells #[.slice a1 n1 c1, .slice a2 n2 c2] 41)) (w.heap.size + 1) 26 (.slice none 0 0) := e2
  have hS0 := hR.below f1
  have hS1 := hR1.below f1
  have hS2 := hR2.below f1
  have HN := Lib.hid hn
  have HN1 := Lib.hid hn1
  have HN2 := Lib.hid hn2
  clear e1 e2 e3 hR hR1 hR2 hc1 hc2 hn hn1 hn2
  go_enter Tryz.func18, Tryz.ntmps18
  go_wp2_with fail
  generalize (((w.alloc (.cells #[.slice a n c] 26)).alloc (.cells #[.slice none 0 0] 26)).alloc (.cells #[.slice a1 n1 c1, .slice a2 n2 c2] 41)) = w3 at *
  have HSZ := Lib.hid f0
  clear f0
  have hls := hbs.lt
  have hlr := hbr.lt
  refine hCC.mono ?_
  clear hCC
  rintro e w4 ⟨v4, rfl, hO4, hB4⟩
  obtain ⟨a4, c4, rfl, hR4, q1, q2, q3, q4⟩ := hO4.re
  clear q1 q2 q3 q4 hO4
  have HL4 : Hid ((zs ++ ys).length ≤ 2000) := by unfold Hid; rw [List.length_append, HN1.out, HN2.out]; omega
  generalize hm : (zs ++ ys).length = m at *
  have HM := Lib.hid hm
  have hm2 : m ≤ 2000 := HL4.out
  clear hm HL4
  have hs4 := hB4.size
  go_wp2
  go_loopg [21] m (fun gg s21 wr => ∃ (k : Nat), k ≤ m ∧ m - k ≤ gg ∧ s21 = .int .i64 k ∧ Below w4.heap.size w4 wr ∧ Aside (numsB ((zs ++ ys).take k)))
  case atStart => exact ⟨0, Nat.zero_le _, by omega, rfl, Below.refl _ _, show Aside _ from fun q hq => by rw [List.take_zero] at hq; cases hq⟩
  case round =>
    obtain ⟨k, hk, hg, rfl, hB, A⟩ := hrel
    by_cases hlt : k < m
    · have hltz : (k : Int) < (m : Int) := by omega
      have hkz : k < (zs ++ ys).length := by rw [HM.out]; exact hlt
      obtain ⟨b, off, rfl, hb, hrg, _, _⟩ := re_num (T := TU) rfl rfl (hR4.below hB) hkz
      have HTK : Hid (numsB ((zs ++ ys).take (k + 1)) ↔ numsB ((zs ++ ys).take k) ∧ artB (zs ++ ys)[k].2 = true) := by
        unfold Hid numsB
        rw [List.take_succ_eq_append_getElem hkz]
        simp only [List.mem_append, List.mem_singleton]
        exact ⟨fun h => ⟨fun q hq => h q (.inl hq), h _ (.inr rfl)⟩, fun h q hq => hq.elim (h.1 q) fun e => e ▸ h.2⟩
      have HBAD : Hid (artB (zs ++ ys)[k].2 = false → ¬ numsB (zs ++ ys)) := fun h hall => by have := hall _ (List.getElem_mem hkz); rw [h] at this; cases this
      generalize (zs ++ ys)[k] = r at hrg HTK HBAD
      have h32 := nuc32 r
      have hart := fun W => article_any r.2 W
      have hsB := hB.size
      cases hv : artB r.2 with
      | true =>
        rw [hv] at hart
        have HOK : Hid (numsB ((zs ++ ys).take (k + 1))) := HTK.out.2 ⟨A.out, hv⟩
        clear hv
        go_wp2_with (first | (refine wpList_load_mid rfl 58 _ rfl b (off + k * 33) rfl (nuc r) _ hrg Tryz.underlying58 rfl (nuc_size r) ?_) | (refine wpList_store_row rfl 58 _ _ rfl wr.heap.size (nuc r).toArray rfl rfl 58 _ (heap_alloc_new wr _) (nuc_size' r) (by rw [nuc_sz]; rfl) (nuc_all r) ?_; rw [setRow_new]))
        refine (hart _).mono ?_
        rintro e w5 ⟨rfl, rfl⟩
        go_wp2
        go_roundg (m - (k + 1))
        case measure => omega
        case rel => exact ⟨k + 1, by omega, by omega, by go_num, hB.alloc hsB _, show Aside _ from HOK.out⟩
      | false =>
        rw [hv] at hart
        have HNO : Hid (¬ numsB (zs ++ ys)) := HBAD.out hv
        clear hv
        go_wp2_with (first | (refine wpList_load_mid rfl 58 _ rfl b (off + k * 33) rfl (nuc r) _ hrg Tryz.underlying58 rfl (nuc_size r) ?_) | (refine wpList_store_row rfl 58 _ _ rfl wr.heap.size (nuc r).toArray rfl rfl 58 _ (heap_alloc_new wr _) (nuc_size' r) (by rw [nuc_sz]; rfl) (nuc_all r) ?_; rw [setRow_new]))
        refine (hart _).mono ?_
        rintro e w5 ⟨rfl, rfl⟩
        have hB5 : Below w3.heap.size w3 (wr.alloc (.cells (nuc r).toArray 58)) := hB4.trans ((hB.alloc hsB _).mono hB4.size)
        have hX5 := hbr.below hB5 hlr
        generalize wr.alloc (.cells (nuc r).toArray 58) = w5 at *
        have hc := hX5.cell
        have hf := hX5.free
        go_wp2
        have hc7 : (w5.setCell ⟨w.heap.size + 1, 0, none⟩ (.slice none 0 0)).cell? ⟨w.heap.size + 1, 0, none⟩ = some (.slice none 0 0) := (hX5.set _).cell
        refine bodyPost_ret (v := .tuple #[.agg #[.slice none 0 0], .int .i64 2]) (by simp [results, Tryz.results18, go_sem, hc7]) rfl ⟨?_, .inr ⟨HNO.out, rfl⟩⟩
        exact (f1.trans (hB5.mono f1.size)).setCell (p := ⟨w.heap.size + 1, 0, none⟩) (by simp) _
    · have hltz : ¬ (k : Int) < (m : Int) := by omega
      have HALL : Hid (numsB (zs ++ ys)) := by
        have := A.out
        rwa [List.take_of_length_le (by rw [HM.out]; omega)] at this
      have hmm := @run_makeMap Tryz.prog
      obtain ⟨wo, rfl⟩ : ∃ wo : World, wo = wr := ⟨_, rfl⟩
      have hB5 : Below w3.heap.size w3 wo := hB4.trans (hB.mono hB4.size)
      have hM0 : (wo.alloc (.map #[] 0)).ownsMap Tryz.prog 56 (plainElem (H := Unit) Tryz.prog 4) wo.heap.size 0 (.map []) := World.ownsMap_made wo _ _ _
      have hB6 := (Below.refl wo.heap.size wo).alloc (Nat.le_refl _) (.map #[] 0)
      have hs5 := hB5.size
      clear A hB hR4 hB4
      go_wp2
      go_loopg [34] n1 (fun gg s34 wx => ∃ (k : Nat) (D : DataW Unit), k ≤ n1 ∧ n1 - k ≤ gg ∧ s34 = .int .i64 k ∧ Below wo.heap.size wo wx ∧ wx.ownsMap Tryz.prog 56 (plainElem Tryz.prog 4) wo.heap.size k D ∧ Aside (Knows D (known X (zs.take k))))
      case atStart => exact ⟨0, .map [], Nat.zero_le _, by omega, rfl, hB6, hM0, show Aside _ from knows_nil⟩
      case round =>
        obtain ⟨k, D, hk, hg, rfl, hB, hown, A⟩ := hrel
        have hB7 : Below w3.heap.size w3 wr := hB5.trans (hB.mono hB5.size)
        have hsB := hB.size
        by_cases hlt : k < n1
        · have hltz : (k : Int) < (n1 : Int) := by omega
          have hkz : k < zs.length := by rw [HN1.out]; exact hlt
          obtain ⟨b, off, rfl, hb, hrg, _, _⟩ := re_num (T := TU) rfl rfl (hS1.below hB7) hkz
          have HTK : Hid (known X (zs.take (k + 1)) = known X (zs.take k) ++ (if memB zs[k].2 X = true then [zs[k].1] else [])) := by
            unfold Hid; rw [List.take_succ_eq_append_getElem hkz, known_snoc]
          generalize zs[k] = r at hrg HTK
          have h32 := nuc32 r
          have hBa : Below wr.heap.size wr (wr.alloc (.cells (nuc r).toArray 58)) := (Below.refl _ _).alloc (Nat.le_refl _) _
          have hB8 := hB7.trans (hBa.mono hB7.size)
          have hcs := (hbs.below hB8 hls).cell
          have hHas := has_any a n c X r.2 _ HN.out (by omega) (hS0.below hB8) hX
          have hea := heap_alloc_new wr (.cells (nuc r).toArray 58)
          have hla : wr.heap.size < (wr.alloc (.cells (nuc r).toArray 58)).heap.size := by simp
          have howna := hown.alloc (.cells (nuc r).toArray 58)
          have hBo := hB.trans (hBa.mono hB.size)
          unfold GivesB at hHas
          go_wp2_with (first | (refine wpList_load_mid rfl 58 _ rfl b (off + k * 33) rfl (nuc r) _ hrg Tryz.underlying58 rfl (nuc_size r) ?_) | (refine wpList_store_row rfl 58 _ _ rfl wr.heap.size (nuc r).toArray rfl rfl 58 _ (heap_alloc_new wr _) (nuc_size' r) (by rw [nuc_sz]; rfl) (nuc_all r) ?_; rw [setRow_new]))
          generalize wr.alloc (.cells (nuc r).toArray 58) = wa at *
          refine hHas.mono ?_
          clear hHas
          rintro e w7 ⟨rfl, hb7⟩
          have hri := range_new ((hb7.block _ hla).trans hea)
          have hown7 := ownsMap_below howna hb7
          have hBo7 := hBo.trans (hb7.mono hBo.size)
          have hsz7 := hBo7.size
          cases hv : memB r.2 X with
          | true =>
            have HKN : Hid (Knows (D.put (idk r.1) (.lit (.bool true))) (known X (zs.take (k + 1)))) := by
              unfold Hid; rw [HTK.out, if_pos hv]; exact knows_put A.out r.1
            clear hv
            go_wp2_with (first | (refine wpList_load_mid rfl 56 _ rfl wr.heap.size 0 rfl (idc r.1) _ hri Tryz.underlying56 rfl (idc_size r.1) ?_) | (at_mapUpdate; refine wpList_mapUpdate_own _ rfl _ _ _ 100 rfl 56 4 idLaw Tryz.underlying100 (plainElem Tryz.prog 4) wo.heap.size k D rfl hown7 (by simp only [maxLen]; omega) _ _ (idk r.1) rfl rfl (idk_spec r.1) (.lit (.bool true)) [] (plainElem_bool Tryz.underlying4 true) ?_; intro w8 hown8 hgrow8))
            go_roundg (n1 - (k + 1))
            case measure => omega
            case rel => exact ⟨k + 1, _, by omega, by omega, by go_num, hBo7.grown hgrow8 hsz7 (fun q hq => by cases hq; exact Nat.le_refl _), hown8, show Aside _ from HKN.out⟩
          | false =>
            have HKN : Hid (Knows D (known X (zs.take (k + 1)))) := by
              unfold Hid; rw [HTK.out, if_neg (by rw [hv]; decide), List.append_nil]; exact A.out
            clear hv
            go_wp2
            go_roundg (n1 - (k + 1))
            case measure => omega
            case rel => exact ⟨k + 1, D, by omega, by omega, by go_num, hBo7, hown7.mono (Nat.le_succ k), show Aside _ from HKN.out⟩
        · have hltz : ¬ (k : Int) < (n1 : Int) := by omega
          have HKD : Hid (Knows D (known X zs)) := by
            have := A.out
            rwa [List.take_of_length_le (by rw [HN1.out]; omega)] at this
          have hkb : k ≤ n1 := hk
          generalize hks : known X zs = ks at *
          have HKS := Lib.hid hks
          clear hks A
          obtain ⟨wp, rfl⟩ : ∃ wp : World, wp = wr := ⟨_, rfl⟩
          have hlo := hown.lt
          go_wp2
          go_loopg [13, 48] n2 (fun gg s13 s48 wx => ∃ (k : Nat), k ≤ n2 ∧ n2 - k ≤ gg ∧ s48 = .int .i64 k ∧ Below wp.heap.size wp wx ∧ OE TN wx wp.heap.size s13 (moved ks (ys.take k)))
          case atStart => exact ⟨0, Nat.zero_le _, by omega, rfl, Below.refl _ _, OE.nil _ _ _⟩
          case round =>
            obtain ⟨i, hi, hgi, rfl, hBi, hOi⟩ := hrel
            have hB9 : Below w3.heap.size w3 wr := hB7.trans (hBi.mono hB7.size)
            have hsi := hBi.size
            by_cases hlt2 : i < n2
            · have hltz2 : (i : Int) < (n2 : Int) := by omega
              have hkz : i < ys.length := by rw [HN2.out]; exact hlt2
              obtain ⟨b, off, rfl, hb, hrg, _, _⟩ := re_num (T := TU) rfl rfl (hS2.below hB9) hkz
              have HTK : Hid (moved ks (ys.take (i + 1)) = moved ks (ys.take i) ++ (if ys[i].1 ∈ ks then [ys[i].2] else [])) := by
                unfold Hid; rw [List.take_succ_eq_append_getElem hkz, moved_snoc]
              have hll : Hid ((moved ks (ys.take i)).length + 1 ≤ 30000000000) := by
                unfold Hid; have := moved_length ks (ys.take i); rw [List.length_take] at this; omega
              generalize ys[i] = r at hrg HTK
              have h32 := nuc32 r
              have hri := range_new (heap_alloc_new wr (.cells (nuc r).toArray 58))
              have howna := (ownsMap_below hown hBi).alloc (.cells (nuc r).toArray 58)
              have hOa := hOi.alloc (.cells (nuc r).toArray 58)
              have hBa := hBi.alloc hsi (.cells (nuc r).toArray 58)
              by_cases hin : r.1 ∈ ks
              · have hdec : decide (r.1 ∈ ks) = true := decide_eq_true hin
                have HMV : Hid (moved ks (ys.take (i + 1)) = moved ks (ys.take i) ++ [r.2]) := by unfold Hid; rw [HTK.out, if_pos hin]
                clear hin
                have hOO := hOa.alloc (.cells #[.int .i64 r.2] 3)
                have hBb := hBa.alloc hBa.size (.cells #[.int .i64 r.2] 3)
                have hNN : RE TN ((wr.alloc (.cells (nuc r).toArray 58)).alloc (.cells #[.int .i64 r.2] 3)) (some ⟨wr.heap.size + 1, 0, none⟩) [r.2] := RE.new TN _ [r.2] #[.int .i64 r.2] 3 (wr.heap.size + 1) (by simp) rfl
                have hbs2 : wp.heap.size ≤ ((wr.alloc (.cells (nuc r).toArray 58)).alloc (.cells #[.int .i64 r.2] 3)).heap.size := by simp; omega
                go_wp2_with (first | (refine wpList_load_mid rfl 58 _ rfl b (off + i * 33) rfl (nuc r) _ hrg Tryz.underlying58 rfl (nuc_size r) ?_) | (refine wpList_store_row rfl 58 _ _ rfl wr.heap.size (nuc r).toArray rfl rfl 58 _ (heap_alloc_new wr _) (nuc_size' r) (by rw [nuc_sz]; rfl) (nuc_all r) ?_; rw [setRow_new]) | (refine wpList_load_mid rfl 56 _ rfl wr.heap.size 0 rfl (idc r.1) _ hri Tryz.underlying56 rfl (idc_size r.1) ?_) | (at_lookup; refine wpList_lookup_id _ rfl _ _ rfl wo.heap.size k D ks rfl howna HKD.out r.1 rfl ?_; rw [hdec]) | (at_builtin; refine El.app TN (m := 1) hOO hNN rfl (by intro e; cases e) hll.out hbs2 _ _ rfl rfl rfl rfl ?_; intro v2 w2 hO2 hG2))
                go_roundg (n2 - (i + 1))
                case measure => omega
                case rel => exact ⟨i + 1, by omega, by omega, by go_num, hBb.grown hG2 hbs2 (fun q hq => (World.ownsRow.lt hOO q hq).1), by rw [HMV.out]; exact hO2⟩
              · have hdec : decide (r.1 ∈ ks) = false := decide_eq_false hin
                have HMV : Hid (moved ks (ys.take (i + 1)) = moved ks (ys.take i)) := by unfold Hid; rw [HTK.out, if_neg hin, List.append_nil]
                clear hin
                go_wp2_with (first | (refine wpList_load_mid rfl 58 _ rfl b (off + i * 33) rfl (nuc r) _ hrg Tryz.underlying58 rfl (nuc_size r) ?_) | (refine wpList_store_row rfl 58 _ _ rfl wr.heap.size (nuc r).toArray rfl rfl 58 _ (heap_alloc_new wr _) (nuc_size' r) (by rw [nuc_sz]; rfl) (nuc_all r) ?_; rw [setRow_new]) | (refine wpList_load_mid rfl 56 _ rfl wr.heap.size 0 rfl (idc r.1) _ hri Tryz.underlying56 rfl (idc_size r.1) ?_) | (at_lookup; refine wpList_lookup_id _ rfl _ _ rfl wo.heap.size k D ks rfl howna HKD.out r.1 rfl ?_; rw [hdec]))
                go_roundg (n2 - (i + 1))
                case measure => omega
                case rel => exact ⟨i + 1, by omega, by omega, by go_num, hBa, by rw [HMV.out]; exact hOa⟩
            · have hltz2 : ¬ (i : Int) < (n2 : Int) := by omega
              rw [List.take_of_length_le (by rw [HN2.out]; omega)] at hOi
              obtain ⟨a5, c5, rfl, hR5, q1, q2, q3, q4⟩ := hOi.re
              clear q1 q2 q3 q4
              have hOf := of_any a5 (moved ks ys).length c5 (moved ks ys) wr rfl (by have := moved_length ks ys; rw [HN2.out] at this; omega) hR5
              have HMD : Hid (∀ q ∈ (moved ks ys).map dup, validB q = true) := fun q hq => by
                obtain ⟨x, hx, rfl⟩ := List.mem_map.1 hq
                unfold moved at hx
                obtain ⟨p, hp, rfl⟩ := List.mem_map.1 hx
                have := artB_iff.1 (HALL.out p (List.mem_append_right _ (List.mem_filter.1 hp).1))
                exact validB_iff.2 ⟨this.1, this.2, Int.le_refl _⟩
              generalize hml : (moved ks ys).length = ml at *
              clear hml
              go_wp2_with fail
              refine hOf.mono ?_
              clear hOf
              rintro e w1 ⟨hb, ⟨hal, v, rfl, hO1⟩ | ⟨hal, rfl⟩⟩
              · have hB10 : Below w3.heap.size w3 w1 := hB9.trans (hb.mono hB9.size)
                have hXr := hbr.below hB10 hlr
                have hc := hXr.cell
                have hf := hXr.free
                obtain ⟨a6, m6, c6, rfl⟩ := hO1.sl
                clear hal
                go_wp2
                have hfar := hO1.far (a := ⟨w.heap.size + 1, 0, none⟩) (hO1.ne hXr (by decide)) (.slice a6 m6 c6)
                have hc7 : (w1.setCell ⟨w.heap.size + 1, 0, none⟩ (.slice a6 m6 c6)).cell? ⟨w.heap.size + 1, 0, none⟩ = some (.slice a6 m6 c6) := (hXr.set _).cell
                refine bodyPost_ret (v := .tuple #[.agg #[.slice a6 m6 c6], .int .i64 0]) (by simp [results, Tryz.results18, go_sem, hc7]) rfl ⟨?_, .inl ⟨HALL.out, _, rfl, by rw [HKS.out]; exact hfar.mono (by have := hB9.size; have := f1.size; omega)⟩⟩
                exact (f1.trans (hB10.mono f1.size)).setCell (p := ⟨w.heap.size + 1, 0, none⟩) (by simp) _
              · exact absurd HMD.out hal
end Go.Proofs.YtddmldfdakmecaaGreatDoor
