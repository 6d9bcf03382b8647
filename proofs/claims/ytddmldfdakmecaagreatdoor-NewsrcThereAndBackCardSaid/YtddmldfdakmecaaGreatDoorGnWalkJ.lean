/- Walk of the reference Parts; append to a slice of strings of the call itself. -/
import Derived.Test.YtddmldfdakmecaaGreatDoorGnBase
namespace Go.Proofs.YtddmldfdakmecaaGreatDoor
open Go.RowKit Go.Gn

/-- A slice of strings of the call's own. -/
def OwnS (w : World) (base : Nat) (v : Value) (xs : List ByteArray) : Prop := w.ownsRow base 9 1 v xs.length (xs.map Value.string)

theorem infoStr : (Tryz.prog.info? 9).map (fun i => (i.zero, i.size, i.bytes)) = some (some (.string ByteArray.empty), 1, 16) := by kernel_rfl

theorem OwnS.nil (w : World) (base : Nat) : OwnS w base (.slice none 0 0) [] := World.ownsRow_nil w base _ _
theorem OwnS.below {w w' : World} {base : Nat} {v : Value} {xs : List ByteArray} (h : OwnS w base v xs) (hb : Below w.heap.size w w') : OwnS w' base v xs :=
  World.ownsRow.kept (row := none) h ⟨hb.os, hb.tape, hb.output, hb.size, fun i hi _ => hb.block i hi⟩ (by cases v.ownBlock <;> simp)

theorem add_plain (g j : Nat) : (⟨g, 0, none⟩ : Addr).add j = ⟨g, j, none⟩ := by unfold Addr.add; split <;> simp_all

theorem OwnS.ss {w : World} {base : Nat} {v : Value} {xs : List ByteArray} (h : OwnS w base v xs) : ∃ a c, v = .slice a xs.length c ∧ SS w a xs ∧ xs.length ≤ c ∧ c ≤ maxLen := by
  have h' := h
  rcases h.2 with ⟨rfl, h0⟩ | ⟨g, cap, cur, rfl, hb, hg, hle, hcap, _⟩
  · have : xs = [] := List.eq_nil_of_length_eq_zero h0
    subst this
    exact ⟨none, 0, rfl, .inl rfl, Nat.zero_le _, Nat.zero_le _⟩
  · refine ⟨_, cap, rfl, .inr ⟨g, 0, rfl, (Array.getElem?_eq_some_iff.1 hg).1, fun j x hx => ?_⟩, hle, hcap⟩
    have := World.ownsRow.cells h' (g := g) rfl j (.string x) (by rw [List.getElem?_map, hx]; rfl)
    rwa [add_plain, ← Nat.zero_add j] at this

/-- append(v, y). -/
theorem app_str {ops : Array Oper} {rest : List Oper} {o : Oper} {a : Act} {Q : Exit → Act → World → Prop} {w0 W : World} {base : Nat} {v : Value} {xs : List ByteArray} (HO : OwnS W base v xs) (HB : Below base w0 W) (hbase : base ≤ W.heap.size) (hl : xs.length + 1 ≤ 8000000000000)
    (y : ByteArray) (s x : Operand) (hgd : o.guard = none)
    (ho : o.op = .call { callee := .builtin .append, args := #[s, x], argTypes := #[74, 74] })
    (hs : a.eval s = v) (hx : a.eval x = .slice (some ⟨W.heap.size, 0, none⟩) 1 1)
    (h : ∀ v1 w1, OwnS w1 base v1 (xs ++ [y]) → Below base w0 w1 → wpList Tryz.prog ops Q rest (a.put o.dst v1) w1) :
    wpList Tryz.prog ops Q (o :: rest) a (W.alloc (.cells #[.string y] 9)) := by
  obtain ⟨i0, hi, hz0, hz1, hz2⟩ := info_parts infoStr
  refine wpList_append_own (W.alloc (.cells #[.string y] 9)) hgd s x 74 ho base 9 i0 (.string ByteArray.empty) 1 16 Tryz.underlying74 hi hz0 hz1 hz2 rfl (by decide) v xs.length (xs.map Value.string) hs (World.ownsRow.alloc HO _) ⟨W.heap.size, 0, none⟩ 1 1 [.string y] hx rfl
    (fun j u hu => ?_) (by simp [Value.oneCell']) (by simp only [maxLen]; omega) (by omega) (by simp; omega) ?_
  · rw [add_plain]
    simp only [World.cell?, heap_alloc_new]
    simpa using hu
  · intro v1 w1 hown hg _
    refine h v1 w1 (by unfold OwnS; simpa using hown) ((HB.alloc hbase _).grown hg (by simp; omega) (fun k hk => ?_))
    exact (HO.lt k hk).1

theorem byte_eq {a c : UInt8} (h : ((a.toNat : Int) == (c.toNat : Int)) = true) : a = c := by
  have : a.toNat = c.toNat := by have := beq_iff_eq.1 h; omega
  exact UInt8.toNat_inj.1 this
theorem byte_ne {a c : UInt8} (h : ((a.toNat : Int) == (c.toNat : Int)) = false) : a ≠ c := by
  intro e; subst e; simp at h
theorem drop_bs (s : ByteArray) (k : Nat) (h : k < s.size) : (bs s).drop k = s[k] :: (bs s).drop (k + 1) := by
  have hl : k < (bs s).length := by simpa [bs] using h
  rw [List.drop_eq_getElem_cons hl]
  simp [bs]; rfl
theorem bs_append (a b : ByteArray) : bs (a ++ b) = bs a ++ bs b := by simp [bs]
theorem bs_extract1 (s : ByteArray) (k : Nat) (h : k < s.size) : bs (s.extract k (k + 1)) = [s[k]] := by
  unfold bs
  rw [Lib.extract_data, show k + 1 - k = 1 by omega]
  have := drop_bs s k h
  unfold bs at this
  rw [this]; rfl
theorem size_extract1 (s : ByteArray) (k : Nat) (h : k < s.size) : (s.extract k (k + 1)).size = 1 := by
  rw [ByteArray.size_extract]; omega

def PartsPost (c : UInt8) (s : ByteArray) (w : World) (e : Ending) (w' : World) : Prop :=
  ∃ (v : Value) (l : List ByteArray), l.map bs = parts c (bs s) ∧ e = .returned v ∧ OwnS w' w.heap.size v l ∧ Below w.heap.size w w'

set_option maxRecDepth 100000 in
set_option maxHeartbeats 400000 in
/-- The reference's 'Parts'. -/
theorem rparts_any (s : ByteArray) (c : UInt8) (w : World) (hs : s.size ≤ 1000000) :
    Calls Tryz.prog 120 #[.string s, .int .u8 (c.toNat : Int)] w fun e w' => PartsPost c s w e w' := by
  go_enter Tryz.func120, Tryz.ntmps120
  go_wp2
  go_loopg [5, 6, 7] s.size (fun gg s5 s6 s7 wr => ∃ (k : Nat) (out : List ByteArray) (pb : ByteArray), k ≤ s.size ∧ s.size - k ≤ gg ∧ s7 = .int .i64 k ∧ s6 = .string pb ∧ OwnS wr w.heap.size s5 out ∧ Below w.heap.size w wr ∧ out.length ≤ k ∧ pb.size ≤ k ∧ Aside (parts c (bs s) = out.map bs ++ glue (bs pb) (parts c ((bs s).drop k))))
  case atStart => exact ⟨0, [], ⟨#[]⟩, Nat.zero_le _, by omega, rfl, rfl, OwnS.nil _ _, Below.refl _ _, Nat.le_refl _, Nat.le_refl _, by unfold Aside; exact (glue_nil _ (parts_ne_nil _ _)).symm⟩
  case round =>
    obtain ⟨k, out, pb, hk, hg, rfl, rfl, hO, hB, hol, hpl, A⟩ := hrel
    by_cases hlt : k < s.size
    · have hltz : (k : Int) < (s.size : Int) := by omega
      go_wp2_with (at_builtin; go_loud (refine app_str hO hB hB.size (by omega) pb _ _ rfl rfl rfl rfl ?_); intro v1 w1 hO1 hB1)
      · have hq : ((s[k].toNat : Int) == (c.toNat : Int)) = true := by assumption
        go_roundg (s.size - (k + 1))
        case measure => omega
        case rel =>
          refine ⟨k + 1, out ++ [pb], ⟨#[]⟩, by omega, by omega, by go_num, rfl, hO1, hB1, by simp; omega, Nat.zero_le _, ?_⟩
          unfold Aside
          rw [A.out, drop_bs s k hlt, byte_eq hq, parts_sep_step, List.map_append]; rfl
      · have hq : ((s[k].toNat : Int) == (c.toNat : Int)) = false := by assumption
        go_roundg (s.size - (k + 1))
        case measure => omega
        case rel =>
          have h1 := size_extract1 s k hlt
          refine ⟨k + 1, out, _, by omega, by omega, by go_num, rfl, hO, hB, by omega, ?_, ?_⟩
          · rw [ByteArray.size_append]; omega
          · unfold Aside
            rw [A.out, drop_bs s k hlt, parts_char_step c _ _ _ _ (byte_ne hq), bs_append, bs_extract1 s k hlt]
    · have hltz : ¬ (k : Int) < (s.size : Int) := by omega
      have HK : Hid (k = s.size) := (by omega : k = s.size)
      go_wp2_with (at_builtin; refine app_str hO hB hB.size (by omega) pb _ _ rfl rfl rfl rfl ?_; intro v1 w1 hO1 hB1)
      go_ret
      refine ⟨_, out ++ [pb], ?_, rfl, hO1, hB1⟩
      rw [A.out, List.drop_of_length_le (by simp [bs, HK.out]), parts_end, List.map_append]; rfl

end Go.Proofs.YtddmldfdakmecaaGreatDoor
