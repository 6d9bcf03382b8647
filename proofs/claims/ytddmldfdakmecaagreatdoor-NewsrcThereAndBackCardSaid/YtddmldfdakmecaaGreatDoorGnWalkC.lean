/- slices.ContainsFunc over strings with a predicate that writes below nothing. -/
import Derived.Test.YtddmldfdakmecaaGreatDoorGnWalkB
import Derived.Deep.LoopGhost
namespace Go.Proofs.YtddmldfdakmecaaGreatDoor
open Go.RowKit Go.Gn

/-- A slice's elements as strings, wherever it lies. -/
def SS (w : World) (a : Option Addr) (zs : List ByteArray) : Prop :=
  zs = [] ∨ ∃ b off, a = some ⟨b, off, none⟩ ∧ b < w.heap.size ∧ ∀ j x, zs[j]? = some x → w.cell? ⟨b, off + j, none⟩ = some (.string x)

theorem SS.below {w w' : World} {a : Option Addr} {zs : List ByteArray} (h : SS w a zs) (hb : Below w.heap.size w w') : SS w' a zs := by
  rcases h with h | ⟨b, off, ha, hlt, hc⟩
  · exact .inl h
  · exact .inr ⟨b, off, ha, Nat.lt_of_lt_of_le hlt hb.size, fun j x hx => (hb.cell (p := ⟨b, off + j, none⟩) hlt).trans (hc j x hx)⟩

/-- What a call yields that lays blocks and turns nothing that lay. -/
def GivesB (P : Program) (g : Nat) (args : Array Value) (v : Value) (w : World) : Prop :=
  Calls P g args w fun e w' => e = .returned v ∧ Below w.heap.size w w'

def IdxPost (p : ByteArray → Bool) (zs : List ByteArray) (w : World) (e : Ending) (w' : World) : Prop :=
  (∃ i : Int, e = .returned (.int .i64 i) ∧ decide (0 ≤ i) = zs.any p) ∧ Below w.heap.size w w'

theorem below_then' {w w1 w2 : World} (h : Below w.heap.size w w1) (k : Below w1.heap.size w1 w2) : Below w.heap.size w w2 := h.trans (k.mono h.size)

set_option maxHeartbeats 1000000 in
theorem indexFunc_below (p : ByteArray → Bool) (g : Nat) (lb : Array Value) (eg : ∀ args w, (callFunc g args).run Tryz.prog w = .ok (.enter g args) w) (a : Option Addr) (n c : Nat) (zs : List ByteArray) (w : World)
    (hn : zs.length = n) (hbig : n ≤ 9223372036854775807) (hS : SS w a zs) (hp : ∀ W x, Below w.heap.size w W → GivesB Tryz.prog g (#[.string x] ++ lb) (.bool (p x)) W) :
    Calls Tryz.prog 138 #[.slice a n c, .func (.func g) #[] lb] w fun e w' => IdxPost p zs w e w' := by
  have HN := Lib.hid hn
  clear hn
  go_enter Tryz.func138, Tryz.ntmps138
  go_wp2
  go_loopg [5, 8] n (fun gg _ s8 wr => ∃ kk : Nat, kk ≤ n ∧ n - kk ≤ gg ∧ s8 = .int .i64 kk ∧ Below w.heap.size w wr ∧ Aside (∀ j x, j < kk → zs[j]? = some x → p x = false))
  case atStart => exact ⟨0, Nat.zero_le _, by omega, rfl, Below.refl _ _, fun j x hj => absurd hj (Nat.not_lt_zero _)⟩
  case round =>
    obtain ⟨kk, hkk, hg, rfl, hB, A⟩ := hrel
    by_cases hlt : kk < n
    · have hltz : (kk : Int) < (n : Int) := by omega
      have hkz : kk < zs.length := by rw [HN.out]; exact hlt
      obtain ⟨b, off, rfl, hb, hc⟩ : ∃ b off, a = some ⟨b, off, none⟩ ∧ b < w.heap.size ∧ ∀ j x, zs[j]? = some x → w.cell? ⟨b, off + j, none⟩ = some (.string x) := by
        rcases hS with h | h
        · rw [h] at hkz; exact absurd hkz (Nat.not_lt_zero _)
        · exact h
      have hget : zs[kk]? = some zs[kk] := List.getElem?_eq_getElem hkz
      have hcell := (hB.cell (p := ⟨b, off + kk, none⟩) hb).trans (hc kk _ hget)
      have HG := Lib.hid hget
      clear hc hS hget
      generalize zs[kk] = y at hcell HG
      have hcall := hp _ y hB
      unfold GivesB at hcall
      cases hq : p y with
      | true =>
        rw [hq] at hcall
        go_wp2_with (go_at_fn g; refine hcall.mono ?_; rintro e w' ⟨rfl, hb'⟩)
        go_ret
        refine ⟨⟨kk, rfl, ?_⟩, below_then' hB hb'⟩
        rw [List.any_eq_true.2 ⟨y, List.mem_of_getElem? HG.out, hq⟩]
        simp
      | false =>
        rw [hq] at hcall
        go_wp2_with (go_at_fn g; refine hcall.mono ?_; rintro e w' ⟨rfl, hb'⟩)
        go_roundg (n - (kk + 1))
        case measure => omega
        case rel =>
          refine ⟨kk + 1, by omega, by omega, by go_num, below_then' hB hb', (show Aside _ from fun j x hj hx => ?_)⟩
          by_cases e : j = kk
          · subst e
            rw [HG.out] at hx
            injection hx with hx
            rw [← hx]; exact hq
          · exact A.out j x (by omega) hx
    · have hltz : ¬ (kk : Int) < (n : Int) := by omega
      go_wp2
      go_ret
      refine ⟨⟨-1, rfl, ?_⟩, hB⟩
      have : zs.any p = false := by
        rw [List.any_eq_false]
        intro x hx
        obtain ⟨j, hj⟩ := List.getElem?_of_mem hx
        have hj' : j < zs.length := (List.getElem?_eq_some_iff.1 hj).1
        rw [HN.out] at hj'
        rw [A.out j x (by omega) hj]; simp
      rw [this]; rfl

set_option maxHeartbeats 1000000 in
theorem containsFunc_below (p : ByteArray → Bool) (g : Nat) (lb : Array Value) (eg : ∀ args w, (callFunc g args).run Tryz.prog w = .ok (.enter g args) w) (a : Option Addr) (n c : Nat) (zs : List ByteArray) (w : World)
    (hn : zs.length = n) (hbig : n ≤ 9223372036854775807) (hS : SS w a zs) (hp : ∀ W x, Below w.heap.size w W → GivesB Tryz.prog g (#[.string x] ++ lb) (.bool (p x)) W) :
    GivesB Tryz.prog 110 #[.slice a n c, .func (.func g) #[] lb] (.bool (zs.any p)) w := by
  have hC := indexFunc_below p g lb eg a n c zs w hn hbig hS hp
  clear hp hn hS
  unfold GivesB
  go_enter Tryz.func110, Tryz.ntmps110
  go_wp2_with (go_at_call 138; refine hC.mono ?_; rintro e w' ⟨⟨i, rfl, hi⟩, hb⟩; have HI := Lib.hid hi; clear hi)
  go_ret
  exact ⟨ret_bool HI.out, hb⟩

end Go.Proofs.YtddmldfdakmecaaGreatDoor
