/- Walk of the reference Text, for texts of at most 1000000 bytes. -/
import Derived.Test.YtbgkepdnemgkdaaGreatDoorGnWalkL
namespace Go.Proofs.YtbgkepdnemgkdaaGreatDoor
open Go.RowKit Go.Gn

theorem text_snoc (c : UInt8) (l : List Str) (q : Str) : text c (l ++ [q]) = if l = [] then q else text c l ++ c :: q := by
  by_cases h : l = []
  · subst h; rw [if_pos rfl]; rfl
  · rw [if_neg h, text_append c l q [] h]; rfl

theorem text_len_append (c : UInt8) : ∀ (l m : List Str), (text c l).length ≤ (text c (l ++ m)).length
  | [], _ => by simp [text]
  | [p], [] => by simp
  | [p], q :: m => by rw [List.singleton_append, text_cons c p (q :: m) (by simp)]; simp [text]
  | p :: q :: l, m => by
    have := text_len_append c (q :: l) m
    rw [text_cons c p (q :: l) (by simp), List.cons_append, text_cons c p (q :: l ++ m) (by simp)]
    simp only [List.length_append, List.length_cons] at this ⊢
    omega

theorem text_take_le (c : UInt8) (L : List Str) (k : Nat) : (text c (L.take k)).length ≤ (text c L).length := by
  have := text_len_append c (L.take k) (L.drop k)
  rwa [List.take_append_drop] at this

theorem size_of_bs {s : ByteArray} {l : Str} (h : bs s = l) : s.size = l.length := by rw [← h]; simp [bs]

theorem mkS_of_bs {s : ByteArray} {l : Str} (h : bs s = l) : s = mkS l := by rw [← h, mk_bs]

theorem ret_str {a b : ByteArray} (h : a = b) : Ending.returned (.string a) = Ending.returned (.string b) := by rw [h]

set_option maxRecDepth 100000 in
set_option maxHeartbeats 2000000 in
/-- The reference's 'Text'. -/
theorem rtext_any (a : Option Addr) (n cp : Nat) (zs : List ByteArray) (c : UInt8) (w : World) (hn : zs.length = n) (hN : n ≤ 1000000) (hS : SS w a zs) (hlen : (text c (zs.map bs)).length ≤ 1000000) :
    Calls Tryz.prog 23 #[.slice a n cp, .string ⟨#[c]⟩] w fun e w' => e = .returned (.string (mkS (text c (zs.map bs)))) ∧ w' = w := by
  have HN := Lib.hid hn
  clear hn
  have hc1 : (ByteArray.mk #[c]).size = 1 := rfl
  have HC := Lib.hid hc1
  clear hc1
  have HB : Hid (bs (ByteArray.mk #[c]) = [c]) := rfl
  have hcs : (ByteArray.mk #[c]).size ≤ 1 := Nat.le_of_eq HC.out
  generalize (ByteArray.mk #[c]) = cb at *
  go_enter Tryz.func23, Tryz.ntmps23
  go_wp2
  go_loopg [5, 6] n (fun gg s5 s6 wr => ∃ (k : Nat) (tb : ByteArray), k ≤ n ∧ n - k ≤ gg ∧ s6 = .int .i64 k ∧ s5 = .string tb ∧ wr = w ∧ Aside (bs tb = text c ((zs.map bs).take k)))
  case atStart => exact ⟨0, ⟨#[]⟩, Nat.zero_le _, by omega, rfl, rfl, rfl, show Aside _ from rfl⟩
  case round =>
    obtain ⟨k, tb, hk, hg, rfl, rfl, rfl, A⟩ := hrel
    by_cases hlt : k < n
    · have hltz : (k : Int) < (n : Int) := by omega
      have hkz : k < zs.length := by rw [HN.out]; exact hlt
      obtain ⟨b, off, rfl, hb, hc⟩ : ∃ b off, a = some ⟨b, off, none⟩ ∧ b < wr.heap.size ∧ ∀ j x, zs[j]? = some x → wr.cell? ⟨b, off + j, none⟩ = some (.string x) := by
        rcases hS with h | h
        · rw [h] at hkz; exact absurd hkz (Nat.not_lt_zero _)
        · exact h
      have hget : zs[k]? = some zs[k] := List.getElem?_eq_getElem hkz
      have hcell := hc k _ hget
      have HG : Hid ((zs.map bs)[k]? = some (bs zs[k])) := by unfold Hid; rw [List.getElem?_map, hget]; rfl
      clear hc hS hget
      generalize zs[k] = y at hcell HG
      have hstep : text c ((zs.map bs).take (k + 1)) = if k = 0 then bs y else text c ((zs.map bs).take k) ++ c :: bs y := by
        rw [take_at HG.out, text_snoc]
        by_cases h0 : k = 0
        · subst h0; simp
        · have hne : (zs.map bs).take k ≠ [] := by
            intro e; have := congrArg List.length e; rw [List.length_take, List.length_map] at this; simp only [List.length_nil] at this; omega
          rw [if_neg h0, if_neg hne]
      have hle1 := text_take_le c (zs.map bs) k
      have hle2 := text_take_le c (zs.map bs) (k + 1)
      have hsz := size_of_bs A.out
      have hysz : y.size = (bs y).length := by simp [bs]
      by_cases h0 : k = 0
      · rw [if_pos h0] at hstep
        have hl : tb.size + y.size ≤ 9223372036854775807 := by rw [hstep] at hle2; omega
        have HT := Lib.hid hstep
        have hz : ¬ (0 : Int) < (k : Int) := by omega
        have H0 := Lib.hid h0
        clear hstep hle1 hle2 hsz hysz h0
        go_wp2
        go_roundg (n - (k + 1))
        case measure => omega
        case rel =>
          refine ⟨k + 1, _, by omega, by omega, by go_num, rfl, rfl, ?_⟩
          unfold Aside
          rw [bs_append, A.out, HT.out, H0.out]; rfl
      · rw [if_neg h0] at hstep
        have hl : tb.size + 1 + y.size ≤ 9223372036854775807 := by rw [hstep] at hle2; simp at hle2; omega
        have HT := Lib.hid hstep
        have hz : (0 : Int) < (k : Int) := by omega
        have hl1 : tb.size + cb.size ≤ 9223372036854775807 := by omega
        have hl2 : (tb ++ cb).size + y.size ≤ 9223372036854775807 := by rw [ByteArray.size_append]; omega
        clear hstep hle1 hle2 hsz hysz h0
        go_wp2
        go_roundg (n - (k + 1))
        case measure => omega
        case rel =>
          refine ⟨k + 1, _, by omega, by omega, by go_num, rfl, rfl, ?_⟩
          unfold Aside
          rw [bs_append, bs_append, A.out, HT.out, HB.out]; simp
    · have hltz : ¬ (k : Int) < (n : Int) := by omega
      have HK : Hid (k = n) := (by omega : k = n)
      go_wp2
      go_ret
      refine ⟨ret_str (mkS_of_bs ?_), rfl⟩
      rw [A.out, List.take_of_length_le (by rw [List.length_map, HN.out, HK.out]; exact Nat.le_refl _)]

end Go.Proofs.YtbgkepdnemgkdaaGreatDoor
