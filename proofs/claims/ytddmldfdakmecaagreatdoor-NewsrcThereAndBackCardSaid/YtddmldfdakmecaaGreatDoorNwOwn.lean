/- The law's own: the reference's ranges as ranges of the package. -/
import Derived.Test.YtddmldfdakmecaaGreatDoorNwKnown
namespace Go.Proofs.YtddmldfdakmecaaGreatDoor
open Go.RowKit Go.Gn Go.El Go.Nw

theorem take_snoc {α : Type} (l : List α) (k : Nat) (h : k < l.length) : l.take (k + 1) = l.take k ++ [l[k]] := List.take_succ_eq_append_getElem h

set_option maxRecDepth 100000 in
set_option maxHeartbeats 1000000 in
/-- 'own'. -/
theorem own_any (a : Option Addr) (n c : Nat) (zs : List Rg) (w : World) (hn : zs.length = n) (hN : n ≤ 1000000) (hS : RE TG w a zs) :
    Calls Tryz.prog 13 #[.slice a n c] w fun e w' => Below w.heap.size w w' ∧ ∃ v, e = .returned v ∧ OE TR w' w.heap.size v zs := by
  have HN := Lib.hid hn
  clear hn
  go_enter Tryz.func13, Tryz.ntmps13
  go_wp2
  go_loopg [3, 4] n (fun gg s3 s4 wr => ∃ (k : Nat), k ≤ n ∧ n - k ≤ gg ∧ s4 = .int .i64 k ∧ OE TR wr w.heap.size s3 (zs.take k) ∧ Below w.heap.size w wr)
  case atStart => exact ⟨0, Nat.zero_le _, by omega, rfl, OE.nil _ _ _, Below.refl _ _⟩
  case round =>
    obtain ⟨k, hk, hg, rfl, hO, hB⟩ := hrel
    by_cases hlt : k < n
    · have hltz : (k : Int) < (n : Int) := by omega
      have hkz : k < zs.length := by rw [HN.out]; exact hlt
      obtain ⟨b, off, rfl, hb, hx1, hx2⟩ := RE.rg (T := TG) rfl rfl (hS.below hB) hkz
      have HTK : Hid (zs.take (k + 1) = zs.take k ++ [zs[k]]) := take_snoc zs k hkz
      have hll : (zs.take k).length + 1 ≤ 30000000000 := by rw [List.length_take]; omega
      generalize zs[k] = r at hx1 hx2 HTK
      obtain ⟨x, y⟩ := r
      simp only at hx1 hx2
      have hOO : OE TR (wr.alloc (.cells #[.int .i64 x, .int .i64 y] 92)).drew w.heap.size u3 (zs.take k) := hO.alloc _
      have hNN : RE TR (wr.alloc (.cells #[.int .i64 x, .int .i64 y] 92)).drew (some ⟨wr.heap.size, 0, none⟩) [(x, y)] := RE.new TR wr [(x, y)] #[.int .i64 x, .int .i64 y] 92 wr.heap.size rfl rfl
      have hbs : w.heap.size ≤ (wr.alloc (.cells #[.int .i64 x, .int .i64 y] 92)).drew.heap.size := by show w.heap.size ≤ (wr.alloc _).heap.size; have := hB.size; simp; omega
      have hB' : Below w.heap.size w (wr.alloc (.cells #[.int .i64 x, .int .i64 y] 92)).drew := (hB.alloc hB.size _).drew
      go_wp2
      go_region_law (refine El.step TR (m := 1) hOO hNN rfl (by intro e; cases e) hll hbs (.tmp 11) (.tmp 23) rfl rfl rfl rfl ?_; intro v1 w3 hO3 hG3)
      all_goals
        go_wp2
        go_roundg (n - (k + 1))
        case measure => omega
        case rel => exact ⟨k + 1, by omega, by omega, by go_num, by rw [HTK.out]; exact hO3, hB'.grown hG3 hbs (fun q hq => (World.ownsRow.lt hOO q hq).1)⟩
    · have hltz : ¬ (k : Int) < (n : Int) := by omega
      rw [List.take_of_length_le (by rw [HN.out]; omega)] at hO
      go_wp2
      go_ret
      exact ⟨hB, _, rfl, hO⟩
end Go.Proofs.YtddmldfdakmecaaGreatDoor
