/- Walk of groupname.list, for short lists. -/
import Derived.Test.YtbgkepdnemgkdaaGreatDoorGnWalkG
namespace Go.Proofs.YtbgkepdnemgkdaaGreatDoor
open Go.RowKit Go.Gn

theorem listFrom_stop {seen rest : List Str} {s : Str} (h : check s ≠ 0) : listFrom seen (s :: rest) = check s := by rw [listFrom, if_pos h]
theorem listFrom_twice {seen rest : List Str} {s : Str} (h : check s = 0) (h2 : s ∈ seen) : listFrom seen (s :: rest) = 7 := by rw [listFrom, if_neg (by simp [h]), if_pos h2]
theorem listFrom_on {seen rest : List Str} {s : Str} (h : check s = 0) (h2 : s ∉ seen) : listFrom seen (s :: rest) = listFrom (seen ++ [s]) rest := by rw [listFrom, if_neg (by simp [h]), if_neg h2]

def listV (a : Option Addr) (n c : Nat) (k : Nat) : Value := if k = 0 then .slice a n c else .slice none 0 0
theorem listV_zero (a : Option Addr) (n c : Nat) : listV a n c 0 = .slice a n c := rfl
theorem ret_list {a : Option Addr} {n c k : Nat} {v : Value} {m : Int} (h : v = listV a n c k) (h2 : m = k) : Ending.returned (.tuple #[v, .int .i64 m]) = Ending.returned (.tuple #[listV a n c k, .int .i64 (k : Nat)]) := by rw [h, h2]

set_option maxHeartbeats 2000000 in
/-- 'list'. -/
theorem list_any (a : Option Addr) (n c : Nat) (zs : List ByteArray) (w : World) (hn : zs.length = n) (hc : n ≤ c) (hN : n ≤ 1000000) (hS : SS w a zs) (hsz : ∀ x ∈ zs, x.size ≤ 9223372036854775807) (hM : ML w) (hcc : c ≤ 9223372036854775807) :
    GivesB Tryz.prog 51 #[.slice a n c] (.tuple #[listV a n c (listErr (zs.map bs)), .int .i64 (listErr (zs.map bs) : Nat)]) w := by
  unfold GivesB
  have HN := Lib.hid hn
  clear hn
  by_cases h20 : 20 < n
  · have e : listErr (zs.map bs) = 9 := by unfold listErr; rw [if_pos (by rw [List.length_map, HN.out]; exact h20)]
    have HV : Hid (Value.slice none 0 0 = listV a n c (listErr (zs.map bs)) ∧ (9 : Int) = (listErr (zs.map bs) : Nat)) := by rw [e]; exact ⟨rfl, rfl⟩
    clear e hS hsz hM
    go_enter Tryz.func51, Tryz.ntmps51
    go_wp2
    go_ret2
    exact ⟨ret_list HV.out.1 HV.out.2, Below.refl _ _⟩
  · have HE : Hid (listErr (zs.map bs) = listFrom [] (zs.map bs)) := by unfold Hid listErr; rw [if_neg (by rw [List.length_map, HN.out]; exact h20)]
    go_enter Tryz.func51, Tryz.ntmps51
    go_wp2
    go_loopg [4, 5, 6, 12] n (fun gg _ _ _ s12 wr => ∃ kk : Nat, kk ≤ n ∧ n - kk ≤ gg ∧ s12 = .int .i64 kk ∧ Below w.heap.size w wr ∧ Aside (listFrom [] (zs.map bs) = listFrom ((zs.map bs).take kk) ((zs.map bs).drop kk)))
    case atStart => exact ⟨0, Nat.zero_le _, by omega, rfl, Below.refl _ _, show Aside _ from rfl⟩
    case round =>
      obtain ⟨kk, hkk, hg, rfl, hB, A⟩ := hrel
      by_cases hlt : kk < n
      · have hltz : (kk : Int) < (n : Int) := by omega
        have hkz : kk < zs.length := by rw [HN.out]; exact hlt
        obtain ⟨b, off, rfl, hb, hcl⟩ : ∃ b off, a = some ⟨b, off, none⟩ ∧ b < w.heap.size ∧ ∀ j x, zs[j]? = some x → w.cell? ⟨b, off + j, none⟩ = some (.string x) := by
          rcases hS with h | h
          · rw [h] at hkz; exact absurd hkz (Nat.not_lt_zero _)
          · exact h
        have hget : zs[kk]? = some zs[kk] := List.getElem?_eq_getElem hkz
        have hcell := (hB.cell (p := ⟨b, off + kk, none⟩) hb).trans (hcl kk _ hget)
        have hy := hsz _ (List.getElem_mem hkz)
        have HG : Hid ((zs.map bs)[kk]? = some (bs zs[kk])) := by unfold Hid; rw [List.getElem?_map, hget]; rfl
        clear hcl hget hsz
        have hT : (zs.take kk).length = kk := by rw [List.length_take]; omega
        have hmt : (zs.take kk).map bs = (zs.map bs).take kk := by rw [List.map_take]
        generalize zs[kk] = y at hcell HG hy
        have hK := fun (W : World) (hb : Below w.heap.size w W) => check_any y W hy (hM.below hb)
        have hcon := fun (W : World) (hb : Below w.heap.size w W) => contains_any (some ⟨b, off, none⟩) kk c (zs.take kk) y W hT ((hS.below hb).take kk) (by omega)
        rw [hmt] at hcon
        unfold GivesB at hK
        have HS := Lib.hid hS
        clear hS hT hmt
        by_cases hq : check (bs y) = 0
        · have HQ := Lib.hid hq
          rw [hq] at hK
          clear hq
          by_cases hin : bs y ∈ (zs.map bs).take kk
          · have HI := Lib.hid hin
            rw [decide_eq_true hin] at hcon
            clear hin
            go_wp2_with (first
              | (go_at_call 19; refine (hK _ hB).mono ?_; rintro e w' ⟨rfl, hb1⟩; have hb2 := below_then' hB hb1)
              | (go_at_call 74; refine (hcon _ hb2).mono ?_; rintro e w'' ⟨rfl, rfl⟩))
            go_ret2
            have e : listErr (zs.map bs) = 7 := by rw [HE.out, A.out, drop_at HG.out, listFrom_twice HQ.out HI.out]
            exact ⟨ret_list (by rw [e]; rfl) (by rw [e]; rfl), hb2⟩
          · have HI := Lib.hid hin
            rw [decide_eq_false hin] at hcon
            clear hin
            go_wp2_with (first
              | (go_at_call 19; refine (hK _ hB).mono ?_; rintro e w' ⟨rfl, hb1⟩; have hb2 := below_then' hB hb1)
              | (go_at_call 74; refine (hcon _ hb2).mono ?_; rintro e w'' ⟨rfl, rfl⟩))
            go_roundg (n - (kk + 1))
            case measure => omega
            case rel =>
              exact ⟨kk + 1, by omega, by omega, by go_num, hb2, by unfold Aside; rw [A.out, drop_at HG.out, listFrom_on HQ.out HI.out, take_at HG.out]⟩
        · have HQ := Lib.hid hq
          have e : listErr (zs.map bs) = check (bs y) := by rw [HE.out, A.out, drop_at HG.out, listFrom_stop HQ.out]
          have HV : Hid (Value.slice none 0 0 = listV (some ⟨b, off, none⟩) n c (listErr (zs.map bs)) ∧ ((check (bs y) : Nat) : Int) = (listErr (zs.map bs) : Nat)) := by
            rw [e]; exact ⟨by rw [listV, if_neg hq], rfl⟩
          clear e
          generalize check (bs y) = k at hq hK HV
          have hk : ((k : Int) != 0) = true := by simp; omega
          clear hq HQ HG
          go_wp2_with (go_at_call 19; refine (hK _ hB).mono ?_; rintro e w' ⟨rfl, hb1⟩; have hb2 := below_then' hB hb1)
          go_ret2
          exact ⟨ret_list HV.out.1 HV.out.2, hb2⟩
      · have hltz : ¬ (kk : Int) < (n : Int) := by omega
        have HKK : Hid (kk = n) := (by omega : kk = n)
        go_wp2
        go_ret2
        have e : listErr (zs.map bs) = 0 := by
          rw [HE.out, A.out, List.drop_of_length_le (by rw [List.length_map, HN.out]; omega)]; rfl
        exact ⟨ret_list (by rw [e]; rfl) (by rw [e]; rfl), hB⟩

end Go.Proofs.YtbgkepdnemgkdaaGreatDoor
