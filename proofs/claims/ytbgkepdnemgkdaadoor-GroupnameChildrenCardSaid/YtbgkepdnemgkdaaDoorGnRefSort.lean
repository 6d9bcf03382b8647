/- Walk of the reference Sort, for lists of at most 4096 strings. -/
import Derived.Test.YtbgkepdnemgkdaaDoorGnRefInsert
namespace Go.Proofs.YtbgkepdnemgkdaaDoor
open Go.RowKit Go.Gn

def RSortPost (L : List Str) (w : World) (e : Ending) (w' : World) : Prop :=
  Below w.heap.size w w' ∧
  ((sortErr L ≠ 0 ∧ e = .returned (.tuple #[.slice none 0 0, .int .i64 (sortErr L : Nat)])) ∨
   (sortErr L = 0 ∧ ∃ (a : Option Addr) (c : Nat) (ys : List ByteArray), e = .returned (.tuple #[.slice a ys.length c, .int .i64 0]) ∧ ys.map bs = sortU cmp L ∧ SS w' a ys ∧ ys.length ≤ c))

theorem foldl_take {L : List Str} {k : Nat} {s : Str} (h : L[k]? = some s) : sortU cmp (L.take (k + 1)) = ins cmp (sortU cmp (L.take k)) s := by
  rw [take_at h]; unfold sortU; rw [List.foldl_append]; rfl

set_option maxRecDepth 100000 in
set_option maxHeartbeats 2000000 in
theorem rsort_any (a : Option Addr) (n c : Nat) (zs : List ByteArray) (w : World) (hn : zs.length = n) (hN : n ≤ 4096) (hS : SS w a zs) (hsz : ∀ x ∈ zs, x.size ≤ 1000) :
    Calls Tryd.prog 12 #[.slice a n c] w fun e w' => RSortPost (zs.map bs) w e w' := by
  have HN := Lib.hid hn
  have HSZ := Lib.hid hsz
  clear hn hsz
  go_enter Tryd.func12, Tryd.ntmps12
  go_wp2
  go_loopg [4, 5] n (fun gg s4 s5 wr => ∃ (k : Nat) (ao : Option Addr) (co : Nat) (ys : List ByteArray), k ≤ n ∧ n - k ≤ gg ∧ s5 = .int .i64 k ∧ s4 = .slice ao ys.length co ∧ SS wr ao ys ∧ ys.length ≤ co ∧ (ao = none → co = 0) ∧ co ≤ 9223372036854775807 ∧ ys.length ≤ k ∧ Below w.heap.size w wr ∧ Aside (ys.map bs = sortU cmp ((zs.map bs).take k) ∧ sortErr (zs.map bs) = sortErr ((zs.map bs).drop k) ∧ ∀ y ∈ ys, y.size ≤ 1000))
  case atStart => exact ⟨0, none, 0, [], Nat.zero_le _, by omega, rfl, rfl, .inl rfl, Nat.le_refl _, fun _ => rfl, Nat.zero_le _, Nat.le_refl _, Below.refl _ _, show Aside _ from ⟨rfl, rfl, by simp⟩⟩
  case round =>
    obtain ⟨k, ao, co, ys, hk, hg, rfl, rfl, hO, hco, hno, hcm, hyk, hB, A⟩ := hrel
    by_cases hlt : k < n
    · have hltz : (k : Int) < (n : Int) := by omega
      have hkz : k < zs.length := by rw [HN.out]; exact hlt
      have hx := HSZ.out _ (List.getElem_mem hkz)
      have HG : Hid ((zs.map bs)[k]? = some (bs zs[k])) := get_bs hkz
      obtain ⟨b, off, rfl, hb, hcell0⟩ := hS.some hkz
      have HC0 := Lib.hid hcell0
      have hcell := (hB.cell (p := ⟨b, off + k, none⟩) hb).trans hcell0
      clear hcell0
      generalize zs[k] = x at hcell HG hx HC0
      have hK := rcheck_any x wr (by omega)
      unfold GivesB at hK
      have hI := fun (W : World) (hb : Below wr.heap.size wr W) => rinsert_any ao ys.length co ys x W rfl hco hcm (by omega) (hO.below hb) hno (fun y hy => A.out.2.2 y hy) hx
      by_cases hq : check (bs x) = 0
      · have HQ := Lib.hid hq
        rw [hq] at hK
        clear hq
        go_wp2_with fail
        refine hK.mono ?_
        rintro e w2 ⟨rfl, hb2⟩
        have hcell2 := (hb2.cell (p := ⟨b, off + k, none⟩) (Nat.lt_of_lt_of_le hb hB.size)).trans hcell
        clear hcell
        go_wp2_with fail
        refine (hI _ hb2).mono ?_
        rintro e w3 ⟨a3, c3, ys3, rfl, hy3, hS3, hle3, hno3, hcm3, hb3⟩
        have HY := Lib.hid hy3
        clear hy3
        go_wp2
        go_roundg (n - (k + 1))
        case measure => omega
        case rel =>
          have hl3 : ys3.length ≤ k + 1 := by
            have := length_ins cmp (bs x) (ys.map bs)
            rw [← HY.out, List.length_map, List.length_map] at this
            omega
          refine ⟨k + 1, a3, c3, ys3, by omega, by omega, by go_num, rfl, hS3, hle3, hno3, hcm3, hl3, hB.trans ((hb2.trans (hb3.mono hb2.size)).mono hB.size), show Aside _ from ⟨?_, ?_, fun y hy => ?_⟩⟩
          · rw [HY.out, A.out.1, foldl_take HG.out]
          · rw [A.out.2.1, drop_at HG.out, sortErr_on HQ.out]
          · have h1 : bs y ∈ ins cmp (ys.map bs) (bs x) := by rw [← HY.out]; exact List.mem_map_of_mem hy
            rcases (mem_ins cmp_is (bs x) (ys.map bs) (bs y)).1 h1 with e1 | e1
            · have := congrArg List.length e1
              rw [len_bs, len_bs] at this
              omega
            · obtain ⟨z, hz, e2⟩ := List.mem_map.1 e1
              have := congrArg List.length e2
              rw [len_bs, len_bs] at this
              have := A.out.2.2 z hz
              omega
      · have HV : Hid (sortErr (zs.map bs) = check (bs x)) := by unfold Hid; rw [A.out.2.1, drop_at HG.out, sortErr_stop hq]
        have HQ := Lib.hid hq
        have hk0 : (((check (bs x) : Nat) : Int) != 0) = true := by simp; omega
        generalize hkk : check (bs x) = q at hK hk0 HV HQ
        clear hq hkk hI
        go_wp2_with fail
        refine hK.mono ?_
        rintro e w2 ⟨rfl, hb2⟩
        go_wp2
        go_ret2
        exact ⟨below_then' hB hb2, .inl ⟨by rw [HV.out]; exact HQ.out, ret_nilk (by rw [HV.out])⟩⟩
    · have hltz : ¬ (k : Int) < (n : Int) := by omega
      have HZ : Hid (sortErr (zs.map bs) = 0) := by unfold Hid; rw [A.out.2.1, List.drop_of_length_le (by rw [List.length_map, HN.out]; omega)]; rfl
      have HF : Hid (ys.map bs = sortU cmp (zs.map bs)) := by unfold Hid; rw [A.out.1, List.take_of_length_le (by rw [List.length_map, HN.out]; omega)]
      go_wp2
      go_ret2
      exact ⟨hB, .inr ⟨HZ.out, ao, co, ys, rfl, HF.out, hO, hco⟩⟩
end Go.Proofs.YtbgkepdnemgkdaaDoor
