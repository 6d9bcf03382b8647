/- Walk of groupname.Common, for strings of at most 100000 bytes. -/
import Derived.Test.YtbgkepdnemgkdaaGreatDoorGnWalkU
import Derived.Test.YtbgkepdnemgkdaaGreatDoorGnWalkG
import Derived.Test.YtbgkepdnemgkdaaGreatDoorGnWalkM
import Derived.Deep.QuietTactic
import Derived.BigQuiet
namespace Go.Proofs.YtbgkepdnemgkdaaGreatDoor
open Go.RowKit Go.Gn

/-- The longest common beginning. -/
def lcp : List Str → List Str → List Str
  | a :: x, b :: y => if a = b then a :: lcp x y else []
  | _, _ => []

theorem lcp_take {L M : List Str} {k : Nat} (h : ∀ j, j < k → L[j]? = M[j]? ∧ j < L.length) : lcp L M = L.take k ++ lcp (L.drop k) (M.drop k) := by
  induction k generalizing L M with
  | zero => simp
  | succ k ih =>
    have h0 := h 0 (by omega)
    cases L with
    | nil => simp at h0
    | cons a x =>
      cases M with
      | nil => simp at h0
      | cons b y =>
        have e : a = b := by simpa using h0.1
        subst e
        have := ih (L := x) (M := y) (fun j hj => by have := h (j + 1) (by omega); simpa using this)
        simp [lcp, this]

theorem ret_strb {a b : ByteArray} {t u : Bool} (h : a = b) (h2 : t = u) : Ending.returned (.tuple #[.string a, .bool t]) = Ending.returned (.tuple #[.string b, .bool u]) := by rw [h, h2]

set_option maxRecDepth 100000 in
set_option maxHeartbeats 1000000 in
theorem gcommon_ok (s t : ByteArray) (w : World) (hs : s.size ≤ 100000) (ht : t.size ≤ 100000) (hM : ML w) (h1 : check (bs s) = 0) (h2 : check (bs t) = 0) :
    GivesB Tryz.prog 27 #[.string s, .string t] (.tuple #[.string (mkS (text 46 (lcp (parts 46 (bs s)) (parts 46 (bs t))))), .bool (decide (lcp (parts 46 (bs s)) (parts 46 (bs t)) ≠ []))]) w := by
  have hS1 := gsplit_ok s w (by omega) hM h1
  have hS2 := fun (W : World) (hb : Below w.heap.size w W) => gsplit_ok t W (by omega) (hM.below hb) h2
  have HSZ : Hid (s.size ≤ 100000 ∧ t.size ≤ 100000) := ⟨hs, ht⟩
  have HM := Lib.hid hM
  unfold GivesB
  clear hs ht hM h1 h2
  go_enter Tryz.func27, Tryz.ntmps27
  go_wp2_with fail
  refine hS1.mono ?_
  rintro e w1 ⟨x, b1, hx, rfl, hX, hB1⟩
  have HX := Lib.hid hx
  have hxl := len_split hx
  clear hS1 hx
  go_wp2_with fail
  refine (hS2 _ hB1).mono ?_
  rintro e w2 ⟨y, b2, hy, rfl, hY, hB2⟩
  have HY := Lib.hid hy
  have hyl := len_split hy
  have hX2 := hX.below hB2
  have hB02 := below_then' hB1 hB2
  have hst := HSZ.out
  have HLEN : Hid (∀ k, (text 46 ((x.map bs).take k)).length ≤ 100000) := fun k => Nat.le_trans (text_take_le 46 _ k) (by rw [HX.out, text_parts, len_bs]; omega)
  clear hS2 hy hX hB1 hB2
  go_wp2
  go_loopg [10] x.length (fun gg s10 wr => ∃ (k : Nat), k ≤ x.length ∧ k ≤ y.length ∧ x.length - k ≤ gg ∧ s10 = .int .i64 k ∧ Below w2.heap.size w2 wr ∧ Aside (lcp (x.map bs) (y.map bs) = (x.map bs).take k ++ lcp ((x.map bs).drop k) ((y.map bs).drop k)))
  case atStart => exact ⟨0, Nat.zero_le _, Nat.zero_le _, by omega, rfl, Below.refl _ _, show Aside _ from rfl⟩
  case round =>
    obtain ⟨k, hk, hk', hg, rfl, hB, A⟩ := hrel
    by_cases hlt : k < x.length ∧ k < y.length
    · obtain ⟨hl1, hl2⟩ := hlt
      have hltz : (k : Int) < (x.length : Int) := by omega
      have hltz' : (k : Int) < (y.length : Int) := by omega
      obtain ⟨bx, ox, ex, hbx, hc0⟩ := hX2.some hl1
      injection ex with ex
      injection ex with ex1 ex2
      subst ex1; subst ex2
      have hcell := (hB.cell (p := ⟨b1, 0 + k, none⟩) hbx).trans hc0
      clear hc0
      have HX1 : Hid ((x.map bs)[k]? = some (bs x[k])) := get_bs hl1
      generalize x[k] = p at hcell HX1
      obtain ⟨by', oy, ey, hby, hc0⟩ := hY.some hl2
      injection ey with ey
      injection ey with ey1 ey2
      subst ey1; subst ey2
      have hcell' := (hB.cell (p := ⟨b2, 0 + k, none⟩) hby).trans hc0
      clear hc0
      have HY1 : Hid ((y.map bs)[k]? = some (bs y[k])) := get_bs hl2
      generalize y[k] = q at hcell' HY1
      rw [Nat.zero_add] at hcell hcell'
      have hmn : (k : Int) < min (x.length : Int) (y.length : Int) := by omega
      by_cases hq : bs p = bs q
      · have hq1 : (p.toList == q.toList) = true := by rw [ByteArray.toList_eq, ByteArray.toList_eq, beq_iff_eq]; exact hq
        have HV : Hid (lcp (x.map bs) (y.map bs) = (x.map bs).take (k + 1) ++ lcp ((x.map bs).drop (k + 1)) ((y.map bs).drop (k + 1))) := by
          unfold Hid; rw [A.out, drop_at HX1.out, drop_at HY1.out, lcp, if_pos hq, take_at HX1.out, List.append_assoc]; rfl
        clear hq
        go_wp2
        go_quiet (fail)
        go_wp2
        go_roundg (x.length - (k + 1))
        case measure => omega
        case rel => exact ⟨k + 1, hl1, hl2, Nat.le_refl _, by go_num, Go.below_drewN hB _, by unfold Aside; exact HV.out⟩
      · have hq1 : (p.toList == q.toList) = false := by rw [ByteArray.toList_eq, ByteArray.toList_eq, beq_eq_false_iff_ne]; exact hq
        have HV : Hid (lcp (x.map bs) (y.map bs) = (x.map bs).take k) := by
          unfold Hid; rw [A.out, drop_at HX1.out, drop_at HY1.out, lcp, if_neg hq, List.append_nil]
        clear hq
        go_wp2
        go_quiet (fail)
        go_wp2_with fail
        have hjn := join_any 46 (some ⟨b1, 0, none⟩) k x.length (x.take k) (wr.drewN nq) (by rw [List.length_take]; omega) hk ((hX2.below (Go.below_drewN hB nq)).take k) (by rw [List.map_take]; have := HLEN.out k; omega) (by omega)
        have hbj : Below w.heap.size w (wr.drewN nq) := below_then' hB02 (Go.below_drewN hB nq)
        rw [List.map_take, ← HV.out] at hjn
        have HD : Hid (decide (0 < k) = decide (lcp (x.map bs) (y.map bs) ≠ [])) := by
          unfold Hid
          rw [HV.out, decide_eq_decide, ne_eq, List.take_eq_nil_iff]
          constructor
          · intro h0 h1
            rcases h1 with h1 | h1
            · omega
            · have := congrArg List.length h1
              rw [List.length_map, List.length_nil] at this
              omega
          · intro h1
            by_cases h0 : k = 0
            · exact absurd (.inl h0) h1
            · omega
        unfold GivesB at hjn
        generalize wr.drewN nq = w3 at hjn hbj ⊢
        refine hjn.mono ?_
        rintro e w4 ⟨rfl, hb4⟩
        go_wp2_with fail
        go_ret2
        refine ⟨ret_strb (by rw [HX.out, HY.out]) (by rw [HD.out, HX.out, HY.out]), below_then' hbj hb4⟩
    · have hmn : decide ((k : Int) < min (x.length : Int) (y.length : Int)) = false := by rw [decide_eq_false_iff_not]; omega
      have HV : Hid (lcp (x.map bs) (y.map bs) = (x.map bs).take k) := by
        unfold Hid
        rw [A.out]
        have : lcp ((x.map bs).drop k) ((y.map bs).drop k) = [] := by
          by_cases e : k < x.length
          · rw [List.drop_of_length_le (l := y.map bs) (by rw [List.length_map]; omega)]
            cases (x.map bs).drop k <;> rfl
          · rw [List.drop_of_length_le (l := x.map bs) (by rw [List.length_map]; omega)]; rfl
        rw [this, List.append_nil]
      go_wp2
      go_quiet (fail)
      go_wp2_with fail
      have hjn := join_any 46 (some ⟨b1, 0, none⟩) k x.length (x.take k) (wr.drewN nq) (by rw [List.length_take]; omega) hk ((hX2.below (Go.below_drewN hB nq)).take k) (by rw [List.map_take]; have := HLEN.out k; omega) (by omega)
      have hbj : Below w.heap.size w (wr.drewN nq) := below_then' hB02 (Go.below_drewN hB nq)
      rw [List.map_take, ← HV.out] at hjn
      have HD : Hid (decide (0 < k) = decide (lcp (x.map bs) (y.map bs) ≠ [])) := by
        unfold Hid
        rw [HV.out, decide_eq_decide, ne_eq, List.take_eq_nil_iff]
        constructor
        · intro h0 h1
          rcases h1 with h1 | h1
          · omega
          · have := congrArg List.length h1
            rw [List.length_map, List.length_nil] at this
            omega
        · intro h1
          by_cases h0 : k = 0
          · exact absurd (.inl h0) h1
          · omega
      unfold GivesB at hjn
      generalize wr.drewN nq = w3 at hjn hbj ⊢
      refine hjn.mono ?_
      rintro e w4 ⟨rfl, hb4⟩
      go_wp2_with fail
      go_ret2
      refine ⟨ret_strb (by rw [HX.out, HY.out]) (by rw [HD.out, HX.out, HY.out]), below_then' hbj hb4⟩

set_option maxRecDepth 100000 in
set_option maxHeartbeats 1000000 in
theorem gcommon_bad1 (s t : ByteArray) (w : World) (hs : s.size ≤ 100000) (ht : t.size ≤ 100000) (hM : ML w) (h1 : check (bs s) ≠ 0) :
    GivesB Tryz.prog 27 #[.string s, .string t] (.tuple #[.string ⟨#[]⟩, .bool false]) w := by
  have hS1 := gsplit_bad s w (by omega) hM h1
  obtain ⟨q, hqe⟩ : ∃ q, q = check (bs s) := ⟨_, rfl⟩
  rw [← hqe] at hS1 h1
  have hz : ((q : Int) != 0) = true := by simp; omega
  have hS2 : ∀ W, Below w.heap.size w W → Calls Tryz.prog 17 #[.string t] W fun e w' => ∃ (v : Value) (m : Int), e = .returned (.tuple #[v, .int .i64 m]) ∧ Below W.heap.size W w' := by
    intro W hb
    by_cases h2 : check (bs t) = 0
    · exact (gsplit_ok t W (by omega) (hM.below hb) h2).mono fun e w' ⟨l, b, _, he, _, hB⟩ => ⟨_, _, he, hB⟩
    · exact (gsplit_bad t W (by omega) (hM.below hb) h2).mono fun e w' ⟨he, hB⟩ => ⟨_, _, he, hB⟩
  unfold GivesB at *
  clear hs ht hM h1 hqe
  go_enter Tryz.func27, Tryz.ntmps27
  go_wp2_with fail
  refine hS1.mono ?_
  rintro e w1 ⟨rfl, hB1⟩
  go_wp2_with fail
  refine (hS2 _ hB1).mono ?_
  rintro e w2 ⟨v, m, rfl, hB2⟩
  go_wp2_with fail
  go_ret2
  exact ⟨rfl, below_then' hB1 hB2⟩

set_option maxRecDepth 100000 in
set_option maxHeartbeats 1000000 in
theorem gcommon_bad2 (s t : ByteArray) (w : World) (hs : s.size ≤ 100000) (ht : t.size ≤ 100000) (hM : ML w) (h1 : check (bs s) = 0) (h2 : check (bs t) ≠ 0) :
    GivesB Tryz.prog 27 #[.string s, .string t] (.tuple #[.string ⟨#[]⟩, .bool false]) w := by
  have hS1 := gsplit_ok s w (by omega) hM h1
  have hS2 := fun (W : World) (hb : Below w.heap.size w W) => gsplit_bad t W (by omega) (hM.below hb) h2
  obtain ⟨q, hqe⟩ : ∃ q, q = check (bs t) := ⟨_, rfl⟩
  rw [← hqe] at hS2 h2
  have hz : ((q : Int) != 0) = true := by simp; omega
  unfold GivesB at *
  clear hs ht hM h1 h2 hqe
  go_enter Tryz.func27, Tryz.ntmps27
  go_wp2_with fail
  refine hS1.mono ?_
  rintro e w1 ⟨x, b1, hx, rfl, hX, hB1⟩
  clear hx
  go_wp2_with fail
  refine (hS2 _ hB1).mono ?_
  rintro e w2 ⟨rfl, hB2⟩
  go_wp2_with fail
  go_ret2
  exact ⟨rfl, below_then' hB1 hB2⟩
end Go.Proofs.YtbgkepdnemgkdaaGreatDoor
