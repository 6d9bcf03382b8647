/- The law's example: known answers true. -/
import Derived.Test.YtddmldfdakmecaaGreatDoorNwFile
namespace Go.Proofs.YtddmldfdakmecaaGreatDoor
open Go.RowKit Go.Gn Go.El Go.Nw

def kwG : ByteArray := ⟨#[114, 101, 99, 46, 98, 111, 97, 116, 115]⟩
def kwT : ByteArray := ⟨#[49, 45, 51, 44, 53, 44, 57, 45, 49, 48]⟩
def kwF : ByteArray := ⟨#[114, 101, 99, 46, 98, 111, 97, 116, 115, 58, 32, 52, 10]⟩
def kwL : List Int := [1, 2, 3, 5, 9, 10]
def kwR : List Rg := [(1, 3), (5, 5), (9, 10)]
theorem kwG_check : check (bs kwG) = 0 := by decide +kernel
theorem kwR_norm : Norm kwR := by
  unfold Norm kwR
  exact ⟨by decide, by decide⟩
theorem kwL_normal : normal (kwL.map dup) = kwR := by
  refine (normal_eq kwR_norm (by decide) fun n => ?_).symm
  rw [Bool.eq_iff_iff]
  simp [memB, kwR, kwL, dup]
  omega
theorem digit1 (n : Nat) (h : n < 10) : Lib.itoa (n : Int) = [UInt8.ofNat (48 + n)] := by
  rcases n with _ | _ | _ | _ | _ | _ | _ | _ | _ | _ | n
  all_goals first | (exfalso; omega) | simp [Lib.itoa, Lib.decDigits]
theorem itoa10 : Lib.itoa 10 = [49, 48] := by simp [Lib.itoa, Lib.decDigits]
theorem kwR_text : mkS (setText kwR) = kwT := by
  have e : setText kwR = text 44 [[49, 45, 51], [53], [57, 45, 49, 48]] := by
    have e1 : Lib.itoa 1 = [49] := digit1 1 (by decide)
    have e3 : Lib.itoa 3 = [51] := digit1 3 (by decide)
    have e5 : Lib.itoa 5 = [53] := digit1 5 (by decide)
    have e9 : Lib.itoa 9 = [57] := digit1 9 (by decide)
    have r1 : rgText (1, 3) = [49, 45, 51] := by unfold rgText; rw [if_pos (by decide)]; simp only [e1, e3]; rfl
    have r2 : rgText (5, 5) = [53] := by unfold rgText; rw [if_neg (by decide)]; exact e5
    have r3 : rgText (9, 10) = [57, 45, 49, 48] := by unfold rgText; rw [if_pos (by decide)]; simp only [e9, itoa10]; rfl
    unfold setText kwR
    simp only [List.map_cons, List.map_nil, r1, r2, r3]
  rw [e]
  rfl
theorem kwF_text : mkS (fileText [⟨kwG, true, [(4, 4)]⟩]) = kwF := by
  have e : setText [(4, 4)] = [52] := by
    have e4 : Lib.itoa 4 = [52] := digit1 4 (by decide)
    have r1 : rgText (4, 4) = [52] := by unfold rgText; rw [if_neg (by decide)]; exact e4
    unfold setText
    simp only [List.map_cons, List.map_nil, r1]
    rfl
  unfold fileText entText
  simp only [List.flatMap_cons, List.flatMap_nil, e]
  rfl
theorem kw_sub : subM [] kwG = ([⟨kwG, true, []⟩], 0) := by
  unfold subM
  rw [if_neg (by rw [kwG_check]; decide)]
  rfl
theorem kw_read : chM [⟨kwG, true, []⟩] kwG (artB 4) (fun S => combS keepU S [dup 4]) = ([⟨kwG, true, [(4, 4)]⟩], 0) := by
  have e : [((4 : Int), (4 : Int))] = combS keepU [] [dup 4] := combS_eq (Norm.one (by decide)) fun n => by
    unfold kept keepU dup; simp [memB]
  have h1 : findIx [⟨kwG, true, []⟩] kwG = some 0 := by unfold findIx; simp
  unfold chM
  rw [h1]
  simp only [List.getD_cons_zero, ← e]
  rfl
theorem MarksAt.new (w : World) (base m : Nat) (hm : w.heap.size = m) (hb : base ≤ m) : MarksAt (w.alloc (.cells #[.slice none 0 0] 111)) base m (.slice none 0 0) [] [] :=
  ⟨Box.new w _ _ _ hm, hb, OE.nil _ _ _, ⟨rfl, fun i h => absurd h (Nat.not_lt_zero _)⟩, Nat.zero_le _, by simp⟩

theorem Turn.marks {w w' : World} {B base P : Nat} {v : Value} {es : List Ent} {M : List Mk} (ht : Turn w w' (MarksAt.blocks P v)) (hM : MarksAt w base P v es M) (hB : B ≤ base) : Below B w w' :=
  ht.below (Nat.le_trans hB (Nat.le_trans hM.lo (Nat.le_of_lt hM.box.lt))) fun k hk => by
    rcases hk with rfl | hk
    · exact Nat.le_trans hB hM.lo
    · obtain ⟨a, c, rfl, _, _, _, _, h⟩ := hM.own.re
      cases a with
      | none => cases hk
      | some q =>
        obtain ⟨b, off, s⟩ := q
        have e : b = k := by simpa [Value.ownBlock] using hk
        subst e
        rcases hM.own.2 with ⟨h0, _⟩ | ⟨g, cap, cur, h1, hg, _⟩
        · cases h0
        · injection h1 with h1; injection h1 with h1; injection h1 with h1; subst h1; exact Nat.le_trans hB hg

set_option maxRecDepth 100000 in
set_option maxHeartbeats 1000000 in
/-- 'New'. -/
theorem new_any (w : World) : Calls Tryz.prog 50 #[] w fun e w' => e = .returned (.pointer (some ⟨w.heap.size, 0, none⟩)) ∧ w' = w.alloc (.cells #[.slice none 0 0] 111) := by
  go_enter Tryz.func50, Tryz.ntmps50
  go_wp2_with fail
  go_ret
  exact ⟨rfl, rfl⟩

set_option maxRecDepth 100000 in
set_option maxHeartbeats 1000000 in
/-- 'known'. -/
theorem known_any (w : World) (hM : ML w) (hT : TB w) : GivesB Tryz.prog 11 #[] (.bool true) w := by
  have hb0 : Below w.heap.size w (w.alloc (.cells #[.int .i64 1, .int .i64 2, .int .i64 3, .int .i64 5, .int .i64 9, .int .i64 10] 3)) := (Below.refl _ _).alloc (Nat.le_refl _) _
  have hR0 := RE.new TN w kwL #[.int .i64 1, .int .i64 2, .int .i64 3, .int .i64 5, .int .i64 9, .int .i64 10] 3 w.heap.size rfl rfl
  have hs0 : w.heap.size ≤ (w.alloc (.cells #[.int .i64 1, .int .i64 2, .int .i64 3, .int .i64 5, .int .i64 9, .int .i64 10] 3)).heap.size := hb0.size
  have hof := of_any (some ⟨w.heap.size, 0, none⟩) 6 6 kwL _ rfl (by decide) hR0
  unfold GivesB
  go_enter Tryz.func11, Tryz.ntmps11
  go_wp2_with fail
  generalize w.alloc (.cells #[.int .i64 1, .int .i64 2, .int .i64 3, .int .i64 5, .int .i64 9, .int .i64 10] 3) = w0 at *
  refine hof.mono ?_
  clear hof hR0
  rintro e w1 ⟨hb1, ⟨_, v, rfl, hO⟩ | ⟨hno, _⟩⟩
  case inr => exact absurd (by decide) hno
  rw [kwL_normal] at hO
  have hB1 : Below w.heap.size w w1 := hb0.trans (hb1.mono hs0)
  have hM1 := hM.below hB1
  have hT1 := hT.below hB1
  clear hM hb0 hb1 hs0
  obtain ⟨a, c, rfl, hR, _⟩ := hO.re
  clear hO
  have hl : kwR.length = 3 := rfl
  rw [hl]
  go_wp2_with fail
  refine (new_any _).mono ?_
  rintro e w2 ⟨rfl, rfl⟩
  have hbs : Below w1.heap.size w1 (w1.alloc (.cells #[.slice a 3 c] 26)) := (Below.refl _ _).alloc (Nat.le_refl _) _
  have hX := Box.new w1 26 (.slice a 3 c) _ rfl
  have hMn := MarksAt.new (w1.alloc (.cells #[.slice a 3 c] 26)) (w1.heap.size + 1) (w1.heap.size + 1) (by simp) (Nat.le_refl _)
  have hb2 : w.heap.size ≤ w1.heap.size + 1 := by have := hB1.size; omega
  have hbm : Below w1.heap.size w1 ((w1.alloc (.cells #[.slice a 3 c] 26)).alloc (.cells #[.slice none 0 0] 111)) := hbs.alloc (by simp) _
  have hR2 := hR.below hbm
  have hM2 := hM1.below hbm
  have hT2 := hT1.below hbm
  have hX2 := hX.alloc (.cells #[.slice none 0 0] 111)
  have hB2 := hB1.trans (hbm.mono hB1.size)
  clear hR hM1 hT1 hX hbm hbs hB1
  go_wp2_with fail
  have hst := stext_any a 3 c kwR _ rfl (by decide) hR2 (by decide) hT2
  rw [kwR_text] at hst
  unfold GivesB at hst
  generalize (w1.alloc (.cells #[.slice a 3 c] 26)).alloc (.cells #[.slice none 0 0] 111) = wm at *
  refine hst.mono ?_
  clear hst hR2
  rintro e w3 ⟨rfl, hb3⟩
  have hM3 := hM2.below hb3
  have hT3 := hT2.below hb3
  have hB3 := hB2.trans (hb3.mono hB2.size)
  have hMn3 := hMn.below hb3
  clear hMn hM2 hT2 hX2 hB2 hb3
  have e1 : (kwT.toList == kwT.toList) = true := beq_self_eq_true _
  have hsub := subscribe_any _ _ _ [] [] kwG w3 hMn3 (by decide) hM3
  rw [kw_sub] at hsub
  unfold kwT at e1 ⊢
  go_wp2_with fail
  refine hsub.mono ?_
  clear hsub
  rintro e w4 ⟨rfl, ht4, v4, es4, hM4⟩
  have hT4 := ht4.marks hMn3 hb2
  have hB4 := hB3.trans hT4
  have hrd := read_any _ _ v4 es4 _ kwG 4 w4 hM4
  rw [kw_read] at hrd
  clear hMn3
  go_wp2_with fail
  refine hrd.mono ?_
  clear hrd
  rintro e w5 ⟨rfl, ht5, v5, es5, hM5⟩
  have hT5 := ht5.marks hM4 hb2
  have hB5 := hB4.trans hT5
  have hmt := mtext_any _ _ v5 es5 _ w5 hM5 (hT.below hB5)
  rw [kwF_text] at hmt
  have e2 : (kwF.toList == kwF.toList) = true := beq_self_eq_true _
  clear hM4 hM5
  unfold GivesB at hmt
  unfold kwF at e2 hmt
  go_wp2_with fail
  refine hmt.mono ?_
  clear hmt
  rintro e w6 ⟨rfl, hb6⟩
  go_wp2_with fail
  go_ret
  exact ⟨rfl, hB5.trans (hb6.mono hB5.size)⟩
end Go.Proofs.YtddmldfdakmecaaGreatDoor
