/- Walks of (*newsrc.Marks).Subscribe. -/
import Derived.Test.YtddmldfdakmecaaGreatDoorNwMarks
namespace Go.Proofs.YtddmldfdakmecaaGreatDoor
open Go.RowKit Go.Gn Go.El Go.Nw

theorem EntsAre.set {T : Ty Tryz.prog Rg} {w : World} {base : Nat} {es : List Ent} {M : List Mk} (h : EntsAre T w base es M) (i : Nat) {e : Ent} {g : Mk} (he : EntIs T w base e g) : EntsAre T w base (es.set i e) (M.set i g) :=
  ⟨by rw [List.length_set, List.length_set]; exact h.len, fun j h1 h2 => by
    rw [List.length_set] at h1 h2
    rw [List.getElem_set, List.getElem_set]
    split
    · exact he
    · exact h.at_ j h1 h2⟩
theorem EntsAre.snoc {T : Ty Tryz.prog Rg} {w : World} {base : Nat} {es : List Ent} {M : List Mk} (h : EntsAre T w base es M) {e : Ent} {g : Mk} (he : EntIs T w base e g) : EntsAre T w base (es ++ [e]) (M ++ [g]) :=
  ⟨by rw [List.length_append, List.length_append, h.len]; rfl, fun j h1 h2 => by
    by_cases hj : j < es.length
    · rw [List.getElem_append_left hj, List.getElem_append_left (by rw [← h.len]; exact hj)]
      exact h.at_ j hj _
    · rw [List.length_append] at h1
      have hje : j = es.length := by simp at h1; omega
      subst hje
      rw [List.getElem_append_right (Nat.le_refl _), List.getElem_append_right (by rw [h.len]; exact Nat.le_refl _)]
      simpa [h.len] using he⟩

/-- What Subscribe does to marks. -/
def subM (M : List Mk) (s : ByteArray) : List Mk × Nat :=
  if check (bs s) ≠ 0 then (M, 12) else
  match findIx M s with
  | some i => (M.set i { M.getD i ⟨s, true, []⟩ with sub := true }, 0)
  | none => if 1024 ≤ M.length then (M, 9) else (M ++ [⟨s, true, []⟩], 0)

/-- What an operation on marks leaves. -/
def OpPost (base P : Nat) (v : Value) (R : List Mk × Nat) (w : World) (e : Ending) (w' : World) : Prop :=
  e = .returned (.int .i64 (R.2 : Nat)) ∧ Turn w w' (MarksAt.blocks P v) ∧ ∃ v' es', MarksAt w' base P v' es' R.1

theorem MarksAt.store {w : World} {base P g n c : Nat} {es : List Ent} {M : List Mk} (hM : MarksAt w base P (.slice (some ⟨g, 0, none⟩) n c) es M) {i j : Nat} {u : Value} {e' : Ent} {g' : Mk} (hi : i < es.length) (hi' : i < M.length) (hj : j < 3) (hc : entc e' = (entc es[i]).set j u) (he : EntIs TR w base e' g') (hn : g'.name = M[i].name) :
    MarksAt (w.setCell ⟨g, i * 3 + j, none⟩ u) base P (.slice (some ⟨g, 0, none⟩) n c) (es.set i e') (M.set i g') ∧ Turn w (w.setCell ⟨g, i * 3 + j, none⟩ u) (MarksAt.blocks P (.slice (some ⟨g, 0, none⟩) n c)) := by
  have ht : Turn w (w.setCell ⟨g, i * 3 + j, none⟩ u) (MarksAt.blocks P (.slice (some ⟨g, 0, none⟩) n c)) := (Turn.refl w _).set ⟨g, i * 3 + j, none⟩ u (.inr rfl)
  have hne : P ≠ g := fun e => hM.own.ne hM.box (by decide) (by rw [e]; rfl)
  refine ⟨⟨hM.box.far (p := ⟨g, i * 3 + j, none⟩) hne u, hM.lo, hM.own.cell (T := TE) i j u (List.getElem?_eq_getElem hi) hj hc, (hM.are.set i he).turn hM.box hM.own ht (by decide) (by decide), by rw [List.length_set]; exact hM.few, fun q hq => ?_⟩, ht⟩
  rcases List.mem_or_eq_of_mem_set hq with h | rfl
  · exact hM.names q h
  · rw [hn]; exact hM.names _ (List.getElem_mem hi')

set_option maxRecDepth 100000 in
set_option maxHeartbeats 1000000 in
/-- 'Subscribe'. -/
theorem subscribe_any (base P : Nat) (v : Value) (es : List Ent) (M : List Mk) (s : ByteArray) (w : World) (hM : MarksAt w base P v es M) (hs : s.size ≤ 9223372036854775807) (hML : ML w) :
    Calls Tryz.prog 35 #[.pointer (some ⟨P, 0, none⟩), .string s] w fun e w' => OpPost base P v (subM M s) w e w' := by
  have hC := check_any s w hs hML
  unfold GivesB at hC
  by_cases hck : check (bs s) = 0
  case neg =>
    have HR : Hid (subM M s = (M, 12)) := by unfold Hid subM; rw [if_pos hck]
    have hk : (((check (bs s) : Nat) : Int) != 0) = true := by simp; omega
    generalize check (bs s) = k at hC hk
    clear hck hML
    have HMM := Lib.hid hM
    clear hM
    go_enter Tryz.func35, Tryz.ntmps35
    go_wp2_with fail
    refine hC.mono ?_
    rintro e w1 ⟨rfl, hb1⟩
    go_wp2
    go_ret
    rw [HR.out]
    exact ⟨rfl, Turn.of_below hb1 _, v, es, HMM.out.below hb1⟩
  case pos =>
  rw [hck] at hC
  have HCK := Lib.hid hck
  clear hck hML
  have hF := fun W (h : MarksAt W base P v es M) => find_any base P v es M s W h
  go_enter Tryz.func35, Tryz.ntmps35
  go_wp2_with fail
  refine hC.mono ?_
  rintro e w1 ⟨rfl, hb1⟩
  have hM1 := hM.below hb1
  clear hM hC
  go_wp2_with fail
  refine (hF _ hM1).mono ?_
  clear hF
  rintro e w2 ⟨rfl, ⟨hfn, rfl⟩ | ⟨i, g, c, hfi, hiM, rfl, rfl⟩⟩
  · have hfew := hM1.few
    have hbox := hM1.box.cell
    have hf := hM1.box.free
    have hlt := hM1.box.lt
    have hne := hM1.own.ne hM1.box (by decide)
    have hO := hM1.own
    have hlen : M.length = es.length := hM1.are.len.symm
    have HMM := Lib.hid hM1
    have HFN := Lib.hid hfn
    clear hM1 hfn
    obtain ⟨a, c, hv, q0, q1, q2, q3, q4⟩ := hO.re
    clear q0 q1 q2 q3 q4
    rw [← hlen] at hv
    subst hv
    by_cases hfull : 1024 ≤ M.length
    · have HR : Hid (subM M s = (M, 9)) := by
        unfold Hid subM
        rw [if_neg (by rw [HCK.out]; simp), HFN.out]
        simp only []
        rw [if_pos hfull]
      clear hlen
      generalize M.length = m at *
      have hz : (1024 : Int) ≤ (m : Int) := by omega
      go_wp2
      go_ret
      rw [HR.out]
      exact ⟨rfl, Turn.of_below hb1 _, _, es, HMM.out⟩
    · have HR : Hid (subM M s = (M ++ [⟨s, true, []⟩], 0)) := by
        unfold Hid subM
        rw [if_neg (by rw [HCK.out]; simp), HFN.out]
        simp only []
        rw [if_neg hfull]
      have hOO := hO.alloc (.cells #[.string s, .bool true, .slice none 0 0] 113)
      have hNN : RE TE (w2.alloc (.cells #[.string s, .bool true, .slice none 0 0] 113)) (some ⟨w2.heap.size, 0, none⟩) [⟨s, true, none, 0, 0⟩] := RE.new TE w2 [⟨s, true, none, 0, 0⟩] #[.string s, .bool true, .slice none 0 0] 113 w2.heap.size rfl rfl
      have hlo : base ≤ w2.heap.size := by have := HMM.out.lo; omega
      have hbs : base ≤ (w2.alloc (.cells #[.string s, .bool true, .slice none 0 0] 113)).heap.size := by simp; omega
      have hll : es.length + 1 ≤ 30000000000 := by omega
      have hBB : Box (w2.alloc (.cells #[.string s, .bool true, .slice none 0 0] 113)) P 111 (.slice a M.length c) := HMM.out.box.alloc _
      clear hlen
      generalize hmm : M.length = m at *
      have HMG := Lib.hid hmm
      clear hmm
      have hz : ¬ (1024 : Int) ≤ (m : Int) := by omega
      go_wp2_with (at_builtin; refine El.app TE (m := 1) hOO hNN rfl (by intro e; cases e) hll hbs _ _ rfl rfl rfl rfl ?_; intro v3 w3 hO3 hG3; have hB3 := hBB.kept hG3 (Ne.symm hne); have hc3 := hB3.cell; have hf3 := hB3.free; obtain ⟨a3, m3, c3, rfl⟩ := hO3.sl)
      go_ret
      have hmm := HMG.out
      subst hmm
      have hM1 := HMM.out
      have ht0 : Turn w2 w3 (MarksAt.blocks P (.slice a M.length c)) := (Turn.of_below ((Below.refl _ _).alloc (Nat.le_refl _) _) _).grown hG3 (fun k hk _ => .inr hk)
      have ht : Turn w2 (w3.setCell ⟨P, 0, none⟩ (.slice a3 m3 c3)) (MarksAt.blocks P (.slice a M.length c)) := ht0.set ⟨P, 0, none⟩ _ (.inl rfl)
      have hne3 := hO3.ne hB3 (by decide)
      rw [HR.out]
      refine ⟨rfl, (Turn.of_below hb1 _).trans ht, _, _, ⟨hB3.set _, hM1.lo, hO3.far (a := ⟨P, 0, none⟩) hne3 _, ?_, ?_, ?_⟩⟩
      · refine EntsAre.snoc (hM1.are.turn hM1.box hM1.own ht (by decide) (by decide)) ⟨rfl, rfl, OE.nil _ _ _, Norm.nil, by simp, by simp⟩
      · rw [List.length_append]; simp; omega
      · intro q hq
        rcases List.mem_append.1 hq with h | h
        · exact hM1.names q h
        · obtain rfl := List.mem_singleton.1 h
          exact HCK.out
  · have hk : i < es.length := by rw [hM1.are.len]; exact hiM
    have HR : Hid (subM M s = (M.set i { M[i] with sub := true }, 0)) := by
      unfold Hid subM
      rw [if_neg (by rw [HCK.out]; simp), hfi]
      simp only []
      rw [List.getD_eq_getElem?_getD, List.getElem?_eq_getElem hiM]; rfl
    have hf2 := hM1.own.free (i * 3 + 1)
    have hcell : w2.cell? ⟨g, i * 3 + 1, none⟩ = some (.bool es[i].sub) := by
      obtain ⟨_, hR, _⟩ := hM1.own.shape
      obtain ⟨b, off, e1, _, _, h2, _⟩ := re_ent (T := TE) rfl rfl hR hk
      injection e1 with e1
      injection e1 with e1 e2
      subst e1; subst e2
      rwa [Nat.zero_add] at h2
    have HMM := Lib.hid hM1
    clear hM1 hfi
    generalize es[i].sub = t at hcell
    go_wp2
    go_ret
    have hM1 := HMM.out
    have hE := hM1.are.at_ i hk hiM
    obtain ⟨h1, h2⟩ := hM1.store (j := 1) (u := .bool true) (e' := { es[i] with sub := true }) (g' := { M[i] with sub := true }) hk hiM (by decide) rfl ⟨hE.name, rfl, hE.own, hE.norm, hE.valid, hE.small⟩ rfl
    rw [HR.out]
    exact ⟨rfl, (Turn.of_below hb1 _).trans h2, _, _, h1⟩
end Go.Proofs.YtddmldfdakmecaaGreatDoor
