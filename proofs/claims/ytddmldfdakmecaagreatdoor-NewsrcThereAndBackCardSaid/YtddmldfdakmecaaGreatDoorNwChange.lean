/- Walk of (*newsrc.Marks).change. -/
import Derived.Test.YtddmldfdakmecaaGreatDoorNwSub
namespace Go.Proofs.YtddmldfdakmecaaGreatDoor
open Go.RowKit Go.Gn Go.El Go.Nw

open Classical in
/-- The combination of two sets, as the one normal form. -/
noncomputable def combS (keep : Bool → Bool → Bool) (S R : List Rg) : List Rg := if h : ∃ o, Norm o ∧ ∀ n, memB n o = kept keep S R n then h.choose else []
theorem combS_eq {keep : Bool → Bool → Bool} {S R o : List Rg} (h1 : Norm o) (h2 : ∀ n, memB n o = kept keep S R n) : o = combS keep S R := by
  have h : ∃ o, Norm o ∧ ∀ n, memB n o = kept keep S R n := ⟨o, h1, h2⟩
  unfold combS
  rw [dif_pos h]
  exact kept_unique h1 h2 h.choose_spec.1 h.choose_spec.2

/-- What a function from sets to sets gives. -/
def SetPost (base : Nat) (o : List Rg) (w : World) (e : Ending) (w' : World) : Prop :=
  Below w.heap.size w w' ∧ Norm o ∧ (∀ r ∈ o, validB r = true) ∧
    ((o.length ≤ 4096 ∧ ∃ v, e = .returned (.tuple #[.agg #[v], .int .i64 0]) ∧ OE TR w' base v o) ∨
     (¬ o.length ≤ 4096 ∧ e = .returned (.tuple #[.agg #[.slice none 0 0], .int .i64 9])))

theorem CombPost.set {keep : Bool → Bool → Bool} {S R : List Rg} {base : Nat} {w w' : World} {e : Ending} (h : CombPost keep S R w e w') (hb : base ≤ w.heap.size) (hv : ∀ r ∈ S ++ R, validB r = true) : SetPost base (combS keep S R) w e w' := by
  obtain ⟨h1, o, h2, h3, _, h4⟩ := h
  have ho := combS_eq h2 h3
  rw [← ho]
  refine ⟨h1, h2, kept_bounds (F := fun _ => true) rfl hv h2 (fun n => by rw [h3, Bool.and_true]), ?_⟩
  rcases h4 with ⟨h4, v, he, hO⟩ | h4
  · exact .inl ⟨h4, v, he, hO.mono hb⟩
  · exact .inr h4

/-- What a change does to marks. -/
def chM (M : List Mk) (s : ByteArray) (ok : Bool) (F : List Rg → List Rg) : List Mk × Nat :=
  match findIx M s with
  | none => (M, 8)
  | some i => if ok = true then (if (F (M.getD i ⟨s, true, []⟩).set).length ≤ 4096 then (M.set i { M.getD i ⟨s, true, []⟩ with set := F (M.getD i ⟨s, true, []⟩).set }, 0) else (M, 9)) else (M, 2)

set_option maxRecDepth 100000 in
set_option maxHeartbeats 2000000 in
/-- 'change'. -/
theorem change_any (base P : Nat) (v : Value) (es : List Ent) (M : List Mk) (s : ByteArray) (ok : Bool) (F : List Rg → List Rg) (g : Nat) (cb : Array Value) (w : World) (hM : MarksAt w base P v es M)
    (eg : ∀ args w, (callFunc g args).run Tryz.prog w = .ok (.enter g args) w)
    (hf : ok = true → ∀ W (e : Ent) (S : List Rg), Below w.heap.size w W → OE TR W base e.sl S → Norm S → (∀ r ∈ S, validB r = true) → S.length ≤ 4096 → Calls Tryz.prog g (#[.agg #[.slice e.a e.n e.c]] ++ cb) W fun x W' => SetPost base (F S) W x W') :
    Calls Tryz.prog 72 #[.pointer (some ⟨P, 0, none⟩), .string s, .bool ok, .func (.func g) #[] cb] w fun e w' => OpPost base P v (chM M s ok F) w e w' := by
  have hF := find_any base P v es M s w hM
  have HMM := Lib.hid hM
  have HF := Lib.hid hf
  clear hM hf
  go_enter Tryz.func72, Tryz.ntmps72
  go_wp2_with fail
  refine hF.mono ?_
  clear hF
  rintro e w2 ⟨rfl, ⟨hfn, rfl⟩ | ⟨i, gb, c, hfi, hiM, rfl, rfl⟩⟩
  · have HR : Hid (chM M s ok F = (M, 8)) := by unfold Hid chM; rw [hfn]
    clear hfn
    go_wp2
    go_ret
    rw [HR.out]
    exact ⟨rfl, Turn.refl _ _, v, es, HMM.out⟩
  · have hM := HMM.out
    have hk : i < es.length := by rw [hM.are.len]; exact hiM
    have hget : M.getD i ⟨s, true, []⟩ = M[i] := by rw [List.getD_eq_getElem?_getD, List.getElem?_eq_getElem hiM]; rfl
    cases ok with
    | false =>
      have HR : Hid (chM M s false F = (M, 2)) := by unfold Hid chM; rw [hfi]; rfl
      clear hfi hM hget
      go_wp2
      go_ret
      rw [HR.out]
      exact ⟨rfl, Turn.refl _ _, _, es, HMM.out⟩
    | true =>
      have hE := hM.are.at_ i hk hiM
      have hC := HF.out rfl w2 es[i] M[i].set (Below.refl _ _) hE.own hE.norm hE.valid hE.small
      have hcell : w2.cell? ⟨gb, i * 3 + 2, none⟩ = some (.slice es[i].a es[i].n es[i].c) := by
        obtain ⟨_, hR, _⟩ := hM.own.shape
        obtain ⟨b, off, e1, _, _, _, h2⟩ := re_ent (T := TE) rfl rfl hR hk
        injection e1 with e1
        injection e1 with e1 e2
        subst e1; subst e2
        rwa [Nat.zero_add] at h2
      have hlt : gb < w2.heap.size := World.block_lt_of_cell? _ _ hcell
      have HK : Hid (chM M s true F = if (F M[i].set).length ≤ 4096 then (M.set i { M[i] with set := F M[i].set }, 0) else (M, 9)) := by
        unfold Hid chM; rw [hfi]; simp only [if_true]; rw [hget]
      have hEn : Hid (es[i].name = M[i].name ∧ es[i].sub = M[i].sub) := ⟨hE.name, hE.sub⟩
      clear hM hE hfi hget
      generalize es[i].a = ea at hcell hC
      generalize es[i].n = en at hcell hC
      generalize es[i].c = ec at hcell hC
      go_wp2_with fail
      refine hC.mono ?_
      clear hC
      rintro e w3 ⟨hb, hno, hva, ⟨hle, v3, rfl, hO3⟩ | ⟨hle, rfl⟩⟩
      · have HL : Hid (Norm (F M[i].set) ∧ (∀ r ∈ F M[i].set, validB r = true) ∧ (F M[i].set).length ≤ 4096) := ⟨hno, hva, hle⟩
        clear hno hva hle
        obtain ⟨a3, m3, c3, rfl⟩ := hO3.sl
        have hM3 := HMM.out.below hb
        have hf4 : (w3.alloc (.cells #[.slice a3 m3 c3] 26)).frozen? ⟨gb, i * 3 + 2, none⟩ = false := (hM3.own.alloc (.cells #[.slice a3 m3 c3] 26)).free (i * 3 + 2)
        have hc4 := (((Below.refl _ w3).alloc (Nat.le_refl _) (.cells #[.slice a3 m3 c3] 26)).cell (p := ⟨gb, i * 3 + 2, none⟩) (Nat.lt_of_lt_of_le hlt hb.size)).trans ((hb.cell (p := ⟨gb, i * 3 + 2, none⟩) hlt).trans hcell)
        have HM3 := Lib.hid hM3
        clear hM3
        go_wp2
        go_ret
        have hba : Below w3.heap.size w3 (w3.alloc (.cells #[.slice a3 m3 c3] 26)) := (Below.refl _ _).alloc (Nat.le_refl _) _
        have hM4 := HM3.out.below hba
        obtain ⟨h1, h2⟩ := hM4.store (j := 2) (u := .slice a3 m3 c3) (e' := ⟨es[i].name, es[i].sub, a3, m3, c3⟩) (g' := { M[i] with set := F M[i].set }) hk hiM (by decide) rfl ⟨hEn.out.1, hEn.out.2, hO3.alloc _, HL.out.1, HL.out.2.1, HL.out.2.2⟩ rfl
        rw [HK.out, if_pos HL.out.2.2]
        exact ⟨rfl, ((Turn.of_below hb _).trans (Turn.of_below hba _)).trans h2, _, _, h1⟩
      · have HL := Lib.hid hle
        clear hno hva hle
        go_wp2
        go_ret
        rw [HK.out, if_neg HL.out]
        have hba : Below w3.heap.size w3 (w3.alloc (.cells #[.slice none 0 0] 26)) := (Below.refl _ _).alloc (Nat.le_refl _) _
        exact ⟨rfl, (Turn.of_below hb _).trans (Turn.of_below hba _), _, es, (HMM.out.below hb).below hba⟩

end Go.Proofs.YtddmldfdakmecaaGreatDoor
