/- The element types of the packages newsrc and bulletinref46, and the small functions article, valid, limited. -/
import Derived.Test.YtddmldfdakmecaaGreatDoorGnWalkL
import Derived.Test.YtddmldfdakmecaaGreatDoorNwEl
import Derived.Test.YtddmldfdakmecaaGreatDoorNwComb
import Derived.Deep.QuietTactic
import Derived.BigQuiet
import Derived.Deep.RegionHeld3
namespace Go.Proofs.YtddmldfdakmecaaGreatDoor
open Go.RowKit Go.Gn Go.El Go.Nw

/-- A range's two cells. -/
def rgc (r : Rg) : List Value := [.int .i64 r.1, .int .i64 r.2]
theorem rgc_one : ∀ x, ∀ v ∈ rgc x, v.oneCell' = true := by
  intro x v hv
  simp only [rgc, List.mem_cons, List.not_mem_nil, or_false] at hv
  rcases hv with rfl | rfl <;> rfl
/-- []newsrc.Range. -/
def TR : Ty Tryz.prog Rg where
  e := 92
  s := 24
  k := 2
  by' := 16
  enc := rgc
  zero := .agg #[.int .i64 0, .int .i64 0]
  under := Tryz.underlying24
  info := by kernel_rfl
  len := fun _ => rfl
  one := rgc_one
  zlen := rfl
  kpos := by decide
  small := by decide
/-- []bulletinref46.Rg. -/
def TG : Ty Tryz.prog Rg where
  e := 37
  s := 22
  k := 2
  by' := 16
  enc := rgc
  zero := .agg #[.int .i64 0, .int .i64 0]
  under := Tryz.underlying22
  info := by kernel_rfl
  len := fun _ => rfl
  one := rgc_one
  zlen := rfl
  kpos := by decide
  small := by decide
/-- []int. -/
def TN : Ty Tryz.prog Int where
  e := 3
  s := 53
  k := 1
  by' := 8
  enc := fun n => [.int .i64 n]
  zero := .int .i64 0
  under := Tryz.underlying53
  info := by kernel_rfl
  len := fun _ => rfl
  one := fun x v hv => by obtain rfl := List.mem_singleton.1 hv; rfl
  zlen := rfl
  kpos := by decide
  small := by decide

theorem RE.rg {T : Ty Tryz.prog Rg} (hk : T.k = 2) (he : T.enc = rgc) {w : World} {a : Option Addr} {zs : List Rg} (h : RE T w a zs) {k : Nat} (hlt : k < zs.length) :
    ∃ b off, a = some ⟨b, off, none⟩ ∧ b < w.heap.size ∧ w.cell? ⟨b, off + k * 2, none⟩ = some (.int .i64 zs[k].1) ∧ w.cell? ⟨b, off + k * 2 + 1, none⟩ = some (.int .i64 zs[k].2) := by
  obtain ⟨b, off, ha, hb, hc⟩ := h.some hlt
  rw [hk, he] at hc
  exact ⟨b, off, ha, hb, hc 0 _ rfl, hc 1 _ rfl⟩

def artB (n : Int) : Bool := decide (1 ≤ n) && decide (n ≤ 1099511627776)
def validB (r : Rg) : Bool := artB r.1 && (artB r.2 && decide (r.1 ≤ r.2))
theorem artB_iff {n : Int} : artB n = true ↔ 1 ≤ n ∧ n ≤ 1099511627776 := by unfold artB; simp
theorem validB_iff {r : Rg} : validB r = true ↔ 1 ≤ r.1 ∧ r.2 ≤ 1099511627776 ∧ r.1 ≤ r.2 := by
  unfold validB; rw [Bool.and_eq_true, Bool.and_eq_true, artB_iff, artB_iff, decide_eq_true_eq]; omega

theorem article_any (n : Int) (w : World) : Calls Tryz.prog 60 #[.int .i64 n] w fun e w' => e = .returned (.bool (artB n)) ∧ w' = w := by
  by_cases h1 : 1 ≤ n
  · by_cases h2 : n ≤ 1099511627776
    · have H : Hid (artB n = true) := artB_iff.2 ⟨h1, h2⟩
      go_enter Tryz.func60, Tryz.ntmps60
      go_wp2
      go_ret
      exact ⟨ret_bool H.out.symm, rfl⟩
    · have H : Hid (artB n = false) := by unfold Hid; rw [← Bool.not_eq_true, artB_iff]; omega
      go_enter Tryz.func60, Tryz.ntmps60
      go_wp2
      go_ret
      exact ⟨ret_bool H.out.symm, rfl⟩
  · have H : Hid (artB n = false) := by unfold Hid; rw [← Bool.not_eq_true, artB_iff]; omega
    go_enter Tryz.func60, Tryz.ntmps60
    go_wp2
    go_ret
    exact ⟨ret_bool H.out.symm, rfl⟩

theorem valid_any (r : Rg) (w : World) : GivesB Tryz.prog 51 #[.agg #[.int .i64 r.1, .int .i64 r.2]] (.bool (validB r)) w := by
  have h1 := article_any r.1
  have h2 := article_any r.2
  have HV : Hid (validB r = (artB r.1 && (artB r.2 && decide (r.1 ≤ r.2)))) := rfl
  obtain ⟨x, y⟩ := r
  simp only at h1 h2 HV ⊢
  unfold GivesB
  have hb : Below w.heap.size w (w.alloc (.cells #[.int .i64 x, .int .i64 y] 92)) := (Below.refl _ _).alloc (Nat.le_refl _) _
  cases ha : artB x with
  | false =>
    rw [ha] at h1 HV
    go_enter Tryz.func51, Tryz.ntmps51
    go_wp2_with (go_at_call 60; refine (h1 _).mono ?_; rintro e w' ⟨rfl, rfl⟩)
    go_ret
    exact ⟨ret_bool HV.out.symm, hb⟩
  | true =>
    rw [ha] at h1 HV
    cases hc : artB y with
    | false =>
      rw [hc] at h2 HV
      go_enter Tryz.func51, Tryz.ntmps51
      go_wp2_with fail
      refine (h1 _).mono ?_; rintro e w' ⟨rfl, rfl⟩
      go_wp2_with fail
      refine (h2 _).mono ?_; rintro e w' ⟨rfl, rfl⟩
      go_wp2_with fail
      go_ret
      exact ⟨ret_bool HV.out.symm, hb⟩
    | true =>
      rw [hc] at h2 HV
      go_enter Tryz.func51, Tryz.ntmps51
      go_wp2_with fail
      refine (h1 _).mono ?_; rintro e w' ⟨rfl, rfl⟩
      go_wp2_with fail
      refine (h2 _).mono ?_; rintro e w' ⟨rfl, rfl⟩
      go_wp2_with fail
      go_ret
      exact ⟨ret_bool (by rw [HV.out]; simp), hb⟩

end Go.Proofs.YtddmldfdakmecaaGreatDoor
