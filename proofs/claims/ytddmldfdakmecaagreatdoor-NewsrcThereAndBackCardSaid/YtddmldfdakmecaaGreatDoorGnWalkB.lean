/- Walk of groupname.component: for every string. -/
import Derived.Test.YtddmldfdakmecaaGreatDoorGnWalkA
import Derived.Test.YtddmldfdakmecaaGreatDoorGnIdx
import Derived.Test.YtddmldfdakmecaaGreatDoorShelf
namespace Go.Proofs.YtddmldfdakmecaaGreatDoor
open Go.RowKit Go.Gn

abbrev bs (s : ByteArray) : Str := s.data.toList

theorem component1_at (w : World) : PredAt Tryz.prog 140 #[] encR (fun r => !permitted r) w := fun W r _ => by
  unfold FnGives
  go_enter Tryz.func140, Tryz.ntmps140
  go_wp2_with (go_at_call 141; refine (permitted_any r _).mono ?_; rintro e w' ⟨rfl, rfl⟩)
  go_ret
  exact ⟨rfl, 0, rfl⟩

theorem component_false {c : UInt8} {cs : Str} (h : 20 < cs.length + 1 ∨ c.toNat < 97 ∨ 122 < c.toNat) : false = component (c :: cs) := by
  simp [component]; intros; omega
theorem component_true {c : UInt8} {cs : Str} (h : cs.length + 1 ≤ 20) (h1 : 97 ≤ c.toNat) (h2 : c.toNat ≤ 122) :
    (c :: cs).all (fun c => permitted c.toNat) = component (c :: cs) := by
  simp only [component, List.length_cons, h, h1, h2, decide_true, Bool.true_and]

set_option maxHeartbeats 400000 in
/-- 'component'. -/
theorem component_any (s : ByteArray) (w : World) :
    Calls Tryz.prog 112 #[.string s] w fun e w' => e = .returned (.bool (component (bs s))) ∧ Below w.heap.size w w' := by
  have hC := fun W => Tryz.strings_ContainsFunc 140 #[] (enters_of Tryz.func140 (by kernel_rfl) rfl) _ s W (component1_at W)
  rw [idx_permitted] at hC
  obtain ⟨⟨l⟩⟩ := s
  match l with
  | [] =>
    go_enter Tryz.func112, Tryz.ntmps112
    go_wp2
    go_ret
    exact ⟨rfl, Below.refl _ _⟩
  | c :: cs =>
    have e0 : ∀ h, (ByteArray.mk ⟨c :: cs⟩)[0]'h = c := fun _ => rfl
    generalize hb : (!(ByteArray.mk ⟨c :: cs⟩).data.toList.all fun c => permitted c.toNat) = b at hC
    have HB := Lib.hid hb
    clear hb
    go_enter Tryz.func112, Tryz.ntmps112
    go_wp2_with (go_at_call 139; refine (hC _).mono ?_; rintro e w' ⟨rfl, hbw⟩)
    all_goals first
      | (go_ret; exact ⟨ret_bool (component_false (by omega)), Below.refl _ _⟩)
      | (go_ret; exact ⟨ret_bool ((by rw [← HB.out, Bool.not_not] : (!b) = _).trans (component_true (by omega) (by omega) (by omega))), hbw⟩)

end Go.Proofs.YtddmldfdakmecaaGreatDoor
