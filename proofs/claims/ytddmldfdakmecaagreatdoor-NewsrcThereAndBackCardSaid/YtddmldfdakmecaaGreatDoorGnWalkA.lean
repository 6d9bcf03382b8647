/- Walk of groupname.permitted: for every rune. -/
import Derived.Test.YtddmldfdakmecaaGreatDoorProg
import Derived.Test.YtddmldfdakmecaaGreatDoorGnPure
import Derived.WalkKit
import Derived.Lib.Hide
import Derived.WalkSpells
import Derived.WalkLawsBesides
namespace Go.Proofs.YtddmldfdakmecaaGreatDoor
open Go.RowKit Go.Gn

theorem ret_bool {a b : Bool} (h : a = b) : Ending.returned (.bool a) = Ending.returned (.bool b) := by rw [h]

set_option maxHeartbeats 400000 in
/-- 'permitted'. -/
theorem permitted_any (r : Nat) (w : World) :
    Calls Tryz.prog 141 #[.int .i32 (r : Int)] w fun e w' => e = .returned (.bool (permitted r)) ∧ w' = w := by
  have hc : r < 43 ∨ r = 43 ∨ r = 44 ∨ r = 45 ∨ (46 ≤ r ∧ r ≤ 47) ∨ (48 ≤ r ∧ r ≤ 57) ∨ (58 ≤ r ∧ r ≤ 94) ∨ r = 95 ∨ r = 96 ∨ (97 ≤ r ∧ r ≤ 122) ∨ 122 < r := by omega
  rcases hc with h | rfl | rfl | rfl | ⟨h, h'⟩ | ⟨h, h'⟩ | ⟨h, h'⟩ | rfl | rfl | ⟨h, h'⟩ | h
  all_goals
    go_enter Tryz.func141, Tryz.ntmps141
    go_wp2
    go_ret
    exact ⟨ret_bool (by first | decide | (rw [Bool.eq_iff_iff]; simp [permitted]; omega)), rfl⟩

end Go.Proofs.YtddmldfdakmecaaGreatDoor
