/- The law NewsrcAlgebra answers true. -/
import Derived.Test.YtddmldfdakmecaaGreatDoorNwLawAlgTT
import Derived.Test.YtddmldfdakmecaaGreatDoorNwLawAlgTF
import Derived.Test.YtddmldfdakmecaaGreatDoorNwLawAlgFT
import Derived.Test.YtddmldfdakmecaaGreatDoorNwLawAlgFF
import Derived.Test.YtddmldfdakmecaaGreatDoorNwLawAlgX
namespace Go.Proofs.YtddmldfdakmecaaGreatDoor
open Go.RowKit Go.Gn Go.El Go.Nw
theorem lawAlgebra_any (a : Option Addr) (n c : Nat) (za : List Rg) (a' : Option Addr) (n' c' : Nat) (zb : List Rg) (x : Int) (w : World) (hM : ML w) (hT : TB w) (hn : za.length = n) (hR : RE TG w a za) (hn' : zb.length = n') (hR' : RE TG w a' zb) :
    GivesB Tryz.prog 5 #[.slice a n c, .slice a' n' c', .int .i64 x] (.bool true) w := by
  by_cases h1 : n ≤ 60 ∧ n' ≤ 60
  case neg => exact lawAlgebra_big a n c za a' n' c' zb x w hn hn' hR hR' hM hT h1
  by_cases h2 : (∀ r ∈ za, validB r = true) ∧ (∀ r ∈ zb, validB r = true)
  case neg => exact lawAlgebra_bad a n c za a' n' c' zb x w hn hn' hR hR' hM hT h1.1 h1.2 h2
  cases hp : memB x (normal za) <;> cases hq : memB x (normal zb)
  · exact lawAlgebra_ff a n c za a' n' c' zb x w hn hn' hR hR' hM hT h1.1 h1.2 h2.1 h2.2 hp hq
  · exact lawAlgebra_ft a n c za a' n' c' zb x w hn hn' hR hR' hM hT h1.1 h1.2 h2.1 h2.2 hp hq
  · exact lawAlgebra_tf a n c za a' n' c' zb x w hn hn' hR hR' hM hT h1.1 h1.2 h2.1 h2.2 hp hq
  · exact lawAlgebra_tt a n c za a' n' c' zb x w hn hn' hR hR' hM hT h1.1 h1.2 h2.1 h2.2 hp hq
end Go.Proofs.YtddmldfdakmecaaGreatDoor
