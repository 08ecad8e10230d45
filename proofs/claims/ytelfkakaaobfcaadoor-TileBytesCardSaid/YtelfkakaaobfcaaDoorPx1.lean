/- Contracts of the arithmetic functions of package pixel and of its reference: each returns what the plain function of the same name says, and leaves the world alone. -/
import Derived.Test.YtelfkakaaobfcaaDoorRows
import Derived.Test.YtelfkakaaobfcaaDoorPa
import Derived.Test.YtelfkakaaobfcaaDoorAa
namespace Go.Proofs.YtelfkakaaobfcaaDoor
open Go.RowKit Pl
set_option linter.unusedVariables false
set_option linter.unusedSimpArgs false

theorem ret_int {k : IntKind} {a b : Int} (h : a = b) : Ending.returned (.int k a) = .returned (.int k b) := by rw [h]

set_option maxHeartbeats 400000 in
theorem P_round (n d : Int) (w : World) (h0 : 0 ≤ n) (h1 : n ≤ 1000000000000000) (h2 : 1 ≤ d) (h3 : d ≤ 1000000000000000) :
    Calls Tryd.prog 44 #[.int .i64 n, .int .i64 d] w fun e w' => e = .returned (.int .i64 (roundI n d)) ∧ w = w' := by
  have h4 : ¬ (2 * d = 0) := by omega
  go_enter Tryd.func44, Tryd.ntmps44
  go_wp2
  go_ret
  exact ⟨rfl, rfl⟩

end Go.Proofs.YtelfkakaaobfcaaDoor
