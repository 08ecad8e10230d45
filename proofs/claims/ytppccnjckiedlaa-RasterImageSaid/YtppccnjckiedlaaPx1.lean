/- Contracts of the arithmetic functions of package pixel and of its reference: each returns what the plain function of the same name says, and leaves the world alone. -/
import Derived.Test.YtppccnjckiedlaaRows
import Derived.Test.YtppccnjckiedlaaPa
import Derived.Test.YtppccnjckiedlaaAa
namespace Go.Proofs.Ytppccnjckiedlaa
open Go.RowKit Pl
set_option linter.unusedVariables false
set_option linter.unusedSimpArgs false

theorem ret_int {k : IntKind} {a b : Int} (h : a = b) : Ending.returned (.int k a) = .returned (.int k b) := by rw [h]

end Go.Proofs.Ytppccnjckiedlaa
