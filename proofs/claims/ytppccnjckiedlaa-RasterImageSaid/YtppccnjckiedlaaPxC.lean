/- The contract of Over of package pixel. -/
import Derived.Test.YtppccnjckiedlaaPxB
namespace Go.Proofs.Ytppccnjckiedlaa
open Go.RowKit Pl
set_option linter.unusedVariables false
set_option linter.unusedSimpArgs false

end Go.Proofs.Ytppccnjckiedlaa
