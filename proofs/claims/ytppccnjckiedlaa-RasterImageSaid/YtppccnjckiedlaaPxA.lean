/- Contracts of the reference's Mix and of Over and Mix of package pixel. -/
import Derived.Test.YtppccnjckiedlaaPx9
import Derived.Deep.RegionHeld3
namespace Go.Proofs.Ytppccnjckiedlaa
open Go.RowKit Pl
set_option linter.unusedVariables false
set_option linter.unusedSimpArgs false


end Go.Proofs.Ytppccnjckiedlaa
