/- Contracts of Blend of package pixel. -/
import Derived.Test.YtppccnjckiedlaaPx3
import Derived.Deep.RegionWith
namespace Go.Proofs.Ytppccnjckiedlaa
open Go.RowKit Pl
set_option linter.unusedVariables false
set_option linter.unusedSimpArgs false

end Go.Proofs.Ytppccnjckiedlaa
