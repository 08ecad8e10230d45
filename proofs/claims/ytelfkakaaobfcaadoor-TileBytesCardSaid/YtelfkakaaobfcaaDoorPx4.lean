/- Contracts of Blend of package pixel. -/
import Derived.Test.YtelfkakaaobfcaaDoorPx3
import Derived.Deep.RegionWith
namespace Go.Proofs.YtelfkakaaobfcaaDoor
open Go.RowKit Pl
set_option linter.unusedVariables false
set_option linter.unusedSimpArgs false

end Go.Proofs.YtelfkakaaobfcaaDoor
