/- Contracts of the reference's Mix and of Over and Mix of package pixel. -/
import Derived.Test.YtelfkakaaobfcaaDoorPx9
import Derived.Deep.RegionHeld3
namespace Go.Proofs.YtelfkakaaobfcaaDoor
open Go.RowKit Pl
set_option linter.unusedVariables false
set_option linter.unusedSimpArgs false


end Go.Proofs.YtelfkakaaobfcaaDoor
