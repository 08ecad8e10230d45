/- The contract of Over of package pixel. -/
import Derived.Test.YtelfkakaaobfcaaDoorPxB
namespace Go.Proofs.YtelfkakaaobfcaaDoor
open Go.RowKit Pl
set_option linter.unusedVariables false
set_option linter.unusedSimpArgs false

end Go.Proofs.YtelfkakaaobfcaaDoor
