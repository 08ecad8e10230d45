/- Contracts of Fill (reference), Clean, Same, Zero, Solid. -/
import Derived.Test.YtelfkakaaobfcaaDoorTq
namespace Go.Proofs.YtelfkakaaobfcaaDoor
open Go.RowKit Pl
set_option linter.unusedVariables false
set_option linter.unusedSimpArgs false
set_option maxRecDepth 20000


end Go.Proofs.YtelfkakaaobfcaaDoor
