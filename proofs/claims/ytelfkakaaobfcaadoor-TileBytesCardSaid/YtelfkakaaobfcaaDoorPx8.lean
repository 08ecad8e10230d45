/- Contracts of the reference's Blend, channel, Over, Mix. -/
import Derived.Test.YtelfkakaaobfcaaDoorPx7
namespace Go.Proofs.YtelfkakaaobfcaaDoor
open Go.RowKit Pl
set_option linter.unusedVariables false
set_option linter.unusedSimpArgs false

end Go.Proofs.YtelfkakaaobfcaaDoor
