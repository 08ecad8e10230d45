/- Contracts of Clean, Fade of package pixel and of the reference, and of the reference's Blend, Over, Mix. -/
import Derived.Test.YtelfkakaaobfcaaDoorPx6
namespace Go.Proofs.YtelfkakaaobfcaaDoor
open Go.RowKit Pl
set_option linter.unusedVariables false
set_option linter.unusedSimpArgs false

end Go.Proofs.YtelfkakaaobfcaaDoor
