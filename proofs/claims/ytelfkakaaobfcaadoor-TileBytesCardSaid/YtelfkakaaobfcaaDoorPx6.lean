/- Contracts of 'channels', Clean, Fade, of package pixel and of the reference's. -/
import Derived.Test.YtelfkakaaobfcaaDoorPx5
import Derived.Test.YtelfkakaaobfcaaDoorAb
namespace Go.Proofs.YtelfkakaaobfcaaDoor
open Go.RowKit Pl
set_option linter.unusedVariables false
set_option linter.unusedSimpArgs false

end Go.Proofs.YtelfkakaaobfcaaDoor
