/- Contracts of 'channels', Clean, Fade, of package pixel and of the reference's. -/
import Derived.Test.YtppccnjckiedlaaPx5
import Derived.Test.YtppccnjckiedlaaAb
namespace Go.Proofs.Ytppccnjckiedlaa
open Go.RowKit Pl
set_option linter.unusedVariables false
set_option linter.unusedSimpArgs false

end Go.Proofs.Ytppccnjckiedlaa
