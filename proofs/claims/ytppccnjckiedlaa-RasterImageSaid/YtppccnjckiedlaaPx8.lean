/- Contracts of the reference's Blend, channel, Over, Mix. -/
import Derived.Test.YtppccnjckiedlaaPx7
namespace Go.Proofs.Ytppccnjckiedlaa
open Go.RowKit Pl
set_option linter.unusedVariables false
set_option linter.unusedSimpArgs false

end Go.Proofs.Ytppccnjckiedlaa
