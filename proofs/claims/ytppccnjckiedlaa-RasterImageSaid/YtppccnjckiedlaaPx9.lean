/- Contracts of the reference's channel, Over, Mix. -/
import Derived.Test.YtppccnjckiedlaaPx8
namespace Go.Proofs.Ytppccnjckiedlaa
open Go.RowKit Pl
set_option linter.unusedVariables false
set_option linter.unusedSimpArgs false

theorem overW_def (u v : Int) : 255 * u + 255 * v - u * v = overW u v := rfl

end Go.Proofs.Ytppccnjckiedlaa
