/- Contracts of Fill and Clean of package tile and of the reference. -/
import Derived.Test.YtppccnjckiedlaaTv
namespace Go.Proofs.Ytppccnjckiedlaa
open Go.RowKit Pl
set_option linter.unusedVariables false
set_option linter.unusedSimpArgs false
set_option maxRecDepth 20000

def fillT (p : Px) : Nat → Px := fun _ => p
def cleanT (t : Nat → Px) : Nat → Px := fun i => cleanP (t i)
def zeroT : Nat → Px := fun _ => Px.zero

end Go.Proofs.Ytppccnjckiedlaa
