/- Contracts of 'functions' and 'Blend' of package pixel and of the reference's Blend. -/
import Derived.Test.YtppccnjckiedlaaPx2
import Derived.Handy
import Derived.Laws.EntriesVeiled
namespace Go.Proofs.Ytppccnjckiedlaa
open Go.RowKit Pl
set_option linter.unusedVariables false
set_option linter.unusedSimpArgs false

end Go.Proofs.Ytppccnjckiedlaa
