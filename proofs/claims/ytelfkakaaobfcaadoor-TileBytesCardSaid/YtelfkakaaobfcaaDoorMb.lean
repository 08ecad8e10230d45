/- Contracts of (*Mean).Add, of package pixel and of the reference. -/
import Derived.Test.YtelfkakaaobfcaaDoorMa
import Derived.Test.YtelfkakaaobfcaaDoorPx7
import Derived.Lib.MinMax
namespace Go.Proofs.YtelfkakaaobfcaaDoor
open Go.RowKit Pl
set_option linter.unusedVariables false
set_option linter.unusedSimpArgs false

/-- The block b holds a Mean of package pixel. -/
def PMean (w : World) (b : Nat) (s : Acc) : Prop := w.heap[b]? = some (.cells #[.int .i64 s.r, .int .i64 s.g, .int .i64 s.b, .int .i64 s.a, .int .i64 s.n] 66 (0, 0))

theorem index4 (x0 x1 x2 x3 : Value) (w : World) :
    (Instr.index 64 (.agg #[x0, x1, x2, x3]) (.int .i64 0)).run Tryd.prog w = .ok x0 w ∧ (Instr.index 64 (.agg #[x0, x1, x2, x3]) (.int .i64 1)).run Tryd.prog w = .ok x1 w ∧
    (Instr.index 64 (.agg #[x0, x1, x2, x3]) (.int .i64 2)).run Tryd.prog w = .ok x2 w ∧ (Instr.index 64 (.agg #[x0, x1, x2, x3]) (.int .i64 3)).run Tryd.prog w = .ok x3 w := by
  refine ⟨?_, ?_, ?_, ?_⟩ <;> kernel_rfl


end Go.Proofs.YtelfkakaaobfcaaDoor
