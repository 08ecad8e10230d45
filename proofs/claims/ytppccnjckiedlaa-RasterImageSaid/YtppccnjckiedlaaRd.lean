/- The small structs of rasters as values and blocks. -/
import Derived.Test.YtppccnjckiedlaaRm
import Derived.Test.YtppccnjckiedlaaBk
namespace Go.Proofs.Ytppccnjckiedlaa
open Go.RowKit Pl
set_option linter.unusedVariables false
set_option linter.unusedSimpArgs false
set_option maxRecDepth 20000

/-! ### The small types -/
theorem run_alloc_Rc (w : World) (o : Oper) (ho : o.op = .alloc 64) (ev : Operand → Value) : (execOp ev o).run Try.prog w = .ok (.value (.pointer (some ⟨w.heap.size, 0, none⟩))) (w.alloc (.cells #[.int .i64 0, .int .i64 0, .int .i64 0, .int .i64 0] 64)) := by
  obtain ⟨d, p, t, ps, af, gd⟩ := o
  simp only at ho
  subst ho
  kernel_rfl
theorem run_alloc_Ps (w : World) (o : Oper) (ho : o.op = .alloc 24) (ev : Operand → Value) : (execOp ev o).run Try.prog w = .ok (.value (.pointer (some ⟨w.heap.size, 0, none⟩))) (w.alloc (.cells #[.int .i64 0, .int .i64 0] 24)) := by
  obtain ⟨d, p, t, ps, af, gd⟩ := o
  simp only at ho
  subst ho
  kernel_rfl
theorem run_alloc_Pt (w : World) (o : Oper) (ho : o.op = .alloc 83) (ev : Operand → Value) : (execOp ev o).run Try.prog w = .ok (.value (.pointer (some ⟨w.heap.size, 0, none⟩))) (w.alloc (.cells #[.int .i64 0, .int .i64 0] 83)) := by
  obtain ⟨d, p, t, ps, af, gd⟩ := o
  simp only at ho
  subst ho
  kernel_rfl
def Ps.v (x y : Int) : Value := .agg #[.int .i64 x, .int .i64 y]
theorem Rc.v_mk (a b c d : Int) : Rc.v ⟨a, b, c, d⟩ = .agg #[.int .i64 a, .int .i64 b, .int .i64 c, .int .i64 d] := rfl
theorem Rc.v_def (r : Rc) : Rc.v r = .agg #[.int .i64 r.x0, .int .i64 r.y0, .int .i64 r.x1, .int .i64 r.y1] := rfl
end Go.Proofs.Ytppccnjckiedlaa
