/- The iterator over the positions of a tile, and 'rearrange'. -/
import Derived.RangeFuncNested
import Derived.RangeFuncBound
import Derived.RangeFuncCalls
import Derived.RangeFuncLeaves
import Derived.RangeFuncFrom
import Derived.OwnWalkIn
import Derived.TacticsInMore
import Derived.LoopNIn
import Derived.LoopIn
import Derived.Test.YtppccnjckiedlaaTa
namespace Go.Proofs.Ytppccnjckiedlaa
open Go.RowKit Pl
attribute [local go_sem] Oper.semAt_some
set_option linter.unusedVariables false
set_option linter.unusedSimpArgs false
set_option maxRecDepth 20000

/-- Position number i: column and row. -/
abbrev posV (i : Fin 64) : Array Value := #[.int .i64 ((i.val : Int) % 8), .int .i64 ((i.val : Int) / 8)]
/-- The first k positions. -/
def upto (k : Nat) : List (Fin 64) := (List.finRange 64).take k
theorem upto_succ (k : Nat) (h : k < 64) : upto (k + 1) = upto k ++ [⟨k, h⟩] := by
  unfold upto
  rw [List.take_succ_eq_append_getElem (by simp; omega)]
  simp
theorem upto_length (k : Nat) (h : k ≤ 64) : (upto k).length = k := by unfold upto; simp; omega

end Go.Proofs.Ytppccnjckiedlaa
