/- Contracts of Flip, Turn, inside, Get, Set, Fill of package tile. -/
import Derived.Test.YtppccnjckiedlaaTs
namespace Go.Proofs.Ytppccnjckiedlaa
open Go.RowKit Pl
set_option linter.unusedVariables false
set_option linter.unusedSimpArgs false
set_option maxRecDepth 20000

theorem tile_congr {f g : Nat → Px} (h : ∀ i, i < 64 → f i = g i) : Tile.v f = Tile.v g := by unfold Tile.v; rw [tileC_congr h]
def flipT (t : Nat → Px) : Nat → Px := fun j => t (8 * (j / 8) + (7 - j % 8))
def turnT (t : Nat → Px) : Nat → Px := fun j => t (8 * (7 - j % 8) + j / 8)

theorem flip_all (t : Nat → Px) : Tile.v (part (fun i => t (8 * (i.val / 8) + (7 - i.val % 8))) (upto 64)) = Tile.v (flipT t) := by
  exact congrArg Value.agg (part_all (fun i : Fin 64 => t (8 * (i.val / 8) + (7 - i.val % 8))) (flipT t) (fun i => rfl))
theorem turn_all (t : Nat → Px) : Tile.v (part (fun i => t (8 * (7 - i.val % 8) + i.val / 8)) (upto 64)) = Tile.v (turnT t) := by
  exact congrArg Value.agg (part_all (fun i : Fin 64 => t (8 * (7 - i.val % 8) + i.val / 8)) (turnT t) (fun i => rfl))

end Go.Proofs.Ytppccnjckiedlaa
