/- Contracts of Zero, Solid, and of the reference's Flip and Turn. -/
import Derived.Test.YtelfkakaaobfcaaDoorTy
namespace Go.Proofs.YtelfkakaaobfcaaDoor
open Go.RowKit Pl
set_option linter.unusedVariables false
set_option linter.unusedSimpArgs false
set_option maxRecDepth 20000

/-- The pixels in d are those of g, the others those of f. -/
def mixT (d : Nat → Bool) (f g : Nat → Px) : Nat → Px := fun j => if d j = true then g j else f j
theorem mixT_next {d d' : Nat → Bool} {f g : Nat → Px} {i : Nat} {p : Px} (hp : p = g i) (h : ∀ j, j < 64 → d' j = (d j || decide (j = i))) : tileC (upd (mixT d f g) i p) = tileC (mixT d' f g) :=
  tileC_congr fun j hj => by
    unfold upd mixT
    rw [h j hj]
    by_cases e : j = i
    · subst e; simp [hp]
    · simp [e]
theorem mixT_all {d : Nat → Bool} {f g : Nat → Px} (h : ∀ j, j < 64 → d j = true) : tileC (mixT d f g) = tileC g := tileC_congr fun j hj => by unfold mixT; rw [if_pos (h j hj)]
theorem mixT_none {d : Nat → Bool} {f g : Nat → Px} (h : ∀ j, j < 64 → d j = false) : tileC f = tileC (mixT d f g) := tileC_congr fun j hj => by unfold mixT; rw [if_neg (by rw [h j hj]; simp)]
theorem mixT_same {d d' : Nat → Bool} {f g : Nat → Px} (h : ∀ j, j < 64 → d j = d' j) : tileC (mixT d f g) = tileC (mixT d' f g) := tileC_congr fun j hj => by unfold mixT; rw [h j hj]
def doneFlip (y x j : Nat) : Bool := decide (j < 8 * y + x)
def doneTurn (y x j : Nat) : Bool := decide (7 - j % 8 < y ∨ (7 - j % 8 = y ∧ j / 8 < x))


def zeroB (t : Nat → Px) : Bool := decide (∀ i ∈ List.range 64, (t i).a = 0)
theorem zero_eq (t : Nat → Px) : eqT (cleanT t) (fun _ => Px.zero) = zeroB t := by
  unfold eqT zeroB
  rw [Bool.eq_iff_iff]
  simp only [decide_eq_true_eq]
  refine ⟨fun h i hi => ?_, fun h i hi => ?_⟩
  · have := h i hi
    unfold cleanT cleanP at this
    split at this
    · assumption
    · rw [this]; rfl
  · unfold cleanT cleanP
    rw [if_pos (h i hi)]
theorem eql_clean (t : Nat → Px) (w : World) : (binOp .eql 25 (Tile.v (cleanT t)) (Tile.v fun _ => Px.zero)).run Tryd.prog w = .ok (.bool (zeroB t)) w := by
  rw [eql_tile, zero_eq]



def solidB (t : Nat → Px) : Bool := eqT t (fillT (t 0))
def solidP (t : Nat → Px) : Px := if solidB t = true then t 0 else Px.zero
theorem PixAt.cells {w : World} {b : Nat} {p : Px} (h : PixAt w b p) : w.cell? ⟨b, 0, none⟩ = some (.int .u8 p.r) ∧ w.cell? ⟨b, 1, none⟩ = some (.int .u8 p.g) ∧ w.cell? ⟨b, 2, none⟩ = some (.int .u8 p.b) ∧ w.cell? ⟨b, 3, none⟩ = some (.int .u8 p.a) := by
  obtain ⟨hc, _⟩ := cells_of_block h
  exact ⟨hc 0, hc 1, hc 2, hc 3⟩
end Go.Proofs.YtelfkakaaobfcaaDoor
