/- Boxing and making, with a name for the new block. -/
import Derived.Test.YtppccnjckiedlaaTz
namespace Go.Proofs.Ytppccnjckiedlaa
open Go.RowKit Pl
set_option linter.unusedVariables false
set_option linter.unusedSimpArgs false
set_option maxRecDepth 20000
section
variable {ops : Array Oper} {rest : List Oper} {o : Oper} {a : Act} {w : World} {Q : Exit → Act → World → Prop}
theorem wpList_loadTw (hw : Region.wanted o (yielded ops a.tmps) = true) (x : Operand) (ho : o.op = .load 40 x) (b : Nat) (hx : a.eval x = .pointer (some ⟨b, 0, none⟩)) {f : Nat → Px} (ht : TileAt w b f)
    (h : wpList Try.prog ops Q rest (a.put o.dst (Tile.v f)) w) : wpList Try.prog ops Q (o :: rest) a w := by
  unfold wpList
  rw [if_pos hw]
  left
  unfold Oper.wp execOp
  simp only [ho, hx, run_load_tile ht, Sem.run_bind, Sem.run_pure, Result.andThen_ok]
  exact h
theorem wpList_boxT' (hg : o.guard = none) (x : Operand) (ho : o.op = .box 40 x) (f : Nat → Px) (hx : a.eval x = Tile.v f)
    (h : ∀ b w', w.heap.size ≤ b → b ≤ w.heap.size → TileAt w' b f → Below b w w' → w'.heap.size = b + 1 → wpList Try.prog ops Q rest (a.put o.dst (.pointer (some ⟨b, 0, none⟩))) w') : wpList Try.prog ops Q (o :: rest) a w :=
  wpList_boxT hg x ho f hx fun w' h1 h2 h3 => h _ w' (Nat.le_refl _) (Nat.le_refl _) h1 h2 h3
theorem wpList_boxPx' (hg : o.guard = none) (x : Operand) (ho : o.op = .box 37 x) (p : Px) (hx : a.eval x = Px.v p)
    (h : ∀ b w', w.heap.size ≤ b → b ≤ w.heap.size → PixAt w' b p → Below b w w' → w'.heap.size = b + 1 → wpList Try.prog ops Q rest (a.put o.dst (.pointer (some ⟨b, 0, none⟩))) w') : wpList Try.prog ops Q (o :: rest) a w :=
  wpList_boxPx hg x ho p hx fun w' h1 h2 h3 => h _ w' (Nat.le_refl _) (Nat.le_refl _) h1 h2 h3
theorem wpList_allocT' (hg : o.guard = none) (ho : o.op = .alloc 40)
    (h : ∀ b w', w.heap.size ≤ b → b ≤ w.heap.size → TileAt w' b (fun _ => Px.zero) → Below b w w' → w'.heap.size = b + 1 → wpList Try.prog ops Q rest (a.put o.dst (.pointer (some ⟨b, 0, none⟩))) w') : wpList Try.prog ops Q (o :: rest) a w :=
  wpList_allocT hg ho fun w' h1 h2 h3 => h _ w' (Nat.le_refl _) (Nat.le_refl _) h1 h2 h3
theorem wpList_allocPx' (hg : o.guard = none) (ho : o.op = .alloc 37)
    (h : ∀ b w', w.heap.size ≤ b → b ≤ w.heap.size → PixAt w' b Px.zero → Below b w w' → w'.heap.size = b + 1 → wpList Try.prog ops Q rest (a.put o.dst (.pointer (some ⟨b, 0, none⟩))) w') : wpList Try.prog ops Q (o :: rest) a w :=
  wpList_allocPx hg ho fun w' h1 h2 h3 => h _ w' (Nat.le_refl _) (Nat.le_refl _) h1 h2 h3
end
theorem TileAt.carry {w w' : World} {B b : Nat} {f : Nat → Px} (h : TileAt w b f) (k : Below B w w') (hb : b < B) : TileAt w' b f := h.of_eq (k.block _ hb)
theorem PixAt.carry {w w' : World} {B b : Nat} {p : Px} (h : PixAt w b p) (k : Below B w w') (hb : b < B) : PixAt w' b p := h.of_eq (k.block _ hb)
end Go.Proofs.Ytppccnjckiedlaa
