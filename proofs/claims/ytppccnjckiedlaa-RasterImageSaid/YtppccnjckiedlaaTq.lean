/- Quiet walks through regions that draw their order: tiles and pixels loaded. -/
import Derived.Test.YtppccnjckiedlaaTx
import Derived.Test.YtppccnjckiedlaaPxC
namespace Go.Proofs.Ytppccnjckiedlaa
open Go.RowKit Pl
set_option linter.unusedVariables false
set_option linter.unusedSimpArgs false
set_option maxRecDepth 20000

theorem ov_tile {w : World} {b : Nat} {f : Nat → Px} (h : TileAt w b f) : ∀ w', (∃ u, w' = ov w u) → TileAt w' b f := by
  rintro w' ⟨u, rfl⟩
  exact h.of_eq ((ov_below w u).block _ h.lt)
theorem ov_px {w : World} {b : Nat} {p : Px} (h : PixAt w b p) : ∀ w', (∃ u, w' = ov w u) → PixAt w' b p := by
  rintro w' ⟨u, rfl⟩
  exact h.of_eq ((ov_below w u).block _ h.lt)
section
variable {C : World → Prop} {a : Act} {o : Oper} {K : Act → Prop}
theorem quiet_loadT {f : Nat → Px} {x : Operand} (h : o.op = .load 40 x) (b' : Nat) (hx : a.eval x = .pointer (some ⟨b', 0, none⟩)) (ht : ∀ w, C w → TileAt w b' f) (hk : K (a.put o.dst (Tile.v f))) : o.quiet Try.prog a C K :=
  ⟨_, fun w hw => by unfold Oper.quietAt execOp; simp only [h, hx, run_load_tile (ht w hw), Sem.run_bind, Sem.run_pure, Result.andThen_ok]; exact ⟨rfl, rfl⟩, hk⟩
theorem quiet_loadPx {p : Px} {x : Operand} (h : o.op = .load 37 x) (b : Nat) (hx : a.eval x = .pointer (some ⟨b, 0, none⟩)) (ht : ∀ w, C w → PixAt w b p) (hk : K (a.put o.dst (Px.v p))) : o.quiet Try.prog a C K :=
  ⟨_, fun w hw => by unfold Oper.quietAt execOp; simp only [h, hx, run_load_px (ht w hw), Sem.run_bind, Sem.run_pure, Result.andThen_ok]; exact ⟨rfl, rfl⟩, hk⟩
theorem quiet_loadTp {f : Nat → Px} {x : Operand} {b : Nat} (h : o.op = .load 37 x) (j' : Nat) (hx : a.eval x = .pointer (some ⟨b, j', none⟩)) (ht : ∀ w, C w → TileAt w b f) (i : Nat) (hi : i < 64) (hj : j' = i * 4) (hk : K (a.put o.dst (Px.v (f i)))) : o.quiet Try.prog a C K :=
  ⟨_, fun w hw => by subst hj; unfold Oper.quietAt execOp; simp only [h, hx, run_load_tp (ht w hw) hi, Sem.run_bind, Sem.run_pure, Result.andThen_ok]; exact ⟨rfl, rfl⟩, hk⟩
end
@[go_sem] theorem guard_px (op : BinOp) (x y : Operand) (p q : Px) (w : World) : (eqGuard op 37 x y (Px.v p) (Px.v q)).run Try.prog w = .ok () w := run_eqGuard_agg w op 37 x y _ _ (by kernel_rfl)
@[go_sem] theorem guard_tile (op : BinOp) (x y : Operand) (p q : Nat → Px) (w : World) : (eqGuard op 40 x y (Tile.v p) (Tile.v q)).run Try.prog w = .ok () w := by
  unfold Tile.v
  exact run_eqGuard_agg w op 40 x y _ _ (by kernel_rfl)
end Go.Proofs.Ytppccnjckiedlaa
