/- One operation of a region walked through all its orders. -/
import Derived.Test.YtelfkakaaobfcaaTz
import Derived.Deep.RegionHeld3
import Derived.Deep.CutBlock
import Derived.Deep.DeepCutAuto
namespace Go.Proofs.Ytelfkakaaobfcaa
open Go.RowKit Pl
set_option linter.unusedVariables false
set_option linter.unusedSimpArgs false

theorem ite_of {c : Prop} [Decidable c] {p q : Prop} (h : c) (hp : p) : if c then p else q := by rw [if_pos h]; exact hp
section
variable {o : Oper} {a : Act} {w : World} {Q : Exit → Act → World → Prop} {K : Act → World → Prop}
theorem owp_loadPx (x : Operand) (b : Nat) {p : Px} (ho : o.op = .load 23 x) (hx : a.eval x = .pointer (some ⟨b, 0, none⟩)) (ht : PixAt w b p)
    (h : K (a.put o.dst (Px.v p)) w) : o.wp Try.prog a w K Q := by
  unfold Oper.wp execOp
  simp only [ho, hx, run_load_px ht, Sem.run_bind, Sem.run_pure, Result.andThen_ok]
  exact h
theorem owp_loadT (x : Operand) (b : Nat) {f : Nat → Px} (ho : o.op = .load 25 x) (hx : a.eval x = .pointer (some ⟨b, 0, none⟩)) (ht : TileAt w b f)
    (h : K (a.put o.dst (Tile.v f)) w) : o.wp Try.prog a w K Q := by
  unfold Oper.wp execOp
  simp only [ho, hx, run_load_tile ht, Sem.run_bind, Sem.run_pure, Result.andThen_ok]
  exact h
theorem owp_allocT (ho : o.op = .alloc 25)
    (h : ∀ w', TileAt w' w.heap.size (fun _ => Px.zero) → Below w.heap.size w w' → w'.heap.size = w.heap.size + 1 → K (a.put o.dst (.pointer (some ⟨w.heap.size, 0, none⟩))) w') : o.wp Try.prog a w K Q := by
  unfold Oper.wp
  rw [run_alloc_tile w o ho]
  exact h _ (by unfold TileAt; rw [heap_get_alloc, if_pos rfl]) ((Below.refl _ _).alloc (Nat.le_refl _) _) (World.size_alloc _ _)
theorem owp_storeT (x y : Operand) (b : Nat) (g : Nat → Px) {f : Nat → Px} (ho : o.op = .store 25 x y) (hx : a.eval x = .pointer (some ⟨b, 0, none⟩)) (hy : a.eval y = Tile.v g) (ht : TileAt w b f)
    (h : ∀ w', TileAt w' b g → Chg b w w' → w'.heap.size = w.heap.size → K (a.put o.dst undef) w') : o.wp Try.prog a w K Q := by
  unfold Oper.wp execOp
  simp only [ho, hx, hy, run_store_tile ht, Sem.run_bind, Sem.run_pure, Result.andThen_ok]
  exact h _ (ht.setRow g) ((Chg.refl b w).setRow _) (size_setRow _ _ _)
theorem quiet_buildPx {C : World → Prop} {K : Act → Prop} (h : o.op = .build 23 #[]) (hk : K (a.put o.dst (Px.v Px.zero))) : o.quiet Try.prog a C K :=
  ⟨_, fun w hw => by
    have e : (execOp a.eval o).run Try.prog w = .ok (.value (Px.v Px.zero)) w := by
      obtain ⟨d, p, t, ps, af, gd⟩ := o
      simp only at h
      subst h
      kernel_rfl
    unfold Oper.quietAt
    rw [e]
    exact ⟨rfl, rfl⟩, hk⟩
theorem quiet_buildT {C : World → Prop} {K : Act → Prop} (h : o.op = .build 25 #[]) (hk : K (a.put o.dst (Tile.v fun _ => Px.zero))) : o.quiet Try.prog a C K :=
  ⟨_, fun w hw => by unfold Oper.quietAt; rw [run_build_tile w o h]; exact ⟨rfl, rfl⟩, hk⟩
theorem PixAt.drew {w : World} {b : Nat} {p : Px} (h : PixAt w b p) : PixAt w.drew b p := h
theorem TileAt.drew {w : World} {b : Nat} {f : Nat → Px} (h : TileAt w b f) : TileAt w.drew b f := h
end
end Go.Proofs.Ytelfkakaaobfcaa
