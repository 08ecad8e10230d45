/- Laws of the walk for pixels: a pixel of a tile loaded and stored, a pixel boxed, made, loaded, stored. The worlds behind are variables. -/
import Derived.Test.YtppccnjckiedlaaTu
namespace Go.Proofs.Ytppccnjckiedlaa
open Go.RowKit Pl
set_option linter.unusedVariables false
set_option linter.unusedSimpArgs false
set_option maxRecDepth 20000

def pxA (p : Px) : Array Value := #[.int .u8 p.r, .int .u8 p.g, .int .u8 p.b, .int .u8 p.a]
/-- The block b holds a pixel. -/
def PixAt (w : World) (b : Nat) (p : Px) : Prop := w.heap[b]? = some (.cells (pxA p) 37 (0, 0))
theorem PixAt.of_eq {w w' : World} {b : Nat} {p : Px} (h : PixAt w b p) (e : w'.heap[b]? = w.heap[b]?) : PixAt w' b p := e.trans h
theorem PixAt.lt {w : World} {b : Nat} {p : Px} (h : PixAt w b p) : b < w.heap.size := (Array.getElem?_eq_some_iff.1 h).1
theorem pxA_size (p : Px) : (Try.prog.info? 37).map (·.size) = some (pxA p).size := by
  show _ = some 4
  kernel_rfl
theorem pxA_oneCell (p : Px) : (pxA p).all (·.oneCell') = true := by simp [pxA, Value.oneCell']

theorem run_load_px {w : World} {b : Nat} {p : Px} (h : PixAt w b p) : (Instr.loadAt 37 (.pointer (some ⟨b, 0, none⟩))).run Try.prog w = .ok (Px.v p) w := by
  simp only [Instr.loadAt, Instr.sureAddr, Sem.run_bind, Sem.run_pure, Result.andThen_ok]
  exact run_loadVar_row w b _ 37 _ _ _ h Try.underlying37 rfl (pxA_size p)
theorem run_store_px {w : World} {b : Nat} {p : Px} (h : PixAt w b p) (q : Px) : (Instr.storeAt 37 (.pointer (some ⟨b, 0, none⟩)) (Px.v q)).run Try.prog w = .ok () (w.setRow b (pxA q)) := by
  simp only [Instr.storeAt, Instr.sureAddr, Sem.run_bind, Sem.run_pure, Result.andThen_ok]
  exact run_storeVar_row w b _ 37 _ _ h (pxA_size q) rfl (pxA_oneCell q)
theorem run_load_tp {w : World} {b i : Nat} {f : Nat → Px} (h : TileAt w b f) (hi : i < 64) : (Instr.loadAt 37 (.pointer (some ⟨b, i * 4, none⟩))).run Try.prog w = .ok (Px.v (f i)) w := by
  obtain ⟨c0, c1, c2, c3⟩ := h.cells hi
  simp [go_sem, c0, c1, c2, c3, Px.v]
theorem run_store_tp {w : World} {b i : Nat} {f : Nat → Px} (h : TileAt w b f) (hi : i < 64) (p : Px) : (Instr.storeAt 37 (.pointer (some ⟨b, i * 4, none⟩)) (Px.v p)).run Try.prog w =
    .ok () ((((w.setCell ⟨b, i * 4, none⟩ (.int .u8 p.r)).setCell ⟨b, i * 4 + 1, none⟩ (.int .u8 p.g)).setCell ⟨b, i * 4 + 2, none⟩ (.int .u8 p.b)).setCell ⟨b, i * 4 + 3, none⟩ (.int .u8 p.a)) := by
  obtain ⟨c0, c1, c2, c3⟩ := h.cells hi
  have hf := h.frozen
  simp [go_sem, c0, c1, c2, c3, hf, Px.v]
theorem run_alloc_px (w : World) (o : Oper) (ho : o.op = .alloc 37) (ev : Operand → Value) : (execOp ev o).run Try.prog w = .ok (.value (.pointer (some ⟨w.heap.size, 0, none⟩))) (w.alloc (.cells (pxA Px.zero) 37)) := by
  obtain ⟨d, p, t, ps, af, gd⟩ := o
  simp only at ho
  subst ho
  kernel_rfl
theorem set4_size {w : World} {b i : Nat} (v0 v1 v2 v3 : Value) : ((((w.setCell ⟨b, i, none⟩ v0).setCell ⟨b, i + 1, none⟩ v1).setCell ⟨b, i + 2, none⟩ v2).setCell ⟨b, i + 3, none⟩ v3).heap.size = w.heap.size := by
  simp only [World.size_setCell]

section
variable {ops : Array Oper} {rest : List Oper} {o : Oper} {a : Act} {w : World} {Q : Exit → Act → World → Prop}
theorem wpList_loadPx (hg : o.guard = none) (x : Operand) (ho : o.op = .load 37 x) (b : Nat) (hx : a.eval x = .pointer (some ⟨b, 0, none⟩)) {p : Px} (ht : PixAt w b p)
    (h : wpList Try.prog ops Q rest (a.put o.dst (Px.v p)) w) : wpList Try.prog ops Q (o :: rest) a w :=
  wpList_plain hg fun K hK => by
    unfold Oper.wp execOp
    simp only [ho, hx, run_load_px ht, Sem.run_bind, Sem.run_pure, Result.andThen_ok]
    exact hK _ _ h
theorem wpList_storePx (hg : o.guard = none) (x y : Operand) (ho : o.op = .store 37 x y) (b : Nat) (hx : a.eval x = .pointer (some ⟨b, 0, none⟩)) (q : Px) (hy : a.eval y = Px.v q) {p : Px} (ht : PixAt w b p)
    (h : ∀ w', PixAt w' b q → Chg b w w' → w'.heap.size = w.heap.size → wpList Try.prog ops Q rest (a.put o.dst undef) w') : wpList Try.prog ops Q (o :: rest) a w :=
  wpList_plain hg fun K hK => by
    unfold Oper.wp execOp
    simp only [ho, hx, hy, run_store_px ht q, Sem.run_bind, Sem.run_pure, Result.andThen_ok]
    exact hK _ _ (h _ (setRow_heap w b _ _ _ _ ht) ((Chg.refl b w).setRow _) (size_setRow _ _ _))
theorem wpList_loadTp (hg : o.guard = none) (x : Operand) (ho : o.op = .load 37 x) (b j : Nat) (hx : a.eval x = .pointer (some ⟨b, j, none⟩)) {f : Nat → Px} (ht : TileAt w b f) (i : Nat) (hi : i < 64) (hj : j = i * 4)
    (h : wpList Try.prog ops Q rest (a.put o.dst (Px.v (f i))) w) : wpList Try.prog ops Q (o :: rest) a w :=
  wpList_plain hg fun K hK => by
    subst hj
    unfold Oper.wp execOp
    simp only [ho, hx, run_load_tp ht hi, Sem.run_bind, Sem.run_pure, Result.andThen_ok]
    exact hK _ _ h
theorem wpList_storeTp (hg : o.guard = none) (x y : Operand) (ho : o.op = .store 37 x y) (b j : Nat) (hx : a.eval x = .pointer (some ⟨b, j, none⟩)) (q : Px) (hy : a.eval y = Px.v q) {f : Nat → Px} (ht : TileAt w b f) (i : Nat) (hi : i < 64) (hj : j = i * 4)
    (h : ∀ w', TileAt w' b (upd f i q) → Chg b w w' → w'.heap.size = w.heap.size → wpList Try.prog ops Q rest (a.put o.dst undef) w') : wpList Try.prog ops Q (o :: rest) a w :=
  wpList_plain hg fun K hK => by
    subst hj
    unfold Oper.wp execOp
    simp only [ho, hx, hy, run_store_tp ht hi q, Sem.run_bind, Sem.run_pure, Result.andThen_ok]
    exact hK _ _ (h _ (ht.set hi q) (set4_chg _ _ _ _) (set4_size _ _ _ _))
theorem wpList_boxPx (hg : o.guard = none) (x : Operand) (ho : o.op = .box 37 x) (p : Px) (hx : a.eval x = Px.v p)
    (h : ∀ w', PixAt w' w.heap.size p → Below w.heap.size w w' → w'.heap.size = w.heap.size + 1 → wpList Try.prog ops Q rest (a.put o.dst (.pointer (some ⟨w.heap.size, 0, none⟩))) w') : wpList Try.prog ops Q (o :: rest) a w :=
  Great.wpList_boxTo hg _ x ho _ rfl _ rfl (pxA p) (by rw [hx]; rfl) (h _ (by unfold PixAt; rw [heap_get_alloc, if_pos rfl]) ((Below.refl _ _).alloc (Nat.le_refl _) _) (World.size_alloc _ _))
theorem wpList_buildPx (hg : o.guard = none) (ho : o.op = .build 37 #[])
    (h : wpList Try.prog ops Q rest (a.put o.dst (Px.v Px.zero)) w) : wpList Try.prog ops Q (o :: rest) a w :=
  wpList_plain hg fun K hK => by
    have e : (execOp a.eval o).run Try.prog w = .ok (.value (Px.v Px.zero)) w := by
      obtain ⟨d, p, t, ps, af, gd⟩ := o
      simp only at ho
      subst ho
      kernel_rfl
    unfold Oper.wp
    rw [e]
    exact hK _ _ h
theorem wpList_allocPx (hg : o.guard = none) (ho : o.op = .alloc 37)
    (h : ∀ w', PixAt w' w.heap.size Px.zero → Below w.heap.size w w' → w'.heap.size = w.heap.size + 1 → wpList Try.prog ops Q rest (a.put o.dst (.pointer (some ⟨w.heap.size, 0, none⟩))) w') : wpList Try.prog ops Q (o :: rest) a w :=
  wpList_plain hg fun K hK => by
    unfold Oper.wp
    rw [run_alloc_px w o ho]
    exact hK _ _ (h _ (by unfold PixAt; rw [heap_get_alloc, if_pos rfl]) ((Below.refl _ _).alloc (Nat.le_refl _) _) (World.size_alloc _ _))
end
/-- A pixel for a result. -/
theorem results_px {fn : Func} {p : Tmp} (h : fn.results = #[.cell p 37]) (tmps : Array Value) (w : World) (b : Nat) (hp : tmps.getD p undef = .pointer (some ⟨b, 0, none⟩)) {q : Px} (ht : PixAt w b q) :
    (results fn tmps).run Try.prog w = .ok (Px.v q) w :=
  results_cell_row h tmps w b _ _ _ _ hp ht Try.underlying37 rfl (pxA_size q)
theorem Chg.carryT {b b' : Nat} {w w' : World} {f : Nat → Px} (h : Chg b w w') (k : TileAt w b' f) (hn : b' ≠ b) : TileAt w' b' f := k.of_eq (h.block _ k.lt hn)
theorem Chg.carryP {b b' : Nat} {w w' : World} {p : Px} (h : Chg b w w') (k : PixAt w b' p) (hn : b' ≠ b) : PixAt w' b' p := k.of_eq (h.block _ k.lt hn)
end Go.Proofs.Ytppccnjckiedlaa
