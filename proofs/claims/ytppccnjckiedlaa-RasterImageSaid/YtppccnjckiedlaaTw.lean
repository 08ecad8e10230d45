/- Laws of the walk for whole tiles: a tile loaded, stored, boxed, made; outside and inside a fence. The worlds behind are variables: what is known of them are their blocks. -/
import Derived.Test.YtppccnjckiedlaaTa
import Derived.Test.YtppccnjckiedlaaMa
import Derived.OwnWalkIn
import Derived.TacticsInMore
import Derived.Great.Ranges
namespace Go.Proofs.Ytppccnjckiedlaa
open Go.RowKit Pl
set_option linter.unusedVariables false
set_option linter.unusedSimpArgs false
set_option maxRecDepth 20000

theorem tile_size (f : Nat → Px) : (Try.prog.info? 40).map (·.size) = some (tileC f).size := by
  rw [size_tileC]; kernel_rfl
theorem tile_oneCell (f : Nat → Px) : (tileC f).all (·.oneCell') = true := by
  rw [Array.all_eq_true]
  intro i hi
  have h : (tileC f)[i]? = some (tileC f)[i] := Array.getElem?_eq_getElem hi
  rw [size_tileC] at hi
  rw [get_tileC, if_pos hi] at h
  rw [← Option.some.inj h]
  unfold pxC
  repeat' split
  all_goals rfl

theorem run_load_tile {w : World} {b : Nat} {f : Nat → Px} (h : TileAt w b f) : (Instr.loadAt 40 (.pointer (some ⟨b, 0, none⟩))).run Try.prog w = .ok (Tile.v f) w := by
  simp only [Instr.loadAt, Instr.sureAddr, Sem.run_bind, Sem.run_pure, Result.andThen_ok]
  exact run_loadVar_row w b _ 40 _ _ _ h Try.underlying40 rfl (tile_size f)
theorem run_store_tile {w : World} {b : Nat} {f g : Nat → Px} (h : TileAt w b f) : (Instr.storeAt 40 (.pointer (some ⟨b, 0, none⟩)) (Tile.v g)).run Try.prog w = .ok () (w.setRow b (tileC g)) := by
  simp only [Instr.storeAt, Instr.sureAddr, Sem.run_bind, Sem.run_pure, Result.andThen_ok]
  exact run_storeVar_row w b _ 40 _ _ h (tile_size g) (by rw [size_tileC, size_tileC]) (tile_oneCell g)
theorem TileAt.setRow {w : World} {b : Nat} {f : Nat → Px} (h : TileAt w b f) (g : Nat → Px) : TileAt (w.setRow b (tileC g)) b g := setRow_heap w b _ _ _ _ h

/-- A pixel stored into a block. -/
theorem set4_other {w : World} {b i k : Nat} (v0 v1 v2 v3 : Value) (h : k ≠ b) : ((((w.setCell ⟨b, i, none⟩ v0).setCell ⟨b, i + 1, none⟩ v1).setCell ⟨b, i + 2, none⟩ v2).setCell ⟨b, i + 3, none⟩ v3).heap[k]? = w.heap[k]? := by
  rw [heap_setCell_other _ _ _ _ h, heap_setCell_other _ _ _ _ h, heap_setCell_other _ _ _ _ h, heap_setCell_other _ _ _ _ h]
theorem set4_below {B : Nat} {w : World} {b i : Nat} (v0 v1 v2 v3 : Value) (h : B ≤ b) : Below B w ((((w.setCell ⟨b, i, none⟩ v0).setCell ⟨b, i + 1, none⟩ v1).setCell ⟨b, i + 2, none⟩ v2).setCell ⟨b, i + 3, none⟩ v3) :=
  ((((Below.refl B w).setCell (p := ⟨b, i, none⟩) h v0).setCell (p := ⟨b, i + 1, none⟩) h v1).setCell (p := ⟨b, i + 2, none⟩) h v2).setCell (p := ⟨b, i + 3, none⟩) h v3
theorem set4_chg {w : World} {b i : Nat} (v0 v1 v2 v3 : Value) : Chg b w ((((w.setCell ⟨b, i, none⟩ v0).setCell ⟨b, i + 1, none⟩ v1).setCell ⟨b, i + 2, none⟩ v2).setCell ⟨b, i + 3, none⟩ v3) :=
  ((((Chg.refl b w).setCell v0).setCell v1).setCell v2).setCell v3

section
variable {ops : Array Oper} {rest : List Oper} {o : Oper} {a : Act} {w : World} {Q : Exit → Act → World → Prop}

theorem wpList_loadT (hg : o.guard = none) (x : Operand) (ho : o.op = .load 40 x) (b : Nat) (hx : a.eval x = .pointer (some ⟨b, 0, none⟩)) {f : Nat → Px} (ht : TileAt w b f)
    (h : wpList Try.prog ops Q rest (a.put o.dst (Tile.v f)) w) : wpList Try.prog ops Q (o :: rest) a w :=
  wpList_plain hg fun K hK => by
    unfold Oper.wp execOp
    simp only [ho, hx, run_load_tile ht, Sem.run_bind, Sem.run_pure, Result.andThen_ok]
    exact hK _ _ h
theorem wpList_storeT (hg : o.guard = none) (x y : Operand) (ho : o.op = .store 40 x y) (b : Nat) (hx : a.eval x = .pointer (some ⟨b, 0, none⟩)) (g : Nat → Px) (hy : a.eval y = Tile.v g) {f : Nat → Px} (ht : TileAt w b f)
    (h : ∀ w', TileAt w' b g → Chg b w w' → w'.heap.size = w.heap.size → wpList Try.prog ops Q rest (a.put o.dst undef) w') : wpList Try.prog ops Q (o :: rest) a w :=
  wpList_plain hg fun K hK => by
    unfold Oper.wp execOp
    simp only [ho, hx, hy, run_store_tile ht, Sem.run_bind, Sem.run_pure, Result.andThen_ok]
    exact hK _ _ (h _ (ht.setRow g) ((Chg.refl b w).setRow _) (size_setRow _ _ _))
theorem wpList_boxT (hg : o.guard = none) (x : Operand) (ho : o.op = .box 40 x) (f : Nat → Px) (hx : a.eval x = Tile.v f)
    (h : ∀ w', TileAt w' w.heap.size f → Below w.heap.size w w' → w'.heap.size = w.heap.size + 1 → wpList Try.prog ops Q rest (a.put o.dst (.pointer (some ⟨w.heap.size, 0, none⟩))) w') : wpList Try.prog ops Q (o :: rest) a w :=
  Great.wpList_boxTo hg _ x ho _ rfl _ rfl (tileC f) (by rw [hx]; exact cells_tile f) (h _ (by unfold TileAt; rw [heap_get_alloc, if_pos rfl]) ((Below.refl _ _).alloc (Nat.le_refl _) _) (World.size_alloc _ _))
theorem run_alloc_tile (w : World) (o : Oper) (ho : o.op = .alloc 40) (ev : Operand → Value) : (execOp ev o).run Try.prog w = .ok (.value (.pointer (some ⟨w.heap.size, 0, none⟩))) (w.alloc (.cells (tileC fun _ => Px.zero) 40)) := by
  obtain ⟨d, p, t, ps, af, gd⟩ := o
  simp only at ho
  subst ho
  kernel_rfl
theorem wpList_allocT (hg : o.guard = none) (ho : o.op = .alloc 40)
    (h : ∀ w', TileAt w' w.heap.size (fun _ => Px.zero) → Below w.heap.size w w' → w'.heap.size = w.heap.size + 1 → wpList Try.prog ops Q rest (a.put o.dst (.pointer (some ⟨w.heap.size, 0, none⟩))) w') : wpList Try.prog ops Q (o :: rest) a w :=
  wpList_plain hg fun K hK => by
    unfold Oper.wp
    rw [run_alloc_tile w o ho]
    exact hK _ _ (h _ (by unfold TileAt; rw [heap_get_alloc, if_pos rfl]) ((Below.refl _ _).alloc (Nat.le_refl _) _) (World.size_alloc _ _))

variable {F : Fence} {n : Nat}
theorem wpListIn_run (hg : o.guard = none) (hd : ∀ c, o.op ≠ .defer c) (hcall : ∀ c, o.op ≠ .call c) (v : Value) (w' : World) (hrun : (execOp a.eval o).run Try.prog w = .ok (.value v) w')
    (h : wpListIn F n Try.prog ops Q rest (a.put o.dst v) w') : wpListIn F n Try.prog ops Q (o :: rest) a w :=
  wpListIn_plain hg fun K hK => by
    refine ⟨fun f hf => ?_, ?_⟩
    · unfold Oper.about at hf
      split at hf
      · rename_i c hc; exact absurd hc (hcall c)
      · cases hf
    · rw [Oper.semAt_eq _ _ _ hd, hrun]
      exact hK _ _ h
theorem wpListIn_loadT (hg : o.guard = none) (x : Operand) (ho : o.op = .load 40 x) (b : Nat) (hx : a.eval x = .pointer (some ⟨b, 0, none⟩)) {f : Nat → Px} (ht : TileAt w b f)
    (h : wpListIn F n Try.prog ops Q rest (a.put o.dst (Tile.v f)) w) : wpListIn F n Try.prog ops Q (o :: rest) a w :=
  wpListIn_run hg (fun c h => by rw [ho] at h; cases h) (fun c h => by rw [ho] at h; cases h) _ w (by
    unfold execOp
    simp only [ho, hx, run_load_tile ht, Sem.run_bind, Sem.run_pure, Result.andThen_ok]) h
theorem wpListIn_storeT (hg : o.guard = none) (x y : Operand) (ho : o.op = .store 40 x y) (b : Nat) (hx : a.eval x = .pointer (some ⟨b, 0, none⟩)) (g : Nat → Px) (hy : a.eval y = Tile.v g) {f : Nat → Px} (ht : TileAt w b f)
    (h : ∀ w', TileAt w' b g → Chg b w w' → w'.heap.size = w.heap.size → wpListIn F n Try.prog ops Q rest (a.put o.dst undef) w') : wpListIn F n Try.prog ops Q (o :: rest) a w :=
  wpListIn_plain hg fun K hK => by
    refine ⟨fun f hf => ?_, ?_⟩
    · unfold Oper.about at hf
      rw [ho] at hf
      cases hf
    · rw [Oper.semAt_eq _ _ _ (fun c h => by rw [ho] at h; cases h)]
      unfold execOp
      simp only [ho, hx, hy, run_store_tile ht, Sem.run_bind, Sem.run_pure, Result.andThen_ok]
      exact hK _ _ (h _ (ht.setRow g) ((Chg.refl b w).setRow _) (size_setRow _ _ _))
theorem wpListIn_allocT (hg : o.guard = none) (ho : o.op = .alloc 40)
    (h : ∀ w', TileAt w' w.heap.size (fun _ => Px.zero) → Below w.heap.size w w' → w'.heap.size = w.heap.size + 1 → wpListIn F n Try.prog ops Q rest (a.put o.dst (.pointer (some ⟨w.heap.size, 0, none⟩))) w') : wpListIn F n Try.prog ops Q (o :: rest) a w :=
  wpListIn_run hg (fun c h => by rw [ho] at h; cases h) (fun c h => by rw [ho] at h; cases h) _ _ (run_alloc_tile w o ho _)
    (h _ (by unfold TileAt; rw [heap_get_alloc, if_pos rfl]) ((Below.refl _ _).alloc (Nat.le_refl _) _) (World.size_alloc _ _))
theorem wpListIn_boxT (hg : o.guard = none) (x : Operand) (ho : o.op = .box 40 x) (f : Nat → Px) (hx : a.eval x = Tile.v f)
    (h : ∀ w', TileAt w' w.heap.size f → Below w.heap.size w w' → w'.heap.size = w.heap.size + 1 → wpListIn F n Try.prog ops Q rest (a.put o.dst (.pointer (some ⟨w.heap.size, 0, none⟩))) w') : wpListIn F n Try.prog ops Q (o :: rest) a w :=
  wpListIn_run hg (fun c h => by rw [ho] at h; cases h) (fun c h => by rw [ho] at h; cases h) _ (w.alloc (.cells (tileC f) 40)) (by
    unfold execOp
    have e : (a.eval x).cells = tileC f := by rw [hx]; exact cells_tile f
    simp only [ho, Sem.run_bind, Instr.box, newVar, newRow, run_newObj_alloc, Sem.run_pure, Result.andThen_ok, e])
    (h _ (by unfold TileAt; rw [heap_get_alloc, if_pos rfl]) ((Below.refl _ _).alloc (Nat.le_refl _) _) (World.size_alloc _ _))
end

/-- A tile for a result. -/
theorem results_tile {fn : Func} {p : Tmp} (h : fn.results = #[.cell p 40]) (tmps : Array Value) (w : World) (b : Nat) (hp : tmps.getD p undef = .pointer (some ⟨b, 0, none⟩)) {f : Nat → Px} (ht : TileAt w b f) :
    (results fn tmps).run Try.prog w = .ok (Tile.v f) w :=
  results_cell_row h tmps w b _ _ _ _ hp ht Try.underlying40 rfl (tile_size f)

end Go.Proofs.Ytppccnjckiedlaa
