/- Blocks known whole, of whatever type: laws of the walk. -/
import Derived.Test.YtppccnjckiedlaaGn
import Derived.Handy
namespace Go.Proofs.Ytppccnjckiedlaa
open Go.RowKit
set_option linter.unusedVariables false
set_option linter.unusedSimpArgs false
set_option maxRecDepth 20000

/-- The block b holds the cells cs. -/
def AtB (t : TypeId) (w : World) (b : Nat) (cs : Array Value) : Prop := w.heap[b]? = some (.cells cs t (0, 0))
section
variable {t : TypeId} {w : World} {b : Nat} {cs cs' : Array Value}
theorem AtB.of_eq {w' : World} (h : AtB t w b cs) (e : w'.heap[b]? = w.heap[b]?) : AtB t w' b cs := e.trans h
theorem AtB.lt (h : AtB t w b cs) : b < w.heap.size := (Array.getElem?_eq_some_iff.1 h).1
theorem AtB.cell (h : AtB t w b cs) (i : Nat) {v : Value} (hv : cs[i]? = some v) : w.cell? ⟨b, i, none⟩ = some v := ((cells_of_block h).1 i).trans hv
theorem AtB.frozen (h : AtB t w b cs) (i : Nat) : w.frozen? ⟨b, i, none⟩ = false := (cells_of_block h).2 i
theorem AtB.setRow (h : AtB t w b cs) (cs' : Array Value) : AtB t (w.setRow b cs') b cs' := setRow_heap w b _ _ _ _ h
theorem ov_B (h : AtB t w b cs) : ∀ w', (∃ u, w' = ov w u) → AtB t w' b cs := by
  rintro w' ⟨u, rfl⟩
  exact h.of_eq ((ov_below w u).block _ h.lt)
/-- Loaded whole. -/
theorem run_load_B (h : AtB t w b cs) (hagg : ∀ w : World, (isAgg t).run Try.prog w = .ok true w) (hsz : (Try.prog.info? t).map (·.size) = some cs.size) : (Instr.loadAt t (.pointer (some ⟨b, 0, none⟩))).run Try.prog w = .ok (.agg cs) w :=
  run_load_part (off := 0) h hagg hsz (fun j _ => by rw [Nat.zero_add])
/-- A part loaded. -/
theorem run_load_BP {t' : TypeId} (h : AtB t w b cs) (off : Nat) (hagg : ∀ w : World, (isAgg t').run Try.prog w = .ok true w) (hsz : (Try.prog.info? t').map (·.size) = some cs'.size) (hc : ∀ j, j < cs'.size → cs[off + j]? = cs'[j]?) : (Instr.loadAt t' (.pointer (some ⟨b, off, none⟩))).run Try.prog w = .ok (.agg cs') w :=
  run_load_part h hagg hsz hc
theorem run_store_B (h : AtB t w b cs) (hsz : (Try.prog.info? t).map (·.size) = some cs'.size) (hss : cs'.size = cs.size) (hone : cs'.all (·.oneCell') = true) : (Instr.storeAt t (.pointer (some ⟨b, 0, none⟩)) (.agg cs')).run Try.prog w = .ok () (w.setRow b cs') := by
  simp only [Instr.storeAt, Instr.sureAddr, Sem.run_bind, Sem.run_pure, Result.andThen_ok]
  exact run_storeVar_row w b _ t _ _ h hsz hss.symm hone
end
section
variable {t : TypeId} {ops : Array Oper} {rest : List Oper} {o : Oper} {a : Act} {w : World} {Q : Exit → Act → World → Prop}
theorem wpList_boxB (hg : o.guard = none) (x : Operand) (ho : o.op = .box t x) (cs : Array Value) (hx : a.eval x = .agg cs)
    (h : ∀ b w', w.heap.size ≤ b → b ≤ w.heap.size → AtB t w' b cs → Below b w w' → w'.heap.size = b + 1 → wpList Try.prog ops Q rest (a.put o.dst (.pointer (some ⟨b, 0, none⟩))) w') : wpList Try.prog ops Q (o :: rest) a w :=
  wpList_plain hg fun K hK => by
    have e : (a.eval x).cells = cs := by rw [hx]; simp only [Value.cells]
    unfold Oper.wp execOp
    simp only [ho, Sem.run_bind, Instr.box, newVar, newRow, run_newObj_alloc, Sem.run_pure, Result.andThen_ok, e]
    exact hK _ _ (h _ _ (Nat.le_refl _) (Nat.le_refl _) (by unfold AtB; rw [heap_get_alloc, if_pos rfl]) ((Below.refl _ _).alloc (Nat.le_refl _) _) (World.size_alloc _ _))
/-- A value of one cell boxed. -/
theorem wpList_boxV (hg : o.guard = none) (x : Operand) (ho : o.op = .box t x) (v : Value) (hx : a.eval x = v) (hv : v.cells = #[v])
    (h : ∀ b w', w.heap.size ≤ b → b ≤ w.heap.size → AtB t w' b #[v] → Below b w w' → w'.heap.size = b + 1 → wpList Try.prog ops Q rest (a.put o.dst (.pointer (some ⟨b, 0, none⟩))) w') : wpList Try.prog ops Q (o :: rest) a w :=
  wpList_plain hg fun K hK => by
    have e : (a.eval x).cells = #[v] := by rw [hx]; exact hv
    unfold Oper.wp execOp
    simp only [ho, Sem.run_bind, Instr.box, newVar, newRow, run_newObj_alloc, Sem.run_pure, Result.andThen_ok, e]
    exact hK _ _ (h _ _ (Nat.le_refl _) (Nat.le_refl _) (by unfold AtB; rw [heap_get_alloc, if_pos rfl]) ((Below.refl _ _).alloc (Nat.le_refl _) _) (World.size_alloc _ _))
theorem wpList_storeB {cs : Array Value} (hg : o.guard = none) (x y : Operand) (ho : o.op = .store t x y) (b : Nat) (hx : a.eval x = .pointer (some ⟨b, 0, none⟩)) (cs' : Array Value) (hy : a.eval y = .agg cs') (ht : AtB t w b cs) (hsz : (Try.prog.info? t).map (·.size) = some cs'.size) (hss : cs'.size = cs.size) (hone : cs'.all (·.oneCell') = true)
    (h : ∀ w', AtB t w' b cs' → Chg b w w' → w'.heap.size = w.heap.size → wpList Try.prog ops Q rest (a.put o.dst undef) w') : wpList Try.prog ops Q (o :: rest) a w := by
  refine wpList_storeAny hg x y ho _ ?_ (h _ (ht.setRow cs') ((Chg.refl b w).setRow _) (size_setRow _ _ _))
  rw [hx, hy]
  exact run_store_B ht hsz hss hone
theorem wpList_allocBk (hg : o.guard = none) (cs : Array Value) (hrun : ∀ ev, (execOp ev o).run Try.prog w = .ok (.value (.pointer (some ⟨w.heap.size, 0, none⟩))) (w.alloc (.cells cs t)))
    (h : ∀ b w', w.heap.size ≤ b → b ≤ w.heap.size → AtB t w' b cs → Below b w w' → w'.heap.size = b + 1 → wpList Try.prog ops Q rest (a.put o.dst (.pointer (some ⟨b, 0, none⟩))) w') : wpList Try.prog ops Q (o :: rest) a w :=
  wpList_plain hg fun K hK => by
    unfold Oper.wp
    rw [hrun]
    exact hK _ _ (h _ _ (Nat.le_refl _) (Nat.le_refl _) (by unfold AtB; rw [heap_get_alloc, if_pos rfl]) ((Below.refl _ _).alloc (Nat.le_refl _) _) (World.size_alloc _ _))
end
/-- A block for a result. -/
theorem results_B {t : TypeId} {fn : Func} {p : Tmp} (h : fn.results = #[.cell p t]) (tmps : Array Value) (w : World) (b : Nat) (hp : tmps.getD p undef = .pointer (some ⟨b, 0, none⟩)) {cs : Array Value} (ht : AtB t w b cs) (hagg : ∀ w : World, (isAgg t).run Try.prog w = .ok true w) (hsz : (Try.prog.info? t).map (·.size) = some cs.size) :
    (results fn tmps).run Try.prog w = .ok (.agg cs) w := by
  have hl := run_load_B ht hagg hsz
  simp only [Instr.loadAt, Instr.sureAddr, Sem.run_bind, Sem.run_pure, Result.andThen_ok] at hl
  unfold results
  rw [h]
  have hp' : tmps[p]?.getD undef = .pointer (some ⟨b, 0, none⟩) := by simpa using hp
  simp [hp', Instr.sureAddr, asAddr, hl, Sem.run_bind, Sem.run_pure, Result.andThen_ok]

/-- A block and a slot for results. -/
theorem results_B2 {t : TypeId} {fn : Func} {p q : Tmp} (h : fn.results = #[.cell p t, .tmp q]) (tmps : Array Value) (w : World) (b : Nat) (hp : tmps.getD p undef = .pointer (some ⟨b, 0, none⟩)) {cs : Array Value} (v : Value) (hq : tmps.getD q undef = v) (ht : AtB t w b cs) (hagg : ∀ w : World, (isAgg t).run Try.prog w = .ok true w) (hsz : (Try.prog.info? t).map (·.size) = some cs.size) :
    (results fn tmps).run Try.prog w = .ok (.tuple #[.agg cs, v]) w := by
  have hl := run_load_B ht hagg hsz
  simp only [Instr.loadAt, Instr.sureAddr, Sem.run_bind, Sem.run_pure, Result.andThen_ok] at hl
  unfold results
  rw [h]
  have hp' : tmps[p]?.getD undef = .pointer (some ⟨b, 0, none⟩) := by simpa using hp
  have hq' : tmps[q]?.getD undef = v := by simpa using hq
  simp [hp', hq', Instr.sureAddr, asAddr, hl, Sem.run_bind, Sem.run_pure, Result.andThen_ok]
end Go.Proofs.Ytppccnjckiedlaa
