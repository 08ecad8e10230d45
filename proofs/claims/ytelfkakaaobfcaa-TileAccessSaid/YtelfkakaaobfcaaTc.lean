/- Coverages (64 bytes): their cells, and the laws of the walk for them. -/
import Derived.Test.YtelfkakaaobfcaaTk
namespace Go.Proofs.Ytelfkakaaobfcaa
open Go.RowKit Pl
set_option linter.unusedVariables false
set_option linter.unusedSimpArgs false

theorem set_same {α : Type} {a : Array α} {i : Nat} {v : α} (h : a[i]? = some v) : a.setIfInBounds i v = a := by
  apply Array.ext_getElem?
  intro k
  rw [Array.getElem?_setIfInBounds]
  by_cases e : i = k
  · subst e
    obtain ⟨hl, hv⟩ := Array.getElem?_eq_some_iff.1 h
    simp [hl, hv]
  · rw [if_neg e]
/-- The 64 cells of a coverage. -/
def covC (c : Nat → Int) : Array Value := Array.ofFn (n := 64) fun k => .int .u8 (c k.val)
def Cov.v (c : Nat → Int) : Value := .agg (covC c)
def updC (c : Nat → Int) (i : Nat) (x : Int) : Nat → Int := fun j => if j = i then x else c j
theorem size_covC (c : Nat → Int) : (covC c).size = 64 := by unfold covC; simp
theorem get_covC (c : Nat → Int) (k : Nat) : (covC c)[k]? = if k < 64 then some (.int .u8 (c k)) else none := by
  unfold covC
  rw [Array.getElem?_ofFn]
  split <;> rfl
theorem covC_at (c : Nat → Int) (i : Nat) (hi : i < 64) : (covC c)[i]? = some (.int .u8 (c i)) := by rw [get_covC, if_pos hi]
theorem covC_congr {f g : Nat → Int} (h : ∀ i, i < 64 → f i = g i) : covC f = covC g := by
  apply Array.ext_getElem?
  intro k
  rw [get_covC, get_covC]
  split
  · rw [h _ (by omega)]
  · rfl
theorem set_covC (c : Nat → Int) (i : Nat) (x : Int) (hi : i < 64) : (covC c).setIfInBounds i (.int .u8 x) = covC (updC c i x) := by
  apply Array.ext_getElem?
  intro k
  simp only [Array.getElem?_setIfInBounds, size_covC, get_covC, updC]
  by_cases h : i = k
  · subst h; simp [hi]
  · rw [if_neg h]
    simp only [if_neg (fun e : k = i => h e.symm)]
theorem cells_cov (c : Nat → Int) : (Cov.v c).cells = covC c := by simp only [Cov.v, Value.cells]
theorem cov_oneCell (c : Nat → Int) : (covC c).all (·.oneCell') = true := by
  rw [Array.all_eq_true]
  intro i hi
  have h : (covC c)[i]? = some (covC c)[i] := Array.getElem?_eq_getElem hi
  rw [size_covC] at hi
  rw [get_covC, if_pos hi] at h
  rw [← Option.some.inj h]
  rfl
theorem cov_size (c : Nat → Int) : (Try.prog.info? 39).map (·.size) = some (covC c).size := by
  rw [size_covC]; kernel_rfl
attribute [irreducible] covC

/-- The block b holds a coverage. -/
def CovAt (w : World) (b : Nat) (c : Nat → Int) : Prop := w.heap[b]? = some (.cells (covC c) 39 (0, 0))
theorem CovAt.of_eq {w w' : World} {b : Nat} {c : Nat → Int} (h : CovAt w b c) (e : w'.heap[b]? = w.heap[b]?) : CovAt w' b c := e.trans h
theorem CovAt.lt {w : World} {b : Nat} {c : Nat → Int} (h : CovAt w b c) : b < w.heap.size := (Array.getElem?_eq_some_iff.1 h).1
theorem CovAt.congr {w : World} {b : Nat} {f g : Nat → Int} (h : CovAt w b f) (e : covC f = covC g) : CovAt w b g := by unfold CovAt at h ⊢; rw [← e]; exact h
theorem CovAt.cell {w : World} {b : Nat} {c : Nat → Int} (h : CovAt w b c) {i : Nat} (hi : i < 64) : w.cell? ⟨b, i, none⟩ = some (.int .u8 (c i)) := ((cells_of_block h).1 i).trans (covC_at c i hi)
theorem CovAt.frozen {w : World} {b : Nat} {c : Nat → Int} (h : CovAt w b c) (j : Nat) : w.frozen? ⟨b, j, none⟩ = false := (cells_of_block h).2 j
theorem CovAt.set {w : World} {b : Nat} {c : Nat → Int} (h : CovAt w b c) {i : Nat} (hi : i < 64) (x : Int) : CovAt (w.setCell ⟨b, i, none⟩ (.int .u8 x)) b (updC c i x) := by
  unfold CovAt
  rw [← set_covC c i x hi]
  exact heap_setCell_same _ _ _ _ _ _ h

theorem run_load_cov {w : World} {b : Nat} {c : Nat → Int} (h : CovAt w b c) : (Instr.loadAt 39 (.pointer (some ⟨b, 0, none⟩))).run Try.prog w = .ok (Cov.v c) w := by
  simp only [Instr.loadAt, Instr.sureAddr, Sem.run_bind, Sem.run_pure, Result.andThen_ok]
  exact run_loadVar_row w b _ 39 _ _ _ h Try.underlying39 rfl (cov_size c)
theorem run_store_cov {w : World} {b : Nat} {c d : Nat → Int} (h : CovAt w b c) : (Instr.storeAt 39 (.pointer (some ⟨b, 0, none⟩)) (Cov.v d)).run Try.prog w = .ok () (w.setRow b (covC d)) := by
  simp only [Instr.storeAt, Instr.sureAddr, Sem.run_bind, Sem.run_pure, Result.andThen_ok]
  exact run_storeVar_row w b _ 39 _ _ h (cov_size d) (by rw [size_covC, size_covC]) (cov_oneCell d)
theorem run_load_u8 {w : World} {b j : Nat} {v : Value} (h : w.cell? ⟨b, j, none⟩ = some v) : (Instr.loadAt 5 (.pointer (some ⟨b, j, none⟩))).run Try.prog w = .ok v w := by
  simp [go_sem, h]
theorem run_load_int {w : World} {b j : Nat} {v : Value} (h : w.cell? ⟨b, j, none⟩ = some v) : (Instr.loadAt 3 (.pointer (some ⟨b, j, none⟩))).run Try.prog w = .ok v w := by
  simp [go_sem, h]
/-- An alpha of a tile's pixel. -/
theorem TileAt.alpha {w : World} {b : Nat} {f : Nat → Px} (h : TileAt w b f) {i : Nat} (hi : i < 64) : w.cell? ⟨b, i * 4 + 3, none⟩ = some (.int .u8 (f i).a) := (h.cells hi).2.2.2
theorem run_alloc_cov (w : World) (o : Oper) (ho : o.op = .alloc 39) (ev : Operand → Value) : (execOp ev o).run Try.prog w = .ok (.value (.pointer (some ⟨w.heap.size, 0, none⟩))) (w.alloc (.cells (covC fun _ => 0) 39)) := by
  obtain ⟨d, p, t, ps, af, gd⟩ := o
  simp only at ho
  subst ho
  kernel_rfl

theorem run_load_part {w : World} {b off : Nat} {bcs cs : Array Value} {bt t : TypeId} (h : w.heap[b]? = some (.cells bcs bt (0, 0))) (hagg : ∀ w : World, (isAgg t).run Try.prog w = .ok true w)
    (hsz : (Try.prog.info? t).map (·.size) = some cs.size) (hc : ∀ j, j < cs.size → bcs[off + j]? = cs[j]?) : (Instr.loadAt t (.pointer (some ⟨b, off, none⟩))).run Try.prog w = .ok (.agg cs) w := by
  simp only [Instr.loadAt, Instr.sureAddr, Sem.run_bind, Sem.run_pure, Result.andThen_ok]
  have hl : (loadCells ⟨b, off, none⟩ cs.toList.length).run Try.prog w = .ok cs.toList.toArray w :=
    run_loadCells_list (P := Try.prog) w ⟨b, off, none⟩ cs.toList (fun j v hv => by
      have hadd : (⟨b, off, none⟩ : Addr).add j = ⟨b, off + j, none⟩ := by unfold Addr.add; split <;> simp_all
      have hj : j < cs.size := by
        have := (List.getElem?_eq_some_iff.1 hv).1
        rw [Array.length_toList] at this
        exact this
      rw [hadd, cell_of_row w b _ bcs _ (0, 0) h, hc j hj]
      simpa using hv)
  cases hq : Try.prog.info? t with
  | none => rw [hq] at hsz; cases hsz
  | some i =>
    have he : i.size = cs.size := by rw [hq] at hsz; simpa using hsz
    rw [Array.length_toList] at hl
    simp only [Array.toArray_toList] at hl
    simp only [loadVar, Sem.run_bind, hagg w, sizeOf, typeInfo, hq, he, hl, run_program, Result.andThen_ok, if_true, Sem.run_pure]
theorem isAgg_tile (w : World) : (isAgg 25).run Try.prog w = .ok true w := by
  unfold isAgg
  rw [Sem.run_bind, run_underlying Try.underlying25 w]
  simp
theorem isAgg_cov (w : World) : (isAgg 39).run Try.prog w = .ok true w := by
  unfold isAgg
  rw [Sem.run_bind, run_underlying Try.underlying39 w]
  simp
section
variable {ops : Array Oper} {rest : List Oper} {o : Oper} {a : Act} {w : World} {Q : Exit → Act → World → Prop}
theorem wpList_loadAny {t : TypeId} {v : Value} (hg : o.guard = none) (x : Operand) (ho : o.op = .load t x) (b j j' : Nat) (hx : a.eval x = .pointer (some ⟨b, j', none⟩)) (hr : (Instr.loadAt t (.pointer (some ⟨b, j, none⟩))).run Try.prog w = .ok v w) (hj : j' = j)
    (h : wpList Try.prog ops Q rest (a.put o.dst v) w) : wpList Try.prog ops Q (o :: rest) a w :=
  wpList_plain hg fun K hK => by
    subst hj
    unfold Oper.wp execOp
    simp only [ho, hx, hr, Sem.run_bind, Sem.run_pure, Result.andThen_ok]
    exact hK _ _ h
theorem wpList_boxC' (hg : o.guard = none) (x : Operand) (ho : o.op = .box 39 x) (c : Nat → Int) (hx : a.eval x = Cov.v c)
    (h : ∀ b w', w.heap.size ≤ b → b ≤ w.heap.size → CovAt w' b c → Below b w w' → w'.heap.size = b + 1 → wpList Try.prog ops Q rest (a.put o.dst (.pointer (some ⟨b, 0, none⟩))) w') : wpList Try.prog ops Q (o :: rest) a w :=
  Great.wpList_boxTo hg _ x ho _ rfl _ rfl (covC c) (by rw [hx]; exact cells_cov c) (h _ _ (Nat.le_refl _) (Nat.le_refl _) (by unfold CovAt; rw [heap_get_alloc, if_pos rfl]) ((Below.refl _ _).alloc (Nat.le_refl _) _) (World.size_alloc _ _))
theorem wpList_boxC (hg : o.guard = none) (x : Operand) (ho : o.op = .box 39 x) (c : Nat → Int) (hx : a.eval x = Cov.v c)
    (h : ∀ w', CovAt w' w.heap.size c → Below w.heap.size w w' → w'.heap.size = w.heap.size + 1 → wpList Try.prog ops Q rest (a.put o.dst (.pointer (some ⟨w.heap.size, 0, none⟩))) w') : wpList Try.prog ops Q (o :: rest) a w :=
  Great.wpList_boxTo hg _ x ho _ rfl _ rfl (covC c) (by rw [hx]; exact cells_cov c) (h _ (by unfold CovAt; rw [heap_get_alloc, if_pos rfl]) ((Below.refl _ _).alloc (Nat.le_refl _) _) (World.size_alloc _ _))
theorem wpList_allocC (hg : o.guard = none) (ho : o.op = .alloc 39)
    (h : ∀ w', CovAt w' w.heap.size (fun _ => 0) → Below w.heap.size w w' → w'.heap.size = w.heap.size + 1 → wpList Try.prog ops Q rest (a.put o.dst (.pointer (some ⟨w.heap.size, 0, none⟩))) w') : wpList Try.prog ops Q (o :: rest) a w :=
  wpList_plain hg fun K hK => by
    unfold Oper.wp
    rw [run_alloc_cov w o ho]
    exact hK _ _ (h _ (by unfold CovAt; rw [heap_get_alloc, if_pos rfl]) ((Below.refl _ _).alloc (Nat.le_refl _) _) (World.size_alloc _ _))
theorem wpList_storeAny {t : TypeId} (hg : o.guard = none) (x y : Operand) (ho : o.op = .store t x y) (w' : World) (hrun : (Instr.storeAt t (a.eval x) (a.eval y)).run Try.prog w = .ok () w')
    (h : wpList Try.prog ops Q rest (a.put o.dst undef) w') : wpList Try.prog ops Q (o :: rest) a w :=
  wpList_plain hg fun K hK => by
    unfold Oper.wp execOp
    simp only [ho, hrun, Sem.run_bind, Sem.run_pure, Result.andThen_ok]
    exact hK _ _ h
theorem wpList_storeC (hg : o.guard = none) (x y : Operand) (ho : o.op = .store 39 x y) (b : Nat) (hx : a.eval x = .pointer (some ⟨b, 0, none⟩)) (d : Nat → Int) (hy : a.eval y = Cov.v d) {c : Nat → Int} (ht : CovAt w b c)
    (h : ∀ w', CovAt w' b d → Chg b w w' → w'.heap.size = w.heap.size → wpList Try.prog ops Q rest (a.put o.dst undef) w') : wpList Try.prog ops Q (o :: rest) a w := by
  refine wpList_storeAny hg x y ho _ ?_ (h _ (setRow_heap w b _ _ _ _ ht) ((Chg.refl b w).setRow _) (size_setRow _ _ _))
  rw [hx, hy]
  exact run_store_cov ht
theorem wpList_storeCb (hg : o.guard = none) (x y : Operand) (ho : o.op = .store 5 x y) (b j : Nat) (hx : a.eval x = .pointer (some ⟨b, j, none⟩)) (n : Int) (hy : a.eval y = .int .u8 n) {c : Nat → Int} (ht : CovAt w b c) (i : Nat) (hi : i < 64) (hj : j = i)
    (h : ∀ w', CovAt w' b (updC c i n) → Chg b w w' → w'.heap.size = w.heap.size → wpList Try.prog ops Q rest (a.put o.dst undef) w') : wpList Try.prog ops Q (o :: rest) a w := by
  subst hj
  refine wpList_storeAny hg x y ho _ ?_ (h _ (ht.set hi n) ((Chg.refl b w).setCell _) (by simp only [World.size_setCell]))
  rw [hx, hy]
  have c0 := ht.cell hi
  have f0 := ht.frozen j
  simp [go_sem, c0, f0]
/-- An alpha stored. -/
theorem wpList_storeTa (hg : o.guard = none) (x y : Operand) (ho : o.op = .store 5 x y) (b j : Nat) (hx : a.eval x = .pointer (some ⟨b, j, none⟩)) (n : Int) (hy : a.eval y = .int .u8 n) {f : Nat → Px} (ht : TileAt w b f) (i : Nat) (hi : i < 64) (hj : j = i * 4 + 3)
    (h : ∀ w', TileAt w' b (upd f i { f i with a := n }) → Chg b w w' → w'.heap.size = w.heap.size → wpList Try.prog ops Q rest (a.put o.dst undef) w') : wpList Try.prog ops Q (o :: rest) a w := by
  subst hj
  have c0 := ht.alpha hi
  have f0 := ht.frozen (i * 4 + 3)
  have e : TileAt (w.setCell ⟨b, i * 4 + 3, none⟩ (.int .u8 n)) b (upd f i { f i with a := n }) := by
    unfold TileAt
    have e1 : (tileC f).setIfInBounds (i * 4 + 3) (.int .u8 n) = tileC (upd f i { f i with a := n }) := by
      rw [← set_tileC f i { f i with a := n } hi]
      have k0 : (tileC f).setIfInBounds (i * 4) (.int .u8 (f i).r) = tileC f := set_same (tileC_at f i 0 hi (by omega))
      have k1 : (tileC f).setIfInBounds (i * 4 + 1) (.int .u8 (f i).g) = tileC f := set_same (tileC_at f i 1 hi (by omega))
      have k2 : (tileC f).setIfInBounds (i * 4 + 2) (.int .u8 (f i).b) = tileC f := set_same (tileC_at f i 2 hi (by omega))
      simp only [k0, k1, k2]
    rw [← e1]
    exact heap_setCell_same _ _ _ _ _ _ ht
  refine wpList_storeAny hg x y ho _ ?_ (h _ e ((Chg.refl b w).setCell _) (by simp only [World.size_setCell]))
  rw [hx, hy]
  simp [go_sem, c0, f0]
end
section
variable {C : World → Prop} {a : Act} {o : Oper} {K : Act → Prop}
theorem quiet_loadAny {t : TypeId} {v : Value} {x : Operand} (h : o.op = .load t x) (b j j' : Nat) (hx : a.eval x = .pointer (some ⟨b, j', none⟩)) (hr : ∀ w, C w → (Instr.loadAt t (.pointer (some ⟨b, j, none⟩))).run Try.prog w = .ok v w) (hj : j' = j) (hk : K (a.put o.dst v)) : o.quiet Try.prog a C K :=
  ⟨_, fun w hw => by subst hj; unfold Oper.quietAt execOp; simp only [h, hx, hr w hw, Sem.run_bind, Sem.run_pure, Result.andThen_ok]; exact ⟨rfl, rfl⟩, hk⟩
end
theorem ov_cov {w : World} {b : Nat} {c : Nat → Int} (h : CovAt w b c) : ∀ w', (∃ u, w' = ov w u) → CovAt w' b c := by
  rintro w' ⟨u, rfl⟩
  exact h.of_eq ((ov_below w u).block _ h.lt)
theorem results_cov {fn : Func} {p : Tmp} (h : fn.results = #[.cell p 39]) (tmps : Array Value) (w : World) (b : Nat) (hp : tmps.getD p undef = .pointer (some ⟨b, 0, none⟩)) {c : Nat → Int} (ht : CovAt w b c) :
    (results fn tmps).run Try.prog w = .ok (Cov.v c) w :=
  results_cell_row h tmps w b _ _ _ _ hp ht Try.underlying39 rfl (cov_size c)
/-- The first k bytes are those of g. -/
def stepC (f g : Nat → Int) (k : Nat) : Nat → Int := fun j => if j < k then g j else f j
theorem stepC_zero (f g : Nat → Int) : stepC f g 0 = f := by funext j; simp [stepC]
theorem stepC_next (f g : Nat → Int) (k : Nat) : updC (stepC f g k) k (g k) = stepC f g (k + 1) := by
  funext j
  unfold updC stepC
  by_cases h : j = k
  · subst h; simp
  · rw [if_neg h]
    by_cases h2 : j < k
    · rw [if_pos h2, if_pos (by omega)]
    · rw [if_neg h2, if_neg (by omega)]
theorem stepC_at (f g : Nat → Int) (k : Nat) : stepC f g k k = f k := by simp [stepC]
theorem stepC_all (f g : Nat → Int) : covC (stepC f g 64) = covC g := covC_congr fun i hi => by simp [stepC, hi]
/-- All coverages are bytes. -/
def Cok (c : Nat → Int) : Prop := ∀ i, i < 64 → 0 ≤ c i ∧ c i ≤ 255
end Go.Proofs.Ytelfkakaaobfcaa
