/- Three tiles in a row, and pairs of ints: their cells and blocks, and the laws of the walk for them. -/
import Derived.Test.YtelfkakaaobfcaaTd
namespace Go.Proofs.Ytelfkakaaobfcaa
open Go.RowKit Pl
set_option linter.unusedVariables false
set_option linter.unusedSimpArgs false

/-- The 768 cells of three tiles. -/
def triC (q : Nat → Nat → Px) : Array Value := Array.ofFn (n := 768) fun k => pxC (q (k.val / 256) (k.val % 256 / 4)) (k.val % 4)
def Tri.v (q : Nat → Nat → Px) : Value := .agg (triC q)
theorem size_triC (q : Nat → Nat → Px) : (triC q).size = 768 := by unfold triC; simp
theorem get_triC (q : Nat → Nat → Px) (k : Nat) : (triC q)[k]? = if k < 768 then some (pxC (q (k / 256) (k % 256 / 4)) (k % 4)) else none := by
  unfold triC
  rw [Array.getElem?_ofFn]
  split <;> rfl
theorem tri_tile (q : Nat → Nat → Px) (s j : Nat) (hs : s < 3) (hj : j < 256) : (triC q)[s * 256 + j]? = (tileC (q s))[j]? := by
  rw [get_triC, get_tileC, if_pos (by omega), if_pos hj, show (s * 256 + j) / 256 = s by omega, show (s * 256 + j) % 256 = j by omega, show (s * 256 + j) % 4 = j % 4 by omega]
/-- The tile number s of three. -/
def tri (a b c : Nat → Px) (s : Nat) : Nat → Px := if s = 0 then a else if s = 1 then b else c
set_option maxRecDepth 20000 in
theorem three_parts (a b c : Nat → Px) : tileC a ++ (tileC b ++ tileC c) = triC (tri a b c) := by
  apply Array.ext_getElem?
  intro k
  rw [get_triC, Array.getElem?_append, size_tileC]
  by_cases h1 : k < 256
  · rw [if_pos h1, get_tileC, if_pos h1, if_pos (by omega), show k / 256 = 0 by omega, show k % 256 = k by omega]; rfl
  · rw [if_neg h1, Array.getElem?_append, size_tileC]
    by_cases h2 : k - 256 < 256
    · rw [if_pos h2, get_tileC, if_pos h2, if_pos (by omega), show k / 256 = 1 by omega, show k % 256 = k - 256 by omega, show (k - 256) % 4 = k % 4 by omega]; rfl
    · rw [if_neg h2, get_tileC]
      by_cases h3 : k < 768
      · rw [if_pos (by omega), if_pos h3, show k / 256 = 2 by omega, show k % 256 = k - 256 - 256 by omega, show (k - 256 - 256) % 4 = k % 4 by omega]; rfl
      · rw [if_neg (by omega), if_neg h3]
theorem cells_tri (q : Nat → Nat → Px) : (Tri.v q).cells = triC q := by simp only [Tri.v, Value.cells]
attribute [irreducible] triC
/-- A build of three parts. -/
theorem built_three {t e : TypeId} {s : Nat} (hs : 0 < s) (u v x : Value) (hu : u.cells.size = s) (hv : v.cells.size = s) (hx : x.cells.size = s) (ht : Try.prog.underlying t = some (.array 3 e))
    (hz : ((Try.prog.info? t).bind (·.zero)).map (·.cells.size) = some (3 * s)) (he : (Try.prog.info? e).map (·.size) = some s) : Try.prog.built t [(0, u), (1, v), (2, x)] = some (u.cells ++ (v.cells ++ x.cells)) := by
  unfold Program.built
  cases h1 : Try.prog.info? t with
  | none => rw [h1] at hz; cases hz
  | some it =>
    rw [h1] at hz
    cases h2 : it.zero with
    | none => simp [h2] at hz
    | some z =>
      simp [h2] at hz
      cases h3 : Try.prog.info? e with
      | none => rw [h3] at he; cases he
      | some ie =>
        rw [h3] at he
        have hes : ie.size = s := by simpa using he
        simp only [ht, h2, h3, hes]
        have := Great.fill_whole hs [u, v, x] z.cells (by intro y hy; simp at hy; rcases hy with rfl | rfl | rfl <;> assumption) (by simp; omega)
        refine Eq.trans (by simpa using this) ?_
        simp
theorem run_build_tri (w : World) (o : Oper) (x y z : Operand) (ho : o.op = .build 35 #[(0, x), (1, y), (2, z)]) (ev : Operand → Value) (a b c : Nat → Px) (hx : ev x = Tile.v a) (hy : ev y = Tile.v b) (hz : ev z = Tile.v c) :
    (execOp ev o).run Try.prog w = .ok (.value (Tri.v (tri a b c))) w := by
  unfold execOp
  have h := built_three (t := 35) (e := 25) (s := 256) (by omega) (Tile.v a) (Tile.v b) (Tile.v c) (by rw [cells_tile, size_tileC]) (by rw [cells_tile, size_tileC]) (by rw [cells_tile, size_tileC]) Try.underlying35 (by kernel_rfl) (by kernel_rfl)
  have r := run_build w 35 #[(0, Tile.v a), (1, Tile.v b), (2, Tile.v c)] _ h
  simp only [ho, List.map_toArray, List.map_cons, List.map_nil, hx, hy, hz]
  simp only [Sem.run_bind, r, Result.andThen_ok, Sem.run_pure, cells_tile, three_parts]
  rfl

/-- The block b holds three tiles. -/
def TriAt (w : World) (b : Nat) (q : Nat → Nat → Px) : Prop := w.heap[b]? = some (.cells (triC q) 35 (0, 0))
theorem TriAt.of_eq {w w' : World} {b : Nat} {q : Nat → Nat → Px} (h : TriAt w b q) (e : w'.heap[b]? = w.heap[b]?) : TriAt w' b q := e.trans h
theorem TriAt.lt {w : World} {b : Nat} {q : Nat → Nat → Px} (h : TriAt w b q) : b < w.heap.size := (Array.getElem?_eq_some_iff.1 h).1
theorem run_load_tri {w : World} {b s : Nat} {q : Nat → Nat → Px} (h : TriAt w b q) (hs : s < 3) : (Instr.loadAt 25 (.pointer (some ⟨b, s * 256, none⟩))).run Try.prog w = .ok (Tile.v (q s)) w :=
  run_load_part h isAgg_tile (tile_size _) (fun j hj => tri_tile q s j hs (by rw [size_tileC] at hj; exact hj))
theorem tri_size (q : Nat → Nat → Px) : (Try.prog.info? 35).map (·.size) = some (triC q).size := by
  rw [size_triC]; kernel_rfl
theorem tri_oneCell (q : Nat → Nat → Px) : (triC q).all (·.oneCell') = true := by
  rw [Array.all_eq_true]
  intro i hi
  have h : (triC q)[i]? = some (triC q)[i] := Array.getElem?_eq_getElem hi
  rw [size_triC] at hi
  rw [get_triC, if_pos hi] at h
  rw [← Option.some.inj h]
  unfold pxC
  repeat' split
  all_goals rfl
theorem run_store_tri {w : World} {b : Nat} {p q : Nat → Nat → Px} (h : TriAt w b p) : (Instr.storeAt 35 (.pointer (some ⟨b, 0, none⟩)) (Tri.v q)).run Try.prog w = .ok () (w.setRow b (triC q)) := by
  simp only [Instr.storeAt, Instr.sureAddr, Sem.run_bind, Sem.run_pure, Result.andThen_ok]
  exact run_storeVar_row w b _ 35 _ _ h (tri_size q) (by rw [size_triC, size_triC]) (tri_oneCell q)
theorem run_alloc_tri (w : World) (o : Oper) (ho : o.op = .alloc 35) (ev : Operand → Value) : (execOp ev o).run Try.prog w = .ok (.value (.pointer (some ⟨w.heap.size, 0, none⟩))) (w.alloc (.cells (triC fun _ _ => Px.zero) 35)) := by
  obtain ⟨d, p, t, ps, af, gd⟩ := o
  simp only at ho
  subst ho
  kernel_rfl

/-- The block b holds two ints. -/
def PairAt (w : World) (b : Nat) (x y : Int) : Prop := w.heap[b]? = some (.cells #[.int .i64 x, .int .i64 y] 34 (0, 0))
theorem PairAt.of_eq {w w' : World} {b : Nat} {x y : Int} (h : PairAt w b x y) (e : w'.heap[b]? = w.heap[b]?) : PairAt w' b x y := e.trans h
theorem PairAt.lt {w : World} {b : Nat} {x y : Int} (h : PairAt w b x y) : b < w.heap.size := (Array.getElem?_eq_some_iff.1 h).1
theorem run_load_fst {w : World} {b : Nat} {x y : Int} (h : PairAt w b x y) : (Instr.loadAt 3 (.pointer (some ⟨b, 0, none⟩))).run Try.prog w = .ok (.int .i64 x) w :=
  run_load_int (((cells_of_block h).1 0).trans rfl)
theorem run_load_snd {w : World} {b : Nat} {x y : Int} (h : PairAt w b x y) : (Instr.loadAt 3 (.pointer (some ⟨b, 1, none⟩))).run Try.prog w = .ok (.int .i64 y) w :=
  run_load_int (((cells_of_block h).1 1).trans rfl)
theorem ov_pair {w : World} {b : Nat} {x y : Int} (h : PairAt w b x y) : ∀ w', (∃ u, w' = ov w u) → PairAt w' b x y := by
  rintro w' ⟨u, rfl⟩
  exact h.of_eq ((ov_below w u).block _ h.lt)
theorem run_alloc_pair (w : World) (o : Oper) (ho : o.op = .alloc 34) (ev : Operand → Value) : (execOp ev o).run Try.prog w = .ok (.value (.pointer (some ⟨w.heap.size, 0, none⟩))) (w.alloc (.cells #[.int .i64 0, .int .i64 0] 34)) := by
  obtain ⟨d, p, t, ps, af, gd⟩ := o
  simp only at ho
  subst ho
  kernel_rfl
theorem run_build_pair (w : World) (o : Oper) (x y : Operand) (ho : o.op = .build 34 #[(0, x), (1, y)]) (ev : Operand → Value) (m n : Int) (hx : ev x = .int .i64 m) (hy : ev y = .int .i64 n) :
    (execOp ev o).run Try.prog w = .ok (.value (.agg #[.int .i64 m, .int .i64 n])) w := by
  obtain ⟨d, p, t, ps, af, gd⟩ := o
  simp only at ho
  subst ho
  unfold execOp
  simp only [List.map_toArray, List.map_cons, List.map_nil, hx, hy]
  kernel_rfl

section
variable {ops : Array Oper} {rest : List Oper} {o : Oper} {a : Act} {w : World} {Q : Exit → Act → World → Prop} {K : Act → World → Prop}
theorem owp_buildT (ho : o.op = .build 25 #[]) (h : K (a.put o.dst (Tile.v fun _ => Px.zero)) w) : o.wp Try.prog a w K Q := by
  unfold Oper.wp
  rw [run_build_tile w o ho]
  exact h
theorem owp_buildTri (x y z : Operand) (ho : o.op = .build 35 #[(0, x), (1, y), (2, z)]) (f g k : Nat → Px) (hx : a.eval x = Tile.v f) (hy : a.eval y = Tile.v g) (hz : a.eval z = Tile.v k) (h : K (a.put o.dst (Tri.v (tri f g k))) w) : o.wp Try.prog a w K Q := by
  unfold Oper.wp
  rw [run_build_tri w o x y z ho _ f g k hx hy hz]
  exact h
theorem owp_allocTri (ho : o.op = .alloc 35)
    (h : ∀ w', TriAt w' w.heap.size (fun _ _ => Px.zero) → Below w.heap.size w w' → w'.heap.size = w.heap.size + 1 → K (a.put o.dst (.pointer (some ⟨w.heap.size, 0, none⟩))) w') : o.wp Try.prog a w K Q := by
  unfold Oper.wp
  rw [run_alloc_tri w o ho]
  exact h _ (by unfold TriAt; rw [heap_get_alloc, if_pos rfl]) ((Below.refl _ _).alloc (Nat.le_refl _) _) (World.size_alloc _ _)
theorem owp_storeTri (x y : Operand) (b : Nat) (g : Nat → Nat → Px) {f : Nat → Nat → Px} (ho : o.op = .store 35 x y) (hx : a.eval x = .pointer (some ⟨b, 0, none⟩)) (hy : a.eval y = Tri.v g) (ht : TriAt w b f)
    (h : ∀ w', TriAt w' b g → Chg b w w' → w'.heap.size = w.heap.size → K (a.put o.dst undef) w') : o.wp Try.prog a w K Q := by
  unfold Oper.wp execOp
  simp only [ho, hx, hy, run_store_tri ht, Sem.run_bind, Sem.run_pure, Result.andThen_ok]
  exact h _ (setRow_heap w b _ _ _ _ ht) ((Chg.refl b w).setRow _) (size_setRow _ _ _)
theorem wpList_boxI2' (hg : o.guard = none) (x : Operand) (ho : o.op = .box 34 x) (m n : Int) (hx : a.eval x = .agg #[.int .i64 m, .int .i64 n])
    (h : ∀ b w', w.heap.size ≤ b → b ≤ w.heap.size → PairAt w' b m n → Below b w w' → w'.heap.size = b + 1 → wpList Try.prog ops Q rest (a.put o.dst (.pointer (some ⟨b, 0, none⟩))) w') : wpList Try.prog ops Q (o :: rest) a w :=
  Great.wpList_boxTo hg _ x ho _ rfl _ rfl #[.int .i64 m, .int .i64 n] (by rw [hx]; rfl) (h _ _ (Nat.le_refl _) (Nat.le_refl _) (by unfold PairAt; rw [heap_get_alloc, if_pos rfl]) ((Below.refl _ _).alloc (Nat.le_refl _) _) (World.size_alloc _ _))
theorem wpList_allocI2' (hg : o.guard = none) (ho : o.op = .alloc 34)
    (h : ∀ b w', w.heap.size ≤ b → b ≤ w.heap.size → PairAt w' b 0 0 → Below b w w' → w'.heap.size = b + 1 → wpList Try.prog ops Q rest (a.put o.dst (.pointer (some ⟨b, 0, none⟩))) w') : wpList Try.prog ops Q (o :: rest) a w :=
  wpList_plain hg fun K hK => by
    unfold Oper.wp
    rw [run_alloc_pair w o ho]
    exact hK _ _ (h _ _ (Nat.le_refl _) (Nat.le_refl _) (by unfold PairAt; rw [heap_get_alloc, if_pos rfl]) ((Below.refl _ _).alloc (Nat.le_refl _) _) (World.size_alloc _ _))
theorem wpList_buildI2 (hg : o.guard = none) (x y : Operand) (ho : o.op = .build 34 #[(0, x), (1, y)]) (m n : Int) (hx : a.eval x = .int .i64 m) (hy : a.eval y = .int .i64 n)
    (h : wpList Try.prog ops Q rest (a.put o.dst (.agg #[.int .i64 m, .int .i64 n])) w) : wpList Try.prog ops Q (o :: rest) a w :=
  wpList_plain hg fun K hK => by
    unfold Oper.wp
    rw [run_build_pair w o x y ho _ m n hx hy]
    exact hK _ _ h
theorem wpList_storeI2 (hg : o.guard = none) (x y : Operand) (ho : o.op = .store 34 x y) (b : Nat) (hx : a.eval x = .pointer (some ⟨b, 0, none⟩)) (m n : Int) (hy : a.eval y = .agg #[.int .i64 m, .int .i64 n]) {m' n' : Int} (ht : PairAt w b m' n')
    (h : ∀ w', PairAt w' b m n → Chg b w w' → w'.heap.size = w.heap.size → wpList Try.prog ops Q rest (a.put o.dst undef) w') : wpList Try.prog ops Q (o :: rest) a w := by
  refine wpList_storeAny hg x y ho (w.setRow b #[.int .i64 m, .int .i64 n]) ?_ (h _ (setRow_heap w b _ _ _ _ ht) ((Chg.refl b w).setRow _) (size_setRow _ _ _))
  rw [hx, hy]
  simp only [Instr.storeAt, Instr.sureAddr, Sem.run_bind, Sem.run_pure, Result.andThen_ok]
  exact run_storeVar_row w b _ 34 _ _ ht (by kernel_rfl) rfl (by simp [Value.oneCell'])
end
theorem TriAt.drew {w : World} {b : Nat} {q : Nat → Nat → Px} (h : TriAt w b q) : TriAt w.drew b q := h
theorem PairAt.drew {w : World} {b : Nat} {x y : Int} (h : PairAt w b x y) : PairAt w.drew b x y := h
theorem neq_px_same (p : Px) (w : World) : (binOp .neq 23 (Px.v p) (Px.v p)).run Try.prog w = .ok (.bool false) w := by rw [neq_px, decide_eq_true rfl]; rfl
end Go.Proofs.Ytelfkakaaobfcaa
