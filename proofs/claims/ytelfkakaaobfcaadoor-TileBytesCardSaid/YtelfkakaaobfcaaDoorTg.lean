/- Squares of four tiles: their cells, and the laws of the walk for them. -/
import Derived.Test.YtelfkakaaobfcaaDoorTz
import Derived.Test.YtelfkakaaobfcaaDoorMd
import Derived.Great.FillDense
namespace Go.Proofs.YtelfkakaaobfcaaDoor
open Go.RowKit Pl
set_option linter.unusedVariables false
set_option linter.unusedSimpArgs false
set_option maxRecDepth 20000

/-- The 1024 cells of four tiles. -/
def quadC (q : Nat → Nat → Px) : Array Value := Array.ofFn (n := 1024) fun k => pxC (q (k.val / 256) (k.val % 256 / 4)) (k.val % 4)
def halfC (a b : Nat → Px) : Array Value := (tileC a) ++ (tileC b)
def Half.v (a b : Nat → Px) : Value := .agg (halfC a b)
def Quad.v (q : Nat → Nat → Px) : Value := .agg (quadC q)
theorem size_quadC (q : Nat → Nat → Px) : (quadC q).size = 1024 := by unfold quadC; simp
theorem size_halfC (a b : Nat → Px) : (halfC a b).size = 512 := by unfold halfC; simp [size_tileC]
theorem get_quadC (q : Nat → Nat → Px) (k : Nat) : (quadC q)[k]? = if k < 1024 then some (pxC (q (k / 256) (k % 256 / 4)) (k % 4)) else none := by
  unfold quadC
  rw [Array.getElem?_ofFn]
  split <;> rfl
theorem quad_tile (q : Nat → Nat → Px) (s j : Nat) (hs : s < 4) (hj : j < 256) : (quadC q)[s * 256 + j]? = (tileC (q s))[j]? := by
  rw [get_quadC, get_tileC, if_pos (by omega), if_pos hj, show (s * 256 + j) / 256 = s by omega, show (s * 256 + j) % 256 = j by omega, show (s * 256 + j) % 4 = j % 4 by omega]
/-- The tile number s of four. -/
def four (a b c d : Nat → Px) (s : Nat) : Nat → Px := if s = 0 then a else if s = 1 then b else if s = 2 then c else d
set_option maxRecDepth 20000 in
theorem half_half (a b c d : Nat → Px) : halfC a b ++ halfC c d = quadC (four a b c d) := by
  apply Array.ext_getElem?
  intro k
  rw [get_quadC, Array.getElem?_append, size_halfC]
  by_cases h1 : k < 512
  · rw [if_pos h1, if_pos (by omega)]
    unfold halfC
    rw [Array.getElem?_append, size_tileC]
    by_cases h2 : k < 256
    · rw [if_pos h2, get_tileC, if_pos h2, show k / 256 = 0 by omega, show k % 256 = k by omega]; rfl
    · rw [if_neg h2, get_tileC, if_pos (by omega), show k / 256 = 1 by omega, show k % 256 = k - 256 by omega, show (k - 256) % 4 = k % 4 by omega]; rfl
  · rw [if_neg h1]
    unfold halfC
    rw [Array.getElem?_append, size_tileC]
    by_cases h2 : k - 512 < 256
    · rw [if_pos h2, get_tileC, if_pos h2, if_pos (by omega), show k / 256 = 2 by omega, show k % 256 = k - 512 by omega, show (k - 512) % 4 = k % 4 by omega]; rfl
    · rw [if_neg h2, get_tileC]
      by_cases h3 : k < 1024
      · rw [if_pos (by omega), if_pos h3, show k / 256 = 3 by omega, show k % 256 = k - 512 - 256 by omega, show (k - 512 - 256) % 4 = k % 4 by omega]; rfl
      · rw [if_neg (by omega), if_neg h3]
theorem half_def (a b : Nat → Px) : halfC a b = tileC a ++ tileC b := rfl
attribute [irreducible] quadC halfC

/-- A build of two parts. -/
theorem built_two {t e : TypeId} {s : Nat} (hs : 0 < s) (u v : Value) (hu : u.cells.size = s) (hv : v.cells.size = s) (ht : Tryd.prog.underlying t = some (.array 2 e))
    (hz : ((Tryd.prog.info? t).bind (·.zero)).map (·.cells.size) = some (2 * s)) (he : (Tryd.prog.info? e).map (·.size) = some s) : Tryd.prog.built t [(0, u), (1, v)] = some (u.cells ++ v.cells) := by
  unfold Program.built
  cases h1 : Tryd.prog.info? t with
  | none => rw [h1] at hz; cases hz
  | some it =>
    rw [h1] at hz
    cases h2 : it.zero with
    | none => simp [h2] at hz
    | some z =>
      simp [h2] at hz
      cases h3 : Tryd.prog.info? e with
      | none => rw [h3] at he; cases he
      | some ie =>
        rw [h3] at he
        have hes : ie.size = s := by simpa using he
        simp only [ht, h2, h3, hes]
        have := Great.fill_whole hs [u, v] z.cells (by intro x hx; simp at hx; rcases hx with rfl | rfl <;> assumption) (by simp; omega)
        refine Eq.trans (by simpa using this) ?_
        simp
theorem run_build_half (w : World) (o : Oper) (x y : Operand) (ho : o.op = .build 59 #[(0, x), (1, y)]) (ev : Operand → Value) (a b : Nat → Px) (hx : ev x = Tile.v a) (hy : ev y = Tile.v b) :
    (execOp ev o).run Tryd.prog w = .ok (.value (Half.v a b)) w := by
  unfold execOp
  have h := built_two (t := 59) (e := 25) (s := 256) (by omega) (Tile.v a) (Tile.v b) (by rw [cells_tile, size_tileC]) (by rw [cells_tile, size_tileC]) Tryd.underlying59 (by kernel_rfl) (by kernel_rfl)
  have r := run_build w 59 #[(0, Tile.v a), (1, Tile.v b)] _ h
  simp only [ho, List.map_toArray, List.map_cons, List.map_nil, hx, hy]
  simp only [Sem.run_bind, r, Result.andThen_ok, Sem.run_pure, cells_tile]
  rw [← half_def]; rfl
theorem cells_half (a b : Nat → Px) : (Half.v a b).cells = halfC a b := by simp only [Half.v, Value.cells]
theorem run_build_quad (w : World) (o : Oper) (x y : Operand) (ho : o.op = .build 60 #[(0, x), (1, y)]) (ev : Operand → Value) (a b c d : Nat → Px) (hx : ev x = Half.v a b) (hy : ev y = Half.v c d) :
    (execOp ev o).run Tryd.prog w = .ok (.value (Quad.v (four a b c d))) w := by
  unfold execOp
  have h := built_two (t := 60) (e := 59) (s := 512) (by omega) (Half.v a b) (Half.v c d) (by rw [cells_half, size_halfC]) (by rw [cells_half, size_halfC]) Tryd.underlying60 (by kernel_rfl) (by kernel_rfl)
  have r := run_build w 60 #[(0, Half.v a b), (1, Half.v c d)] _ h
  simp only [ho, List.map_toArray, List.map_cons, List.map_nil, hx, hy]
  simp only [Sem.run_bind, r, Result.andThen_ok, Sem.run_pure, cells_half, half_half]
  rfl

/-- The block b holds four tiles. -/
def QuadAt (w : World) (b : Nat) (q : Nat → Nat → Px) : Prop := w.heap[b]? = some (.cells (quadC q) 60 (0, 0))
theorem QuadAt.of_eq {w w' : World} {b : Nat} {q : Nat → Nat → Px} (h : QuadAt w b q) (e : w'.heap[b]? = w.heap[b]?) : QuadAt w' b q := e.trans h
theorem QuadAt.lt {w : World} {b : Nat} {q : Nat → Nat → Px} (h : QuadAt w b q) : b < w.heap.size := (Array.getElem?_eq_some_iff.1 h).1
theorem run_load_quad {w : World} {b s : Nat} {q : Nat → Nat → Px} (h : QuadAt w b q) (hs : s < 4) : (Instr.loadAt 25 (.pointer (some ⟨b, s * 256, none⟩))).run Tryd.prog w = .ok (Tile.v (q s)) w := by
  simp only [Instr.loadAt, Instr.sureAddr, Sem.run_bind, Sem.run_pure, Result.andThen_ok]
  have hl : (loadCells ⟨b, s * 256, none⟩ (tileC (q s)).toList.length).run Tryd.prog w = .ok (tileC (q s)).toList.toArray w :=
    run_loadCells_list (P := Tryd.prog) w ⟨b, s * 256, none⟩ (tileC (q s)).toList (fun j v hv => by
      have hadd : (⟨b, s * 256, none⟩ : Addr).add j = ⟨b, s * 256 + j, none⟩ := by unfold Addr.add; split <;> simp_all
      have hj : j < 256 := by
        have := (List.getElem?_eq_some_iff.1 hv).1
        rw [Array.length_toList, size_tileC] at this
        exact this
      rw [hadd, cell_of_row w b _ (quadC q) _ (0, 0) h, quad_tile q s j hs hj]
      simpa using hv)
  have hagg : (isAgg 25).run Tryd.prog w = .ok true w := by
    unfold isAgg
    rw [Sem.run_bind, run_underlying Tryd.underlying25 w]
    simp
  have hsz := tile_size (q s)
  cases hq : Tryd.prog.info? 25 with
  | none => rw [hq] at hsz; cases hsz
  | some i =>
    have he : i.size = (tileC (q s)).size := by rw [hq] at hsz; simpa using hsz
    rw [Array.length_toList] at hl
    simp only [Array.toArray_toList] at hl
    simp only [loadVar, Sem.run_bind, hagg, sizeOf, typeInfo, hq, he, hl, run_program, Result.andThen_ok, if_true, Sem.run_pure]
    simp [hl, Tile.v, he]
theorem quad_size (q : Nat → Nat → Px) : (Tryd.prog.info? 60).map (·.size) = some (quadC q).size := by
  rw [size_quadC]; kernel_rfl
theorem quad_oneCell (q : Nat → Nat → Px) : (quadC q).all (·.oneCell') = true := by
  rw [Array.all_eq_true]
  intro i hi
  have h : (quadC q)[i]? = some (quadC q)[i] := Array.getElem?_eq_getElem hi
  rw [size_quadC] at hi
  rw [get_quadC, if_pos hi] at h
  rw [← Option.some.inj h]
  unfold pxC
  repeat' split
  all_goals rfl
theorem run_store_quad {w : World} {b : Nat} {p q : Nat → Nat → Px} (h : QuadAt w b p) : (Instr.storeAt 60 (.pointer (some ⟨b, 0, none⟩)) (Quad.v q)).run Tryd.prog w = .ok () (w.setRow b (quadC q)) := by
  simp only [Instr.storeAt, Instr.sureAddr, Sem.run_bind, Sem.run_pure, Result.andThen_ok]
  exact run_storeVar_row w b _ 60 _ _ h (quad_size q) (by rw [size_quadC, size_quadC]) (quad_oneCell q)
theorem run_alloc_quad (w : World) (o : Oper) (ho : o.op = .alloc 60) (ev : Operand → Value) : (execOp ev o).run Tryd.prog w = .ok (.value (.pointer (some ⟨w.heap.size, 0, none⟩))) (w.alloc (.cells (quadC fun _ _ => Px.zero) 60)) := by
  obtain ⟨d, p, t, ps, af, gd⟩ := o
  simp only at ho
  subst ho
  kernel_rfl
theorem run_alloc_mean (w : World) (o : Oper) (ho : o.op = .alloc 66) (ev : Operand → Value) : (execOp ev o).run Tryd.prog w = .ok (.value (.pointer (some ⟨w.heap.size, 0, none⟩))) (w.alloc (.cells #[.int .i64 0, .int .i64 0, .int .i64 0, .int .i64 0, .int .i64 0] 66)) := by
  obtain ⟨d, p, t, ps, af, gd⟩ := o
  simp only at ho
  subst ho
  kernel_rfl

section
variable {ops : Array Oper} {rest : List Oper} {o : Oper} {a : Act} {w : World} {Q : Exit → Act → World → Prop} {F : Fence} {n : Nat}
theorem wpListIn_storeAny {t : TypeId} (hg : o.guard = none) (x y : Operand) (ho : o.op = .store t x y) (w' : World) (hrun : (Instr.storeAt t (a.eval x) (a.eval y)).run Tryd.prog w = .ok () w')
    (h : wpListIn F n Tryd.prog ops Q rest (a.put o.dst undef) w') : wpListIn F n Tryd.prog ops Q (o :: rest) a w :=
  wpListIn_plain hg fun K hK => by
    refine ⟨fun f hf => ?_, ?_⟩
    · unfold Oper.about at hf
      rw [ho] at hf
      cases hf
    · rw [Oper.semAt_eq _ _ _ (fun c h => by rw [ho] at h; cases h)]
      unfold execOp
      simp only [ho, hrun, Sem.run_bind, Sem.run_pure, Result.andThen_ok]
      exact hK _ _ h
theorem wpListIn_storeTp (hg : o.guard = none) (x y : Operand) (ho : o.op = .store 23 x y) (b j : Nat) (hx : a.eval x = .pointer (some ⟨b, j, none⟩)) (q : Px) (hy : a.eval y = Px.v q) {f : Nat → Px} (ht : TileAt w b f) (i : Nat) (hi : i < 64) (hj : j = i * 4)
    (h : ∀ w', TileAt w' b (upd f i q) → Chg b w w' → w'.heap.size = w.heap.size → wpListIn F n Tryd.prog ops Q rest (a.put o.dst undef) w') : wpListIn F n Tryd.prog ops Q (o :: rest) a w := by
  subst hj
  refine wpListIn_storeAny hg x y ho _ ?_ (h _ (ht.set hi q) (set4_chg _ _ _ _) (set4_size _ _ _ _))
  rw [hx, hy]
  exact run_store_tp ht hi q
theorem wpListIn_storeQ (hg : o.guard = none) (x y : Operand) (ho : o.op = .store 60 x y) (b : Nat) (hx : a.eval x = .pointer (some ⟨b, 0, none⟩)) (q : Nat → Nat → Px) (hy : a.eval y = Quad.v q) {p : Nat → Nat → Px} (ht : QuadAt w b p)
    (h : ∀ w', QuadAt w' b q → Chg b w w' → w'.heap.size = w.heap.size → wpListIn F n Tryd.prog ops Q rest (a.put o.dst undef) w') : wpListIn F n Tryd.prog ops Q (o :: rest) a w := by
  refine wpListIn_storeAny hg x y ho _ ?_ (h _ (setRow_heap w b _ _ _ _ ht) ((Chg.refl b w).setRow _) (size_setRow _ _ _))
  rw [hx, hy]
  exact run_store_quad ht
theorem wpListIn_allocQ (hg : o.guard = none) (ho : o.op = .alloc 60)
    (h : ∀ w', QuadAt w' w.heap.size (fun _ _ => Px.zero) → Below w.heap.size w w' → w'.heap.size = w.heap.size + 1 → wpListIn F n Tryd.prog ops Q rest (a.put o.dst (.pointer (some ⟨w.heap.size, 0, none⟩))) w') : wpListIn F n Tryd.prog ops Q (o :: rest) a w :=
  wpListIn_run hg (fun c h => by rw [ho] at h; cases h) (fun c h => by rw [ho] at h; cases h) _ _ (run_alloc_quad w o ho _)
    (h _ (by unfold QuadAt; rw [heap_get_alloc, if_pos rfl]) ((Below.refl _ _).alloc (Nat.le_refl _) _) (World.size_alloc _ _))
theorem wpListIn_allocM (hg : o.guard = none) (ho : o.op = .alloc 66)
    (h : ∀ w', PMean w' w.heap.size Acc.zero → Below w.heap.size w w' → w'.heap.size = w.heap.size + 1 → wpListIn F n Tryd.prog ops Q rest (a.put o.dst (.pointer (some ⟨w.heap.size, 0, none⟩))) w') : wpListIn F n Tryd.prog ops Q (o :: rest) a w :=
  wpListIn_run hg (fun c h => by rw [ho] at h; cases h) (fun c h => by rw [ho] at h; cases h) _ _ (run_alloc_mean w o ho _)
    (h _ (by unfold PMean; rw [heap_get_alloc, if_pos rfl]; rfl) ((Below.refl _ _).alloc (Nat.le_refl _) _) (World.size_alloc _ _))
theorem wpListIn_buildH (hg : o.guard = none) (x y : Operand) (ho : o.op = .build 59 #[(0, x), (1, y)]) (p q : Nat → Px) (hx : a.eval x = Tile.v p) (hy : a.eval y = Tile.v q)
    (h : wpListIn F n Tryd.prog ops Q rest (a.put o.dst (Half.v p q)) w) : wpListIn F n Tryd.prog ops Q (o :: rest) a w :=
  wpListIn_run hg (fun c h => by rw [ho] at h; cases h) (fun c h => by rw [ho] at h; cases h) _ _ (run_build_half w o x y ho _ p q hx hy) h
theorem wpListIn_buildQ (hg : o.guard = none) (x y : Operand) (ho : o.op = .build 60 #[(0, x), (1, y)]) (p q r s : Nat → Px) (hx : a.eval x = Half.v p q) (hy : a.eval y = Half.v r s)
    (h : wpListIn F n Tryd.prog ops Q rest (a.put o.dst (Quad.v (four p q r s))) w) : wpListIn F n Tryd.prog ops Q (o :: rest) a w :=
  wpListIn_run hg (fun c h => by rw [ho] at h; cases h) (fun c h => by rw [ho] at h; cases h) _ _ (run_build_quad w o x y ho _ p q r s hx hy) h
theorem wpListIn_loadQ (hg : o.guard = none) (x : Operand) (ho : o.op = .load 25 x) (b j : Nat) (hx : a.eval x = .pointer (some ⟨b, j, none⟩)) {q : Nat → Nat → Px} (ht : QuadAt w b q) (s : Nat) (hs : s < 4) (hj : j = s * 256)
    (h : wpListIn F n Tryd.prog ops Q rest (a.put o.dst (Tile.v (q s))) w) : wpListIn F n Tryd.prog ops Q (o :: rest) a w :=
  wpListIn_run hg (fun c h => by rw [ho] at h; cases h) (fun c h => by rw [ho] at h; cases h) _ w (by
    subst hj
    unfold execOp
    simp only [ho, hx, run_load_quad ht hs, Sem.run_bind, Sem.run_pure, Result.andThen_ok]) h
end
end Go.Proofs.YtelfkakaaobfcaaDoor
