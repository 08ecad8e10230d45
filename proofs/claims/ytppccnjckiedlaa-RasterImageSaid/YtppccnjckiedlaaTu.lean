/- Tiles: an index into a tile as a value, '==' of tiles, tiles filled from the left. -/
import Derived.Test.YtppccnjckiedlaaTt
import Derived.ChangeKeysEq
namespace Go.Proofs.Ytppccnjckiedlaa
open Go.RowKit Pl
set_option linter.unusedVariables false
set_option linter.unusedSimpArgs false
set_option maxRecDepth 20000

deriving instance DecidableEq for Px
/-- Two tiles are equal. -/
def eqT (f g : Nat → Px) : Bool := decide (∀ i ∈ List.range 64, f i = g i)
theorem eqT_iff (f g : Nat → Px) : eqT f g = true ↔ tileC f = tileC g := by
  unfold eqT
  simp only [decide_eq_true_eq, List.mem_range]
  exact ⟨fun h => tileC_congr h, fun h => tileC_inj h⟩
theorem eqT_refl (f : Nat → Px) : eqT f f = true := (eqT_iff f f).2 rfl
theorem extract_tile (f : Nat → Px) (k : Nat) (hk : k < 64) : (tileC f).extract (k * 4) (k * 4 + 4) = #[.int .u8 (f k).r, .int .u8 (f k).g, .int .u8 (f k).b, .int .u8 (f k).a] := by
  apply Array.ext_getElem?
  intro j
  rw [Array.getElem?_extract]
  simp only [size_tileC]
  by_cases hj : j < 4
  · rw [if_pos (by omega), tileC_at f k j hk hj]
    have hc : j = 0 ∨ j = 1 ∨ j = 2 ∨ j = 3 := by omega
    rcases hc with rfl | rfl | rfl | rfl <;> rfl
  · rw [if_neg (by omega)]
    exact (Array.getElem?_eq_none (by simp; omega)).symm
theorem Px.v_def (p : Px) : Px.v p = .agg #[.int .u8 p.r, .int .u8 p.g, .int .u8 p.b, .int .u8 p.a] := rfl
theorem isAgg_px (w : World) : (isAgg 37).run Try.prog w = .ok true w := by kernel_rfl
theorem sizeOf_px (w : World) : (sizeOf 37).run Try.prog w = .ok 4 w := by kernel_rfl
theorem cellsOf_px : Try.prog.cellsOf 37 = 4 := by kernel_rfl
theorem part_tile (f : Nat → Px) (k : Nat) (hk : k < 64) (w : World) : (Go.part 37 (tileC f) (k * 4)).run Try.prog w = .ok (Px.v (f k)) w := by
  unfold Go.part
  simp only [Sem.run_bind, isAgg_px, Result.andThen_ok, if_true, sizeOf_px, Sem.run_pure, extract_tile f k hk, Px.v_def]
theorem index_tile (f : Nat → Px) (k : Nat) (hk : k < 64) (w : World) : (Instr.index 40 (Tile.v f) (.int .i64 k)).run Try.prog w = .ok (Px.v (f k)) w := by
  unfold Instr.index Tile.v
  have e : (0 : Int) ≤ (k : Int) ∧ (k : Int) < 64 := by omega
  simp only [asIntOf, Sem.run_bind, Sem.run_pure, Result.andThen_ok, run_underlying Try.underlying40]
  rw [if_pos (by simpa using e)]
  simp only [Sem.run_bind, sizeOf_px, Result.andThen_ok, Int.toNat_natCast]
  exact part_tile f k hk w

/-- '==' of pixels, below. -/
theorem equalIn_px (d : Nat) (p q : Px) (w : World) : (Op.equalIn (d + 2) 37 (Px.v p) (Px.v q)).run Try.prog w = .ok (decide (p = q)) w := by
  have h : (Op.equalIn (d + 2) 37 (Px.v p) (Px.v q)).run Try.prog w = .ok (p.r == q.r && (p.g == q.g && (p.b == q.b && p.a == q.a))) w := by
    obtain ⟨r, g, b, a⟩ := p
    obtain ⟨r', g', b', a'⟩ := q
    simp only [Px.v]
    by_cases h1 : r = r' <;> by_cases h2 : g = g' <;> by_cases h3 : b = b' <;> by_cases h4 : a = a' <;> simp [go_sem, h1, h2, h3, h4]
  rw [h]
  congr 1
  obtain ⟨a, b, c, d⟩ := p
  obtain ⟨a', b', c', d'⟩ := q
  rw [Bool.eq_iff_iff]
  simp
theorem eqItems_tile (f g : Nat → Px) (w : World) : ∀ is : List Nat, (∀ i ∈ is, i < 64) → (Op.eqItems 9999 37 4 (tileC f) (tileC g) is).run Try.prog w = .ok (decide (∀ i ∈ is, f i = g i)) w
  | [], _ => by simp [Op.eqItems]
  | i :: is, h => by
    have hi : i < 64 := h i (by simp)
    simp only [Op.eqItems, Sem.run_bind, part_tile f i hi, part_tile g i hi, Result.andThen_ok, equalIn_px 9997]
    by_cases e : f i = g i
    · simp [e, eqItems_tile f g w is (fun j hj => h j (by simp [hj]))]
    · simp [e]
theorem equalIn_tile (f g : Nat → Px) (w : World) : (Op.equalIn 10000 40 (Tile.v f) (Tile.v g)).run Try.prog w = .ok (eqT f g) w := by
  obtain ⟨i, hi⟩ : ∃ i, Try.prog.info? 37 = some i := by
    cases h : Try.prog.info? 37 with
    | some i => exact ⟨i, rfl⟩
    | none =>
      have e : (Try.prog.info? 37).isSome = true := by kernel_rfl
      rw [h] at e; cases e
  unfold Tile.v
  refine (run_equalIn_array w 9999 (tileC f) (tileC g) Try.underlying40 hi).trans ?_
  rw [cellsOf_px, eqItems_tile f g w _ (fun i hi => List.mem_range.1 hi)]
  rfl
/-- '==' of tiles. -/
theorem eql_tile (f g : Nat → Px) (w : World) : (binOp .eql 40 (Tile.v f) (Tile.v g)).run Try.prog w = .ok (.bool (eqT f g)) w := by
  have h := run_eql_struct (P := Try.prog) w 40 (tileC f) (tileC g)
  have e := equalIn_tile f g w
  unfold Tile.v at e ⊢
  rw [h, e]; rfl
theorem neq_tile (f g : Nat → Px) (w : World) : (binOp .neq 40 (Tile.v f) (Tile.v g)).run Try.prog w = .ok (.bool (!eqT f g)) w := by
  have h := run_neq_struct (P := Try.prog) w 40 (tileC f) (tileC g)
  have e := equalIn_tile f g w
  unfold Tile.v at e ⊢
  rw [h, e]; rfl
theorem eql_tile_same (f : Nat → Px) (w : World) : (binOp .eql 40 (Tile.v f) (Tile.v f)).run Try.prog w = .ok (.bool true) w := by
  rw [eql_tile, eqT_refl]
theorem neq_tile_same (f : Nat → Px) (w : World) : (binOp .neq 40 (Tile.v f) (Tile.v f)).run Try.prog w = .ok (.bool false) w := by
  rw [neq_tile, eqT_refl]; rfl
theorem zero_tile : Tile.v (fun _ => Px.zero) = .agg (Array.replicate 256 (.int .u8 0)) := by
  unfold Tile.v
  congr 1
  apply Array.ext_getElem?
  intro k
  rw [get_tileC, Array.getElem?_replicate]
  have hc : k % 4 = 0 ∨ k % 4 = 1 ∨ k % 4 = 2 ∨ k % 4 = 3 := by omega
  rcases hc with h | h | h | h <;> simp [h, pxC, Px.zero]
theorem run_build_tile (w : World) (o : Oper) (ho : o.op = .build 40 #[]) (ev : Operand → Value) : (execOp ev o).run Try.prog w = .ok (.value (Tile.v fun _ => Px.zero)) w := by
  rw [zero_tile]
  obtain ⟨d, p, t, ps, af, gd⟩ := o
  simp only at ho
  subst ho
  kernel_rfl
theorem wpList_buildT {ops : Array Oper} {rest : List Oper} {o : Oper} {a : Act} {w : World} {Q : Exit → Act → World → Prop} (hg : o.guard = none) (ho : o.op = .build 40 #[])
    (h : wpList Try.prog ops Q rest (a.put o.dst (Tile.v fun _ => Px.zero)) w) : wpList Try.prog ops Q (o :: rest) a w :=
  wpList_plain hg fun K hK => by
    unfold Oper.wp
    rw [run_build_tile w o ho]
    exact hK _ _ h
/-- '==' of two pixels. -/
theorem eql_px (p q : Px) (w : World) : (binOp .eql 37 (Px.v p) (Px.v q)).run Try.prog w = .ok (.bool (decide (p = q))) w := by
  have h := run_eql_struct (P := Try.prog) w 37 #[.int .u8 p.r, .int .u8 p.g, .int .u8 p.b, .int .u8 p.a] #[.int .u8 q.r, .int .u8 q.g, .int .u8 q.b, .int .u8 q.a]
  have e := equalIn_px 9998 p q w
  rw [Px.v_def, Px.v_def] at e ⊢
  rw [h, e]; rfl
theorem neq_px (p q : Px) (w : World) : (binOp .neq 37 (Px.v p) (Px.v q)).run Try.prog w = .ok (.bool (!decide (p = q))) w := by
  have h := run_neq_struct (P := Try.prog) w 37 #[.int .u8 p.r, .int .u8 p.g, .int .u8 p.b, .int .u8 p.a] #[.int .u8 q.r, .int .u8 q.g, .int .u8 q.b, .int .u8 q.a]
  have e := equalIn_px 9998 p q w
  rw [Px.v_def, Px.v_def] at e ⊢
  rw [h, e]; rfl

/-- The first k pixels are those of g, the others those of f. -/
def stepT (f g : Nat → Px) (k : Nat) : Nat → Px := fun j => if j < k then g j else f j
theorem stepT_zero (f g : Nat → Px) : stepT f g 0 = f := by funext j; simp [stepT]
theorem stepT_next (f g : Nat → Px) (k : Nat) : upd (stepT f g k) k (g k) = stepT f g (k + 1) := by
  funext j
  unfold upd stepT
  by_cases h : j = k
  · subst h; simp
  · rw [if_neg h]
    by_cases h2 : j < k
    · rw [if_pos h2, if_pos (by omega)]
    · rw [if_neg h2, if_neg (by omega)]
theorem stepT_at (f g : Nat → Px) (k : Nat) : stepT f g k k = f k := by simp [stepT]
theorem stepT_all (f g : Nat → Px) : tileC (stepT f g 64) = tileC g := tileC_congr fun i hi => by simp [stepT, hi]
theorem TileAt.congr {w : World} {b : Nat} {f g : Nat → Px} (h : TileAt w b f) (e : tileC f = tileC g) : TileAt w b g := by unfold TileAt at h ⊢; rw [← e]; exact h
end Go.Proofs.Ytppccnjckiedlaa
