/- The argument 'Layers': two tiles, a mode, a coverage; its cells, its block, the loads of its parts; how it is opened. -/
import Derived.Test.YtelfkakaaobfcaaTd
namespace Go.Proofs.Ytelfkakaaobfcaa
open Go.RowKit Pl
set_option linter.unusedVariables false
set_option linter.unusedSimpArgs false

structure Lay where
  back : Nat → Px
  src : Nat → Px
  mode : Int
  cov : Nat → Int
def layC (L : Lay) : Array Value := Array.ofFn (n := 577) fun k => if k.val < 256 then pxC (L.back (k.val / 4)) (k.val % 4) else if k.val < 512 then pxC (L.src ((k.val - 256) / 4)) ((k.val - 256) % 4) else if k.val = 512 then .int .i64 L.mode else .int .u8 (L.cov (k.val - 513))
def Lay.v (L : Lay) : Value := .agg (layC L)
theorem size_layC (L : Lay) : (layC L).size = 577 := by unfold layC; simp
theorem get_layC (L : Lay) (k : Nat) : (layC L)[k]? = if k < 577 then some (if k < 256 then pxC (L.back (k / 4)) (k % 4) else if k < 512 then pxC (L.src ((k - 256) / 4)) ((k - 256) % 4) else if k = 512 then .int .i64 L.mode else .int .u8 (L.cov (k - 513))) else none := by
  unfold layC
  rw [Array.getElem?_ofFn]
  split <;> rfl
theorem lay_back (L : Lay) (j : Nat) (hj : j < 256) : (layC L)[0 + j]? = (tileC L.back)[j]? := by
  rw [get_layC, get_tileC, if_pos (by omega), if_pos (by omega), if_pos hj, Nat.zero_add]
theorem lay_src (L : Lay) (j : Nat) (hj : j < 256) : (layC L)[256 + j]? = (tileC L.src)[j]? := by
  rw [get_layC, get_tileC, if_pos (by omega), if_neg (by omega), if_pos (by omega), if_pos hj, show 256 + j - 256 = j by omega]
theorem lay_mode (L : Lay) : (layC L)[512]? = some (.int .i64 L.mode) := by
  rw [get_layC, if_pos (by omega), if_neg (by omega), if_neg (by omega), if_pos rfl]
theorem lay_cov (L : Lay) (j : Nat) (hj : j < 64) : (layC L)[513 + j]? = (covC L.cov)[j]? := by
  rw [get_layC, get_covC, if_pos (by omega), if_neg (by omega), if_neg (by omega), if_neg (by omega), if_pos hj, show 513 + j - 513 = j by omega]
theorem cells_lay (L : Lay) : (Lay.v L).cells = layC L := by simp only [Lay.v, Value.cells]
attribute [irreducible] layC

/-- The block b holds the argument. -/
def LayAt (w : World) (b : Nat) (L : Lay) : Prop := w.heap[b]? = some (.cells (layC L) 41 (0, 0))
theorem LayAt.of_eq {w w' : World} {b : Nat} {L : Lay} (h : LayAt w b L) (e : w'.heap[b]? = w.heap[b]?) : LayAt w' b L := e.trans h
theorem LayAt.lt {w : World} {b : Nat} {L : Lay} (h : LayAt w b L) : b < w.heap.size := (Array.getElem?_eq_some_iff.1 h).1
theorem ov_lay {w : World} {b : Nat} {L : Lay} (h : LayAt w b L) : ∀ w', (∃ u, w' = ov w u) → LayAt w' b L := by
  rintro w' ⟨u, rfl⟩
  exact h.of_eq ((ov_below w u).block _ h.lt)
theorem run_load_part {w : World} {b off : Nat} {bcs cs : Array Value} {bt t : TypeId} (h : w.heap[b]? = some (.cells bcs bt (0, 0))) (hagg : ∀ w : World, (isAgg t).run Try.prog w = .ok true w)
    (hsz : (Try.prog.info? t).map (·.size) = some cs.size) (hc : ∀ j, j < cs.size → bcs[off + j]? = cs[j]?) : (Instr.loadAt t (.pointer (some ⟨b, off, none⟩))).run Try.prog w = .ok (.agg cs) w := by
  simp only [Instr.loadAt, Instr.sureAddr, Sem.run_bind, Sem.run_pure, Result.andThen_ok]
  have hl : (loadCells ⟨b, off, none⟩ cs.toList.length).run Try.prog w = .ok cs.toList.toArray w :=
    run_loadCells_list (P := Try.prog) w ⟨b, off, none⟩ cs.toList (fun j v hv => by
      have hadd : (⟨b, off, none⟩ : Addr).add j = ⟨b, off + j, none⟩ := by unfold Addr.add; split <;> simp_all
      have hj : j < cs.size := by
        have := (List.getElem?_eq_some_iff.1 hv).1
        rw [Array.length_toList] at this
        exact this
      rw [hadd, cell_of_row w b _ bcs _ (0, 0) h, hc j hj]
      simpa using hv)
  cases hq : Try.prog.info? t with
  | none => rw [hq] at hsz; cases hsz
  | some i =>
    have he : i.size = cs.size := by rw [hq] at hsz; simpa using hsz
    rw [Array.length_toList] at hl
    simp only [Array.toArray_toList] at hl
    simp only [loadVar, Sem.run_bind, hagg w, sizeOf, typeInfo, hq, he, hl, run_program, Result.andThen_ok, if_true, Sem.run_pure]
theorem isAgg_tile (w : World) : (isAgg 25).run Try.prog w = .ok true w := by
  unfold isAgg
  rw [Sem.run_bind, run_underlying Try.underlying25 w]
  simp
theorem isAgg_cov (w : World) : (isAgg 39).run Try.prog w = .ok true w := by
  unfold isAgg
  rw [Sem.run_bind, run_underlying Try.underlying39 w]
  simp
theorem run_lay_back {w : World} {b : Nat} {L : Lay} (h : LayAt w b L) : (Instr.loadAt 25 (.pointer (some ⟨b, 0, none⟩))).run Try.prog w = .ok (Tile.v L.back) w :=
  run_load_part h isAgg_tile (tile_size _) (fun j hj => lay_back L j (by rw [size_tileC] at hj; exact hj))
theorem run_lay_src {w : World} {b : Nat} {L : Lay} (h : LayAt w b L) : (Instr.loadAt 25 (.pointer (some ⟨b, 256, none⟩))).run Try.prog w = .ok (Tile.v L.src) w :=
  run_load_part h isAgg_tile (tile_size _) (fun j hj => lay_src L j (by rw [size_tileC] at hj; exact hj))
theorem run_lay_cov {w : World} {b : Nat} {L : Lay} (h : LayAt w b L) : (Instr.loadAt 39 (.pointer (some ⟨b, 513, none⟩))).run Try.prog w = .ok (Cov.v L.cov) w :=
  run_load_part h isAgg_cov (cov_size _) (fun j hj => lay_cov L j (by rw [size_covC] at hj; exact hj))
theorem run_lay_mode {w : World} {b : Nat} {L : Lay} (h : LayAt w b L) : (Instr.loadAt 3 (.pointer (some ⟨b, 512, none⟩))).run Try.prog w = .ok (.int .i64 L.mode) w :=
  run_load_int (((cells_of_block h).1 512).trans (lay_mode L))
theorem run_lay_backP {w : World} {b : Nat} {L : Lay} (h : LayAt w b L) {i : Nat} (hi : i < 64) : (Instr.loadAt 23 (.pointer (some ⟨b, i * 4, none⟩))).run Try.prog w = .ok (Px.v (L.back i)) w := by
  have k : ∀ j, j < 4 → w.cell? ⟨b, i * 4 + j, none⟩ = some (pxC (L.back i) j) := fun j hj => by
    rw [← tileC_at L.back i j hi hj, ← lay_back L _ (by omega), Nat.zero_add]
    exact (cells_of_block h).1 _
  have c0 : w.cell? ⟨b, i * 4, none⟩ = some (.int .u8 (L.back i).r) := k 0 (by omega)
  have c1 : w.cell? ⟨b, i * 4 + 1, none⟩ = some (.int .u8 (L.back i).g) := k 1 (by omega)
  have c2 : w.cell? ⟨b, i * 4 + 2, none⟩ = some (.int .u8 (L.back i).b) := k 2 (by omega)
  have c3 : w.cell? ⟨b, i * 4 + 3, none⟩ = some (.int .u8 (L.back i).a) := k 3 (by omega)
  simp [go_sem, c0, c1, c2, c3, Px.v]
theorem run_lay_srcP {w : World} {b : Nat} {L : Lay} (h : LayAt w b L) {i : Nat} (hi : i < 64) : (Instr.loadAt 23 (.pointer (some ⟨b, 256 + i * 4, none⟩))).run Try.prog w = .ok (Px.v (L.src i)) w := by
  have k : ∀ j, j < 4 → w.cell? ⟨b, 256 + i * 4 + j, none⟩ = some (pxC (L.src i) j) := fun j hj => by
    rw [← tileC_at L.src i j hi hj, ← lay_src L _ (by omega), ← Nat.add_assoc]
    exact (cells_of_block h).1 _
  have c0 : w.cell? ⟨b, 256 + i * 4, none⟩ = some (.int .u8 (L.src i).r) := k 0 (by omega)
  have c1 : w.cell? ⟨b, 256 + i * 4 + 1, none⟩ = some (.int .u8 (L.src i).g) := k 1 (by omega)
  have c2 : w.cell? ⟨b, 256 + i * 4 + 2, none⟩ = some (.int .u8 (L.src i).b) := k 2 (by omega)
  have c3 : w.cell? ⟨b, 256 + i * 4 + 3, none⟩ = some (.int .u8 (L.src i).a) := k 3 (by omega)
  simp [go_sem, c0, c1, c2, c3, Px.v]
theorem run_lay_srcA {w : World} {b : Nat} {L : Lay} (h : LayAt w b L) {i : Nat} (hi : i < 64) : (Instr.loadAt 5 (.pointer (some ⟨b, 256 + i * 4 + 3, none⟩))).run Try.prog w = .ok (.int .u8 (L.src i).a) w := by
  have e : w.cell? ⟨b, 256 + i * 4 + 3, none⟩ = some (pxC (L.src i) 3) := by
    rw [← tileC_at L.src i 3 hi (by omega), ← lay_src L _ (by omega), ← Nat.add_assoc]
    exact (cells_of_block h).1 _
  exact run_load_u8 e
theorem run_lay_covB {w : World} {b : Nat} {L : Lay} (h : LayAt w b L) {i : Nat} (hi : i < 64) : (Instr.loadAt 5 (.pointer (some ⟨b, 513 + i, none⟩))).run Try.prog w = .ok (.int .u8 (L.cov i)) w := by
  have e : w.cell? ⟨b, 513 + i, none⟩ = some (.int .u8 (L.cov i)) := by
    rw [← covC_at L.cov i hi, ← lay_cov L _ hi]
    exact (cells_of_block h).1 _
  exact run_load_u8 e
section
variable {ops : Array Oper} {rest : List Oper} {o : Oper} {a : Act} {w : World} {Q : Exit → Act → World → Prop}
theorem wpList_boxL' (hg : o.guard = none) (x : Operand) (ho : o.op = .box 41 x) (L : Lay) (hx : a.eval x = Lay.v L)
    (h : ∀ b w', w.heap.size ≤ b → b ≤ w.heap.size → LayAt w' b L → Below b w w' → w'.heap.size = b + 1 → wpList Try.prog ops Q rest (a.put o.dst (.pointer (some ⟨b, 0, none⟩))) w') : wpList Try.prog ops Q (o :: rest) a w :=
  Great.wpList_boxTo hg _ x ho _ rfl _ rfl (layC L) (by rw [hx]; exact cells_lay L) (h _ _ (Nat.le_refl _) (Nat.le_refl _) (by unfold LayAt; rw [heap_get_alloc, if_pos rfl]) ((Below.refl _ _).alloc (Nat.le_refl _) _) (World.size_alloc _ _))
end

section
open Go.ChangeShapes Go.WideShapes Go.ChangeAt
variable {H : Type} {enc : TypeId × Value → H} {w : World} {base : Nat} {spare : Nat → Bool} {held : Bool}
theorem trod_cov {fuel : Nat} {cs : List Value} {x : DataW H × List MemPlace} (h : DataW.trod enc Try.prog w base spare held fuel 39 cs = some x) :
    ∃ c : Nat → Int, cs = (covC c).toList ∧ Cok c := by
  have hC : Try.prog.cellsOf 5 = 1 := by kernel_rfl
  have hCT : Try.prog.cellsOf 39 = 64 := by kernel_rfl
  obtain ⟨xs, m, _, _, hlen, hxs, hel⟩ := DataW.trod_array Try.underlying39 h
  rw [hCT] at hlen
  have hp : ∀ i, i < 64 → ∃ n : Int, (cs.drop (i * 1)).take 1 = [.int .u8 n] ∧ 0 ≤ n ∧ n ≤ 255 := fun i hi => by
    have h1 := hel i hi
    rw [hC] at h1
    cases hx : xs[i]? with
    | none =>
      have := List.getElem?_eq_none_iff.1 hx
      omega
    | some y =>
      rw [hx] at h1
      obtain ⟨n, e, _, wn⟩ := DataW.trod_int Try.underlying5 h1
      exact ⟨n, e, wf_u8 wn⟩
  obtain ⟨c, hf⟩ : ∃ c : Nat → Int, ∀ i, i < 64 → (cs.drop (i * 1)).take 1 = [.int .u8 (c i)] ∧ 0 ≤ c i ∧ c i ≤ 255 := by
    classical
    exact ⟨fun i => if hi : i < 64 then Classical.choose (hp i hi) else 0, fun i hi => by simp only [dif_pos hi]; exact Classical.choose_spec (hp i hi)⟩
  refine ⟨c, ?_, fun i hi => (hf i hi).2⟩
  apply List.ext_getElem?
  intro k
  have eg : (covC c).toList[k]? = (covC c)[k]? := Array.getElem?_toList
  rw [eg, get_covC]
  by_cases hk : k < 64
  · rw [if_pos hk]
    have h1 := congrArg (fun l : List Value => l[0]?) (hf k hk).1
    simp only [List.getElem?_take, List.getElem?_drop] at h1
    rw [if_pos (by omega), show k * 1 + 0 = k by omega] at h1
    rw [h1]; rfl
  · rw [if_neg hk, List.getElem?_eq_none_iff]; omega

theorem open_layers {r : Reach} {b0 : Nat} {v : Value} {d : DataW H} {p : List MemPlace} (hv : Value.okWide Try.prog w r b0 41 v)
    (h : DataW.Trod enc Try.prog w base spare held 41 v d p) : ∃ L : Lay, v = Lay.v L ∧ Tok L.back ∧ Tok L.src ∧ Cok L.cov ∧ (Lit.int .i64 L.mode).wf = true := by
  obtain ⟨cs, rfl, hsz⟩ := okWide_struct Try.underlying41 hv
  obtain ⟨fuel, hf⟩ := h
  obtain ⟨y0, y1, y2, y3, n, hx, hl, h0, h1, h2, h3⟩ := Joins.trod_struct4 Try.underlying41 hf
  have hT : Try.prog.cellsOf 25 = 256 := by kernel_rfl
  have hI : Try.prog.cellsOf 3 = 1 := by kernel_rfl
  have hC : Try.prog.cellsOf 39 = 64 := by kernel_rfl
  have hL : Try.prog.cellsOf 41 = 577 := by kernel_rfl
  simp only [hT, hI, hC, Value.cells] at h0 h1 h2 h3
  obtain ⟨fb, eb, okb⟩ := trod_tile h0
  obtain ⟨fs, es, oks⟩ := trod_tile h1
  obtain ⟨m, em, _, wm⟩ := DataW.trod_int Try.underlying3 h2
  obtain ⟨fc, ec, okc⟩ := trod_cov h3
  rw [hL] at hsz
  refine ⟨⟨fb, fs, m, fc⟩, ?_, okb, oks, okc, wm⟩
  unfold Lay.v
  congr 1
  apply Array.ext_getElem?
  intro k
  have part : ∀ (off n j : Nat) (l : List Value), (cs.toList.drop off).take n = l → j < n → cs[off + j]? = l[j]? := fun off n j l e hj => by
    rw [← e, List.getElem?_take, List.getElem?_drop, if_pos hj]
    simp
  by_cases k1 : k < 256
  · have := part 0 256 k _ eb k1
    rw [Nat.zero_add] at this
    rw [this, ← Nat.zero_add k, lay_back _ _ k1, Nat.zero_add]
    simp
  · by_cases k2 : k < 512
    · have := part 256 256 (k - 256) _ es (by omega)
      rw [show 256 + (k - 256) = k by omega] at this
      rw [this]
      have e2 := lay_src ⟨fb, fs, m, fc⟩ (k - 256) (by omega)
      rw [show 256 + (k - 256) = k by omega] at e2
      rw [e2]
      simp
    · by_cases k3 : k = 512
      · subst k3
        have := part 512 1 0 _ em (by omega)
        rw [lay_mode]
        simpa using this
      · by_cases k4 : k < 577
        · have := part 513 64 (k - 513) _ ec (by omega)
          rw [show 513 + (k - 513) = k by omega] at this
          rw [this]
          have e2 := lay_cov ⟨fb, fs, m, fc⟩ (k - 513) (by omega)
          rw [show 513 + (k - 513) = k by omega] at e2
          rw [e2]
          simp
        · rw [Array.getElem?_eq_none (by omega), Array.getElem?_eq_none (by rw [size_layC]; omega)]
end
end Go.Proofs.Ytelfkakaaobfcaa
