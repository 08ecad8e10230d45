import Derived.Test.YtppccnjckiedlaaK3
import Derived.Deep.Slices
import Derived.Test.YtppccnjckiedlaaK2

/- Plain: a raster after pixel updates, by its pixels; grids of 32 times 32 pixels. -/
namespace Go.Proofs.Ytppccnjckiedlaa
open Go.RowKit Pl
set_option linter.unusedVariables false
set_option linter.unusedSimpArgs false
/-- A pixel update, as the law sends it. -/
structure Dt where
  x : Int
  y : Int
  p : Px
/-- All positions lie near the origin. -/
def Small (r : List TA) : Prop := ∀ e ∈ r, -2 ≤ e.x ∧ e.x ≤ 1 ∧ -2 ≤ e.y ∧ e.y ≤ 1
theorem inc_len : ∀ (l : List Nat) (m n : Nat), l.Pairwise (· < ·) → (∀ x ∈ l, m ≤ x ∧ x < n) → l.length ≤ n - m
  | [], _, _, _, _ => Nat.zero_le _
  | a :: t, m, n, hp, hb => by
    have ha := hb a (List.mem_cons_self ..)
    have h1 := List.pairwise_cons.1 hp
    have := inc_len t (a + 1) n h1.2 fun x hx => ⟨h1.1 x hx, (hb x (List.mem_cons_of_mem _ hx)).2⟩
    rw [List.length_cons]
    omega
theorem small_len {r : List TA} (hs : Srt r) (h : Small r) : r.length ≤ 16 := by
  have hp : (r.map fun e => ((e.y + 2) * 4 + (e.x + 2)).toNat).Pairwise (· < ·) := by
    rw [List.pairwise_map]
    refine hs.imp_of_mem fun {a b} ha hb hab => ?_
    have := h a ha
    have := h b hb
    have hh := of_decide_eq_true hab
    omega
  have := inc_len _ 0 16 hp fun x hx => by
    obtain ⟨e, he, rfl⟩ := List.mem_map.1 hx
    have := h e he
    omega
  simpa using this
theorem putL_small {r : List TA} (h : Small r) {x y : Int} {t : Nat → Px} (hx : -2 ≤ x ∧ x ≤ 1 ∧ -2 ≤ y ∧ y ≤ 1) : Small (putL r x y t) := fun e he => by
  rcases putL_mem he with he | ⟨rfl, _⟩
  · exact h e he
  · exact hx
theorem cleanP_idem (p : Px) : cleanP (cleanP p) = cleanP p := by
  unfold cleanP
  split
  · split <;> rfl
  · rfl
/-- What stands in a valid raster is clean. -/
theorem tileL_clean {r : List TA} (h : validL r = true) (x y : Int) {i : Nat} (hi : i < 64) : cleanP (tileL r x y i) = tileL r x y i := by
  rcases tileL_some r x y with e | ⟨e, he, _, _, ht⟩
  · rw [e]; rfl
  · rw [ht]
    exact eqT_at ((goodA_iff e).1 (validL_good h e he)).2.2 hi
section
variable {r : List TA} {X Y : Int} {p : Px} (hv : validL r = true) (hs : Small r) (hX : -16 ≤ X ∧ X ≤ 15) (hY : -16 ≤ Y ∧ Y ≤ 15)
theorem near_within {X Y : Int} (hX : -16 ≤ X ∧ X ≤ 15) (hY : -16 ≤ Y ∧ Y ≤ 15) : withinB (X / 8) (Y / 8) = true := decide_eq_true (by omega)
theorem dot_len {r : List TA} {X Y : Int} (hv : validL r = true) (hs : Small r) (hX : -16 ≤ X ∧ X ≤ 15) (hY : -16 ≤ Y ∧ Y ≤ 15) (t : Nat → Px) : (putL r (X / 8) (Y / 8) t).length ≤ 1024 := by
  have := small_len (putL_srt (validL_srt hv) (x := X / 8) (y := Y / 8) (t := t)) (putL_small hs (by omega))
  omega
theorem dot_ok {r : List TA} {X Y : Int} (hv : validL r = true) (hs : Small r) (hX : -16 ≤ X ∧ X ≤ 15) (hY : -16 ≤ Y ∧ Y ≤ 15) (p : Px) : setE r X Y p = 0 := by
  unfold setE putE manyE
  rw [near_within hX hY, if_pos rfl, fineL_of hv, if_pos (dot_len hv hs hX hY _)]
theorem dot_set {r : List TA} {X Y : Int} (hv : validL r = true) (hs : Small r) (hX : -16 ≤ X ∧ X ≤ 15) (hY : -16 ≤ Y ∧ Y ≤ 15) (p : Px) : setR r X Y p = putL r (X / 8) (Y / 8) (cleanT (setT (tileL r (X / 8) (Y / 8)) (X % 8) (Y % 8) p)) := by
  unfold setR putR manyL setS
  rw [near_within hX hY, if_pos rfl, fineL_of hv, if_pos (dot_len hv hs hX hY _)]
theorem dot_small {r : List TA} {X Y : Int} (hv : validL r = true) (hs : Small r) (hX : -16 ≤ X ∧ X ≤ 15) (hY : -16 ≤ Y ∧ Y ≤ 15) (p : Px) : Small (setR r X Y p) := by
  rw [dot_set hv hs hX hY]
  exact putL_small hs (by omega)
theorem dot_get {r : List TA} {X Y : Int} (hv : validL r = true) (hs : Small r) (hX : -16 ≤ X ∧ X ≤ 15) (hY : -16 ≤ Y ∧ Y ≤ 15) (p : Px) (x y : Int) : getL (setR r X Y p) x y = if x = X ∧ y = Y then cleanP p else getL r x y := by
  rw [dot_set hv hs hX hY]
  unfold getL
  have hi : (8 * (y % 8) + x % 8).toNat < 64 := by omega
  by_cases h : eqB (X / 8) (Y / 8) (x / 8) (y / 8) = true
  · have h' := of_decide_eq_true h
    rw [← h'.1, ← h'.2, tileL_put_same (validL_srt hv)]
    have hz : ∀ t : Nat → Px, (if zeroB (cleanT t) = true then zT else cleanT t) (8 * (y % 8) + x % 8).toNat = cleanP (t (8 * (y % 8) + x % 8).toNat) := fun t => by
      split
      · rename_i hz
        have ha := (zeroB_iff _).1 hz _ hi
        show Px.zero = cleanP (t _)
        unfold cleanT at ha
        unfold cleanP at ha ⊢
        split
        · rfl
        · rename_i hne
          rw [if_neg hne] at ha
          exact absurd ha hne
      · rfl
    rw [hz]
    have hin : insB (X % 8) (Y % 8) = true := decide_eq_true (by omega)
    unfold setT
    rw [hin, if_pos rfl]
    unfold upd
    by_cases hxy : x = X ∧ y = Y
    · rw [if_pos hxy, hxy.1, hxy.2, if_pos (by unfold posI; rfl)]
    · rw [if_neg hxy, if_neg (by unfold posI; omega)]
      exact tileL_clean hv _ _ hi
  · have h2 : eqB (X / 8) (Y / 8) (x / 8) (y / 8) = false := by simpa using h
    rw [tileL_put_other _ _ _ _ h2, if_neg (fun hh => by
      rw [hh.1, hh.2] at h2
      simp [eqB] at h2)]
end
/-- The raster after the first k updates. -/
def dotX (d : Dt) : Int := d.x % 32 - 16
def dotY (d : Dt) : Int := d.y % 32 - 16
def dAt (l : List Dt) (k : Nat) : Dt := l.getD k ⟨0, 0, Px.zero⟩
def dotR (l : List Dt) : Nat → List TA
  | 0 => []
  | k + 1 => setR (dotR l k) (dotX (dAt l k)) (dotY (dAt l k)) (dAt l k).p
/-- The pixels wanted. -/
def dotW (l : List Dt) : Nat → Nat → Px
  | 0 => fun _ => Px.zero
  | k + 1 => upd (dotW l k) (((dAt l k).y % 32).toNat * 32 + ((dAt l k).x % 32).toNat) (cleanP (dAt l k).p)
theorem dot_bd (d : Dt) : (-16 ≤ dotX d ∧ dotX d ≤ 15) ∧ -16 ≤ dotY d ∧ dotY d ≤ 15 := by unfold dotX dotY; omega
theorem dotR_inv (l : List Dt) : ∀ k, validL (dotR l k) = true ∧ Small (dotR l k)
  | 0 => ⟨validL_nil, fun e he => by cases he⟩
  | k + 1 => by
    obtain ⟨hv, hs⟩ := dotR_inv l k
    obtain ⟨hX, hY⟩ := dot_bd (dAt l k)
    exact ⟨setR_valid _ _ _ _, dot_small hv hs hX hY _⟩
theorem dotR_tok {l : List Dt} (hp : ∀ k, (dAt l k).p.ok) : ∀ k, TokL (dotR l k)
  | 0 => TokL.nil
  | k + 1 => setR_tok (dotR_tok hp k) (hp k)
theorem dotR_len (l : List Dt) (k : Nat) : (dotR l k).length ≤ 1024 := (validL_iff.1 (dotR_inv l k).1).1
theorem dotR_ok (l : List Dt) (k : Nat) : setE (dotR l k) (dotX (dAt l k)) (dotY (dAt l k)) (dAt l k).p = 0 := by
  obtain ⟨hv, hs⟩ := dotR_inv l k
  obtain ⟨hX, hY⟩ := dot_bd (dAt l k)
  exact dot_ok hv hs hX hY _
theorem dotR_get (l : List Dt) : ∀ (k : Nat) (x y : Nat), x < 32 → y < 32 → getL (dotR l k) ((x : Int) - 16) ((y : Int) - 16) = dotW l k (y * 32 + x)
  | 0, x, y, _, _ => rfl
  | k + 1, x, y, hx, hy => by
    obtain ⟨hv, hs⟩ := dotR_inv l k
    obtain ⟨hX, hY⟩ := dot_bd (dAt l k)
    show getL (setR _ _ _ _) _ _ = upd _ _ _ _
    rw [dot_get hv hs hX hY]
    unfold upd
    by_cases h : ((x : Int) - 16 = dotX (dAt l k) ∧ (y : Int) - 16 = dotY (dAt l k))
    · rw [if_pos h, if_pos (by unfold dotX dotY at h; omega)]
    · rw [if_neg h, if_neg (by unfold dotX dotY at h; omega)]
      exact dotR_get l k x y hx hy
/-! ### Grids -/
def gridC (f : Nat → Px) : Array Value := Array.ofFn (n := 4096) fun k => pxC (f (k.val / 4)) (k.val % 4)
theorem size_gridC (f : Nat → Px) : (gridC f).size = 4096 := by unfold gridC; simp
theorem get_gridC (f : Nat → Px) (k : Nat) : (gridC f)[k]? = if k < 4096 then some (pxC (f (k / 4)) (k % 4)) else none := by
  unfold gridC
  rw [Array.getElem?_ofFn]
  split <;> rfl
theorem gridC_at (f : Nat → Px) (i j : Nat) (hi : i < 1024) (hj : j < 4) : (gridC f)[i * 4 + j]? = some (pxC (f i) j) := by
  rw [get_gridC, if_pos (by omega), show (i * 4 + j) / 4 = i by omega, show (i * 4 + j) % 4 = j by omega]
theorem set_gridC (f : Nat → Px) (i : Nat) (p : Px) (hi : i < 1024) :
    ((((gridC f).setIfInBounds (i * 4) (.int .u8 p.r)).setIfInBounds (i * 4 + 1) (.int .u8 p.g)).setIfInBounds (i * 4 + 2) (.int .u8 p.b)).setIfInBounds (i * 4 + 3) (.int .u8 p.a) = gridC (upd f i p) := by
  apply Array.ext_getElem?
  intro k
  simp only [Array.getElem?_setIfInBounds, Array.size_setIfInBounds, size_gridC, get_gridC]
  by_cases hk : k < 4096
  · simp only [hk, if_true]
    by_cases h : k / 4 = i
    · have hm : k = i * 4 + k % 4 := by omega
      have h4 : k % 4 < 4 := by omega
      have hu : upd f i p (k / 4) = p := by unfold upd; rw [if_pos h]
      rw [hu]
      have hc : k % 4 = 0 ∨ k % 4 = 1 ∨ k % 4 = 2 ∨ k % 4 = 3 := by omega
      rcases hc with hc | hc | hc | hc
      · rw [if_neg (by omega), if_neg (by omega), if_neg (by omega), if_pos (by omega), if_pos (by omega), hc]; rfl
      · rw [if_neg (by omega), if_neg (by omega), if_pos (by omega), if_pos (by omega), hc]; rfl
      · rw [if_neg (by omega), if_pos (by omega), if_pos (by omega), hc]; rfl
      · rw [if_pos (by omega), if_pos (by omega), hc]; rfl
    · have hu : upd f i p (k / 4) = f (k / 4) := by unfold upd; rw [if_neg h]
      rw [hu, if_neg (by omega), if_neg (by omega), if_neg (by omega), if_neg (by omega)]
  · simp only [hk, if_false]
    rw [if_neg (by omega), if_neg (by omega), if_neg (by omega), if_neg (by omega)]
end Go.Proofs.Ytppccnjckiedlaa
/- Updates as slices; grids as blocks; how the list of updates is opened. -/
namespace Go.Proofs.Ytppccnjckiedlaa
open Go.ChangeShapes Go.WideShapes Go.ChangeAt Go.RowKit Pl
set_option linter.unusedVariables false
set_option linter.unusedSimpArgs false
set_option maxRecDepth 20000
def dtA (d : Dt) : Array Value := #[.int .i64 d.x, .int .i64 d.y, .int .u8 d.p.r, .int .u8 d.p.g, .int .u8 d.p.b, .int .u8 d.p.a]
/-- A slice of updates. -/
def DS (v : Value) (l : List Dt) (w : World) : Prop := (∃ a c, v = .slice a 0 c ∧ l = []) ∨ ∃ g o c, v = .slice (some ⟨g, o, none⟩) l.length c ∧ g < w.heap.size ∧ ∀ i, i < l.length → ∀ j, j < 6 → w.cell? ⟨g, o + i * 6 + j, none⟩ = (dtA (dAt l i))[j]?
theorem DS.below {v : Value} {l : List Dt} {w w' : World} (h : DS v l w) (hb : Below w.heap.size w w') : DS v l w' := by
  rcases h with h | ⟨g, o, c, e, hg, hc⟩
  · exact .inl h
  · exact .inr ⟨g, o, c, e, Nat.lt_of_lt_of_le hg hb.size, fun i hi j hj => (World.cell?_of_block (w := w) (hb.block _ hg)).trans (hc i hi j hj)⟩
section
variable {H : Type} {enc : TypeId × Value → H} {w : World} {base : Nat} {spare : Nat → Bool} {held : Bool}
theorem trod_dot {fuel : Nat} {cs : List Value} {x : DataW H × List MemPlace} (h : DataW.trod enc Try.prog w base spare held fuel 60 cs = some x) :
    ∃ d : Dt, cs = (dtA d).toList ∧ d.p.ok := by
  have hC : Try.prog.cellsOf 60 = 6 := by kernel_rfl
  have hCp : Try.prog.cellsOf 37 = 4 := by kernel_rfl
  have hCi : Try.prog.cellsOf 3 = 1 := by kernel_rfl
  obtain ⟨y0, y1, y2, n, _, hl, h0, h1, h2⟩ := Deep.trod_struct3 Try.underlying60 h
  rw [hC] at hl
  match cs, hl with
  | [c0, c1, c2, c3, c4, c5], _ =>
    simp only [hCi, hCp, List.drop_zero, List.drop_succ_cons, List.take_succ_cons, List.take_zero] at h0 h1 h2
    obtain ⟨a, ea, _⟩ := trod_int1 h0
    obtain ⟨b, eb, _⟩ := trod_int1 h1
    obtain ⟨p, ep, ok⟩ := trod_px h2
    simp at ea eb ep
    obtain ⟨rfl, rfl, rfl, rfl⟩ := ep
    subst ea; subst eb
    exact ⟨⟨a, b, p⟩, rfl, ok⟩
theorem dAt_map {n : Nat} (f : Nat → Dt) {i : Nat} (h : i < n) : dAt ((List.range n).map f) i = f i := by
  unfold dAt
  rw [List.getD_eq_getElem?_getD, List.getElem?_map, List.getElem?_range h]
  rfl
theorem open_dots {r : Reach} {b0 : Nat} {v : Value} {d : DataW H} {p : List MemPlace} (hv : Value.okWide Try.prog w r b0 56 v)
    (h : DataW.Trod enc Try.prog w base spare held 56 v d p) : ∃ l : List Dt, DS v l w ∧ l.length ≤ maxLen ∧ ∀ k, (dAt l k).p.ok := by
  obtain ⟨a0, len, cap, rfl⟩ := okWide_slice Try.underlying56 hv
  obtain ⟨fuel, hf⟩ := h
  have hC : Try.prog.cellsOf 60 = 6 := by kernel_rfl
  rcases Deep.open_slice Try.underlying56 hf with ⟨hcs, _⟩ | ⟨a, len', cap', m, n, D, Pq, hcs, hb, hl, hcap, hm, _, hel⟩
  · simp [Value.cells] at hcs
    obtain ⟨rfl, rfl, rfl⟩ := hcs
    exact ⟨[], .inl ⟨_, _, rfl, rfl⟩, by unfold maxLen; simp, fun k => Px.zero_ok⟩
  · simp [Value.cells] at hcs
    obtain ⟨rfl, rfl, rfl⟩ := hcs
    by_cases h0 : len = 0
    · subst h0
      exact ⟨[], .inl ⟨_, _, rfl, rfl⟩, by unfold maxLen; simp, fun k => Px.zero_ok⟩
    · have key : ∀ i, i < len → ∃ d : Dt, d.p.ok ∧ ∀ j, j < 6 → w.cell? ((a.add (i * 6)).add j) = (dtA d)[j]? := fun i hi => by
        obtain ⟨cs, h1, h2⟩ := hel i (by rw [hm]; split <;> omega)
        rw [hC] at h1
        obtain ⟨_, hlen, hcell⟩ := World.cells?_some h1
        obtain ⟨d, rfl, ok⟩ := trod_dot h2
        exact ⟨d, ok, fun j hj => by rw [hcell j hj]; simp⟩
      have hspot : a.spot = none := by
        obtain ⟨d, _, hc⟩ := key 0 (by omega)
        have := hc 0 (by omega)
        rw [Nat.zero_mul] at this
        have e : (a.add 0).add 0 = a := rfl
        rw [e] at this
        exact World.cell?_spot this
      obtain ⟨b, off, spot⟩ := a
      simp only at hspot
      subst hspot
      simp only [addr_add0] at key
      let f : Nat → Dt := fun i => if hi : i < len then Classical.choose (key i hi) else ⟨0, 0, Px.zero⟩
      have hf1 : ∀ i, i < len → (f i).p.ok ∧ ∀ j, j < 6 → w.cell? ⟨b, off + i * 6 + j, none⟩ = (dtA (f i))[j]? := fun i hi => by
        have := Classical.choose_spec (key i hi)
        simp only [f, dif_pos hi]
        exact this
      refine ⟨(List.range len).map f, .inr ⟨b, off, cap, by simp, ?_, fun i hi j hj => ?_⟩, by simp; omega, fun k => ?_⟩
      · have := (hf1 0 (by omega)).2 0 (by omega)
        exact World.block_lt_of_cell? w _ (this.trans rfl)
      · simp at hi
        rw [dAt_map f hi]
        exact (hf1 i hi).2 j hj
      · by_cases hk : k < len
        · rw [dAt_map f hk]
          exact (hf1 k hk).1
        · unfold dAt
          rw [List.getD_eq_getElem?_getD, List.getElem?_eq_none (by simp; omega)]
          exact Px.zero_ok
end
/-! ### Grids -/
def GridAt (w : World) (b : Nat) (f : Nat → Px) : Prop := AtB 58 w b (gridC f)
theorem grid_zero : Try.zeroCells58 = Array.replicate 4096 (.int .u8 0) := by kernel_rfl
theorem gridC_zero : gridC (fun _ => Px.zero) = Array.replicate 4096 (.int .u8 0) := by
  apply Array.ext_getElem?
  intro k
  rw [get_gridC, Array.getElem?_replicate]
  split
  · have h4 : k % 4 = 0 ∨ k % 4 = 1 ∨ k % 4 = 2 ∨ k % 4 = 3 := by omega
    rcases h4 with e | e | e | e <;> rw [e] <;> rfl
  · rfl
theorem run_alloc_grid (w : World) (o : Oper) (ho : o.op = .alloc 58) (ev : Operand → Value) : (execOp ev o).run Try.prog w = .ok (.value (.pointer (some ⟨w.heap.size, 0, none⟩))) (w.alloc (.cells (gridC fun _ => Px.zero) 58)) := by
  obtain ⟨d, p, t, ps, af, gd⟩ := o
  simp only at ho
  subst ho
  rw [gridC_zero, ← grid_zero]
  kernel_rfl
theorem grid_load {w : World} {b i : Nat} {f : Nat → Px} (h : GridAt w b f) (hi : i < 1024) : (Instr.loadAt 37 (.pointer (some ⟨b, i * 4, none⟩))).run Try.prog w = .ok (Px.v (f i)) w :=
  run_load_BP (cs' := pxA (f i)) h _ Try.isAgg37 (by kernel_rfl) (fun j hj => by
    have hj : j < 4 := hj
    rw [gridC_at f i j hi hj]
    have hc : j = 0 ∨ j = 1 ∨ j = 2 ∨ j = 3 := by omega
    rcases hc with rfl | rfl | rfl | rfl <;> rfl)
theorem wpList_storeGr {ops : Array Oper} {rest : List Oper} {o : Oper} {a : Act} {w : World} {Q : Exit → Act → World → Prop} (hg : o.guard = none) (x y : Operand) (ho : o.op = .store 37 x y) (b j : Nat) (hx : a.eval x = .pointer (some ⟨b, j, none⟩)) (q : Px) (hy : a.eval y = Px.v q) {f : Nat → Px} (ht : GridAt w b f) (i : Nat) (hi : i < 1024) (hj : j = i * 4)
    (h : ∀ w', GridAt w' b (upd f i q) → Chg b w w' → w'.heap.size = w.heap.size → wpList Try.prog ops Q rest (a.put o.dst undef) w') : wpList Try.prog ops Q (o :: rest) a w := by
  subst hj
  have hc : ∀ k, k < 4 → w.cell? ⟨b, i * 4 + k, none⟩ = some (pxC (f i) k) := fun k hk => ((cells_of_block ht).1 _).trans (gridC_at f i k hi hk)
  have c0 := hc 0 (by omega)
  have c1 := hc 1 (by omega)
  have c2 := hc 2 (by omega)
  have c3 := hc 3 (by omega)
  rw [Nat.add_zero] at c0
  have hf := fun k => (cells_of_block ht).2 k
  have e : GridAt ((((w.setCell ⟨b, i * 4, none⟩ (.int .u8 q.r)).setCell ⟨b, i * 4 + 1, none⟩ (.int .u8 q.g)).setCell ⟨b, i * 4 + 2, none⟩ (.int .u8 q.b)).setCell ⟨b, i * 4 + 3, none⟩ (.int .u8 q.a)) b (upd f i q) := by
    unfold GridAt AtB
    rw [← set_gridC f i q hi]
    exact heap_setCell_same _ _ _ _ _ _ (heap_setCell_same _ _ _ _ _ _ (heap_setCell_same _ _ _ _ _ _ (heap_setCell_same _ _ _ _ _ _ ht)))
  refine wpList_storeAny hg x y ho _ ?_ (h _ e (((((Chg.refl b w).setCell _).setCell _).setCell _).setCell _) (by simp only [World.size_setCell]))
  rw [hx, hy]
  show _ = Result.ok () _
  simp [go_sem, c0, c1, c2, c3, hf, Px.v]
end Go.Proofs.Ytppccnjckiedlaa
/- RasterDots: for every sequence of pixel updates, Get returns the last pixel set at each coordinate, cleaned, and zero elsewhere; the raster stays valid; the law returns true for every input, and its argument reads as it did. No condition. -/
namespace Go.Proofs.Ytppccnjckiedlaa
open Go.RowKit Go.Shelf Pl
set_option linter.unusedVariables false
set_option linter.unusedSimpArgs false
set_option maxRecDepth 20000
theorem DS.len {v : Value} {l : List Dt} {w : World} (h : DS v l w) : ∃ a c, v = .slice a l.length c := by
  rcases h with ⟨a, c, rfl, rfl⟩ | ⟨g, o, c, rfl, _⟩
  · exact ⟨a, c, rfl⟩
  · exact ⟨_, c, rfl⟩
def DC (g o : Nat) (l : List Dt) (w : World) : Prop := g < w.heap.size ∧ ∀ i, i < l.length → ∀ j, j < 6 → w.cell? ⟨g, o + i * 6 + j, none⟩ = (dtA (dAt l i))[j]?
theorem DC.lt {g o : Nat} {l : List Dt} {w : World} (h : DC g o l w) : g < w.heap.size := h.1
theorem DC.of_eq {g o : Nat} {l : List Dt} {w w' : World} (h : DC g o l w) (e : w'.heap[g]? = w.heap[g]?) : DC g o l w' := by
  refine ⟨?_, fun i hi j hj => (World.cell?_of_block (w := w) e).trans (h.2 i hi j hj)⟩
  have h1 := h.1
  rcases Nat.lt_or_ge g w'.heap.size with h2 | h2
  · exact h2
  · rw [Array.getElem?_eq_none h2, Array.getElem?_eq_getElem h1] at e
    cases e
theorem ov_dc {g o : Nat} {l : List Dt} {w : World} (h : DC g o l w) : ∀ w', (∃ u, w' = ov w u) → DC g o l w' := by
  rintro w' ⟨u, rfl⟩
  exact h.of_eq ((ov_below w u).block _ h.lt)
theorem DS.at {a : Option Addr} {c : Nat} {l : List Dt} {w : World} (h : DS (.slice a l.length c) l w) (hl : 0 < l.length) : ∃ g o, a = some ⟨g, o, none⟩ ∧ DC g o l w := by
  rcases h with ⟨a, c, _, rfl⟩ | ⟨g, o, c, e, hg, hc⟩
  · exact absurd hl (by simp)
  · injection e with e1 _ _
    exact ⟨g, o, e1, hg, hc⟩
section
variable {g o i : Nat} {l : List Dt} {w : World}
theorem dc_x (h : DC g o l w) (hi : i < l.length) : w.cell? ⟨g, o + i * 6, none⟩ = some (.int .i64 (dAt l i).x) := h.2 i hi 0 (by omega)
theorem dc_y (h : DC g o l w) (hi : i < l.length) : w.cell? ⟨g, o + i * 6 + 1, none⟩ = some (.int .i64 (dAt l i).y) := h.2 i hi 1 (by omega)
theorem dc_p (h : DC g o l w) (hi : i < l.length) : (Instr.loadAt 37 (.pointer (some ⟨g, o + i * 6 + 2, none⟩))).run Try.prog w = .ok (Px.v (dAt l i).p) w :=
  run_load_cells (cs := pxA (dAt l i).p) Try.isAgg37 (by kernel_rfl) (fun j hj => by
    have hj : j < 4 := hj
    rw [Nat.add_assoc, h.2 i hi (2 + j) (by omega)]
    have hc : j = 0 ∨ j = 1 ∨ j = 2 ∨ j = 3 := by omega
    rcases hc with rfl | rfl | rfl | rfl <;> rfl)
end
theorem neqs_px (p : Px) (w : World) : (binOp .neq 37 (Px.v p) (Px.v p)).run Try.prog w = .ok (.bool false) w := by rw [neq_px, decide_eq_true rfl]; rfl
theorem P_SetD (v : Value) (ls ks : List TA) (x y : Int) (p : Px) (w : World) (h : RS v ls w) (tk : TokL ls) (hn : ls.length ≤ maxLen) (hx : (Lit.int .i64 x).wf = true) (hy : (Lit.int .i64 y).wf = true) (hp : p.ok) (e1 : setE ls x y p = 0) (e2 : setR ls x y p = ks) : Calls Try.prog 26 #[.agg #[v], .int .i64 x, .int .i64 y, Px.v p] w fun e w' => ∃ v', e = .returned (.tuple #[.agg #[v'], .int .i64 0]) ∧ RS v' ks w' ∧ Below w.heap.size w w' := by
  have := P_SetR v ls x y p w h tk hn hx hy hp
  rw [e1, e2] at this
  exact this
theorem P_GetB (v : Value) (ls : List TA) (x y : Int) (p : Px) (w : World) (h : RS v ls w) (hn : ls.length ≤ maxLen) (hx : (Lit.int .i64 x).wf = true) (hy : (Lit.int .i64 y).wf = true) (e1 : getL ls x y = p) : Calls Try.prog 20 #[.agg #[v], .int .i64 x, .int .i64 y] w fun e w' => e = .returned (Px.v p) ∧ Below w.heap.size w w' := e1 ▸ P_GetR v ls x y w h hn hx hy

theorem RS.chgG {v : Value} {ls : List TA} {b : Nat} {f : Nat → Px} {w w' : World} (h : RS v ls w) (hb : GridAt w b f) (hc : Chg b w w') : RS v ls w' := by
  rcases h with h | ⟨g, o, c, e, hcc, sc⟩
  · exact .inl h
  · refine .inr ⟨g, o, c, e, hcc, fun hn => (sc hn).of_eq (hc.block _ (sc hn).lt ?_)⟩
    rintro rfl
    have h1 := (sc hn).2 0 hn 0 (by omega)
    rw [(cells_of_block hb).1] at h1
    simp only [Nat.zero_mul, Nat.add_zero] at h1
    rw [taC_x, get_gridC] at h1
    split at h1
    · have h4 : o % 4 = 0 ∨ o % 4 = 1 ∨ o % 4 = 2 ∨ o % 4 = 3 := by omega
      rcases h4 with e | e | e | e <;> rw [e] at h1 <;> simp [pxC] at h1
    · cases h1
set_option maxHeartbeats 8000000 in
theorem walk_RasterDots (vl : Value) (l : List Dt) (w : World) (hl : DS vl l w) (hlN : l.length ≤ maxLen) (hp : ∀ k, (dAt l k).p.ok) :
    Calls Try.prog 6 #[vl] w fun e w' => e = .returned (.bool true) ∧ Below w.heap.size w w' := by
  have B := Below.refl w.heap.size w
  obtain ⟨al, cl, rfl⟩ := hl.len
  have HAL := Lib.hid (fun h => hl.at h)
  have HP := Lib.hid hp
  clear hl hp
  have hlm : l.length ≤ 9223372036854775807 := hlN
  go_enter Try.func6, Try.ntmps6
  go_upto_region 1 with fail
  refine wp_region_lit ?_
  try simp only [List.getElem_toArray, List.getElem_cons_zero, List.getElem_cons_succ]
  refine wpList_callF (by first | rfl | simp [Region.wanted, yielded]) rfl (enters_of Try.func14 (by kernel_rfl) rfl) (by simp only [List.map_toArray, List.map_cons, List.map_nil, Act.eval, Array.getD_eq_getD_getElem?, List.getElem?_toArray, List.getElem?_cons_succ, List.getElem?_cons_zero, Option.getD_some]; rfl) ?_
  refine (sanity08 _).mono ?_
  rintro e wn ⟨rfl, hbn⟩
  have hsz := B.size
  have hzn := hbn.size
  replace B := B.trans (hbn.mono B.size)
  (try first | replace r4 := r4.of_eq (hbn.block _ r4.lt) | replace r4 := r4.below hbn)
  (try first | replace g5 := g5.of_eq (hbn.block _ g5.lt) | replace g5 := g5.below hbn)
  (try first | replace r9 := r9.of_eq (hbn.block _ r9.lt) | replace r9 := r9.below hbn)
  (try first | replace rs1 := rs1.of_eq (hbn.block _ rs1.lt) | replace rs1 := rs1.below hbn)
  (try first | replace rs2 := rs2.of_eq (hbn.block _ rs2.lt) | replace rs2 := rs2.below hbn)
  (try first | replace dc := dc.of_eq (hbn.block _ dc.lt) | replace dc := dc.below hbn)
  refine ⟨_, rfl, ?_⟩
  simp only [Act.put, List.setIfInBounds_toArray, List.set_cons_zero, List.set_cons_succ]
  refine wpList_chunk 1 (by kernel_rfl) ?_
  simp only [List.take_succ_cons, List.take_zero, List.drop_succ_cons, List.drop_zero, Nat.reduceAdd]
  repeat (first | go_big_quiet_skip | (go_big_quiet_want; first | (refine quiet_loadAny (t := 30) rfl _ _ _ rfl (fun w hw => run_load_B (ov_B r4 w hw) Try.isAgg30 (by kernel_rfl)) (by rfl) ?_; simp only [Act.put, List.setIfInBounds_toArray, List.set_cons_zero, List.set_cons_succ]; go_big_quiet_on) | (refine quiet_loadAny (t := 30) rfl _ _ _ rfl (fun w hw => run_load_B (ov_B r9 w hw) Try.isAgg30 (by kernel_rfl)) (by rfl) ?_; simp only [Act.put, List.setIfInBounds_toArray, List.set_cons_zero, List.set_cons_succ]; go_big_quiet_on) | (refine quiet_loadAny (t := 37) rfl _ _ _ rfl (fun w hw => dc_p (ov_dc dc w hw) hk) (by first | rfl | omega) ?_; simp only [Act.put, List.setIfInBounds_toArray, List.set_cons_zero, List.set_cons_succ]; go_big_quiet_on) | (go_big_quiet_op; go_big_quiet_on)))
  refine wpQuiet_nil ?_
  refine wpList_nil ?_
  go_upto_region 2 with fail
  refine wp_region_lit ?_
  try simp only [List.getElem_toArray, List.getElem_cons_zero, List.getElem_cons_succ]
  refine wpList_chunk 1 (by kernel_rfl) ?_
  simp only [List.take_succ_cons, List.take_zero, List.drop_succ_cons, List.drop_zero, Nat.reduceAdd]
  repeat (first | go_big_quiet_skip | (go_big_quiet_want; first | (refine quiet_loadAny (t := 30) rfl _ _ _ rfl (fun w hw => run_load_B (ov_B r4 w hw) Try.isAgg30 (by kernel_rfl)) (by rfl) ?_; simp only [Act.put, List.setIfInBounds_toArray, List.set_cons_zero, List.set_cons_succ]; go_big_quiet_on) | (refine quiet_loadAny (t := 30) rfl _ _ _ rfl (fun w hw => run_load_B (ov_B r9 w hw) Try.isAgg30 (by kernel_rfl)) (by rfl) ?_; simp only [Act.put, List.setIfInBounds_toArray, List.set_cons_zero, List.set_cons_succ]; go_big_quiet_on) | (refine quiet_loadAny (t := 37) rfl _ _ _ rfl (fun w hw => dc_p (ov_dc dc w hw) hk) (by first | rfl | omega) ?_; simp only [Act.put, List.setIfInBounds_toArray, List.set_cons_zero, List.set_cons_succ]; go_big_quiet_on) | (go_big_quiet_op; go_big_quiet_on)))
  refine wpQuiet_nil ?_
  (refine wpList_allocBk (t := 30) rfl _ (run_alloc_R _ _ rfl) ?_; intro b_r4 wn hle hge ht hbn hzn; have hsz := B.size; replace B := B.trans (hbn.mono (by omega)); have hln := Nat.lt_of_lt_of_eq (Nat.lt_succ_self _) hzn.symm; clear hzn; (try first | (have hlt := r4.lt; replace r4 := r4.of_eq (hbn.block _ (by omega))) | replace r4 := r4.below (hbn.mono hle)); (try first | (have hlt := g5.lt; replace g5 := g5.of_eq (hbn.block _ (by omega))) | replace g5 := g5.below (hbn.mono hle)); (try first | (have hlt := r9.lt; replace r9 := r9.of_eq (hbn.block _ (by omega))) | replace r9 := r9.below (hbn.mono hle)); (try first | (have hlt := rs1.lt; replace rs1 := rs1.of_eq (hbn.block _ (by omega))) | replace rs1 := rs1.below (hbn.mono hle)); (try first | (have hlt := rs2.lt; replace rs2 := rs2.of_eq (hbn.block _ (by omega))) | replace rs2 := rs2.below (hbn.mono hle)); (try first | (have hlt := dc.lt; replace dc := dc.of_eq (hbn.block _ (by omega))) | replace dc := dc.below (hbn.mono hle)); have r4 := ht; clear ht; simp only [Act.put, List.setIfInBounds_toArray, List.set_cons_zero, List.set_cons_succ])
  (refine wpList_storeB (t := 30) rfl _ _ rfl _ rfl _ rfl r4 (by kernel_rfl) rfl (by simp [Value.oneCell']) ?_; have r4o := r4; clear r4; intro wn ht hcn hzn; (try replace rs1 := rs1.chg r4o (by simp [rcA]) hcn); (try replace rs2 := rs2.chg r4o (by simp [rcA]) hcn); have hsz := B.size; replace hzn := Nat.le_of_eq hzn.symm; replace B := Chg.below B hcn (by omega) B.size; (try replace g5 := g5.of_eq (hcn.block _ g5.lt (by omega))); (try replace r9 := r9.of_eq (hcn.block _ r9.lt (by omega))); (try replace rs1 := rs1.of_eq (hcn.block _ rs1.lt (by omega))); (try replace rs2 := rs2.of_eq (hcn.block _ rs2.lt (by omega))); (try replace dc := dc.of_eq (hcn.block _ dc.lt (by omega))); have r4 := ht; clear ht; simp only [Act.put, List.setIfInBounds_toArray, List.set_cons_zero, List.set_cons_succ])
  refine wpList_nil ?_
  have rs1 := RS.nil wn
  go_upto_region 3 with fail
  refine wp_region_lit ?_
  try simp only [List.getElem_toArray, List.getElem_cons_zero, List.getElem_cons_succ]
  (refine wpList_allocBk (t := 58) rfl _ (run_alloc_grid _ _ rfl) ?_; intro b_g5 wn hle hge ht hbn hzn; have hsz := B.size; replace B := B.trans (hbn.mono (by omega)); have hln := Nat.lt_of_lt_of_eq (Nat.lt_succ_self _) hzn.symm; clear hzn; (try first | (have hlt := r4.lt; replace r4 := r4.of_eq (hbn.block _ (by omega))) | replace r4 := r4.below (hbn.mono hle)); (try first | (have hlt := g5.lt; replace g5 := g5.of_eq (hbn.block _ (by omega))) | replace g5 := g5.below (hbn.mono hle)); (try first | (have hlt := r9.lt; replace r9 := r9.of_eq (hbn.block _ (by omega))) | replace r9 := r9.below (hbn.mono hle)); (try first | (have hlt := rs1.lt; replace rs1 := rs1.of_eq (hbn.block _ (by omega))) | replace rs1 := rs1.below (hbn.mono hle)); (try first | (have hlt := rs2.lt; replace rs2 := rs2.of_eq (hbn.block _ (by omega))) | replace rs2 := rs2.below (hbn.mono hle)); (try first | (have hlt := dc.lt; replace dc := dc.of_eq (hbn.block _ (by omega))) | replace dc := dc.below (hbn.mono hle)); have g5 := ht; clear ht; simp only [Act.put, List.setIfInBounds_toArray, List.set_cons_zero, List.set_cons_succ])
  refine wpList_nil ?_
  have kr4 : w.heap.size ≤ b_r4 := by omega
  have kg5 : b_r4 < b_g5 := by have := r4.lt; omega
  replace g5 : GridAt _ b_g5 (dotW l 0) := g5
  go_wp2
  go_loopw [6, 7, 8, 9, 10] (fun i _ _ _ _ wr => ∃ (k : Nat) (a : Option Addr) (c : Nat), k ≤ l.length ∧ k ≤ 60 ∧ i = .int .i64 k ∧ Below w.heap.size w wr ∧ AtB 30 wr b_r4 #[.slice a (dotR l k).length c] ∧ GridAt wr b_g5 (dotW l k) ∧ RS (.slice a (dotR l k).length c) (dotR l k) wr) (fun i _ _ _ _ _ => (60 - intOf i).toNat)
  case atStart => exact ⟨0, none, 0, by omega, by omega, rfl, B, r4, g5, rs1⟩
  case round =>
    clear B r4 g5 rs1
    obtain ⟨k, a1, c1, hkl, hk60, rfl, B, r4, g5, rs1⟩ := hrel
    have HNk := Lib.hid (len_maxLen (Nat.le_trans (dotR_len l k) (by omega)))
    by_cases hk : k < l.length
    · by_cases hk6 : k < 60
      · have q1 : decide ((k : Int) < (l.length : Int)) = true := decide_eq_true (by omega)
        have q2 : decide ((k : Int) < 60) = true := decide_eq_true (by omega)
        have q3 : decide (k < l.length) = true := decide_eq_true hk
        have q4 : decide (k < 60) = true := decide_eq_true hk6
        obtain ⟨g, o, rfl, dc⟩ := HAL.out (by omega)
        have hgw := dc.lt
        replace dc := dc.of_eq (B.block _ dc.lt)
        obtain ⟨X, hX⟩ : ∃ X : Nat, (dAt l k).x % 32 = (X : Int) := ⟨((dAt l k).x % 32).toNat, by omega⟩
        obtain ⟨Y, hY⟩ : ∃ Y : Nat, (dAt l k).y % 32 = (Y : Int) := ⟨((dAt l k).y % 32).toNat, by omega⟩
        have hX32 : X < 32 := by omega
        have hY32 : Y < 32 := by omega
        have b1 := bits_and31 (dAt l k).x
        have b2 := bits_and31 (dAt l k).y
        rw [hX] at b1
        rw [hY] at b2
        have eX : dotX (dAt l k) = (X : Int) - 16 := by unfold dotX; omega
        have eY : dotY (dAt l k) = (Y : Int) - 16 := by unfold dotY; omega
        have S0 := Lib.hid (show setE (dotR l k) ((X : Int) - 16) ((Y : Int) - 16) (dAt l k).p = 0 by rw [← eX, ← eY]; exact dotR_ok l k)
        have S1 := Lib.hid (show setR (dotR l k) ((X : Int) - 16) ((Y : Int) - 16) (dAt l k).p = dotR l (k + 1) by rw [← eX, ← eY]; rfl)
        have S2 := Lib.hid (show upd (dotW l k) (Y * 32 + X) (cleanP (dAt l k).p) = dotW l (k + 1) by
          show _ = upd (dotW l k) (((dAt l k).y % 32).toNat * 32 + ((dAt l k).x % 32).toNat) _
          rw [hX, hY]
          rfl)
        have wX : (Lit.int .i64 ((X : Int) - 16)).wf = true := wf_mk (by omega) (by omega)
        have wY : (Lit.int .i64 ((Y : Int) - 16)).wf = true := wf_mk (by omega) (by omega)
        have HNk1 := Lib.hid (len_maxLen (Nat.le_trans (dotR_len l (k + 1)) (by omega)))
        have HTk := Lib.hid (dotR_tok HP.out k)
        have HTk1 := Lib.hid (dotR_tok HP.out (k + 1))
        have HV1 := Lib.hid (dotR_inv l (k + 1)).1
        have hok := Lib.hid (HP.out k)
        clear hX hY eX eY
        go_upto_region 5 with fail
        refine wp_region_lit ?_
        try simp only [List.getElem_toArray, List.getElem_cons_zero, List.getElem_cons_succ]
        refine wpList_chunk 2 (by kernel_rfl) ?_
        simp only [List.take_succ_cons, List.take_zero, List.drop_succ_cons, List.drop_zero, Nat.reduceAdd]
        repeat (first | go_big_quiet_skip | (go_big_quiet_want; first | (refine quiet_loadAny (t := 30) rfl _ _ _ rfl (fun w hw => run_load_B (ov_B r4 w hw) Try.isAgg30 (by kernel_rfl)) (by rfl) ?_; simp only [Act.put, List.setIfInBounds_toArray, List.set_cons_zero, List.set_cons_succ]; go_big_quiet_on) | (refine quiet_loadAny (t := 30) rfl _ _ _ rfl (fun w hw => run_load_B (ov_B r9 w hw) Try.isAgg30 (by kernel_rfl)) (by rfl) ?_; simp only [Act.put, List.setIfInBounds_toArray, List.set_cons_zero, List.set_cons_succ]; go_big_quiet_on) | (refine quiet_loadAny (t := 37) rfl _ _ _ rfl (fun w hw => dc_p (ov_dc dc w hw) hk) (by first | rfl | omega) ?_; simp only [Act.put, List.setIfInBounds_toArray, List.set_cons_zero, List.set_cons_succ]; go_big_quiet_on) | (go_big_quiet_op; go_big_quiet_on)))
        refine wpQuiet_nil ?_
        refine wpList_lenS (by first | rfl | simp [Region.wanted, yielded]) rfl Try.underlying56 rfl ?_
        simp only [Act.put, List.setIfInBounds_toArray, List.set_cons_zero, List.set_cons_succ]
        refine wpList_chunk 5 (by kernel_rfl) ?_
        simp only [List.take_succ_cons, List.take_zero, List.drop_succ_cons, List.drop_zero, Nat.reduceAdd]
        repeat (first | go_big_quiet_skip | (go_big_quiet_want; first | (refine quiet_loadAny (t := 30) rfl _ _ _ rfl (fun w hw => run_load_B (ov_B r4 w hw) Try.isAgg30 (by kernel_rfl)) (by rfl) ?_; simp only [Act.put, List.setIfInBounds_toArray, List.set_cons_zero, List.set_cons_succ]; go_big_quiet_on) | (refine quiet_loadAny (t := 30) rfl _ _ _ rfl (fun w hw => run_load_B (ov_B r9 w hw) Try.isAgg30 (by kernel_rfl)) (by rfl) ?_; simp only [Act.put, List.setIfInBounds_toArray, List.set_cons_zero, List.set_cons_succ]; go_big_quiet_on) | (refine quiet_loadAny (t := 37) rfl _ _ _ rfl (fun w hw => dc_p (ov_dc dc w hw) hk) (by first | rfl | omega) ?_; simp only [Act.put, List.setIfInBounds_toArray, List.set_cons_zero, List.set_cons_succ]; go_big_quiet_on) | (go_big_quiet_op; go_big_quiet_on)))
        refine wpQuiet_nil ?_
        refine wpList_nil ?_
        go_upto_region 7 with fail
        refine wp_region_lit ?_
        try simp only [List.getElem_toArray, List.getElem_cons_zero, List.getElem_cons_succ]
        refine wpList_chunk 7 (by kernel_rfl) ?_
        simp only [List.take_succ_cons, List.take_zero, List.drop_succ_cons, List.drop_zero, Nat.reduceAdd]
        repeat (first | go_big_quiet_skip | (go_big_quiet_want; first | (refine quiet_loadAny (t := 30) rfl _ _ _ rfl (fun w hw => run_load_B (ov_B r4 w hw) Try.isAgg30 (by kernel_rfl)) (by rfl) ?_; simp only [Act.put, List.setIfInBounds_toArray, List.set_cons_zero, List.set_cons_succ]; go_big_quiet_on) | (refine quiet_loadAny (t := 30) rfl _ _ _ rfl (fun w hw => run_load_B (ov_B r9 w hw) Try.isAgg30 (by kernel_rfl)) (by rfl) ?_; simp only [Act.put, List.setIfInBounds_toArray, List.set_cons_zero, List.set_cons_succ]; go_big_quiet_on) | (refine quiet_loadAny (t := 37) rfl _ _ _ rfl (fun w hw => dc_p (ov_dc dc w hw) hk) (by first | rfl | omega) ?_; simp only [Act.put, List.setIfInBounds_toArray, List.set_cons_zero, List.set_cons_succ]; go_big_quiet_on) | (refine quiet_loadAny (t := 3) rfl _ _ _ rfl (fun w hw => run_load_int (dc_x (ov_dc dc w hw) hk)) (by first | rfl | omega) ?_; simp only [Act.put, List.setIfInBounds_toArray, List.set_cons_zero, List.set_cons_succ]; go_big_quiet_on) | (go_big_quiet_op; go_big_quiet_on)))
        refine wpQuiet_nil ?_
        refine wpList_nil ?_
        go_upto_region 8 with fail
        refine wp_region_lit ?_
        try simp only [List.getElem_toArray, List.getElem_cons_zero, List.getElem_cons_succ]
        refine wpList_chunk 7 (by kernel_rfl) ?_
        simp only [List.take_succ_cons, List.take_zero, List.drop_succ_cons, List.drop_zero, Nat.reduceAdd]
        repeat (first | go_big_quiet_skip | (go_big_quiet_want; first | (refine quiet_loadAny (t := 30) rfl _ _ _ rfl (fun w hw => run_load_B (ov_B r4 w hw) Try.isAgg30 (by kernel_rfl)) (by rfl) ?_; simp only [Act.put, List.setIfInBounds_toArray, List.set_cons_zero, List.set_cons_succ]; go_big_quiet_on) | (refine quiet_loadAny (t := 30) rfl _ _ _ rfl (fun w hw => run_load_B (ov_B r9 w hw) Try.isAgg30 (by kernel_rfl)) (by rfl) ?_; simp only [Act.put, List.setIfInBounds_toArray, List.set_cons_zero, List.set_cons_succ]; go_big_quiet_on) | (refine quiet_loadAny (t := 37) rfl _ _ _ rfl (fun w hw => dc_p (ov_dc dc w hw) hk) (by first | rfl | omega) ?_; simp only [Act.put, List.setIfInBounds_toArray, List.set_cons_zero, List.set_cons_succ]; go_big_quiet_on) | (refine quiet_loadAny (t := 3) rfl _ _ _ rfl (fun w hw => run_load_int (dc_y (ov_dc dc w hw) hk)) (by first | rfl | omega) ?_; simp only [Act.put, List.setIfInBounds_toArray, List.set_cons_zero, List.set_cons_succ]; go_big_quiet_on) | (go_big_quiet_op; go_big_quiet_on)))
        refine wpQuiet_nil ?_
        refine wpList_nil ?_
        go_upto_region 9 with fail
        try simp only [List.getElem_toArray, List.getElem_cons_zero, List.getElem_cons_succ]
        try have lx_r4 := r4.lt
        try have lx_g5 := g5.lt
        try have lx_r9 := r9.lt
        try have lx_rs1 := rs1.lt
        try have lx_rs2 := rs2.lt
        try have lx_dc := dc.lt
        refine wp_region_RL 15 [(10, tupS (dotR l (k + 1)) (0)), (14, ptrS (wr.heap.size) 30 #[.slice none 0 0])] (by kernel_rfl) (by kernel_rfl) (by kernel_rfl) ?_
        rotate_left 0
        simp only [List.take_succ_cons, List.take_zero, List.drop_succ_cons, List.drop_zero, Nat.reduceAdd]
        refine wpRL_chunk 10 (by kernel_rfl) ?_
        simp only [List.take_succ_cons, List.take_zero, List.drop_succ_cons, List.drop_zero, Nat.reduceAdd]
        repeat (first | go_big_quiet_skip | (go_big_quiet_want; first | (refine quiet_loadAny (t := 30) rfl _ _ _ rfl (fun w hw => run_load_B (ov_B r4 w hw) Try.isAgg30 (by kernel_rfl)) (by rfl) ?_; simp only [Act.put, List.setIfInBounds_toArray, List.set_cons_zero, List.set_cons_succ]; go_big_quiet_on) | (refine quiet_loadAny (t := 30) rfl _ _ _ rfl (fun w hw => run_load_B (ov_B r9 w hw) Try.isAgg30 (by kernel_rfl)) (by rfl) ?_; simp only [Act.put, List.setIfInBounds_toArray, List.set_cons_zero, List.set_cons_succ]; go_big_quiet_on) | (refine quiet_loadAny (t := 37) rfl _ _ _ rfl (fun w hw => dc_p (ov_dc dc w hw) hk) (by first | rfl | omega) ?_; simp only [Act.put, List.setIfInBounds_toArray, List.set_cons_zero, List.set_cons_succ]; go_big_quiet_on) | (go_big_quiet_op; go_big_quiet_on)))
        refine wpQuiet_nil ?_
        refine wpRL_callB (by rfl) (by first | rfl | simp [Region.wanted, yielded]) ?_ ?_
        · intro wn hbn hE Kx hKx
          have hsz := B.size
          have hzn := hbn.size
          replace B := B.trans (hbn.mono B.size)
          (try first | replace r4 := r4.of_eq (hbn.block _ r4.lt) | replace r4 := r4.below hbn)
          (try first | replace g5 := g5.of_eq (hbn.block _ g5.lt) | replace g5 := g5.below hbn)
          (try first | replace r9 := r9.of_eq (hbn.block _ r9.lt) | replace r9 := r9.below hbn)
          (try first | replace rs1 := rs1.of_eq (hbn.block _ rs1.lt) | replace rs1 := rs1.below hbn)
          (try first | replace rs2 := rs2.of_eq (hbn.block _ rs2.lt) | replace rs2 := rs2.below hbn)
          (try first | replace dc := dc.of_eq (hbn.block _ dc.lt) | replace dc := dc.below hbn)
          refine wp_callF rfl (enters_of Try.func26 (by kernel_rfl) rfl) (by simp only [List.map_toArray, List.map_cons, List.map_nil, Act.eval, Array.getD_eq_getD_getElem?, List.getElem?_toArray, List.getElem?_cons_succ, List.getElem?_cons_zero, Option.getD_some]; rfl) ?_
          refine (P_SetD _ (dotR l k) (dotR l (k + 1)) ((X : Int) - 16) ((Y : Int) - 16) (dAt l k).p wn rs1 HTk.out HNk.out wX wY hok.out S0.out S1.out).mono ?_
          rintro e wm ⟨v', rfl, hr, hbm⟩
          obtain ⟨a', c', rfl, _⟩ := hr.len
          exact ⟨_, rfl, hKx (a', c') wm hr hbm⟩
        rintro ⟨a48, c48⟩
        dsimp only [detS, tupS]
        simp only [Act.put, List.setIfInBounds_toArray, List.set_cons_zero, List.set_cons_succ]
        refine wpRL_chunk 3 (by kernel_rfl) ?_
        simp only [List.take_succ_cons, List.take_zero, List.drop_succ_cons, List.drop_zero, Nat.reduceAdd]
        repeat (first | go_big_quiet_skip | (go_big_quiet_want; first | (refine quiet_loadAny (t := 30) rfl _ _ _ rfl (fun w hw => run_load_B (ov_B r4 w hw) Try.isAgg30 (by kernel_rfl)) (by rfl) ?_; simp only [Act.put, List.setIfInBounds_toArray, List.set_cons_zero, List.set_cons_succ]; go_big_quiet_on) | (refine quiet_loadAny (t := 30) rfl _ _ _ rfl (fun w hw => run_load_B (ov_B r9 w hw) Try.isAgg30 (by kernel_rfl)) (by rfl) ?_; simp only [Act.put, List.setIfInBounds_toArray, List.set_cons_zero, List.set_cons_succ]; go_big_quiet_on) | (refine quiet_loadAny (t := 37) rfl _ _ _ rfl (fun w hw => dc_p (ov_dc dc w hw) hk) (by first | rfl | omega) ?_; simp only [Act.put, List.setIfInBounds_toArray, List.set_cons_zero, List.set_cons_succ]; go_big_quiet_on) | (go_big_quiet_op; go_big_quiet_on)))
        refine wpQuiet_nil ?_
        refine wpRL_callB (by rfl) (by first | rfl | simp [Region.wanted, yielded]) ?_ ?_
        · intro wn hbn hE Kx hKx
          have hsz := B.size
          have hzn := hbn.size
          replace B := B.trans (hbn.mono B.size)
          (try first | replace r4 := r4.of_eq (hbn.block _ r4.lt) | replace r4 := r4.below hbn)
          (try first | replace g5 := g5.of_eq (hbn.block _ g5.lt) | replace g5 := g5.below hbn)
          (try first | replace r9 := r9.of_eq (hbn.block _ r9.lt) | replace r9 := r9.below hbn)
          (try first | replace rs1 := rs1.of_eq (hbn.block _ rs1.lt) | replace rs1 := rs1.below hbn)
          (try first | replace rs2 := rs2.of_eq (hbn.block _ rs2.lt) | replace rs2 := rs2.below hbn)
          (try first | replace dc := dc.of_eq (hbn.block _ dc.lt) | replace dc := dc.below hbn)
          refine owp_allocBk (t := 30) _ (run_alloc_R _ _ rfl) ?_
          intro b wm h1 h2 ht hbm hzm
          exact hKx b wm ⟨Nat.le_trans hbn.size h1, ht⟩ (hbm.mono h1)
        rintro b_r9
        dsimp only [detS, ptrS]
        simp only [Act.put, List.setIfInBounds_toArray, List.set_cons_zero, List.set_cons_succ]
        refine wpRL_nil ?_
        intro wn hbn hE
        have hsz := B.size
        have hzn := hbn.size
        replace B := B.trans (hbn.mono B.size)
        (try first | replace r4 := r4.of_eq (hbn.block _ r4.lt) | replace r4 := r4.below hbn)
        (try first | replace g5 := g5.of_eq (hbn.block _ g5.lt) | replace g5 := g5.below hbn)
        (try first | replace r9 := r9.of_eq (hbn.block _ r9.lt) | replace r9 := r9.below hbn)
        (try first | replace rs1 := rs1.of_eq (hbn.block _ rs1.lt) | replace rs1 := rs1.below hbn)
        (try first | replace rs2 := rs2.of_eq (hbn.block _ rs2.lt) | replace rs2 := rs2.below hbn)
        (try first | replace dc := dc.of_eq (hbn.block _ dc.lt) | replace dc := dc.below hbn)
        have rs2 := hE 10
        change RS _ _ _ at rs2
        obtain ⟨hge_r9, r9⟩ : _ ∧ AtB _ _ _ _ := hE 14
        clear hE
        try simp only [List.drop_succ_cons, List.drop_zero]
        (refine wpList_storeB (t := 30) rfl _ _ rfl _ rfl _ rfl r9 (by kernel_rfl) rfl (by simp [Value.oneCell']) ?_; have r9o := r9; clear r9; intro wn ht hcn hzn; (try replace rs1 := rs1.chg r9o (by simp [rcA]) hcn); (try replace rs2 := rs2.chg r9o (by simp [rcA]) hcn); have hsz := B.size; replace hzn := Nat.le_of_eq hzn.symm; replace B := Chg.below B hcn (by omega) B.size; (try replace r4 := r4.of_eq (hcn.block _ r4.lt (by omega))); (try replace g5 := g5.of_eq (hcn.block _ g5.lt (by omega))); (try replace rs1 := rs1.of_eq (hcn.block _ rs1.lt (by omega))); (try replace rs2 := rs2.of_eq (hcn.block _ rs2.lt (by omega))); (try replace dc := dc.of_eq (hcn.block _ dc.lt (by omega))); have r9 := ht; clear ht; simp only [Act.put, List.setIfInBounds_toArray, List.set_cons_zero, List.set_cons_succ])
        refine wpList_chunk 1 (by kernel_rfl) ?_
        simp only [List.take_succ_cons, List.take_zero, List.drop_succ_cons, List.drop_zero, Nat.reduceAdd]
        repeat (first | go_big_quiet_skip | (go_big_quiet_want; first | (go_big_quiet_op; go_big_quiet_on)))
        refine wpQuiet_nil ?_
        refine wpList_nil ?_
        refine NoPan.normal ?_
        go_upto_region 10 with fail
        refine wp_region_lit ?_
        try simp only [List.getElem_toArray, List.getElem_cons_zero, List.getElem_cons_succ]
        refine wpList_chunk 4 (by kernel_rfl) ?_
        simp only [List.take_succ_cons, List.take_zero, List.drop_succ_cons, List.drop_zero, Nat.reduceAdd]
        repeat (first | go_big_quiet_skip | (go_big_quiet_want; first | (refine quiet_loadAny (t := 30) rfl _ _ _ rfl (fun w hw => run_load_B (ov_B r4 w hw) Try.isAgg30 (by kernel_rfl)) (by rfl) ?_; simp only [Act.put, List.setIfInBounds_toArray, List.set_cons_zero, List.set_cons_succ]; go_big_quiet_on) | (refine quiet_loadAny (t := 30) rfl _ _ _ rfl (fun w hw => run_load_B (ov_B r9 w hw) Try.isAgg30 (by kernel_rfl)) (by rfl) ?_; simp only [Act.put, List.setIfInBounds_toArray, List.set_cons_zero, List.set_cons_succ]; go_big_quiet_on) | (refine quiet_loadAny (t := 37) rfl _ _ _ rfl (fun w hw => dc_p (ov_dc dc w hw) hk) (by first | rfl | omega) ?_; simp only [Act.put, List.setIfInBounds_toArray, List.set_cons_zero, List.set_cons_succ]; go_big_quiet_on) | (go_big_quiet_op; go_big_quiet_on)))
        refine wpQuiet_nil ?_
        refine wpList_callF (by first | rfl | simp [Region.wanted, yielded]) rfl (enters_of Try.func16 (by kernel_rfl) rfl) (by simp only [List.map_toArray, List.map_cons, List.map_nil, Act.eval, Array.getD_eq_getD_getElem?, List.getElem?_toArray, List.getElem?_cons_succ, List.getElem?_cons_zero, Option.getD_some]; rfl) ?_
        refine (P_ValidB _ (dotR l (k + 1)) _ _ rs2 HTk1.out HNk1.out HV1.out).mono ?_
        rintro e wn ⟨rfl, hbn⟩
        have hsz := B.size
        have hzn := hbn.size
        replace B := B.trans (hbn.mono B.size)
        (try first | replace r4 := r4.of_eq (hbn.block _ r4.lt) | replace r4 := r4.below hbn)
        (try first | replace g5 := g5.of_eq (hbn.block _ g5.lt) | replace g5 := g5.below hbn)
        (try first | replace r9 := r9.of_eq (hbn.block _ r9.lt) | replace r9 := r9.below hbn)
        (try first | replace rs1 := rs1.of_eq (hbn.block _ rs1.lt) | replace rs1 := rs1.below hbn)
        (try first | replace rs2 := rs2.of_eq (hbn.block _ rs2.lt) | replace rs2 := rs2.below hbn)
        (try first | replace dc := dc.of_eq (hbn.block _ dc.lt) | replace dc := dc.below hbn)
        refine ⟨_, rfl, ?_⟩
        simp only [Act.put, List.setIfInBounds_toArray, List.set_cons_zero, List.set_cons_succ]
        refine wpList_chunk 2 (by kernel_rfl) ?_
        simp only [List.take_succ_cons, List.take_zero, List.drop_succ_cons, List.drop_zero, Nat.reduceAdd]
        repeat (first | go_big_quiet_skip | (go_big_quiet_want; first | (refine quiet_loadAny (t := 30) rfl _ _ _ rfl (fun w hw => run_load_B (ov_B r4 w hw) Try.isAgg30 (by kernel_rfl)) (by rfl) ?_; simp only [Act.put, List.setIfInBounds_toArray, List.set_cons_zero, List.set_cons_succ]; go_big_quiet_on) | (refine quiet_loadAny (t := 30) rfl _ _ _ rfl (fun w hw => run_load_B (ov_B r9 w hw) Try.isAgg30 (by kernel_rfl)) (by rfl) ?_; simp only [Act.put, List.setIfInBounds_toArray, List.set_cons_zero, List.set_cons_succ]; go_big_quiet_on) | (refine quiet_loadAny (t := 37) rfl _ _ _ rfl (fun w hw => dc_p (ov_dc dc w hw) hk) (by first | rfl | omega) ?_; simp only [Act.put, List.setIfInBounds_toArray, List.set_cons_zero, List.set_cons_succ]; go_big_quiet_on) | (go_big_quiet_op; go_big_quiet_on)))
        refine wpQuiet_nil ?_
        refine wpList_nil ?_
        go_upto_region 12 with fail
        refine wp_region_lit ?_
        try simp only [List.getElem_toArray, List.getElem_cons_zero, List.getElem_cons_succ]
        refine wpList_chunk 1 (by kernel_rfl) ?_
        simp only [List.take_succ_cons, List.take_zero, List.drop_succ_cons, List.drop_zero, Nat.reduceAdd]
        repeat (first | go_big_quiet_skip | (go_big_quiet_want; first | (refine quiet_loadAny (t := 30) rfl _ _ _ rfl (fun w hw => run_load_B (ov_B r4 w hw) Try.isAgg30 (by kernel_rfl)) (by rfl) ?_; simp only [Act.put, List.setIfInBounds_toArray, List.set_cons_zero, List.set_cons_succ]; go_big_quiet_on) | (refine quiet_loadAny (t := 30) rfl _ _ _ rfl (fun w hw => run_load_B (ov_B r9 w hw) Try.isAgg30 (by kernel_rfl)) (by rfl) ?_; simp only [Act.put, List.setIfInBounds_toArray, List.set_cons_zero, List.set_cons_succ]; go_big_quiet_on) | (refine quiet_loadAny (t := 37) rfl _ _ _ rfl (fun w hw => dc_p (ov_dc dc w hw) hk) (by first | rfl | omega) ?_; simp only [Act.put, List.setIfInBounds_toArray, List.set_cons_zero, List.set_cons_succ]; go_big_quiet_on) | (go_big_quiet_op; go_big_quiet_on)))
        refine wpQuiet_nil ?_
        (refine wpList_storeB (t := 30) rfl _ _ rfl _ rfl _ rfl r4 (by kernel_rfl) rfl (by simp [Value.oneCell']) ?_; have r4o := r4; clear r4; intro wn ht hcn hzn; (try replace rs1 := rs1.chg r4o (by simp [rcA]) hcn); (try replace rs2 := rs2.chg r4o (by simp [rcA]) hcn); have hsz := B.size; replace hzn := Nat.le_of_eq hzn.symm; replace B := Chg.below B hcn (by omega) B.size; (try replace g5 := g5.of_eq (hcn.block _ g5.lt (by omega))); (try replace r9 := r9.of_eq (hcn.block _ r9.lt (by omega))); (try replace rs1 := rs1.of_eq (hcn.block _ rs1.lt (by omega))); (try replace rs2 := rs2.of_eq (hcn.block _ rs2.lt (by omega))); (try replace dc := dc.of_eq (hcn.block _ dc.lt (by omega))); have r4 := ht; clear ht; simp only [Act.put, List.setIfInBounds_toArray, List.set_cons_zero, List.set_cons_succ])
        refine wpList_nil ?_
        go_upto_region 13 with fail
        try simp only [List.getElem_toArray, List.getElem_cons_zero, List.getElem_cons_succ]
        try have lx_r4 := r4.lt
        try have lx_g5 := g5.lt
        try have lx_r9 := r9.lt
        try have lx_rs1 := rs1.lt
        try have lx_rs2 := rs2.lt
        try have lx_dc := dc.lt
        refine wp_region_RL 10 [(7, detS ?v2_7)] (by kernel_rfl) (by kernel_rfl) (by kernel_rfl) ?_
        rotate_left 1
        simp only [List.take_succ_cons, List.take_zero, List.drop_succ_cons, List.drop_zero, Nat.reduceAdd]
        refine wpRL_chunk 7 (by kernel_rfl) ?_
        simp only [List.take_succ_cons, List.take_zero, List.drop_succ_cons, List.drop_zero, Nat.reduceAdd]
        repeat (first | go_big_quiet_skip | (go_big_quiet_want; first | (refine quiet_loadAny (t := 30) rfl _ _ _ rfl (fun w hw => run_load_B (ov_B r4 w hw) Try.isAgg30 (by kernel_rfl)) (by rfl) ?_; simp only [Act.put, List.setIfInBounds_toArray, List.set_cons_zero, List.set_cons_succ]; go_big_quiet_on) | (refine quiet_loadAny (t := 30) rfl _ _ _ rfl (fun w hw => run_load_B (ov_B r9 w hw) Try.isAgg30 (by kernel_rfl)) (by rfl) ?_; simp only [Act.put, List.setIfInBounds_toArray, List.set_cons_zero, List.set_cons_succ]; go_big_quiet_on) | (refine quiet_loadAny (t := 37) rfl _ _ _ rfl (fun w hw => dc_p (ov_dc dc w hw) hk) (by first | rfl | omega) ?_; simp only [Act.put, List.setIfInBounds_toArray, List.set_cons_zero, List.set_cons_succ]; go_big_quiet_on) | (go_big_quiet_op; go_big_quiet_on)))
        refine wpQuiet_nil ?_
        refine wpRL_callB (by rfl) (by first | rfl | simp [Region.wanted, yielded]) ?_ ?_
        · intro wn hbn hE Kx hKx
          have hsz := B.size
          have hzn := hbn.size
          replace B := B.trans (hbn.mono B.size)
          (try first | replace r4 := r4.of_eq (hbn.block _ r4.lt) | replace r4 := r4.below hbn)
          (try first | replace g5 := g5.of_eq (hbn.block _ g5.lt) | replace g5 := g5.below hbn)
          (try first | replace r9 := r9.of_eq (hbn.block _ r9.lt) | replace r9 := r9.below hbn)
          (try first | replace rs1 := rs1.of_eq (hbn.block _ rs1.lt) | replace rs1 := rs1.below hbn)
          (try first | replace rs2 := rs2.of_eq (hbn.block _ rs2.lt) | replace rs2 := rs2.below hbn)
          (try first | replace dc := dc.of_eq (hbn.block _ dc.lt) | replace dc := dc.below hbn)
          refine wp_callF rfl (enters_of Try.func31 (by kernel_rfl) rfl) (by simp only [List.map_toArray, List.map_cons, List.map_nil, Act.eval, Array.getD_eq_getD_getElem?, List.getElem?_toArray, List.getElem?_cons_succ, List.getElem?_cons_zero, Option.getD_some]; rfl) ?_
          refine (R_Clean (dAt l k).p _ hok.out).mono ?_
          rintro e wm ⟨rfl, hbm⟩
          refine ⟨_, rfl, ?_⟩
          have hz := hKx () wm trivial hbm
          dsimp only [detS] at hz
          exact hz
        rintro ⟨⟩
        dsimp only [detS]
        simp only [Act.put, List.setIfInBounds_toArray, List.set_cons_zero, List.set_cons_succ]
        refine wpRL_chunk 2 (by kernel_rfl) ?_
        simp only [List.take_succ_cons, List.take_zero, List.drop_succ_cons, List.drop_zero, Nat.reduceAdd]
        repeat (first | go_big_quiet_skip | (go_big_quiet_want; first | (refine quiet_loadAny (t := 30) rfl _ _ _ rfl (fun w hw => run_load_B (ov_B r4 w hw) Try.isAgg30 (by kernel_rfl)) (by rfl) ?_; simp only [Act.put, List.setIfInBounds_toArray, List.set_cons_zero, List.set_cons_succ]; go_big_quiet_on) | (refine quiet_loadAny (t := 30) rfl _ _ _ rfl (fun w hw => run_load_B (ov_B r9 w hw) Try.isAgg30 (by kernel_rfl)) (by rfl) ?_; simp only [Act.put, List.setIfInBounds_toArray, List.set_cons_zero, List.set_cons_succ]; go_big_quiet_on) | (refine quiet_loadAny (t := 37) rfl _ _ _ rfl (fun w hw => dc_p (ov_dc dc w hw) hk) (by first | rfl | omega) ?_; simp only [Act.put, List.setIfInBounds_toArray, List.set_cons_zero, List.set_cons_succ]; go_big_quiet_on) | (go_big_quiet_op; go_big_quiet_on)))
        refine wpQuiet_nil ?_
        refine wpRL_nil ?_
        intro wn hbn hE
        have hsz := B.size
        have hzn := hbn.size
        replace B := B.trans (hbn.mono B.size)
        (try first | replace r4 := r4.of_eq (hbn.block _ r4.lt) | replace r4 := r4.below hbn)
        (try first | replace g5 := g5.of_eq (hbn.block _ g5.lt) | replace g5 := g5.below hbn)
        (try first | replace r9 := r9.of_eq (hbn.block _ r9.lt) | replace r9 := r9.below hbn)
        (try first | replace rs1 := rs1.of_eq (hbn.block _ rs1.lt) | replace rs1 := rs1.below hbn)
        (try first | replace rs2 := rs2.of_eq (hbn.block _ rs2.lt) | replace rs2 := rs2.below hbn)
        (try first | replace dc := dc.of_eq (hbn.block _ dc.lt) | replace dc := dc.below hbn)
        clear hE
        try simp only [List.drop_succ_cons, List.drop_zero]
        (refine wpList_storeGr rfl _ _ rfl _ _ rfl _ rfl g5 (Y * 32 + X) (by omega) (by first | rfl | omega) ?_; have g5o := g5; clear g5; intro wn ht hcn hzn; replace rs1 := rs1.chgG g5o hcn; (try replace rs2 := rs2.chgG g5o hcn); have hsz := B.size; replace hzn := Nat.le_of_eq hzn.symm; replace B := Chg.below B hcn (by omega) B.size; (try replace r4 := r4.of_eq (hcn.block _ r4.lt (by omega))); (try replace r9 := r9.of_eq (hcn.block _ r9.lt (by omega))); (try replace rs1 := rs1.of_eq (hcn.block _ rs1.lt (by omega))); (try replace rs2 := rs2.of_eq (hcn.block _ rs2.lt (by omega))); (try replace dc := dc.of_eq (hcn.block _ dc.lt (by omega))); have g5 := ht; clear ht; simp only [Act.put, List.setIfInBounds_toArray, List.set_cons_zero, List.set_cons_succ])
        refine wpList_nil ?_
        refine NoPan.normal ?_
        go_wp2
        go_roundw
        case rel => exact ⟨k + 1, _, _, by omega, by omega, by go_num, B, r4, by rw [S2.out] at g5; exact g5, rs2⟩
        case measure => simp [intOf]; omega
      · have q1 : decide ((k : Int) < (l.length : Int)) = true := decide_eq_true (by omega)
        have q2 : decide ((k : Int) < 60) = false := decide_eq_false (by omega)
        have q3 : decide (k < l.length) = true := decide_eq_true hk
        have q4 : decide (k < 60) = false := decide_eq_false hk6
        go_upto_region 5 with fail
        refine wp_region_lit ?_
        try simp only [List.getElem_toArray, List.getElem_cons_zero, List.getElem_cons_succ]
        refine wpList_chunk 2 (by kernel_rfl) ?_
        simp only [List.take_succ_cons, List.take_zero, List.drop_succ_cons, List.drop_zero, Nat.reduceAdd]
        repeat (first | go_big_quiet_skip | (go_big_quiet_want; first | (refine quiet_loadAny (t := 30) rfl _ _ _ rfl (fun w hw => run_load_B (ov_B r4 w hw) Try.isAgg30 (by kernel_rfl)) (by rfl) ?_; simp only [Act.put, List.setIfInBounds_toArray, List.set_cons_zero, List.set_cons_succ]; go_big_quiet_on) | (refine quiet_loadAny (t := 30) rfl _ _ _ rfl (fun w hw => run_load_B (ov_B r9 w hw) Try.isAgg30 (by kernel_rfl)) (by rfl) ?_; simp only [Act.put, List.setIfInBounds_toArray, List.set_cons_zero, List.set_cons_succ]; go_big_quiet_on) | (refine quiet_loadAny (t := 37) rfl _ _ _ rfl (fun w hw => dc_p (ov_dc dc w hw) hk) (by first | rfl | omega) ?_; simp only [Act.put, List.setIfInBounds_toArray, List.set_cons_zero, List.set_cons_succ]; go_big_quiet_on) | (go_big_quiet_op; go_big_quiet_on)))
        refine wpQuiet_nil ?_
        refine wpList_lenS (by first | rfl | simp [Region.wanted, yielded]) rfl Try.underlying56 rfl ?_
        simp only [Act.put, List.setIfInBounds_toArray, List.set_cons_zero, List.set_cons_succ]
        refine wpList_chunk 5 (by kernel_rfl) ?_
        simp only [List.take_succ_cons, List.take_zero, List.drop_succ_cons, List.drop_zero, Nat.reduceAdd]
        repeat (first | go_big_quiet_skip | (go_big_quiet_want; first | (refine quiet_loadAny (t := 30) rfl _ _ _ rfl (fun w hw => run_load_B (ov_B r4 w hw) Try.isAgg30 (by kernel_rfl)) (by rfl) ?_; simp only [Act.put, List.setIfInBounds_toArray, List.set_cons_zero, List.set_cons_succ]; go_big_quiet_on) | (refine quiet_loadAny (t := 30) rfl _ _ _ rfl (fun w hw => run_load_B (ov_B r9 w hw) Try.isAgg30 (by kernel_rfl)) (by rfl) ?_; simp only [Act.put, List.setIfInBounds_toArray, List.set_cons_zero, List.set_cons_succ]; go_big_quiet_on) | (refine quiet_loadAny (t := 37) rfl _ _ _ rfl (fun w hw => dc_p (ov_dc dc w hw) hk) (by first | rfl | omega) ?_; simp only [Act.put, List.setIfInBounds_toArray, List.set_cons_zero, List.set_cons_succ]; go_big_quiet_on) | (go_big_quiet_op; go_big_quiet_on)))
        refine wpQuiet_nil ?_
        refine wpList_nil ?_
        have HTk := Lib.hid (dotR_tok HP.out k)
        have HG := Lib.hid (dotR_get l k)
        generalize dotR l k = R at *
        generalize dotW l k = Wt at *
        have hq1 := neqs_px
        go_wp2
        go_loopw [11, 12] (fun i _ wr => ∃ y : Nat, y ≤ 32 ∧ i = .int .i64 y ∧ Below w.heap.size w wr ∧ AtB 30 wr b_r4 #[.slice a1 R.length c1] ∧ GridAt wr b_g5 Wt ∧ RS (.slice a1 R.length c1) R wr) (fun i _ _ => (32 - intOf i).toNat)
        case atStart => exact ⟨0, by omega, rfl, B, r4, g5, rs1⟩
        case round =>
          clear B r4 g5 rs1
          obtain ⟨y, hy, rfl, B, r4, g5, rs1⟩ := hrel
          by_cases hy32 : y < 32
          · have e1 : decide ((y : Int) < 32) = true := decide_eq_true (by omega)
            have e1' : decide (y < 32) = true := decide_eq_true hy32
            go_wp2
            go_loopw [12] (fun i wr => ∃ x : Nat, x ≤ 32 ∧ i = .int .i64 x ∧ Below w.heap.size w wr ∧ AtB 30 wr b_r4 #[.slice a1 R.length c1] ∧ GridAt wr b_g5 Wt ∧ RS (.slice a1 R.length c1) R wr) (fun i _ => (32 - intOf i).toNat)
            case atStart => exact ⟨0, by omega, rfl, B, r4, g5, rs1⟩
            case round =>
              clear B r4 g5 rs1
              obtain ⟨x, hx, rfl, B, r4, g5, rs1⟩ := hrel
              by_cases hx32 : x < 32
              · have e2 : decide ((x : Int) < 32) = true := decide_eq_true (by omega)
                have e2' : decide (x < 32) = true := decide_eq_true hx32
                have wX : (Lit.int .i64 ((x : Int) - 16)).wf = true := wf_mk (by omega) (by omega)
                have wY : (Lit.int .i64 ((y : Int) - 16)).wf = true := wf_mk (by omega) (by omega)
                go_upto_region 20 with fail
                try simp only [List.getElem_toArray, List.getElem_cons_zero, List.getElem_cons_succ]
                try have lx_r4 := r4.lt
                try have lx_g5 := g5.lt
                try have lx_r9 := r9.lt
                try have lx_rs1 := rs1.lt
                try have lx_rs2 := rs2.lt
                try have lx_dc := dc.lt
                refine wp_region_RL 12 [(5, detS ?v3_5)] (by kernel_rfl) (by kernel_rfl) (by kernel_rfl) ?_
                rotate_left 1
                simp only [List.take_succ_cons, List.take_zero, List.drop_succ_cons, List.drop_zero, Nat.reduceAdd]
                refine wpRL_chunk 5 (by kernel_rfl) ?_
                simp only [List.take_succ_cons, List.take_zero, List.drop_succ_cons, List.drop_zero, Nat.reduceAdd]
                repeat (first | go_big_quiet_skip | (go_big_quiet_want; first | (refine quiet_loadAny (t := 30) rfl _ _ _ rfl (fun w hw => run_load_B (ov_B r4 w hw) Try.isAgg30 (by kernel_rfl)) (by rfl) ?_; simp only [Act.put, List.setIfInBounds_toArray, List.set_cons_zero, List.set_cons_succ]; go_big_quiet_on) | (refine quiet_loadAny (t := 37) rfl _ _ _ rfl (fun w hw => grid_load (ov_B g5 w hw) (i := y * 32 + x) (by omega)) (by first | rfl | omega) ?_; simp only [Act.put, List.setIfInBounds_toArray, List.set_cons_zero, List.set_cons_succ]; go_big_quiet_on) | (go_big_quiet_op; go_big_quiet_on)))
                refine wpQuiet_nil ?_
                refine wpRL_callB (by rfl) (by first | rfl | simp [Region.wanted, yielded]) ?_ ?_
                · intro wn hbn hE Kx hKx
                  have hsz := B.size
                  have hzn := hbn.size
                  replace B := B.trans (hbn.mono B.size)
                  (try first | replace r4 := r4.of_eq (hbn.block _ r4.lt) | replace r4 := r4.below hbn)
                  (try first | replace g5 := g5.of_eq (hbn.block _ g5.lt) | replace g5 := g5.below hbn)
                  (try first | replace r9 := r9.of_eq (hbn.block _ r9.lt) | replace r9 := r9.below hbn)
                  (try first | replace rs1 := rs1.of_eq (hbn.block _ rs1.lt) | replace rs1 := rs1.below hbn)
                  (try first | replace rs2 := rs2.of_eq (hbn.block _ rs2.lt) | replace rs2 := rs2.below hbn)
                  (try first | replace dc := dc.of_eq (hbn.block _ dc.lt) | replace dc := dc.below hbn)
                  refine wp_callF rfl (enters_of Try.func20 (by kernel_rfl) rfl) (by simp only [List.map_toArray, List.map_cons, List.map_nil, Act.eval, Array.getD_eq_getD_getElem?, List.getElem?_toArray, List.getElem?_cons_succ, List.getElem?_cons_zero, Option.getD_some]; rfl) ?_
                  refine (P_GetB _ R ((x : Int) - 16) ((y : Int) - 16) (Wt (y * 32 + x)) wn rs1 HNk.out wX wY (HG.out x y hx32 hy32)).mono ?_
                  rintro e wm ⟨rfl, hbm⟩
                  refine ⟨_, rfl, ?_⟩
                  have hz := hKx () wm trivial hbm
                  dsimp only [detS] at hz
                  exact hz
                rintro ⟨⟩
                dsimp only [detS]
                simp only [Act.put, List.setIfInBounds_toArray, List.set_cons_zero, List.set_cons_succ]
                refine wpRL_chunk 6 (by kernel_rfl) ?_
                simp only [List.take_succ_cons, List.take_zero, List.drop_succ_cons, List.drop_zero, Nat.reduceAdd]
                repeat (first | go_big_quiet_skip | (go_big_quiet_want; first | (refine quiet_loadAny (t := 30) rfl _ _ _ rfl (fun w hw => run_load_B (ov_B r4 w hw) Try.isAgg30 (by kernel_rfl)) (by rfl) ?_; simp only [Act.put, List.setIfInBounds_toArray, List.set_cons_zero, List.set_cons_succ]; go_big_quiet_on) | (refine quiet_loadAny (t := 37) rfl _ _ _ rfl (fun w hw => grid_load (ov_B g5 w hw) (i := y * 32 + x) (by omega)) (by first | rfl | omega) ?_; simp only [Act.put, List.setIfInBounds_toArray, List.set_cons_zero, List.set_cons_succ]; go_big_quiet_on) | (go_big_quiet_op; go_big_quiet_on)))
                refine wpQuiet_nil ?_
                refine wpRL_nil ?_
                intro wn hbn hE
                have hsz := B.size
                have hzn := hbn.size
                replace B := B.trans (hbn.mono B.size)
                (try first | replace r4 := r4.of_eq (hbn.block _ r4.lt) | replace r4 := r4.below hbn)
                (try first | replace g5 := g5.of_eq (hbn.block _ g5.lt) | replace g5 := g5.below hbn)
                (try first | replace r9 := r9.of_eq (hbn.block _ r9.lt) | replace r9 := r9.below hbn)
                (try first | replace rs1 := rs1.of_eq (hbn.block _ rs1.lt) | replace rs1 := rs1.below hbn)
                (try first | replace rs2 := rs2.of_eq (hbn.block _ rs2.lt) | replace rs2 := rs2.below hbn)
                (try first | replace dc := dc.of_eq (hbn.block _ dc.lt) | replace dc := dc.below hbn)
                clear hE
                try simp only [List.drop_succ_cons, List.drop_zero]
                refine NoPan.normal ?_
                go_wp2
                go_roundw
                case rel => exact ⟨x + 1, by omega, by go_num, B, r4, g5, rs1⟩
                case measure => simp [intOf]; omega
              · obtain rfl : x = 32 := by omega
                have e2 : decide (((32 : Nat) : Int) < 32) = false := rfl
                go_wp2
                go_roundw
                case rel => exact ⟨y + 1, by omega, by go_num, B, r4, g5, rs1⟩
                case measure => simp [intOf]; omega
          · obtain rfl : y = 32 := by omega
            have e1 : decide (((32 : Nat) : Int) < 32) = false := rfl
            go_wp2
            go_ret
            exact ⟨rfl, B⟩
    · have q1 : decide ((k : Int) < (l.length : Int)) = false := decide_eq_false (by omega)
      have q3 : decide (k < l.length) = false := decide_eq_false hk
      go_upto_region 5 with fail
      refine wp_region_lit ?_
      try simp only [List.getElem_toArray, List.getElem_cons_zero, List.getElem_cons_succ]
      refine wpList_chunk 2 (by kernel_rfl) ?_
      simp only [List.take_succ_cons, List.take_zero, List.drop_succ_cons, List.drop_zero, Nat.reduceAdd]
      repeat (first | go_big_quiet_skip | (go_big_quiet_want; first | (refine quiet_loadAny (t := 30) rfl _ _ _ rfl (fun w hw => run_load_B (ov_B r4 w hw) Try.isAgg30 (by kernel_rfl)) (by rfl) ?_; simp only [Act.put, List.setIfInBounds_toArray, List.set_cons_zero, List.set_cons_succ]; go_big_quiet_on) | (refine quiet_loadAny (t := 30) rfl _ _ _ rfl (fun w hw => run_load_B (ov_B r9 w hw) Try.isAgg30 (by kernel_rfl)) (by rfl) ?_; simp only [Act.put, List.setIfInBounds_toArray, List.set_cons_zero, List.set_cons_succ]; go_big_quiet_on) | (refine quiet_loadAny (t := 37) rfl _ _ _ rfl (fun w hw => dc_p (ov_dc dc w hw) hk) (by first | rfl | omega) ?_; simp only [Act.put, List.setIfInBounds_toArray, List.set_cons_zero, List.set_cons_succ]; go_big_quiet_on) | (go_big_quiet_op; go_big_quiet_on)))
      refine wpQuiet_nil ?_
      refine wpList_lenS (by first | rfl | simp [Region.wanted, yielded]) rfl Try.underlying56 rfl ?_
      simp only [Act.put, List.setIfInBounds_toArray, List.set_cons_zero, List.set_cons_succ]
      refine wpList_chunk 5 (by kernel_rfl) ?_
      simp only [List.take_succ_cons, List.take_zero, List.drop_succ_cons, List.drop_zero, Nat.reduceAdd]
      repeat (first | go_big_quiet_skip | (go_big_quiet_want; first | (refine quiet_loadAny (t := 30) rfl _ _ _ rfl (fun w hw => run_load_B (ov_B r4 w hw) Try.isAgg30 (by kernel_rfl)) (by rfl) ?_; simp only [Act.put, List.setIfInBounds_toArray, List.set_cons_zero, List.set_cons_succ]; go_big_quiet_on) | (refine quiet_loadAny (t := 30) rfl _ _ _ rfl (fun w hw => run_load_B (ov_B r9 w hw) Try.isAgg30 (by kernel_rfl)) (by rfl) ?_; simp only [Act.put, List.setIfInBounds_toArray, List.set_cons_zero, List.set_cons_succ]; go_big_quiet_on) | (refine quiet_loadAny (t := 37) rfl _ _ _ rfl (fun w hw => dc_p (ov_dc dc w hw) hk) (by first | rfl | omega) ?_; simp only [Act.put, List.setIfInBounds_toArray, List.set_cons_zero, List.set_cons_succ]; go_big_quiet_on) | (go_big_quiet_op; go_big_quiet_on)))
      refine wpQuiet_nil ?_
      refine wpList_nil ?_
      have HTk := Lib.hid (dotR_tok HP.out k)
      have HG := Lib.hid (dotR_get l k)
      generalize dotR l k = R at *
      generalize dotW l k = Wt at *
      have hq1 := neqs_px
      go_wp2
      go_loopw [11, 12] (fun i _ wr => ∃ y : Nat, y ≤ 32 ∧ i = .int .i64 y ∧ Below w.heap.size w wr ∧ AtB 30 wr b_r4 #[.slice a1 R.length c1] ∧ GridAt wr b_g5 Wt ∧ RS (.slice a1 R.length c1) R wr) (fun i _ _ => (32 - intOf i).toNat)
      case atStart => exact ⟨0, by omega, rfl, B, r4, g5, rs1⟩
      case round =>
        clear B r4 g5 rs1
        obtain ⟨y, hy, rfl, B, r4, g5, rs1⟩ := hrel
        by_cases hy32 : y < 32
        · have e1 : decide ((y : Int) < 32) = true := decide_eq_true (by omega)
          have e1' : decide (y < 32) = true := decide_eq_true hy32
          go_wp2
          go_loopw [12] (fun i wr => ∃ x : Nat, x ≤ 32 ∧ i = .int .i64 x ∧ Below w.heap.size w wr ∧ AtB 30 wr b_r4 #[.slice a1 R.length c1] ∧ GridAt wr b_g5 Wt ∧ RS (.slice a1 R.length c1) R wr) (fun i _ => (32 - intOf i).toNat)
          case atStart => exact ⟨0, by omega, rfl, B, r4, g5, rs1⟩
          case round =>
            clear B r4 g5 rs1
            obtain ⟨x, hx, rfl, B, r4, g5, rs1⟩ := hrel
            by_cases hx32 : x < 32
            · have e2 : decide ((x : Int) < 32) = true := decide_eq_true (by omega)
              have e2' : decide (x < 32) = true := decide_eq_true hx32
              have wX : (Lit.int .i64 ((x : Int) - 16)).wf = true := wf_mk (by omega) (by omega)
              have wY : (Lit.int .i64 ((y : Int) - 16)).wf = true := wf_mk (by omega) (by omega)
              go_upto_region 20 with fail
              try simp only [List.getElem_toArray, List.getElem_cons_zero, List.getElem_cons_succ]
              try have lx_r4 := r4.lt
              try have lx_g5 := g5.lt
              try have lx_r9 := r9.lt
              try have lx_rs1 := rs1.lt
              try have lx_rs2 := rs2.lt
              try have lx_dc := dc.lt
              refine wp_region_RL 12 [(5, detS ?v4_5)] (by kernel_rfl) (by kernel_rfl) (by kernel_rfl) ?_
              rotate_left 1
              simp only [List.take_succ_cons, List.take_zero, List.drop_succ_cons, List.drop_zero, Nat.reduceAdd]
              refine wpRL_chunk 5 (by kernel_rfl) ?_
              simp only [List.take_succ_cons, List.take_zero, List.drop_succ_cons, List.drop_zero, Nat.reduceAdd]
              repeat (first | go_big_quiet_skip | (go_big_quiet_want; first | (refine quiet_loadAny (t := 30) rfl _ _ _ rfl (fun w hw => run_load_B (ov_B r4 w hw) Try.isAgg30 (by kernel_rfl)) (by rfl) ?_; simp only [Act.put, List.setIfInBounds_toArray, List.set_cons_zero, List.set_cons_succ]; go_big_quiet_on) | (refine quiet_loadAny (t := 37) rfl _ _ _ rfl (fun w hw => grid_load (ov_B g5 w hw) (i := y * 32 + x) (by omega)) (by first | rfl | omega) ?_; simp only [Act.put, List.setIfInBounds_toArray, List.set_cons_zero, List.set_cons_succ]; go_big_quiet_on) | (go_big_quiet_op; go_big_quiet_on)))
              refine wpQuiet_nil ?_
              refine wpRL_callB (by rfl) (by first | rfl | simp [Region.wanted, yielded]) ?_ ?_
              · intro wn hbn hE Kx hKx
                have hsz := B.size
                have hzn := hbn.size
                replace B := B.trans (hbn.mono B.size)
                (try first | replace r4 := r4.of_eq (hbn.block _ r4.lt) | replace r4 := r4.below hbn)
                (try first | replace g5 := g5.of_eq (hbn.block _ g5.lt) | replace g5 := g5.below hbn)
                (try first | replace r9 := r9.of_eq (hbn.block _ r9.lt) | replace r9 := r9.below hbn)
                (try first | replace rs1 := rs1.of_eq (hbn.block _ rs1.lt) | replace rs1 := rs1.below hbn)
                (try first | replace rs2 := rs2.of_eq (hbn.block _ rs2.lt) | replace rs2 := rs2.below hbn)
                (try first | replace dc := dc.of_eq (hbn.block _ dc.lt) | replace dc := dc.below hbn)
                refine wp_callF rfl (enters_of Try.func20 (by kernel_rfl) rfl) (by simp only [List.map_toArray, List.map_cons, List.map_nil, Act.eval, Array.getD_eq_getD_getElem?, List.getElem?_toArray, List.getElem?_cons_succ, List.getElem?_cons_zero, Option.getD_some]; rfl) ?_
                refine (P_GetB _ R ((x : Int) - 16) ((y : Int) - 16) (Wt (y * 32 + x)) wn rs1 HNk.out wX wY (HG.out x y hx32 hy32)).mono ?_
                rintro e wm ⟨rfl, hbm⟩
                refine ⟨_, rfl, ?_⟩
                have hz := hKx () wm trivial hbm
                dsimp only [detS] at hz
                exact hz
              rintro ⟨⟩
              dsimp only [detS]
              simp only [Act.put, List.setIfInBounds_toArray, List.set_cons_zero, List.set_cons_succ]
              refine wpRL_chunk 6 (by kernel_rfl) ?_
              simp only [List.take_succ_cons, List.take_zero, List.drop_succ_cons, List.drop_zero, Nat.reduceAdd]
              repeat (first | go_big_quiet_skip | (go_big_quiet_want; first | (refine quiet_loadAny (t := 30) rfl _ _ _ rfl (fun w hw => run_load_B (ov_B r4 w hw) Try.isAgg30 (by kernel_rfl)) (by rfl) ?_; simp only [Act.put, List.setIfInBounds_toArray, List.set_cons_zero, List.set_cons_succ]; go_big_quiet_on) | (refine quiet_loadAny (t := 37) rfl _ _ _ rfl (fun w hw => grid_load (ov_B g5 w hw) (i := y * 32 + x) (by omega)) (by first | rfl | omega) ?_; simp only [Act.put, List.setIfInBounds_toArray, List.set_cons_zero, List.set_cons_succ]; go_big_quiet_on) | (go_big_quiet_op; go_big_quiet_on)))
              refine wpQuiet_nil ?_
              refine wpRL_nil ?_
              intro wn hbn hE
              have hsz := B.size
              have hzn := hbn.size
              replace B := B.trans (hbn.mono B.size)
              (try first | replace r4 := r4.of_eq (hbn.block _ r4.lt) | replace r4 := r4.below hbn)
              (try first | replace g5 := g5.of_eq (hbn.block _ g5.lt) | replace g5 := g5.below hbn)
              (try first | replace r9 := r9.of_eq (hbn.block _ r9.lt) | replace r9 := r9.below hbn)
              (try first | replace rs1 := rs1.of_eq (hbn.block _ rs1.lt) | replace rs1 := rs1.below hbn)
              (try first | replace rs2 := rs2.of_eq (hbn.block _ rs2.lt) | replace rs2 := rs2.below hbn)
              (try first | replace dc := dc.of_eq (hbn.block _ dc.lt) | replace dc := dc.below hbn)
              clear hE
              try simp only [List.drop_succ_cons, List.drop_zero]
              refine NoPan.normal ?_
              go_wp2
              go_roundw
              case rel => exact ⟨x + 1, by omega, by go_num, B, r4, g5, rs1⟩
              case measure => simp [intOf]; omega
            · obtain rfl : x = 32 := by omega
              have e2 : decide (((32 : Nat) : Int) < 32) = false := rfl
              go_wp2
              go_roundw
              case rel => exact ⟨y + 1, by omega, by go_num, B, r4, g5, rs1⟩
              case measure => simp [intOf]; omega
        · obtain rfl : y = 32 := by omega
          have e1 : decide (((32 : Nat) : Int) < 32) = false := rfl
          go_wp2
          go_ret
          exact ⟨rfl, B⟩
namespace rasterDots
open Go.ChangeShapes Go.WideShapes Go.ChangeAt Go.RowKit
open Go.ChangeMaps (open_string shut_string)
set_option maxRecDepth 100000 in
theorem lifted (os : Os) (started : os.Started) (H : Type) (enc : TypeId × Value → H) :
    ReturnsInHanded {} Try.checked os 6 .any (Rows.rasterDotsSpec.pre6 enc Try.prog Try.f6 Rows.rasterDotsRow.domain false) (Rows.rasterDotsSpec.post enc Try.prog Try.f6 false true false false) := by
  refine returnsInHanded_of_change (C := Try.checked) own started (by kernel_rfl) Try.func6
    (ChangeSpec.witness6 (enc := enc) (C := Try.checked) false ⟨#[], #[.slice none 0 0], []⟩ 8 (by kernel_rfl) (by kernel_rfl) (by kernel_rfl) (by kernel_rfl)) ?_
  intro W base args ds gs before hval0 hW hcnd _
  have hval : ∀ (j : Nat) t v, Try.f6.params[j]? = some t → args[j]? = some v → Value.okWide Try.prog W .any base t v := hval0
  have hW' := hW
  obtain ⟨p, q, hA0, hV, rfl, hfz, hnd⟩ := hW
  have hA : DataW.TrodAll enc Try.prog W 0 (fun _ => true) true Try.f6.params.toList args.toList ds p := hA0
  rw [Try.params6] at hA hval
  obtain ⟨v0, vs0, d0, ds0, p0, q0, hargs, rfl, rfl, h0, r0⟩ := trodAll_cons hA
  obtain ⟨rfl, rfl, rfl⟩ := trodAll_nil r0
  obtain rfl : args = #[v0] := by cases args; simp_all
  obtain ⟨rfl, rfl⟩ := trodVars_none hV
  have k0 := h0
  have lt0 : ∀ x ∈ p0, x.block < W.heap.size := by obtain ⟨m, hm⟩ := k0; exact DataW.trod_lt m _ _ _ hm
  obtain ⟨l0, hl0, hln0, hp0⟩ := open_dots (hval 0 56 v0 rfl rfl) h0
  clear hA0 hval0
  refine (walk_RasterDots v0 l0  W hl0 hln0 hp0).mono fun e W' ⟨he, bel⟩ => ?_
  subst he
  exact ⟨_, rfl, _, _, _, [], _, [], hW', trodAll_mk1 (shut_bool Try.underlying4 _), (trodAll_cons_mk (Below.trod laidOut (by kernel_rfl) (of_decide_eq_true (by kernel_rfl)) k0 bel lt0) trodAll_mk0), rfl, bel.frame _, fun h => by cases h⟩
theorem over : Rows.rasterDotsRow.holds Try.pinned (OpenSpec.ofChange Rows.rasterDotsSpec) :=
  OpenClaim.holds_of_wide 6 Try.f6 rfl rfl rfl rfl rfl rfl rfl ⟨rfl, rfl, rfl, rfl, rfl⟩ rfl rfl rfl rfl rfl (by kernel_rfl) Try.func6 (by kernel_rfl)
    (of_decide_eq_true (by kernel_rfl)) (by unfold Func.isWrapper; first | (rw [if_pos (by decide +kernel)]; kernel_rfl) | (rw [if_neg (by decide +kernel)]; exact ⟨rfl, rfl⟩))
    (fun os started H enc _ => lifted os started H enc)
/-- THE STATEMENT: RasterDots returns true for every input, and its arguments read as they did. -/
theorem proved : Rows.RasterDotsSaid := over
end rasterDots
end Go.Proofs.Ytppccnjckiedlaa
