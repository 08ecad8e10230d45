/- Tiles at positions, and slices of them, in memory. -/
import Derived.Test.YtppccnjckiedlaaRb
import Derived.Laws.AppendOwn
import Derived.Laws.AppendOwnNone
import Derived.Deep.Onto
namespace Go.Proofs.Ytppccnjckiedlaa
open Go.RowKit Pl
set_option linter.unusedVariables false
set_option linter.unusedSimpArgs false
set_option maxRecDepth 20000

/-- The 258 cells of a tile at a position. -/
def taC (e : TA) : Array Value := #[.int .i64 e.x, .int .i64 e.y] ++ tileC e.t
def Ta.v (e : TA) : Value := .agg (taC e)
theorem size_taC (e : TA) : (taC e).size = 258 := by unfold taC; rw [Array.size_append, size_tileC]; rfl
theorem taC_x (e : TA) : (taC e)[0]? = some (.int .i64 e.x) := by unfold taC; rw [Array.getElem?_append_left (by simp)]; rfl
theorem taC_y (e : TA) : (taC e)[1]? = some (.int .i64 e.y) := by unfold taC; rw [Array.getElem?_append_left (by simp)]; rfl
theorem taC_t (e : TA) (j : Nat) : (taC e)[2 + j]? = (tileC e.t)[j]? := by
  unfold taC
  rw [Array.getElem?_append_right (by simp)]
  simp
theorem taC_mk (e f : TA) (hx : e.x = f.x) (hy : e.y = f.y) (ht : tileC e.t = tileC f.t) : taC e = taC f := by unfold taC; rw [hx, hy, ht]
theorem taC_oneCell (e : TA) : ∀ u ∈ (taC e).toList, u.oneCell' = true := by
  intro u hu
  obtain ⟨i, h⟩ := List.mem_iff_getElem?.1 hu
  rw [Array.getElem?_toList] at h
  have hs : i < 258 := by rw [← size_taC e]; exact (Array.getElem?_eq_some_iff.1 h).1
  match i, hs with
  | 0, _ => rw [taC_x] at h; rw [← Option.some.inj h]; rfl
  | 1, _ => rw [taC_y] at h; rw [← Option.some.inj h]; rfl
  | j + 2, hs =>
    rw [Nat.add_comm j 2, taC_t, get_tileC, if_pos (by omega)] at h
    rw [← Option.some.inj h]
    unfold pxC
    repeat' split
    all_goals rfl
theorem cells_ta (e : TA) : (Ta.v e).cells = taC e := by simp only [Ta.v, Value.cells]
attribute [irreducible] taC
/-- The cells of a row. -/
def rowC : List TA → List Value
  | [] => []
  | e :: r => (taC e).toList ++ rowC r
theorem rowC_append (a b : List TA) : rowC (a ++ b) = rowC a ++ rowC b := by
  induction a with
  | nil => rfl
  | cons e r ih => rw [List.cons_append]; show _ ++ rowC (r ++ b) = _; rw [ih]; show _ = (_ ++ _) ++ _; rw [List.append_assoc]
theorem rowC_length (ls : List TA) : (rowC ls).length = ls.length * 258 := by
  induction ls with
  | nil => rfl
  | cons e r ih => show ((taC e).toList ++ rowC r).length = _; rw [List.length_append, ih, Array.length_toList, size_taC, List.length_cons]; omega
theorem rowC_at (ls : List TA) : ∀ i j, i < ls.length → j < 258 → (rowC ls)[i * 258 + j]? = (taC (aT ls i))[j]? := by
  induction ls with
  | nil => intro i j hi; exact absurd hi (Nat.not_lt_zero _)
  | cons e r ih =>
    intro i j hi hj
    show ((taC e).toList ++ rowC r)[i * 258 + j]? = _
    cases i with
    | zero =>
      rw [List.getElem?_append_left (by rw [Array.length_toList, size_taC]; omega), Array.getElem?_toList, Nat.zero_mul, Nat.zero_add]
      rfl
    | succ i =>
      rw [List.getElem?_append_right (by rw [Array.length_toList, size_taC]; omega), Array.length_toList, size_taC, show (i + 1) * 258 + j - 258 = i * 258 + j by omega, ih i j (by simpa using hi) hj, aT_cons]
theorem rowC_oneCell (ls : List TA) : ∀ u ∈ rowC ls, u.oneCell' = true := by
  induction ls with
  | nil => intro u hu; cases hu
  | cons e r ih =>
    intro u hu
    rcases List.mem_append.1 hu with hu | hu
    · exact taC_oneCell e u hu
    · exact ih u hu
theorem rowC_drop (ls : List TA) (k : Nat) : rowC (ls.drop k) = (rowC ls).drop (k * 258) := by
  induction ls generalizing k with
  | nil => simp [rowC]
  | cons e r ih =>
    cases k with
    | zero => simp
    | succ k =>
      rw [List.drop_succ_cons, ih]
      show _ = ((taC e).toList ++ rowC r).drop _
      rw [show (k + 1) * 258 = (taC e).toList.length + k * 258 by rw [Array.length_toList, size_taC]; omega, List.drop_length_add_append]
theorem rowC_take (ls : List TA) (k : Nat) : rowC (ls.take k) = (rowC ls).take (k * 258) := by
  induction ls generalizing k with
  | nil => simp [rowC]
  | cons e r ih =>
    cases k with
    | zero => simp [rowC]
    | succ k =>
      rw [List.take_succ_cons]
      show (taC e).toList ++ rowC (r.take k) = ((taC e).toList ++ rowC r).take _
      rw [ih, show (k + 1) * 258 = (taC e).toList.length + k * 258 by rw [Array.length_toList, size_taC]; omega, List.take_length_add_append]

/-- The cells of block g from o on are those of the row ls. -/
def RCells (g o : Nat) (ls : List TA) (w : World) : Prop := g < w.heap.size ∧ ∀ i, i < ls.length → ∀ j, j < 258 → w.cell? ⟨g, o + (i * 258 + j), none⟩ = (taC (aT ls i))[j]?
theorem RCells.lt {g o : Nat} {ls : List TA} {w : World} (h : RCells g o ls w) : g < w.heap.size := h.1
theorem RCells.of_eq {g o : Nat} {ls : List TA} {w w' : World} (h : RCells g o ls w) (e : w'.heap[g]? = w.heap[g]?) : RCells g o ls w' := by
  refine ⟨?_, fun i hi j hj => ?_⟩
  · have := h.1
    rcases Nat.lt_or_ge g w'.heap.size with k | k
    · exact k
    · rw [Array.getElem?_eq_none k, Array.getElem?_eq_getElem this] at e
      cases e
  · rw [World.cell?_of_block (w := w) e]
    exact h.2 i hi j hj
theorem RCells.drop {g o : Nat} {ls : List TA} {w : World} (h : RCells g o ls w) (k : Nat) : RCells g (o + k * 258) (ls.drop k) w :=
  ⟨h.1, fun i hi j hj => by
    rw [List.length_drop] at hi
    rw [aT_drop, ← h.2 (k + i) (by omega) j hj]
    congr 2
    rw [Nat.add_mul]; omega⟩
theorem RCells.take {g o : Nat} {ls : List TA} {w : World} (h : RCells g o ls w) (k : Nat) : RCells g o (ls.take k) w :=
  ⟨h.1, fun i hi j hj => by
    rw [List.length_take] at hi
    have e : aT (ls.take k) i = aT ls i := by
      unfold aT
      rw [List.getD_eq_getElem?_getD, List.getD_eq_getElem?_getD, List.getElem?_take, if_pos (by omega)]
    rw [e]
    exact h.2 i (by omega) j hj⟩
/-- The cells one by one. -/
theorem RCells.row {g o : Nat} {ls : List TA} {w : World} (h : RCells g o ls w) (j : Nat) (u : Value) (hu : (rowC ls)[j]? = some u) : w.cell? ⟨g, o + j, none⟩ = some u := by
  have hj : j < ls.length * 258 := by rw [← rowC_length]; exact (List.getElem?_eq_some_iff.1 hu).1
  have e : j = (j / 258) * 258 + j % 258 := by omega
  rw [e, rowC_at ls _ _ (by omega) (by omega)] at hu
  have := h.2 (j / 258) (by omega) (j % 258) (by omega)
  rw [hu, ← e] at this
  exact this
theorem RCells.x {g o : Nat} {ls : List TA} {w : World} (h : RCells g o ls w) {i : Nat} (hi : i < ls.length) : w.cell? ⟨g, o + i * 258, none⟩ = some (.int .i64 (aT ls i).x) := by
  have := h.2 i hi 0 (by omega)
  rw [taC_x] at this
  exact this
theorem RCells.y {g o : Nat} {ls : List TA} {w : World} (h : RCells g o ls w) {i : Nat} (hi : i < ls.length) : w.cell? ⟨g, o + i * 258 + 1, none⟩ = some (.int .i64 (aT ls i).y) := by
  have := h.2 i hi 1 (by omega)
  rw [taC_y, ← Nat.add_assoc] at this
  exact this
theorem RCells.t {g o : Nat} {ls : List TA} {w : World} (h : RCells g o ls w) {i : Nat} (hi : i < ls.length) {j : Nat} (hj : j < 256) : w.cell? ⟨g, o + i * 258 + 2 + j, none⟩ = (tileC (aT ls i).t)[j]? := by
  have := h.2 i hi (2 + j) (by omega)
  rw [taC_t, ← Nat.add_assoc, ← Nat.add_assoc] at this
  exact this

/-- v is a slice of the tiles ls. -/
def RS (v : Value) (ls : List TA) (w : World) : Prop := (v = .slice none 0 0 ∧ ls = []) ∨ ∃ g o c, v = .slice (some ⟨g, o, none⟩) ls.length c ∧ ls.length ≤ c ∧ (0 < ls.length → RCells g o ls w)
section
variable {v : Value} {ls : List TA} {w w' : World}
theorem RS.below (h : RS v ls w) (hb : Below w.heap.size w w') : RS v ls w' := by
  rcases h with h | ⟨g, o, c, e, hc, sc⟩
  · exact .inl h
  · exact .inr ⟨g, o, c, e, hc, fun hn => (sc hn).of_eq (hb.block _ (sc hn).lt)⟩
theorem RS.of_blocks (h : RS v ls w) {B : Nat} (hB : ∀ k, v.ownBlock = some k → k < B) (hb : ∀ k, k < B → w'.heap[k]? = w.heap[k]?) : RS v ls w' := by
  rcases h with h | ⟨g, o, c, rfl, hc, sc⟩
  · exact .inl h
  · exact .inr ⟨g, o, c, rfl, hc, fun hn => (sc hn).of_eq (hb _ (hB _ rfl))⟩
theorem RS.len (h : RS v ls w) : ∃ a c, v = .slice a ls.length c ∧ ls.length ≤ c := by
  rcases h with ⟨rfl, rfl⟩ | ⟨g, o, c, e, hc, sc⟩
  · exact ⟨none, 0, rfl, Nat.le_refl _⟩
  · exact ⟨_, c, e, hc⟩
theorem RS.at {a : Option Addr} {n c : Nat} (h : RS (.slice a n c) ls w) (hn : 0 < ls.length) : ∃ g o, a = some ⟨g, o, none⟩ ∧ RCells g o ls w := by
  rcases h with ⟨_, rfl⟩ | ⟨g, o, c', e, _, sc⟩
  · exact absurd hn (by decide)
  · injection e with e1 e2 e3
    exact ⟨g, o, e1, sc hn⟩
theorem RS.nil (w : World) : RS (.slice none 0 0) [] w := .inl ⟨rfl, rfl⟩
end
/-- v is a slice of the tiles ls, in a row that the call owns (from block B on). -/
def OwnT (B : Nat) (v : Value) (ls : List TA) (w : World) : Prop := w.ownsRow B 79 258 v ls.length (rowC ls)
section
variable {B : Nat} {v : Value} {ls : List TA} {w : World}
theorem OwnT.below {w' : World} (h : OwnT B v ls w) (hb : Below w.heap.size w w') : OwnT B v ls w' :=
  World.ownsRow.kept (row := none) h ⟨hb.os, hb.tape, hb.output, hb.size, fun k hk _ => hb.block k hk⟩ (Classical.em _)
theorem OwnT.mono {B' : Nat} (h : OwnT B v ls w) (hb : B' ≤ B) : OwnT B' v ls w := World.ownsRow.mono h hb
theorem OwnT.nil (B : Nat) (w : World) : OwnT B (.slice none 0 0) [] w := World.ownsRow_nil w B _ _
theorem OwnT.rs (h : OwnT B v ls w) : RS v ls w := by
  obtain ⟨h1, h2⟩ := h
  rcases h2 with ⟨rfl, h0⟩ | ⟨g, cap, cur, rfl, hb, hg, hn, hm, hs, ht⟩
  · exact .inl ⟨rfl, List.eq_nil_of_length_eq_zero h0⟩
  · refine .inr ⟨g, 0, cap, rfl, hn, fun _ => ⟨(Array.getElem?_eq_some_iff.1 hg).1, fun i hi j hj => ?_⟩⟩
    rw [← rowC_at ls i j hi hj, Nat.zero_add, cell_of_row w g _ cur _ (0, 0) hg, ← ht, List.getElem?_take_of_lt (by omega), Array.getElem?_toList]
theorem OwnT.len (h : OwnT B v ls w) : ∃ a c, v = .slice a ls.length c ∧ ls.length ≤ c := h.rs.len
end
theorem ta_info : (Try.prog.info? 79).map (fun i => (i.size, i.bytes)) = some (258, 272) := by kernel_rfl
theorem ta_zero : (Try.prog.info? 79).bind (·.zero) = some (.agg (#[.int .i64 0, .int .i64 0] ++ Array.replicate 256 (.int .u8 0))) := by kernel_rfl
section
variable {ops : Array Oper} {rest : List Oper} {o : Oper} {a : Act} {w : World} {Q : Exit → Act → World → Prop}
/-- A slice of tiles appended to a row of the call's own. -/
theorem wpList_appendT (hg : o.guard = none) (s x : Operand) (ho : o.op = .call { callee := .builtin .append, args := #[s, x], argTypes := #[28, 28] }) (v u : Value) (hs : a.eval s = v) (hx : a.eval x = u) {B : Nat} {ls ks : List TA} (hown : OwnT B v ls w) (hu : RS u ks w) (hlen : ls.length + ks.length ≤ 100000) (hB : B ≤ w.heap.size)
    (h : ∀ v' w', OwnT B v' (ls ++ ks) w' → Below B w w' → wpList Try.prog ops Q rest (a.put o.dst v') w') : wpList Try.prog ops Q (o :: rest) a w := by
  obtain ⟨i, hi⟩ : ∃ i, Try.prog.info? 79 = some i := by
    cases h : Try.prog.info? 79 with
    | some i => exact ⟨i, rfl⟩
    | none => have e := ta_info; rw [h] at e; cases e
  have e1 := ta_info
  rw [hi] at e1
  have e1' : i.size = 258 ∧ i.bytes = 272 := by simpa using e1
  have hz := ta_zero
  rw [hi] at hz
  rcases hu with ⟨rfl, rfl⟩ | ⟨g, of, c, rfl, hc, sc⟩
  · refine wpList_append_own_none (P := Try.prog) hg s x 28 ho B 79 i 258 Try.underlying28 hi v ls.length (rowC ls) hs hown hx ?_
    exact h v w (by rw [List.append_nil]; exact hown) (Below.refl _ _)
  · refine wpList_append_own (P := Try.prog) w hg s x 28 ho B 79 i _ 258 272 Try.underlying28 hi hz e1'.1 e1'.2 (by simp [Value.cells]) (by omega) v ls.length (rowC ls) hs hown ⟨g, of, none⟩ ks.length c (rowC ks) hx (rowC_length ks) ?_ (rowC_oneCell ks) (by unfold maxLen; omega) (by omega) hB ?_
    · intro j u hu
      have hj : j < ks.length * 258 := by rw [← rowC_length]; exact (List.getElem?_eq_some_iff.1 hu).1
      have e : (⟨g, of, none⟩ : Addr).add j = ⟨g, of + j, none⟩ := by unfold Addr.add; split <;> simp_all
      rw [e]
      exact (sc (by omega)).row j u hu
    · intro v' w' h1 h2 h3
      refine h v' w' ?_ ?_
      · unfold OwnT
        rw [rowC_append, List.length_append]
        exact h1
      · have hlt := World.ownsRow.lt hown
        exact ⟨h2.os, h2.tape, h2.output, h2.size, fun k hk => h2.block k (by omega) (fun e => by have := hlt k e.symm; omega)⟩
end
end Go.Proofs.Ytppccnjckiedlaa
