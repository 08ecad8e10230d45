import Derived.Test.YtamgpfblhlfhaaaGreatSf1
import Derived.Laws.AppendOwn
import Derived.Laws.AppendOwnNone
import Derived.Laws.MakeOwn
import Derived.Deep.Onto
import Derived.Great.BuildSlice
import Derived.Shelf.Abstract
import Derived.Lib.SliceRun
import Derived.Deep.CutBlock
import Derived.Deep.DeepCutAuto

/- Slices of elements of whatever type: rows in memory, rows that the call owns; append, literals of one element. -/
namespace Go.Proofs.YtamgpfblhlfhaaaGreat
open Go.RowKit
set_option linter.unusedVariables false
set_option linter.unusedSimpArgs false
set_option maxRecDepth 20000
/-- An element type: T the element's, ST the slice's number; its k cells. -/
structure Elt (α : Type) (k : Nat) (T ST : TypeId) where
 enc : α → Array Value
 bytes : Nat
 zero : α
 size : ∀ x, (enc x).size = k
 one : ∀ x, ∀ u ∈ (enc x).toList, u.oneCell' = true
 pos : 0 < k
 small : bytes ≤ 1000
 und : Tryz.prog.underlying ST = some (.slice T)
 info : (Tryz.prog.info? T).map (fun i => (i.size, i.bytes)) = some (k, bytes)
 zer : ((Tryz.prog.info? T).bind (·.zero)).map Value.cells = some (enc zero)
section
variable {α : Type} {k : Nat} {T ST : TypeId} (E : Elt α k T ST)
theorem Elt.facts : ∃ i z, Tryz.prog.info? T = some i ∧ i.zero = some z ∧ i.size = k ∧ i.bytes = E.bytes ∧ z.cells = E.enc E.zero := by
 have h1 := E.info
 have h2 := E.zer
 cases hi : Tryz.prog.info? T with
 | none => rw [hi] at h1; cases h1
 | some i =>
  rw [hi] at h1 h2
  cases hz : i.zero with
  | none => simp [hz] at h2
  | some z =>
   simp [hz] at h1 h2
   exact ⟨i, z, rfl, hz, h1.1, h1.2, h2⟩
/-- The cells of a row. -/
def rowE : List α → List Value
 | [] => []
 | e :: r => (E.enc e).toList ++ rowE r
theorem rowE_append (a b : List α) : rowE E (a ++ b) = rowE E a ++ rowE E b := by
 induction a with
 | nil => rfl
 | cons e r ih => rw [List.cons_append]; show _ ++ rowE E (r ++ b) = _; rw [ih]; show _ = (_ ++ _) ++ _; rw [List.append_assoc]
theorem rowE_length (ls : List α) : (rowE E ls).length = ls.length * k := by
 induction ls with
 | nil => simp [rowE]
 | cons e r ih => show ((E.enc e).toList ++ rowE E r).length = _; rw [List.length_append, ih, Array.length_toList, E.size, List.length_cons, Nat.succ_mul]; omega
theorem rowE_at (ls : List α) : ∀ i x, ls[i]? = some x → ∀ j, j < k → (rowE E ls)[i * k + j]? = (E.enc x)[j]? := by
 induction ls with
 | nil => intro i x hi; simp at hi
 | cons e r ih =>
  intro i x hi j hj
  show ((E.enc e).toList ++ rowE E r)[i * k + j]? = _
  cases i with
  | zero =>
   have hx : e = x := by simpa using hi
   rw [List.getElem?_append_left (by rw [Array.length_toList, E.size]; omega), Array.getElem?_toList, Nat.zero_mul, Nat.zero_add, hx]
  | succ i =>
   rw [List.getElem?_append_right (by rw [Array.length_toList, E.size, Nat.succ_mul]; omega), Array.length_toList, E.size, show (i + 1) * k + j - k = i * k + j by rw [Nat.succ_mul]; omega, ih i x (by simpa using hi) j hj]
theorem rowE_oneCell (ls : List α) : ∀ u ∈ rowE E ls, u.oneCell' = true := by
 induction ls with
 | nil => intro u hu; cases hu
 | cons e r ih =>
  intro u hu
  rcases List.mem_append.1 hu with hu | hu
  ·exact E.one e u hu
  ·exact ih u hu
theorem div_mod_lt {k j n : Nat} (hk : 0 < k) (h : j < n * k) : j / k < n ∧ j % k < k ∧ j = (j / k) * k + j % k := by
 refine ⟨Nat.div_lt_of_lt_mul (by rw [Nat.mul_comm]; exact h), Nat.mod_lt _ hk, ?_⟩
 rw [Nat.mul_comm]
 exact (Nat.div_add_mod j k).symm
/-- The cells of block g from o on are those of the row ls. -/
def RCellsE (g o : Nat) (ls : List α) (w : World) : Prop := g < w.heap.size ∧ ∀ i x, ls[i]? = some x → ∀ j, j < k → w.cell? ⟨g, o + (i * k + j), none⟩ = (E.enc x)[j]?
section
variable {E} {g o : Nat} {ls : List α} {w w' : World}
theorem RCellsE.lt (h : RCellsE E g o ls w) : g < w.heap.size := h.1
theorem RCellsE.of_eq (h : RCellsE E g o ls w) (e : w'.heap[g]? = w.heap[g]?) : RCellsE E g o ls w' := by
 refine ⟨?_, fun i x hi j hj => ?_⟩
 ·have := h.1
  rcases Nat.lt_or_ge g w'.heap.size with k | k
  ·exact k
  ·rw [Array.getElem?_eq_none k, Array.getElem?_eq_getElem this] at e
   cases e
 ·rw [World.cell?_of_block (w := w) e]
  exact h.2 i x hi j hj
theorem RCellsE.below {α : Type} {k : Nat} {T ST : TypeId} {E : Elt α k T ST} {g o : Nat} {ls : List α} {w w' : World} (h : RCellsE E g o ls w) (e : Below w.heap.size w w') : RCellsE E g o ls w' := h.of_eq (e.block _ h.lt)
theorem RCellsE.drop (h : RCellsE E g o ls w) (n : Nat) : RCellsE E g (o + n * k) (ls.drop n) w :=
 ⟨h.1, fun i x hi j hj => by
  rw [List.getElem?_drop] at hi
  have := h.2 (n + i) x hi j hj
  rw [Nat.add_mul] at this
  rw [← this]
  congr 2
  omega⟩
theorem RCellsE.take (h : RCellsE E g o ls w) (n : Nat) : RCellsE E g o (ls.take n) w :=
 ⟨h.1, fun i x hi j hj => by
  rw [List.getElem?_take] at hi
  split at hi
  ·exact h.2 i x hi j hj
  ·cases hi⟩
theorem RCellsE.row (h : RCellsE E g o ls w) (j : Nat) (u : Value) (hu : (rowE E ls)[j]? = some u) : w.cell? ⟨g, o + j, none⟩ = some u := by
 have hj : j < ls.length * k := by rw [← rowE_length E]; exact (List.getElem?_eq_some_iff.1 hu).1
 obtain ⟨h1, h2, h3⟩ := div_mod_lt E.pos hj
 have hx : ls[j / k]? = some ls[j / k] := List.getElem?_eq_getElem h1
 rw [h3, rowE_at E ls _ _ hx _ h2] at hu
 have := h.2 _ _ hx _ h2
 rw [hu, ← h3] at this
 exact this
/-- An element loaded. -/
theorem RCellsE.load (h : RCellsE E g o ls w) (hagg : ∀ w : World, (isAgg T).run Tryz.prog w = .ok true w) {i : Nat} {x : α} (hi : ls[i]? = some x) : (Instr.loadAt T (.pointer (some ⟨g, o + i * k, none⟩))).run Tryz.prog w = .ok (.agg (E.enc x)) w := by
 obtain ⟨f, z, hf, _, hs, _, _⟩ := E.facts
 simp only [Instr.loadAt, Instr.sureAddr, Sem.run_bind, Sem.run_pure, Result.andThen_ok]
 have hl : (loadCells ⟨g, o + i * k, none⟩ (E.enc x).toList.length).run Tryz.prog w = .ok (E.enc x).toList.toArray w :=
  run_loadCells_list (P := Tryz.prog) w ⟨g, o + i * k, none⟩ (E.enc x).toList (fun j v hv => by
   have hadd : (⟨g, o + i * k, none⟩ : Addr).add j = ⟨g, o + i * k + j, none⟩ := by unfold Addr.add; split <;> simp_all
   have hj : j < k := by
    have := (List.getElem?_eq_some_iff.1 hv).1
    rw [Array.length_toList, E.size] at this
    exact this
   rw [hadd, Nat.add_assoc, h.2 i x hi j hj]
   simpa using hv)
 rw [Array.length_toList, E.size] at hl
 simp only [Array.toArray_toList] at hl
 simp only [loadVar, Sem.run_bind, hagg w, sizeOf, typeInfo, hf, hs, hl, run_program, Result.andThen_ok, if_true, Sem.run_pure]
end
/-- v is a slice of ls. -/
def RSE (v : Value) (ls : List α) (w : World) : Prop := (v = .slice none 0 0 ∧ ls = []) ∨ (∃ g o c, v = .slice (some ⟨g, o, none⟩) ls.length c ∧ ls.length ≤ c ∧ (0 < ls.length → RCellsE E g o ls w)) ∨ ∃ a c, v = .slice (some a) 0 c ∧ ls = []
/-- v is a slice of ls, in a row that the call owns (from block B on). -/
def OwnE (B : Nat) (v : Value) (ls : List α) (w : World) : Prop := w.ownsRow B T k v ls.length (rowE E ls)
section
variable {E} {v : Value} {ls : List α} {w w' : World} {B : Nat}
theorem RSE.below (h : RSE E v ls w) (hb : Below w.heap.size w w') : RSE E v ls w' := by
 rcases h with h | ⟨g, o, c, e, hc, sc⟩ | h
 ·exact .inl h
 ·exact .inr (.inl ⟨g, o, c, e, hc, fun hn => (sc hn).of_eq (hb.block _ (sc hn).lt)⟩)
 ·exact .inr (.inr h)
theorem RSE.len (h : RSE E v ls w) : ∃ a c, v = .slice a ls.length c ∧ ls.length ≤ c := by
 rcases h with ⟨rfl, rfl⟩ | ⟨g, o, c, e, hc, sc⟩ | ⟨a, c, rfl, rfl⟩
 ·exact ⟨none, 0, rfl, Nat.le_refl _⟩
 ·exact ⟨_, c, e, hc⟩
 ·exact ⟨_, c, rfl, Nat.zero_le _⟩
theorem RSE.at {a : Option Addr} {n c : Nat} (h : RSE E (.slice a n c) ls w) (hn : 0 < ls.length) : ∃ g o, a = some ⟨g, o, none⟩ ∧ RCellsE E g o ls w := by
 rcases h with ⟨_, rfl⟩ | ⟨g, o, c', e, _, sc⟩ | ⟨_, _, _, rfl⟩
 rotate_right
 ·exact absurd hn (by simp)
 ·exact absurd hn (by simp)
 ·injection e with e1 e2 e3
  exact ⟨g, o, e1, sc hn⟩
theorem RSE.nil (w : World) : RSE E (.slice none 0 0) [] w := .inl ⟨rfl, rfl⟩
theorem ov_rce {g o : Nat} (h : RCellsE E g o ls w) : ∀ w', (∃ u, w' = ov w u) → RCellsE E g o ls w' := by
 rintro w' ⟨u, rfl⟩
 exact h.of_eq ((ov_below w u).block _ h.lt)
theorem OwnE.below (h : OwnE E B v ls w) (hb : Below w.heap.size w w') : OwnE E B v ls w' :=
 World.ownsRow.kept (row := none) h ⟨hb.os, hb.tape, hb.output, hb.size, fun k hk _ => hb.block k hk⟩ (Classical.em _)
theorem OwnE.mono {B' : Nat} (h : OwnE E B v ls w) (hb : B' ≤ B) : OwnE E B' v ls w := World.ownsRow.mono h hb
theorem OwnE.nil (B : Nat) (w : World) : OwnE E B (.slice none 0 0) [] w := World.ownsRow_nil w B _ _
theorem OwnE.rs (h : OwnE E B v ls w) : RSE E v ls w := by
 obtain ⟨h1, h2⟩ := h
 rcases h2 with ⟨rfl, h0⟩ | ⟨g, cap, cur, rfl, hb, hg, hn, hm, hs, ht⟩
 ·exact .inl ⟨rfl, List.eq_nil_of_length_eq_zero h0⟩
 ·refine .inr (.inl ⟨g, 0, cap, rfl, hn, fun _ => ⟨(Array.getElem?_eq_some_iff.1 hg).1, fun i x hi j hj => ?_⟩⟩)
  have hil : i < ls.length := (List.getElem?_eq_some_iff.1 hi).1
  have hlt : i * k + j < ls.length * k := by
   have := Nat.mul_le_mul_right k (Nat.succ_le_of_lt hil)
   rw [Nat.succ_mul] at this
   omega
  rw [← rowE_at E ls i x hi j hj, Nat.zero_add, cell_of_row w g _ cur _ (0, 0) hg, ← ht, List.getElem?_take_of_lt hlt, Array.getElem?_toList]
theorem OwnE.len (h : OwnE E B v ls w) : ∃ a c, v = .slice a ls.length c ∧ ls.length ≤ c := h.rs.len
theorem OwnE.chg {b : Nat} (h : OwnE E B v ls w) (hc : Chg b w w') (hb : b < B) : OwnE E B v ls w' := by
 refine World.ownsRow.kept (row := some b) h ⟨hc.os, hc.tape, hc.output, hc.size, fun k hk hne => hc.block k hk (fun e => hne (by rw [e]))⟩ ?_
 cases hv : v.ownBlock with
 | none => exact .inl rfl
 | some k =>
  right
  intro e
  injection e with e
  have := World.ownsRow.lt h k hv
  omega
end
section
variable {E} {ops : Array Oper} {rest : List Oper} {o : Oper} {a : Act} {w : World} {Q : Exit → Act → World → Prop}
/-- A slice appended to a row of the call's own. -/
theorem wpList_appendE (hg : o.guard = none) (s x : Operand) (ho : o.op = .call { callee := .builtin .append, args := #[s, x], argTypes := #[ST, ST] }) (v u : Value) (hs : a.eval s = v) (hx : a.eval x = u) {B : Nat} {ls ks : List α} (hown : OwnE E B v ls w) (hu : RSE E u ks w) (hlen : ls.length + ks.length ≤ 100000000) (hB : B ≤ w.heap.size)
  (h : ∀ v' w', OwnE E B v' (ls ++ ks) w' → Below B w w' → wpList Tryz.prog ops Q rest (a.put o.dst v') w') : wpList Tryz.prog ops Q (o :: rest) a w := by
 obtain ⟨i, z, hi, hz, hsz, hby, hzc⟩ := E.facts
 have hzs : z.cells.size = k := by rw [hzc, E.size]
 rcases hu with ⟨rfl, rfl⟩ | ⟨g, of, c, rfl, hc, sc⟩ | ⟨ad, c, rfl, rfl⟩
 ·refine wpList_append_own_none (P := Tryz.prog) hg s x ST ho B T i k E.und hi v ls.length (rowE E ls) hs hown hx ?_
  exact h v w (by rw [List.append_nil]; exact hown) (Below.refl _ _)
 ·refine wpList_append_own (P := Tryz.prog) w hg s x ST ho B T i z k E.bytes E.und hi hz hsz hby hzs E.pos v ls.length (rowE E ls) hs hown ⟨g, of, none⟩ ks.length c (rowE E ks) hx (rowE_length E ks) ?_ (rowE_oneCell E ks) (by unfold maxLen; omega) ?_ hB ?_
  ·intro j u hu
   have hj : j < ks.length * k := by rw [← rowE_length E]; exact (List.getElem?_eq_some_iff.1 hu).1
   have e : (⟨g, of, none⟩ : Addr).add j = ⟨g, of + j, none⟩ := by unfold Addr.add; split <;> simp_all
   rw [e]
   have hk : 0 < ks.length := by
    rcases Nat.eq_zero_or_pos ks.length with h0 | h0
    ·rw [h0, Nat.zero_mul] at hj; omega
    ·exact h0
   exact (sc hk).row j u hu
  ·have := Nat.mul_le_mul hlen E.small
   omega
  ·intro v' w' h1 h2 h3
   refine h v' w' ?_ ?_
   ·unfold OwnE
    rw [rowE_append, List.length_append]
    exact h1
   ·have hlt := World.ownsRow.lt hown
    exact ⟨h2.os, h2.tape, h2.output, h2.size, fun k hk => h2.block k (by omega) (fun e => by have := hlt k e.symm; omega)⟩
 ·refine wpList_append_own (P := Tryz.prog) w hg s x ST ho B T i z k E.bytes E.und hi hz hsz hby hzs E.pos v ls.length (rowE E ls) hs hown ad 0 c [] hx (by simp) ?_ (by simp) (by unfold maxLen; simp only [List.length_nil] at hlen; omega) ?_ hB ?_
  ·intro j u hu
   simp at hu
  ·have := Nat.mul_le_mul hlen E.small
   simp only [List.length_nil] at this
   omega
  ·intro v' w' h1 h2 h3
   refine h v' w' ?_ ?_
   ·unfold OwnE
    rw [List.append_nil]
    rw [List.append_nil] at h1
    exact h1
   ·have hlt := World.ownsRow.lt hown
    exact ⟨h2.os, h2.tape, h2.output, h2.size, fun k hk => h2.block k (by omega) (fun e => by have := hlt k e.symm; omega)⟩
end
/-! ### Literals of one element; blocks known whole as rows -/
section
variable {E}
theorem fill_one {T' : TypeId} (x : α) (cs : Array Value) (hs : cs.size = k) : Instr.fill (fun i => some (i * k, k)) cs [(0, .agg (E.enc x))] = some (E.enc x) := by
 have hc : (Value.agg (E.enc x)).cells = E.enc x := by simp only [Value.cells]
 obtain ⟨r, hr1, hr2, hr3⟩ := Great.fill_dense E.pos [Value.agg (E.enc x)] 0 cs (fun v hv => by rw [List.mem_singleton.1 hv, hc, E.size]) (by simp; omega)
 have e : (([Value.agg (E.enc x)].zipIdx 0).map fun y => (y.2, y.1)) = [(0, Value.agg (E.enc x))] := rfl
 rw [e] at hr1
 rw [hr1]
 congr 1
 apply Array.ext_getElem?
 intro j
 rw [hr3 j]
 by_cases h : j < k
 ·rw [if_pos (by simp; omega), Nat.div_eq_of_lt h, Nat.mod_eq_of_lt h]
  simp [hc]
 ·rw [if_neg (by simp; omega), Array.getElem?_eq_none (by omega), Array.getElem?_eq_none (by rw [E.size]; omega)]
variable {ops : Array Oper} {rest : List Oper} {o : Oper} {a : Act} {w : World} {Q : Exit → Act → World → Prop}
theorem owp_bs1E {K : Act → World → Prop} (y : Operand) (ho : o.op = .buildSlice ST 1 #[(0, y)]) (x : α) (hy : a.eval y = .agg (E.enc x)) (hk : k ≤ 1000)
  (h : ∀ b w', w.heap.size ≤ b → b ≤ w.heap.size → AtB T w' b (E.enc x) → Below b w w' → w'.heap.size = b + 1 → K (a.put o.dst (.slice (some ⟨b, 0, none⟩) 1 1)) w') : o.wp Tryz.prog a w K Q := by
 obtain ⟨i, z, hi, hz, hsz, hby, hzc⟩ := E.facts
 have hp := E.pos
 refine wp_buildSlice ST T 1 #[(0, y)] ho (E.enc x) i z E.und hi hz (by rw [hsz]; omega) (by rw [hsz]; omega) ?_ (h _ _ (Nat.le_refl _) (Nat.le_refl _) (by unfold AtB; rw [heap_get_alloc, if_pos rfl]) ((Below.refl _ _).alloc (Nat.le_refl _) _) (World.size_alloc _ _))
 rw [hsz]
 have hp : ((#[(0, y)] : Array (Nat × Operand)).map fun (i, x) => (i, a.eval x)).toList = [(0, Value.agg (E.enc x))] := by simp [hy]
 rw [hp]
 exact fill_one (T' := T) x _ (by simp)
theorem wpList_bs1E (hg : o.guard = none) (y : Operand) (ho : o.op = .buildSlice ST 1 #[(0, y)]) (x : α) (hy : a.eval y = .agg (E.enc x)) (hk : k ≤ 1000)
  (h : ∀ b w', w.heap.size ≤ b → b ≤ w.heap.size → AtB T w' b (E.enc x) → Below b w w' → w'.heap.size = b + 1 → wpList Tryz.prog ops Q rest (a.put o.dst (.slice (some ⟨b, 0, none⟩) 1 1)) w') : wpList Tryz.prog ops Q (o :: rest) a w :=
 wpList_plain hg fun K hK => owp_bs1E y ho x hy hk fun b w' h1 h2 h3 h4 h5 => hK _ _ (h b w' h1 h2 h3 h4 h5)
theorem RSE.one {b : Nat} {x : α} {w : World} (h : AtB T w b (E.enc x)) : RSE E (.slice (some ⟨b, 0, none⟩) 1 1) [x] w :=
 .inr (.inl ⟨b, 0, 1, rfl, Nat.le_refl _, fun _ => ⟨h.lt, fun i y hi j hj => by
  cases i with
  | zero =>
   have hx : x = y := by simpa using hi
   rw [Nat.zero_mul, Nat.zero_add, Nat.zero_add, (cells_of_block h).1, hx]
  | succ i => simp at hi⟩⟩)
/-- The block b is the row ls. -/
def RowAt (E : Elt α k T ST) (w : World) (b : Nat) (ls : List α) : Prop := AtB T w b (rowE E ls).toArray
theorem RowAt.of_eq {w w' : World} {b : Nat} {ls : List α} (h : RowAt E w b ls) (e : w'.heap[b]? = w.heap[b]?) : RowAt E w' b ls := AtB.of_eq h e
theorem RowAt.lt {w : World} {b : Nat} {ls : List α} (h : RowAt E w b ls) : b < w.heap.size := AtB.lt h
theorem RowAt.below {α : Type} {k : Nat} {T ST : TypeId} {E : Elt α k T ST} {b : Nat} {ls : List α} {w w' : World} (h : RowAt E w b ls) (e : Below w.heap.size w w') : RowAt E w' b ls := h.of_eq (e.block _ h.lt)
theorem RowAt.cells {w : World} {b : Nat} {ls : List α} (h : RowAt E w b ls) : RCellsE E b 0 ls w := by
 refine ⟨h.lt, fun i x hi j hj => ?_⟩
 rw [Nat.zero_add, (cells_of_block h).1, List.getElem?_toArray]
 exact rowE_at E ls i x hi j hj
theorem RowAt.rs {w : World} {b : Nat} {ls : List α} (h : RowAt E w b ls) : RSE E (.slice (some ⟨b, 0, none⟩) ls.length ls.length) ls w :=
 .inr (.inl ⟨b, 0, ls.length, rfl, Nat.le_refl _, fun _ => h.cells⟩)
end
end
end Go.Proofs.YtamgpfblhlfhaaaGreat
/- Contracts of cmp.isNaN, Compare, Or at int; of order, within of package raster; of less, within of its reference. -/
namespace Go.Proofs.YtamgpfblhlfhaaaGreat
open Go.RowKit Pl
set_option linter.unusedVariables false
set_option linter.unusedSimpArgs false
set_option maxRecDepth 20000
def cmpI (x y : Int) : Int := if x < y then -1 else if y < x then 1 else 0
def orI (x y : Int) : Int := if x = 0 then y else x
theorem orI_zero {x y : Int} (h : x = 0) : orI x y = y := if_pos h
theorem orI_ne {x y : Int} (h : ¬ x = 0) : orI x y = x := if_neg h
def ordI (ax ay bx bv : Int) : Int := orI (cmpI ay bv) (cmpI ax bx)
theorem ordI_neg (ax ay bx bv : Int) : decide (ordI ax ay bx bv < 0) = lessB ax ay bx bv := by
 unfold ordI orI cmpI lessB
 rw [Bool.eq_iff_iff, decide_eq_true_iff, decide_eq_true_iff]
 split <;> rename_i h <;> repeat' split
 all_goals (repeat' split at h)
 all_goals omega
theorem ordI_eq (ax ay bx bv : Int) : decide (ordI ax ay bx bv = 0) = eqB ax ay bx bv := by
 unfold ordI orI cmpI eqB
 rw [Bool.eq_iff_iff, decide_eq_true_iff, decide_eq_true_iff]
 split <;> rename_i h <;> repeat' split
 all_goals (repeat' split at h)
 all_goals omega
theorem ordI_ge (ax ay bx bv : Int) : decide (0 ≤ ordI ax ay bx bv) = !lessB ax ay bx bv := by
 rw [← ordI_neg, Bool.eq_iff_iff]
 simp
theorem P_isNaN (x : Int) (w : World) : Calls Tryz.prog 141 #[.int .i64 x] w fun e w' => e = .returned (.bool false) ∧ w = w' := by
 go_enter Tryz.func141, Tryz.ntmps141
 go_wp2
 go_ret
 exact ⟨rfl, rfl⟩
theorem P_Compare (x y : Int) (w : World) : Calls Tryz.prog 126 #[.int .i64 x, .int .i64 y] w fun e w' => e = .returned (.int .i64 (cmpI x y)) ∧ w = w' := by
 by_cases h1 : x < y
 ·rw [show cmpI x y = -1 from if_pos h1]
  go_enter Tryz.func126, Tryz.ntmps126
  go_wp2_with ((go_at_call 141; refine (P_isNaN _ _).mono ?_; rintro e w' ⟨rfl, rfl⟩))
  go_ret
  exact ⟨rfl, rfl⟩
 ·by_cases h2 : y < x
  ·rw [show cmpI x y = 1 from by unfold cmpI; rw [if_neg h1, if_pos h2]]
   go_enter Tryz.func126, Tryz.ntmps126
   go_wp2_with ((go_at_call 141; refine (P_isNaN _ _).mono ?_; rintro e w' ⟨rfl, rfl⟩))
   go_ret
   exact ⟨rfl, rfl⟩
  ·rw [show cmpI x y = 0 from by unfold cmpI; rw [if_neg h1, if_neg h2]]
   go_enter Tryz.func126, Tryz.ntmps126
   go_wp2_with ((go_at_call 141; refine (P_isNaN _ _).mono ?_; rintro e w' ⟨rfl, rfl⟩))
   go_ret
   exact ⟨rfl, rfl⟩
theorem P_Or2 (x y : Int) (b : Nat) (w : World) (h : AtB 3 w b #[.int .i64 x, .int .i64 y]) : Calls Tryz.prog 125 #[.slice (some ⟨b, 0, none⟩) 2 2] w fun e w' => e = .returned (.int .i64 (orI x y)) ∧ w = w' := by
 have c0 := h.cell 0 rfl
 have c1 := h.cell 1 rfl
 clear h
 go_enter Tryz.func125, Tryz.ntmps125
 go_wp2
 go_loopw [8] (fun i wr => ∃ k : Nat, k ≤ 2 ∧ i = .int .i64 k ∧ wr = w ∧ (1 ≤ k → x = 0) ∧ (2 ≤ k → y = 0)) (fun i _ => (2 - intOf i).toNat)
 case atStart => exact ⟨0, by omega, rfl, rfl, by omega, by omega⟩
 case round =>
  obtain ⟨k, hk, rfl, rfl, h1, h2⟩ := hrel
  have hc : k = 0 ∨ k = 1 ∨ k = 2 := by omega
  rcases hc with rfl | rfl | rfl
  ·clear h1 h2
   by_cases hx : x = 0
   ·have e1 : (x == 0) = true := by simpa using hx
    have e2 : (x != 0) = false := by simpa using hx
    have H := Lib.hid hx
    clear hx
    go_wp2
    go_roundw
    case rel => exact ⟨1, by omega, rfl, by simp, fun _ => H.out, by omega⟩
    case measure => simp [intOf]
   ·have e1 : (x == 0) = false := by simpa using hx
    have e2 : (x != 0) = true := by simpa using hx
    have H := Lib.hid hx
    clear hx
    go_wp2
    go_ret
    exact ⟨by rw [orI_ne H.out]; rfl, rfl⟩
  ·have H1 := Lib.hid (h1 (by omega))
   clear h1 h2
   by_cases hx : y = 0
   ·have e1 : (y == 0) = true := by simpa using hx
    have e2 : (y != 0) = false := by simpa using hx
    have H := Lib.hid hx
    clear hx
    go_wp2
    go_roundw
    case rel => exact ⟨2, by omega, rfl, by simp, fun _ => H1.out, fun _ => H.out⟩
    case measure => simp [intOf]
   ·have e1 : (y == 0) = false := by simpa using hx
    have e2 : (y != 0) = true := by simpa using hx
    have H := Lib.hid hx
    clear hx
    go_wp2
    go_ret
    exact ⟨by rw [orI_zero H1.out]; rfl, rfl⟩
  ·have H1 := Lib.hid (h1 (by omega))
   have H2 := Lib.hid (h2 (by omega))
   clear h1 h2
   go_wp2
   go_ret
   exact ⟨by rw [orI_zero H1.out, H2.out]; rfl, rfl⟩
theorem run_bsI2 (w : World) (o : Oper) (x y : Operand) (ho : o.op = .buildSlice 23 2 #[(0, x), (1, y)]) (ev : Operand → Value) (p q : Int) (hx : ev x = .int .i64 p) (hy : ev y = .int .i64 q) : (execOp ev o).run Tryz.prog w = .ok (.value (.slice (some ⟨w.heap.size, 0, none⟩) 2 2)) (w.alloc (.cells #[.int .i64 p, .int .i64 q] 3)) := by
 obtain ⟨d, po, t, ps, af, gd⟩ := o
 simp only at ho
 subst ho
 unfold execOp
 simp only [List.map_toArray, List.map_cons, List.map_nil, hx, hy]
 kernel_rfl
theorem wpList_bsI2 {ops : Array Oper} {rest : List Oper} {o : Oper} {a : Act} {w : World} {Q : Exit → Act → World → Prop} (hg : o.guard = none) (x y : Operand) (ho : o.op = .buildSlice 23 2 #[(0, x), (1, y)]) (p q : Int) (hx : a.eval x = .int .i64 p) (hy : a.eval y = .int .i64 q)
  (h : ∀ b w', w.heap.size ≤ b → b ≤ w.heap.size → AtB 3 w' b #[.int .i64 p, .int .i64 q] → Below b w w' → w'.heap.size = b + 1 → wpList Tryz.prog ops Q rest (a.put o.dst (.slice (some ⟨b, 0, none⟩) 2 2)) w') : wpList Tryz.prog ops Q (o :: rest) a w :=
 wpList_plain hg fun K hK => by
  unfold Oper.wp
  rw [run_bsI2 w o x y ho _ p q hx hy]
  exact hK _ _ (h _ _ (Nat.le_refl _) (Nat.le_refl _) (by unfold AtB; rw [heap_get_alloc, if_pos rfl]) ((Below.refl _ _).alloc (Nat.le_refl _) _) (World.size_alloc _ _))
theorem P_order (ax ay bx bv : Int) (w : World) : Calls Tryz.prog 93 #[Ps.v ax ay, Ps.v bx bv] w fun e w' => e = .returned (.int .i64 (ordI ax ay bx bv)) ∧ Below w.heap.size w w' := by
 have B := Below.refl w.heap.size w
 simp only [Ps.v]
 go_enter Tryz.func93, Tryz.ntmps93
 go_wp2_with (first | (have _ := p1; refine wpList_boxB (t := 68) rfl _ rfl _ rfl ?_; intro b_p2 wn hle hge ht hbn hzn; have hsz := B.size; replace B := B.trans (hbn.mono (by omega)); have hln := Nat.lt_of_lt_of_eq (Nat.lt_succ_self _) hzn.symm; clear hzn; (try have hlt := p1.lt); (try replace p1 := p1.below (hbn.mono hle)); (try have hlt := p2.lt); (try replace p2 := p2.below (hbn.mono hle)); (try have hlt := bs.lt); (try replace bs := bs.below (hbn.mono hle)); have p2 := ht; clear ht; simp only [putS]) | (refine wpList_boxB (t := 68) rfl _ rfl _ rfl ?_; intro b_p1 wn hle hge ht hbn hzn; have hsz := B.size; replace B := B.trans (hbn.mono (by omega)); have hln := Nat.lt_of_lt_of_eq (Nat.lt_succ_self _) hzn.symm; clear hzn; (try have hlt := p1.lt); (try replace p1 := p1.below (hbn.mono hle)); (try have hlt := p2.lt); (try replace p2 := p2.below (hbn.mono hle)); (try have hlt := bs.lt); (try replace bs := bs.below (hbn.mono hle)); have p1 := ht; clear ht; simp only [putS]) | fail)
 refine wp_region_ov_tail 10 (by kernel_rfl) (by kernel_rfl) ?_
 simp only [List.take_succ_cons, List.take_zero, List.drop_succ_cons, List.drop_zero]
 repeat (first | go_big_quiet_skip | (go_big_quiet_want; first | (refine quiet_loadAny (t := 3) rfl _ _ _ rfl (fun w hw => run_load_int ((ov_B p1 w hw).cell 0 rfl)) (by rfl) ?_; simp only [putS]; go_big_quiet_on) | (refine quiet_loadAny (t := 3) rfl _ _ _ rfl (fun w hw => run_load_int ((ov_B p1 w hw).cell 1 rfl)) (by rfl) ?_; simp only [putS]; go_big_quiet_on) | (refine quiet_loadAny (t := 3) rfl _ _ _ rfl (fun w hw => run_load_int ((ov_B p2 w hw).cell 0 rfl)) (by rfl) ?_; simp only [putS]; go_big_quiet_on) | (refine quiet_loadAny (t := 3) rfl _ _ _ rfl (fun w hw => run_load_int ((ov_B p2 w hw).cell 1 rfl)) (by rfl) ?_; simp only [putS]; go_big_quiet_on) | (go_big_quiet_op; first | go_big_quiet_on | go_big_quiet_call ((first | (go_at_call 126; exact calls_ov_same (P_Compare _ _ _)))))))
 refine wpQuiet_nil ?_
 intro wn hbn
 have hsz := B.size
 have hzn := hbn.size
 replace B := B.trans (hbn.mono B.size)
 try replace bs := bs.below hbn
 go_wp2_with (first | (refine wpList_bsI2 rfl _ _ rfl _ _ rfl rfl ?_; intro b_bs wn hle hge ht hbn hzn; have hsz := B.size; replace B := B.trans (hbn.mono (by omega)); have hln := Nat.lt_of_lt_of_eq (Nat.lt_succ_self _) hzn.symm; clear hzn; (try have hlt := p1.lt); (try have hlt := p2.lt); (try have hlt := bs.lt); (try replace bs := bs.below (hbn.mono hle)); have bs := ht; clear ht; simp only [putS]) | (go_at_call 125; refine (P_Or2 _ _ _ _ bs).mono ?_; rintro e wq ⟨rfl, rfl⟩) | fail)
 go_ret
 exact ⟨rfl, B⟩
theorem P_within (x y : Int) (w : World) : Calls Tryz.prog 87 #[Ps.v x y] w fun e w' => e = .returned (.bool (withinB x y)) ∧ Below w.heap.size w w' := by
 simp only [Ps.v]
 by_cases h0 : -8192 ≤ x
 ·by_cases h1 : x ≤ 8191
  ·by_cases h2 : -8192 ≤ y
   ·by_cases h3 : y ≤ 8191
    ·rw [show withinB x y = true from by unfold withinB; exact decide_eq_true (by omega)]
     have d0 : decide (-8192 ≤ x) = true := decide_eq_true h0
     have d1 : decide (x ≤ 8191) = true := decide_eq_true h1
     have d2 : decide (-8192 ≤ y) = true := decide_eq_true h2
     have d3 : decide (y ≤ 8191) = true := decide_eq_true h3
     go_enter Tryz.func87, Tryz.ntmps87
     go_wp2
     go_ret
     exact ⟨rfl, by go_grown⟩
    ·rw [show withinB x y = false from by unfold withinB; exact decide_eq_false (by omega)]
     have d0 : decide (-8192 ≤ x) = true := decide_eq_true h0
     have d1 : decide (x ≤ 8191) = true := decide_eq_true h1
     have d2 : decide (-8192 ≤ y) = true := decide_eq_true h2
     have d3 : decide (y ≤ 8191) = false := decide_eq_false h3
     go_enter Tryz.func87, Tryz.ntmps87
     go_wp2
     go_ret
     exact ⟨rfl, by go_grown⟩
   ·rw [show withinB x y = false from by unfold withinB; exact decide_eq_false (by omega)]
    have d0 : decide (-8192 ≤ x) = true := decide_eq_true h0
    have d1 : decide (x ≤ 8191) = true := decide_eq_true h1
    have d2 : decide (-8192 ≤ y) = false := decide_eq_false h2
    go_enter Tryz.func87, Tryz.ntmps87
    go_wp2
    go_ret
    exact ⟨rfl, by go_grown⟩
  ·rw [show withinB x y = false from by unfold withinB; exact decide_eq_false (by omega)]
   have d0 : decide (-8192 ≤ x) = true := decide_eq_true h0
   have d1 : decide (x ≤ 8191) = false := decide_eq_false h1
   go_enter Tryz.func87, Tryz.ntmps87
   go_wp2
   go_ret
   exact ⟨rfl, by go_grown⟩
 ·rw [show withinB x y = false from by unfold withinB; exact decide_eq_false (by omega)]
  have d0 : decide (-8192 ≤ x) = false := decide_eq_false h0
  go_enter Tryz.func87, Tryz.ntmps87
  go_wp2
  go_ret
  exact ⟨rfl, by go_grown⟩
theorem R_within (x y : Int) (w : World) : Calls Tryz.prog 111 #[Ps.v x y] w fun e w' => e = .returned (.bool (withinB x y)) ∧ Below w.heap.size w w' := by
 simp only [Ps.v]
 by_cases h0 : -8192 ≤ x
 ·by_cases h1 : x ≤ 8191
  ·by_cases h2 : -8192 ≤ y
   ·by_cases h3 : y ≤ 8191
    ·rw [show withinB x y = true from by unfold withinB; exact decide_eq_true (by omega)]
     have d0 : decide (-8192 ≤ x) = true := decide_eq_true h0
     have d1 : decide (x ≤ 8191) = true := decide_eq_true h1
     have d2 : decide (-8192 ≤ y) = true := decide_eq_true h2
     have d3 : decide (y ≤ 8191) = true := decide_eq_true h3
     go_enter Tryz.func111, Tryz.ntmps111
     go_wp2
     go_ret
     exact ⟨rfl, by go_grown⟩
    ·rw [show withinB x y = false from by unfold withinB; exact decide_eq_false (by omega)]
     have d0 : decide (-8192 ≤ x) = true := decide_eq_true h0
     have d1 : decide (x ≤ 8191) = true := decide_eq_true h1
     have d2 : decide (-8192 ≤ y) = true := decide_eq_true h2
     have d3 : decide (y ≤ 8191) = false := decide_eq_false h3
     go_enter Tryz.func111, Tryz.ntmps111
     go_wp2
     go_ret
     exact ⟨rfl, by go_grown⟩
   ·rw [show withinB x y = false from by unfold withinB; exact decide_eq_false (by omega)]
    have d0 : decide (-8192 ≤ x) = true := decide_eq_true h0
    have d1 : decide (x ≤ 8191) = true := decide_eq_true h1
    have d2 : decide (-8192 ≤ y) = false := decide_eq_false h2
    go_enter Tryz.func111, Tryz.ntmps111
    go_wp2
    go_ret
    exact ⟨rfl, by go_grown⟩
  ·rw [show withinB x y = false from by unfold withinB; exact decide_eq_false (by omega)]
   have d0 : decide (-8192 ≤ x) = true := decide_eq_true h0
   have d1 : decide (x ≤ 8191) = false := decide_eq_false h1
   go_enter Tryz.func111, Tryz.ntmps111
   go_wp2
   go_ret
   exact ⟨rfl, by go_grown⟩
 ·rw [show withinB x y = false from by unfold withinB; exact decide_eq_false (by omega)]
  have d0 : decide (-8192 ≤ x) = false := decide_eq_false h0
  go_enter Tryz.func111, Tryz.ntmps111
  go_wp2
  go_ret
  exact ⟨rfl, by go_grown⟩
theorem R_less (ax ay bx bv : Int) (w : World) : Calls Tryz.prog 121 #[Ps.v ax ay, Ps.v bx bv] w fun e w' => e = .returned (.bool (lessB ax ay bx bv)) ∧ Below w.heap.size w w' := by
 simp only [Ps.v]
 by_cases h1 : ay < bv
 ·rw [show lessB ax ay bx bv = true from decide_eq_true (Or.inl h1)]
  have d1 : decide (ay < bv) = true := decide_eq_true h1
  go_enter Tryz.func121, Tryz.ntmps121
  go_wp2
  go_ret
  exact ⟨rfl, by go_grown⟩
 ·have d1 : decide (ay < bv) = false := decide_eq_false h1
  by_cases h2 : ay = bv
  ·subst h2
   by_cases h3 : ax < bx
   ·rw [show lessB ax ay bx ay = true from decide_eq_true (Or.inr ⟨rfl, h3⟩)]
    have d3 : decide (ax < bx) = true := decide_eq_true h3
    go_enter Tryz.func121, Tryz.ntmps121
    go_wp2
    go_ret
    exact ⟨rfl, by go_grown⟩
   ·rw [show lessB ax ay bx ay = false from decide_eq_false (by omega)]
    have d3 : decide (ax < bx) = false := decide_eq_false h3
    go_enter Tryz.func121, Tryz.ntmps121
    go_wp2
    go_ret
    exact ⟨rfl, by go_grown⟩
  ·rw [show lessB ax ay bx bv = false from decide_eq_false (by omega)]
   have d2 : (ay == bv) = false := by simpa using h2
   go_enter Tryz.func121, Tryz.ntmps121
   go_wp2
   go_ret
   exact ⟨rfl, by go_grown⟩
/- Arms for rasters: boxed rasters, tiles at a position, rows of them; contracts of Valid of package raster and of its reference. -/
theorem AtB.cell0 {t : TypeId} {w : World} {b : Nat} {v : Value} (h : AtB t w b #[v]) : w.cell? ⟨b, 0, none⟩ = some v := h.cell 0 rfl
theorem run_load_sl {w : World} {b j : Nat} {v : Value} (h : w.cell? ⟨b, j, none⟩ = some v) : (Instr.loadAt 32 (.pointer (some ⟨b, j, none⟩))).run Tryz.prog w = .ok v w := by
 simp [go_sem, h]
/-- Loaded from cells that are known one by one. -/
theorem run_load_cells {w : World} {b off : Nat} {cs : Array Value} {t : TypeId} (hagg : ∀ w : World, (isAgg t).run Tryz.prog w = .ok true w)
  (hsz : (Tryz.prog.info? t).map (·.size) = some cs.size) (hc : ∀ j, j < cs.size → w.cell? ⟨b, off + j, none⟩ = cs[j]?) : (Instr.loadAt t (.pointer (some ⟨b, off, none⟩))).run Tryz.prog w = .ok (.agg cs) w := by
 simp only [Instr.loadAt, Instr.sureAddr, Sem.run_bind, Sem.run_pure, Result.andThen_ok]
 have hl : (loadCells ⟨b, off, none⟩ cs.toList.length).run Tryz.prog w = .ok cs.toList.toArray w :=
  run_loadCells_list (P := Tryz.prog) w ⟨b, off, none⟩ cs.toList (fun j v hv => by
   have hadd : (⟨b, off, none⟩ : Addr).add j = ⟨b, off + j, none⟩ := by unfold Addr.add; split <;> simp_all
   have hj : j < cs.size := by
    have := (List.getElem?_eq_some_iff.1 hv).1
    rw [Array.length_toList] at this
    exact this
   rw [hadd, hc j hj]
   simpa using hv)
 cases hq : Tryz.prog.info? t with
 | none => rw [hq] at hsz; cases hsz
 | some i =>
  have he : i.size = cs.size := by rw [hq] at hsz; simpa using hsz
  rw [Array.length_toList] at hl
  simp only [Array.toArray_toList] at hl
  simp only [loadVar, Sem.run_bind, hagg w, sizeOf, typeInfo, hq, he, hl, run_program, Result.andThen_ok, if_true, Sem.run_pure]
theorem ta_size (e : TA) : (Tryz.prog.info? 72).map (·.size) = some (taC e).size := by rw [size_taC]; kernel_rfl
theorem pos_size (x y : Int) : (Tryz.prog.info? 68).map (·.size) = some (#[Value.int .i64 x, .int .i64 y] : Array Value).size := by kernel_rfl
section
variable {w : World} {b g o i : Nat} {e : TA} {ls : List TA}
theorem ta_pos (h : AtB 72 w b (taC e)) : (Instr.loadAt 68 (.pointer (some ⟨b, 0, none⟩))).run Tryz.prog w = .ok (Ps.v e.x e.y) w :=
 run_load_cells Tryz.isAgg68 (pos_size _ _) (fun j hj => by
  have hj : j < 2 := hj
  have hc : j = 0 ∨ j = 1 := by omega
  rcases hc with rfl | rfl
  ·exact h.cell 0 (taC_x e)
  ·exact h.cell 1 (taC_y e))
theorem ta_tile (h : AtB 72 w b (taC e)) : (Instr.loadAt 70 (.pointer (some ⟨b, 2, none⟩))).run Tryz.prog w = .ok (Tile.v e.t) w :=
 run_load_BP h 2 Tryz.isAgg70 (tile_size _) (fun j hj => taC_t e j)
theorem rc_ta (h : RCells g o ls w) (hi : i < ls.length) (he : aT ls i = e) : (Instr.loadAt 72 (.pointer (some ⟨g, o + i * 258, none⟩))).run Tryz.prog w = .ok (.agg (taC e)) w :=
 run_load_cells Tryz.isAgg72 (ta_size _) (fun j hj => by
  rw [size_taC] at hj
  rw [← he, Nat.add_assoc]
  exact h.2 i hi j hj)
theorem rc_pos (h : RCells g o ls w) (hi : i < ls.length) (he : aT ls i = e) : (Instr.loadAt 68 (.pointer (some ⟨g, o + i * 258, none⟩))).run Tryz.prog w = .ok (Ps.v e.x e.y) w :=
 run_load_cells Tryz.isAgg68 (pos_size _ _) (fun j hj => by
  have hj : j < 2 := hj
  have hc : j = 0 ∨ j = 1 := by omega
  subst he
  rcases hc with rfl | rfl
  ·exact h.x hi
  ·exact h.y hi)
theorem rc_tile (h : RCells g o ls w) (hi : i < ls.length) (he : aT ls i = e) : (Instr.loadAt 70 (.pointer (some ⟨g, o + i * 258 + 2, none⟩))).run Tryz.prog w = .ok (Tile.v e.t) w :=
 run_load_cells Tryz.isAgg70 (tile_size _) (fun j hj => by
  rw [size_tileC] at hj
  subst he
  exact h.t hi hj)
theorem ov_rc (h : RCells g o ls w) : ∀ w', (∃ u, w' = ov w u) → RCells g o ls w' := by
 rintro w' ⟨u, rfl⟩
 exact h.of_eq ((ov_below w u).block _ h.lt)
end
def zTA : Array Value := #[.int .i64 0, .int .i64 0] ++ Array.replicate 256 (.int .u8 0)
theorem size_zTA : zTA.size = 258 := by unfold zTA; rw [Array.size_append, Array.size_replicate]; rfl
theorem taC_all (e : TA) : (taC e).all (·.oneCell') = true := by
 rw [← Array.all_toList]
 exact List.all_eq_true.2 (taC_oneCell e)
theorem run_alloc_TA (w : World) (o : Oper) (ho : o.op = .alloc 72) (ev : Operand → Value) : (execOp ev o).run Tryz.prog w = .ok (.value (.pointer (some ⟨w.heap.size, 0, none⟩))) (w.alloc (.cells zTA 72)) := by
 obtain ⟨d, p, t, ps, af, gd⟩ := o
 simp only at ho
 subst ho
 kernel_rfl
attribute [irreducible] zTA
theorem step_within {ls : List TA} {k : Nat} {x y : Int} {t : Nat → Px} (he : aT ls k = ⟨x, y, t⟩) (h : withinB x y = false) : stepA ls k = false := by
 unfold stepA goodA; rw [he, h]; rfl
theorem step_zero {ls : List TA} {k : Nat} {x y : Int} {t : Nat → Px} (he : aT ls k = ⟨x, y, t⟩) (h : zeroB t = true) : stepA ls k = false := by
 unfold stepA goodA; rw [he, h]; simp
theorem step_clean {ls : List TA} {k : Nat} {x y : Int} {t : Nat → Px} (he : aT ls k = ⟨x, y, t⟩) (h : eqT (cleanT t) t = false) : stepA ls k = false := by
 unfold stepA goodA; rw [he, h]; simp
theorem step_first {ls : List TA} {x y : Int} {t : Nat → Px} (he : aT ls 0 = ⟨x, y, t⟩) (h1 : withinB x y = true) (h2 : zeroB t = false) (h3 : eqT (cleanT t) t = true) : stepA ls 0 = true := by
 unfold stepA goodA; rw [he, h1, h2, h3]; rfl
theorem step_less {ls : List TA} {k : Nat} {x y x' y' : Int} {t t' : Nat → Px} (hk : 0 < k) (he : aT ls k = ⟨x, y, t⟩) (he' : aT ls (k - 1) = ⟨x', y', t'⟩) (h1 : withinB x y = true) (h2 : zeroB t = false) (h3 : eqT (cleanT t) t = true) : stepA ls k = lessB x' y' x y := by
 unfold stepA goodA beforeA; rw [he, he', h1, h2, h3, decide_eq_false (by omega)]; simp
set_option maxHeartbeats 4000000 in
theorem P_Valid (v : Value) (ls : List TA) (w : World) (h : RS v ls w) (tk : TokL ls) (hn : ls.length ≤ maxLen) : Calls Tryz.prog 56 #[.agg #[v]] w fun e w' => e = .returned (.bool (validL ls)) ∧ Below w.heap.size w w' := by
 unfold maxLen at hn
 obtain ⟨a, c, rfl, hc⟩ := h.len
 have B := Below.refl w.heap.size w
 have HS := Lib.hid h
 have HK := Lib.hid tk
 clear h tk
 by_cases hbig : 1024 < ls.length
 ·rw [validL_big hbig]
  have d1 : decide (1024 < (ls.length : Int)) = true := decide_eq_true (by omega)
  go_enter Tryz.func56, Tryz.ntmps56
  go_wp2_with (first | (refine wpList_loadAny (t := 32) rfl _ rfl _ _ _ rfl (run_load_sl r1.cell0) (by rfl) ?_; simp only [putS]) | (refine wpList_boxB (t := 34) rfl _ rfl _ rfl ?_; intro b_r1 wn hle hge ht hbn hzn; have hsz := B.size; replace B := B.trans (hbn.mono (by omega)); have hln := Nat.lt_of_lt_of_eq (Nat.lt_succ_self _) hzn.symm; clear hzn; (try have hlt := r1.lt); (try replace r1 := r1.below (hbn.mono hle)); (try have hlt := t1.lt); (try replace t1 := t1.below (hbn.mono hle)); (try have hlt := rc.lt); (try replace rc := rc.below (hbn.mono hle)); have r1 := ht; clear ht; simp only [putS]) | fail)
  go_ret
  exact ⟨rfl, B⟩
 ·have d1 : decide (1024 < (ls.length : Int)) = false := decide_eq_false (by omega)
  go_enter Tryz.func56, Tryz.ntmps56
  go_wp2_with (first | (refine wpList_loadAny (t := 32) rfl _ rfl _ _ _ rfl (run_load_sl r1.cell0) (by rfl) ?_; simp only [putS]) | (refine wpList_boxB (t := 34) rfl _ rfl _ rfl ?_; intro b_r1 wn hle hge ht hbn hzn; have hsz := B.size; replace B := B.trans (hbn.mono (by omega)); have hln := Nat.lt_of_lt_of_eq (Nat.lt_succ_self _) hzn.symm; clear hzn; (try have hlt := r1.lt); (try replace r1 := r1.below (hbn.mono hle)); (try have hlt := t1.lt); (try replace t1 := t1.below (hbn.mono hle)); (try have hlt := rc.lt); (try replace rc := rc.below (hbn.mono hle)); have r1 := ht; clear ht; simp only [putS]) | fail)
  clear d1
  have hr1 := r1.lt
  go_loopw [3, 4, 12] (fun _ _ i wr => ∃ k : Nat, k ≤ ls.length ∧ i = .int .i64 k ∧ Below w.heap.size w wr ∧ wn.heap.size ≤ wr.heap.size ∧ AtB 34 wr b_r1 #[.slice a ls.length c] ∧ ∀ j, j < k → stepA ls j = true) (fun _ _ i _ => (ls.length - intOf i).toNat)
  case atStart => exact ⟨0, by omega, rfl, B, Nat.le_refl _, r1, fun j hj => by omega⟩
  case round =>
   clear B r1
   obtain ⟨k, hk, rfl, B, hwn, r1, hst⟩ := hrel
   have Hst := Lib.hid hst
   clear hst
   by_cases hkl : k < ls.length
   ·obtain ⟨g, o, rfl, rc0⟩ := HS.out.at (by omega)
    have hg0 := rc0.lt
    have rc := rc0.of_eq (B.block _ rc0.lt)
    clear rc0
    obtain ⟨⟨x, y, t⟩, he⟩ : ∃ e, aT ls k = e := ⟨_, rfl⟩
    have htk : Tok t := by have := HK.out.at hkl; rw [he] at this; exact this
    have HT := Lib.hid htk
    obtain ⟨⟨x', y', t'⟩, he'⟩ : ∃ e, aT ls (k - 1) = e := ⟨_, rfl⟩
    have hk1 : k - 1 < ls.length := by omega
    have dlt : decide ((k : Int) < (ls.length : Int)) = true := decide_eq_true (by omega)
    have hneq : ∀ w, (binOp .neq 70 (Tile.v (cleanT t)) (Tile.v t)).run Tryz.prog w = .ok (.bool (!eqT (cleanT t) t)) w := fun w => neq_tile _ _ w
    cases h1 : withinB x y with
    | false =>
     have E := Lib.hid (step_within he h1)
     go_wp2_with (first | (refine wpList_storeB (t := 72) rfl _ _ rfl _ rfl _ rfl t1 (by rw [size_taC]; kernel_rfl) (by simp only [size_taC, size_zTA]) (taC_all _) ?_; clear t1; intro wn ht hcn hzn; have hsz := B.size; replace hzn := Nat.le_of_eq hzn.symm; replace B := Chg.below B hcn (by omega) B.size; (try replace r1 := r1.of_eq (hcn.block _ r1.lt (by omega))); (try replace rc := rc.of_eq (hcn.block _ rc.lt (by omega))); have t1 := ht; clear ht; simp only [putS]) | (refine wpList_allocBk (t := 72) rfl _ (run_alloc_TA _ _ rfl) ?_; intro b_t1 wn hle hge ht hbn hzn; have hsz := B.size; replace B := B.trans (hbn.mono (by omega)); have hln := Nat.lt_of_lt_of_eq (Nat.lt_succ_self _) hzn.symm; clear hzn; (try have hlt := r1.lt); (try replace r1 := r1.below (hbn.mono hle)); (try have hlt := t1.lt); (try replace t1 := t1.below (hbn.mono hle)); (try have hlt := rc.lt); (try replace rc := rc.below (hbn.mono hle)); have t1 := ht; clear ht; simp only [putS]) | (refine wpList_loadAny (t := 72) rfl _ rfl _ _ _ rfl (rc_ta rc hkl he) (by first | rfl | omega) ?_; simp only [putS]) | (refine wpList_loadAny (t := 32) rfl _ rfl _ _ _ rfl (run_load_sl r1.cell0) (by rfl) ?_; simp only [putS]) | fail)
     refine wp_region_ov (by kernel_rfl) (by kernel_rfl) ?_
     repeat (first | go_big_quiet_skip | (go_big_quiet_want; first | (refine quiet_loadAny (t := 68) rfl _ _ _ rfl (fun w hw => ta_pos (ov_B t1 w hw)) (by first | rfl | omega) ?_; simp only [putS]; go_big_quiet_on) | (refine quiet_loadAny (t := 70) rfl _ _ _ rfl (fun w hw => ta_tile (ov_B t1 w hw)) (by first | rfl | omega) ?_; simp only [putS]; go_big_quiet_on) | (refine quiet_loadAny (t := 32) rfl _ _ _ rfl (fun w hw => run_load_sl (ov_B r1 w hw).cell0) (by rfl) ?_; simp only [putS]; go_big_quiet_on) | (refine quiet_loadAny (t := 68) rfl _ _ _ rfl (fun w hw => rc_pos (ov_rc rc w hw) hk1 he') (by first | rfl | omega) ?_; simp only [putS]; go_big_quiet_on) | (go_big_quiet_op; first | go_big_quiet_on | go_big_quiet_call ((first | (go_at_call 87; exact calls_ov (P_within _ _ _)) | (go_at_call 92; exact calls_ov (P_Zero _ _ htk)) | (go_at_call 90; exact calls_ov (P_Clean_t _ _ htk)) | (go_at_call 93; exact calls_ov (P_order _ _ _ _ _)))))))
     refine wpQuiet_nil ?_
     intro wn hbn
     have hsz := B.size
     have hzn := hbn.size
     replace B := B.trans (hbn.mono B.size)
     try replace r1 := r1.below hbn
     try replace t1 := t1.below hbn
     try replace rc := rc.below hbn
     go_wp2
     go_ret
     exact ⟨by rw [validL_no hkl E.out]; try rfl, B⟩
    | true =>
     cases h2 : zeroB t with
     | true =>
      have E := Lib.hid (step_zero he h2)
      go_wp2_with (first | (refine wpList_storeB (t := 72) rfl _ _ rfl _ rfl _ rfl t1 (by rw [size_taC]; kernel_rfl) (by simp only [size_taC, size_zTA]) (taC_all _) ?_; clear t1; intro wn ht hcn hzn; have hsz := B.size; replace hzn := Nat.le_of_eq hzn.symm; replace B := Chg.below B hcn (by omega) B.size; (try replace r1 := r1.of_eq (hcn.block _ r1.lt (by omega))); (try replace rc := rc.of_eq (hcn.block _ rc.lt (by omega))); have t1 := ht; clear ht; simp only [putS]) | (refine wpList_allocBk (t := 72) rfl _ (run_alloc_TA _ _ rfl) ?_; intro b_t1 wn hle hge ht hbn hzn; have hsz := B.size; replace B := B.trans (hbn.mono (by omega)); have hln := Nat.lt_of_lt_of_eq (Nat.lt_succ_self _) hzn.symm; clear hzn; (try have hlt := r1.lt); (try replace r1 := r1.below (hbn.mono hle)); (try have hlt := t1.lt); (try replace t1 := t1.below (hbn.mono hle)); (try have hlt := rc.lt); (try replace rc := rc.below (hbn.mono hle)); have t1 := ht; clear ht; simp only [putS]) | (refine wpList_loadAny (t := 72) rfl _ rfl _ _ _ rfl (rc_ta rc hkl he) (by first | rfl | omega) ?_; simp only [putS]) | (refine wpList_loadAny (t := 32) rfl _ rfl _ _ _ rfl (run_load_sl r1.cell0) (by rfl) ?_; simp only [putS]) | fail)
      refine wp_region_ov (by kernel_rfl) (by kernel_rfl) ?_
      repeat (first | go_big_quiet_skip | (go_big_quiet_want; first | (refine quiet_loadAny (t := 68) rfl _ _ _ rfl (fun w hw => ta_pos (ov_B t1 w hw)) (by first | rfl | omega) ?_; simp only [putS]; go_big_quiet_on) | (refine quiet_loadAny (t := 70) rfl _ _ _ rfl (fun w hw => ta_tile (ov_B t1 w hw)) (by first | rfl | omega) ?_; simp only [putS]; go_big_quiet_on) | (refine quiet_loadAny (t := 32) rfl _ _ _ rfl (fun w hw => run_load_sl (ov_B r1 w hw).cell0) (by rfl) ?_; simp only [putS]; go_big_quiet_on) | (refine quiet_loadAny (t := 68) rfl _ _ _ rfl (fun w hw => rc_pos (ov_rc rc w hw) hk1 he') (by first | rfl | omega) ?_; simp only [putS]; go_big_quiet_on) | (go_big_quiet_op; first | go_big_quiet_on | go_big_quiet_call ((first | (go_at_call 87; exact calls_ov (P_within _ _ _)) | (go_at_call 92; exact calls_ov (P_Zero _ _ htk)) | (go_at_call 90; exact calls_ov (P_Clean_t _ _ htk)) | (go_at_call 93; exact calls_ov (P_order _ _ _ _ _)))))))
      refine wpQuiet_nil ?_
      intro wn hbn
      have hsz := B.size
      have hzn := hbn.size
      replace B := B.trans (hbn.mono B.size)
      try replace r1 := r1.below hbn
      try replace t1 := t1.below hbn
      try replace rc := rc.below hbn
      go_wp2
      go_ret
      exact ⟨by rw [validL_no hkl E.out]; try rfl, B⟩
     | false =>
      cases h3 : eqT (cleanT t) t with
      | false =>
       have E := Lib.hid (step_clean he h3)
       go_wp2_with (first | (refine wpList_storeB (t := 72) rfl _ _ rfl _ rfl _ rfl t1 (by rw [size_taC]; kernel_rfl) (by simp only [size_taC, size_zTA]) (taC_all _) ?_; clear t1; intro wn ht hcn hzn; have hsz := B.size; replace hzn := Nat.le_of_eq hzn.symm; replace B := Chg.below B hcn (by omega) B.size; (try replace r1 := r1.of_eq (hcn.block _ r1.lt (by omega))); (try replace rc := rc.of_eq (hcn.block _ rc.lt (by omega))); have t1 := ht; clear ht; simp only [putS]) | (refine wpList_allocBk (t := 72) rfl _ (run_alloc_TA _ _ rfl) ?_; intro b_t1 wn hle hge ht hbn hzn; have hsz := B.size; replace B := B.trans (hbn.mono (by omega)); have hln := Nat.lt_of_lt_of_eq (Nat.lt_succ_self _) hzn.symm; clear hzn; (try have hlt := r1.lt); (try replace r1 := r1.below (hbn.mono hle)); (try have hlt := t1.lt); (try replace t1 := t1.below (hbn.mono hle)); (try have hlt := rc.lt); (try replace rc := rc.below (hbn.mono hle)); have t1 := ht; clear ht; simp only [putS]) | (refine wpList_loadAny (t := 72) rfl _ rfl _ _ _ rfl (rc_ta rc hkl he) (by first | rfl | omega) ?_; simp only [putS]) | (refine wpList_loadAny (t := 32) rfl _ rfl _ _ _ rfl (run_load_sl r1.cell0) (by rfl) ?_; simp only [putS]) | fail)
       refine wp_region_ov (by kernel_rfl) (by kernel_rfl) ?_
       repeat (first | go_big_quiet_skip | (go_big_quiet_want; first | (refine quiet_loadAny (t := 68) rfl _ _ _ rfl (fun w hw => ta_pos (ov_B t1 w hw)) (by first | rfl | omega) ?_; simp only [putS]; go_big_quiet_on) | (refine quiet_loadAny (t := 70) rfl _ _ _ rfl (fun w hw => ta_tile (ov_B t1 w hw)) (by first | rfl | omega) ?_; simp only [putS]; go_big_quiet_on) | (refine quiet_loadAny (t := 32) rfl _ _ _ rfl (fun w hw => run_load_sl (ov_B r1 w hw).cell0) (by rfl) ?_; simp only [putS]; go_big_quiet_on) | (refine quiet_loadAny (t := 68) rfl _ _ _ rfl (fun w hw => rc_pos (ov_rc rc w hw) hk1 he') (by first | rfl | omega) ?_; simp only [putS]; go_big_quiet_on) | (go_big_quiet_op; first | go_big_quiet_on | go_big_quiet_call ((first | (go_at_call 87; exact calls_ov (P_within _ _ _)) | (go_at_call 92; exact calls_ov (P_Zero _ _ htk)) | (go_at_call 90; exact calls_ov (P_Clean_t _ _ htk)) | (go_at_call 93; exact calls_ov (P_order _ _ _ _ _)))))))
       refine wpQuiet_nil ?_
       intro wn hbn
       have hsz := B.size
       have hzn := hbn.size
       replace B := B.trans (hbn.mono B.size)
       try replace r1 := r1.below hbn
       try replace t1 := t1.below hbn
       try replace rc := rc.below hbn
       go_wp2
       go_ret
       exact ⟨by rw [validL_no hkl E.out]; try rfl, B⟩
      | true =>
       by_cases hk0 : 0 < k
       ·have E := Lib.hid (step_less hk0 he he' h1 h2 h3)
        have d3 : decide ((0 : Int) < (k : Int)) = true := decide_eq_true (by omega)
        have d4 : decide (0 < k) = true := decide_eq_true hk0
        cases h4 : lessB x' y' x y with
        | false =>
         have hO : decide (0 ≤ ordI x' y' x y) = true := by rw [ordI_ge, h4]; rfl
         go_wp2_with (first | (refine wpList_storeB (t := 72) rfl _ _ rfl _ rfl _ rfl t1 (by rw [size_taC]; kernel_rfl) (by simp only [size_taC, size_zTA]) (taC_all _) ?_; clear t1; intro wn ht hcn hzn; have hsz := B.size; replace hzn := Nat.le_of_eq hzn.symm; replace B := Chg.below B hcn (by omega) B.size; (try replace r1 := r1.of_eq (hcn.block _ r1.lt (by omega))); (try replace rc := rc.of_eq (hcn.block _ rc.lt (by omega))); have t1 := ht; clear ht; simp only [putS]) | (refine wpList_allocBk (t := 72) rfl _ (run_alloc_TA _ _ rfl) ?_; intro b_t1 wn hle hge ht hbn hzn; have hsz := B.size; replace B := B.trans (hbn.mono (by omega)); have hln := Nat.lt_of_lt_of_eq (Nat.lt_succ_self _) hzn.symm; clear hzn; (try have hlt := r1.lt); (try replace r1 := r1.below (hbn.mono hle)); (try have hlt := t1.lt); (try replace t1 := t1.below (hbn.mono hle)); (try have hlt := rc.lt); (try replace rc := rc.below (hbn.mono hle)); have t1 := ht; clear ht; simp only [putS]) | (refine wpList_loadAny (t := 72) rfl _ rfl _ _ _ rfl (rc_ta rc hkl he) (by first | rfl | omega) ?_; simp only [putS]) | (refine wpList_loadAny (t := 32) rfl _ rfl _ _ _ rfl (run_load_sl r1.cell0) (by rfl) ?_; simp only [putS]) | fail)
         refine wp_region_ov (by kernel_rfl) (by kernel_rfl) ?_
         repeat (first | go_big_quiet_skip | (go_big_quiet_want; first | (refine quiet_loadAny (t := 68) rfl _ _ _ rfl (fun w hw => ta_pos (ov_B t1 w hw)) (by first | rfl | omega) ?_; simp only [putS]; go_big_quiet_on) | (refine quiet_loadAny (t := 70) rfl _ _ _ rfl (fun w hw => ta_tile (ov_B t1 w hw)) (by first | rfl | omega) ?_; simp only [putS]; go_big_quiet_on) | (refine quiet_loadAny (t := 32) rfl _ _ _ rfl (fun w hw => run_load_sl (ov_B r1 w hw).cell0) (by rfl) ?_; simp only [putS]; go_big_quiet_on) | (refine quiet_loadAny (t := 68) rfl _ _ _ rfl (fun w hw => rc_pos (ov_rc rc w hw) hk1 he') (by first | rfl | omega) ?_; simp only [putS]; go_big_quiet_on) | (go_big_quiet_op; first | go_big_quiet_on | go_big_quiet_call ((first | (go_at_call 87; exact calls_ov (P_within _ _ _)) | (go_at_call 92; exact calls_ov (P_Zero _ _ htk)) | (go_at_call 90; exact calls_ov (P_Clean_t _ _ htk)) | (go_at_call 93; exact calls_ov (P_order _ _ _ _ _)))))))
         refine wpQuiet_nil ?_
         intro wn hbn
         have hsz := B.size
         have hzn := hbn.size
         replace B := B.trans (hbn.mono B.size)
         try replace r1 := r1.below hbn
         try replace t1 := t1.below hbn
         try replace rc := rc.below hbn
         go_wp2
         go_ret
         exact ⟨by rw [validL_no hkl (E.out.trans h4)]; try rfl, B⟩
        | true =>
         have hO : decide (0 ≤ ordI x' y' x y) = false := by rw [ordI_ge, h4]; rfl
         go_wp2_with (first | (refine wpList_storeB (t := 72) rfl _ _ rfl _ rfl _ rfl t1 (by rw [size_taC]; kernel_rfl) (by simp only [size_taC, size_zTA]) (taC_all _) ?_; clear t1; intro wn ht hcn hzn; have hsz := B.size; replace hzn := Nat.le_of_eq hzn.symm; replace B := Chg.below B hcn (by omega) B.size; (try replace r1 := r1.of_eq (hcn.block _ r1.lt (by omega))); (try replace rc := rc.of_eq (hcn.block _ rc.lt (by omega))); have t1 := ht; clear ht; simp only [putS]) | (refine wpList_allocBk (t := 72) rfl _ (run_alloc_TA _ _ rfl) ?_; intro b_t1 wn hle hge ht hbn hzn; have hsz := B.size; replace B := B.trans (hbn.mono (by omega)); have hln := Nat.lt_of_lt_of_eq (Nat.lt_succ_self _) hzn.symm; clear hzn; (try have hlt := r1.lt); (try replace r1 := r1.below (hbn.mono hle)); (try have hlt := t1.lt); (try replace t1 := t1.below (hbn.mono hle)); (try have hlt := rc.lt); (try replace rc := rc.below (hbn.mono hle)); have t1 := ht; clear ht; simp only [putS]) | (refine wpList_loadAny (t := 72) rfl _ rfl _ _ _ rfl (rc_ta rc hkl he) (by first | rfl | omega) ?_; simp only [putS]) | (refine wpList_loadAny (t := 32) rfl _ rfl _ _ _ rfl (run_load_sl r1.cell0) (by rfl) ?_; simp only [putS]) | fail)
         refine wp_region_ov (by kernel_rfl) (by kernel_rfl) ?_
         repeat (first | go_big_quiet_skip | (go_big_quiet_want; first | (refine quiet_loadAny (t := 68) rfl _ _ _ rfl (fun w hw => ta_pos (ov_B t1 w hw)) (by first | rfl | omega) ?_; simp only [putS]; go_big_quiet_on) | (refine quiet_loadAny (t := 70) rfl _ _ _ rfl (fun w hw => ta_tile (ov_B t1 w hw)) (by first | rfl | omega) ?_; simp only [putS]; go_big_quiet_on) | (refine quiet_loadAny (t := 32) rfl _ _ _ rfl (fun w hw => run_load_sl (ov_B r1 w hw).cell0) (by rfl) ?_; simp only [putS]; go_big_quiet_on) | (refine quiet_loadAny (t := 68) rfl _ _ _ rfl (fun w hw => rc_pos (ov_rc rc w hw) hk1 he') (by first | rfl | omega) ?_; simp only [putS]; go_big_quiet_on) | (go_big_quiet_op; first | go_big_quiet_on | go_big_quiet_call ((first | (go_at_call 87; exact calls_ov (P_within _ _ _)) | (go_at_call 92; exact calls_ov (P_Zero _ _ htk)) | (go_at_call 90; exact calls_ov (P_Clean_t _ _ htk)) | (go_at_call 93; exact calls_ov (P_order _ _ _ _ _)))))))
         refine wpQuiet_nil ?_
         intro wn hbn
         have hsz := B.size
         have hzn := hbn.size
         replace B := B.trans (hbn.mono B.size)
         try replace r1 := r1.below hbn
         try replace t1 := t1.below hbn
         try replace rc := rc.below hbn
         go_wp2
         go_roundw
         case rel => exact ⟨k + 1, by omega, by go_num, B, by omega, r1, fun j hj => by
          by_cases e : j = k
          ·rw [e, E.out, h4]
          ·exact Hst.out j (by omega)⟩
         case measure => simp [intOf]; omega
       ·obtain rfl : k = 0 := by omega
        have E := Lib.hid (step_first he h1 h2 h3)
        go_wp2_with (first | (refine wpList_storeB (t := 72) rfl _ _ rfl _ rfl _ rfl t1 (by rw [size_taC]; kernel_rfl) (by simp only [size_taC, size_zTA]) (taC_all _) ?_; clear t1; intro wn ht hcn hzn; have hsz := B.size; replace hzn := Nat.le_of_eq hzn.symm; replace B := Chg.below B hcn (by omega) B.size; (try replace r1 := r1.of_eq (hcn.block _ r1.lt (by omega))); (try replace rc := rc.of_eq (hcn.block _ rc.lt (by omega))); have t1 := ht; clear ht; simp only [putS]) | (refine wpList_allocBk (t := 72) rfl _ (run_alloc_TA _ _ rfl) ?_; intro b_t1 wn hle hge ht hbn hzn; have hsz := B.size; replace B := B.trans (hbn.mono (by omega)); have hln := Nat.lt_of_lt_of_eq (Nat.lt_succ_self _) hzn.symm; clear hzn; (try have hlt := r1.lt); (try replace r1 := r1.below (hbn.mono hle)); (try have hlt := t1.lt); (try replace t1 := t1.below (hbn.mono hle)); (try have hlt := rc.lt); (try replace rc := rc.below (hbn.mono hle)); have t1 := ht; clear ht; simp only [putS]) | (refine wpList_loadAny (t := 72) rfl _ rfl _ _ _ rfl (rc_ta rc hkl he) (by first | rfl | omega) ?_; simp only [putS]) | (refine wpList_loadAny (t := 32) rfl _ rfl _ _ _ rfl (run_load_sl r1.cell0) (by rfl) ?_; simp only [putS]) | fail)
        refine wp_region_ov (by kernel_rfl) (by kernel_rfl) ?_
        repeat (first | go_big_quiet_skip | (go_big_quiet_want; first | (refine quiet_loadAny (t := 68) rfl _ _ _ rfl (fun w hw => ta_pos (ov_B t1 w hw)) (by first | rfl | omega) ?_; simp only [putS]; go_big_quiet_on) | (refine quiet_loadAny (t := 70) rfl _ _ _ rfl (fun w hw => ta_tile (ov_B t1 w hw)) (by first | rfl | omega) ?_; simp only [putS]; go_big_quiet_on) | (refine quiet_loadAny (t := 32) rfl _ _ _ rfl (fun w hw => run_load_sl (ov_B r1 w hw).cell0) (by rfl) ?_; simp only [putS]; go_big_quiet_on) | (refine quiet_loadAny (t := 68) rfl _ _ _ rfl (fun w hw => rc_pos (ov_rc rc w hw) hk1 he') (by first | rfl | omega) ?_; simp only [putS]; go_big_quiet_on) | (go_big_quiet_op; first | go_big_quiet_on | go_big_quiet_call ((first | (go_at_call 87; exact calls_ov (P_within _ _ _)) | (go_at_call 92; exact calls_ov (P_Zero _ _ htk)) | (go_at_call 90; exact calls_ov (P_Clean_t _ _ htk)) | (go_at_call 93; exact calls_ov (P_order _ _ _ _ _)))))))
        refine wpQuiet_nil ?_
        intro wn hbn
        have hsz := B.size
        have hzn := hbn.size
        replace B := B.trans (hbn.mono B.size)
        try replace r1 := r1.below hbn
        go_wp2
        go_roundw
        case rel => exact ⟨1, by omega, by go_num, B, by omega, r1, fun j hj => by
         obtain rfl : j = 0 := by omega
         exact E.out⟩
        case measure => simp [intOf]; omega
   ·have dlt : decide ((k : Int) < (ls.length : Int)) = false := decide_eq_false (by omega)
    have e1 := Lib.hid (validL_yes (by omega) (fun j hj => Hst.out j (by omega)))
    go_wp2_with (first | (refine wpList_loadAny (t := 32) rfl _ rfl _ _ _ rfl (run_load_sl r1.cell0) (by rfl) ?_; simp only [putS]) | fail)
    go_ret
    exact ⟨by rw [e1.out]; try rfl, B⟩
set_option maxHeartbeats 4000000 in
theorem R_Valid (v : Value) (ls : List TA) (w : World) (h : RS v ls w) (tk : TokL ls) (hn : ls.length ≤ maxLen) : Calls Tryz.prog 76 #[.agg #[v]] w fun e w' => e = .returned (.bool (validL ls)) ∧ Below w.heap.size w w' := by
 unfold maxLen at hn
 obtain ⟨a, c, rfl, hc⟩ := h.len
 have B := Below.refl w.heap.size w
 have HS := Lib.hid h
 have HK := Lib.hid tk
 clear h tk
 by_cases hbig : 1024 < ls.length
 ·rw [validL_big hbig]
  have d1 : decide (1024 < (ls.length : Int)) = true := decide_eq_true (by omega)
  go_enter Tryz.func76, Tryz.ntmps76
  go_wp2_with (first | (refine wpList_loadAny (t := 32) rfl _ rfl _ _ _ rfl (run_load_sl r1.cell0) (by rfl) ?_; simp only [putS]) | (refine wpList_boxB (t := 34) rfl _ rfl _ rfl ?_; intro b_r1 wn hle hge ht hbn hzn; have hsz := B.size; replace B := B.trans (hbn.mono (by omega)); have hln := Nat.lt_of_lt_of_eq (Nat.lt_succ_self _) hzn.symm; clear hzn; (try have hlt := r1.lt); (try replace r1 := r1.below (hbn.mono hle)); (try have hlt := t1.lt); (try replace t1 := t1.below (hbn.mono hle)); (try have hlt := rc.lt); (try replace rc := rc.below (hbn.mono hle)); have r1 := ht; clear ht; simp only [putS]) | fail)
  go_ret
  exact ⟨rfl, B⟩
 ·have d1 : decide (1024 < (ls.length : Int)) = false := decide_eq_false (by omega)
  go_enter Tryz.func76, Tryz.ntmps76
  go_wp2_with (first | (refine wpList_loadAny (t := 32) rfl _ rfl _ _ _ rfl (run_load_sl r1.cell0) (by rfl) ?_; simp only [putS]) | (refine wpList_boxB (t := 34) rfl _ rfl _ rfl ?_; intro b_r1 wn hle hge ht hbn hzn; have hsz := B.size; replace B := B.trans (hbn.mono (by omega)); have hln := Nat.lt_of_lt_of_eq (Nat.lt_succ_self _) hzn.symm; clear hzn; (try have hlt := r1.lt); (try replace r1 := r1.below (hbn.mono hle)); (try have hlt := t1.lt); (try replace t1 := t1.below (hbn.mono hle)); (try have hlt := rc.lt); (try replace rc := rc.below (hbn.mono hle)); have r1 := ht; clear ht; simp only [putS]) | fail)
  clear d1
  have hr1 := r1.lt
  go_loopw [3, 4, 5, 6] (fun i _ _ _ wr => ∃ k : Nat, k ≤ ls.length ∧ i = .int .i64 k ∧ Below w.heap.size w wr ∧ wn.heap.size ≤ wr.heap.size ∧ AtB 34 wr b_r1 #[.slice a ls.length c] ∧ ∀ j, j < k → stepA ls j = true) (fun i _ _ _ _ => (ls.length - intOf i).toNat)
  case atStart => exact ⟨0, by omega, rfl, B, Nat.le_refl _, r1, fun j hj => by omega⟩
  case round =>
   clear B r1
   obtain ⟨k, hk, rfl, B, hwn, r1, hst⟩ := hrel
   have Hst := Lib.hid hst
   clear hst
   by_cases hkl : k < ls.length
   ·obtain ⟨g, o, rfl, rc0⟩ := HS.out.at (by omega)
    have hg0 := rc0.lt
    have rc := rc0.of_eq (B.block _ rc0.lt)
    clear rc0
    obtain ⟨⟨x, y, t⟩, he⟩ : ∃ e, aT ls k = e := ⟨_, rfl⟩
    have htk : Tok t := by have := HK.out.at hkl; rw [he] at this; exact this
    have HT := Lib.hid htk
    obtain ⟨⟨x', y', t'⟩, he'⟩ : ∃ e, aT ls (k - 1) = e := ⟨_, rfl⟩
    have hk1 : k - 1 < ls.length := by omega
    have dlt : decide ((k : Int) < (ls.length : Int)) = true := decide_eq_true (by omega)
    have hneq : ∀ w, (binOp .neq 70 (Tile.v (cleanT t)) (Tile.v t)).run Tryz.prog w = .ok (.bool (!eqT (cleanT t) t)) w := fun w => neq_tile _ _ w
    cases h1 : withinB x y with
    | false =>
     have E := Lib.hid (step_within he h1)
     go_wp2_with (first | (go_at_call 118; refine (R_Zero _ _).mono ?_; rintro e wn ⟨rfl, hbn⟩; have hsz := B.size; have hzn := hbn.size; replace B := B.trans (hbn.mono B.size); (try replace r1 := r1.below hbn); (try replace t1 := t1.below hbn); (try replace rc := rc.below hbn)) | (refine wpList_loadAny (t := 70) rfl _ rfl _ _ _ rfl (ta_tile t1) (by first | rfl | omega) ?_; simp only [putS]) | (refine wpList_storeB (t := 72) rfl _ _ rfl _ rfl _ rfl t1 (by rw [size_taC]; kernel_rfl) (by simp only [size_taC, size_zTA]) (taC_all _) ?_; clear t1; intro wn ht hcn hzn; have hsz := B.size; replace hzn := Nat.le_of_eq hzn.symm; replace B := Chg.below B hcn (by omega) B.size; (try replace r1 := r1.of_eq (hcn.block _ r1.lt (by omega))); (try replace rc := rc.of_eq (hcn.block _ rc.lt (by omega))); have t1 := ht; clear ht; simp only [putS]) | (refine wpList_allocBk (t := 72) rfl _ (run_alloc_TA _ _ rfl) ?_; intro b_t1 wn hle hge ht hbn hzn; have hsz := B.size; replace B := B.trans (hbn.mono (by omega)); have hln := Nat.lt_of_lt_of_eq (Nat.lt_succ_self _) hzn.symm; clear hzn; (try have hlt := r1.lt); (try replace r1 := r1.below (hbn.mono hle)); (try have hlt := t1.lt); (try replace t1 := t1.below (hbn.mono hle)); (try have hlt := rc.lt); (try replace rc := rc.below (hbn.mono hle)); have t1 := ht; clear ht; simp only [putS]) | (refine wpList_loadAny (t := 72) rfl _ rfl _ _ _ rfl (rc_ta rc hkl he) (by first | rfl | omega) ?_; simp only [putS]) | (refine wpList_loadAny (t := 32) rfl _ rfl _ _ _ rfl (run_load_sl r1.cell0) (by rfl) ?_; simp only [putS]) | fail)
     refine wp_region_ov (by kernel_rfl) (by kernel_rfl) ?_
     repeat (first | go_big_quiet_skip | (go_big_quiet_want; first | (refine quiet_loadAny (t := 70) rfl _ _ _ rfl (fun w hw => ta_tile (ov_B t1 w hw)) (by first | rfl | omega) ?_; simp only [putS]; go_big_quiet_on) | (go_big_quiet_op; first | go_big_quiet_on | go_big_quiet_call ((first | (go_at_call 120; exact calls_ov (R_Clean_t _ _ htk)) | (go_at_call 119; exact calls_ov (R_Same _ _ _)))))))
     refine wpQuiet_nil ?_
     intro wn hbn
     have hsz := B.size
     have hzn := hbn.size
     replace B := B.trans (hbn.mono B.size)
     try replace r1 := r1.below hbn
     try replace t1 := t1.below hbn
     try replace rc := rc.below hbn
     go_wp2
     refine wp_region_ov (by kernel_rfl) (by kernel_rfl) ?_
     repeat (first | go_big_quiet_skip | (go_big_quiet_want; first | (refine quiet_loadAny (t := 68) rfl _ _ _ rfl (fun w hw => ta_pos (ov_B t1 w hw)) (by first | rfl | omega) ?_; simp only [putS]; go_big_quiet_on) | (refine quiet_loadAny (t := 32) rfl _ _ _ rfl (fun w hw => run_load_sl (ov_B r1 w hw).cell0) (by rfl) ?_; simp only [putS]; go_big_quiet_on) | (refine quiet_loadAny (t := 68) rfl _ _ _ rfl (fun w hw => rc_pos (ov_rc rc w hw) hk1 he') (by first | rfl | omega) ?_; simp only [putS]; go_big_quiet_on) | (go_big_quiet_op; first | go_big_quiet_on | go_big_quiet_call ((first | (go_at_call 111; exact calls_ov (R_within _ _ _)) | (go_at_call 121; exact calls_ov (R_less _ _ _ _ _)))))))
     refine wpQuiet_nil ?_
     intro wn hbn
     have hsz := B.size
     have hzn := hbn.size
     replace B := B.trans (hbn.mono B.size)
     try replace r1 := r1.below hbn
     try replace t1 := t1.below hbn
     try replace rc := rc.below hbn
     go_wp2
     go_ret
     exact ⟨by rw [validL_no hkl E.out]; try rfl, B⟩
    | true =>
     cases h2 : zeroB t with
     | true =>
      have E := Lib.hid (step_zero he h2)
      go_wp2_with (first | (go_at_call 118; refine (R_Zero _ _).mono ?_; rintro e wn ⟨rfl, hbn⟩; have hsz := B.size; have hzn := hbn.size; replace B := B.trans (hbn.mono B.size); (try replace r1 := r1.below hbn); (try replace t1 := t1.below hbn); (try replace rc := rc.below hbn)) | (refine wpList_loadAny (t := 70) rfl _ rfl _ _ _ rfl (ta_tile t1) (by first | rfl | omega) ?_; simp only [putS]) | (refine wpList_storeB (t := 72) rfl _ _ rfl _ rfl _ rfl t1 (by rw [size_taC]; kernel_rfl) (by simp only [size_taC, size_zTA]) (taC_all _) ?_; clear t1; intro wn ht hcn hzn; have hsz := B.size; replace hzn := Nat.le_of_eq hzn.symm; replace B := Chg.below B hcn (by omega) B.size; (try replace r1 := r1.of_eq (hcn.block _ r1.lt (by omega))); (try replace rc := rc.of_eq (hcn.block _ rc.lt (by omega))); have t1 := ht; clear ht; simp only [putS]) | (refine wpList_allocBk (t := 72) rfl _ (run_alloc_TA _ _ rfl) ?_; intro b_t1 wn hle hge ht hbn hzn; have hsz := B.size; replace B := B.trans (hbn.mono (by omega)); have hln := Nat.lt_of_lt_of_eq (Nat.lt_succ_self _) hzn.symm; clear hzn; (try have hlt := r1.lt); (try replace r1 := r1.below (hbn.mono hle)); (try have hlt := t1.lt); (try replace t1 := t1.below (hbn.mono hle)); (try have hlt := rc.lt); (try replace rc := rc.below (hbn.mono hle)); have t1 := ht; clear ht; simp only [putS]) | (refine wpList_loadAny (t := 72) rfl _ rfl _ _ _ rfl (rc_ta rc hkl he) (by first | rfl | omega) ?_; simp only [putS]) | (refine wpList_loadAny (t := 32) rfl _ rfl _ _ _ rfl (run_load_sl r1.cell0) (by rfl) ?_; simp only [putS]) | fail)
      refine wp_region_ov (by kernel_rfl) (by kernel_rfl) ?_
      repeat (first | go_big_quiet_skip | (go_big_quiet_want; first | (refine quiet_loadAny (t := 70) rfl _ _ _ rfl (fun w hw => ta_tile (ov_B t1 w hw)) (by first | rfl | omega) ?_; simp only [putS]; go_big_quiet_on) | (go_big_quiet_op; first | go_big_quiet_on | go_big_quiet_call ((first | (go_at_call 120; exact calls_ov (R_Clean_t _ _ htk)) | (go_at_call 119; exact calls_ov (R_Same _ _ _)))))))
      refine wpQuiet_nil ?_
      intro wn hbn
      have hsz := B.size
      have hzn := hbn.size
      replace B := B.trans (hbn.mono B.size)
      try replace r1 := r1.below hbn
      try replace t1 := t1.below hbn
      try replace rc := rc.below hbn
      go_wp2
      refine wp_region_ov (by kernel_rfl) (by kernel_rfl) ?_
      repeat (first | go_big_quiet_skip | (go_big_quiet_want; first | (refine quiet_loadAny (t := 68) rfl _ _ _ rfl (fun w hw => ta_pos (ov_B t1 w hw)) (by first | rfl | omega) ?_; simp only [putS]; go_big_quiet_on) | (refine quiet_loadAny (t := 32) rfl _ _ _ rfl (fun w hw => run_load_sl (ov_B r1 w hw).cell0) (by rfl) ?_; simp only [putS]; go_big_quiet_on) | (refine quiet_loadAny (t := 68) rfl _ _ _ rfl (fun w hw => rc_pos (ov_rc rc w hw) hk1 he') (by first | rfl | omega) ?_; simp only [putS]; go_big_quiet_on) | (go_big_quiet_op; first | go_big_quiet_on | go_big_quiet_call ((first | (go_at_call 111; exact calls_ov (R_within _ _ _)) | (go_at_call 121; exact calls_ov (R_less _ _ _ _ _)))))))
      refine wpQuiet_nil ?_
      intro wn hbn
      have hsz := B.size
      have hzn := hbn.size
      replace B := B.trans (hbn.mono B.size)
      try replace r1 := r1.below hbn
      try replace t1 := t1.below hbn
      try replace rc := rc.below hbn
      go_wp2
      go_ret
      exact ⟨by rw [validL_no hkl E.out]; try rfl, B⟩
     | false =>
      cases h3 : eqT (cleanT t) t with
      | false =>
       have E := Lib.hid (step_clean he h3)
       go_wp2_with (first | (go_at_call 118; refine (R_Zero _ _).mono ?_; rintro e wn ⟨rfl, hbn⟩; have hsz := B.size; have hzn := hbn.size; replace B := B.trans (hbn.mono B.size); (try replace r1 := r1.below hbn); (try replace t1 := t1.below hbn); (try replace rc := rc.below hbn)) | (refine wpList_loadAny (t := 70) rfl _ rfl _ _ _ rfl (ta_tile t1) (by first | rfl | omega) ?_; simp only [putS]) | (refine wpList_storeB (t := 72) rfl _ _ rfl _ rfl _ rfl t1 (by rw [size_taC]; kernel_rfl) (by simp only [size_taC, size_zTA]) (taC_all _) ?_; clear t1; intro wn ht hcn hzn; have hsz := B.size; replace hzn := Nat.le_of_eq hzn.symm; replace B := Chg.below B hcn (by omega) B.size; (try replace r1 := r1.of_eq (hcn.block _ r1.lt (by omega))); (try replace rc := rc.of_eq (hcn.block _ rc.lt (by omega))); have t1 := ht; clear ht; simp only [putS]) | (refine wpList_allocBk (t := 72) rfl _ (run_alloc_TA _ _ rfl) ?_; intro b_t1 wn hle hge ht hbn hzn; have hsz := B.size; replace B := B.trans (hbn.mono (by omega)); have hln := Nat.lt_of_lt_of_eq (Nat.lt_succ_self _) hzn.symm; clear hzn; (try have hlt := r1.lt); (try replace r1 := r1.below (hbn.mono hle)); (try have hlt := t1.lt); (try replace t1 := t1.below (hbn.mono hle)); (try have hlt := rc.lt); (try replace rc := rc.below (hbn.mono hle)); have t1 := ht; clear ht; simp only [putS]) | (refine wpList_loadAny (t := 72) rfl _ rfl _ _ _ rfl (rc_ta rc hkl he) (by first | rfl | omega) ?_; simp only [putS]) | (refine wpList_loadAny (t := 32) rfl _ rfl _ _ _ rfl (run_load_sl r1.cell0) (by rfl) ?_; simp only [putS]) | fail)
       refine wp_region_ov (by kernel_rfl) (by kernel_rfl) ?_
       repeat (first | go_big_quiet_skip | (go_big_quiet_want; first | (refine quiet_loadAny (t := 70) rfl _ _ _ rfl (fun w hw => ta_tile (ov_B t1 w hw)) (by first | rfl | omega) ?_; simp only [putS]; go_big_quiet_on) | (go_big_quiet_op; first | go_big_quiet_on | go_big_quiet_call ((first | (go_at_call 120; exact calls_ov (R_Clean_t _ _ htk)) | (go_at_call 119; exact calls_ov (R_Same _ _ _)))))))
       refine wpQuiet_nil ?_
       intro wn hbn
       have hsz := B.size
       have hzn := hbn.size
       replace B := B.trans (hbn.mono B.size)
       try replace r1 := r1.below hbn
       try replace t1 := t1.below hbn
       try replace rc := rc.below hbn
       go_wp2
       refine wp_region_ov (by kernel_rfl) (by kernel_rfl) ?_
       repeat (first | go_big_quiet_skip | (go_big_quiet_want; first | (refine quiet_loadAny (t := 68) rfl _ _ _ rfl (fun w hw => ta_pos (ov_B t1 w hw)) (by first | rfl | omega) ?_; simp only [putS]; go_big_quiet_on) | (refine quiet_loadAny (t := 32) rfl _ _ _ rfl (fun w hw => run_load_sl (ov_B r1 w hw).cell0) (by rfl) ?_; simp only [putS]; go_big_quiet_on) | (refine quiet_loadAny (t := 68) rfl _ _ _ rfl (fun w hw => rc_pos (ov_rc rc w hw) hk1 he') (by first | rfl | omega) ?_; simp only [putS]; go_big_quiet_on) | (go_big_quiet_op; first | go_big_quiet_on | go_big_quiet_call ((first | (go_at_call 111; exact calls_ov (R_within _ _ _)) | (go_at_call 121; exact calls_ov (R_less _ _ _ _ _)))))))
       refine wpQuiet_nil ?_
       intro wn hbn
       have hsz := B.size
       have hzn := hbn.size
       replace B := B.trans (hbn.mono B.size)
       try replace r1 := r1.below hbn
       try replace t1 := t1.below hbn
       try replace rc := rc.below hbn
       go_wp2
       go_ret
       exact ⟨by rw [validL_no hkl E.out]; try rfl, B⟩
      | true =>
       by_cases hk0 : 0 < k
       ·have E := Lib.hid (step_less hk0 he he' h1 h2 h3)
        have d3 : decide ((0 : Int) < (k : Int)) = true := decide_eq_true (by omega)
        have d4 : decide (0 < k) = true := decide_eq_true hk0
        cases h4 : lessB x' y' x y with
        | false =>
         have hO : decide (0 ≤ ordI x' y' x y) = true := by rw [ordI_ge, h4]; rfl
         go_wp2_with (first | (go_at_call 118; refine (R_Zero _ _).mono ?_; rintro e wn ⟨rfl, hbn⟩; have hsz := B.size; have hzn := hbn.size; replace B := B.trans (hbn.mono B.size); (try replace r1 := r1.below hbn); (try replace t1 := t1.below hbn); (try replace rc := rc.below hbn)) | (refine wpList_loadAny (t := 70) rfl _ rfl _ _ _ rfl (ta_tile t1) (by first | rfl | omega) ?_; simp only [putS]) | (refine wpList_storeB (t := 72) rfl _ _ rfl _ rfl _ rfl t1 (by rw [size_taC]; kernel_rfl) (by simp only [size_taC, size_zTA]) (taC_all _) ?_; clear t1; intro wn ht hcn hzn; have hsz := B.size; replace hzn := Nat.le_of_eq hzn.symm; replace B := Chg.below B hcn (by omega) B.size; (try replace r1 := r1.of_eq (hcn.block _ r1.lt (by omega))); (try replace rc := rc.of_eq (hcn.block _ rc.lt (by omega))); have t1 := ht; clear ht; simp only [putS]) | (refine wpList_allocBk (t := 72) rfl _ (run_alloc_TA _ _ rfl) ?_; intro b_t1 wn hle hge ht hbn hzn; have hsz := B.size; replace B := B.trans (hbn.mono (by omega)); have hln := Nat.lt_of_lt_of_eq (Nat.lt_succ_self _) hzn.symm; clear hzn; (try have hlt := r1.lt); (try replace r1 := r1.below (hbn.mono hle)); (try have hlt := t1.lt); (try replace t1 := t1.below (hbn.mono hle)); (try have hlt := rc.lt); (try replace rc := rc.below (hbn.mono hle)); have t1 := ht; clear ht; simp only [putS]) | (refine wpList_loadAny (t := 72) rfl _ rfl _ _ _ rfl (rc_ta rc hkl he) (by first | rfl | omega) ?_; simp only [putS]) | (refine wpList_loadAny (t := 32) rfl _ rfl _ _ _ rfl (run_load_sl r1.cell0) (by rfl) ?_; simp only [putS]) | fail)
         refine wp_region_ov (by kernel_rfl) (by kernel_rfl) ?_
         repeat (first | go_big_quiet_skip | (go_big_quiet_want; first | (refine quiet_loadAny (t := 70) rfl _ _ _ rfl (fun w hw => ta_tile (ov_B t1 w hw)) (by first | rfl | omega) ?_; simp only [putS]; go_big_quiet_on) | (go_big_quiet_op; first | go_big_quiet_on | go_big_quiet_call ((first | (go_at_call 120; exact calls_ov (R_Clean_t _ _ htk)) | (go_at_call 119; exact calls_ov (R_Same _ _ _)))))))
         refine wpQuiet_nil ?_
         intro wn hbn
         have hsz := B.size
         have hzn := hbn.size
         replace B := B.trans (hbn.mono B.size)
         try replace r1 := r1.below hbn
         try replace t1 := t1.below hbn
         try replace rc := rc.below hbn
         go_wp2
         refine wp_region_ov (by kernel_rfl) (by kernel_rfl) ?_
         repeat (first | go_big_quiet_skip | (go_big_quiet_want; first | (refine quiet_loadAny (t := 68) rfl _ _ _ rfl (fun w hw => ta_pos (ov_B t1 w hw)) (by first | rfl | omega) ?_; simp only [putS]; go_big_quiet_on) | (refine quiet_loadAny (t := 32) rfl _ _ _ rfl (fun w hw => run_load_sl (ov_B r1 w hw).cell0) (by rfl) ?_; simp only [putS]; go_big_quiet_on) | (refine quiet_loadAny (t := 68) rfl _ _ _ rfl (fun w hw => rc_pos (ov_rc rc w hw) hk1 he') (by first | rfl | omega) ?_; simp only [putS]; go_big_quiet_on) | (go_big_quiet_op; first | go_big_quiet_on | go_big_quiet_call ((first | (go_at_call 111; exact calls_ov (R_within _ _ _)) | (go_at_call 121; exact calls_ov (R_less _ _ _ _ _)))))))
         refine wpQuiet_nil ?_
         intro wn hbn
         have hsz := B.size
         have hzn := hbn.size
         replace B := B.trans (hbn.mono B.size)
         try replace r1 := r1.below hbn
         try replace t1 := t1.below hbn
         try replace rc := rc.below hbn
         go_wp2
         go_ret
         exact ⟨by rw [validL_no hkl (E.out.trans h4)]; try rfl, B⟩
        | true =>
         have hO : decide (0 ≤ ordI x' y' x y) = false := by rw [ordI_ge, h4]; rfl
         go_wp2_with (first | (go_at_call 118; refine (R_Zero _ _).mono ?_; rintro e wn ⟨rfl, hbn⟩; have hsz := B.size; have hzn := hbn.size; replace B := B.trans (hbn.mono B.size); (try replace r1 := r1.below hbn); (try replace t1 := t1.below hbn); (try replace rc := rc.below hbn)) | (refine wpList_loadAny (t := 70) rfl _ rfl _ _ _ rfl (ta_tile t1) (by first | rfl | omega) ?_; simp only [putS]) | (refine wpList_storeB (t := 72) rfl _ _ rfl _ rfl _ rfl t1 (by rw [size_taC]; kernel_rfl) (by simp only [size_taC, size_zTA]) (taC_all _) ?_; clear t1; intro wn ht hcn hzn; have hsz := B.size; replace hzn := Nat.le_of_eq hzn.symm; replace B := Chg.below B hcn (by omega) B.size; (try replace r1 := r1.of_eq (hcn.block _ r1.lt (by omega))); (try replace rc := rc.of_eq (hcn.block _ rc.lt (by omega))); have t1 := ht; clear ht; simp only [putS]) | (refine wpList_allocBk (t := 72) rfl _ (run_alloc_TA _ _ rfl) ?_; intro b_t1 wn hle hge ht hbn hzn; have hsz := B.size; replace B := B.trans (hbn.mono (by omega)); have hln := Nat.lt_of_lt_of_eq (Nat.lt_succ_self _) hzn.symm; clear hzn; (try have hlt := r1.lt); (try replace r1 := r1.below (hbn.mono hle)); (try have hlt := t1.lt); (try replace t1 := t1.below (hbn.mono hle)); (try have hlt := rc.lt); (try replace rc := rc.below (hbn.mono hle)); have t1 := ht; clear ht; simp only [putS]) | (refine wpList_loadAny (t := 72) rfl _ rfl _ _ _ rfl (rc_ta rc hkl he) (by first | rfl | omega) ?_; simp only [putS]) | (refine wpList_loadAny (t := 32) rfl _ rfl _ _ _ rfl (run_load_sl r1.cell0) (by rfl) ?_; simp only [putS]) | fail)
         refine wp_region_ov (by kernel_rfl) (by kernel_rfl) ?_
         repeat (first | go_big_quiet_skip | (go_big_quiet_want; first | (refine quiet_loadAny (t := 70) rfl _ _ _ rfl (fun w hw => ta_tile (ov_B t1 w hw)) (by first | rfl | omega) ?_; simp only [putS]; go_big_quiet_on) | (go_big_quiet_op; first | go_big_quiet_on | go_big_quiet_call ((first | (go_at_call 120; exact calls_ov (R_Clean_t _ _ htk)) | (go_at_call 119; exact calls_ov (R_Same _ _ _)))))))
         refine wpQuiet_nil ?_
         intro wn hbn
         have hsz := B.size
         have hzn := hbn.size
         replace B := B.trans (hbn.mono B.size)
         try replace r1 := r1.below hbn
         try replace t1 := t1.below hbn
         try replace rc := rc.below hbn
         go_wp2
         refine wp_region_ov (by kernel_rfl) (by kernel_rfl) ?_
         repeat (first | go_big_quiet_skip | (go_big_quiet_want; first | (refine quiet_loadAny (t := 68) rfl _ _ _ rfl (fun w hw => ta_pos (ov_B t1 w hw)) (by first | rfl | omega) ?_; simp only [putS]; go_big_quiet_on) | (refine quiet_loadAny (t := 32) rfl _ _ _ rfl (fun w hw => run_load_sl (ov_B r1 w hw).cell0) (by rfl) ?_; simp only [putS]; go_big_quiet_on) | (refine quiet_loadAny (t := 68) rfl _ _ _ rfl (fun w hw => rc_pos (ov_rc rc w hw) hk1 he') (by first | rfl | omega) ?_; simp only [putS]; go_big_quiet_on) | (go_big_quiet_op; first | go_big_quiet_on | go_big_quiet_call ((first | (go_at_call 111; exact calls_ov (R_within _ _ _)) | (go_at_call 121; exact calls_ov (R_less _ _ _ _ _)))))))
         refine wpQuiet_nil ?_
         intro wn hbn
         have hsz := B.size
         have hzn := hbn.size
         replace B := B.trans (hbn.mono B.size)
         try replace r1 := r1.below hbn
         try replace t1 := t1.below hbn
         try replace rc := rc.below hbn
         go_wp2
         go_roundw
         case rel => exact ⟨k + 1, by omega, by go_num, B, by omega, r1, fun j hj => by
          by_cases e : j = k
          ·rw [e, E.out, h4]
          ·exact Hst.out j (by omega)⟩
         case measure => simp [intOf]; omega
       ·obtain rfl : k = 0 := by omega
        have E := Lib.hid (step_first he h1 h2 h3)
        go_wp2_with (first | (go_at_call 118; refine (R_Zero _ _).mono ?_; rintro e wn ⟨rfl, hbn⟩; have hsz := B.size; have hzn := hbn.size; replace B := B.trans (hbn.mono B.size); (try replace r1 := r1.below hbn); (try replace t1 := t1.below hbn); (try replace rc := rc.below hbn)) | (refine wpList_loadAny (t := 70) rfl _ rfl _ _ _ rfl (ta_tile t1) (by first | rfl | omega) ?_; simp only [putS]) | (refine wpList_storeB (t := 72) rfl _ _ rfl _ rfl _ rfl t1 (by rw [size_taC]; kernel_rfl) (by simp only [size_taC, size_zTA]) (taC_all _) ?_; clear t1; intro wn ht hcn hzn; have hsz := B.size; replace hzn := Nat.le_of_eq hzn.symm; replace B := Chg.below B hcn (by omega) B.size; (try replace r1 := r1.of_eq (hcn.block _ r1.lt (by omega))); (try replace rc := rc.of_eq (hcn.block _ rc.lt (by omega))); have t1 := ht; clear ht; simp only [putS]) | (refine wpList_allocBk (t := 72) rfl _ (run_alloc_TA _ _ rfl) ?_; intro b_t1 wn hle hge ht hbn hzn; have hsz := B.size; replace B := B.trans (hbn.mono (by omega)); have hln := Nat.lt_of_lt_of_eq (Nat.lt_succ_self _) hzn.symm; clear hzn; (try have hlt := r1.lt); (try replace r1 := r1.below (hbn.mono hle)); (try have hlt := t1.lt); (try replace t1 := t1.below (hbn.mono hle)); (try have hlt := rc.lt); (try replace rc := rc.below (hbn.mono hle)); have t1 := ht; clear ht; simp only [putS]) | (refine wpList_loadAny (t := 72) rfl _ rfl _ _ _ rfl (rc_ta rc hkl he) (by first | rfl | omega) ?_; simp only [putS]) | (refine wpList_loadAny (t := 32) rfl _ rfl _ _ _ rfl (run_load_sl r1.cell0) (by rfl) ?_; simp only [putS]) | fail)
        refine wp_region_ov (by kernel_rfl) (by kernel_rfl) ?_
        repeat (first | go_big_quiet_skip | (go_big_quiet_want; first | (refine quiet_loadAny (t := 70) rfl _ _ _ rfl (fun w hw => ta_tile (ov_B t1 w hw)) (by first | rfl | omega) ?_; simp only [putS]; go_big_quiet_on) | (go_big_quiet_op; first | go_big_quiet_on | go_big_quiet_call ((first | (go_at_call 120; exact calls_ov (R_Clean_t _ _ htk)) | (go_at_call 119; exact calls_ov (R_Same _ _ _)))))))
        refine wpQuiet_nil ?_
        intro wn hbn
        have hsz := B.size
        have hzn := hbn.size
        replace B := B.trans (hbn.mono B.size)
        try replace r1 := r1.below hbn
        try replace t1 := t1.below hbn
        try replace rc := rc.below hbn
        go_wp2
        refine wp_region_ov (by kernel_rfl) (by kernel_rfl) ?_
        repeat (first | go_big_quiet_skip | (go_big_quiet_want; first | (refine quiet_loadAny (t := 68) rfl _ _ _ rfl (fun w hw => ta_pos (ov_B t1 w hw)) (by first | rfl | omega) ?_; simp only [putS]; go_big_quiet_on) | (refine quiet_loadAny (t := 32) rfl _ _ _ rfl (fun w hw => run_load_sl (ov_B r1 w hw).cell0) (by rfl) ?_; simp only [putS]; go_big_quiet_on) | (refine quiet_loadAny (t := 68) rfl _ _ _ rfl (fun w hw => rc_pos (ov_rc rc w hw) hk1 he') (by first | rfl | omega) ?_; simp only [putS]; go_big_quiet_on) | (go_big_quiet_op; first | go_big_quiet_on | go_big_quiet_call ((first | (go_at_call 111; exact calls_ov (R_within _ _ _)) | (go_at_call 121; exact calls_ov (R_less _ _ _ _ _)))))))
        refine wpQuiet_nil ?_
        intro wn hbn
        have hsz := B.size
        have hzn := hbn.size
        replace B := B.trans (hbn.mono B.size)
        try replace r1 := r1.below hbn
        go_wp2
        go_roundw
        case rel => exact ⟨1, by omega, by go_num, B, by omega, r1, fun j hj => by
         obtain rfl : j = 0 := by omega
         exact E.out⟩
        case measure => simp [intOf]; omega
   ·have dlt : decide ((k : Int) < (ls.length : Int)) = false := decide_eq_false (by omega)
    have e1 := Lib.hid (validL_yes (by omega) (fun j hj => Hst.out j (by omega)))
    go_wp2_with (first | (refine wpList_loadAny (t := 32) rfl _ rfl _ _ _ rfl (run_load_sl r1.cell0) (by rfl) ?_; simp only [putS]) | fail)
    go_ret
    exact ⟨by rw [e1.out]; try rfl, B⟩
/- Boxing and making, with a name for the new block. -/
section
variable {ops : Array Oper} {rest : List Oper} {o : Oper} {a : Act} {w : World} {Q : Exit → Act → World → Prop}
theorem wpList_boxT' (hg : o.guard = none) (x : Operand) (ho : o.op = .box 70 x) (f : Nat → Px) (hx : a.eval x = Tile.v f)
  (h : ∀ b w', w.heap.size ≤ b → b ≤ w.heap.size → TileAt w' b f → Below b w w' → w'.heap.size = b + 1 → wpList Tryz.prog ops Q rest (a.put o.dst (.pointer (some ⟨b, 0, none⟩))) w') : wpList Tryz.prog ops Q (o :: rest) a w :=
 wpList_boxT hg x ho f hx fun w' h1 h2 h3 => h _ w' (Nat.le_refl _) (Nat.le_refl _) h1 h2 h3
theorem wpList_boxPx' (hg : o.guard = none) (x : Operand) (ho : o.op = .box 25 x) (p : Px) (hx : a.eval x = Px.v p)
  (h : ∀ b w', w.heap.size ≤ b → b ≤ w.heap.size → PixAt w' b p → Below b w w' → w'.heap.size = b + 1 → wpList Tryz.prog ops Q rest (a.put o.dst (.pointer (some ⟨b, 0, none⟩))) w') : wpList Tryz.prog ops Q (o :: rest) a w :=
 wpList_boxPx hg x ho p hx fun w' h1 h2 h3 => h _ w' (Nat.le_refl _) (Nat.le_refl _) h1 h2 h3
theorem wpList_allocT' (hg : o.guard = none) (ho : o.op = .alloc 70)
  (h : ∀ b w', w.heap.size ≤ b → b ≤ w.heap.size → TileAt w' b (fun _ => Px.zero) → Below b w w' → w'.heap.size = b + 1 → wpList Tryz.prog ops Q rest (a.put o.dst (.pointer (some ⟨b, 0, none⟩))) w') : wpList Tryz.prog ops Q (o :: rest) a w :=
 wpList_allocT hg ho fun w' h1 h2 h3 => h _ w' (Nat.le_refl _) (Nat.le_refl _) h1 h2 h3
theorem wpList_allocPx' (hg : o.guard = none) (ho : o.op = .alloc 25)
  (h : ∀ b w', w.heap.size ≤ b → b ≤ w.heap.size → PixAt w' b Px.zero → Below b w w' → w'.heap.size = b + 1 → wpList Tryz.prog ops Q rest (a.put o.dst (.pointer (some ⟨b, 0, none⟩))) w') : wpList Tryz.prog ops Q (o :: rest) a w :=
 wpList_allocPx hg ho fun w' h1 h2 h3 => h _ w' (Nat.le_refl _) (Nat.le_refl _) h1 h2 h3
end
end Go.Proofs.YtamgpfblhlfhaaaGreat
/- Contracts of Tile and Get of package raster and of its reference; '&' with a mask; '==' of positions. -/
namespace Go.Proofs.YtamgpfblhlfhaaaGreat
open Go.RowKit Go.Shelf Pl
set_option linter.unusedVariables false
set_option linter.unusedSimpArgs false
set_option maxRecDepth 20000
/-- '&' with 2^n - 1. -/
theorem bits_mask (x : Int) (n : Nat) (m : Nat) (hm : m = 2 ^ n - 1) (hn : n ≤ 32) : bits .and .i64 x (m : Int) = x % (((m + 1 : Nat)) : Int) := by
 have e : bits .and .i64 x (m : Int) = IntKind.i64.wrap ((BitVec.ofInt 64 x &&& BitVec.ofInt 64 (m : Int)).toNat : Int) := rfl
 have h1 : (2 : Nat) ^ n ≤ 2 ^ 32 := Nat.pow_le_pow_right (by omega) hn
 have h0 : 1 ≤ (2 : Nat) ^ n := Nat.one_le_two_pow
 have hm1 : m + 1 = 2 ^ n := by omega
 have hml : m < 2 ^ 32 := by omega
 have e2 : (BitVec.ofInt 64 (m : Int)).toNat = m := by
  rw [BitVec.toNat_ofInt]
  have h3 : (2 : Nat) ^ 32 = 4294967296 := rfl
  have h4 : ((2 : Nat) ^ 64 : Nat) = 18446744073709551616 := rfl
  rw [h4]
  omega
 have e3 : (BitVec.ofInt 64 x &&& BitVec.ofInt 64 (m : Int)).toNat = (BitVec.ofInt 64 x).toNat % 2 ^ n := by
  rw [BitVec.toNat_and, e2, hm, Nat.and_two_pow_sub_one_eq_mod]
 have e4 : (((BitVec.ofInt 64 x).toNat % 2 ^ n : Nat) : Int) = x % ((2 ^ n : Nat) : Int) := by
  rw [BitVec.toNat_ofInt]
  have hd : ((2 ^ n : Nat) : Int) ∣ ((2 ^ 64 : Nat) : Int) := by
   refine Int.natCast_dvd_natCast.2 ?_
   exact Nat.pow_dvd_pow 2 (by omega)
  have hpos : (0 : Int) < ((2 ^ 64 : Nat) : Int) := by
   have : (0 : Nat) < 2 ^ 64 := by decide
   omega
  have hnn : 0 ≤ x % ((2 ^ 64 : Nat) : Int) := Int.emod_nonneg _ (by omega)
  rw [Int.natCast_emod, Int.toNat_of_nonneg hnn, Int.emod_emod_of_dvd _ hd]
 have hkl : (BitVec.ofInt 64 x).toNat % 2 ^ n < 2 ^ n := Nat.mod_lt _ (by omega)
 rw [e, e3, IntKind.wrap_i64, hm1, ← e4]
 have h3 : (2 : Nat) ^ 32 = 4294967296 := rfl
 rw [h3] at h1
 generalize (BitVec.ofInt 64 x).toNat % 2 ^ n = z at hkl ⊢
 generalize (2 : Nat) ^ n = y at *
 omega
theorem bits_and7 (x : Int) : bits .and .i64 x 7 = x % 8 := bits_mask x 3 7 rfl (by decide)
/-! ### '==' of positions -/
theorem equalIn_pos (d : Nat) (x y x' y' : Int) (w : World) : (Op.equalIn (d + 2) 68 (Ps.v x y) (Ps.v x' y')).run Tryz.prog w = .ok (eqB x y x' y') w := by
 have h : (Op.equalIn (d + 2) 68 (Ps.v x y) (Ps.v x' y')).run Tryz.prog w = .ok (x == x' && y == y') w := by
  simp only [Ps.v]
  by_cases h1 : x = x' <;> by_cases h2 : y = y' <;> simp [go_sem, h1, h2]
 rw [h]
 congr 1
 unfold eqB
 rw [Bool.eq_iff_iff]
 simp
theorem eql_pos (x y x' y' : Int) (w : World) : (binOp .eql 68 (Ps.v x y) (Ps.v x' y')).run Tryz.prog w = .ok (.bool (eqB x y x' y')) w := by
 have h := run_eql_struct (P := Tryz.prog) w 68 #[.int .i64 x, .int .i64 y] #[.int .i64 x', .int .i64 y']
 have e := equalIn_pos 9998 x y x' y' w
 unfold Ps.v at e ⊢
 rw [h, e]; rfl
theorem neq_pos (x y x' y' : Int) (w : World) : (binOp .neq 68 (Ps.v x y) (Ps.v x' y')).run Tryz.prog w = .ok (.bool (!eqB x y x' y')) w := by
 have h := run_neq_struct (P := Tryz.prog) w 68 #[.int .i64 x, .int .i64 y] #[.int .i64 x', .int .i64 y']
 have e := equalIn_pos 9998 x y x' y' w
 unfold Ps.v at e ⊢
 rw [h, e]; rfl
@[go_sem] theorem guard_pos (op : BinOp) (p q : Operand) (x y x' y' : Int) (w : World) : (eqGuard op 68 p q (Ps.v x y) (Ps.v x' y')).run Tryz.prog w = .ok () w := run_eqGuard_agg w op 68 p q _ _ (by kernel_rfl)
@[go_sem] theorem guard_pos1 (op : BinOp) (p q : Operand) (x y : Int) (cs : Array Value) (w : World) : (eqGuard op 68 p q (Ps.v x y) (.agg cs)).run Tryz.prog w = .ok () w := run_eqGuard_agg w op 68 p q _ _ (by kernel_rfl)
theorem ov_rs {v : Value} {ls : List TA} {w : World} (h : RS v ls w) : ∀ w', (∃ u, w' = ov w u) → RS v ls w' := by
 rintro w' ⟨u, rfl⟩
 exact h.below (ov_below w u)
/-! ### Tile -/
theorem P_Tile1 (e : TA) (x y : Int) (b : Nat) (w : World) (p1 : AtB 68 w b #[.int .i64 x, .int .i64 y]) : Calls Tryz.prog 86 #[.agg (taC e), .pointer (some ⟨b, 0, none⟩)] w fun e' w' => e' = .returned (.bool (eqB e.x e.y x y)) ∧ Below w.heap.size w w' := by
 have B := Below.refl w.heap.size w
 have hb0 := p1.lt
 have heq : ∀ w, (binOp .eql 68 (Ps.v e.x e.y) (.agg #[.int .i64 x, .int .i64 y])).run Tryz.prog w = .ok (.bool (eqB e.x e.y x y)) w := fun w => eql_pos _ _ _ _ w
 go_enter Tryz.func86, Tryz.ntmps86
 go_wp2_with (first | (refine wpList_loadAny (t := 68) rfl _ rfl _ _ _ rfl (ta_pos t1) (by first | rfl | omega) ?_; simp only [putS]) | (refine wpList_loadAny (t := 68) rfl _ rfl _ _ _ rfl (run_load_B p1 Tryz.isAgg68 (by kernel_rfl)) (by rfl) ?_; simp only [putS]) | (refine wpList_boxB (t := 72) rfl _ rfl _ rfl ?_; intro b_t1 wn hle hge ht hbn hzn; have hsz := B.size; replace B := B.trans (hbn.mono (by omega)); have hln := Nat.lt_of_lt_of_eq (Nat.lt_succ_self _) hzn.symm; clear hzn; (try have hlt := t1.lt); (try replace t1 := t1.below (hbn.mono hle)); (try have hlt := p1.lt); (try replace p1 := p1.below (hbn.mono hle)); have t1 := ht; clear ht; simp only [putS]) | fail)
 go_ret
 exact ⟨rfl, B⟩
set_option maxHeartbeats 1000000 in
theorem P_IndexFunc (v : Value) (ls : List TA) (x y : Int) (b : Nat) (w : World) (h : RS v ls w) (hn : ls.length ≤ maxLen) (p1 : AtB 68 w b #[.int .i64 x, .int .i64 y]) : Calls Tryz.prog 85 #[v, .func (.func 86) #[] #[.pointer (some ⟨b, 0, none⟩)]] w fun e w' => e = .returned (.int .i64 (if idxL ls x y < ls.length then (idxL ls x y : Int) else -1)) ∧ Below w.heap.size w w' := by
 unfold maxLen at hn
 obtain ⟨a, c, rfl, hc⟩ := h.len
 have B := Below.refl w.heap.size w
 have HS := Lib.hid h
 have P1 := Lib.hid p1
 have hle := idxL_le ls x y
 have eg := enters_of Tryz.func86 (by kernel_rfl) rfl
 clear h p1
 go_enter Tryz.func85, Tryz.ntmps85
 go_wp2
 go_loopw [5, 8] (fun _ i wr => ∃ k : Nat, k ≤ idxL ls x y ∧ i = .int .i64 k ∧ Below w.heap.size w wr) (fun _ i _ => (ls.length - intOf i).toNat)
 case atStart => exact ⟨0, by omega, rfl, B⟩
 case round =>
  clear B
  obtain ⟨k, hk, rfl, B⟩ := hrel
  have p1 := P1.out.of_eq (B.block _ P1.out.lt)
  by_cases hkl : k < ls.length
  ·obtain ⟨g, o, rfl, rc0⟩ := HS.out.at (by omega)
   have rc := rc0.of_eq (B.block _ rc0.lt)
   clear rc0
   obtain ⟨e, he⟩ : ∃ e, aT ls k = e := ⟨_, rfl⟩
   by_cases hki : k < idxL ls x y
   ·have hq : eqB e.x e.y x y = false := by have := idxL_lt hki; rw [he] at this; exact this
    go_wp2_with (first | (go_at_call 86; refine (P_Tile1 e x y b _ p1).mono ?_; rintro e' wn ⟨rfl, hbn⟩; replace B := B.trans (hbn.mono B.size)) | (refine wpList_loadAny (t := 72) rfl _ rfl _ _ _ rfl (rc_ta rc hkl he) (by first | rfl | omega) ?_; simp only [putS]) | fail)
    go_roundw
    case rel => exact ⟨k + 1, by omega, by go_num, B⟩
    case measure => simp [intOf]; omega
   ·obtain rfl : k = idxL ls x y := by omega
    have hq : eqB e.x e.y x y = true := by have := idxL_at hkl; rw [he] at this; exact this
    have H := Lib.hid hkl
    go_wp2_with (first | (go_at_call 86; refine (P_Tile1 e x y b _ p1).mono ?_; rintro e' wn ⟨rfl, hbn⟩; replace B := B.trans (hbn.mono B.size)) | (refine wpList_loadAny (t := 72) rfl _ rfl _ _ _ rfl (rc_ta rc hkl he) (by first | rfl | omega) ?_; simp only [putS]) | fail)
    go_ret
    exact ⟨by first | rfl | (rw [if_pos H.out]; rfl), B⟩
  ·have H := Lib.hid (show ¬ idxL ls x y < ls.length by omega)
   go_wp2
   go_ret
   exact ⟨by first | rfl | (rw [if_neg H.out]; rfl), B⟩
set_option maxHeartbeats 1000000 in
theorem P_Tile (v : Value) (ls : List TA) (x y : Int) (w : World) (h : RS v ls w) (hn : ls.length ≤ maxLen) : Calls Tryz.prog 53 #[.agg #[v], Ps.v x y] w fun e w' => e = .returned (Tile.v (tileL ls x y)) ∧ Below w.heap.size w w' := by
 obtain ⟨a, c, rfl, hc⟩ := h.len
 have hle := idxL_le ls x y
 have hml : (9223372036854775807 : Int) ≥ maxLen := by unfold maxLen; omega
 have B := Below.refl w.heap.size w
 have HS := Lib.hid h
 clear h
 simp only [Ps.v]
 by_cases hi : idxL ls x y < ls.length
 ·rw [tileL_idx, if_pos hi]
  obtain ⟨g, o, rfl, rc⟩ := HS.out.at (by omega)
  have hg0 := rc.lt
  obtain ⟨e, he⟩ : ∃ e, aT ls (idxL ls x y) = e := ⟨_, rfl⟩
  rw [he]
  have hif : (if idxL ls x y < ls.length then (idxL ls x y : Int) else -1) = (idxL ls x y : Int) := if_pos hi
  go_enter Tryz.func53, Tryz.ntmps53
  go_wp2_with (first | (refine wpList_storeT rfl _ _ rfl _ rfl _ rfl u1 ?_; clear u1; intro wn ht hcn hzn; have hsz := B.size; replace hzn := Nat.le_of_eq hzn.symm; replace B := Chg.below B hcn (by omega) B.size; (try replace r1 := r1.of_eq (hcn.block _ r1.lt (by omega))); (try replace p1 := p1.of_eq (hcn.block _ p1.lt (by omega))); (try replace rc := rc.of_eq (hcn.block _ rc.lt (by omega))); have u1 := ht; clear ht; simp only [putS]) | (refine wpList_loadAny (t := 70) rfl _ rfl _ _ _ rfl (rc_tile rc hi he) (by first | rfl | omega) ?_; simp only [putS]) | (go_at_call 85; refine (P_IndexFunc _ ls x y _ _ (HS.out.below B) hn p1).mono ?_; rintro e wn ⟨rfl, hbn⟩; have hsz := B.size; have hzn := hbn.size; replace B := B.trans (hbn.mono B.size); (try replace r1 := r1.below hbn); (try replace p1 := p1.below hbn); (try replace u1 := u1.below hbn); (try replace rc := rc.below hbn)) | (refine wpList_loadAny (t := 32) rfl _ rfl _ _ _ rfl (run_load_sl r1.cell0) (by rfl) ?_; simp only [putS]) | (have _ := p1; refine wpList_allocT' rfl rfl ?_; intro b_u1 wn hle hge ht hbn hzn; have hsz := B.size; replace B := B.trans (hbn.mono (by omega)); have hln := Nat.lt_of_lt_of_eq (Nat.lt_succ_self _) hzn.symm; clear hzn; (try have hlt := r1.lt); (try replace r1 := r1.below (hbn.mono hle)); (try have hlt := p1.lt); (try replace p1 := p1.below (hbn.mono hle)); (try have hlt := u1.lt); (try replace u1 := u1.below (hbn.mono hle)); (try have hlt := rc.lt); (try replace rc := rc.below (hbn.mono hle)); have u1 := ht; clear ht; simp only [putS]) | (have _ := r1; refine wpList_boxB (t := 68) rfl _ rfl _ rfl ?_; intro b_p1 wn hle hge ht hbn hzn; have hsz := B.size; replace B := B.trans (hbn.mono (by omega)); have hln := Nat.lt_of_lt_of_eq (Nat.lt_succ_self _) hzn.symm; clear hzn; (try have hlt := r1.lt); (try replace r1 := r1.below (hbn.mono hle)); (try have hlt := p1.lt); (try replace p1 := p1.below (hbn.mono hle)); (try have hlt := u1.lt); (try replace u1 := u1.below (hbn.mono hle)); (try have hlt := rc.lt); (try replace rc := rc.below (hbn.mono hle)); have p1 := ht; clear ht; simp only [putS]) | (refine wpList_boxB (t := 34) rfl _ rfl _ rfl ?_; intro b_r1 wn hle hge ht hbn hzn; have hsz := B.size; replace B := B.trans (hbn.mono (by omega)); have hln := Nat.lt_of_lt_of_eq (Nat.lt_succ_self _) hzn.symm; clear hzn; (try have hlt := r1.lt); (try replace r1 := r1.below (hbn.mono hle)); (try have hlt := p1.lt); (try replace p1 := p1.below (hbn.mono hle)); (try have hlt := u1.lt); (try replace u1 := u1.below (hbn.mono hle)); (try have hlt := rc.lt); (try replace rc := rc.below (hbn.mono hle)); have r1 := ht; clear ht; simp only [putS]) | fail)
  refine bodyPost_ret (results_tile rfl _ _ (b_u1) rfl u1) rfl ?_
  exact ⟨rfl, B⟩
 ·rw [tileL_idx, if_neg hi]
  have hif : (if idxL ls x y < ls.length then (idxL ls x y : Int) else -1) = -1 := if_neg hi
  go_enter Tryz.func53, Tryz.ntmps53
  go_wp2_with (first | (refine wpList_storeT rfl _ _ rfl _ rfl _ rfl u1 ?_; clear u1; intro wn ht hcn hzn; have hsz := B.size; replace hzn := Nat.le_of_eq hzn.symm; replace B := Chg.below B hcn (by omega) B.size; (try replace r1 := r1.of_eq (hcn.block _ r1.lt (by omega))); (try replace p1 := p1.of_eq (hcn.block _ p1.lt (by omega))); have u1 := ht; clear ht; simp only [putS]) | (refine wpList_buildT rfl rfl ?_; simp only [putS]) | (go_at_call 85; refine (P_IndexFunc _ ls x y _ _ (HS.out.below B) hn p1).mono ?_; rintro e wn ⟨rfl, hbn⟩; have hsz := B.size; have hzn := hbn.size; replace B := B.trans (hbn.mono B.size); (try replace r1 := r1.below hbn); (try replace p1 := p1.below hbn); (try replace u1 := u1.below hbn)) | (refine wpList_loadAny (t := 32) rfl _ rfl _ _ _ rfl (run_load_sl r1.cell0) (by rfl) ?_; simp only [putS]) | (have _ := p1; refine wpList_allocT' rfl rfl ?_; intro b_u1 wn hle hge ht hbn hzn; have hsz := B.size; replace B := B.trans (hbn.mono (by omega)); have hln := Nat.lt_of_lt_of_eq (Nat.lt_succ_self _) hzn.symm; clear hzn; (try have hlt := r1.lt); (try replace r1 := r1.below (hbn.mono hle)); (try have hlt := p1.lt); (try replace p1 := p1.below (hbn.mono hle)); (try have hlt := u1.lt); (try replace u1 := u1.below (hbn.mono hle)); (try have hlt := rc.lt); have u1 := ht; clear ht; simp only [putS]) | (have _ := r1; refine wpList_boxB (t := 68) rfl _ rfl _ rfl ?_; intro b_p1 wn hle hge ht hbn hzn; have hsz := B.size; replace B := B.trans (hbn.mono (by omega)); have hln := Nat.lt_of_lt_of_eq (Nat.lt_succ_self _) hzn.symm; clear hzn; (try have hlt := r1.lt); (try replace r1 := r1.below (hbn.mono hle)); (try have hlt := p1.lt); (try replace p1 := p1.below (hbn.mono hle)); (try have hlt := u1.lt); (try replace u1 := u1.below (hbn.mono hle)); (try have hlt := rc.lt); have p1 := ht; clear ht; simp only [putS]) | (refine wpList_boxB (t := 34) rfl _ rfl _ rfl ?_; intro b_r1 wn hle hge ht hbn hzn; have hsz := B.size; replace B := B.trans (hbn.mono (by omega)); have hln := Nat.lt_of_lt_of_eq (Nat.lt_succ_self _) hzn.symm; clear hzn; (try have hlt := r1.lt); (try replace r1 := r1.below (hbn.mono hle)); (try have hlt := p1.lt); (try replace p1 := p1.below (hbn.mono hle)); (try have hlt := u1.lt); (try replace u1 := u1.below (hbn.mono hle)); (try have hlt := rc.lt); have r1 := ht; clear ht; simp only [putS]) | fail)
  refine bodyPost_ret (results_tile rfl _ _ (b_u1) rfl u1) rfl ?_
  exact ⟨rfl, B⟩
set_option maxHeartbeats 1000000 in
theorem R_Tile (v : Value) (ls : List TA) (x y : Int) (w : World) (h : RS v ls w) (hn : ls.length ≤ maxLen) : Calls Tryz.prog 43 #[.agg #[v], Ps.v x y] w fun e w' => e = .returned (Tile.v (tileL ls x y)) ∧ Below w.heap.size w w' := by
 unfold maxLen at hn
 obtain ⟨a, c, rfl, hc⟩ := h.len
 have hle := idxL_le ls x y
 have B := Below.refl w.heap.size w
 have HS := Lib.hid h
 clear h
 simp only [Ps.v]
 go_enter Tryz.func43, Tryz.ntmps43
 go_wp2_with (first | (have _ := p1; refine wpList_allocT' rfl rfl ?_; intro b_u1 wn hle hge ht hbn hzn; have hsz := B.size; replace B := B.trans (hbn.mono (by omega)); have hln := Nat.lt_of_lt_of_eq (Nat.lt_succ_self _) hzn.symm; clear hzn; (try have hlt := r1.lt); (try replace r1 := r1.below (hbn.mono hle)); (try have hlt := p1.lt); (try replace p1 := p1.below (hbn.mono hle)); (try have hlt := u1.lt); (try replace u1 := u1.below (hbn.mono hle)); (try have hlt := rc.lt); (try replace rc := rc.below (hbn.mono hle)); have u1 := ht; clear ht; simp only [putS]) | (have _ := r1; refine wpList_boxB (t := 68) rfl _ rfl _ rfl ?_; intro b_p1 wn hle hge ht hbn hzn; have hsz := B.size; replace B := B.trans (hbn.mono (by omega)); have hln := Nat.lt_of_lt_of_eq (Nat.lt_succ_self _) hzn.symm; clear hzn; (try have hlt := r1.lt); (try replace r1 := r1.below (hbn.mono hle)); (try have hlt := p1.lt); (try replace p1 := p1.below (hbn.mono hle)); (try have hlt := u1.lt); (try replace u1 := u1.below (hbn.mono hle)); (try have hlt := rc.lt); (try replace rc := rc.below (hbn.mono hle)); have p1 := ht; clear ht; simp only [putS]) | (refine wpList_boxB (t := 34) rfl _ rfl _ rfl ?_; intro b_r1 wn hle hge ht hbn hzn; have hsz := B.size; replace B := B.trans (hbn.mono (by omega)); have hln := Nat.lt_of_lt_of_eq (Nat.lt_succ_self _) hzn.symm; clear hzn; (try have hlt := r1.lt); (try replace r1 := r1.below (hbn.mono hle)); (try have hlt := p1.lt); (try replace p1 := p1.below (hbn.mono hle)); (try have hlt := u1.lt); (try replace u1 := u1.below (hbn.mono hle)); (try have hlt := rc.lt); (try replace rc := rc.below (hbn.mono hle)); have r1 := ht; clear ht; simp only [putS]) | fail)
 have hr1 := r1.lt
 have hp1 := p1.lt
 have hu1 := u1.lt
 have q1 : w.heap.size ≤ b_r1 := by omega
 have q2 : b_r1 < b_p1 := by omega
 have q3 : b_p1 < b_u1 := by omega
 go_loopw [5] (fun i wr => ∃ k : Nat, k ≤ idxL ls x y ∧ i = .int .i64 k ∧ Below w.heap.size w wr ∧ AtB 34 wr b_r1 #[.slice a ls.length c] ∧ AtB 68 wr b_p1 #[.int .i64 x, .int .i64 y] ∧ TileAt wr b_u1 (fun _ => Px.zero)) (fun i _ => (ls.length - intOf i).toNat)
 case atStart => exact ⟨0, by omega, rfl, B, r1, p1, u1⟩
 case round =>
  clear B r1 p1 u1
  obtain ⟨k, hk, rfl, B, r1, p1, u1⟩ := hrel
  by_cases hkl : k < ls.length
  ·obtain ⟨g, o, rfl, rc0⟩ := HS.out.at (by omega)
   have hg0 := rc0.lt
   have rc := rc0.of_eq (B.block _ rc0.lt)
   clear rc0
   obtain ⟨e, he⟩ : ∃ e, aT ls k = e := ⟨_, rfl⟩
   have heq : ∀ w, (binOp .eql 68 (Ps.v e.x e.y) (.agg #[.int .i64 x, .int .i64 y])).run Tryz.prog w = .ok (.bool (eqB e.x e.y x y)) w := fun w => eql_pos _ _ _ _ w
   by_cases hki : k < idxL ls x y
   ·have hq : eqB e.x e.y x y = false := by have := idxL_lt hki; rw [he] at this; exact this
    go_wp2_with (first | (refine wpList_loadAny (t := 32) rfl _ rfl _ _ _ rfl (run_load_sl r1.cell0) (by rfl) ?_; simp only [putS]) | fail)
    refine wp_region_ov (by kernel_rfl) (by kernel_rfl) ?_
    repeat (first | go_big_quiet_skip | (go_big_quiet_want; first | (refine quiet_loadAny (t := 32) rfl _ _ _ rfl (fun w hw => run_load_sl (ov_B r1 w hw).cell0) (by rfl) ?_; simp only [putS]; go_big_quiet_on) | (refine quiet_loadAny (t := 68) rfl _ _ _ rfl (fun w hw => rc_pos (ov_rc rc w hw) hkl he) (by first | rfl | omega) ?_; simp only [putS]; go_big_quiet_on) | (refine quiet_loadAny (t := 68) rfl _ _ _ rfl (fun w hw => run_load_B (ov_B p1 w hw) Tryz.isAgg68 (by kernel_rfl)) (by rfl) ?_; simp only [putS]; go_big_quiet_on) | (go_big_quiet_op; first | go_big_quiet_on | go_big_quiet_call ((fail)))))
    refine wpQuiet_nil ?_
    intro wn hbn
    have hsz := B.size
    have hzn := hbn.size
    replace B := B.trans (hbn.mono B.size)
    try replace r1 := r1.below hbn
    try replace p1 := p1.below hbn
    try replace u1 := u1.below hbn
    try replace rc := rc.below hbn
    go_wp2
    go_roundw
    case rel => exact ⟨k + 1, by omega, by go_num, B, r1, p1, u1⟩
    case measure => simp [intOf]; omega
   ·obtain rfl : k = idxL ls x y := by omega
    have hq : eqB e.x e.y x y = true := by have := idxL_at hkl; rw [he] at this; exact this
    have H := Lib.hid (show tileL ls x y = e.t by rw [tileL_idx, if_pos hkl, he])
    go_wp2_with (first | (refine wpList_loadAny (t := 32) rfl _ rfl _ _ _ rfl (run_load_sl r1.cell0) (by rfl) ?_; simp only [putS]) | fail)
    refine wp_region_ov (by kernel_rfl) (by kernel_rfl) ?_
    repeat (first | go_big_quiet_skip | (go_big_quiet_want; first | (refine quiet_loadAny (t := 32) rfl _ _ _ rfl (fun w hw => run_load_sl (ov_B r1 w hw).cell0) (by rfl) ?_; simp only [putS]; go_big_quiet_on) | (refine quiet_loadAny (t := 68) rfl _ _ _ rfl (fun w hw => rc_pos (ov_rc rc w hw) hkl he) (by first | rfl | omega) ?_; simp only [putS]; go_big_quiet_on) | (refine quiet_loadAny (t := 68) rfl _ _ _ rfl (fun w hw => run_load_B (ov_B p1 w hw) Tryz.isAgg68 (by kernel_rfl)) (by rfl) ?_; simp only [putS]; go_big_quiet_on) | (go_big_quiet_op; first | go_big_quiet_on | go_big_quiet_call ((fail)))))
    refine wpQuiet_nil ?_
    intro wn hbn
    have hsz := B.size
    have hzn := hbn.size
    replace B := B.trans (hbn.mono B.size)
    try replace r1 := r1.below hbn
    try replace u1 := u1.below hbn
    try replace rc := rc.below hbn
    go_wp2_with (first | (refine wpList_storeT rfl _ _ rfl _ rfl _ rfl u1 ?_; clear u1; intro wn ht hcn hzn; have hsz := B.size; replace hzn := Nat.le_of_eq hzn.symm; replace B := Chg.below B hcn (by omega) B.size; (try replace r1 := r1.of_eq (hcn.block _ r1.lt (by omega))); (try replace rc := rc.of_eq (hcn.block _ rc.lt (by omega))); have u1 := ht; clear ht; simp only [putS]) | (refine wpList_loadAny (t := 70) rfl _ rfl _ _ _ rfl (rc_tile rc hkl he) (by first | rfl | omega) ?_; simp only [putS]) | (refine wpList_loadAny (t := 32) rfl _ rfl _ _ _ rfl (run_load_sl r1.cell0) (by rfl) ?_; simp only [putS]) | fail)
    refine bodyPost_ret (results_tile rfl _ _ (b_u1) rfl u1) rfl ?_
    exact ⟨by rw [H.out], B⟩
  ·have H := Lib.hid (show tileL ls x y = zT by rw [tileL_idx, if_neg (by omega)])
   go_wp2_with (first | (refine wpList_storeT rfl _ _ rfl _ rfl _ rfl u1 ?_; clear u1; intro wn ht hcn hzn; have hsz := B.size; replace hzn := Nat.le_of_eq hzn.symm; replace B := Chg.below B hcn (by omega) B.size; (try replace r1 := r1.of_eq (hcn.block _ r1.lt (by omega))); have u1 := ht; clear ht; simp only [putS]) | (refine wpList_buildT rfl rfl ?_; simp only [putS]) | (refine wpList_loadAny (t := 32) rfl _ rfl _ _ _ rfl (run_load_sl r1.cell0) (by rfl) ?_; simp only [putS]) | fail)
   refine bodyPost_ret (results_tile rfl _ _ (b_u1) rfl u1) rfl ?_
   exact ⟨by rw [H.out]; rfl, B⟩
/- Tiles at a position built, put into slices; contracts of Get, BinarySearchFunc, find, Clone. -/
theorem fill_cons {place : Nat → Option (Nat × Nat)} {cells : Array Value} {i : Nat} {v : Value} {rest : List (Nat × Value)} {off sz : Nat} (hp : place i = some (off, sz)) (hv : v.cells.size = sz) (hle : off + sz ≤ cells.size) :
  ∃ r : Array Value, r.size = cells.size ∧ (∀ k, r[k]? = if off ≤ k ∧ k < off + sz then v.cells[k - off]? else cells[k]?) ∧ Instr.fill place cells ((i, v) :: rest) = Instr.fill place r rest := by
 obtain ⟨g1, g2⟩ := Great.foldl_set off v.cells.toList 0 cells
 refine ⟨v.cells.zipIdx.foldl (fun cs (x : Value × Nat) => cs.setIfInBounds (off + x.2) x.1) cells, ?_, fun k => ?_, ?_⟩
 ·rw [← Array.foldl_toList, Array.toList_zipIdx]; exact g1
 ·rw [← Array.foldl_toList, Array.toList_zipIdx]
  refine (g2 k).trans ?_
  rw [Array.length_toList, hv, Nat.add_zero]
  by_cases h : off ≤ k ∧ k < off + sz
  ·rw [if_pos h, if_pos ⟨h.1, h.2, by omega⟩, Array.getElem?_toList]
  ·rw [if_neg h, if_neg (by omega)]
 ·conv => lhs; unfold Instr.fill
  rw [hp]
  simp only []
  rw [if_neg (by simp [hv]; omega)]
theorem cells_ps (x y : Int) : (Ps.v x y).cells = #[.int .i64 x, .int .i64 y] := by simp only [Ps.v, Value.cells]
theorem taC_get (x y : Int) (t : Nat → Px) (k : Nat) : (taC ⟨x, y, t⟩)[k]? = if k < 2 then (#[.int .i64 x, .int .i64 y] : Array Value)[k]? else (tileC t)[k - 2]? := by
 by_cases h : k < 2
 ·rw [if_pos h]
  have hc : k = 0 ∨ k = 1 := by omega
  rcases hc with rfl | rfl
  ·exact taC_x _
  ·exact taC_y _
 ·rw [if_neg h]
  have := taC_t ⟨x, y, t⟩ (k - 2)
  rw [show 2 + (k - 2) = k by omega] at this
  exact this
theorem built_TA (parts : List (Nat × Value)) : Tryz.prog.built 72 parts = Instr.fill (fun i => #[(0, 2), (2, 256)][i]?) zTA parts := by kernel_rfl
theorem fill_TA (x y : Int) (t : Nat → Px) : Instr.fill (fun i => #[(0, 2), (2, 256)][i]?) zTA [(0, Ps.v x y), (1, Tile.v t)] = some (taC ⟨x, y, t⟩) := by
 obtain ⟨r, hs, hr, e⟩ := fill_cons (place := fun i => #[(0, 2), (2, 256)][i]?) (cells := zTA) (i := 0) (v := Ps.v x y) (rest := [(1, Tile.v t)]) (off := 0) (sz := 2) rfl (by rw [cells_ps]; rfl) (by rw [size_zTA]; omega)
 obtain ⟨r', hs', hr', e'⟩ := fill_cons (place := fun i => #[(0, 2), (2, 256)][i]?) (cells := r) (i := 1) (v := Tile.v t) (rest := []) (off := 2) (sz := 256) rfl (by rw [cells_tile, size_tileC]) (by rw [hs, size_zTA]; omega)
 rw [e, e']
 show some r' = _
 congr 1
 apply Array.ext_getElem?
 intro k
 rw [hr' k, hr k, taC_get, cells_tile, cells_ps]
 by_cases h2 : k < 2
 ·rw [if_neg (by omega), if_pos (by omega), if_pos h2, Nat.sub_zero]
 ·rw [if_neg h2]
  by_cases h3 : k < 258
  ·rw [if_pos (by omega)]
  ·rw [if_neg (by omega), if_neg (by omega), Array.getElem?_eq_none (by rw [size_zTA]; omega), Array.getElem?_eq_none (by rw [size_tileC]; omega)]
theorem run_build_TA (w : World) (o : Oper) (p q : Operand) (ho : o.op = .build 72 #[(0, p), (1, q)]) (ev : Operand → Value) (x y : Int) (t : Nat → Px) (hp : ev p = Ps.v x y) (hq : ev q = Tile.v t) : (execOp ev o).run Tryz.prog w = .ok (.value (.agg (taC ⟨x, y, t⟩))) w := by
 unfold execOp
 have r := run_build w 72 #[(0, Ps.v x y), (1, Tile.v t)] _ ((built_TA _).trans (fill_TA x y t))
 simp only [ho, List.map_toArray, List.map_cons, List.map_nil, hp, hq]
 simp only [Sem.run_bind, r, Result.andThen_ok, Sem.run_pure]
section
variable {ops : Array Oper} {rest : List Oper} {o : Oper} {a : Act} {w : World} {Q : Exit → Act → World → Prop}
theorem wpList_buildTA (hg : o.guard = none) (p q : Operand) (ho : o.op = .build 72 #[(0, p), (1, q)]) (x y : Int) (t : Nat → Px) (hp : a.eval p = Ps.v x y) (hq : a.eval q = Tile.v t)
  (h : wpList Tryz.prog ops Q rest (a.put o.dst (.agg (taC ⟨x, y, t⟩))) w) : wpList Tryz.prog ops Q (o :: rest) a w :=
 wpList_plain hg fun K hK => by
  unfold Oper.wp
  rw [run_build_TA w o p q ho _ x y t hp hq]
  exact hK _ _ h
theorem fill_bs1 (e : TA) (cs : Array Value) (hs : cs.size = 258) : Instr.fill (fun i => some (i * 258, 258)) cs [(0, .agg (taC e))] = some (taC e) := by
 have hc : (Value.agg (taC e)).cells = taC e := by simp only [Value.cells]
 obtain ⟨r, hs', hr, e'⟩ := fill_cons (place := fun i => some (i * 258, 258)) (cells := cs) (i := 0) (v := .agg (taC e)) (rest := []) (off := 0) (sz := 258) rfl (by rw [hc, size_taC]) (by omega)
 rw [e']
 show some r = _
 congr 1
 apply Array.ext_getElem?
 intro k
 rw [hr k, hc]
 by_cases h : k < 258
 ·rw [if_pos (by omega), Nat.sub_zero]
 ·rw [if_neg (by omega), Array.getElem?_eq_none (by omega), Array.getElem?_eq_none (by rw [size_taC]; omega)]
/-- A slice of one tile. -/
theorem wpList_bs1T (hg : o.guard = none) (x : Operand) (ho : o.op = .buildSlice 32 1 #[(0, x)]) (e : TA) (hx : a.eval x = .agg (taC e))
  (h : ∀ b w', w.heap.size ≤ b → b ≤ w.heap.size → AtB 72 w' b (taC e) → Below b w w' → w'.heap.size = b + 1 → wpList Tryz.prog ops Q rest (a.put o.dst (.slice (some ⟨b, 0, none⟩) 1 1)) w') : wpList Tryz.prog ops Q (o :: rest) a w := by
 obtain ⟨i, hi⟩ : ∃ i, Tryz.prog.info? 72 = some i := by
  cases h : Tryz.prog.info? 72 with
  | some i => exact ⟨i, rfl⟩
  | none => have e := ta_info; rw [h] at e; cases e
 have e1 := ta_info
 rw [hi] at e1
 have e1' : i.size = 258 ∧ i.bytes = 272 := by simpa using e1
 have hz := ta_zero
 rw [hi] at hz
 refine wpList_buildSlice hg 32 72 1 #[(0, x)] ho (taC e) i _ Tryz.underlying32 hi hz (by rw [e1'.1]; omega) (by rw [e1'.1]; omega) ?_ (h _ _ (Nat.le_refl _) (Nat.le_refl _) (by unfold AtB; rw [heap_get_alloc, if_pos rfl]) ((Below.refl _ _).alloc (Nat.le_refl _) _) (World.size_alloc _ _))
 rw [e1'.1]
 have hp : ((#[(0, x)] : Array (Nat × Operand)).map fun (i, x) => (i, a.eval x)).toList = [(0, Value.agg (taC e))] := by simp [hx]
 rw [hp]
 exact fill_bs1 e _ (by simp)
theorem RS.one {b : Nat} {e : TA} {w : World} (h : AtB 72 w b (taC e)) : RS (.slice (some ⟨b, 0, none⟩) 1 1) [e] w :=
 .inr ⟨b, 0, 1, rfl, Nat.le_refl _, fun _ => ⟨h.lt, fun i hi j hj => by
  have hi : i < 1 := hi
  obtain rfl : i = 0 := by omega
  rw [show 0 + (0 * 258 + j) = j by omega]
  exact (cells_of_block h).1 j⟩⟩
theorem run_bsET (w : World) (o : Oper) (ho : o.op = .buildSlice 32 0 #[]) (ev : Operand → Value) : (execOp ev o).run Tryz.prog w = .ok (.value (.slice (some ⟨w.heap.size, 0, none⟩) 0 0)) (w.alloc (.cells #[] 72)) := by
 obtain ⟨d, p, t, ps, af, gd⟩ := o
 simp only at ho
 subst ho
 kernel_rfl
/-- A slice of no tiles, in memory of the call's own. -/
theorem wpList_bsET (hg : o.guard = none) (ho : o.op = .buildSlice 32 0 #[])
  (h : ∀ b w', w.heap.size ≤ b → b ≤ w.heap.size → OwnT b (.slice (some ⟨b, 0, none⟩) 0 0) [] w' → Below b w w' → w'.heap.size = b + 1 → wpList Tryz.prog ops Q rest (a.put o.dst (.slice (some ⟨b, 0, none⟩) 0 0)) w') : wpList Tryz.prog ops Q (o :: rest) a w :=
 wpList_plain hg fun K hK => by
  unfold Oper.wp
  rw [run_bsET w o ho]
  exact hK _ _ (h _ _ (Nat.le_refl _) (Nat.le_refl _) ⟨rfl, .inr ⟨w.heap.size, 0, #[], rfl, Nat.le_refl _, by rw [heap_get_alloc, if_pos rfl], Nat.le_refl _, by unfold maxLen; omega, rfl, rfl⟩⟩ ((Below.refl _ _).alloc (Nat.le_refl _) _) (World.size_alloc _ _))
end
/-! ### Clone -/
set_option maxHeartbeats 1000000 in
theorem P_Clone (v : Value) (ls : List TA) (w : World) (h : RS v ls w) (hn : ls.length ≤ 4000) : Calls Tryz.prog 108 #[v] w fun e w' => ∃ v', e = .returned v' ∧ OwnT w.heap.size v' ls w' ∧ Below w.heap.size w w' := by
 have B := Below.refl w.heap.size w
 have q22 : ∀ (w : World) (a : Option Addr) (n c n' c' : Nat), (binOp .eql 32 (.slice a n c) (.slice none n' c')).run Tryz.prog w = .ok (.bool a.isNone) w := fun w a n c n' c' => Lib.run_eql_slice_nil w _ _ a n c n' c' Tryz.underlying32
 rcases h with ⟨rfl, rfl⟩ | ⟨g, o, c, rfl, hc, sc⟩
 ·go_enter Tryz.func108, Tryz.ntmps108
  go_wp2
  go_ret
  exact ⟨_, rfl, OwnT.nil _ _, B⟩
 ·have h : RS (.slice (some ⟨g, o, none⟩) ls.length c) ls w := .inr ⟨g, o, c, rfl, hc, sc⟩
  clear sc
  go_enter Tryz.func108, Tryz.ntmps108
  go_wp2_with (first | (at_builtin; refine wpList_appendT rfl _ _ rfl _ _ rfl rfl od (h) (by simp only [List.length_nil]; omega) (by omega) ?_; intro v_od wn ht hbn; have hsz := B.size; have hzn := hbn.size; replace B := B.trans (hbn.mono (by omega)); clear od; have od := ht; clear ht; simp only [putS]) | (refine wpList_bsET rfl rfl ?_; intro b_od wn hle hge ht hbn hzn; have hsz := B.size; replace B := B.trans (hbn.mono (by omega)); have od := ht; clear ht; replace h := h.below (hbn.mono (by omega)); simp only [putS]) | fail)
  go_ret
  exact ⟨_, rfl, by rw [List.nil_append] at od; exact od.mono (by omega), B⟩
/-! ### The search -/
theorem cut_less {ls : List TA} (hs : Srt ls) (x y : Int) {h : Nat} (hh : h < ls.length) : lessB (aT ls h).x (aT ls h).y x y = decide (h < cutL ls x y) := by
 by_cases hc : h < cutL ls x y
 ·rw [decide_eq_true hc, cutL_lt hc]
 ·rw [decide_eq_false hc]
  have hle := cutL_le ls x y
  have h0 : cutL ls x y < ls.length := by omega
  have h1 := cutL_at h0
  by_cases he : cutL ls x y = h
  ·rw [← he]; exact h1
  ·have h2 := List.pairwise_iff_getElem.1 hs (cutL ls x y) h h0 hh (by omega)
   have a := aT_at h0
   have b := aT_at hh
   rw [List.getElem?_eq_getElem h0] at a
   rw [List.getElem?_eq_getElem hh] at b
   rw [Option.some.inj a, Option.some.inj b] at h2
   unfold beforeA lessB at h2
   unfold lessB at h1 ⊢
   have h2 := of_decide_eq_true h2
   have h1 := of_decide_eq_false h1
   exact decide_eq_false (by omega)
theorem P_find1 (e : TA) (x y : Int) (w : World) : Calls Tryz.prog 130 #[.agg (taC e), .agg #[.int .i64 x, .int .i64 y]] w fun e' w' => e' = .returned (.int .i64 (ordI e.x e.y x y)) ∧ Below w.heap.size w w' := by
 have B := Below.refl w.heap.size w
 go_enter Tryz.func130, Tryz.ntmps130
 go_wp2_with (first | (go_at_call 93; refine (P_order _ _ x y _).mono ?_; rintro e wn ⟨rfl, hbn⟩; have hsz := B.size; have hzn := hbn.size; replace B := B.trans (hbn.mono B.size); (try replace t1 := t1.below hbn); (try replace p1 := p1.below hbn)) | (refine wpList_loadAny (t := 68) rfl _ rfl _ _ _ rfl (ta_pos t1) (by first | rfl | omega) ?_; simp only [putS]) | (refine wpList_loadAny (t := 68) rfl _ rfl _ _ _ rfl (run_load_B p1 Tryz.isAgg68 (by kernel_rfl)) (by rfl) ?_; simp only [putS]) | (have _ := t1; refine wpList_boxB (t := 68) rfl _ rfl _ rfl ?_; intro b_p1 wn hle hge ht hbn hzn; have hsz := B.size; replace B := B.trans (hbn.mono (by omega)); have hln := Nat.lt_of_lt_of_eq (Nat.lt_succ_self _) hzn.symm; clear hzn; (try have hlt := t1.lt); (try replace t1 := t1.below (hbn.mono hle)); (try have hlt := p1.lt); (try replace p1 := p1.below (hbn.mono hle)); have p1 := ht; clear ht; simp only [putS]) | (refine wpList_boxB (t := 72) rfl _ rfl _ rfl ?_; intro b_t1 wn hle hge ht hbn hzn; have hsz := B.size; replace B := B.trans (hbn.mono (by omega)); have hln := Nat.lt_of_lt_of_eq (Nat.lt_succ_self _) hzn.symm; clear hzn; (try have hlt := t1.lt); (try replace t1 := t1.below (hbn.mono hle)); (try have hlt := p1.lt); (try replace p1 := p1.below (hbn.mono hle)); have t1 := ht; clear ht; simp only [putS]) | fail)
 go_ret
 exact ⟨rfl, B⟩
set_option maxHeartbeats 2000000 in
theorem P_search (v : Value) (ls : List TA) (x y : Int) (w : World) (h : RS v ls w) (hs : Srt ls) (hn : ls.length ≤ 1000000) : Calls Tryz.prog 129 #[v, .agg #[.int .i64 x, .int .i64 y], .func (.func 130) #[] #[]] w fun e w' => e = .returned (.tuple #[.int .i64 (cutL ls x y : Int), .bool (hitL ls x y)]) ∧ Below w.heap.size w w' := by
 obtain ⟨a, c, rfl, hc⟩ := h.len
 have hcl := cutL_le ls x y
 have B := Below.refl w.heap.size w
 have HS := Lib.hid h
 have SR := Lib.hid hs
 have eg := enters_of Tryz.func130 (by kernel_rfl) rfl
 clear h hs
 generalize hfin : hitL ls x y = fin
 have FIN := Lib.hid hfin
 clear hfin
 go_enter Tryz.func129, Tryz.ntmps129
 go_wp2_with (first | (refine wpList_boxB (t := 68) rfl _ rfl _ rfl ?_; intro b_p1 wn hle hge ht hbn hzn; have hsz := B.size; replace B := B.trans (hbn.mono (by omega)); have hln := Nat.lt_of_lt_of_eq (Nat.lt_succ_self _) hzn.symm; clear hzn; (try have hlt := p1.lt); (try replace p1 := p1.below (hbn.mono hle)); (try have hlt := rc.lt); (try replace rc := rc.below (hbn.mono hle)); have p1 := ht; clear ht; simp only [putS]) | fail)
 have hp1 := p1.lt
 go_loopw [9, 10, 11] (fun i j _ wr => ∃ p q : Nat, p ≤ cutL ls x y ∧ cutL ls x y ≤ q ∧ q ≤ ls.length ∧ i = .int .i64 p ∧ j = .int .i64 q ∧ Below w.heap.size w wr ∧ AtB 68 wr b_p1 #[.int .i64 x, .int .i64 y]) (fun i j _ _ => (intOf j - intOf i).toNat)
 case atStart => exact ⟨0, ls.length, by omega, hcl, Nat.le_refl _, rfl, rfl, B, p1⟩
 case round =>
  clear B p1
  obtain ⟨p, q, h1, h2, h3, rfl, rfl, B, p1⟩ := hrel
  by_cases hpq : p < q
  ·obtain ⟨g, o, rfl, rc0⟩ := HS.out.at (by omega)
   have hg0 := rc0.lt
   have rc := rc0.of_eq (B.block _ rc0.lt)
   clear rc0
   have hm : (p + q) / 2 < ls.length := by omega
   obtain ⟨e, he⟩ : ∃ e, aT ls ((p + q) / 2) = e := ⟨_, rfl⟩
   have hl := cut_less SR.out x y hm
   rw [he, ← ordI_neg] at hl
   by_cases hcut : (p + q) / 2 < cutL ls x y
   ·rw [decide_eq_true hcut] at hl
    go_wp2
    refine wp_region_ov (by kernel_rfl) (by kernel_rfl) ?_
    repeat (first | go_big_quiet_skip | (go_big_quiet_want; first | (refine quiet_loadAny (t := 72) rfl _ _ _ rfl (fun w hw => rc_ta (ov_rc rc w hw) hm he) (by first | rfl | omega) ?_; simp only [putS]; go_big_quiet_on) | (refine quiet_loadAny (t := 68) rfl _ _ _ rfl (fun w hw => run_load_B (ov_B p1 w hw) Tryz.isAgg68 (by kernel_rfl)) (by rfl) ?_; simp only [putS]; go_big_quiet_on) | (go_big_quiet_op; first | go_big_quiet_on | go_big_quiet_call ((first | (go_at_call 130; exact calls_ov (P_find1 e x y _)))))))
    refine wpQuiet_nil ?_
    intro wn hbn
    have hsz := B.size
    have hzn := hbn.size
    replace B := B.trans (hbn.mono B.size)
    try replace p1 := p1.below hbn
    try replace rc := rc.below hbn
    go_wp2
    go_roundw
    case rel => exact ⟨(p + q) / 2 + 1, q, by omega, h2, h3, by first | rfl | (rw [show ((p : Int) + (q : Int)) / 2 + 1 = (((p + q) / 2 + 1 : Nat) : Int) by omega]), rfl, B, p1⟩
    case measure => simp [intOf]; omega
   ·rw [decide_eq_false hcut] at hl
    go_wp2
    refine wp_region_ov (by kernel_rfl) (by kernel_rfl) ?_
    repeat (first | go_big_quiet_skip | (go_big_quiet_want; first | (refine quiet_loadAny (t := 72) rfl _ _ _ rfl (fun w hw => rc_ta (ov_rc rc w hw) hm he) (by first | rfl | omega) ?_; simp only [putS]; go_big_quiet_on) | (refine quiet_loadAny (t := 68) rfl _ _ _ rfl (fun w hw => run_load_B (ov_B p1 w hw) Tryz.isAgg68 (by kernel_rfl)) (by rfl) ?_; simp only [putS]; go_big_quiet_on) | (go_big_quiet_op; first | go_big_quiet_on | go_big_quiet_call ((first | (go_at_call 130; exact calls_ov (P_find1 e x y _)))))))
    refine wpQuiet_nil ?_
    intro wn hbn
    have hsz := B.size
    have hzn := hbn.size
    replace B := B.trans (hbn.mono B.size)
    try replace p1 := p1.below hbn
    try replace rc := rc.below hbn
    go_wp2
    go_roundw
    case rel => exact ⟨p, (p + q) / 2, h1, by omega, by omega, rfl, by first | rfl | (rw [show ((p : Int) + (q : Int)) / 2 = (((p + q) / 2 : Nat) : Int) by omega]), B, p1⟩
    case measure => simp [intOf]; omega
  ·obtain rfl : p = cutL ls x y := by omega
   obtain rfl : q = cutL ls x y := by omega
   by_cases hin : cutL ls x y < ls.length
   ·obtain ⟨g, o, rfl, rc0⟩ := HS.out.at (by omega)
    have hg0 := rc0.lt
    have rc := rc0.of_eq (B.block _ rc0.lt)
    clear rc0
    obtain ⟨e, he⟩ : ∃ e, aT ls (cutL ls x y) = e := ⟨_, rfl⟩
    have hh : hitL ls x y = eqB e.x e.y x y := by unfold hitL; rw [decide_eq_true hin, he]; rfl
    have d1 : decide ((cutL ls x y : Int) < (ls.length : Int)) = true := decide_eq_true (by omega)
    have d2 : decide (cutL ls x y < ls.length) = true := decide_eq_true hin
    have ho := ordI_eq e.x e.y x y
    cases hq : eqB e.x e.y x y with
    | true =>
     rw [hq] at ho
     have ho2 : (ordI e.x e.y x y == 0) = true := ho
     rw [hq] at hh
     have HH := Lib.hid hh
     clear hh
     go_wp2
     refine wp_region_ov (by kernel_rfl) (by kernel_rfl) ?_
     repeat (first | go_big_quiet_skip | (go_big_quiet_want; first | (refine quiet_loadAny (t := 72) rfl _ _ _ rfl (fun w hw => rc_ta (ov_rc rc w hw) hin he) (by first | rfl | omega) ?_; simp only [putS]; go_big_quiet_on) | (refine quiet_loadAny (t := 68) rfl _ _ _ rfl (fun w hw => run_load_B (ov_B p1 w hw) Tryz.isAgg68 (by kernel_rfl)) (by rfl) ?_; simp only [putS]; go_big_quiet_on) | (go_big_quiet_op; first | go_big_quiet_on | go_big_quiet_call ((first | (go_at_call 130; exact calls_ov (P_find1 e x y _)))))))
     refine wpQuiet_nil ?_
     intro wn hbn
     have hsz := B.size
     have hzn := hbn.size
     replace B := B.trans (hbn.mono B.size)
     try replace p1 := p1.below hbn
     try replace rc := rc.below hbn
     go_wp2
     go_ret2
     exact ⟨by rw [← FIN.out, HH.out]; try rfl, B⟩
    | false =>
     rw [hq] at ho
     have ho2 : (ordI e.x e.y x y == 0) = false := ho
     rw [hq] at hh
     have HH := Lib.hid hh
     clear hh
     go_wp2
     refine wp_region_ov (by kernel_rfl) (by kernel_rfl) ?_
     repeat (first | go_big_quiet_skip | (go_big_quiet_want; first | (refine quiet_loadAny (t := 72) rfl _ _ _ rfl (fun w hw => rc_ta (ov_rc rc w hw) hin he) (by first | rfl | omega) ?_; simp only [putS]; go_big_quiet_on) | (refine quiet_loadAny (t := 68) rfl _ _ _ rfl (fun w hw => run_load_B (ov_B p1 w hw) Tryz.isAgg68 (by kernel_rfl)) (by rfl) ?_; simp only [putS]; go_big_quiet_on) | (go_big_quiet_op; first | go_big_quiet_on | go_big_quiet_call ((first | (go_at_call 130; exact calls_ov (P_find1 e x y _)))))))
     refine wpQuiet_nil ?_
     intro wn hbn
     have hsz := B.size
     have hzn := hbn.size
     replace B := B.trans (hbn.mono B.size)
     try replace p1 := p1.below hbn
     go_wp2
     go_ret2
     exact ⟨by rw [← FIN.out, HH.out]; try rfl, B⟩
   ·have hh : hitL ls x y = false := by unfold hitL; rw [decide_eq_false hin]; rfl
    have d1 : decide ((cutL ls x y : Int) < (ls.length : Int)) = false := decide_eq_false (by omega)
    have d2 : decide (cutL ls x y < ls.length) = false := decide_eq_false hin
    have HH := Lib.hid hh
    clear hh
    go_wp2
    refine wp_region_ov (by kernel_rfl) (by kernel_rfl) ?_
    repeat (first | go_big_quiet_skip | (go_big_quiet_want; first | (refine quiet_loadAny (t := 68) rfl _ _ _ rfl (fun w hw => run_load_B (ov_B p1 w hw) Tryz.isAgg68 (by kernel_rfl)) (by rfl) ?_; simp only [putS]; go_big_quiet_on) | (go_big_quiet_op; first | go_big_quiet_on | go_big_quiet_call ((fail)))))
    refine wpQuiet_nil ?_
    intro wn hbn
    have hsz := B.size
    have hzn := hbn.size
    replace B := B.trans (hbn.mono B.size)
    go_wp2
    go_ret2
    exact ⟨by rw [← FIN.out, HH.out]; try rfl, B⟩
theorem P_find (v : Value) (ls : List TA) (x y : Int) (w : World) (h : RS v ls w) (hs : Srt ls) (hn : ls.length ≤ 1000000) : Calls Tryz.prog 106 #[v, .agg #[.int .i64 x, .int .i64 y]] w fun e w' => e = .returned (.tuple #[.int .i64 (cutL ls x y : Int), .bool (hitL ls x y)]) ∧ Below w.heap.size w w' := by
 have B := Below.refl w.heap.size w
 have HS := Lib.hid h
 have SR := Lib.hid hs
 clear h hs
 go_enter Tryz.func106, Tryz.ntmps106
 go_wp2_with (first | (go_at_call 129; refine (P_search _ ls x y _ (HS.out.below B) SR.out hn).mono ?_; rintro e wn ⟨rfl, hbn⟩; have hsz := B.size; have hzn := hbn.size; replace B := B.trans (hbn.mono B.size); (try replace p1 := p1.below hbn)) | (refine wpList_loadAny (t := 68) rfl _ rfl _ _ _ rfl (run_load_B p1 Tryz.isAgg68 (by kernel_rfl)) (by rfl) ?_; simp only [putS]) | (refine wpList_boxB (t := 68) rfl _ rfl _ rfl ?_; intro b_p1 wn hle hge ht hbn hzn; have hsz := B.size; replace B := B.trans (hbn.mono (by omega)); have hln := Nat.lt_of_lt_of_eq (Nat.lt_succ_self _) hzn.symm; clear hzn; (try have hlt := p1.lt); (try replace p1 := p1.below (hbn.mono hle)); have p1 := ht; clear ht; simp only [putS]) | fail)
 go_ret2
 exact ⟨rfl, B⟩
/- Contracts of tiles, with, made, Put, Set, Get of package raster. -/
theorem OwnT.chg {B b : Nat} {v : Value} {ls : List TA} {w w' : World} (h : OwnT B v ls w) (hc : Chg b w w') (hb : b < B) : OwnT B v ls w' := by
 refine World.ownsRow.kept (row := some b) h ⟨hc.os, hc.tape, hc.output, hc.size, fun k hk hne => hc.block k hk (fun e => hne (by rw [e]))⟩ ?_
 cases hv : v.ownBlock with
 | none => exact .inl rfl
 | some k =>
  right
  intro e
  injection e with e
  have := World.ownsRow.lt h k hv
  omega
theorem rs_take {g o : Nat} {ls : List TA} {w : World} (sc : 0 < ls.length → RCells g o ls w) {k : Nat} (hk : k ≤ ls.length) : RS (.slice (some ⟨g, o, none⟩) k k) (ls.take k) w := by
 have hl : (ls.take k).length = k := by rw [List.length_take]; omega
 refine .inr ⟨g, o, k, by rw [hl], by omega, fun h => (sc (by omega)).take k⟩
theorem rs_drop {g o c : Nat} {ls : List TA} {w : World} (sc : 0 < ls.length → RCells g o ls w) (hc : ls.length ≤ c) {k : Nat} (hk : k ≤ ls.length) : RS (.slice (if c = k then some ⟨g, o, none⟩ else some ⟨g, o + k * 258, none⟩) (ls.length - k) (c - k)) (ls.drop k) w := by
 have hl : (ls.drop k).length = ls.length - k := List.length_drop ..
 by_cases e : c = k
 ·rw [if_pos e]
  exact .inr ⟨g, o, c - k, by rw [hl], by omega, fun h => absurd h (by omega)⟩
 ·rw [if_neg e]
  exact .inr ⟨g, o + k * 258, c - k, by rw [hl], by omega, fun h => (sc (by omega)).drop k⟩
theorem run_alloc_R (w : World) (o : Oper) (ho : o.op = .alloc 34) (ev : Operand → Value) : (execOp ev o).run Tryz.prog w = .ok (.value (.pointer (some ⟨w.heap.size, 0, none⟩))) (w.alloc (.cells #[.slice none 0 0] 34)) := by
 obtain ⟨d, p, t, ps, af, gd⟩ := o
 simp only at ho
 subst ho
 kernel_rfl
/-- A row of tiles is no small block. -/
theorem RS.chg {v : Value} {ls : List TA} {t : TypeId} {b : Nat} {cs : Array Value} {w w' : World} (h : RS v ls w) (hb : AtB t w b cs) (hs : cs.size < 258) (hc : Chg b w w') : RS v ls w' := by
 rcases h with h | ⟨g, o, c, e, hcap, sc⟩
 ·exact .inl h
 ·refine .inr ⟨g, o, c, e, hcap, fun hn => (sc hn).of_eq (hc.block g (sc hn).lt fun hg => ?_)⟩
  subst hg
  have h1 := (sc hn).2 0 hn 257 (by omega)
  rw [cell_of_row w g _ cs _ (0, 0) hb] at h1
  have h2 : (taC (aT ls 0))[257]? ≠ none := by
   rw [Ne, Array.getElem?_eq_none_iff, size_taC]; omega
  rw [← h1, Ne, Array.getElem?_eq_none_iff] at h2
  omega
theorem owp_storeB {o : Oper} {a : Act} {w : World} {Q : Exit → Act → World → Prop} {K : Act → World → Prop} {t : TypeId} {cs : Array Value} (x y : Operand) (b : Nat) (cs' : Array Value) (ho : o.op = .store t x y) (hx : a.eval x = .pointer (some ⟨b, 0, none⟩)) (hy : a.eval y = .agg cs') (ht : AtB t w b cs) (hsz : (Tryz.prog.info? t).map (·.size) = some cs'.size) (hss : cs'.size = cs.size) (hone : cs'.all (·.oneCell') = true)
  (h : ∀ w', AtB t w' b cs' → Chg b w w' → w'.heap.size = w.heap.size → K (a.put o.dst undef) w') : o.wp Tryz.prog a w K Q := by
 unfold Oper.wp execOp
 simp only [ho, hx, hy, run_store_B ht hsz hss hone, Sem.run_bind, Sem.run_pure, Result.andThen_ok]
 exact h _ (ht.setRow cs') ((Chg.refl b w).setRow _) (size_setRow _ _ _)
/-! ### tiles -/
theorem P_tiles0 (a : Option Addr) (c : Nat) (ls : List TA) (w : World) (h : RS (.slice a ls.length c) ls w) (tk : TokL ls) (hn : ls.length ≤ maxLen) : Calls Tryz.prog 50 #[.agg #[.slice a ls.length c]] w fun e w' => e = .returned (if validL ls = true then .slice a ls.length c else .slice none 0 0) ∧ Below w.heap.size w w' := by
 have B := Below.refl w.heap.size w
 have HS := Lib.hid h
 clear h
 cases hv : validL ls with
 | true =>
  rw [if_pos rfl]
  go_enter Tryz.func50, Tryz.ntmps50
  go_wp2_with (first | (go_at_call 56; refine (P_Valid _ ls _ (HS.out.below B) tk hn).mono ?_; rintro e wn ⟨rfl, hbn⟩; have hsz := B.size; have hzn := hbn.size; replace B := B.trans (hbn.mono B.size); (try replace r1 := r1.below hbn)) | (refine wpList_loadAny (t := 34) rfl _ rfl _ _ _ rfl (run_load_B r1 Tryz.isAgg34 (by kernel_rfl)) (by rfl) ?_; simp only [putS]) | (refine wpList_loadAny (t := 32) rfl _ rfl _ _ _ rfl (run_load_sl r1.cell0) (by rfl) ?_; simp only [putS]) | (refine wpList_boxB (t := 34) rfl _ rfl _ rfl ?_; intro b_r1 wn hle hge ht hbn hzn; have hsz := B.size; replace B := B.trans (hbn.mono (by omega)); have hln := Nat.lt_of_lt_of_eq (Nat.lt_succ_self _) hzn.symm; clear hzn; (try have hlt := r1.lt); (try replace r1 := r1.below (hbn.mono hle)); have r1 := ht; clear ht; simp only [putS]) | fail)
  go_ret
  exact ⟨rfl, B⟩
 | false =>
  rw [if_neg (by decide)]
  go_enter Tryz.func50, Tryz.ntmps50
  go_wp2_with (first | (go_at_call 56; refine (P_Valid _ ls _ (HS.out.below B) tk hn).mono ?_; rintro e wn ⟨rfl, hbn⟩; have hsz := B.size; have hzn := hbn.size; replace B := B.trans (hbn.mono B.size); (try replace r1 := r1.below hbn)) | (refine wpList_loadAny (t := 34) rfl _ rfl _ _ _ rfl (run_load_B r1 Tryz.isAgg34 (by kernel_rfl)) (by rfl) ?_; simp only [putS]) | (refine wpList_loadAny (t := 32) rfl _ rfl _ _ _ rfl (run_load_sl r1.cell0) (by rfl) ?_; simp only [putS]) | (refine wpList_boxB (t := 34) rfl _ rfl _ rfl ?_; intro b_r1 wn hle hge ht hbn hzn; have hsz := B.size; replace B := B.trans (hbn.mono (by omega)); have hln := Nat.lt_of_lt_of_eq (Nat.lt_succ_self _) hzn.symm; clear hzn; (try have hlt := r1.lt); (try replace r1 := r1.below (hbn.mono hle)); have r1 := ht; clear ht; simp only [putS]) | fail)
  go_ret
  exact ⟨rfl, B⟩
/-- The tiles of a valid raster: a slice that is known ahead of the walk. -/
theorem P_tiles (v : Value) (ls : List TA) (w : World) (h : RS v ls w) (tk : TokL ls) (hn : ls.length ≤ maxLen) : ∃ a c, ∀ w', Below w.heap.size w w' → (Calls Tryz.prog 50 #[.agg #[v]] w' fun e w'' => e = .returned (.slice a (fineL ls).length c) ∧ Below w'.heap.size w' w'') ∧ RS (.slice a (fineL ls).length c) (fineL ls) w' := by
 obtain ⟨a, c, rfl, hc⟩ := h.len
 cases hv : validL ls with
 | true =>
  rw [fineL_of hv]
  refine ⟨a, c, fun w' hb => ⟨?_, h.below hb⟩⟩
  have := P_tiles0 a c ls w' (h.below hb) tk hn
  rw [hv, if_pos rfl] at this
  exact this
 | false =>
  rw [fineL_no hv]
  refine ⟨none, 0, fun w' hb => ⟨?_, RS.nil _⟩⟩
  have := P_tiles0 a c ls w' (h.below hb) tk hn
  rw [hv, if_neg (by decide)] at this
  exact this
/-! ### with -/
theorem P_CloneO (v : Value) (ls : List TA) (w : World) (h : RS v ls w) (hn : ls.length ≤ 4000) : Calls Tryz.prog 108 #[v] w fun e w' => ∃ v' b, e = .returned v' ∧ w.heap.size ≤ b ∧ b ≤ w.heap.size ∧ OwnT b v' ls w' ∧ Below w.heap.size w w' :=
 (P_Clone v ls w h hn).mono fun e w' ⟨v', he, ho, hb⟩ => ⟨v', _, he, Nat.le_refl _, Nat.le_refl _, ho, hb⟩
set_option maxHeartbeats 1000000 in
theorem P_with (v : Value) (ls : List TA) (x y : Int) (t : Nat → Px) (w : World) (h : RS v ls w) (hs : Srt ls) (ht : Tok t) (hn : ls.length ≤ 4000) : Calls Tryz.prog 89 #[v, .agg #[.int .i64 x, .int .i64 y], Tile.v t] w fun e w' => ∃ v', e = .returned v' ∧ RS v' (putL ls x y t) w' ∧ Below w.heap.size w w' := by
 have B := Below.refl w.heap.size w
 have HS := Lib.hid h
 have SR := Lib.hid hs
 have hcl := cutL_le ls x y
 rcases h with ⟨rfl, rfl⟩ | ⟨g, o, c, rfl, hc, sc⟩
 ·have hcut : cutL ([] : List TA) x y = 0 := rfl
  have hhit : hitL ([] : List TA) x y = false := rfl
  have hp := putL_cut ([] : List TA) x y t
  rw [hhit, hcut] at hp
  have HP := Lib.hid hp
  clear hp hs hcl hn
  cases hz : zeroB t with
  | true =>
   have HN := Lib.hid (show newA x y t = [] from by unfold newA; rw [hz]; rfl)
   go_enter Tryz.func89, Tryz.ntmps89
   go_wp2_with (first | (at_builtin; refine wpList_appendT rfl _ _ rfl _ _ rfl rfl od ((RS.nil _)) (by simp) (by omega) ?_; intro v_od wn ht hbn; have hsz := B.size; have hzn := hbn.size; replace B := B.trans (hbn.mono (by omega)); clear od; (try replace p1 := p1.of_eq (hbn.block _ (by omega))); (try replace u1 := u1.of_eq (hbn.block _ (by omega))); have od := ht; clear ht; simp only [putS]) | (go_at_call 108; have qp := p1.lt; have qu := u1.lt; refine (P_CloneO _ ([]) _ (RS.nil _) (by first | (rw [List.length_take]; omega) | simp)).mono ?_; rintro e wn ⟨v_od, b_od, rfl, hle, hge, od, hbn⟩; have hsz := B.size; have hzn := hbn.size; replace B := B.trans (hbn.mono B.size); (try replace p1 := p1.below hbn); (try replace u1 := u1.below hbn); (try replace od := od.below hbn)) | (go_at_call 106; refine (P_find _ [] x y _ (HS.out.below B) SR.out (by first | omega | simp)).mono ?_; rintro e wn ⟨rfl, hbn⟩; have hsz := B.size; have hzn := hbn.size; replace B := B.trans (hbn.mono B.size); (try replace p1 := p1.below hbn); (try replace u1 := u1.below hbn); (try replace od := od.below hbn)) | (go_at_call 92; refine (P_Zero _ _ ht).mono ?_; rintro e wn ⟨rfl, hbn⟩; have hsz := B.size; have hzn := hbn.size; replace B := B.trans (hbn.mono B.size); (try replace p1 := p1.below hbn); (try replace u1 := u1.below hbn); (try replace od := od.below hbn)) | (refine wpList_loadT rfl _ rfl _ rfl u1 ?_; simp only [putS]) | (refine wpList_loadAny (t := 68) rfl _ rfl _ _ _ rfl (run_load_B p1 Tryz.isAgg68 (by kernel_rfl)) (by rfl) ?_; simp only [putS]) | (have _ := p1; refine wpList_boxT' rfl _ rfl _ rfl ?_; intro b_u1 wn hle hge ht hbn hzn; have hsz := B.size; replace B := B.trans (hbn.mono (by omega)); have hln := Nat.lt_of_lt_of_eq (Nat.lt_succ_self _) hzn.symm; clear hzn; (try have hlt := p1.lt); (try replace p1 := p1.below (hbn.mono hle)); (try have hlt := u1.lt); (try replace u1 := u1.below (hbn.mono hle)); (try have hlt := od.lt); (try replace od := od.below (hbn.mono hle)); have u1 := ht; clear ht; simp only [putS]) | (refine wpList_boxB (t := 68) rfl _ rfl _ rfl ?_; intro b_p1 wn hle hge ht hbn hzn; have hsz := B.size; replace B := B.trans (hbn.mono (by omega)); have hln := Nat.lt_of_lt_of_eq (Nat.lt_succ_self _) hzn.symm; clear hzn; (try have hlt := p1.lt); (try replace p1 := p1.below (hbn.mono hle)); (try have hlt := u1.lt); (try replace u1 := u1.below (hbn.mono hle)); (try have hlt := od.lt); (try replace od := od.below (hbn.mono hle)); have p1 := ht; clear ht; simp only [putS]) | fail)
   go_ret
   refine ⟨_, rfl, ?_, B⟩
   have e := od.rs
   rw [HP.out, HN.out]
   simpa using e
  | false =>
   have HN := Lib.hid (show newA x y t = [⟨x, y, t⟩] from by unfold newA; rw [hz]; rfl)
   go_enter Tryz.func89, Tryz.ntmps89
   go_wp2_with (first | (at_builtin; refine wpList_appendT rfl _ _ rfl _ _ rfl rfl od ((RS.nil _)) (by simp) (by omega) ?_; intro v_od wn ht hbn; have hsz := B.size; have hzn := hbn.size; replace B := B.trans (hbn.mono (by omega)); clear od; (try replace p1 := p1.of_eq (hbn.block _ (by omega))); (try replace u1 := u1.of_eq (hbn.block _ (by omega))); have od := ht; clear ht; simp only [putS]) | (at_builtin; refine wpList_appendT rfl _ _ rfl _ _ rfl rfl od ((RS.one s1)) (by simp) (by omega) ?_; intro v_od wn ht hbn; have hsz := B.size; have hzn := hbn.size; replace B := B.trans (hbn.mono (by omega)); clear od; (try replace p1 := p1.of_eq (hbn.block _ (by omega))); (try replace u1 := u1.of_eq (hbn.block _ (by omega))); have od := ht; clear ht; simp only [putS]) | (refine wpList_bs1T rfl _ rfl ⟨x, y, t⟩ (by rfl) ?_; intro b_s1 wn hle hge ht hbn hzn; have hsz := B.size; replace B := B.trans (hbn.mono (by omega)); have hln := Nat.lt_of_lt_of_eq (Nat.lt_succ_self _) hzn.symm; clear hzn; (try have hlt := p1.lt); (try replace p1 := p1.below (hbn.mono hle)); (try have hlt := u1.lt); (try replace u1 := u1.below (hbn.mono hle)); (try have hlt := od.lt); (try replace od := od.below (hbn.mono hle)); have s1 := ht; clear ht; simp only [putS]) | (refine wpList_buildTA rfl _ _ rfl x y t (by rfl) (by rfl) ?_; simp only [putS]) | (go_at_call 108; have qp := p1.lt; have qu := u1.lt; refine (P_CloneO _ ([]) _ (RS.nil _) (by first | (rw [List.length_take]; omega) | simp)).mono ?_; rintro e wn ⟨v_od, b_od, rfl, hle, hge, od, hbn⟩; have hsz := B.size; have hzn := hbn.size; replace B := B.trans (hbn.mono B.size); (try replace p1 := p1.below hbn); (try replace u1 := u1.below hbn); (try replace od := od.below hbn)) | (go_at_call 106; refine (P_find _ [] x y _ (HS.out.below B) SR.out (by first | omega | simp)).mono ?_; rintro e wn ⟨rfl, hbn⟩; have hsz := B.size; have hzn := hbn.size; replace B := B.trans (hbn.mono B.size); (try replace p1 := p1.below hbn); (try replace u1 := u1.below hbn); (try replace od := od.below hbn)) | (go_at_call 92; refine (P_Zero _ _ ht).mono ?_; rintro e wn ⟨rfl, hbn⟩; have hsz := B.size; have hzn := hbn.size; replace B := B.trans (hbn.mono B.size); (try replace p1 := p1.below hbn); (try replace u1 := u1.below hbn); (try replace od := od.below hbn)) | (refine wpList_loadT rfl _ rfl _ rfl u1 ?_; simp only [putS]) | (refine wpList_loadAny (t := 68) rfl _ rfl _ _ _ rfl (run_load_B p1 Tryz.isAgg68 (by kernel_rfl)) (by rfl) ?_; simp only [putS]) | (have _ := p1; refine wpList_boxT' rfl _ rfl _ rfl ?_; intro b_u1 wn hle hge ht hbn hzn; have hsz := B.size; replace B := B.trans (hbn.mono (by omega)); have hln := Nat.lt_of_lt_of_eq (Nat.lt_succ_self _) hzn.symm; clear hzn; (try have hlt := p1.lt); (try replace p1 := p1.below (hbn.mono hle)); (try have hlt := u1.lt); (try replace u1 := u1.below (hbn.mono hle)); (try have hlt := od.lt); (try replace od := od.below (hbn.mono hle)); have u1 := ht; clear ht; simp only [putS]) | (refine wpList_boxB (t := 68) rfl _ rfl _ rfl ?_; intro b_p1 wn hle hge ht hbn hzn; have hsz := B.size; replace B := B.trans (hbn.mono (by omega)); have hln := Nat.lt_of_lt_of_eq (Nat.lt_succ_self _) hzn.symm; clear hzn; (try have hlt := p1.lt); (try replace p1 := p1.below (hbn.mono hle)); (try have hlt := u1.lt); (try replace u1 := u1.below (hbn.mono hle)); (try have hlt := od.lt); (try replace od := od.below (hbn.mono hle)); have p1 := ht; clear ht; simp only [putS]) | fail)
   go_ret
   refine ⟨_, rfl, ?_, B⟩
   have e := od.rs
   rw [HP.out, HN.out]
   simpa using e
 ·have h : RS (.slice (some ⟨g, o, none⟩) ls.length c) ls w := .inr ⟨g, o, c, rfl, hc, sc⟩
  have HT := Lib.hid (rs_take sc hcl)
  have HC := Lib.hid (putL_cut ls x y t)
  have hcn : cutL ls x y ≤ c := by omega
  cases hh : hitL ls x y with
  | true =>
   have hk : cutL ls x y + 1 ≤ ls.length := by
    first
     | exact hcl
     | (unfold hitL at hh; have := of_decide_eq_true (Bool.and_eq_true_iff.1 hh).1; omega)
   have HR := Lib.hid (rs_drop sc hc hk)
   cases hz : zeroB t with
   | true =>
    have HN := Lib.hid (show newA x y t = [] from by unfold newA; rw [hz]; rfl)
    have HH := Lib.hid hh
    clear hs sc h
    go_enter Tryz.func89, Tryz.ntmps89
    go_wp2_with (first | (at_builtin; refine wpList_appendT rfl _ _ rfl _ _ rfl rfl od ((HR.out.below B)) (by simp; omega) (by omega) ?_; intro v_od wn ht hbn; have hsz := B.size; have hzn := hbn.size; replace B := B.trans (hbn.mono (by omega)); clear od; (try replace p1 := p1.of_eq (hbn.block _ (by omega))); (try replace u1 := u1.of_eq (hbn.block _ (by omega))); have od := ht; clear ht; simp only [putS]) | (go_at_call 108; have qp := p1.lt; have qu := u1.lt; refine (P_CloneO _ (ls.take (cutL ls x y)) _ (HT.out.below B) (by first | (rw [List.length_take]; omega) | simp)).mono ?_; rintro e wn ⟨v_od, b_od, rfl, hle, hge, od, hbn⟩; have hsz := B.size; have hzn := hbn.size; replace B := B.trans (hbn.mono B.size); (try replace p1 := p1.below hbn); (try replace u1 := u1.below hbn); (try replace od := od.below hbn)) | (go_at_call 106; refine (P_find _ ls x y _ (HS.out.below B) SR.out (by first | omega | simp)).mono ?_; rintro e wn ⟨rfl, hbn⟩; have hsz := B.size; have hzn := hbn.size; replace B := B.trans (hbn.mono B.size); (try replace p1 := p1.below hbn); (try replace u1 := u1.below hbn); (try replace od := od.below hbn)) | (go_at_call 92; refine (P_Zero _ _ ht).mono ?_; rintro e wn ⟨rfl, hbn⟩; have hsz := B.size; have hzn := hbn.size; replace B := B.trans (hbn.mono B.size); (try replace p1 := p1.below hbn); (try replace u1 := u1.below hbn); (try replace od := od.below hbn)) | (refine wpList_loadT rfl _ rfl _ rfl u1 ?_; simp only [putS]) | (refine wpList_loadAny (t := 68) rfl _ rfl _ _ _ rfl (run_load_B p1 Tryz.isAgg68 (by kernel_rfl)) (by rfl) ?_; simp only [putS]) | (have _ := p1; refine wpList_boxT' rfl _ rfl _ rfl ?_; intro b_u1 wn hle hge ht hbn hzn; have hsz := B.size; replace B := B.trans (hbn.mono (by omega)); have hln := Nat.lt_of_lt_of_eq (Nat.lt_succ_self _) hzn.symm; clear hzn; (try have hlt := p1.lt); (try replace p1 := p1.below (hbn.mono hle)); (try have hlt := u1.lt); (try replace u1 := u1.below (hbn.mono hle)); (try have hlt := od.lt); (try replace od := od.below (hbn.mono hle)); have u1 := ht; clear ht; simp only [putS]) | (refine wpList_boxB (t := 68) rfl _ rfl _ rfl ?_; intro b_p1 wn hle hge ht hbn hzn; have hsz := B.size; replace B := B.trans (hbn.mono (by omega)); have hln := Nat.lt_of_lt_of_eq (Nat.lt_succ_self _) hzn.symm; clear hzn; (try have hlt := p1.lt); (try replace p1 := p1.below (hbn.mono hle)); (try have hlt := u1.lt); (try replace u1 := u1.below (hbn.mono hle)); (try have hlt := od.lt); (try replace od := od.below (hbn.mono hle)); have p1 := ht; clear ht; simp only [putS]) | fail)
    all_goals
     go_ret
     refine ⟨_, rfl, ?_, B⟩
     have e := od.rs
     rw [HC.out, HN.out, HH.out]
     simpa using e
   | false =>
    have HN := Lib.hid (show newA x y t = [⟨x, y, t⟩] from by unfold newA; rw [hz]; rfl)
    have HH := Lib.hid hh
    clear hs sc h
    go_enter Tryz.func89, Tryz.ntmps89
    go_wp2_with (first | (at_builtin; refine wpList_appendT rfl _ _ rfl _ _ rfl rfl od ((HR.out.below B)) (by simp; omega) (by omega) ?_; intro v_od wn ht hbn; have hsz := B.size; have hzn := hbn.size; replace B := B.trans (hbn.mono (by omega)); clear od; (try replace p1 := p1.of_eq (hbn.block _ (by omega))); (try replace u1 := u1.of_eq (hbn.block _ (by omega))); have od := ht; clear ht; simp only [putS]) | (at_builtin; refine wpList_appendT rfl _ _ rfl _ _ rfl rfl od ((RS.one s1)) (by simp; omega) (by omega) ?_; intro v_od wn ht hbn; have hsz := B.size; have hzn := hbn.size; replace B := B.trans (hbn.mono (by omega)); clear od; (try replace p1 := p1.of_eq (hbn.block _ (by omega))); (try replace u1 := u1.of_eq (hbn.block _ (by omega))); have od := ht; clear ht; simp only [putS]) | (refine wpList_bs1T rfl _ rfl ⟨x, y, t⟩ (by rfl) ?_; intro b_s1 wn hle hge ht hbn hzn; have hsz := B.size; replace B := B.trans (hbn.mono (by omega)); have hln := Nat.lt_of_lt_of_eq (Nat.lt_succ_self _) hzn.symm; clear hzn; (try have hlt := p1.lt); (try replace p1 := p1.below (hbn.mono hle)); (try have hlt := u1.lt); (try replace u1 := u1.below (hbn.mono hle)); (try have hlt := od.lt); (try replace od := od.below (hbn.mono hle)); have s1 := ht; clear ht; simp only [putS]) | (refine wpList_buildTA rfl _ _ rfl x y t (by rfl) (by rfl) ?_; simp only [putS]) | (go_at_call 108; have qp := p1.lt; have qu := u1.lt; refine (P_CloneO _ (ls.take (cutL ls x y)) _ (HT.out.below B) (by first | (rw [List.length_take]; omega) | simp)).mono ?_; rintro e wn ⟨v_od, b_od, rfl, hle, hge, od, hbn⟩; have hsz := B.size; have hzn := hbn.size; replace B := B.trans (hbn.mono B.size); (try replace p1 := p1.below hbn); (try replace u1 := u1.below hbn); (try replace od := od.below hbn)) | (go_at_call 106; refine (P_find _ ls x y _ (HS.out.below B) SR.out (by first | omega | simp)).mono ?_; rintro e wn ⟨rfl, hbn⟩; have hsz := B.size; have hzn := hbn.size; replace B := B.trans (hbn.mono B.size); (try replace p1 := p1.below hbn); (try replace u1 := u1.below hbn); (try replace od := od.below hbn)) | (go_at_call 92; refine (P_Zero _ _ ht).mono ?_; rintro e wn ⟨rfl, hbn⟩; have hsz := B.size; have hzn := hbn.size; replace B := B.trans (hbn.mono B.size); (try replace p1 := p1.below hbn); (try replace u1 := u1.below hbn); (try replace od := od.below hbn)) | (refine wpList_loadT rfl _ rfl _ rfl u1 ?_; simp only [putS]) | (refine wpList_loadAny (t := 68) rfl _ rfl _ _ _ rfl (run_load_B p1 Tryz.isAgg68 (by kernel_rfl)) (by rfl) ?_; simp only [putS]) | (have _ := p1; refine wpList_boxT' rfl _ rfl _ rfl ?_; intro b_u1 wn hle hge ht hbn hzn; have hsz := B.size; replace B := B.trans (hbn.mono (by omega)); have hln := Nat.lt_of_lt_of_eq (Nat.lt_succ_self _) hzn.symm; clear hzn; (try have hlt := p1.lt); (try replace p1 := p1.below (hbn.mono hle)); (try have hlt := u1.lt); (try replace u1 := u1.below (hbn.mono hle)); (try have hlt := od.lt); (try replace od := od.below (hbn.mono hle)); have u1 := ht; clear ht; simp only [putS]) | (refine wpList_boxB (t := 68) rfl _ rfl _ rfl ?_; intro b_p1 wn hle hge ht hbn hzn; have hsz := B.size; replace B := B.trans (hbn.mono (by omega)); have hln := Nat.lt_of_lt_of_eq (Nat.lt_succ_self _) hzn.symm; clear hzn; (try have hlt := p1.lt); (try replace p1 := p1.below (hbn.mono hle)); (try have hlt := u1.lt); (try replace u1 := u1.below (hbn.mono hle)); (try have hlt := od.lt); (try replace od := od.below (hbn.mono hle)); have p1 := ht; clear ht; simp only [putS]) | fail)
    all_goals
     go_ret
     refine ⟨_, rfl, ?_, B⟩
     have e := od.rs
     rw [HC.out, HN.out, HH.out]
     simpa using e
  | false =>
   have hk : cutL ls x y ≤ ls.length := by
    first
     | exact hcl
     | (unfold hitL at hh; have := of_decide_eq_true (Bool.and_eq_true_iff.1 hh).1; omega)
   have HR := Lib.hid (rs_drop sc hc hk)
   cases hz : zeroB t with
   | true =>
    have HN := Lib.hid (show newA x y t = [] from by unfold newA; rw [hz]; rfl)
    have HH := Lib.hid hh
    clear hs sc h
    go_enter Tryz.func89, Tryz.ntmps89
    go_wp2_with (first | (at_builtin; refine wpList_appendT rfl _ _ rfl _ _ rfl rfl od ((HR.out.below B)) (by simp; omega) (by omega) ?_; intro v_od wn ht hbn; have hsz := B.size; have hzn := hbn.size; replace B := B.trans (hbn.mono (by omega)); clear od; (try replace p1 := p1.of_eq (hbn.block _ (by omega))); (try replace u1 := u1.of_eq (hbn.block _ (by omega))); have od := ht; clear ht; simp only [putS]) | (go_at_call 108; have qp := p1.lt; have qu := u1.lt; refine (P_CloneO _ (ls.take (cutL ls x y)) _ (HT.out.below B) (by first | (rw [List.length_take]; omega) | simp)).mono ?_; rintro e wn ⟨v_od, b_od, rfl, hle, hge, od, hbn⟩; have hsz := B.size; have hzn := hbn.size; replace B := B.trans (hbn.mono B.size); (try replace p1 := p1.below hbn); (try replace u1 := u1.below hbn); (try replace od := od.below hbn)) | (go_at_call 106; refine (P_find _ ls x y _ (HS.out.below B) SR.out (by first | omega | simp)).mono ?_; rintro e wn ⟨rfl, hbn⟩; have hsz := B.size; have hzn := hbn.size; replace B := B.trans (hbn.mono B.size); (try replace p1 := p1.below hbn); (try replace u1 := u1.below hbn); (try replace od := od.below hbn)) | (go_at_call 92; refine (P_Zero _ _ ht).mono ?_; rintro e wn ⟨rfl, hbn⟩; have hsz := B.size; have hzn := hbn.size; replace B := B.trans (hbn.mono B.size); (try replace p1 := p1.below hbn); (try replace u1 := u1.below hbn); (try replace od := od.below hbn)) | (refine wpList_loadT rfl _ rfl _ rfl u1 ?_; simp only [putS]) | (refine wpList_loadAny (t := 68) rfl _ rfl _ _ _ rfl (run_load_B p1 Tryz.isAgg68 (by kernel_rfl)) (by rfl) ?_; simp only [putS]) | (have _ := p1; refine wpList_boxT' rfl _ rfl _ rfl ?_; intro b_u1 wn hle hge ht hbn hzn; have hsz := B.size; replace B := B.trans (hbn.mono (by omega)); have hln := Nat.lt_of_lt_of_eq (Nat.lt_succ_self _) hzn.symm; clear hzn; (try have hlt := p1.lt); (try replace p1 := p1.below (hbn.mono hle)); (try have hlt := u1.lt); (try replace u1 := u1.below (hbn.mono hle)); (try have hlt := od.lt); (try replace od := od.below (hbn.mono hle)); have u1 := ht; clear ht; simp only [putS]) | (refine wpList_boxB (t := 68) rfl _ rfl _ rfl ?_; intro b_p1 wn hle hge ht hbn hzn; have hsz := B.size; replace B := B.trans (hbn.mono (by omega)); have hln := Nat.lt_of_lt_of_eq (Nat.lt_succ_self _) hzn.symm; clear hzn; (try have hlt := p1.lt); (try replace p1 := p1.below (hbn.mono hle)); (try have hlt := u1.lt); (try replace u1 := u1.below (hbn.mono hle)); (try have hlt := od.lt); (try replace od := od.below (hbn.mono hle)); have p1 := ht; clear ht; simp only [putS]) | fail)
    all_goals
     go_ret
     refine ⟨_, rfl, ?_, B⟩
     have e := od.rs
     rw [HC.out, HN.out, HH.out]
     simpa using e
   | false =>
    have HN := Lib.hid (show newA x y t = [⟨x, y, t⟩] from by unfold newA; rw [hz]; rfl)
    have HH := Lib.hid hh
    clear hs sc h
    go_enter Tryz.func89, Tryz.ntmps89
    go_wp2_with (first | (at_builtin; refine wpList_appendT rfl _ _ rfl _ _ rfl rfl od ((HR.out.below B)) (by simp; omega) (by omega) ?_; intro v_od wn ht hbn; have hsz := B.size; have hzn := hbn.size; replace B := B.trans (hbn.mono (by omega)); clear od; (try replace p1 := p1.of_eq (hbn.block _ (by omega))); (try replace u1 := u1.of_eq (hbn.block _ (by omega))); have od := ht; clear ht; simp only [putS]) | (at_builtin; refine wpList_appendT rfl _ _ rfl _ _ rfl rfl od ((RS.one s1)) (by simp; omega) (by omega) ?_; intro v_od wn ht hbn; have hsz := B.size; have hzn := hbn.size; replace B := B.trans (hbn.mono (by omega)); clear od; (try replace p1 := p1.of_eq (hbn.block _ (by omega))); (try replace u1 := u1.of_eq (hbn.block _ (by omega))); have od := ht; clear ht; simp only [putS]) | (refine wpList_bs1T rfl _ rfl ⟨x, y, t⟩ (by rfl) ?_; intro b_s1 wn hle hge ht hbn hzn; have hsz := B.size; replace B := B.trans (hbn.mono (by omega)); have hln := Nat.lt_of_lt_of_eq (Nat.lt_succ_self _) hzn.symm; clear hzn; (try have hlt := p1.lt); (try replace p1 := p1.below (hbn.mono hle)); (try have hlt := u1.lt); (try replace u1 := u1.below (hbn.mono hle)); (try have hlt := od.lt); (try replace od := od.below (hbn.mono hle)); have s1 := ht; clear ht; simp only [putS]) | (refine wpList_buildTA rfl _ _ rfl x y t (by rfl) (by rfl) ?_; simp only [putS]) | (go_at_call 108; have qp := p1.lt; have qu := u1.lt; refine (P_CloneO _ (ls.take (cutL ls x y)) _ (HT.out.below B) (by first | (rw [List.length_take]; omega) | simp)).mono ?_; rintro e wn ⟨v_od, b_od, rfl, hle, hge, od, hbn⟩; have hsz := B.size; have hzn := hbn.size; replace B := B.trans (hbn.mono B.size); (try replace p1 := p1.below hbn); (try replace u1 := u1.below hbn); (try replace od := od.below hbn)) | (go_at_call 106; refine (P_find _ ls x y _ (HS.out.below B) SR.out (by first | omega | simp)).mono ?_; rintro e wn ⟨rfl, hbn⟩; have hsz := B.size; have hzn := hbn.size; replace B := B.trans (hbn.mono B.size); (try replace p1 := p1.below hbn); (try replace u1 := u1.below hbn); (try replace od := od.below hbn)) | (go_at_call 92; refine (P_Zero _ _ ht).mono ?_; rintro e wn ⟨rfl, hbn⟩; have hsz := B.size; have hzn := hbn.size; replace B := B.trans (hbn.mono B.size); (try replace p1 := p1.below hbn); (try replace u1 := u1.below hbn); (try replace od := od.below hbn)) | (refine wpList_loadT rfl _ rfl _ rfl u1 ?_; simp only [putS]) | (refine wpList_loadAny (t := 68) rfl _ rfl _ _ _ rfl (run_load_B p1 Tryz.isAgg68 (by kernel_rfl)) (by rfl) ?_; simp only [putS]) | (have _ := p1; refine wpList_boxT' rfl _ rfl _ rfl ?_; intro b_u1 wn hle hge ht hbn hzn; have hsz := B.size; replace B := B.trans (hbn.mono (by omega)); have hln := Nat.lt_of_lt_of_eq (Nat.lt_succ_self _) hzn.symm; clear hzn; (try have hlt := p1.lt); (try replace p1 := p1.below (hbn.mono hle)); (try have hlt := u1.lt); (try replace u1 := u1.below (hbn.mono hle)); (try have hlt := od.lt); (try replace od := od.below (hbn.mono hle)); have u1 := ht; clear ht; simp only [putS]) | (refine wpList_boxB (t := 68) rfl _ rfl _ rfl ?_; intro b_p1 wn hle hge ht hbn hzn; have hsz := B.size; replace B := B.trans (hbn.mono (by omega)); have hln := Nat.lt_of_lt_of_eq (Nat.lt_succ_self _) hzn.symm; clear hzn; (try have hlt := p1.lt); (try replace p1 := p1.below (hbn.mono hle)); (try have hlt := u1.lt); (try replace u1 := u1.below (hbn.mono hle)); (try have hlt := od.lt); (try replace od := od.below (hbn.mono hle)); have p1 := ht; clear ht; simp only [putS]) | fail)
    all_goals
     go_ret
     refine ⟨_, rfl, ?_, B⟩
     have e := od.rs
     rw [HC.out, HN.out, HH.out]
     simpa using e
/-! ### made -/
theorem P_made (a : Option Addr) (n c : Nat) (w : World) (hn : n ≤ maxLen) : Calls Tryz.prog 88 #[.slice a n c] w fun e w' => e = .returned (if n ≤ 1024 then .tuple #[.agg #[.slice a n c], .int .i64 0] else .tuple #[.agg #[.slice none 0 0], .int .i64 2]) ∧ Below w.heap.size w w' := by
 have B := Below.refl w.heap.size w
 by_cases h : n ≤ 1024
 ·rw [if_pos h]
  have d1 : decide (1024 < (n : Int)) = false := decide_eq_false (by omega)
  go_enter Tryz.func88, Tryz.ntmps88
  go_wp2_with (first | (refine wpList_storeB (t := 34) rfl _ _ rfl _ rfl _ rfl r1 (by kernel_rfl) rfl (by simp [Value.oneCell']) ?_; clear r1; intro wn ht hcn hzn; have hsz := B.size; replace hzn := Nat.le_of_eq hzn.symm; replace B := Chg.below B hcn (by omega) B.size; have r1 := ht; clear ht; simp only [putS]) | (refine wpList_allocBk (t := 34) rfl _ (run_alloc_R _ _ rfl) ?_; intro b_r1 wn hle hge ht hbn hzn; have hsz := B.size; replace B := B.trans (hbn.mono (by omega)); have hln := Nat.lt_of_lt_of_eq (Nat.lt_succ_self _) hzn.symm; clear hzn; (try have hlt := r1.lt); (try replace r1 := r1.below (hbn.mono hle)); have r1 := ht; clear ht; simp only [putS]) | fail)
  refine bodyPost_ret (results_B2 (t := 34) rfl _ _ (b_r1) rfl _ rfl r1 Tryz.isAgg34 (by kernel_rfl)) rfl ?_
  exact ⟨rfl, B⟩
 ·rw [if_neg h]
  have d1 : decide (1024 < (n : Int)) = true := decide_eq_true (by omega)
  go_enter Tryz.func88, Tryz.ntmps88
  go_wp2_with (first | (refine wpList_storeB (t := 34) rfl _ _ rfl _ rfl _ rfl r1 (by kernel_rfl) rfl (by simp [Value.oneCell']) ?_; clear r1; intro wn ht hcn hzn; have hsz := B.size; replace hzn := Nat.le_of_eq hzn.symm; replace B := Chg.below B hcn (by omega) B.size; have r1 := ht; clear ht; simp only [putS]) | (refine wpList_allocBk (t := 34) rfl _ (run_alloc_R _ _ rfl) ?_; intro b_r1 wn hle hge ht hbn hzn; have hsz := B.size; replace B := B.trans (hbn.mono (by omega)); have hln := Nat.lt_of_lt_of_eq (Nat.lt_succ_self _) hzn.symm; clear hzn; (try have hlt := r1.lt); (try replace r1 := r1.below (hbn.mono hle)); have r1 := ht; clear ht; simp only [putS]) | fail)
  refine bodyPost_ret (results_B2 (t := 34) rfl _ _ (b_r1) rfl _ rfl r1 Tryz.isAgg34 (by kernel_rfl)) rfl ?_
  exact ⟨rfl, B⟩
/-! ### Put -/
set_option maxHeartbeats 1000000 in
theorem P_Put (v : Value) (ls : List TA) (x y : Int) (t : Nat → Px) (w : World) (h : RS v ls w) (tk : TokL ls) (hn : ls.length ≤ maxLen) (ht : Tok t) : Calls Tryz.prog 54 #[.agg #[v], .agg #[.int .i64 x, .int .i64 y], Tile.v t] w fun e w' => ∃ v', e = .returned (.tuple #[.agg #[v'], .int .i64 (putE ls x y t)]) ∧ RS v' (putR ls x y t) w' ∧ Below w.heap.size w w' := by
 have B := Below.refl w.heap.size w
 obtain ⟨a', c', hT⟩ := P_tiles v ls w h tk hn
 have HT := Lib.hid hT
 clear hT
 obtain ⟨a, c, rfl, hc⟩ := h.len
 cases hw : withinB x y with
 | false =>
  have e1 : putE ls x y t = 1 := by unfold putE; rw [hw]; rfl
  have e2 : putR ls x y t = [] := by unfold putR; rw [hw]; rfl
  rw [e1, e2]
  clear e1 e2
  go_enter Tryz.func54, Tryz.ntmps54
  go_wp2_with (first | (have _ := r2; refine wpList_storeB (t := 34) rfl _ _ rfl _ rfl _ rfl r2 (by kernel_rfl) rfl (by simp [Value.oneCell']) ?_; clear r2; intro wn ht hcn hzn; have hsz := B.size; replace hzn := Nat.le_of_eq hzn.symm; replace B := Chg.below B hcn (by omega) B.size; (try replace r1 := r1.of_eq (hcn.block _ r1.lt (by omega))); (try replace p1 := p1.of_eq (hcn.block _ p1.lt (by omega))); (try replace u1 := u1.of_eq (hcn.block _ u1.lt (by omega))); have r2 := ht; clear ht; simp only [putS]) | (go_at_call 87; refine (P_within x y _).mono ?_; rintro e wn ⟨rfl, hbn⟩; have hsz := B.size; have hzn := hbn.size; replace B := B.trans (hbn.mono B.size); (try replace r1 := r1.below hbn); (try replace p1 := p1.below hbn); (try replace u1 := u1.below hbn); (try replace r2 := r2.below hbn)) | (refine wpList_loadAny (t := 68) rfl _ rfl _ _ _ rfl (run_load_B p1 Tryz.isAgg68 (by kernel_rfl)) (by rfl) ?_; simp only [putS]) | (have _ := u1; refine wpList_allocBk (t := 34) rfl _ (run_alloc_R _ _ rfl) ?_; intro b_r2 wn hle hge ht hbn hzn; have hsz := B.size; replace B := B.trans (hbn.mono (by omega)); have hln := Nat.lt_of_lt_of_eq (Nat.lt_succ_self _) hzn.symm; clear hzn; (try have hlt := r1.lt); (try replace r1 := r1.below (hbn.mono hle)); (try have hlt := p1.lt); (try replace p1 := p1.below (hbn.mono hle)); (try have hlt := u1.lt); (try replace u1 := u1.below (hbn.mono hle)); (try have hlt := r2.lt); (try replace r2 := r2.below (hbn.mono hle)); have r2 := ht; clear ht; simp only [putS]) | (have _ := p1; refine wpList_boxT' rfl _ rfl _ rfl ?_; intro b_u1 wn hle hge ht hbn hzn; have hsz := B.size; replace B := B.trans (hbn.mono (by omega)); have hln := Nat.lt_of_lt_of_eq (Nat.lt_succ_self _) hzn.symm; clear hzn; (try have hlt := r1.lt); (try replace r1 := r1.below (hbn.mono hle)); (try have hlt := p1.lt); (try replace p1 := p1.below (hbn.mono hle)); (try have hlt := u1.lt); (try replace u1 := u1.below (hbn.mono hle)); (try have hlt := r2.lt); (try replace r2 := r2.below (hbn.mono hle)); have u1 := ht; clear ht; simp only [putS]) | (have _ := r1; refine wpList_boxB (t := 68) rfl _ rfl _ rfl ?_; intro b_p1 wn hle hge ht hbn hzn; have hsz := B.size; replace B := B.trans (hbn.mono (by omega)); have hln := Nat.lt_of_lt_of_eq (Nat.lt_succ_self _) hzn.symm; clear hzn; (try have hlt := r1.lt); (try replace r1 := r1.below (hbn.mono hle)); (try have hlt := p1.lt); (try replace p1 := p1.below (hbn.mono hle)); (try have hlt := u1.lt); (try replace u1 := u1.below (hbn.mono hle)); (try have hlt := r2.lt); (try replace r2 := r2.below (hbn.mono hle)); have p1 := ht; clear ht; simp only [putS]) | (refine wpList_boxB (t := 34) rfl _ rfl _ rfl ?_; intro b_r1 wn hle hge ht hbn hzn; have hsz := B.size; replace B := B.trans (hbn.mono (by omega)); have hln := Nat.lt_of_lt_of_eq (Nat.lt_succ_self _) hzn.symm; clear hzn; (try have hlt := r1.lt); (try replace r1 := r1.below (hbn.mono hle)); (try have hlt := p1.lt); (try replace p1 := p1.below (hbn.mono hle)); (try have hlt := u1.lt); (try replace u1 := u1.below (hbn.mono hle)); (try have hlt := r2.lt); (try replace r2 := r2.below (hbn.mono hle)); have r1 := ht; clear ht; simp only [putS]) | fail)
  refine bodyPost_ret (results_B2 (t := 34) rfl _ _ (b_r2) rfl _ rfl r2 Tryz.isAgg34 (by kernel_rfl)) rfl ?_
  exact ⟨_, rfl, RS.nil _, B⟩
 | true =>
  have SR := Lib.hid (validL_srt (fineL_valid ls))
  have CT : Hid (Tok (cleanT t)) := Lib.hid (fun i hi => cleanP_ok (ht i hi))
  have hfl := fineL_length ls
  have hpl := putL_length (fineL ls) x y (cleanT t)
  by_cases hm : (putL (fineL ls) x y (cleanT t)).length ≤ 1024
  ·have e1 : putE ls x y t = 0 := by unfold putE manyE; rw [hw, if_pos rfl, if_pos hm]
   have e2 := Lib.hid (show putR ls x y t = putL (fineL ls) x y (cleanT t) by unfold putR manyL; rw [hw, if_pos rfl, if_pos hm])
   rw [e1]
   clear e1
   go_enter Tryz.func54, Tryz.ntmps54
   go_wp2_with (first | (go_at_call 87; refine (P_within x y _).mono ?_; rintro e wn ⟨rfl, hbn⟩; have hsz := B.size; have hzn := hbn.size; replace B := B.trans (hbn.mono B.size); (try replace r1 := r1.below hbn); (try replace p1 := p1.below hbn); (try replace u1 := u1.below hbn); (try replace r2 := r2.below hbn)) | (refine wpList_loadAny (t := 68) rfl _ rfl _ _ _ rfl (run_load_B p1 Tryz.isAgg68 (by kernel_rfl)) (by rfl) ?_; simp only [putS]) | (have _ := u1; refine wpList_allocBk (t := 34) rfl _ (run_alloc_R _ _ rfl) ?_; intro b_r2 wn hle hge ht hbn hzn; have hsz := B.size; replace B := B.trans (hbn.mono (by omega)); have hln := Nat.lt_of_lt_of_eq (Nat.lt_succ_self _) hzn.symm; clear hzn; (try have hlt := r1.lt); (try replace r1 := r1.below (hbn.mono hle)); (try have hlt := p1.lt); (try replace p1 := p1.below (hbn.mono hle)); (try have hlt := u1.lt); (try replace u1 := u1.below (hbn.mono hle)); (try have hlt := r2.lt); (try replace r2 := r2.below (hbn.mono hle)); have r2 := ht; clear ht; simp only [putS]) | (have _ := p1; refine wpList_boxT' rfl _ rfl _ rfl ?_; intro b_u1 wn hle hge ht hbn hzn; have hsz := B.size; replace B := B.trans (hbn.mono (by omega)); have hln := Nat.lt_of_lt_of_eq (Nat.lt_succ_self _) hzn.symm; clear hzn; (try have hlt := r1.lt); (try replace r1 := r1.below (hbn.mono hle)); (try have hlt := p1.lt); (try replace p1 := p1.below (hbn.mono hle)); (try have hlt := u1.lt); (try replace u1 := u1.below (hbn.mono hle)); (try have hlt := r2.lt); (try replace r2 := r2.below (hbn.mono hle)); have u1 := ht; clear ht; simp only [putS]) | (have _ := r1; refine wpList_boxB (t := 68) rfl _ rfl _ rfl ?_; intro b_p1 wn hle hge ht hbn hzn; have hsz := B.size; replace B := B.trans (hbn.mono (by omega)); have hln := Nat.lt_of_lt_of_eq (Nat.lt_succ_self _) hzn.symm; clear hzn; (try have hlt := r1.lt); (try replace r1 := r1.below (hbn.mono hle)); (try have hlt := p1.lt); (try replace p1 := p1.below (hbn.mono hle)); (try have hlt := u1.lt); (try replace u1 := u1.below (hbn.mono hle)); (try have hlt := r2.lt); (try replace r2 := r2.below (hbn.mono hle)); have p1 := ht; clear ht; simp only [putS]) | (refine wpList_boxB (t := 34) rfl _ rfl _ rfl ?_; intro b_r1 wn hle hge ht hbn hzn; have hsz := B.size; replace B := B.trans (hbn.mono (by omega)); have hln := Nat.lt_of_lt_of_eq (Nat.lt_succ_self _) hzn.symm; clear hzn; (try have hlt := r1.lt); (try replace r1 := r1.below (hbn.mono hle)); (try have hlt := p1.lt); (try replace p1 := p1.below (hbn.mono hle)); (try have hlt := u1.lt); (try replace u1 := u1.below (hbn.mono hle)); (try have hlt := r2.lt); (try replace r2 := r2.below (hbn.mono hle)); have r1 := ht; clear ht; simp only [putS]) | fail)
   refine wp_region_ov_any 5 #[true, true, true, true, true, false, false, false, false, false, false] (by kernel_rfl) (by kernel_rfl) ?_
   simp only [List.length_cons, List.length_nil, Nat.reduceAdd, Nat.reduceSub, List.take_succ_cons, List.take_zero]
   repeat (first | go_big_quiet_skip | (go_big_quiet_want; first | (refine quiet_loadAny (t := 34) rfl _ _ _ rfl (fun w hw => run_load_B (ov_B r1 w hw) Tryz.isAgg34 (by kernel_rfl)) (by rfl) ?_; simp only [putS]; go_big_quiet_on) | (refine quiet_loadAny (t := 68) rfl _ _ _ rfl (fun w hw => run_load_B (ov_B p1 w hw) Tryz.isAgg68 (by kernel_rfl)) (by rfl) ?_; simp only [putS]; go_big_quiet_on) | (refine quiet_loadT rfl _ rfl (ov_tile u1) ?_; simp only [putS]; go_big_quiet_on) | (go_big_quiet_op; first | go_big_quiet_on | go_big_quiet_call ((first | (go_at_call 50; exact calls_ov (HT.out _ (below_ov B B.size _)).1) | (go_at_call 90; exact calls_ov (P_Clean_t _ _ ht)))))))
   refine wpQuiet_nil ?_
   intro wn hbn
   have hsz := B.size
   have hzn := hbn.size
   replace B := B.trans (hbn.mono B.size)
   try replace r1 := r1.below hbn
   try replace p1 := p1.below hbn
   try replace u1 := u1.below hbn
   try replace r2 := r2.below hbn
   refine any_next 5 rfl (by kernel_rfl) rfl (fun K hK => ?_)
   try simp only [gelS]
   go_simp
   go_at_call 89
   refine (P_with _ (fineL ls) x y (cleanT t) _ (HT.out _ B).2 SR.out CT.out (by omega)).mono ?_
   rintro e wn ⟨v1, rfl, rs1, hbn⟩
   obtain ⟨a1, c1, rfl, hc1⟩ := rs1.len
   have hsz := B.size
   have hzn := hbn.size
   replace B := B.trans (hbn.mono B.size)
   try replace r1 := r1.below hbn
   try replace p1 := p1.below hbn
   try replace u1 := u1.below hbn
   try replace r2 := r2.below hbn
   refine hK _ _ ?_
   clear hK K
   try simp only [gelS]
   simp only [putS]
   refine any_next 6 rfl (by kernel_rfl) rfl (fun K hK => ?_)
   try simp only [gelS]
   go_simp
   go_at_call 88
   refine (P_made _ _ _ _ (by unfold maxLen; omega)).mono ?_
   rintro e wn ⟨rfl, hbn⟩
   rw [if_pos hm]
   have hsz := B.size
   have hzn := hbn.size
   replace B := B.trans (hbn.mono B.size)
   try replace r1 := r1.below hbn
   try replace p1 := p1.below hbn
   try replace u1 := u1.below hbn
   try replace r2 := r2.below hbn
   try replace rs1 := rs1.below hbn
   refine hK _ _ ?_
   clear hK K
   try simp only [gelS]
   simp only [putS]
   refine any_pure 7 rfl (by kernel_rfl) (by kernel_rfl) (by kernel_rfl) rfl (fun w => rfl) ?_
   try simp only [gelS]
   simp only [putS]
   refine any_pure 8 rfl (by kernel_rfl) (by kernel_rfl) (by kernel_rfl) rfl (fun w => rfl) ?_
   try simp only [gelS]
   simp only [putS]
   refine any_next 9 rfl (by kernel_rfl) rfl (fun K hK => ?_)
   try simp only [gelS]
   refine owp_storeB (t := 34) _ _ _ _ rfl rfl rfl r2 (by kernel_rfl) rfl (by simp [Value.oneCell']) ?_
   have r2o := r2
   clear r2
   intro wn r2 hcn hzn
   have hsz := B.size
   replace hzn := Nat.le_of_eq hzn.symm
   replace B := Chg.below B hcn (by omega) B.size
   try replace r1 := r1.of_eq (hcn.block _ r1.lt (by omega))
   try replace p1 := p1.of_eq (hcn.block _ p1.lt (by omega))
   try replace u1 := u1.of_eq (hcn.block _ u1.lt (by omega))
   replace rs1 := rs1.chg r2o (by simp) hcn
   clear r2o
   refine hK _ _ ?_
   clear hK K
   try simp only [gelS]
   simp only [putS]
   refine any_pure 10 rfl (by kernel_rfl) (by kernel_rfl) (by kernel_rfl) rfl (fun w => rfl) ?_
   try simp only [gelS]
   simp only [putS]
   refine any_end (by kernel_rfl) ?_
   go_wp2
   refine bodyPost_ret (results_B2 (t := 34) rfl _ _ (b_r2) rfl _ rfl r2 Tryz.isAgg34 (by kernel_rfl)) rfl ?_
   refine ⟨_, rfl, ?_, B⟩
   rw [e2.out]
   exact rs1
  ·have e1 : putE ls x y t = 2 := by unfold putE manyE; rw [hw, if_pos rfl, if_neg hm]
   have e2 := Lib.hid (show putR ls x y t = [] by unfold putR manyL; rw [hw, if_pos rfl, if_neg hm])
   rw [e1]
   clear e1
   go_enter Tryz.func54, Tryz.ntmps54
   go_wp2_with (first | (go_at_call 87; refine (P_within x y _).mono ?_; rintro e wn ⟨rfl, hbn⟩; have hsz := B.size; have hzn := hbn.size; replace B := B.trans (hbn.mono B.size); (try replace r1 := r1.below hbn); (try replace p1 := p1.below hbn); (try replace u1 := u1.below hbn); (try replace r2 := r2.below hbn)) | (refine wpList_loadAny (t := 68) rfl _ rfl _ _ _ rfl (run_load_B p1 Tryz.isAgg68 (by kernel_rfl)) (by rfl) ?_; simp only [putS]) | (have _ := u1; refine wpList_allocBk (t := 34) rfl _ (run_alloc_R _ _ rfl) ?_; intro b_r2 wn hle hge ht hbn hzn; have hsz := B.size; replace B := B.trans (hbn.mono (by omega)); have hln := Nat.lt_of_lt_of_eq (Nat.lt_succ_self _) hzn.symm; clear hzn; (try have hlt := r1.lt); (try replace r1 := r1.below (hbn.mono hle)); (try have hlt := p1.lt); (try replace p1 := p1.below (hbn.mono hle)); (try have hlt := u1.lt); (try replace u1 := u1.below (hbn.mono hle)); (try have hlt := r2.lt); (try replace r2 := r2.below (hbn.mono hle)); have r2 := ht; clear ht; simp only [putS]) | (have _ := p1; refine wpList_boxT' rfl _ rfl _ rfl ?_; intro b_u1 wn hle hge ht hbn hzn; have hsz := B.size; replace B := B.trans (hbn.mono (by omega)); have hln := Nat.lt_of_lt_of_eq (Nat.lt_succ_self _) hzn.symm; clear hzn; (try have hlt := r1.lt); (try replace r1 := r1.below (hbn.mono hle)); (try have hlt := p1.lt); (try replace p1 := p1.below (hbn.mono hle)); (try have hlt := u1.lt); (try replace u1 := u1.below (hbn.mono hle)); (try have hlt := r2.lt); (try replace r2 := r2.below (hbn.mono hle)); have u1 := ht; clear ht; simp only [putS]) | (have _ := r1; refine wpList_boxB (t := 68) rfl _ rfl _ rfl ?_; intro b_p1 wn hle hge ht hbn hzn; have hsz := B.size; replace B := B.trans (hbn.mono (by omega)); have hln := Nat.lt_of_lt_of_eq (Nat.lt_succ_self _) hzn.symm; clear hzn; (try have hlt := r1.lt); (try replace r1 := r1.below (hbn.mono hle)); (try have hlt := p1.lt); (try replace p1 := p1.below (hbn.mono hle)); (try have hlt := u1.lt); (try replace u1 := u1.below (hbn.mono hle)); (try have hlt := r2.lt); (try replace r2 := r2.below (hbn.mono hle)); have p1 := ht; clear ht; simp only [putS]) | (refine wpList_boxB (t := 34) rfl _ rfl _ rfl ?_; intro b_r1 wn hle hge ht hbn hzn; have hsz := B.size; replace B := B.trans (hbn.mono (by omega)); have hln := Nat.lt_of_lt_of_eq (Nat.lt_succ_self _) hzn.symm; clear hzn; (try have hlt := r1.lt); (try replace r1 := r1.below (hbn.mono hle)); (try have hlt := p1.lt); (try replace p1 := p1.below (hbn.mono hle)); (try have hlt := u1.lt); (try replace u1 := u1.below (hbn.mono hle)); (try have hlt := r2.lt); (try replace r2 := r2.below (hbn.mono hle)); have r1 := ht; clear ht; simp only [putS]) | fail)
   refine wp_region_ov_any 5 #[true, true, true, true, true, false, false, false, false, false, false] (by kernel_rfl) (by kernel_rfl) ?_
   simp only [List.length_cons, List.length_nil, Nat.reduceAdd, Nat.reduceSub, List.take_succ_cons, List.take_zero]
   repeat (first | go_big_quiet_skip | (go_big_quiet_want; first | (refine quiet_loadAny (t := 34) rfl _ _ _ rfl (fun w hw => run_load_B (ov_B r1 w hw) Tryz.isAgg34 (by kernel_rfl)) (by rfl) ?_; simp only [putS]; go_big_quiet_on) | (refine quiet_loadAny (t := 68) rfl _ _ _ rfl (fun w hw => run_load_B (ov_B p1 w hw) Tryz.isAgg68 (by kernel_rfl)) (by rfl) ?_; simp only [putS]; go_big_quiet_on) | (refine quiet_loadT rfl _ rfl (ov_tile u1) ?_; simp only [putS]; go_big_quiet_on) | (go_big_quiet_op; first | go_big_quiet_on | go_big_quiet_call ((first | (go_at_call 50; exact calls_ov (HT.out _ (below_ov B B.size _)).1) | (go_at_call 90; exact calls_ov (P_Clean_t _ _ ht)))))))
   refine wpQuiet_nil ?_
   intro wn hbn
   have hsz := B.size
   have hzn := hbn.size
   replace B := B.trans (hbn.mono B.size)
   try replace r1 := r1.below hbn
   try replace p1 := p1.below hbn
   try replace u1 := u1.below hbn
   try replace r2 := r2.below hbn
   refine any_next 5 rfl (by kernel_rfl) rfl (fun K hK => ?_)
   try simp only [gelS]
   go_simp
   go_at_call 89
   refine (P_with _ (fineL ls) x y (cleanT t) _ (HT.out _ B).2 SR.out CT.out (by omega)).mono ?_
   rintro e wn ⟨v1, rfl, rs1, hbn⟩
   obtain ⟨a1, c1, rfl, hc1⟩ := rs1.len
   have hsz := B.size
   have hzn := hbn.size
   replace B := B.trans (hbn.mono B.size)
   try replace r1 := r1.below hbn
   try replace p1 := p1.below hbn
   try replace u1 := u1.below hbn
   try replace r2 := r2.below hbn
   refine hK _ _ ?_
   clear hK K
   try simp only [gelS]
   simp only [putS]
   refine any_next 6 rfl (by kernel_rfl) rfl (fun K hK => ?_)
   try simp only [gelS]
   go_simp
   go_at_call 88
   refine (P_made _ _ _ _ (by unfold maxLen; omega)).mono ?_
   rintro e wn ⟨rfl, hbn⟩
   rw [if_neg hm]
   have hsz := B.size
   have hzn := hbn.size
   replace B := B.trans (hbn.mono B.size)
   try replace r1 := r1.below hbn
   try replace p1 := p1.below hbn
   try replace u1 := u1.below hbn
   try replace r2 := r2.below hbn
   try replace rs1 := rs1.below hbn
   refine hK _ _ ?_
   clear hK K
   try simp only [gelS]
   simp only [putS]
   refine any_pure 7 rfl (by kernel_rfl) (by kernel_rfl) (by kernel_rfl) rfl (fun w => rfl) ?_
   try simp only [gelS]
   simp only [putS]
   refine any_pure 8 rfl (by kernel_rfl) (by kernel_rfl) (by kernel_rfl) rfl (fun w => rfl) ?_
   try simp only [gelS]
   simp only [putS]
   refine any_next 9 rfl (by kernel_rfl) rfl (fun K hK => ?_)
   try simp only [gelS]
   refine owp_storeB (t := 34) _ _ _ _ rfl rfl rfl r2 (by kernel_rfl) rfl (by simp [Value.oneCell']) ?_
   have r2o := r2
   clear r2
   intro wn r2 hcn hzn
   have hsz := B.size
   replace hzn := Nat.le_of_eq hzn.symm
   replace B := Chg.below B hcn (by omega) B.size
   try replace r1 := r1.of_eq (hcn.block _ r1.lt (by omega))
   try replace p1 := p1.of_eq (hcn.block _ p1.lt (by omega))
   try replace u1 := u1.of_eq (hcn.block _ u1.lt (by omega))
   replace rs1 := rs1.chg r2o (by simp) hcn
   clear r2o
   refine hK _ _ ?_
   clear hK K
   try simp only [gelS]
   simp only [putS]
   refine any_pure 10 rfl (by kernel_rfl) (by kernel_rfl) (by kernel_rfl) rfl (fun w => rfl) ?_
   try simp only [gelS]
   simp only [putS]
   refine any_end (by kernel_rfl) ?_
   go_wp2
   refine bodyPost_ret (results_B2 (t := 34) rfl _ _ (b_r2) rfl _ rfl r2 Tryz.isAgg34 (by kernel_rfl)) rfl ?_
   exact ⟨_, rfl, by rw [e2.out]; exact RS.nil _, B⟩
/- Contracts of Set and Get of package raster. -/
theorem putE_fine (ls : List TA) (x y : Int) (t : Nat → Px) : putE (fineL ls) x y t = putE ls x y t := by unfold putE; rw [fineL_fine]
theorem putR_fine (ls : List TA) (x y : Int) (t : Nat → Px) : putR (fineL ls) x y t = putR ls x y t := by unfold putR; rw [fineL_fine]
theorem getT_getL (ls : List TA) (x y : Int) : getT (tileL ls (x / 8) (y / 8)) (x % 8) (y % 8) = getL ls x y := by
 have : insB (x % 8) (y % 8) = true := decide_eq_true (by omega)
 unfold getT getL posI
 rw [if_pos this]
theorem wf_mk {x : Int} (h1 : -9223372036854775808 ≤ x) (h2 : x ≤ 9223372036854775807) : (Lit.int .i64 x).wf = true := by
 have hmin : IntKind.i64.min = -9223372036854775808 := rfl
 have hmax : IntKind.i64.max = 9223372036854775807 := rfl
 simp only [Lit.wf, Bool.and_eq_true, decide_eq_true_eq]
 rw [hmin, hmax]
 exact ⟨h1, h2⟩
theorem wf_bd {x : Int} (h : (Lit.int .i64 x).wf = true) : -9223372036854775808 ≤ x ∧ x ≤ 9223372036854775807 := by
 have hmin : IntKind.i64.min = -9223372036854775808 := rfl
 have hmax : IntKind.i64.max = 9223372036854775807 := rfl
 simp only [Lit.wf, Bool.and_eq_true, decide_eq_true_eq] at h
 rw [hmin, hmax] at h
 exact h
set_option maxHeartbeats 1000000 in
theorem P_GetR (v : Value) (ls : List TA) (x y : Int) (w : World) (h : RS v ls w) (hn : ls.length ≤ maxLen) (hx : (Lit.int .i64 x).wf = true) (hy : (Lit.int .i64 y).wf = true) : Calls Tryz.prog 58 #[.agg #[v], .int .i64 x, .int .i64 y] w fun e w' => e = .returned (Px.v (getL ls x y)) ∧ Below w.heap.size w w' := by
 have B := Below.refl w.heap.size w
 obtain ⟨a, c, rfl, hc⟩ := h.len
 have HS := Lib.hid h
 clear h
 rw [← getT_getL]
 have b1 := bits_and7 x
 have b2 := bits_and7 y
 go_enter Tryz.func58, Tryz.ntmps58
 go_wp2_with (first | (have _ := r1; refine wpList_allocPx' rfl rfl ?_; intro b_q1 wn hle hge ht hbn hzn; have hsz := B.size; replace B := B.trans (hbn.mono (by omega)); have hln := Nat.lt_of_lt_of_eq (Nat.lt_succ_self _) hzn.symm; clear hzn; (try have hlt := r1.lt); (try replace r1 := r1.below (hbn.mono hle)); (try have hlt := q1.lt); (try replace q1 := q1.below (hbn.mono hle)); have q1 := ht; clear ht; simp only [putS]) | (refine wpList_boxB (t := 34) rfl _ rfl _ rfl ?_; intro b_r1 wn hle hge ht hbn hzn; have hsz := B.size; replace B := B.trans (hbn.mono (by omega)); have hln := Nat.lt_of_lt_of_eq (Nat.lt_succ_self _) hzn.symm; clear hzn; (try have hlt := r1.lt); (try replace r1 := r1.below (hbn.mono hle)); (try have hlt := q1.lt); (try replace q1 := q1.below (hbn.mono hle)); have r1 := ht; clear ht; simp only [putS]) | fail)
 have rs := HS.out.below B
 refine wp_region_ov_tail 11 (by kernel_rfl) (by kernel_rfl) ?_
 simp only [List.take_succ_cons, List.take_zero, List.drop_succ_cons, List.drop_zero]
 repeat (first | go_big_quiet_skip | (go_big_quiet_want; first | (refine quiet_loadAny (t := 34) rfl _ _ _ rfl (fun w hw => run_load_B (ov_B r1 w hw) Tryz.isAgg34 (by kernel_rfl)) (by rfl) ?_; simp only [putS]; go_big_quiet_on) | (go_big_quiet_op; first | go_big_quiet_on | go_big_quiet_call ((first | (go_at_call 52; exact calls_ov (P_At _ _ _ hx hy)) | (go_at_call 53; exact calls_ov (P_Tile _ ls _ _ _ (ov_rs rs _ ⟨_, rfl⟩) hn)) | (go_at_call 94; exact calls_ov (P_Get _ _ _ _)))))))
 refine wpQuiet_nil ?_
 intro wn hbn
 have hsz := B.size
 have hzn := hbn.size
 replace B := B.trans (hbn.mono B.size)
 try replace q1 := q1.below hbn
 go_wp2_with (first | (refine wpList_storePx rfl _ _ rfl _ rfl (_) rfl q1 ?_; clear q1; intro wn ht hcn hzn; have hsz := B.size; replace hzn := Nat.le_of_eq hzn.symm; replace B := Chg.below B hcn (by omega) B.size; have q1 := ht; clear ht; simp only [putS]) | fail)
 refine bodyPost_ret (results_px rfl _ _ (b_q1) rfl q1) rfl ?_
 exact ⟨rfl, B⟩
set_option maxHeartbeats 1000000 in
theorem P_SetR (v : Value) (ls : List TA) (x y : Int) (p : Px) (w : World) (h : RS v ls w) (tk : TokL ls) (hn : ls.length ≤ maxLen) (hx : (Lit.int .i64 x).wf = true) (hy : (Lit.int .i64 y).wf = true) (hp : p.ok) : Calls Tryz.prog 21 #[.agg #[v], .int .i64 x, .int .i64 y, Px.v p] w fun e w' => ∃ v', e = .returned (.tuple #[.agg #[v'], .int .i64 (setE ls x y p)]) ∧ RS v' (setR ls x y p) w' ∧ Below w.heap.size w w' := by
 have B := Below.refl w.heap.size w
 obtain ⟨a', c', hT⟩ := P_tiles v ls w h tk hn
 have HT := Lib.hid hT
 clear hT
 obtain ⟨a, c, rfl, hc⟩ := h.len
 have TK := Lib.hid (fineL_tok tk)
 have hfl : (fineL ls).length ≤ maxLen := by have := fineL_le ls; omega
 have KK : Hid (Tok (setT (tileL (fineL ls) (x / 8) (y / 8)) (x % 8) (y % 8) p)) := Lib.hid (setS_tok tk hp)
 have e1 := Lib.hid (show setE ls x y p = putE (fineL ls) (x / 8) (y / 8) (setT (tileL (fineL ls) (x / 8) (y / 8)) (x % 8) (y % 8) p) from (putE_fine ls _ _ _).symm)
 have e2 := Lib.hid (show setR ls x y p = putR (fineL ls) (x / 8) (y / 8) (setT (tileL (fineL ls) (x / 8) (y / 8)) (x % 8) (y % 8) p) from (putR_fine ls _ _ _).symm)
 have b1 := bits_and7 x
 have b2 := bits_and7 y
 clear tk h
 go_enter Tryz.func21, Tryz.ntmps21
 go_wp2_with (first | (refine wpList_storeT rfl _ _ rfl _ rfl _ rfl u2 ?_; clear u2; intro wn ht hcn hzn; have hsz := B.size; replace hzn := Nat.le_of_eq hzn.symm; replace B := Chg.below B hcn (by omega) B.size; (try replace r1 := r1.of_eq (hcn.block _ r1.lt (by omega))); (try replace q1 := q1.of_eq (hcn.block _ q1.lt (by omega))); (try replace r2 := r2.of_eq (hcn.block _ r2.lt (by omega))); (try replace p2 := p2.of_eq (hcn.block _ p2.lt (by omega))); have u2 := ht; clear ht; simp only [putS]) | (go_at_call 53; refine (P_Tile _ (fineL ls) (x / 8) (y / 8) _ (HT.out _ B).2 hfl).mono ?_; rintro e wn ⟨rfl, hbn⟩; have hsz := B.size; have hzn := hbn.size; replace B := B.trans (hbn.mono B.size); (try replace r1 := r1.below hbn); (try replace q1 := q1.below hbn); (try replace r2 := r2.below hbn); (try replace p2 := p2.below hbn); (try replace u2 := u2.below hbn)) | (have _ := p2; refine wpList_allocT' rfl rfl ?_; intro b_u2 wn hle hge ht hbn hzn; have hsz := B.size; replace B := B.trans (hbn.mono (by omega)); have hln := Nat.lt_of_lt_of_eq (Nat.lt_succ_self _) hzn.symm; clear hzn; (try have hlt := r1.lt); (try replace r1 := r1.below (hbn.mono hle)); (try have hlt := q1.lt); (try replace q1 := q1.below (hbn.mono hle)); (try have hlt := r2.lt); (try replace r2 := r2.below (hbn.mono hle)); (try have hlt := p2.lt); (try replace p2 := p2.below (hbn.mono hle)); (try have hlt := u2.lt); (try replace u2 := u2.below (hbn.mono hle)); have u2 := ht; clear ht; simp only [putS]) | (refine wpList_loadAny (t := 68) rfl _ rfl _ _ _ rfl (run_load_B p2 Tryz.isAgg68 (by kernel_rfl)) (by rfl) ?_; simp only [putS]) | (go_at_call 50; refine (HT.out _ B).1.mono ?_; rintro e wn ⟨rfl, hbn⟩; have hsz := B.size; have hzn := hbn.size; replace B := B.trans (hbn.mono B.size); (try replace r1 := r1.below hbn); (try replace q1 := q1.below hbn); (try replace r2 := r2.below hbn); (try replace p2 := p2.below hbn); (try replace u2 := u2.below hbn)) | (refine wpList_storeB (t := 68) rfl _ _ rfl _ rfl _ rfl p2 (by kernel_rfl) rfl (by simp [Value.oneCell']) ?_; clear p2; intro wn ht hcn hzn; have hsz := B.size; replace hzn := Nat.le_of_eq hzn.symm; replace B := Chg.below B hcn (by omega) B.size; (try replace r1 := r1.of_eq (hcn.block _ r1.lt (by omega))); (try replace q1 := q1.of_eq (hcn.block _ q1.lt (by omega))); (try replace r2 := r2.of_eq (hcn.block _ r2.lt (by omega))); (try replace u2 := u2.of_eq (hcn.block _ u2.lt (by omega))); have p2 := ht; clear ht; simp only [putS]) | (have _ := r2; refine wpList_allocBk (t := 68) rfl _ (run_alloc_Ps _ _ rfl) ?_; intro b_p2 wn hle hge ht hbn hzn; have hsz := B.size; replace B := B.trans (hbn.mono (by omega)); have hln := Nat.lt_of_lt_of_eq (Nat.lt_succ_self _) hzn.symm; clear hzn; (try have hlt := r1.lt); (try replace r1 := r1.below (hbn.mono hle)); (try have hlt := q1.lt); (try replace q1 := q1.below (hbn.mono hle)); (try have hlt := r2.lt); (try replace r2 := r2.below (hbn.mono hle)); (try have hlt := p2.lt); (try replace p2 := p2.below (hbn.mono hle)); (try have hlt := u2.lt); (try replace u2 := u2.below (hbn.mono hle)); have p2 := ht; clear ht; simp only [putS]) | (go_at_call 52; refine (P_At _ _ _ hx hy).mono ?_; rintro e wn ⟨rfl, hbn⟩; have hsz := B.size; have hzn := hbn.size; replace B := B.trans (hbn.mono B.size); (try replace r1 := r1.below hbn); (try replace q1 := q1.below hbn); (try replace r2 := r2.below hbn); (try replace p2 := p2.below hbn); (try replace u2 := u2.below hbn)) | (have _ := q1; refine wpList_allocBk (t := 34) rfl _ (run_alloc_R _ _ rfl) ?_; intro b_r2 wn hle hge ht hbn hzn; have hsz := B.size; replace B := B.trans (hbn.mono (by omega)); have hln := Nat.lt_of_lt_of_eq (Nat.lt_succ_self _) hzn.symm; clear hzn; (try have hlt := r1.lt); (try replace r1 := r1.below (hbn.mono hle)); (try have hlt := q1.lt); (try replace q1 := q1.below (hbn.mono hle)); (try have hlt := r2.lt); (try replace r2 := r2.below (hbn.mono hle)); (try have hlt := p2.lt); (try replace p2 := p2.below (hbn.mono hle)); (try have hlt := u2.lt); (try replace u2 := u2.below (hbn.mono hle)); have r2 := ht; clear ht; simp only [putS]) | (have _ := r1; refine wpList_boxPx' rfl _ rfl _ rfl ?_; intro b_q1 wn hle hge ht hbn hzn; have hsz := B.size; replace B := B.trans (hbn.mono (by omega)); have hln := Nat.lt_of_lt_of_eq (Nat.lt_succ_self _) hzn.symm; clear hzn; (try have hlt := r1.lt); (try replace r1 := r1.below (hbn.mono hle)); (try have hlt := q1.lt); (try replace q1 := q1.below (hbn.mono hle)); (try have hlt := r2.lt); (try replace r2 := r2.below (hbn.mono hle)); (try have hlt := p2.lt); (try replace p2 := p2.below (hbn.mono hle)); (try have hlt := u2.lt); (try replace u2 := u2.below (hbn.mono hle)); have q1 := ht; clear ht; simp only [putS]) | (refine wpList_loadAny (t := 34) rfl _ rfl _ _ _ rfl (run_load_B r1 Tryz.isAgg34 (by kernel_rfl)) (by rfl) ?_; simp only [putS]) | (refine wpList_boxB (t := 34) rfl _ rfl _ rfl ?_; intro b_r1 wn hle hge ht hbn hzn; have hsz := B.size; replace B := B.trans (hbn.mono (by omega)); have hln := Nat.lt_of_lt_of_eq (Nat.lt_succ_self _) hzn.symm; clear hzn; (try have hlt := r1.lt); (try replace r1 := r1.below (hbn.mono hle)); (try have hlt := q1.lt); (try replace q1 := q1.below (hbn.mono hle)); (try have hlt := r2.lt); (try replace r2 := r2.below (hbn.mono hle)); (try have hlt := p2.lt); (try replace p2 := p2.below (hbn.mono hle)); (try have hlt := u2.lt); (try replace u2 := u2.below (hbn.mono hle)); have r1 := ht; clear ht; simp only [putS]) | fail)
 refine wp_region_ov_any 10 #[true, true, true, true, true, true, true, true, true, true, false, false, false, false, false] (by kernel_rfl) (by kernel_rfl) ?_
 simp only [List.length_cons, List.length_nil, Nat.reduceAdd, Nat.reduceSub, List.take_succ_cons, List.take_zero]
 repeat (first | go_big_quiet_skip | (go_big_quiet_want; first | (refine quiet_loadAny (t := 68) rfl _ _ _ rfl (fun w hw => run_load_B (ov_B p2 w hw) Tryz.isAgg68 (by kernel_rfl)) (by rfl) ?_; simp only [putS]; go_big_quiet_on) | (refine quiet_loadT rfl _ rfl (ov_tile u2) ?_; simp only [putS]; go_big_quiet_on) | (refine quiet_loadPx rfl _ rfl (ov_px q1) ?_; simp only [putS]; go_big_quiet_on) | (go_big_quiet_op; first | go_big_quiet_on | go_big_quiet_call ((first | (go_at_call 55; exact calls_ov (P_Set _ _ _ _ _)))))))
 refine wpQuiet_nil ?_
 intro wn hbn
 have hsz := B.size
 have hzn := hbn.size
 replace B := B.trans (hbn.mono B.size)
 try replace r1 := r1.below hbn
 try replace q1 := q1.below hbn
 try replace r2 := r2.below hbn
 try replace p2 := p2.below hbn
 try replace u2 := u2.below hbn
 refine any_next 10 rfl (by kernel_rfl) rfl (fun K hK => ?_)
 try simp only [gelS]
 go_simp
 go_at_call 54
 refine (P_Put _ (fineL ls) (x / 8) (y / 8) _ _ (HT.out _ B).2 TK.out hfl KK.out).mono ?_
 rintro e wn ⟨v1, rfl, rs1, hbn⟩
 obtain ⟨a1, c1, rfl, hc1⟩ := rs1.len
 have hsz := B.size
 have hzn := hbn.size
 replace B := B.trans (hbn.mono B.size)
 try replace r1 := r1.below hbn
 try replace q1 := q1.below hbn
 try replace r2 := r2.below hbn
 try replace p2 := p2.below hbn
 try replace u2 := u2.below hbn
 refine hK _ _ ?_
 clear hK K
 try simp only [gelS]
 simp only [putS]
 refine any_pure 11 rfl (by kernel_rfl) (by kernel_rfl) (by kernel_rfl) rfl (fun w => rfl) ?_
 try simp only [gelS]
 simp only [putS]
 refine any_pure 12 rfl (by kernel_rfl) (by kernel_rfl) (by kernel_rfl) rfl (fun w => rfl) ?_
 try simp only [gelS]
 simp only [putS]
 refine any_next 13 rfl (by kernel_rfl) rfl (fun K hK => ?_)
 try simp only [gelS]
 refine owp_storeB (t := 34) _ _ _ _ rfl rfl rfl r2 (by kernel_rfl) rfl (by simp [Value.oneCell']) ?_
 have r2o := r2
 clear r2
 intro wn r2 hcn hzn
 have hsz := B.size
 replace hzn := Nat.le_of_eq hzn.symm
 replace B := Chg.below B hcn (by omega) B.size
 try replace r1 := r1.of_eq (hcn.block _ r1.lt (by omega))
 try replace q1 := q1.of_eq (hcn.block _ q1.lt (by omega))
 try replace p2 := p2.of_eq (hcn.block _ p2.lt (by omega))
 try replace u2 := u2.of_eq (hcn.block _ u2.lt (by omega))
 replace rs1 := rs1.chg r2o (by simp) hcn
 clear r2o
 refine hK _ _ ?_
 clear hK K
 try simp only [gelS]
 simp only [putS]
 refine any_pure 14 rfl (by kernel_rfl) (by kernel_rfl) (by kernel_rfl) rfl (fun w => rfl) ?_
 try simp only [gelS]
 simp only [putS]
 refine any_end (by kernel_rfl) ?_
 go_wp2
 refine bodyPost_ret (results_B2 (t := 34) rfl _ _ (b_r2) rfl _ rfl r2 Tryz.isAgg34 (by kernel_rfl)) rfl ?_
 refine ⟨_, by rw [e1.out]; rfl, ?_, B⟩
 rw [e2.out]
 exact rs1
/- Contracts of the reference's Of, many, put, Put, Set, Get. -/
theorem R_Of0 (a : Option Addr) (c : Nat) (ls : List TA) (w : World) (h : RS (.slice a ls.length c) ls w) (tk : TokL ls) (hn : ls.length ≤ maxLen) : Calls Tryz.prog 40 #[.agg #[.slice a ls.length c]] w fun e w' => e = .returned (.agg #[if validL ls = true then .slice a ls.length c else .slice none 0 0]) ∧ Below w.heap.size w w' := by
 have B := Below.refl w.heap.size w
 have HS := Lib.hid h
 clear h
 cases hv : validL ls with
 | true =>
  rw [if_pos rfl]
  go_enter Tryz.func40, Tryz.ntmps40
  go_wp2_with (first | (refine wpList_storeB (t := 34) rfl _ _ rfl _ rfl _ rfl r2 (by kernel_rfl) rfl (by simp [Value.oneCell']) ?_; clear r2; intro wn ht hcn hzn; have hsz := B.size; replace hzn := Nat.le_of_eq hzn.symm; replace B := Chg.below B hcn (by omega) B.size; (try replace r1 := r1.of_eq (hcn.block _ r1.lt (by omega))); have r2 := ht; clear ht; simp only [putS]) | (go_at_call 76; refine (R_Valid _ ls _ (HS.out.below B) tk hn).mono ?_; rintro e wn ⟨rfl, hbn⟩; have hsz := B.size; have hzn := hbn.size; replace B := B.trans (hbn.mono B.size); (try replace r1 := r1.below hbn); (try replace r2 := r2.below hbn)) | (refine wpList_loadAny (t := 34) rfl _ rfl _ _ _ rfl (run_load_B r1 Tryz.isAgg34 (by kernel_rfl)) (by rfl) ?_; simp only [putS]) | (have _ := r1; refine wpList_allocBk (t := 34) rfl _ (run_alloc_R _ _ rfl) ?_; intro b_r2 wn hle hge ht hbn hzn; have hsz := B.size; replace B := B.trans (hbn.mono (by omega)); have hln := Nat.lt_of_lt_of_eq (Nat.lt_succ_self _) hzn.symm; clear hzn; (try have hlt := r1.lt); (try replace r1 := r1.below (hbn.mono hle)); (try have hlt := r2.lt); (try replace r2 := r2.below (hbn.mono hle)); have r2 := ht; clear ht; simp only [putS]) | (refine wpList_boxB (t := 34) rfl _ rfl _ rfl ?_; intro b_r1 wn hle hge ht hbn hzn; have hsz := B.size; replace B := B.trans (hbn.mono (by omega)); have hln := Nat.lt_of_lt_of_eq (Nat.lt_succ_self _) hzn.symm; clear hzn; (try have hlt := r1.lt); (try replace r1 := r1.below (hbn.mono hle)); (try have hlt := r2.lt); (try replace r2 := r2.below (hbn.mono hle)); have r1 := ht; clear ht; simp only [putS]) | fail)
  refine bodyPost_ret (results_B (t := 34) rfl _ _ (b_r2) rfl r2 Tryz.isAgg34 (by kernel_rfl)) rfl ?_
  exact ⟨rfl, B⟩
 | false =>
  rw [if_neg (by decide)]
  go_enter Tryz.func40, Tryz.ntmps40
  go_wp2_with (first | (refine wpList_storeB (t := 34) rfl _ _ rfl _ rfl _ rfl r2 (by kernel_rfl) rfl (by simp [Value.oneCell']) ?_; clear r2; intro wn ht hcn hzn; have hsz := B.size; replace hzn := Nat.le_of_eq hzn.symm; replace B := Chg.below B hcn (by omega) B.size; (try replace r1 := r1.of_eq (hcn.block _ r1.lt (by omega))); have r2 := ht; clear ht; simp only [putS]) | (go_at_call 76; refine (R_Valid _ ls _ (HS.out.below B) tk hn).mono ?_; rintro e wn ⟨rfl, hbn⟩; have hsz := B.size; have hzn := hbn.size; replace B := B.trans (hbn.mono B.size); (try replace r1 := r1.below hbn); (try replace r2 := r2.below hbn)) | (refine wpList_loadAny (t := 34) rfl _ rfl _ _ _ rfl (run_load_B r1 Tryz.isAgg34 (by kernel_rfl)) (by rfl) ?_; simp only [putS]) | (have _ := r1; refine wpList_allocBk (t := 34) rfl _ (run_alloc_R _ _ rfl) ?_; intro b_r2 wn hle hge ht hbn hzn; have hsz := B.size; replace B := B.trans (hbn.mono (by omega)); have hln := Nat.lt_of_lt_of_eq (Nat.lt_succ_self _) hzn.symm; clear hzn; (try have hlt := r1.lt); (try replace r1 := r1.below (hbn.mono hle)); (try have hlt := r2.lt); (try replace r2 := r2.below (hbn.mono hle)); have r2 := ht; clear ht; simp only [putS]) | (refine wpList_boxB (t := 34) rfl _ rfl _ rfl ?_; intro b_r1 wn hle hge ht hbn hzn; have hsz := B.size; replace B := B.trans (hbn.mono (by omega)); have hln := Nat.lt_of_lt_of_eq (Nat.lt_succ_self _) hzn.symm; clear hzn; (try have hlt := r1.lt); (try replace r1 := r1.below (hbn.mono hle)); (try have hlt := r2.lt); (try replace r2 := r2.below (hbn.mono hle)); have r1 := ht; clear ht; simp only [putS]) | fail)
  refine bodyPost_ret (results_B (t := 34) rfl _ _ (b_r2) rfl r2 Tryz.isAgg34 (by kernel_rfl)) rfl ?_
  exact ⟨rfl, B⟩
/-- The raster that Of returns: known ahead of the walk. -/
theorem R_Of (v : Value) (ls : List TA) (w : World) (h : RS v ls w) (tk : TokL ls) (hn : ls.length ≤ maxLen) : ∃ a c, ∀ w', Below w.heap.size w w' → (Calls Tryz.prog 40 #[.agg #[v]] w' fun e w'' => e = .returned (.agg #[.slice a (fineL ls).length c]) ∧ Below w'.heap.size w' w'') ∧ RS (.slice a (fineL ls).length c) (fineL ls) w' := by
 obtain ⟨a, c, rfl, hc⟩ := h.len
 cases hv : validL ls with
 | true =>
  rw [fineL_of hv]
  refine ⟨a, c, fun w' hb => ⟨?_, h.below hb⟩⟩
  have := R_Of0 a c ls w' (h.below hb) tk hn
  rw [hv, if_pos rfl] at this
  exact this
 | false =>
  rw [fineL_no hv]
  refine ⟨none, 0, fun w' hb => ⟨?_, RS.nil _⟩⟩
  have := R_Of0 a c ls w' (h.below hb) tk hn
  rw [hv, if_neg (by decide)] at this
  exact this
theorem run_alloc_G (w : World) (o : Oper) (ho : o.op = .alloc 63) (ev : Operand → Value) : (execOp ev o).run Tryz.prog w = .ok (.value (.pointer (some ⟨w.heap.size, 0, none⟩))) (w.alloc (.cells #[.slice none 0 0, .int .i64 0] 63)) := by
 obtain ⟨d, p, t, ps, af, gd⟩ := o
 simp only at ho
 subst ho
 kernel_rfl
theorem R_many (a : Option Addr) (n c : Nat) (w : World) (hn : n ≤ maxLen) : Calls Tryz.prog 112 #[.agg #[.slice a n c]] w fun e w' => e = .returned (if n ≤ 1024 then .agg #[.slice a n c, .int .i64 0] else .agg #[.slice none 0 0, .int .i64 2]) ∧ Below w.heap.size w w' := by
 have B := Below.refl w.heap.size w
 by_cases h : n ≤ 1024
 ·rw [if_pos h]
  have d1 : decide (1024 < (n : Int)) = false := decide_eq_false (by omega)
  go_enter Tryz.func112, Tryz.ntmps112
  go_wp2_with (first | (refine wpList_storeB (t := 63) rfl _ _ rfl _ rfl _ rfl g2 (by kernel_rfl) rfl (by simp [Value.oneCell']) ?_; clear g2; intro wn ht hcn hzn; have hsz := B.size; replace hzn := Nat.le_of_eq hzn.symm; replace B := Chg.below B hcn (by omega) B.size; (try replace r1 := r1.of_eq (hcn.block _ r1.lt (by omega))); have g2 := ht; clear ht; simp only [putS]) | (refine wpList_loadAny (t := 34) rfl _ rfl _ _ _ rfl (run_load_B r1 Tryz.isAgg34 (by kernel_rfl)) (by rfl) ?_; simp only [putS]) | (refine wpList_loadAny (t := 32) rfl _ rfl _ _ _ rfl (run_load_sl r1.cell0) (by rfl) ?_; simp only [putS]) | (have _ := r1; refine wpList_allocBk (t := 63) rfl _ (run_alloc_G _ _ rfl) ?_; intro b_g2 wn hle hge ht hbn hzn; have hsz := B.size; replace B := B.trans (hbn.mono (by omega)); have hln := Nat.lt_of_lt_of_eq (Nat.lt_succ_self _) hzn.symm; clear hzn; (try have hlt := r1.lt); (try replace r1 := r1.below (hbn.mono hle)); (try have hlt := g2.lt); (try replace g2 := g2.below (hbn.mono hle)); have g2 := ht; clear ht; simp only [putS]) | (refine wpList_boxB (t := 34) rfl _ rfl _ rfl ?_; intro b_r1 wn hle hge ht hbn hzn; have hsz := B.size; replace B := B.trans (hbn.mono (by omega)); have hln := Nat.lt_of_lt_of_eq (Nat.lt_succ_self _) hzn.symm; clear hzn; (try have hlt := r1.lt); (try replace r1 := r1.below (hbn.mono hle)); (try have hlt := g2.lt); (try replace g2 := g2.below (hbn.mono hle)); have r1 := ht; clear ht; simp only [putS]) | fail)
  refine bodyPost_ret (results_B (t := 63) rfl _ _ (b_g2) rfl g2 Tryz.isAgg63 (by kernel_rfl)) rfl ?_
  exact ⟨rfl, B⟩
 ·rw [if_neg h]
  have d1 : decide (1024 < (n : Int)) = true := decide_eq_true (by omega)
  go_enter Tryz.func112, Tryz.ntmps112
  go_wp2_with (first | (refine wpList_storeB (t := 63) rfl _ _ rfl _ rfl _ rfl g2 (by kernel_rfl) rfl (by simp [Value.oneCell']) ?_; clear g2; intro wn ht hcn hzn; have hsz := B.size; replace hzn := Nat.le_of_eq hzn.symm; replace B := Chg.below B hcn (by omega) B.size; (try replace r1 := r1.of_eq (hcn.block _ r1.lt (by omega))); have g2 := ht; clear ht; simp only [putS]) | (refine wpList_loadAny (t := 34) rfl _ rfl _ _ _ rfl (run_load_B r1 Tryz.isAgg34 (by kernel_rfl)) (by rfl) ?_; simp only [putS]) | (refine wpList_loadAny (t := 32) rfl _ rfl _ _ _ rfl (run_load_sl r1.cell0) (by rfl) ?_; simp only [putS]) | (have _ := r1; refine wpList_allocBk (t := 63) rfl _ (run_alloc_G _ _ rfl) ?_; intro b_g2 wn hle hge ht hbn hzn; have hsz := B.size; replace B := B.trans (hbn.mono (by omega)); have hln := Nat.lt_of_lt_of_eq (Nat.lt_succ_self _) hzn.symm; clear hzn; (try have hlt := r1.lt); (try replace r1 := r1.below (hbn.mono hle)); (try have hlt := g2.lt); (try replace g2 := g2.below (hbn.mono hle)); have g2 := ht; clear ht; simp only [putS]) | (refine wpList_boxB (t := 34) rfl _ rfl _ rfl ?_; intro b_r1 wn hle hge ht hbn hzn; have hsz := B.size; replace B := B.trans (hbn.mono (by omega)); have hln := Nat.lt_of_lt_of_eq (Nat.lt_succ_self _) hzn.symm; clear hzn; (try have hlt := r1.lt); (try replace r1 := r1.below (hbn.mono hle)); (try have hlt := g2.lt); (try replace g2 := g2.below (hbn.mono hle)); have r1 := ht; clear ht; simp only [putS]) | fail)
  refine bodyPost_ret (results_B (t := 63) rfl _ _ (b_g2) rfl g2 Tryz.isAgg63 (by kernel_rfl)) rfl ?_
  exact ⟨rfl, B⟩
/-! ### put -/
theorem wpList_storeO {v : Value} {ops : Array Oper} {rest : List Oper} {o : Oper} {a : Act} {w : World} {Q : Exit → Act → World → Prop} (hg : o.guard = none) (x y : Operand) (ho : o.op = .store 32 x y) (b : Nat) (hx : a.eval x = .pointer (some ⟨b, 0, none⟩)) (a' : Option Addr) (n' c' : Nat) (hy : a.eval y = .slice a' n' c') (ht : AtB 34 w b #[v])
  (h : ∀ w', AtB 34 w' b #[.slice a' n' c'] → Chg b w w' → w'.heap.size = w.heap.size → wpList Tryz.prog ops Q rest (a.put o.dst undef) w') : wpList Tryz.prog ops Q (o :: rest) a w := by
 have c0 := ht.cell0
 have f0 := ht.frozen 0
 refine wpList_storeAny hg x y ho (w.setCell ⟨b, 0, none⟩ (.slice a' n' c')) ?_ (h _ ?_ ((Chg.refl b w).setCell _) (by simp only [World.size_setCell]))
 ·rw [hx, hy]
  simp [go_sem, c0, f0]
 ·exact heap_setCell_same w b 0 #[v] _ _ ht
theorem owp_bs1T {o : Oper} {a : Act} {w : World} {Q : Exit → Act → World → Prop} {K : Act → World → Prop} (x : Operand) (ho : o.op = .buildSlice 32 1 #[(0, x)]) (e : TA) (hx : a.eval x = .agg (taC e))
  (h : ∀ b w', w.heap.size ≤ b → b ≤ w.heap.size → AtB 72 w' b (taC e) → Below b w w' → w'.heap.size = b + 1 → K (a.put o.dst (.slice (some ⟨b, 0, none⟩) 1 1)) w') : o.wp Tryz.prog a w K Q := by
 obtain ⟨i, hi⟩ : ∃ i, Tryz.prog.info? 72 = some i := by
  cases h : Tryz.prog.info? 72 with
  | some i => exact ⟨i, rfl⟩
  | none => have e := ta_info; rw [h] at e; cases e
 have e1 := ta_info
 rw [hi] at e1
 have e1' : i.size = 258 ∧ i.bytes = 272 := by simpa using e1
 have hz := ta_zero
 rw [hi] at hz
 refine wp_buildSlice 32 72 1 #[(0, x)] ho (taC e) i _ Tryz.underlying32 hi hz (by rw [e1'.1]; omega) (by rw [e1'.1]; omega) ?_ (h _ _ (Nat.le_refl _) (Nat.le_refl _) (by unfold AtB; rw [heap_get_alloc, if_pos rfl]) ((Below.refl _ _).alloc (Nat.le_refl _) _) (World.size_alloc _ _))
 rw [e1'.1]
 have hp : ((#[(0, x)] : Array (Nat × Operand)).map fun (i, x) => (i, a.eval x)).toList = [(0, Value.agg (taC e))] := by simp [hx]
 rw [hp]
 exact fill_bs1 e _ (by simp)
/-- What is left of the reference's put, its rest told. -/
theorem rput_cons (x y : Int) (t : Nat → Px) (d : Bool) (e : TA) (r : List TA) : rputL x y t d (e :: r) = if (!d && lessB x y e.x e.y) = true then ⟨x, y, t⟩ :: (if eqB e.x e.y x y = true then rputL x y t true r else e :: rputL x y t true r)
 else if eqB e.x e.y x y = true then rputL x y t d r else e :: rputL x y t d r := rfl
set_option maxHeartbeats 2000000 in
theorem R_put (v : Value) (ls : List TA) (x y : Int) (t0 t : Nat → Px) (w : World) (h : RS v ls w) (hs : Srt ls) (ht0 : Tok t0) (htc : t = cleanT t0) (hn : ls.length ≤ 4000) : Calls Tryz.prog 113 #[.agg #[v], .agg #[.int .i64 x, .int .i64 y], Tile.v t0] w fun e w' => ∃ v', e = .returned (.agg #[v']) ∧ RS v' (putL ls x y t) w' ∧ Below w.heap.size w w' := by
 have B := Below.refl w.heap.size w
 obtain ⟨a, c, rfl, hc⟩ := h.len
 have HS := Lib.hid h
 have FIN := Lib.hid (rputL_eq x y t ls hs)
 clear h hs
 go_enter Tryz.func113, Tryz.ntmps113
 subst htc
 generalize htt : cleanT t0 = t at *
 have CL : ∀ w, Calls Tryz.prog 120 #[Tile.v t0] w fun e w' => e = .returned (Tile.v t) ∧ Below w.heap.size w w' := fun w => htt ▸ R_Clean_t t0 w ht0
 have CLH := Lib.hid CL
 clear CL htt
 go_wp2_with (first | (go_at_call 118; refine (R_Zero _ _).mono ?_; rintro e wn ⟨rfl, hbn⟩; have hsz := B.size; have hzn := hbn.size; replace B := B.trans (hbn.mono B.size); (try replace r1 := r1.below hbn); (try replace p1 := p1.below hbn); (try replace u1 := u1.below hbn); (try replace r2 := r2.below hbn); (try replace r3 := r3.below hbn); (try replace od := od.below hbn); (try replace rc := rc.below hbn)) | (refine wpList_storeT rfl _ _ rfl _ rfl _ rfl u1 ?_; clear u1; intro wn ht hcn hzn; have hsz := B.size; replace hzn := Nat.le_of_eq hzn.symm; replace B := Chg.below B hcn (by omega) B.size; (try replace r1 := r1.of_eq (hcn.block _ r1.lt (by omega))); (try replace p1 := p1.of_eq (hcn.block _ p1.lt (by omega))); (try replace r2 := r2.of_eq (hcn.block _ r2.lt (by omega))); (try replace r3 := r3.of_eq (hcn.block _ r3.lt (by omega))); (try replace od := od.of_eq (hcn.block _ od.lt (by omega))); (try replace rc := rc.of_eq (hcn.block _ rc.lt (by omega))); have u1 := ht; clear ht; simp only [putS]) | (go_at_call 120; refine (CLH.out _).mono ?_; rintro e wn ⟨rfl, hbn⟩; have hsz := B.size; have hzn := hbn.size; replace B := B.trans (hbn.mono B.size); (try replace r1 := r1.below hbn); (try replace p1 := p1.below hbn); (try replace u1 := u1.below hbn); (try replace r2 := r2.below hbn); (try replace r3 := r3.below hbn); (try replace od := od.below hbn); (try replace rc := rc.below hbn)) | (refine wpList_loadT rfl _ rfl _ rfl u1 ?_; simp only [putS]) | (refine wpList_storeB (t := 34) rfl _ _ rfl _ rfl _ rfl r3 (by kernel_rfl) rfl (by simp [Value.oneCell']) ?_; clear r3; intro wn ht hcn hzn; have hsz := B.size; replace hzn := Nat.le_of_eq hzn.symm; replace B := Chg.below B hcn (by omega) B.size; (try replace r1 := r1.of_eq (hcn.block _ r1.lt (by omega))); (try replace p1 := p1.of_eq (hcn.block _ p1.lt (by omega))); (try replace u1 := u1.of_eq (hcn.block _ u1.lt (by omega))); (try replace r2 := r2.of_eq (hcn.block _ r2.lt (by omega))); (try replace od := od.of_eq (hcn.block _ od.lt (by omega))); (try replace rc := rc.of_eq (hcn.block _ rc.lt (by omega))); have r3 := ht; clear ht; simp only [putS]) | (have _ := r2; refine wpList_allocBk (t := 34) rfl _ (run_alloc_R _ _ rfl) ?_; intro b_r3 wn hle hge ht hbn hzn; have hsz := B.size; replace B := B.trans (hbn.mono (by omega)); have hln := Nat.lt_of_lt_of_eq (Nat.lt_succ_self _) hzn.symm; clear hzn; (try have hlt := r1.lt); (try replace r1 := r1.below (hbn.mono hle)); (try have hlt := p1.lt); (try replace p1 := p1.below (hbn.mono hle)); (try have hlt := u1.lt); (try replace u1 := u1.below (hbn.mono hle)); (try have hlt := r2.lt); (try replace r2 := r2.below (hbn.mono hle)); (try have hlt := r3.lt); (try replace r3 := r3.below (hbn.mono hle)); (try have hlt := od.lt); (try replace od := od.below (hbn.mono hle)); (try have hlt := rc.lt); (try replace rc := rc.below (hbn.mono hle)); have r3 := ht; clear ht; simp only [putS]) | (have _ := u1; refine wpList_allocBk (t := 34) rfl _ (run_alloc_R _ _ rfl) ?_; intro b_r2 wn hle hge ht hbn hzn; have hsz := B.size; replace B := B.trans (hbn.mono (by omega)); have hln := Nat.lt_of_lt_of_eq (Nat.lt_succ_self _) hzn.symm; clear hzn; (try have hlt := r1.lt); (try replace r1 := r1.below (hbn.mono hle)); (try have hlt := p1.lt); (try replace p1 := p1.below (hbn.mono hle)); (try have hlt := u1.lt); (try replace u1 := u1.below (hbn.mono hle)); (try have hlt := r2.lt); (try replace r2 := r2.below (hbn.mono hle)); (try have hlt := r3.lt); (try replace r3 := r3.below (hbn.mono hle)); (try have hlt := od.lt); (try replace od := od.below (hbn.mono hle)); (try have hlt := rc.lt); (try replace rc := rc.below (hbn.mono hle)); have r2 := ht; clear ht; simp only [putS]) | (have _ := p1; refine wpList_boxT' rfl _ rfl _ rfl ?_; intro b_u1 wn hle hge ht hbn hzn; have hsz := B.size; replace B := B.trans (hbn.mono (by omega)); have hln := Nat.lt_of_lt_of_eq (Nat.lt_succ_self _) hzn.symm; clear hzn; (try have hlt := r1.lt); (try replace r1 := r1.below (hbn.mono hle)); (try have hlt := p1.lt); (try replace p1 := p1.below (hbn.mono hle)); (try have hlt := u1.lt); (try replace u1 := u1.below (hbn.mono hle)); (try have hlt := r2.lt); (try replace r2 := r2.below (hbn.mono hle)); (try have hlt := r3.lt); (try replace r3 := r3.below (hbn.mono hle)); (try have hlt := od.lt); (try replace od := od.below (hbn.mono hle)); (try have hlt := rc.lt); (try replace rc := rc.below (hbn.mono hle)); have u1 := ht; clear ht; simp only [putS]) | (have _ := r1; refine wpList_boxB (t := 68) rfl _ rfl _ rfl ?_; intro b_p1 wn hle hge ht hbn hzn; have hsz := B.size; replace B := B.trans (hbn.mono (by omega)); have hln := Nat.lt_of_lt_of_eq (Nat.lt_succ_self _) hzn.symm; clear hzn; (try have hlt := r1.lt); (try replace r1 := r1.below (hbn.mono hle)); (try have hlt := p1.lt); (try replace p1 := p1.below (hbn.mono hle)); (try have hlt := u1.lt); (try replace u1 := u1.below (hbn.mono hle)); (try have hlt := r2.lt); (try replace r2 := r2.below (hbn.mono hle)); (try have hlt := r3.lt); (try replace r3 := r3.below (hbn.mono hle)); (try have hlt := od.lt); (try replace od := od.below (hbn.mono hle)); (try have hlt := rc.lt); (try replace rc := rc.below (hbn.mono hle)); have p1 := ht; clear ht; simp only [putS]) | (refine wpList_boxB (t := 34) rfl _ rfl _ rfl ?_; intro b_r1 wn hle hge ht hbn hzn; have hsz := B.size; replace B := B.trans (hbn.mono (by omega)); have hln := Nat.lt_of_lt_of_eq (Nat.lt_succ_self _) hzn.symm; clear hzn; (try have hlt := r1.lt); (try replace r1 := r1.below (hbn.mono hle)); (try have hlt := p1.lt); (try replace p1 := p1.below (hbn.mono hle)); (try have hlt := u1.lt); (try replace u1 := u1.below (hbn.mono hle)); (try have hlt := r2.lt); (try replace r2 := r2.below (hbn.mono hle)); (try have hlt := r3.lt); (try replace r3 := r3.below (hbn.mono hle)); (try have hlt := od.lt); (try replace od := od.below (hbn.mono hle)); (try have hlt := rc.lt); (try replace rc := rc.below (hbn.mono hle)); have r1 := ht; clear ht; simp only [putS]) | fail)
 have qr1 := r1.lt
 have qp1 := p1.lt
 have qu1 := u1.lt
 have qr2 := r2.lt
 have qr3 := r3.lt
 obtain ⟨b0, hb0⟩ : ∃ n, n = wn.heap.size := ⟨_, rfl⟩
 have k1 : w.heap.size ≤ b_r1 := by omega
 have k2 : b_r1 < b_p1 := by omega
 have k3 : b_p1 < b_u1 := by omega
 have k4 : b_u1 < b_r2 := by omega
 have k5 : b_r2 < b_r3 := by omega
 have k6 : b_r3 < b0 := by omega
 have k7 : b0 ≤ wn.heap.size := by omega
 have od0 := OwnT.nil b0 wn
 go_loopw [9, 10] (fun d i wr => ∃ (k : Nat) (dd : Bool) (acc : List TA) (a3 : Option Addr) (n3 c3 : Nat), k ≤ ls.length ∧ i = .int .i64 k ∧ d = .bool dd ∧ acc ++ rputL x y t dd (ls.drop k) = putL ls x y t ∧ acc.length ≤ 2 * k ∧ n3 = acc.length ∧ Below w.heap.size w wr ∧ b0 ≤ wr.heap.size ∧ AtB 34 wr b_r1 #[.slice a ls.length c] ∧ AtB 68 wr b_p1 #[.int .i64 x, .int .i64 y] ∧ TileAt wr b_u1 t ∧ AtB 34 wr b_r2 #[.slice none 0 0] ∧ AtB 34 wr b_r3 #[.slice a3 n3 c3] ∧ OwnT b0 (.slice a3 n3 c3) acc wr) (fun _ i _ => (ls.length - intOf i).toNat)
 case atStart => exact ⟨0, zeroB t, [], none, 0, 0, by omega, rfl, rfl, FIN.out, by simp, rfl, B, k7, r1, p1, u1, r2, r3, od0⟩
 case round =>
  clear B r1 p1 u1 r2 r3 od0 hb0 k7 qr1 qp1 qu1 qr2 qr3
  obtain ⟨k, dd, acc, a3, n3, c3, hk, rfl, rfl, hacc, hal, rfl, B, hwb, r1, p1, u1, r2, r3, od⟩ := hrel
  by_cases hkl : k < ls.length
  ·obtain ⟨g, o, rfl, rc0⟩ := HS.out.at (by omega)
   have hg0 := rc0.lt
   have rc := rc0.of_eq (B.block _ rc0.lt)
   clear rc0
   obtain ⟨e, he⟩ : ∃ e, aT ls k = e := ⟨_, rfl⟩
   rw [drop_eq hkl, he, rput_cons] at hacc
   have hneq : ∀ w, (binOp .neq 68 (Ps.v e.x e.y) (.agg #[.int .i64 x, .int .i64 y])).run Tryz.prog w = .ok (.bool (!eqB e.x e.y x y)) w := fun w => neq_pos _ _ _ _ w
   cases h3 : eqB e.x e.y x y with
   | true =>
    cases dd with
    | true =>
     rw [h3] at hacc
     simp at hacc
     have HA := Lib.hid hacc
     clear hacc
     go_wp2_with (first | (refine wpList_loadAny (t := 32) rfl _ rfl _ _ _ rfl (run_load_sl r1.cell0) (by rfl) ?_; simp only [putS]) | fail)
     refine wp_region_ov (by kernel_rfl) (by kernel_rfl) ?_
     repeat (first | go_big_quiet_skip | (go_big_quiet_want; first | (refine quiet_loadAny (t := 68) rfl _ _ _ rfl (fun w hw => run_load_B (ov_B p1 w hw) Tryz.isAgg68 (by kernel_rfl)) (by rfl) ?_; simp only [putS]; go_big_quiet_on) | (refine quiet_loadAny (t := 32) rfl _ _ _ rfl (fun w hw => run_load_sl (ov_B r1 w hw).cell0) (by rfl) ?_; simp only [putS]; go_big_quiet_on) | (refine quiet_loadAny (t := 68) rfl _ _ _ rfl (fun w hw => rc_pos (ov_rc rc w hw) hkl he) (by first | rfl | omega) ?_; simp only [putS]; go_big_quiet_on) | (go_big_quiet_op; first | go_big_quiet_on | go_big_quiet_call ((fail)))))
     refine wpQuiet_nil ?_
     intro wn hbn
     have hsz := B.size
     have hzn := hbn.size
     replace B := B.trans (hbn.mono B.size)
     try replace r1 := r1.below hbn
     try replace p1 := p1.below hbn
     try replace u1 := u1.below hbn
     try replace r2 := r2.below hbn
     try replace r3 := r3.below hbn
     try replace od := od.below hbn
     try replace rc := rc.below hbn
     go_wp2
     refine wp_region_ov (by kernel_rfl) (by kernel_rfl) ?_
     repeat (first | go_big_quiet_skip | (go_big_quiet_want; first | (refine quiet_loadAny (t := 68) rfl _ _ _ rfl (fun w hw => run_load_B (ov_B p1 w hw) Tryz.isAgg68 (by kernel_rfl)) (by rfl) ?_; simp only [putS]; go_big_quiet_on) | (refine quiet_loadAny (t := 32) rfl _ _ _ rfl (fun w hw => run_load_sl (ov_B r1 w hw).cell0) (by rfl) ?_; simp only [putS]; go_big_quiet_on) | (refine quiet_loadAny (t := 68) rfl _ _ _ rfl (fun w hw => rc_pos (ov_rc rc w hw) hkl he) (by first | rfl | omega) ?_; simp only [putS]; go_big_quiet_on) | (go_big_quiet_op; first | go_big_quiet_on | go_big_quiet_call ((fail)))))
     refine wpQuiet_nil ?_
     intro wn hbn
     have hsz := B.size
     have hzn := hbn.size
     replace B := B.trans (hbn.mono B.size)
     try replace r1 := r1.below hbn
     try replace p1 := p1.below hbn
     try replace u1 := u1.below hbn
     try replace r2 := r2.below hbn
     try replace r3 := r3.below hbn
     try replace od := od.below hbn
     try replace rc := rc.below hbn
     go_wp2
     go_roundw
     case rel => exact ⟨k + 1, _, _, _, _, _, by omega, by go_num, rfl, by first | exact HA.out | (rw [← HA.out, List.append_assoc, List.append_assoc]; rfl) | (rw [← HA.out, List.append_assoc]; rfl) | (rw [← HA.out]; simp), by first | omega | (simp; omega), by first | rfl | simp, B, by omega, r1, p1, u1, r2, r3, od⟩
     case measure => simp [intOf]; omega
    | false =>
     cases h4 : lessB x y e.x e.y with
     | true =>
      have h3 := of_decide_eq_true h3
      have h4 := of_decide_eq_true h4
      omega
     | false =>
      rw [h3, h4] at hacc
      simp at hacc
      have HA := Lib.hid hacc
      clear hacc
      go_wp2_with (first | (refine wpList_loadAny (t := 32) rfl _ rfl _ _ _ rfl (run_load_sl r1.cell0) (by rfl) ?_; simp only [putS]) | fail)
      refine wp_region_ov (by kernel_rfl) (by kernel_rfl) ?_
      repeat (first | go_big_quiet_skip | (go_big_quiet_want; first | (refine quiet_loadAny (t := 68) rfl _ _ _ rfl (fun w hw => run_load_B (ov_B p1 w hw) Tryz.isAgg68 (by kernel_rfl)) (by rfl) ?_; simp only [putS]; go_big_quiet_on) | (refine quiet_loadAny (t := 32) rfl _ _ _ rfl (fun w hw => run_load_sl (ov_B r1 w hw).cell0) (by rfl) ?_; simp only [putS]; go_big_quiet_on) | (refine quiet_loadAny (t := 68) rfl _ _ _ rfl (fun w hw => rc_pos (ov_rc rc w hw) hkl he) (by first | rfl | omega) ?_; simp only [putS]; go_big_quiet_on) | (go_big_quiet_op; first | go_big_quiet_on | go_big_quiet_call ((first | (go_at_call 121; exact calls_ov (R_less _ _ _ _ _)))))))
      refine wpQuiet_nil ?_
      intro wn hbn
      have hsz := B.size
      have hzn := hbn.size
      replace B := B.trans (hbn.mono B.size)
      try replace r1 := r1.below hbn
      try replace p1 := p1.below hbn
      try replace u1 := u1.below hbn
      try replace r2 := r2.below hbn
      try replace r3 := r3.below hbn
      try replace od := od.below hbn
      try replace rc := rc.below hbn
      go_wp2
      refine wp_region_ov (by kernel_rfl) (by kernel_rfl) ?_
      repeat (first | go_big_quiet_skip | (go_big_quiet_want; first | (refine quiet_loadAny (t := 68) rfl _ _ _ rfl (fun w hw => run_load_B (ov_B p1 w hw) Tryz.isAgg68 (by kernel_rfl)) (by rfl) ?_; simp only [putS]; go_big_quiet_on) | (refine quiet_loadAny (t := 32) rfl _ _ _ rfl (fun w hw => run_load_sl (ov_B r1 w hw).cell0) (by rfl) ?_; simp only [putS]; go_big_quiet_on) | (refine quiet_loadAny (t := 68) rfl _ _ _ rfl (fun w hw => rc_pos (ov_rc rc w hw) hkl he) (by first | rfl | omega) ?_; simp only [putS]; go_big_quiet_on) | (go_big_quiet_op; first | go_big_quiet_on | go_big_quiet_call ((fail)))))
      refine wpQuiet_nil ?_
      intro wn hbn
      have hsz := B.size
      have hzn := hbn.size
      replace B := B.trans (hbn.mono B.size)
      try replace r1 := r1.below hbn
      try replace p1 := p1.below hbn
      try replace u1 := u1.below hbn
      try replace r2 := r2.below hbn
      try replace r3 := r3.below hbn
      try replace od := od.below hbn
      try replace rc := rc.below hbn
      go_wp2
      go_roundw
      case rel => exact ⟨k + 1, _, _, _, _, _, by omega, by go_num, rfl, by first | exact HA.out | (rw [← HA.out, List.append_assoc, List.append_assoc]; rfl) | (rw [← HA.out, List.append_assoc]; rfl) | (rw [← HA.out]; simp), by first | omega | (simp; omega), by first | rfl | simp, B, by omega, r1, p1, u1, r2, r3, od⟩
      case measure => simp [intOf]; omega
   | false =>
    cases dd with
    | true =>
     rw [h3] at hacc
     simp at hacc
     have HA := Lib.hid hacc
     clear hacc
     go_wp2_with (first | (refine wpList_loadAny (t := 32) rfl _ rfl _ _ _ rfl (run_load_sl r1.cell0) (by rfl) ?_; simp only [putS]) | fail)
     refine wp_region_ov (by kernel_rfl) (by kernel_rfl) ?_
     repeat (first | go_big_quiet_skip | (go_big_quiet_want; first | (refine quiet_loadAny (t := 68) rfl _ _ _ rfl (fun w hw => run_load_B (ov_B p1 w hw) Tryz.isAgg68 (by kernel_rfl)) (by rfl) ?_; simp only [putS]; go_big_quiet_on) | (refine quiet_loadAny (t := 32) rfl _ _ _ rfl (fun w hw => run_load_sl (ov_B r1 w hw).cell0) (by rfl) ?_; simp only [putS]; go_big_quiet_on) | (refine quiet_loadAny (t := 68) rfl _ _ _ rfl (fun w hw => rc_pos (ov_rc rc w hw) hkl he) (by first | rfl | omega) ?_; simp only [putS]; go_big_quiet_on) | (go_big_quiet_op; first | go_big_quiet_on | go_big_quiet_call ((fail)))))
     refine wpQuiet_nil ?_
     intro wn hbn
     have hsz := B.size
     have hzn := hbn.size
     replace B := B.trans (hbn.mono B.size)
     try replace r1 := r1.below hbn
     try replace p1 := p1.below hbn
     try replace u1 := u1.below hbn
     try replace r2 := r2.below hbn
     try replace r3 := r3.below hbn
     try replace od := od.below hbn
     try replace rc := rc.below hbn
     go_wp2
     refine wp_region_ov (by kernel_rfl) (by kernel_rfl) ?_
     repeat (first | go_big_quiet_skip | (go_big_quiet_want; first | (refine quiet_loadAny (t := 68) rfl _ _ _ rfl (fun w hw => run_load_B (ov_B p1 w hw) Tryz.isAgg68 (by kernel_rfl)) (by rfl) ?_; simp only [putS]; go_big_quiet_on) | (refine quiet_loadAny (t := 32) rfl _ _ _ rfl (fun w hw => run_load_sl (ov_B r1 w hw).cell0) (by rfl) ?_; simp only [putS]; go_big_quiet_on) | (refine quiet_loadAny (t := 68) rfl _ _ _ rfl (fun w hw => rc_pos (ov_rc rc w hw) hkl he) (by first | rfl | omega) ?_; simp only [putS]; go_big_quiet_on) | (go_big_quiet_op; first | go_big_quiet_on | go_big_quiet_call ((fail)))))
     refine wpQuiet_nil ?_
     intro wn hbn
     have hsz := B.size
     have hzn := hbn.size
     replace B := B.trans (hbn.mono B.size)
     try replace r1 := r1.below hbn
     try replace p1 := p1.below hbn
     try replace u1 := u1.below hbn
     try replace r2 := r2.below hbn
     try replace r3 := r3.below hbn
     try replace od := od.below hbn
     try replace rc := rc.below hbn
     go_wp2
     refine wp_region_X 7 8 #[true, true, true, true, true, true, true, false, false, false, false] (by kernel_rfl) (by kernel_rfl) ?_
     simp only [List.length_cons, List.length_nil, Nat.reduceAdd, Nat.reduceSub, List.take_succ_cons, List.take_zero]
     repeat (first | go_big_quiet_skip | (go_big_quiet_want; first | (refine quiet_loadAny (t := 32) rfl _ _ _ rfl (fun w hw => run_load_sl (ov_B r3 w hw).cell0) (by rfl) ?_; simp only [putS]; go_big_quiet_on) | (refine quiet_loadAny (t := 32) rfl _ _ _ rfl (fun w hw => run_load_sl (ov_B r1 w hw).cell0) (by rfl) ?_; simp only [putS]; go_big_quiet_on) | (refine quiet_loadAny (t := 72) rfl _ _ _ rfl (fun w hw => rc_ta (ov_rc rc w hw) hkl he) (by first | rfl | omega) ?_; simp only [putS]; go_big_quiet_on) | (go_big_quiet_op; go_big_quiet_on)))
     refine wpQuiet_nil ?_
     intro wn hbn
     have hX := hbn
     have hsz := B.size
     have hzn := hbn.size
     replace B := B.trans (hbn.mono B.size)
     try replace r1 := r1.below hbn
     try replace p1 := p1.below hbn
     try replace u1 := u1.below hbn
     try replace r2 := r2.below hbn
     try replace r3 := r3.below hbn
     try replace od := od.below hbn
     try replace rc := rc.below hbn
     refine anyX_next 7 rfl (by kernel_rfl) rfl (fun K hK => ?_)
     try simp only [gelS]
     refine owp_bs1T _ rfl e (by rfl) ?_
     intro b_s1 wn hle hge ht hbn hzn
     have hsz := B.size
     have hsx := hX.size
     replace B := B.trans (hbn.mono (by omega))
     replace hX := hX.trans (hbn.mono (by omega))
     try first | (have hlt := r1.lt; replace r1 := r1.of_eq (hbn.block _ (by omega))) | replace r1 := r1.below (hbn.mono hle)
     try first | (have hlt := p1.lt; replace p1 := p1.of_eq (hbn.block _ (by omega))) | replace p1 := p1.below (hbn.mono hle)
     try first | (have hlt := u1.lt; replace u1 := u1.of_eq (hbn.block _ (by omega))) | replace u1 := u1.below (hbn.mono hle)
     try first | (have hlt := r2.lt; replace r2 := r2.of_eq (hbn.block _ (by omega))) | replace r2 := r2.below (hbn.mono hle)
     try first | (have hlt := r3.lt; replace r3 := r3.of_eq (hbn.block _ (by omega))) | replace r3 := r3.below (hbn.mono hle)
     try first | (have hlt := od.lt; replace od := od.of_eq (hbn.block _ (by omega))) | replace od := od.below (hbn.mono hle)
     try first | (have hlt := rc.lt; replace rc := rc.of_eq (hbn.block _ (by omega))) | replace rc := rc.below (hbn.mono hle)
     have s1 := ht
     clear ht
     refine hK _ _ ⟨fun _ => ⟨_, ov_of hX⟩, ?_⟩
     clear hK K
     try simp only [gelS]
     simp only [putS]
     refine anyX_seq (by kernel_rfl) (by kernel_rfl) ?_
     simp only [List.drop_succ_cons, List.drop_zero]
     go_wp2_with (first | (refine wpList_storeO rfl _ _ rfl _ rfl _ _ _ rfl r3 ?_; clear r3; intro wn ht hcn hzn; have hsz := B.size; replace hzn := Nat.le_of_eq hzn.symm; replace B := Chg.below B hcn (by omega) B.size; (try replace r1 := r1.of_eq (hcn.block _ r1.lt (by omega))); (try replace p1 := p1.of_eq (hcn.block _ p1.lt (by omega))); (try replace u1 := u1.of_eq (hcn.block _ u1.lt (by omega))); (try replace r2 := r2.of_eq (hcn.block _ r2.lt (by omega))); (try replace rc := rc.of_eq (hcn.block _ rc.lt (by omega))); replace od := od.chg hcn (by omega); have r3 := ht; clear ht; simp only [putS]) | (at_builtin; refine wpList_appendT rfl _ _ rfl _ _ rfl rfl od ((RS.one s1)) (by simp only [List.length_append, List.length_cons, List.length_nil]; omega) (by omega) ?_; intro v_od wn ht hbn; have hsz := B.size; have hzn := hbn.size; replace B := B.trans (hbn.mono (by omega)); clear od; (try replace r1 := r1.of_eq (hbn.block _ (by omega))); (try replace p1 := p1.of_eq (hbn.block _ (by omega))); (try replace u1 := u1.of_eq (hbn.block _ (by omega))); (try replace r2 := r2.of_eq (hbn.block _ (by omega))); (try replace r3 := r3.of_eq (hbn.block _ (by omega))); (try replace rc := rc.of_eq (hbn.block _ (by omega))); have od := ht; clear ht; obtain ⟨a_od, c_od, hv, hco⟩ := od.len; (try simp only [List.length_append, List.length_cons, List.length_nil, Nat.zero_add] at hv hco); subst hv; simp only [putS]) | (refine wpList_bs1T rfl _ rfl e (by rfl) ?_; intro b_s1 wn hle hge ht hbn hzn; have hsz := B.size; replace B := B.trans (hbn.mono (by omega)); have hln := Nat.lt_of_lt_of_eq (Nat.lt_succ_self _) hzn.symm; clear hzn; (try have hlt := r1.lt); (try replace r1 := r1.below (hbn.mono hle)); (try have hlt := p1.lt); (try replace p1 := p1.below (hbn.mono hle)); (try have hlt := u1.lt); (try replace u1 := u1.below (hbn.mono hle)); (try have hlt := r2.lt); (try replace r2 := r2.below (hbn.mono hle)); (try have hlt := r3.lt); (try replace r3 := r3.below (hbn.mono hle)); (try have hlt := od.lt); (try replace od := od.below (hbn.mono hle)); (try have hlt := rc.lt); (try replace rc := rc.below (hbn.mono hle)); have s1 := ht; clear ht; simp only [putS]) | fail)
     refine NoPan.normal ?_
     go_wp2
     go_roundw
     case rel => exact ⟨k + 1, _, _, _, _, _, by omega, by go_num, rfl, by first | exact HA.out | (rw [← HA.out, List.append_assoc, List.append_assoc]; rfl) | (rw [← HA.out, List.append_assoc]; rfl) | (rw [← HA.out]; simp), by first | omega | (simp; omega), by first | rfl | simp, B, by omega, r1, p1, u1, r2, r3, od⟩
     case measure => simp [intOf]; omega
    | false =>
     cases h4 : lessB x y e.x e.y with
     | true =>
      rw [h3, h4] at hacc
      simp at hacc
      have HA := Lib.hid hacc
      clear hacc
      go_wp2_with (first | (refine wpList_loadAny (t := 32) rfl _ rfl _ _ _ rfl (run_load_sl r1.cell0) (by rfl) ?_; simp only [putS]) | fail)
      refine wp_region_ov (by kernel_rfl) (by kernel_rfl) ?_
      repeat (first | go_big_quiet_skip | (go_big_quiet_want; first | (refine quiet_loadAny (t := 68) rfl _ _ _ rfl (fun w hw => run_load_B (ov_B p1 w hw) Tryz.isAgg68 (by kernel_rfl)) (by rfl) ?_; simp only [putS]; go_big_quiet_on) | (refine quiet_loadAny (t := 32) rfl _ _ _ rfl (fun w hw => run_load_sl (ov_B r1 w hw).cell0) (by rfl) ?_; simp only [putS]; go_big_quiet_on) | (refine quiet_loadAny (t := 68) rfl _ _ _ rfl (fun w hw => rc_pos (ov_rc rc w hw) hkl he) (by first | rfl | omega) ?_; simp only [putS]; go_big_quiet_on) | (go_big_quiet_op; first | go_big_quiet_on | go_big_quiet_call ((first | (go_at_call 121; exact calls_ov (R_less _ _ _ _ _)))))))
      refine wpQuiet_nil ?_
      intro wn hbn
      have hsz := B.size
      have hzn := hbn.size
      replace B := B.trans (hbn.mono B.size)
      try replace r1 := r1.below hbn
      try replace p1 := p1.below hbn
      try replace u1 := u1.below hbn
      try replace r2 := r2.below hbn
      try replace r3 := r3.below hbn
      try replace od := od.below hbn
      try replace rc := rc.below hbn
      go_wp2_with (first | (refine wpList_storeO rfl _ _ rfl _ rfl _ _ _ rfl r3 ?_; clear r3; intro wn ht hcn hzn; have hsz := B.size; replace hzn := Nat.le_of_eq hzn.symm; replace B := Chg.below B hcn (by omega) B.size; (try replace r1 := r1.of_eq (hcn.block _ r1.lt (by omega))); (try replace p1 := p1.of_eq (hcn.block _ p1.lt (by omega))); (try replace u1 := u1.of_eq (hcn.block _ u1.lt (by omega))); (try replace r2 := r2.of_eq (hcn.block _ r2.lt (by omega))); (try replace rc := rc.of_eq (hcn.block _ rc.lt (by omega))); replace od := od.chg hcn (by omega); have r3 := ht; clear ht; simp only [putS]) | (at_builtin; refine wpList_appendT rfl _ _ rfl _ _ rfl rfl od ((RS.one s1)) (by simp only [List.length_cons, List.length_nil]; omega) (by omega) ?_; intro v_od wn ht hbn; have hsz := B.size; have hzn := hbn.size; replace B := B.trans (hbn.mono (by omega)); clear od; (try replace r1 := r1.of_eq (hbn.block _ (by omega))); (try replace p1 := p1.of_eq (hbn.block _ (by omega))); (try replace u1 := u1.of_eq (hbn.block _ (by omega))); (try replace r2 := r2.of_eq (hbn.block _ (by omega))); (try replace r3 := r3.of_eq (hbn.block _ (by omega))); (try replace rc := rc.of_eq (hbn.block _ (by omega))); have od := ht; clear ht; obtain ⟨a_od, c_od, hv, hco⟩ := od.len; (try simp only [List.length_append, List.length_cons, List.length_nil, Nat.zero_add] at hv hco); subst hv; simp only [putS]) | (refine wpList_bs1T rfl _ rfl ⟨x, y, t⟩ (by rfl) ?_; intro b_s1 wn hle hge ht hbn hzn; have hsz := B.size; replace B := B.trans (hbn.mono (by omega)); have hln := Nat.lt_of_lt_of_eq (Nat.lt_succ_self _) hzn.symm; clear hzn; (try have hlt := r1.lt); (try replace r1 := r1.below (hbn.mono hle)); (try have hlt := p1.lt); (try replace p1 := p1.below (hbn.mono hle)); (try have hlt := u1.lt); (try replace u1 := u1.below (hbn.mono hle)); (try have hlt := r2.lt); (try replace r2 := r2.below (hbn.mono hle)); (try have hlt := r3.lt); (try replace r3 := r3.below (hbn.mono hle)); (try have hlt := od.lt); (try replace od := od.below (hbn.mono hle)); (try have hlt := rc.lt); (try replace rc := rc.below (hbn.mono hle)); have s1 := ht; clear ht; simp only [putS]) | (refine wpList_buildTA rfl _ _ rfl x y t (by rfl) (by rfl) ?_; simp only [putS]) | (refine wpList_loadT rfl _ rfl _ rfl u1 ?_; simp only [putS]) | (refine wpList_loadAny (t := 68) rfl _ rfl _ _ _ rfl (run_load_B p1 Tryz.isAgg68 (by kernel_rfl)) (by rfl) ?_; simp only [putS]) | (refine wpList_loadAny (t := 32) rfl _ rfl _ _ _ rfl (run_load_sl r3.cell0) (by rfl) ?_; simp only [putS]) | fail)
      refine wp_region_ov (by kernel_rfl) (by kernel_rfl) ?_
      repeat (first | go_big_quiet_skip | (go_big_quiet_want; first | (refine quiet_loadAny (t := 68) rfl _ _ _ rfl (fun w hw => run_load_B (ov_B p1 w hw) Tryz.isAgg68 (by kernel_rfl)) (by rfl) ?_; simp only [putS]; go_big_quiet_on) | (refine quiet_loadAny (t := 32) rfl _ _ _ rfl (fun w hw => run_load_sl (ov_B r1 w hw).cell0) (by rfl) ?_; simp only [putS]; go_big_quiet_on) | (refine quiet_loadAny (t := 68) rfl _ _ _ rfl (fun w hw => rc_pos (ov_rc rc w hw) hkl he) (by first | rfl | omega) ?_; simp only [putS]; go_big_quiet_on) | (go_big_quiet_op; first | go_big_quiet_on | go_big_quiet_call ((fail)))))
      refine wpQuiet_nil ?_
      intro wn hbn
      have hsz := B.size
      have hzn := hbn.size
      replace B := B.trans (hbn.mono B.size)
      try replace r1 := r1.below hbn
      try replace p1 := p1.below hbn
      try replace u1 := u1.below hbn
      try replace r2 := r2.below hbn
      try replace r3 := r3.below hbn
      try replace od := od.below hbn
      try replace rc := rc.below hbn
      go_wp2
      refine wp_region_X 7 8 #[true, true, true, true, true, true, true, false, false, false, false] (by kernel_rfl) (by kernel_rfl) ?_
      simp only [List.length_cons, List.length_nil, Nat.reduceAdd, Nat.reduceSub, List.take_succ_cons, List.take_zero]
      repeat (first | go_big_quiet_skip | (go_big_quiet_want; first | (refine quiet_loadAny (t := 32) rfl _ _ _ rfl (fun w hw => run_load_sl (ov_B r3 w hw).cell0) (by rfl) ?_; simp only [putS]; go_big_quiet_on) | (refine quiet_loadAny (t := 32) rfl _ _ _ rfl (fun w hw => run_load_sl (ov_B r1 w hw).cell0) (by rfl) ?_; simp only [putS]; go_big_quiet_on) | (refine quiet_loadAny (t := 72) rfl _ _ _ rfl (fun w hw => rc_ta (ov_rc rc w hw) hkl he) (by first | rfl | omega) ?_; simp only [putS]; go_big_quiet_on) | (go_big_quiet_op; go_big_quiet_on)))
      refine wpQuiet_nil ?_
      intro wn hbn
      have hX := hbn
      have hsz := B.size
      have hzn := hbn.size
      replace B := B.trans (hbn.mono B.size)
      try replace r1 := r1.below hbn
      try replace p1 := p1.below hbn
      try replace u1 := u1.below hbn
      try replace r2 := r2.below hbn
      try replace r3 := r3.below hbn
      try replace od := od.below hbn
      try replace rc := rc.below hbn
      refine anyX_next 7 rfl (by kernel_rfl) rfl (fun K hK => ?_)
      try simp only [gelS]
      refine owp_bs1T _ rfl e (by rfl) ?_
      intro b_s1 wn hle hge ht hbn hzn
      have hsz := B.size
      have hsx := hX.size
      replace B := B.trans (hbn.mono (by omega))
      replace hX := hX.trans (hbn.mono (by omega))
      try first | (have hlt := r1.lt; replace r1 := r1.of_eq (hbn.block _ (by omega))) | replace r1 := r1.below (hbn.mono hle)
      try first | (have hlt := p1.lt; replace p1 := p1.of_eq (hbn.block _ (by omega))) | replace p1 := p1.below (hbn.mono hle)
      try first | (have hlt := u1.lt; replace u1 := u1.of_eq (hbn.block _ (by omega))) | replace u1 := u1.below (hbn.mono hle)
      try first | (have hlt := r2.lt; replace r2 := r2.of_eq (hbn.block _ (by omega))) | replace r2 := r2.below (hbn.mono hle)
      try first | (have hlt := r3.lt; replace r3 := r3.of_eq (hbn.block _ (by omega))) | replace r3 := r3.below (hbn.mono hle)
      try first | (have hlt := od.lt; replace od := od.of_eq (hbn.block _ (by omega))) | replace od := od.below (hbn.mono hle)
      try first | (have hlt := rc.lt; replace rc := rc.of_eq (hbn.block _ (by omega))) | replace rc := rc.below (hbn.mono hle)
      have s1 := ht
      clear ht
      refine hK _ _ ⟨fun _ => ⟨_, ov_of hX⟩, ?_⟩
      clear hK K
      try simp only [gelS]
      simp only [putS]
      refine anyX_seq (by kernel_rfl) (by kernel_rfl) ?_
      simp only [List.drop_succ_cons, List.drop_zero]
      go_wp2_with (first | (refine wpList_storeO rfl _ _ rfl _ rfl _ _ _ rfl r3 ?_; clear r3; intro wn ht hcn hzn; have hsz := B.size; replace hzn := Nat.le_of_eq hzn.symm; replace B := Chg.below B hcn (by omega) B.size; (try replace r1 := r1.of_eq (hcn.block _ r1.lt (by omega))); (try replace p1 := p1.of_eq (hcn.block _ p1.lt (by omega))); (try replace u1 := u1.of_eq (hcn.block _ u1.lt (by omega))); (try replace r2 := r2.of_eq (hcn.block _ r2.lt (by omega))); (try replace rc := rc.of_eq (hcn.block _ rc.lt (by omega))); replace od := od.chg hcn (by omega); have r3 := ht; clear ht; simp only [putS]) | (at_builtin; refine wpList_appendT rfl _ _ rfl _ _ rfl rfl od ((RS.one s1)) (by simp only [List.length_append, List.length_cons, List.length_nil]; omega) (by omega) ?_; intro v_od wn ht hbn; have hsz := B.size; have hzn := hbn.size; replace B := B.trans (hbn.mono (by omega)); clear od; (try replace r1 := r1.of_eq (hbn.block _ (by omega))); (try replace p1 := p1.of_eq (hbn.block _ (by omega))); (try replace u1 := u1.of_eq (hbn.block _ (by omega))); (try replace r2 := r2.of_eq (hbn.block _ (by omega))); (try replace r3 := r3.of_eq (hbn.block _ (by omega))); (try replace rc := rc.of_eq (hbn.block _ (by omega))); have od := ht; clear ht; obtain ⟨a_od, c_od, hv, hco⟩ := od.len; (try simp only [List.length_append, List.length_cons, List.length_nil, Nat.zero_add] at hv hco); subst hv; simp only [putS]) | (refine wpList_bs1T rfl _ rfl e (by rfl) ?_; intro b_s1 wn hle hge ht hbn hzn; have hsz := B.size; replace B := B.trans (hbn.mono (by omega)); have hln := Nat.lt_of_lt_of_eq (Nat.lt_succ_self _) hzn.symm; clear hzn; (try have hlt := r1.lt); (try replace r1 := r1.below (hbn.mono hle)); (try have hlt := p1.lt); (try replace p1 := p1.below (hbn.mono hle)); (try have hlt := u1.lt); (try replace u1 := u1.below (hbn.mono hle)); (try have hlt := r2.lt); (try replace r2 := r2.below (hbn.mono hle)); (try have hlt := r3.lt); (try replace r3 := r3.below (hbn.mono hle)); (try have hlt := od.lt); (try replace od := od.below (hbn.mono hle)); (try have hlt := rc.lt); (try replace rc := rc.below (hbn.mono hle)); have s1 := ht; clear ht; simp only [putS]) | fail)
      refine NoPan.normal ?_
      go_wp2
      go_roundw
      case rel => exact ⟨k + 1, _, _, _, _, _, by omega, by go_num, rfl, by first | exact HA.out | (rw [← HA.out, List.append_assoc, List.append_assoc]; rfl) | (rw [← HA.out, List.append_assoc]; rfl) | (rw [← HA.out]; simp), by first | omega | (simp; omega), by first | rfl | simp, B, by omega, r1, p1, u1, r2, r3, od⟩
      case measure => simp [intOf]; omega
     | false =>
      rw [h3, h4] at hacc
      simp at hacc
      have HA := Lib.hid hacc
      clear hacc
      go_wp2_with (first | (refine wpList_loadAny (t := 32) rfl _ rfl _ _ _ rfl (run_load_sl r1.cell0) (by rfl) ?_; simp only [putS]) | fail)
      refine wp_region_ov (by kernel_rfl) (by kernel_rfl) ?_
      repeat (first | go_big_quiet_skip | (go_big_quiet_want; first | (refine quiet_loadAny (t := 68) rfl _ _ _ rfl (fun w hw => run_load_B (ov_B p1 w hw) Tryz.isAgg68 (by kernel_rfl)) (by rfl) ?_; simp only [putS]; go_big_quiet_on) | (refine quiet_loadAny (t := 32) rfl _ _ _ rfl (fun w hw => run_load_sl (ov_B r1 w hw).cell0) (by rfl) ?_; simp only [putS]; go_big_quiet_on) | (refine quiet_loadAny (t := 68) rfl _ _ _ rfl (fun w hw => rc_pos (ov_rc rc w hw) hkl he) (by first | rfl | omega) ?_; simp only [putS]; go_big_quiet_on) | (go_big_quiet_op; first | go_big_quiet_on | go_big_quiet_call ((first | (go_at_call 121; exact calls_ov (R_less _ _ _ _ _)))))))
      refine wpQuiet_nil ?_
      intro wn hbn
      have hsz := B.size
      have hzn := hbn.size
      replace B := B.trans (hbn.mono B.size)
      try replace r1 := r1.below hbn
      try replace p1 := p1.below hbn
      try replace u1 := u1.below hbn
      try replace r2 := r2.below hbn
      try replace r3 := r3.below hbn
      try replace od := od.below hbn
      try replace rc := rc.below hbn
      go_wp2
      refine wp_region_ov (by kernel_rfl) (by kernel_rfl) ?_
      repeat (first | go_big_quiet_skip | (go_big_quiet_want; first | (refine quiet_loadAny (t := 68) rfl _ _ _ rfl (fun w hw => run_load_B (ov_B p1 w hw) Tryz.isAgg68 (by kernel_rfl)) (by rfl) ?_; simp only [putS]; go_big_quiet_on) | (refine quiet_loadAny (t := 32) rfl _ _ _ rfl (fun w hw => run_load_sl (ov_B r1 w hw).cell0) (by rfl) ?_; simp only [putS]; go_big_quiet_on) | (refine quiet_loadAny (t := 68) rfl _ _ _ rfl (fun w hw => rc_pos (ov_rc rc w hw) hkl he) (by first | rfl | omega) ?_; simp only [putS]; go_big_quiet_on) | (go_big_quiet_op; first | go_big_quiet_on | go_big_quiet_call ((fail)))))
      refine wpQuiet_nil ?_
      intro wn hbn
      have hsz := B.size
      have hzn := hbn.size
      replace B := B.trans (hbn.mono B.size)
      try replace r1 := r1.below hbn
      try replace p1 := p1.below hbn
      try replace u1 := u1.below hbn
      try replace r2 := r2.below hbn
      try replace r3 := r3.below hbn
      try replace od := od.below hbn
      try replace rc := rc.below hbn
      go_wp2
      refine wp_region_X 7 8 #[true, true, true, true, true, true, true, false, false, false, false] (by kernel_rfl) (by kernel_rfl) ?_
      simp only [List.length_cons, List.length_nil, Nat.reduceAdd, Nat.reduceSub, List.take_succ_cons, List.take_zero]
      repeat (first | go_big_quiet_skip | (go_big_quiet_want; first | (refine quiet_loadAny (t := 32) rfl _ _ _ rfl (fun w hw => run_load_sl (ov_B r3 w hw).cell0) (by rfl) ?_; simp only [putS]; go_big_quiet_on) | (refine quiet_loadAny (t := 32) rfl _ _ _ rfl (fun w hw => run_load_sl (ov_B r1 w hw).cell0) (by rfl) ?_; simp only [putS]; go_big_quiet_on) | (refine quiet_loadAny (t := 72) rfl _ _ _ rfl (fun w hw => rc_ta (ov_rc rc w hw) hkl he) (by first | rfl | omega) ?_; simp only [putS]; go_big_quiet_on) | (go_big_quiet_op; go_big_quiet_on)))
      refine wpQuiet_nil ?_
      intro wn hbn
      have hX := hbn
      have hsz := B.size
      have hzn := hbn.size
      replace B := B.trans (hbn.mono B.size)
      try replace r1 := r1.below hbn
      try replace p1 := p1.below hbn
      try replace u1 := u1.below hbn
      try replace r2 := r2.below hbn
      try replace r3 := r3.below hbn
      try replace od := od.below hbn
      try replace rc := rc.below hbn
      refine anyX_next 7 rfl (by kernel_rfl) rfl (fun K hK => ?_)
      try simp only [gelS]
      refine owp_bs1T _ rfl e (by rfl) ?_
      intro b_s1 wn hle hge ht hbn hzn
      have hsz := B.size
      have hsx := hX.size
      replace B := B.trans (hbn.mono (by omega))
      replace hX := hX.trans (hbn.mono (by omega))
      try first | (have hlt := r1.lt; replace r1 := r1.of_eq (hbn.block _ (by omega))) | replace r1 := r1.below (hbn.mono hle)
      try first | (have hlt := p1.lt; replace p1 := p1.of_eq (hbn.block _ (by omega))) | replace p1 := p1.below (hbn.mono hle)
      try first | (have hlt := u1.lt; replace u1 := u1.of_eq (hbn.block _ (by omega))) | replace u1 := u1.below (hbn.mono hle)
      try first | (have hlt := r2.lt; replace r2 := r2.of_eq (hbn.block _ (by omega))) | replace r2 := r2.below (hbn.mono hle)
      try first | (have hlt := r3.lt; replace r3 := r3.of_eq (hbn.block _ (by omega))) | replace r3 := r3.below (hbn.mono hle)
      try first | (have hlt := od.lt; replace od := od.of_eq (hbn.block _ (by omega))) | replace od := od.below (hbn.mono hle)
      try first | (have hlt := rc.lt; replace rc := rc.of_eq (hbn.block _ (by omega))) | replace rc := rc.below (hbn.mono hle)
      have s1 := ht
      clear ht
      refine hK _ _ ⟨fun _ => ⟨_, ov_of hX⟩, ?_⟩
      clear hK K
      try simp only [gelS]
      simp only [putS]
      refine anyX_seq (by kernel_rfl) (by kernel_rfl) ?_
      simp only [List.drop_succ_cons, List.drop_zero]
      go_wp2_with (first | (refine wpList_storeO rfl _ _ rfl _ rfl _ _ _ rfl r3 ?_; clear r3; intro wn ht hcn hzn; have hsz := B.size; replace hzn := Nat.le_of_eq hzn.symm; replace B := Chg.below B hcn (by omega) B.size; (try replace r1 := r1.of_eq (hcn.block _ r1.lt (by omega))); (try replace p1 := p1.of_eq (hcn.block _ p1.lt (by omega))); (try replace u1 := u1.of_eq (hcn.block _ u1.lt (by omega))); (try replace r2 := r2.of_eq (hcn.block _ r2.lt (by omega))); replace od := od.chg hcn (by omega); have r3 := ht; clear ht; simp only [putS]) | (at_builtin; refine wpList_appendT rfl _ _ rfl _ _ rfl rfl od ((RS.one s1)) (by simp only [List.length_append, List.length_cons, List.length_nil]; omega) (by omega) ?_; intro v_od wn ht hbn; have hsz := B.size; have hzn := hbn.size; replace B := B.trans (hbn.mono (by omega)); clear od; (try replace r1 := r1.of_eq (hbn.block _ (by omega))); (try replace p1 := p1.of_eq (hbn.block _ (by omega))); (try replace u1 := u1.of_eq (hbn.block _ (by omega))); (try replace r2 := r2.of_eq (hbn.block _ (by omega))); (try replace r3 := r3.of_eq (hbn.block _ (by omega))); have od := ht; clear ht; obtain ⟨a_od, c_od, hv, hco⟩ := od.len; (try simp only [List.length_append, List.length_cons, List.length_nil, Nat.zero_add] at hv hco); subst hv; simp only [putS]) | (refine wpList_bs1T rfl _ rfl e (by rfl) ?_; intro b_s1 wn hle hge ht hbn hzn; have hsz := B.size; replace B := B.trans (hbn.mono (by omega)); have hln := Nat.lt_of_lt_of_eq (Nat.lt_succ_self _) hzn.symm; clear hzn; (try have hlt := r1.lt); (try replace r1 := r1.below (hbn.mono hle)); (try have hlt := p1.lt); (try replace p1 := p1.below (hbn.mono hle)); (try have hlt := u1.lt); (try replace u1 := u1.below (hbn.mono hle)); (try have hlt := r2.lt); (try replace r2 := r2.below (hbn.mono hle)); (try have hlt := r3.lt); (try replace r3 := r3.below (hbn.mono hle)); (try have hlt := od.lt); (try replace od := od.below (hbn.mono hle)); (try have hlt := rc.lt); have s1 := ht; clear ht; simp only [putS]) | fail)
      refine NoPan.normal ?_
      go_wp2
      go_roundw
      case rel => exact ⟨k + 1, _, _, _, _, _, by omega, by go_num, rfl, by first | exact HA.out | (rw [← HA.out, List.append_assoc, List.append_assoc]; rfl) | (rw [← HA.out, List.append_assoc]; rfl) | (rw [← HA.out]; simp), by first | omega | (simp; omega), by first | rfl | simp, B, by omega, r1, p1, u1, r2, r3, od⟩
      case measure => simp [intOf]; omega
  ·obtain rfl : k = ls.length := by omega
   rw [List.drop_length] at hacc
   unfold rputL at hacc
   cases dd with
   | true =>
    simp at hacc
    have HA := Lib.hid hacc
    clear hacc
    go_wp2_with (first | (refine wpList_storeB (t := 34) rfl _ _ rfl _ rfl _ rfl r2 (by kernel_rfl) rfl (by simp [Value.oneCell']) ?_; clear r2; intro wn ht hcn hzn; have hsz := B.size; replace hzn := Nat.le_of_eq hzn.symm; replace B := Chg.below B hcn (by omega) B.size; (try replace r1 := r1.of_eq (hcn.block _ r1.lt (by omega))); (try replace p1 := p1.of_eq (hcn.block _ p1.lt (by omega))); (try replace u1 := u1.of_eq (hcn.block _ u1.lt (by omega))); (try replace r3 := r3.of_eq (hcn.block _ r3.lt (by omega))); (try replace od := od.of_eq (hcn.block _ od.lt (by omega))); replace od := od.chg hcn (by omega); have r2 := ht; clear ht; simp only [putS]) | (refine wpList_loadAny (t := 34) rfl _ rfl _ _ _ rfl (run_load_B r3 Tryz.isAgg34 (by kernel_rfl)) (by rfl) ?_; simp only [putS]) | (refine wpList_loadAny (t := 32) rfl _ rfl _ _ _ rfl (run_load_sl r1.cell0) (by rfl) ?_; simp only [putS]) | fail)
    refine bodyPost_ret (results_B (t := 34) rfl _ _ (b_r2) rfl r2 Tryz.isAgg34 (by kernel_rfl)) rfl ?_
    exact ⟨_, rfl, by rw [← HA.out]; exact od.rs, B⟩
   | false =>
    simp at hacc
    have HA := Lib.hid hacc
    clear hacc
    go_wp2_with (first | (refine wpList_storeB (t := 34) rfl _ _ rfl _ rfl _ rfl r2 (by kernel_rfl) rfl (by simp [Value.oneCell']) ?_; clear r2; intro wn ht hcn hzn; have hsz := B.size; replace hzn := Nat.le_of_eq hzn.symm; replace B := Chg.below B hcn (by omega) B.size; (try replace r1 := r1.of_eq (hcn.block _ r1.lt (by omega))); (try replace p1 := p1.of_eq (hcn.block _ p1.lt (by omega))); (try replace u1 := u1.of_eq (hcn.block _ u1.lt (by omega))); (try replace r3 := r3.of_eq (hcn.block _ r3.lt (by omega))); (try replace od := od.of_eq (hcn.block _ od.lt (by omega))); replace od := od.chg hcn (by omega); have r2 := ht; clear ht; simp only [putS]) | (refine wpList_loadAny (t := 34) rfl _ rfl _ _ _ rfl (run_load_B r3 Tryz.isAgg34 (by kernel_rfl)) (by rfl) ?_; simp only [putS]) | (refine wpList_storeO rfl _ _ rfl _ rfl _ _ _ rfl r3 ?_; clear r3; intro wn ht hcn hzn; have hsz := B.size; replace hzn := Nat.le_of_eq hzn.symm; replace B := Chg.below B hcn (by omega) B.size; (try replace r1 := r1.of_eq (hcn.block _ r1.lt (by omega))); (try replace p1 := p1.of_eq (hcn.block _ p1.lt (by omega))); (try replace u1 := u1.of_eq (hcn.block _ u1.lt (by omega))); (try replace r2 := r2.of_eq (hcn.block _ r2.lt (by omega))); replace od := od.chg hcn (by omega); have r3 := ht; clear ht; simp only [putS]) | (at_builtin; refine wpList_appendT rfl _ _ rfl _ _ rfl rfl od ((RS.one s1)) (by simp only [List.length_cons, List.length_nil]; omega) (by omega) ?_; intro v_od wn ht hbn; have hsz := B.size; have hzn := hbn.size; replace B := B.trans (hbn.mono (by omega)); clear od; (try replace r1 := r1.of_eq (hbn.block _ (by omega))); (try replace p1 := p1.of_eq (hbn.block _ (by omega))); (try replace u1 := u1.of_eq (hbn.block _ (by omega))); (try replace r2 := r2.of_eq (hbn.block _ (by omega))); (try replace r3 := r3.of_eq (hbn.block _ (by omega))); have od := ht; clear ht; obtain ⟨a_od, c_od, hv, hco⟩ := od.len; (try simp only [List.length_append, List.length_cons, List.length_nil, Nat.zero_add] at hv hco); subst hv; simp only [putS]) | (refine wpList_bs1T rfl _ rfl ⟨x, y, t⟩ (by rfl) ?_; intro b_s1 wn hle hge ht hbn hzn; have hsz := B.size; replace B := B.trans (hbn.mono (by omega)); have hln := Nat.lt_of_lt_of_eq (Nat.lt_succ_self _) hzn.symm; clear hzn; (try have hlt := r1.lt); (try replace r1 := r1.below (hbn.mono hle)); (try have hlt := p1.lt); (try replace p1 := p1.below (hbn.mono hle)); (try have hlt := u1.lt); (try replace u1 := u1.below (hbn.mono hle)); (try have hlt := r2.lt); (try replace r2 := r2.below (hbn.mono hle)); (try have hlt := r3.lt); (try replace r3 := r3.below (hbn.mono hle)); (try have hlt := od.lt); (try replace od := od.below (hbn.mono hle)); (try have hlt := rc.lt); have s1 := ht; clear ht; simp only [putS]) | (refine wpList_buildTA rfl _ _ rfl x y t (by rfl) (by rfl) ?_; simp only [putS]) | (refine wpList_loadT rfl _ rfl _ rfl u1 ?_; simp only [putS]) | (refine wpList_loadAny (t := 68) rfl _ rfl _ _ _ rfl (run_load_B p1 Tryz.isAgg68 (by kernel_rfl)) (by rfl) ?_; simp only [putS]) | (refine wpList_loadAny (t := 32) rfl _ rfl _ _ _ rfl (run_load_sl r3.cell0) (by rfl) ?_; simp only [putS]) | (refine wpList_loadAny (t := 32) rfl _ rfl _ _ _ rfl (run_load_sl r1.cell0) (by rfl) ?_; simp only [putS]) | fail)
    refine bodyPost_ret (results_B (t := 34) rfl _ _ (b_r2) rfl r2 Tryz.isAgg34 (by kernel_rfl)) rfl ?_
    exact ⟨_, rfl, by rw [← HA.out]; exact od.rs, B⟩
/- Contracts of the reference's Get, Put, Set; of equal, Equal. -/
section
variable {o : Oper} {a : Act} {w : World} {Q : Exit → Act → World → Prop} {K : Act → World → Prop}
theorem owp_allocTb (ho : o.op = .alloc 70)
  (h : ∀ b w', w.heap.size ≤ b → b ≤ w.heap.size → TileAt w' b (fun _ => Px.zero) → Below b w w' → w'.heap.size = b + 1 → K (a.put o.dst (.pointer (some ⟨b, 0, none⟩))) w') : o.wp Tryz.prog a w K Q := by
 unfold Oper.wp
 rw [run_alloc_tile w o ho]
 exact h _ _ (Nat.le_refl _) (Nat.le_refl _) (by unfold TileAt; rw [heap_get_alloc, if_pos rfl]) ((Below.refl _ _).alloc (Nat.le_refl _) _) (World.size_alloc _ _)
theorem owp_allocBk {t : TypeId} (cs : Array Value) (hrun : ∀ ev, (execOp ev o).run Tryz.prog w = .ok (.value (.pointer (some ⟨w.heap.size, 0, none⟩))) (w.alloc (.cells cs t)))
  (h : ∀ b w', w.heap.size ≤ b → b ≤ w.heap.size → AtB t w' b cs → Below b w w' → w'.heap.size = b + 1 → K (a.put o.dst (.pointer (some ⟨b, 0, none⟩))) w') : o.wp Tryz.prog a w K Q := by
 unfold Oper.wp
 rw [hrun]
 exact h _ _ (Nat.le_refl _) (Nat.le_refl _) (by unfold AtB; rw [heap_get_alloc, if_pos rfl]) ((Below.refl _ _).alloc (Nat.le_refl _) _) (World.size_alloc _ _)
end
set_option maxHeartbeats 1000000 in
theorem R_PutR (v : Value) (ls : List TA) (x y : Int) (t : Nat → Px) (w : World) (h : RS v ls w) (tk : TokL ls) (hn : ls.length ≤ maxLen) (ht : Tok t) : Calls Tryz.prog 72 #[.agg #[v], .agg #[.int .i64 x, .int .i64 y], Tile.v t] w fun e w' => ∃ v', e = .returned (.agg #[v', .int .i64 (putE ls x y t)]) ∧ RS v' (putR ls x y t) w' ∧ Below w.heap.size w w' := by
 have B := Below.refl w.heap.size w
 obtain ⟨a', c', hT⟩ := R_Of v ls w h tk hn
 have HT := Lib.hid hT
 clear hT
 obtain ⟨a, c, rfl, hc⟩ := h.len
 cases hw : withinB x y with
 | false =>
  have e1 : putE ls x y t = 1 := by unfold putE; rw [hw]; rfl
  have e2 : putR ls x y t = [] := by unfold putR; rw [hw]; rfl
  rw [e1, e2]
  clear e1 e2
  go_enter Tryz.func72, Tryz.ntmps72
  go_wp2_with (first | (refine wpList_storeB (t := 63) rfl _ _ rfl _ rfl _ rfl g2 (by kernel_rfl) rfl (by simp [Value.oneCell']) ?_; clear g2; intro wn ht hcn hzn; have hsz := B.size; replace hzn := Nat.le_of_eq hzn.symm; replace B := Chg.below B hcn (by omega) B.size; (try replace r1 := r1.of_eq (hcn.block _ r1.lt (by omega))); (try replace p1 := p1.of_eq (hcn.block _ p1.lt (by omega))); (try replace u1 := u1.of_eq (hcn.block _ u1.lt (by omega))); have g2 := ht; clear ht; simp only [putS]) | (go_at_call 111; refine (R_within x y _).mono ?_; rintro e wn ⟨rfl, hbn⟩; have hsz := B.size; have hzn := hbn.size; replace B := B.trans (hbn.mono B.size); (try replace r1 := r1.below hbn); (try replace p1 := p1.below hbn); (try replace u1 := u1.below hbn); (try replace g2 := g2.below hbn)) | (refine wpList_loadAny (t := 68) rfl _ rfl _ _ _ rfl (run_load_B p1 Tryz.isAgg68 (by kernel_rfl)) (by rfl) ?_; simp only [putS]) | (have _ := u1; refine wpList_allocBk (t := 63) rfl _ (run_alloc_G _ _ rfl) ?_; intro b_g2 wn hle hge ht hbn hzn; have hsz := B.size; replace B := B.trans (hbn.mono (by omega)); have hln := Nat.lt_of_lt_of_eq (Nat.lt_succ_self _) hzn.symm; clear hzn; (try have hlt := r1.lt); (try replace r1 := r1.below (hbn.mono hle)); (try have hlt := p1.lt); (try replace p1 := p1.below (hbn.mono hle)); (try have hlt := u1.lt); (try replace u1 := u1.below (hbn.mono hle)); (try have hlt := g2.lt); (try replace g2 := g2.below (hbn.mono hle)); have g2 := ht; clear ht; simp only [putS]) | (have _ := p1; refine wpList_boxT' rfl _ rfl _ rfl ?_; intro b_u1 wn hle hge ht hbn hzn; have hsz := B.size; replace B := B.trans (hbn.mono (by omega)); have hln := Nat.lt_of_lt_of_eq (Nat.lt_succ_self _) hzn.symm; clear hzn; (try have hlt := r1.lt); (try replace r1 := r1.below (hbn.mono hle)); (try have hlt := p1.lt); (try replace p1 := p1.below (hbn.mono hle)); (try have hlt := u1.lt); (try replace u1 := u1.below (hbn.mono hle)); (try have hlt := g2.lt); (try replace g2 := g2.below (hbn.mono hle)); have u1 := ht; clear ht; simp only [putS]) | (have _ := r1; refine wpList_boxB (t := 68) rfl _ rfl _ rfl ?_; intro b_p1 wn hle hge ht hbn hzn; have hsz := B.size; replace B := B.trans (hbn.mono (by omega)); have hln := Nat.lt_of_lt_of_eq (Nat.lt_succ_self _) hzn.symm; clear hzn; (try have hlt := r1.lt); (try replace r1 := r1.below (hbn.mono hle)); (try have hlt := p1.lt); (try replace p1 := p1.below (hbn.mono hle)); (try have hlt := u1.lt); (try replace u1 := u1.below (hbn.mono hle)); (try have hlt := g2.lt); (try replace g2 := g2.below (hbn.mono hle)); have p1 := ht; clear ht; simp only [putS]) | (refine wpList_boxB (t := 34) rfl _ rfl _ rfl ?_; intro b_r1 wn hle hge ht hbn hzn; have hsz := B.size; replace B := B.trans (hbn.mono (by omega)); have hln := Nat.lt_of_lt_of_eq (Nat.lt_succ_self _) hzn.symm; clear hzn; (try have hlt := r1.lt); (try replace r1 := r1.below (hbn.mono hle)); (try have hlt := p1.lt); (try replace p1 := p1.below (hbn.mono hle)); (try have hlt := u1.lt); (try replace u1 := u1.below (hbn.mono hle)); (try have hlt := g2.lt); (try replace g2 := g2.below (hbn.mono hle)); have r1 := ht; clear ht; simp only [putS]) | fail)
  refine bodyPost_ret (results_B (t := 63) rfl _ _ (b_g2) rfl g2 Tryz.isAgg63 (by kernel_rfl)) rfl ?_
  exact ⟨_, rfl, RS.nil _, B⟩
 | true =>
  have SR := Lib.hid (validL_srt (fineL_valid ls))
  have CT : Hid (Tok (cleanT t)) := Lib.hid (fun i hi => cleanP_ok (ht i hi))
  have hfl := fineL_length ls
  have hpl := putL_length (fineL ls) x y (cleanT t)
  by_cases hm : (putL (fineL ls) x y (cleanT t)).length ≤ 1024
  ·have e1 : putE ls x y t = 0 := by unfold putE manyE; rw [hw, if_pos rfl, if_pos hm]
   have e2 := Lib.hid (show putR ls x y t = putL (fineL ls) x y (cleanT t) by unfold putR manyL; rw [hw, if_pos rfl, if_pos hm])
   rw [e1]
   clear e1
   go_enter Tryz.func72, Tryz.ntmps72
   go_wp2_with (first | (go_at_call 111; refine (R_within x y _).mono ?_; rintro e wn ⟨rfl, hbn⟩; have hsz := B.size; have hzn := hbn.size; replace B := B.trans (hbn.mono B.size); (try replace r1 := r1.below hbn); (try replace p1 := p1.below hbn); (try replace u1 := u1.below hbn); (try replace g2 := g2.below hbn)) | (refine wpList_loadAny (t := 68) rfl _ rfl _ _ _ rfl (run_load_B p1 Tryz.isAgg68 (by kernel_rfl)) (by rfl) ?_; simp only [putS]) | (have _ := u1; refine wpList_allocBk (t := 63) rfl _ (run_alloc_G _ _ rfl) ?_; intro b_g2 wn hle hge ht hbn hzn; have hsz := B.size; replace B := B.trans (hbn.mono (by omega)); have hln := Nat.lt_of_lt_of_eq (Nat.lt_succ_self _) hzn.symm; clear hzn; (try have hlt := r1.lt); (try replace r1 := r1.below (hbn.mono hle)); (try have hlt := p1.lt); (try replace p1 := p1.below (hbn.mono hle)); (try have hlt := u1.lt); (try replace u1 := u1.below (hbn.mono hle)); (try have hlt := g2.lt); (try replace g2 := g2.below (hbn.mono hle)); have g2 := ht; clear ht; simp only [putS]) | (have _ := p1; refine wpList_boxT' rfl _ rfl _ rfl ?_; intro b_u1 wn hle hge ht hbn hzn; have hsz := B.size; replace B := B.trans (hbn.mono (by omega)); have hln := Nat.lt_of_lt_of_eq (Nat.lt_succ_self _) hzn.symm; clear hzn; (try have hlt := r1.lt); (try replace r1 := r1.below (hbn.mono hle)); (try have hlt := p1.lt); (try replace p1 := p1.below (hbn.mono hle)); (try have hlt := u1.lt); (try replace u1 := u1.below (hbn.mono hle)); (try have hlt := g2.lt); (try replace g2 := g2.below (hbn.mono hle)); have u1 := ht; clear ht; simp only [putS]) | (have _ := r1; refine wpList_boxB (t := 68) rfl _ rfl _ rfl ?_; intro b_p1 wn hle hge ht hbn hzn; have hsz := B.size; replace B := B.trans (hbn.mono (by omega)); have hln := Nat.lt_of_lt_of_eq (Nat.lt_succ_self _) hzn.symm; clear hzn; (try have hlt := r1.lt); (try replace r1 := r1.below (hbn.mono hle)); (try have hlt := p1.lt); (try replace p1 := p1.below (hbn.mono hle)); (try have hlt := u1.lt); (try replace u1 := u1.below (hbn.mono hle)); (try have hlt := g2.lt); (try replace g2 := g2.below (hbn.mono hle)); have p1 := ht; clear ht; simp only [putS]) | (refine wpList_boxB (t := 34) rfl _ rfl _ rfl ?_; intro b_r1 wn hle hge ht hbn hzn; have hsz := B.size; replace B := B.trans (hbn.mono (by omega)); have hln := Nat.lt_of_lt_of_eq (Nat.lt_succ_self _) hzn.symm; clear hzn; (try have hlt := r1.lt); (try replace r1 := r1.below (hbn.mono hle)); (try have hlt := p1.lt); (try replace p1 := p1.below (hbn.mono hle)); (try have hlt := u1.lt); (try replace u1 := u1.below (hbn.mono hle)); (try have hlt := g2.lt); (try replace g2 := g2.below (hbn.mono hle)); have r1 := ht; clear ht; simp only [putS]) | fail)
   refine wp_region_ov_tail 4 (by kernel_rfl) (by kernel_rfl) ?_
   simp only [List.take_succ_cons, List.take_zero, List.drop_succ_cons, List.drop_zero]
   repeat (first | go_big_quiet_skip | (go_big_quiet_want; first | (refine quiet_loadAny (t := 34) rfl _ _ _ rfl (fun w hw => run_load_B (ov_B r1 w hw) Tryz.isAgg34 (by kernel_rfl)) (by rfl) ?_; simp only [putS]; go_big_quiet_on) | (refine quiet_loadAny (t := 68) rfl _ _ _ rfl (fun w hw => run_load_B (ov_B p1 w hw) Tryz.isAgg68 (by kernel_rfl)) (by rfl) ?_; simp only [putS]; go_big_quiet_on) | (refine quiet_loadT rfl _ rfl (ov_tile u1) ?_; simp only [putS]; go_big_quiet_on) | (go_big_quiet_op; first | go_big_quiet_on | go_big_quiet_call ((first | (go_at_call 40; exact calls_ov (HT.out _ (below_ov B B.size _)).1))))))
   refine wpQuiet_nil ?_
   intro wn hbn
   have hsz := B.size
   have hzn := hbn.size
   replace B := B.trans (hbn.mono B.size)
   try replace r1 := r1.below hbn
   try replace p1 := p1.below hbn
   try replace u1 := u1.below hbn
   try replace g2 := g2.below hbn
   go_wp2_with (first | (refine wpList_storeB (t := 63) rfl _ _ rfl _ rfl _ rfl g2 (by kernel_rfl) rfl (by simp [Value.oneCell']) ?_; have g2o := g2; clear g2; intro wn ht hcn hzn; replace rs1 := rs1.chg g2o (by simp) hcn; have hsz := B.size; replace hzn := Nat.le_of_eq hzn.symm; replace B := Chg.below B hcn (by omega) B.size; (try replace r1 := r1.of_eq (hcn.block _ r1.lt (by omega))); (try replace p1 := p1.of_eq (hcn.block _ p1.lt (by omega))); (try replace u1 := u1.of_eq (hcn.block _ u1.lt (by omega))); have g2 := ht; clear ht; simp only [putS]) | (go_at_call 112; refine (R_many _ _ _ _ (by unfold maxLen; omega)).mono ?_; rintro e wn ⟨rfl, hbn⟩; rw [if_pos hm]; have hsz := B.size; have hzn := hbn.size; replace B := B.trans (hbn.mono B.size); (try replace r1 := r1.below hbn); (try replace p1 := p1.below hbn); (try replace u1 := u1.below hbn); (try replace g2 := g2.below hbn); (try replace rs1 := rs1.below hbn)) | (go_at_call 113; refine (R_put _ (fineL ls) x y t (cleanT t) _ (HT.out _ B).2 SR.out ht rfl (by omega)).mono ?_; rintro e wn ⟨v1, rfl, rs1, hbn⟩; obtain ⟨a1, c1, rfl, hc1⟩ := rs1.len; have hsz := B.size; have hzn := hbn.size; replace B := B.trans (hbn.mono B.size); (try replace r1 := r1.below hbn); (try replace p1 := p1.below hbn); (try replace u1 := u1.below hbn); (try replace g2 := g2.below hbn)) | fail)
   refine bodyPost_ret (results_B (t := 63) rfl _ _ (b_g2) rfl g2 Tryz.isAgg63 (by kernel_rfl)) rfl ?_
   exact ⟨_, rfl, by rw [e2.out]; exact rs1, B⟩
  ·have e1 : putE ls x y t = 2 := by unfold putE manyE; rw [hw, if_pos rfl, if_neg hm]
   have e2 := Lib.hid (show putR ls x y t = [] by unfold putR manyL; rw [hw, if_pos rfl, if_neg hm])
   rw [e1]
   clear e1
   go_enter Tryz.func72, Tryz.ntmps72
   go_wp2_with (first | (go_at_call 111; refine (R_within x y _).mono ?_; rintro e wn ⟨rfl, hbn⟩; have hsz := B.size; have hzn := hbn.size; replace B := B.trans (hbn.mono B.size); (try replace r1 := r1.below hbn); (try replace p1 := p1.below hbn); (try replace u1 := u1.below hbn); (try replace g2 := g2.below hbn)) | (refine wpList_loadAny (t := 68) rfl _ rfl _ _ _ rfl (run_load_B p1 Tryz.isAgg68 (by kernel_rfl)) (by rfl) ?_; simp only [putS]) | (have _ := u1; refine wpList_allocBk (t := 63) rfl _ (run_alloc_G _ _ rfl) ?_; intro b_g2 wn hle hge ht hbn hzn; have hsz := B.size; replace B := B.trans (hbn.mono (by omega)); have hln := Nat.lt_of_lt_of_eq (Nat.lt_succ_self _) hzn.symm; clear hzn; (try have hlt := r1.lt); (try replace r1 := r1.below (hbn.mono hle)); (try have hlt := p1.lt); (try replace p1 := p1.below (hbn.mono hle)); (try have hlt := u1.lt); (try replace u1 := u1.below (hbn.mono hle)); (try have hlt := g2.lt); (try replace g2 := g2.below (hbn.mono hle)); have g2 := ht; clear ht; simp only [putS]) | (have _ := p1; refine wpList_boxT' rfl _ rfl _ rfl ?_; intro b_u1 wn hle hge ht hbn hzn; have hsz := B.size; replace B := B.trans (hbn.mono (by omega)); have hln := Nat.lt_of_lt_of_eq (Nat.lt_succ_self _) hzn.symm; clear hzn; (try have hlt := r1.lt); (try replace r1 := r1.below (hbn.mono hle)); (try have hlt := p1.lt); (try replace p1 := p1.below (hbn.mono hle)); (try have hlt := u1.lt); (try replace u1 := u1.below (hbn.mono hle)); (try have hlt := g2.lt); (try replace g2 := g2.below (hbn.mono hle)); have u1 := ht; clear ht; simp only [putS]) | (have _ := r1; refine wpList_boxB (t := 68) rfl _ rfl _ rfl ?_; intro b_p1 wn hle hge ht hbn hzn; have hsz := B.size; replace B := B.trans (hbn.mono (by omega)); have hln := Nat.lt_of_lt_of_eq (Nat.lt_succ_self _) hzn.symm; clear hzn; (try have hlt := r1.lt); (try replace r1 := r1.below (hbn.mono hle)); (try have hlt := p1.lt); (try replace p1 := p1.below (hbn.mono hle)); (try have hlt := u1.lt); (try replace u1 := u1.below (hbn.mono hle)); (try have hlt := g2.lt); (try replace g2 := g2.below (hbn.mono hle)); have p1 := ht; clear ht; simp only [putS]) | (refine wpList_boxB (t := 34) rfl _ rfl _ rfl ?_; intro b_r1 wn hle hge ht hbn hzn; have hsz := B.size; replace B := B.trans (hbn.mono (by omega)); have hln := Nat.lt_of_lt_of_eq (Nat.lt_succ_self _) hzn.symm; clear hzn; (try have hlt := r1.lt); (try replace r1 := r1.below (hbn.mono hle)); (try have hlt := p1.lt); (try replace p1 := p1.below (hbn.mono hle)); (try have hlt := u1.lt); (try replace u1 := u1.below (hbn.mono hle)); (try have hlt := g2.lt); (try replace g2 := g2.below (hbn.mono hle)); have r1 := ht; clear ht; simp only [putS]) | fail)
   refine wp_region_ov_tail 4 (by kernel_rfl) (by kernel_rfl) ?_
   simp only [List.take_succ_cons, List.take_zero, List.drop_succ_cons, List.drop_zero]
   repeat (first | go_big_quiet_skip | (go_big_quiet_want; first | (refine quiet_loadAny (t := 34) rfl _ _ _ rfl (fun w hw => run_load_B (ov_B r1 w hw) Tryz.isAgg34 (by kernel_rfl)) (by rfl) ?_; simp only [putS]; go_big_quiet_on) | (refine quiet_loadAny (t := 68) rfl _ _ _ rfl (fun w hw => run_load_B (ov_B p1 w hw) Tryz.isAgg68 (by kernel_rfl)) (by rfl) ?_; simp only [putS]; go_big_quiet_on) | (refine quiet_loadT rfl _ rfl (ov_tile u1) ?_; simp only [putS]; go_big_quiet_on) | (go_big_quiet_op; first | go_big_quiet_on | go_big_quiet_call ((first | (go_at_call 40; exact calls_ov (HT.out _ (below_ov B B.size _)).1))))))
   refine wpQuiet_nil ?_
   intro wn hbn
   have hsz := B.size
   have hzn := hbn.size
   replace B := B.trans (hbn.mono B.size)
   try replace g2 := g2.below hbn
   go_wp2_with (first | (refine wpList_storeB (t := 63) rfl _ _ rfl _ rfl _ rfl g2 (by kernel_rfl) rfl (by simp [Value.oneCell']) ?_; have g2o := g2; clear g2; intro wn ht hcn hzn; replace rs1 := rs1.chg g2o (by simp) hcn; have hsz := B.size; replace hzn := Nat.le_of_eq hzn.symm; replace B := Chg.below B hcn (by omega) B.size; have g2 := ht; clear ht; simp only [putS]) | (go_at_call 112; refine (R_many _ _ _ _ (by unfold maxLen; omega)).mono ?_; rintro e wn ⟨rfl, hbn⟩; rw [if_neg hm]; have hsz := B.size; have hzn := hbn.size; replace B := B.trans (hbn.mono B.size); (try replace g2 := g2.below hbn); (try replace rs1 := rs1.below hbn)) | (go_at_call 113; refine (R_put _ (fineL ls) x y t (cleanT t) _ (HT.out _ B).2 SR.out ht rfl (by omega)).mono ?_; rintro e wn ⟨v1, rfl, rs1, hbn⟩; obtain ⟨a1, c1, rfl, hc1⟩ := rs1.len; have hsz := B.size; have hzn := hbn.size; replace B := B.trans (hbn.mono B.size); (try replace g2 := g2.below hbn)) | fail)
   refine bodyPost_ret (results_B (t := 63) rfl _ _ (b_g2) rfl g2 Tryz.isAgg63 (by kernel_rfl)) rfl ?_
   exact ⟨_, rfl, by rw [e2.out]; exact RS.nil _, B⟩
set_option maxHeartbeats 2000000 in
theorem R_SetR (v : Value) (ls : List TA) (x y : Int) (p : Px) (w : World) (h : RS v ls w) (tk : TokL ls) (hn : ls.length ≤ maxLen) (hx : (Lit.int .i64 x).wf = true) (hy : (Lit.int .i64 y).wf = true) (hp : p.ok) : Calls Tryz.prog 35 #[.agg #[v], .int .i64 x, .int .i64 y, Px.v p] w fun e w' => ∃ v', e = .returned (.agg #[v', .int .i64 (setE ls x y p)]) ∧ RS v' (setR ls x y p) w' ∧ Below w.heap.size w w' := by
 have B := Below.refl w.heap.size w
 obtain ⟨a', c', hT⟩ := R_Of v ls w h tk hn
 have HT := Lib.hid hT
 clear hT
 obtain ⟨a, c, rfl, hc⟩ := h.len
 have HS := Lib.hid h
 have TK := Lib.hid tk
 have hfl : (fineL ls).length ≤ maxLen := by have := fineL_le ls; omega
 obtain ⟨l1, l2⟩ := wf_bd hx
 obtain ⟨l3, l4⟩ := wf_bd hy
 obtain ⟨q, hq⟩ : ∃ q, q = x / 8 := ⟨_, rfl⟩
 obtain ⟨q', hq'⟩ : ∃ q, q = y / 8 := ⟨_, rfl⟩
 have KK : Hid (Tok (setT (tileL (fineL ls) q q') (x % 8) (y % 8) p)) := Lib.hid (by rw [hq, hq']; exact setS_tok tk hp)
 have e1 := Lib.hid (show setE ls x y p = putE ls q q' (setT (tileL (fineL ls) q q') (x % 8) (y % 8) p) from by rw [hq, hq']; rfl)
 have e2 := Lib.hid (show setR ls x y p = putR ls q q' (setT (tileL (fineL ls) q q') (x % 8) (y % 8) p) from by rw [hq, hq']; rfl)
 have hAt : ∀ w, Calls Tryz.prog 71 #[.int .i64 x, .int .i64 y] w fun e w' => e = .returned (Ps.v q q') ∧ Below w.heap.size w w' := fun w => by rw [hq, hq']; exact R_At x y w hx hy
 have AT := Lib.hid hAt
 have f1 : x - 8 * q = x % 8 := by omega
 have f2 : y - 8 * q' = y % 8 := by omega
 have b1 : -9223372036854775808 ≤ 8 * q := by omega
 have b2 : 8 * q ≤ 9223372036854775807 := by omega
 have b3 : -9223372036854775808 ≤ 8 * q' := by omega
 have b4 : 8 * q' ≤ 9223372036854775807 := by omega
 clear hAt hq hq' hx hy tk h
 go_enter Tryz.func35, Tryz.ntmps35
 go_upto_region 2 with (first | (refine wpList_loadAny (t := 68) rfl _ rfl _ _ _ rfl (run_load_B p2 Tryz.isAgg68 (by kernel_rfl)) (by rfl) ?_; simp only [putS]) | (refine wpList_storeB (t := 68) rfl _ _ rfl _ rfl _ rfl p2 (by kernel_rfl) rfl (by simp [Value.oneCell']) ?_; clear p2; intro wn ht hcn hzn; have hsz := B.size; replace hzn := Nat.le_of_eq hzn.symm; replace B := Chg.below B hcn (by omega) B.size; (try replace r1 := r1.of_eq (hcn.block _ r1.lt (by omega))); (try replace q1 := q1.of_eq (hcn.block _ q1.lt (by omega))); (try replace g2 := g2.of_eq (hcn.block _ g2.lt (by omega))); (try replace u2 := u2.of_eq (hcn.block _ u2.lt (by omega))); have p2 := ht; clear ht; simp only [putS]) | (have _ := g2; refine wpList_allocBk (t := 68) rfl _ (run_alloc_Ps _ _ rfl) ?_; intro b_p2 wn hle hge ht hbn hzn; have hsz := B.size; replace B := B.trans (hbn.mono (by omega)); have hln := Nat.lt_of_lt_of_eq (Nat.lt_succ_self _) hzn.symm; clear hzn; (try have hlt := r1.lt); (try replace r1 := r1.below (hbn.mono hle)); (try have hlt := q1.lt); (try replace q1 := q1.below (hbn.mono hle)); (try have hlt := g2.lt); (try replace g2 := g2.below (hbn.mono hle)); (try have hlt := p2.lt); (try replace p2 := p2.below (hbn.mono hle)); (try have hlt := u2.lt); (try replace u2 := u2.below (hbn.mono hle)); have p2 := ht; clear ht; simp only [putS]) | (go_at_call 71; refine (AT.out _).mono ?_; rintro e wn ⟨rfl, hbn⟩; have hsz := B.size; have hzn := hbn.size; replace B := B.trans (hbn.mono B.size); (try replace r1 := r1.below hbn); (try replace q1 := q1.below hbn); (try replace g2 := g2.below hbn); (try replace p2 := p2.below hbn); (try replace u2 := u2.below hbn)) | (have _ := q1; refine wpList_allocBk (t := 63) rfl _ (run_alloc_G _ _ rfl) ?_; intro b_g2 wn hle hge ht hbn hzn; have hsz := B.size; replace B := B.trans (hbn.mono (by omega)); have hln := Nat.lt_of_lt_of_eq (Nat.lt_succ_self _) hzn.symm; clear hzn; (try have hlt := r1.lt); (try replace r1 := r1.below (hbn.mono hle)); (try have hlt := q1.lt); (try replace q1 := q1.below (hbn.mono hle)); (try have hlt := g2.lt); (try replace g2 := g2.below (hbn.mono hle)); (try have hlt := p2.lt); (try replace p2 := p2.below (hbn.mono hle)); (try have hlt := u2.lt); (try replace u2 := u2.below (hbn.mono hle)); have g2 := ht; clear ht; simp only [putS]) | (have _ := r1; refine wpList_boxPx' rfl _ rfl _ rfl ?_; intro b_q1 wn hle hge ht hbn hzn; have hsz := B.size; replace B := B.trans (hbn.mono (by omega)); have hln := Nat.lt_of_lt_of_eq (Nat.lt_succ_self _) hzn.symm; clear hzn; (try have hlt := r1.lt); (try replace r1 := r1.below (hbn.mono hle)); (try have hlt := q1.lt); (try replace q1 := q1.below (hbn.mono hle)); (try have hlt := g2.lt); (try replace g2 := g2.below (hbn.mono hle)); (try have hlt := p2.lt); (try replace p2 := p2.below (hbn.mono hle)); (try have hlt := u2.lt); (try replace u2 := u2.below (hbn.mono hle)); have q1 := ht; clear ht; simp only [putS]) | (refine wpList_boxB (t := 34) rfl _ rfl _ rfl ?_; intro b_r1 wn hle hge ht hbn hzn; have hsz := B.size; replace B := B.trans (hbn.mono (by omega)); have hln := Nat.lt_of_lt_of_eq (Nat.lt_succ_self _) hzn.symm; clear hzn; (try have hlt := r1.lt); (try replace r1 := r1.below (hbn.mono hle)); (try have hlt := q1.lt); (try replace q1 := q1.below (hbn.mono hle)); (try have hlt := g2.lt); (try replace g2 := g2.below (hbn.mono hle)); (try have hlt := p2.lt); (try replace p2 := p2.below (hbn.mono hle)); (try have hlt := u2.lt); (try replace u2 := u2.below (hbn.mono hle)); have r1 := ht; clear ht; simp only [putS]) | fail)
 have hp2 := p2.lt
 go_cut [10] from 14 to 17 (fun s wx => ∃ b, s = .pointer (some ⟨b, 0, none⟩) ∧ TileAt wx b (tileL (fineL ls) q q') ∧ Below w.heap.size w wx ∧ b_p2 < b ∧ AtB 34 wx b_r1 #[.slice a ls.length c] ∧ PixAt wx b_q1 p ∧ AtB 63 wx b_g2 #[.slice none 0 0, .int .i64 0] ∧ AtB 68 wx b_p2 #[.int .i64 q, .int .i64 q'])
 case first =>
  try have r1B := r1
  try have q1B := q1
  try have g2B := g2
  try have p2B := p2
  try have u2B := u2
  refine wp_region_X0 5 #[false, false, false, false, false, false] (by kernel_rfl) (by kernel_rfl) ?_
  intro wn hbn
  have hX := hbn
  have hsz := B.size
  have hzn := hbn.size
  replace B := B.trans (hbn.mono B.size)
  try replace r1 := r1.below hbn
  try replace q1 := q1.below hbn
  try replace g2 := g2.below hbn
  try replace p2 := p2.below hbn
  try replace u2 := u2.below hbn
  simp only [List.length_cons, List.length_nil, Nat.reduceAdd]
  refine anyX_take 0 rfl (by kernel_rfl) ⟨_, ov_of hX⟩ ?_
  intro K hK
  try simp only [gelS]
  (first | (refine quiet_loadAny (t := 34) rfl _ _ _ rfl (fun w hw => run_load_B (ov_B r1B w hw) Tryz.isAgg34 (by kernel_rfl)) (by rfl) ?_; simp only [putS]; go_big_quiet_on) | (refine quiet_loadAny (t := 68) rfl _ _ _ rfl (fun w hw => run_load_B (ov_B p2B w hw) Tryz.isAgg68 (by kernel_rfl)) (by rfl) ?_; simp only [putS]; go_big_quiet_on) | (go_big_quiet_op; go_big_quiet_on))
  simp only [putS]
  refine anyX_take 2 rfl (by kernel_rfl) ⟨_, ov_of hX⟩ ?_
  intro K hK
  try simp only [gelS]
  (first | (refine quiet_loadAny (t := 34) rfl _ _ _ rfl (fun w hw => run_load_B (ov_B r1B w hw) Tryz.isAgg34 (by kernel_rfl)) (by rfl) ?_; simp only [putS]; go_big_quiet_on) | (refine quiet_loadAny (t := 68) rfl _ _ _ rfl (fun w hw => run_load_B (ov_B p2B w hw) Tryz.isAgg68 (by kernel_rfl)) (by rfl) ?_; simp only [putS]; go_big_quiet_on) | (go_big_quiet_op; go_big_quiet_on))
  simp only [putS]
  refine anyX_two 1 4 rfl rfl (by kernel_rfl) rfl rfl (fun K hK => ?_) (fun K hK => ?_)
  ·skip
   try simp only [gelS]
   go_simp
   go_at_call 40
   refine ((HT.out _ B).1).mono ?_
   rintro e wn ⟨rfl, hbn⟩
   have hsz := B.size
   have hzn := hbn.size
   have hsx := hX.size
   replace B := B.trans (hbn.mono B.size)
   replace hX := hX.trans (hbn.mono hX.size)
   try replace r1 := r1.below hbn
   try replace q1 := q1.below hbn
   try replace g2 := g2.below hbn
   try replace p2 := p2.below hbn
   try replace u2 := u2.below hbn
   refine hK _ _ ⟨fun _ => ⟨_, ov_of hX⟩, ?_⟩
   clear hK K
   try simp only [gelS]
   simp only [putS]
   refine anyX_two 3 4 rfl rfl (by kernel_rfl) rfl rfl (fun K hK => ?_) (fun K hK => ?_)
   ·skip
    try simp only [gelS]
    go_simp
    go_at_call 43
    refine (R_Tile _ (fineL ls) q q' _ (HT.out _ B).2 hfl).mono ?_
    rintro e wn ⟨rfl, hbn⟩
    have hsz := B.size
    have hzn := hbn.size
    have hsx := hX.size
    replace B := B.trans (hbn.mono B.size)
    replace hX := hX.trans (hbn.mono hX.size)
    try replace r1 := r1.below hbn
    try replace q1 := q1.below hbn
    try replace g2 := g2.below hbn
    try replace p2 := p2.below hbn
    try replace u2 := u2.below hbn
    refine hK _ _ ⟨fun _ => ⟨_, ov_of hX⟩, ?_⟩
    clear hK K
    try simp only [gelS]
    simp only [putS]
    refine anyX_next 4 rfl (by kernel_rfl) rfl (fun K hK => ?_)
    try simp only [gelS]
    refine owp_allocTb rfl ?_
    intro b_u2 wn hle hge ht hbn hzn
    have hsz := B.size
    have hsx := hX.size
    replace B := B.trans (hbn.mono (by omega))
    replace hX := hX.trans (hbn.mono (by omega))
    try first | (have hlt := r1.lt; replace r1 := r1.of_eq (hbn.block _ (by omega))) | replace r1 := r1.below (hbn.mono hle)
    try first | (have hlt := q1.lt; replace q1 := q1.of_eq (hbn.block _ (by omega))) | replace q1 := q1.below (hbn.mono hle)
    try first | (have hlt := g2.lt; replace g2 := g2.of_eq (hbn.block _ (by omega))) | replace g2 := g2.below (hbn.mono hle)
    try first | (have hlt := p2.lt; replace p2 := p2.of_eq (hbn.block _ (by omega))) | replace p2 := p2.below (hbn.mono hle)
    try first | (have hlt := u2.lt; replace u2 := u2.of_eq (hbn.block _ (by omega))) | replace u2 := u2.below (hbn.mono hle)
    have u2 := ht
    clear ht
    refine hK _ _ ⟨fun _ => ⟨_, ov_of hX⟩, ?_⟩
    clear hK K
    try simp only [gelS]
    simp only [putS]
    refine anyX_seq (by kernel_rfl) (by kernel_rfl) ?_
    simp only [List.drop_succ_cons, List.drop_zero]
    go_wp2_with (first | (refine wpList_storeT rfl _ _ rfl _ rfl _ rfl u2 ?_; clear u2; intro wn ht hcn hzn; have hsz := B.size; replace hzn := Nat.le_of_eq hzn.symm; replace B := Chg.below B hcn (by omega) B.size; (try replace r1 := r1.of_eq (hcn.block _ r1.lt (by omega))); (try replace q1 := q1.of_eq (hcn.block _ q1.lt (by omega))); (try replace g2 := g2.of_eq (hcn.block _ g2.lt (by omega))); (try replace p2 := p2.of_eq (hcn.block _ p2.lt (by omega))); have u2 := ht; clear ht; simp only [putS]) | fail)
    refine NoPan.normal ?_
    go_wp2_with fail
    go_meet
    exact ⟨_, rfl, u2, B, by omega, r1, q1, g2, p2⟩
   ·skip
    try simp only [gelS]
    refine owp_allocTb rfl ?_
    intro b_u2 wn hle hge ht hbn hzn
    have hsz := B.size
    have hsx := hX.size
    replace B := B.trans (hbn.mono (by omega))
    replace hX := hX.trans (hbn.mono (by omega))
    try first | (have hlt := r1.lt; replace r1 := r1.of_eq (hbn.block _ (by omega))) | replace r1 := r1.below (hbn.mono hle)
    try first | (have hlt := q1.lt; replace q1 := q1.of_eq (hbn.block _ (by omega))) | replace q1 := q1.below (hbn.mono hle)
    try first | (have hlt := g2.lt; replace g2 := g2.of_eq (hbn.block _ (by omega))) | replace g2 := g2.below (hbn.mono hle)
    try first | (have hlt := p2.lt; replace p2 := p2.of_eq (hbn.block _ (by omega))) | replace p2 := p2.below (hbn.mono hle)
    try first | (have hlt := u2.lt; replace u2 := u2.of_eq (hbn.block _ (by omega))) | replace u2 := u2.below (hbn.mono hle)
    have u2 := ht
    clear ht
    refine hK _ _ ⟨fun _ => ⟨_, ov_of hX⟩, ?_⟩
    clear hK K
    try simp only [gelS]
    simp only [putS]
    refine anyX_next 3 rfl (by kernel_rfl) rfl (fun K hK => ?_)
    try simp only [gelS]
    go_simp
    go_at_call 43
    refine (R_Tile _ (fineL ls) q q' _ (HT.out _ B).2 hfl).mono ?_
    rintro e wn ⟨rfl, hbn⟩
    have hsz := B.size
    have hzn := hbn.size
    have hsx := hX.size
    replace B := B.trans (hbn.mono B.size)
    replace hX := hX.trans (hbn.mono hX.size)
    try replace r1 := r1.below hbn
    try replace q1 := q1.below hbn
    try replace g2 := g2.below hbn
    try replace p2 := p2.below hbn
    try replace u2 := u2.below hbn
    refine hK _ _ ⟨fun _ => ⟨_, ov_of hX⟩, ?_⟩
    clear hK K
    try simp only [gelS]
    simp only [putS]
    refine anyX_seq (by kernel_rfl) (by kernel_rfl) ?_
    simp only [List.drop_succ_cons, List.drop_zero]
    go_wp2_with (first | (refine wpList_storeT rfl _ _ rfl _ rfl _ rfl u2 ?_; clear u2; intro wn ht hcn hzn; have hsz := B.size; replace hzn := Nat.le_of_eq hzn.symm; replace B := Chg.below B hcn (by omega) B.size; (try replace r1 := r1.of_eq (hcn.block _ r1.lt (by omega))); (try replace q1 := q1.of_eq (hcn.block _ q1.lt (by omega))); (try replace g2 := g2.of_eq (hcn.block _ g2.lt (by omega))); (try replace p2 := p2.of_eq (hcn.block _ p2.lt (by omega))); have u2 := ht; clear ht; simp only [putS]) | fail)
    refine NoPan.normal ?_
    go_wp2_with fail
    go_meet
    exact ⟨_, rfl, u2, B, by omega, r1, q1, g2, p2⟩
  ·skip
   try simp only [gelS]
   refine owp_allocTb rfl ?_
   intro b_u2 wn hle hge ht hbn hzn
   have hsz := B.size
   have hsx := hX.size
   replace B := B.trans (hbn.mono (by omega))
   replace hX := hX.trans (hbn.mono (by omega))
   try first | (have hlt := r1.lt; replace r1 := r1.of_eq (hbn.block _ (by omega))) | replace r1 := r1.below (hbn.mono hle)
   try first | (have hlt := q1.lt; replace q1 := q1.of_eq (hbn.block _ (by omega))) | replace q1 := q1.below (hbn.mono hle)
   try first | (have hlt := g2.lt; replace g2 := g2.of_eq (hbn.block _ (by omega))) | replace g2 := g2.below (hbn.mono hle)
   try first | (have hlt := p2.lt; replace p2 := p2.of_eq (hbn.block _ (by omega))) | replace p2 := p2.below (hbn.mono hle)
   try first | (have hlt := u2.lt; replace u2 := u2.of_eq (hbn.block _ (by omega))) | replace u2 := u2.below (hbn.mono hle)
   have u2 := ht
   clear ht
   refine hK _ _ ⟨fun _ => ⟨_, ov_of hX⟩, ?_⟩
   clear hK K
   try simp only [gelS]
   simp only [putS]
   refine anyX_next 1 rfl (by kernel_rfl) rfl (fun K hK => ?_)
   try simp only [gelS]
   go_simp
   go_at_call 40
   refine ((HT.out _ B).1).mono ?_
   rintro e wn ⟨rfl, hbn⟩
   have hsz := B.size
   have hzn := hbn.size
   have hsx := hX.size
   replace B := B.trans (hbn.mono B.size)
   replace hX := hX.trans (hbn.mono hX.size)
   try replace r1 := r1.below hbn
   try replace q1 := q1.below hbn
   try replace g2 := g2.below hbn
   try replace p2 := p2.below hbn
   try replace u2 := u2.below hbn
   refine hK _ _ ⟨fun _ => ⟨_, ov_of hX⟩, ?_⟩
   clear hK K
   try simp only [gelS]
   simp only [putS]
   refine anyX_next 3 rfl (by kernel_rfl) rfl (fun K hK => ?_)
   try simp only [gelS]
   go_simp
   go_at_call 43
   refine (R_Tile _ (fineL ls) q q' _ (HT.out _ B).2 hfl).mono ?_
   rintro e wn ⟨rfl, hbn⟩
   have hsz := B.size
   have hzn := hbn.size
   have hsx := hX.size
   replace B := B.trans (hbn.mono B.size)
   replace hX := hX.trans (hbn.mono hX.size)
   try replace r1 := r1.below hbn
   try replace q1 := q1.below hbn
   try replace g2 := g2.below hbn
   try replace p2 := p2.below hbn
   try replace u2 := u2.below hbn
   refine hK _ _ ⟨fun _ => ⟨_, ov_of hX⟩, ?_⟩
   clear hK K
   try simp only [gelS]
   simp only [putS]
   refine anyX_seq (by kernel_rfl) (by kernel_rfl) ?_
   simp only [List.drop_succ_cons, List.drop_zero]
   go_wp2_with (first | (refine wpList_storeT rfl _ _ rfl _ rfl _ rfl u2 ?_; clear u2; intro wn ht hcn hzn; have hsz := B.size; replace hzn := Nat.le_of_eq hzn.symm; replace B := Chg.below B hcn (by omega) B.size; (try replace r1 := r1.of_eq (hcn.block _ r1.lt (by omega))); (try replace q1 := q1.of_eq (hcn.block _ q1.lt (by omega))); (try replace g2 := g2.of_eq (hcn.block _ g2.lt (by omega))); (try replace p2 := p2.of_eq (hcn.block _ p2.lt (by omega))); have u2 := ht; clear ht; simp only [putS]) | fail)
   refine NoPan.normal ?_
   go_wp2_with fail
   go_meet
   exact ⟨_, rfl, u2, B, by omega, r1, q1, g2, p2⟩
 case rest =>
  obtain ⟨b_u2, rfl, u2, B, hb2, r1, q1, g2, p2⟩ := hcut
  go_wp2
  refine wp_region_ov_tail 15 (by kernel_rfl) (by kernel_rfl) ?_
  simp only [List.take_succ_cons, List.take_zero, List.drop_succ_cons, List.drop_zero]
  repeat (first | go_big_quiet_skip | (go_big_quiet_want; first | (refine quiet_loadAny (t := 34) rfl _ _ _ rfl (fun w hw => run_load_B (ov_B r1 w hw) Tryz.isAgg34 (by kernel_rfl)) (by rfl) ?_; simp only [putS]; go_big_quiet_on) | (refine quiet_loadAny (t := 3) rfl _ _ _ rfl (fun w hw => run_load_int ((ov_B p2 w hw).cell 0 rfl)) (by rfl) ?_; simp only [putS]; go_big_quiet_on) | (refine quiet_loadAny (t := 3) rfl _ _ _ rfl (fun w hw => run_load_int ((ov_B p2 w hw).cell 1 rfl)) (by rfl) ?_; simp only [putS]; go_big_quiet_on) | (refine quiet_loadAny (t := 68) rfl _ _ _ rfl (fun w hw => run_load_B (ov_B p2 w hw) Tryz.isAgg68 (by kernel_rfl)) (by rfl) ?_; simp only [putS]; go_big_quiet_on) | (refine quiet_loadT rfl _ rfl (ov_tile u2) ?_; simp only [putS]; go_big_quiet_on) | (refine quiet_loadPx rfl _ rfl (ov_px q1) ?_; simp only [putS]; go_big_quiet_on) | (go_big_quiet_op; first | go_big_quiet_on | go_big_quiet_call ((first | (go_at_call 73; exact calls_ov (R_Set _ _ _ _ _)))))))
  refine wpQuiet_nil ?_
  intro wn hbn
  have hsz := B.size
  have hzn := hbn.size
  replace B := B.trans (hbn.mono B.size)
  try replace g2 := g2.below hbn
  go_wp2_with (first | (refine wpList_storeB (t := 63) rfl _ _ rfl _ rfl _ rfl g2 (by kernel_rfl) rfl (by simp [Value.oneCell']) ?_; have g2o := g2; clear g2; intro wn ht hcn hzn; replace rs1 := rs1.chg g2o (by simp) hcn; have hsz := B.size; replace hzn := Nat.le_of_eq hzn.symm; replace B := Chg.below B hcn (by omega) B.size; have g2 := ht; clear ht; simp only [putS]) | (go_at_call 72; refine (R_PutR _ ls q q' _ _ (HS.out.below B) TK.out hn KK.out).mono ?_; rintro e wn ⟨v1, rfl, rs1, hbn⟩; obtain ⟨a1, c1, rfl, hc1⟩ := rs1.len; have hsz := B.size; have hzn := hbn.size; replace B := B.trans (hbn.mono B.size); (try replace g2 := g2.below hbn)) | fail)
  refine bodyPost_ret (results_B (t := 63) rfl _ _ (b_g2) rfl g2 Tryz.isAgg63 (by kernel_rfl)) rfl ?_
  refine ⟨_, by rw [e1.out]; try rfl, ?_, B⟩
  rw [e2.out]
  exact rs1
end Go.Proofs.YtamgpfblhlfhaaaGreat
