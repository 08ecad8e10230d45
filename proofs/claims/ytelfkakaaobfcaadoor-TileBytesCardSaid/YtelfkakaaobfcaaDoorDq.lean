/- Slices of bytes that the call itself has made and appends to. -/
import Derived.Test.YtelfkakaaobfcaaDoorDp
import Derived.Test.YtelfkakaaobfcaaDoorDs
import Derived.Laws.AppendOwn
namespace Go.Proofs.YtelfkakaaobfcaaDoor
open Go.RowKit Sha
set_option linter.unusedVariables false
set_option linter.unusedSimpArgs false

/-- v is a slice of the bytes l, in a row that the call owns (from block B on). -/
def OwnB (B : Nat) (v : Value) (l : List UInt8) (w : World) : Prop := w.ownsRow B 5 1 v l.length (Lib.byteCells l)
section
variable {B : Nat} {v : Value} {l : List UInt8} {w : World}
theorem OwnB.below {w' : World} (h : OwnB B v l w) (hb : Below w.heap.size w w') : OwnB B v l w' :=
  World.ownsRow.kept (row := none) h ⟨hb.os, hb.tape, hb.output, hb.size, fun k hk _ => hb.block k hk⟩ (Classical.em _)
theorem bC_cells (n : Nat) (l : List UInt8) (f : Nat → UInt8) (hn : n = l.length) (hf : ∀ i, i < n → l[i]? = some (f i)) : (bC n f).toList = Lib.byteCells l := by
  subst hn
  apply List.ext_getElem?
  intro i
  rw [Array.getElem?_toList, get_bC]
  unfold Lib.byteCells
  rw [List.getElem?_map]
  by_cases hi : i < l.length
  · rw [if_pos hi, hf i hi]; rfl
  · rw [if_neg hi, List.getElem?_eq_none (by omega)]; rfl
theorem OwnB.made {b n : Nat} {f : Nat → UInt8} (h : BAt 5 n w b f) (hb : B ≤ b) (hn : n = l.length) (hm : n ≤ maxLen) (hf : ∀ i, i < n → l[i]? = some (f i)) : OwnB B (.slice (some ⟨b, 0, none⟩) n n) l w := by
  have hc := bC_cells n l f hn hf
  refine ⟨by simp [Lib.byteCells], .inr ⟨b, n, bC n f, by rw [hn], hb, h, by omega, hm, by rw [size_bC]; omega, ?_⟩⟩
  rw [hc, Nat.mul_one]
  exact List.take_of_length_le (by simp [Lib.byteCells])
/-- As a string. -/
theorem OwnB.conv (h : OwnB B v l w) (hl : l ≠ []) : (convert 44 9 v).run Tryd.prog w = .ok (.string (ofL l)) w := by
  obtain ⟨h1, h2⟩ := h
  rcases h2 with ⟨rfl, h0⟩ | ⟨g, cap, cur, rfl, hb, hg, hn, hm, hs, ht⟩
  · exact absurd (List.eq_nil_of_length_eq_zero h0) hl
  · have hb : Lib.Bytes w g 0 (ofL l) := fun i hi => by
      rw [ofL_size] at hi
      have e : cur[i]? = some (.int .u8 (l[i].toNat : Int)) := by
        have := congrArg (fun x : List Value => x[i]?) ht
        simp only [Nat.mul_one, Lib.byteCells, List.getElem?_map, List.getElem?_eq_getElem hi, Option.map_some] at this
        rw [List.getElem?_take_of_lt hi, Array.getElem?_toList] at this
        exact this
      rw [Nat.zero_add, cell_of_row w g i cur _ (0, 0) hg, e]
      rfl
    have := Lib.run_convert_whole (P := Tryd.prog) w 44 5 9 Tryd.underlying44 Tryd.underlying5 Tryd.underlying9 g 0 (ofL l) hb cap
    rw [ofL_size] at this
    exact this
theorem OwnB.len (h : OwnB B v l w) : ∃ a c, v = .slice a l.length c := by
  obtain ⟨h1, h2⟩ := h
  rcases h2 with ⟨rfl, h0⟩ | ⟨g, cap, cur, rfl, _⟩
  · exact ⟨none, 0, by rw [h0]⟩
  · exact ⟨_, cap, rfl⟩
end
theorem run_bs0 (w : World) (o : Oper) (ho : o.op = .buildSlice 44 1 #[(0, .const (.int .u8 0))]) (ev : Operand → Value) (hev : ev (.const (.int .u8 0)) = .int .u8 0) : (execOp ev o).run Tryd.prog w = .ok (.value (.slice (some ⟨w.heap.size, 0, none⟩) 1 1)) (w.alloc (.cells (bC 1 fun _ => 0) 5)) := by
  obtain ⟨d, p, t, ps, af, gd⟩ := o
  simp only at ho
  subst ho
  unfold execOp
  simp only [List.map_toArray, List.map_cons, List.map_nil, hev]
  kernel_rfl
theorem run_bs128 (w : World) (o : Oper) (ho : o.op = .buildSlice 44 1 #[(0, .const (.int .u8 128))]) (ev : Operand → Value) (hev : ev (.const (.int .u8 128)) = .int .u8 128) : (execOp ev o).run Tryd.prog w = .ok (.value (.slice (some ⟨w.heap.size, 0, none⟩) 1 1)) (w.alloc (.cells (bC 1 fun _ => 128) 5)) := by
  obtain ⟨d, p, t, ps, af, gd⟩ := o
  simp only at ho
  subst ho
  unfold execOp
  simp only [List.map_toArray, List.map_cons, List.map_nil, hev]
  kernel_rfl
section
variable {ops : Array Oper} {rest : List Oper} {o : Oper} {a : Act} {w : World} {Q : Exit → Act → World → Prop}
theorem wpList_bs0 (hg : o.guard = none) (ho : o.op = .buildSlice 44 1 #[(0, .const (.int .u8 0))])
    (h : ∀ b w', w.heap.size ≤ b → b ≤ w.heap.size → BAt 5 1 w' b (fun _ => 0) → Below b w w' → w'.heap.size = b + 1 → wpList Tryd.prog ops Q rest (a.put o.dst (.slice (some ⟨b, 0, none⟩) 1 1)) w') : wpList Tryd.prog ops Q (o :: rest) a w :=
  wpList_plain hg fun K hK => by
    unfold Oper.wp
    rw [run_bs0 w o ho _ rfl]
    exact hK _ _ (h _ _ (Nat.le_refl _) (Nat.le_refl _) (by unfold BAt; rw [heap_get_alloc, if_pos rfl]) ((Below.refl _ _).alloc (Nat.le_refl _) _) (World.size_alloc _ _))
theorem wpList_bs128 (hg : o.guard = none) (ho : o.op = .buildSlice 44 1 #[(0, .const (.int .u8 128))])
    (h : ∀ b w', w.heap.size ≤ b → b ≤ w.heap.size → BAt 5 1 w' b (fun _ => 128) → Below b w w' → w'.heap.size = b + 1 → wpList Tryd.prog ops Q rest (a.put o.dst (.slice (some ⟨b, 0, none⟩) 1 1)) w') : wpList Tryd.prog ops Q (o :: rest) a w :=
  wpList_plain hg fun K hK => by
    unfold Oper.wp
    rw [run_bs128 w o ho _ rfl]
    exact hK _ _ (h _ _ (Nat.le_refl _) (Nat.le_refl _) (by unfold BAt; rw [heap_get_alloc, if_pos rfl]) ((Below.refl _ _).alloc (Nat.le_refl _) _) (World.size_alloc _ _))
/-- One byte appended. -/
theorem wpList_append1 (hg : o.guard = none) (s x : Operand) (ho : o.op = .call { callee := .builtin .append, args := #[s, x], argTypes := #[44, 44] }) (v : Value) (hs : a.eval s = v) (b c : Nat) (hx : a.eval x = .slice (some ⟨b, 0, none⟩) 1 c) {B : Nat} {l : List UInt8} {y : UInt8} {f : Nat → UInt8} (hown : OwnB B v l w) (hb : BAt 5 1 w b f) (hy : f 0 = y) (hlen : l.length + 1 ≤ 140737488355328) (hB : B ≤ w.heap.size)
    (h : ∀ v' w', OwnB B v' (l ++ [y]) w' → Below B w w' → wpList Tryd.prog ops Q rest (a.put o.dst v') w') : wpList Tryd.prog ops Q (o :: rest) a w := by
  obtain ⟨i, hi⟩ : ∃ i, Tryd.prog.info? 5 = some i := by
    cases h : Tryd.prog.info? 5 with
    | some i => exact ⟨i, rfl⟩
    | none =>
      have e : (Tryd.prog.info? 5).isSome = true := by kernel_rfl
      rw [h] at e; cases e
  have hz : i.zero = some (.int .u8 0) := by
    have e : (Tryd.prog.info? 5).bind (·.zero) = some (.int .u8 0) := by kernel_rfl
    rw [hi] at e; exact e
  have hs1 : i.size = 1 := by
    have e : (Tryd.prog.info? 5).map (·.size) = some 1 := by kernel_rfl
    rw [hi] at e; simpa using e
  have hb1 : i.bytes = 1 := by
    have e : (Tryd.prog.info? 5).map (·.bytes) = some 1 := by kernel_rfl
    rw [hi] at e; simpa using e
  refine wpList_append_own (P := Tryd.prog) w hg s x 44 ho B 5 i (.int .u8 0) 1 1 Tryd.underlying44 hi hz hs1 hb1 rfl (by omega) v l.length (Lib.byteCells l) hs hown ⟨b, 0, none⟩ 1 c [Y y] hx rfl ?_ ?_ (by unfold maxLen; omega) (by omega) hB ?_
  · intro j u hu
    cases j with
    | zero =>
      simp at hu
      subst hu
      have := hb.cell (i := 0) (by omega)
      rw [hy] at this
      simpa [Addr.add] using this
    | succ j => simp at hu
  · intro u hu
    simp at hu
    subst hu
    rfl
  · intro v' w' h1 h2 h3
    refine h v' w' ?_ ?_
    · unfold OwnB
      rw [bc_append, List.length_append]
      exact h1
    · have hlt := hown.lt
      exact ⟨h2.os, h2.tape, h2.output, h2.size, fun k hk => h2.block k (by omega) (fun e => by have := hlt k e.symm; omega)⟩
end
end Go.Proofs.YtelfkakaaobfcaaDoor
