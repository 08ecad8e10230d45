/- General laws of the walk, of no type: worlds in which one block may have been written; loads and stores by any law of a run. -/
import Derived.Test.YtppccnjckiedlaaAb
import Derived.Test.YtppccnjckiedlaaRows
import Derived.OwnWalkIn
import Derived.TacticsInMore
import Derived.Great.Ranges
namespace Go.Proofs.Ytppccnjckiedlaa
open Go.RowKit
set_option linter.unusedVariables false
set_option linter.unusedSimpArgs false

/-- Block b aside, what was there is as it was. -/
structure Chg (b : Nat) (w w' : World) : Prop where
  os : w'.os = w.os
  tape : w'.tape = w.tape
  output : w'.output = w.output
  size : w.heap.size ≤ w'.heap.size
  block : ∀ k, k < w.heap.size → k ≠ b → w'.heap[k]? = w.heap[k]?
theorem Chg.refl (b : Nat) (w : World) : Chg b w w := ⟨rfl, rfl, rfl, Nat.le_refl _, fun _ _ _ => rfl⟩
theorem Chg.trans {b : Nat} {w1 w2 w3 : World} (h : Chg b w1 w2) (k : Chg b w2 w3) : Chg b w1 w3 :=
  ⟨k.os.trans h.os, k.tape.trans h.tape, k.output.trans h.output, Nat.le_trans h.size k.size, fun i hi hb => (k.block i (Nat.lt_of_lt_of_le hi h.size) hb).trans (h.block i hi hb)⟩
theorem Chg.of_below {b : Nat} {w w' : World} (h : Below w.heap.size w w') : Chg b w w' := ⟨h.os, h.tape, h.output, h.size, fun k hk _ => h.block k hk⟩
theorem Chg.setCell {b i : Nat} {w w' : World} (h : Chg b w w') (v : Value) : Chg b w (w'.setCell ⟨b, i, none⟩ v) :=
  ⟨h.os, h.tape, h.output, by rw [World.size_setCell]; exact h.size, fun k hk hb => (heap_setCell_other _ _ _ _ hb).trans (h.block k hk hb)⟩
theorem Chg.alloc {b : Nat} {w w' : World} (h : Chg b w w') (o : Obj) : Chg b w (w'.alloc o) :=
  ⟨h.os, h.tape, h.output, Nat.le_trans h.size (by rw [World.size_alloc]; omega), fun k hk hb => by rw [heap_get_alloc, if_neg (by have := h.size; omega)]; exact h.block k hk hb⟩
/-- A change of a block that was made since: nothing below has turned. -/
theorem Chg.below {b B : Nat} {w w1 w2 : World} (h : Below B w w1) (k : Chg b w1 w2) (hB : B ≤ b) (hw : B ≤ w1.heap.size) : Below B w w2 :=
  h.trans ⟨k.os, k.tape, k.output, k.size, fun i hi => k.block i (by omega) (by omega)⟩

theorem Chg.setRow {b : Nat} {w w' : World} (h : Chg b w w') (cs : Array Value) : Chg b w (w'.setRow b cs) :=
  ⟨h.os, h.tape, h.output, by rw [size_setRow]; exact h.size, fun k hk hb => (setRow_other _ _ _ _ hb).trans (h.block k hk hb)⟩

theorem set_same {α : Type} {a : Array α} {i : Nat} {v : α} (h : a[i]? = some v) : a.setIfInBounds i v = a := by
  apply Array.ext_getElem?
  intro k
  rw [Array.getElem?_setIfInBounds]
  by_cases e : i = k
  · subst e
    obtain ⟨hl, hv⟩ := Array.getElem?_eq_some_iff.1 h
    simp [hl, hv]
  · rw [if_neg e]
theorem run_load_u8 {w : World} {b j : Nat} {v : Value} (h : w.cell? ⟨b, j, none⟩ = some v) : (Instr.loadAt 5 (.pointer (some ⟨b, j, none⟩))).run Try.prog w = .ok v w := by
  simp [go_sem, h]
theorem run_load_int {w : World} {b j : Nat} {v : Value} (h : w.cell? ⟨b, j, none⟩ = some v) : (Instr.loadAt 3 (.pointer (some ⟨b, j, none⟩))).run Try.prog w = .ok v w := by
  simp [go_sem, h]
theorem run_load_part {w : World} {b off : Nat} {bcs cs : Array Value} {bt t : TypeId} (h : w.heap[b]? = some (.cells bcs bt (0, 0))) (hagg : ∀ w : World, (isAgg t).run Try.prog w = .ok true w)
    (hsz : (Try.prog.info? t).map (·.size) = some cs.size) (hc : ∀ j, j < cs.size → bcs[off + j]? = cs[j]?) : (Instr.loadAt t (.pointer (some ⟨b, off, none⟩))).run Try.prog w = .ok (.agg cs) w := by
  simp only [Instr.loadAt, Instr.sureAddr, Sem.run_bind, Sem.run_pure, Result.andThen_ok]
  have hl : (loadCells ⟨b, off, none⟩ cs.toList.length).run Try.prog w = .ok cs.toList.toArray w :=
    run_loadCells_list (P := Try.prog) w ⟨b, off, none⟩ cs.toList (fun j v hv => by
      have hadd : (⟨b, off, none⟩ : Addr).add j = ⟨b, off + j, none⟩ := by unfold Addr.add; split <;> simp_all
      have hj : j < cs.size := by
        have := (List.getElem?_eq_some_iff.1 hv).1
        rw [Array.length_toList] at this
        exact this
      rw [hadd, cell_of_row w b _ bcs _ (0, 0) h, hc j hj]
      simpa using hv)
  cases hq : Try.prog.info? t with
  | none => rw [hq] at hsz; cases hsz
  | some i =>
    have he : i.size = cs.size := by rw [hq] at hsz; simpa using hsz
    rw [Array.length_toList] at hl
    simp only [Array.toArray_toList] at hl
    simp only [loadVar, Sem.run_bind, hagg w, sizeOf, typeInfo, hq, he, hl, run_program, Result.andThen_ok, if_true, Sem.run_pure]
section
variable {ops : Array Oper} {rest : List Oper} {o : Oper} {a : Act} {w : World} {Q : Exit → Act → World → Prop}
theorem wpList_loadAny {t : TypeId} {v : Value} (hg : o.guard = none) (x : Operand) (ho : o.op = .load t x) (b j j' : Nat) (hx : a.eval x = .pointer (some ⟨b, j', none⟩)) (hr : (Instr.loadAt t (.pointer (some ⟨b, j, none⟩))).run Try.prog w = .ok v w) (hj : j' = j)
    (h : wpList Try.prog ops Q rest (a.put o.dst v) w) : wpList Try.prog ops Q (o :: rest) a w :=
  wpList_plain hg fun K hK => by
    subst hj
    unfold Oper.wp execOp
    simp only [ho, hx, hr, Sem.run_bind, Sem.run_pure, Result.andThen_ok]
    exact hK _ _ h
theorem wpList_storeAny {t : TypeId} (hg : o.guard = none) (x y : Operand) (ho : o.op = .store t x y) (w' : World) (hrun : (Instr.storeAt t (a.eval x) (a.eval y)).run Try.prog w = .ok () w')
    (h : wpList Try.prog ops Q rest (a.put o.dst undef) w') : wpList Try.prog ops Q (o :: rest) a w :=
  wpList_plain hg fun K hK => by
    unfold Oper.wp execOp
    simp only [ho, hrun, Sem.run_bind, Sem.run_pure, Result.andThen_ok]
    exact hK _ _ h
end
section
variable {C : World → Prop} {a : Act} {o : Oper} {K : Act → Prop}
theorem quiet_loadAny {t : TypeId} {v : Value} {x : Operand} (h : o.op = .load t x) (b j j' : Nat) (hx : a.eval x = .pointer (some ⟨b, j', none⟩)) (hr : ∀ w, C w → (Instr.loadAt t (.pointer (some ⟨b, j, none⟩))).run Try.prog w = .ok v w) (hj : j' = j) (hk : K (a.put o.dst v)) : o.quiet Try.prog a C K :=
  ⟨_, fun w hw => by subst hj; unfold Oper.quietAt execOp; simp only [h, hx, hr w hw, Sem.run_bind, Sem.run_pure, Result.andThen_ok]; exact ⟨rfl, rfl⟩, hk⟩
end
end Go.Proofs.Ytppccnjckiedlaa
