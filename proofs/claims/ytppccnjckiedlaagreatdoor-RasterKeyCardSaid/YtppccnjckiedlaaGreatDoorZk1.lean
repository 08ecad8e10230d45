import Derived.WalkKit
import Derived.WalkSpells
import Derived.WalkLawsBesides
import Derived.Handy
import Derived.BigQuiet
import Derived.Deep.QuietTactic
import Derived.Lib.Hide
import Derived.StillTail
import Derived.Test.YtppccnjckiedlaaGreatDoorRows
import Derived.OwnWalkIn
import Derived.TacticsInMore
import Derived.Great.Ranges
import Derived.Lib.SlBytesRow
import Derived.Shelf.Strings.Builder1
import Derived.Shelf.Small.Strs
import Derived.Shelf.Strings.Repeat
import Derived.Laws.AppendOwn
import Derived.Test.YtppccnjckiedlaaGreatDoorTie
import Derived.Test.YtppccnjckiedlaaGreatDoorCards
import Derived.ProofKit
import Derived.OpenShut
import Derived.ShutString
import Derived.LaidMore
import Derived.Stop.Joined
import Derived.Stop.LaidErr
import Derived.Lib.LaidTab
import Derived.Lib.SmallJoins
import Derived.SevenTiedAt
import Derived.Deep.Strs
import Derived.IntWalk
import Derived.RowKit
import Derived.Laws.EntriesVeiled
import Derived.Deep.RegionWith
import Derived.ChangeOld
import Derived.Below
import Derived.Carry
import Derived.RangeFuncNested
import Derived.RangeFuncBound
import Derived.RangeFuncCalls
import Derived.RangeFuncLeaves
import Derived.RangeFuncFrom
import Derived.LoopNIn
import Derived.LoopIn
import Derived.ChangeKeysEq
import Derived.Deep.RegionHeld3

namespace Go.Proofs.YtppccnjckiedlaaGreatDoor
theorem putS : (∀ (α : Type) (l : List α) (i : Nat) (a : α), l.toArray.setIfInBounds i a = (l.set i a).toArray) ∧ (∀ (α : Type) (x a : α) (xs : List α), (x :: xs).set 0 a = a :: xs) ∧ (∀ (α : Type) (x a : α) (xs : List α) (n : Nat), (x :: xs).set (n + 1) a = x :: xs.set n a) :=
  ⟨fun _ _ _ _ => List.setIfInBounds_toArray _ _ _, fun _ _ _ _ => List.set_cons_zero, fun _ _ _ _ _ => List.set_cons_succ⟩
theorem takS : (∀ (α : Type) (n : Nat) (x : α) (xs : List α), (x :: xs).take (n + 1) = x :: xs.take n) ∧ (∀ (α : Type) (xs : List α), xs.take 0 = []) ∧ (∀ (α : Type) (n : Nat) (x : α) (xs : List α), (x :: xs).drop (n + 1) = xs.drop n) ∧ (∀ (α : Type) (xs : List α), xs.drop 0 = xs) :=
  ⟨fun _ _ _ _ => List.take_succ_cons, fun _ _ => List.take_zero, fun _ _ _ _ => List.drop_succ_cons, fun _ _ => List.drop_zero⟩
end Go.Proofs.YtppccnjckiedlaaGreatDoor
/- General words of this seat's walks: worlds that have only grown ('Below'), a class of worlds for regions that draw their order. -/
namespace Go.Proofs.YtppccnjckiedlaaGreatDoor
open Go.RowKit
set_option linter.unusedVariables false
set_option linter.unusedSimpArgs false

open Classical in
/-- The world u, if it has only grown from w; else w. -/
noncomputable def ov (w u : World) : World := if Below w.heap.size w u then u else w
theorem ov_below (w u : World) : Below w.heap.size w (ov w u) := by
  unfold ov; split
  · assumption
  · exact Below.refl _ _
theorem ov_of {w u : World} (h : Below w.heap.size w u) : u = ov w u := by unfold ov; rw [if_pos h]
@[go_sem] theorem cell?_ov (w u : World) (b o : Nat) (h : b < w.heap.size) : (ov w u).cell? ⟨b, o, none⟩ = w.cell? ⟨b, o, none⟩ := (ov_below w u).cell (p := ⟨b, o, none⟩) h
@[go_sem] theorem frozen?_ov (w u : World) (b o : Nat) (h : b < w.heap.size) : (ov w u).frozen? ⟨b, o, none⟩ = w.frozen? ⟨b, o, none⟩ := (ov_below w u).frozen (p := ⟨b, o, none⟩) h

theorem below_ov {B : Nat} {w W : World} (h : Below B w W) (hB : B ≤ W.heap.size) (u : World) : Below B w (ov W u) := h.trans ((ov_below W u).mono hB)
/-- A contract that says 'Below', met inside a region of the class '∃ u, w' = ov w u'. -/
theorem calls_ov {P : Program} {f : FuncId} {args : Array Value} {w u : World} {v : Value}
    (h : Calls P f args (ov w u) fun e w' => e = .returned v ∧ Below (ov w u).heap.size (ov w u) w') : Calls P f args (ov w u) fun e w'' => e = .returned v ∧ ∃ u', w'' = ov w u' :=
  h.mono fun _ w2 ⟨he, hb⟩ => ⟨he, w2, ov_of ((ov_below w u).trans (hb.mono (ov_below w u).size))⟩
/-- A contract that leaves the world alone. -/
theorem calls_ov_same {P : Program} {f : FuncId} {args : Array Value} {w u : World} {v : Value}
    (h : Calls P f args (ov w u) fun e w' => e = .returned v ∧ ov w u = w') : Calls P f args (ov w u) fun e w'' => e = .returned v ∧ ∃ u', w'' = ov w u' :=
  h.mono fun _ w2 ⟨he, hb⟩ => ⟨he, u, hb.symm⟩

/-- A region that draws its order, whose operations read old memory and whose callees only make new memory: one walk in the order of the text; behind it a world that has only grown. -/
theorem wp_region_ov {P : Program} {id : Nat} {Q : Exit → Act → World → Prop} {a : Act} {w : World} {l : List Oper} (hm : P.follows .mixedOrders = true) (hB : Region.lexB .any l.toArray = true)
    (h : wpQuiet P l.toArray (fun w' => ∃ u, w' = ov w u) (fun a' => ∀ w', Below w.heap.size w w' → Q .normal a' w') l a) : (Code.region id l.toArray true).wp P Q a w := by
  refine wp_region_quiet (C := fun w' => ∃ u, w' = ov w u) hm hB ⟨w.drew, ov_of ((Below.refl _ _).drew)⟩ ?_
  have key : ∀ (l' : List Oper) (a : Act), wpQuiet P l.toArray (fun w' => ∃ u, w' = ov w u) (fun a' => ∀ w', Below w.heap.size w w' → Q .normal a' w') l' a →
      wpQuiet P l.toArray (fun w' => ∃ u, w' = ov w u) (fun a' => ∀ w', (∃ u, w' = ov w u) → Q .normal a' w') l' a := by
    intro l'
    induction l' with
    | nil =>
      intro a h
      exact fun w' ⟨u, hu⟩ => h w' (hu ▸ ov_below w u)
    | cons o r ih =>
      intro a h
      unfold wpQuiet at h ⊢
      split
      · rename_i hw
        rw [if_pos hw] at h
        exact Oper.quiet_mono (fun a' h' => ih a' h') h
      · rename_i hw
        rw [if_neg hw] at h
        exact ih _ h
  exact key _ _ (by simpa using h)

/-! ### A quiet head, then a tail in a forced order: Derived/StillTail.lean's theorem for a class of worlds -/
section
variable {P : Program} {ops : Array Oper} {md : Region.Mode} {C : World → Prop}

/-- f of the first n operations come up, in whatever order; then L. -/
def headAny (P : Program) (md : Region.Mode) (ops : Array Oper) (C : World → Prop) (n : Nat) (L : Array Bool → Act → Prop) : Nat → Array Bool → Act → Prop
  | 0, done, a => L done a
  | f + 1, done, a => Region.ready md ops done ≠ [] ∧ ∀ i ∈ Region.ready md ops done, i < n ∧ qOp P ops C i (headAny P md ops C n L f (done.setIfInBounds i true)) a

theorem any_of_headAny {n g : Nat} {L : Array Bool → Act → Prop} {Q' : Exit → Act → World → Prop} (hL : ∀ done a w, C w → L done a → wpAny P md ops Q' g done a w) :
    ∀ (f : Nat) (done : Array Bool) (a : Act) (w : World), C w → headAny P md ops C n L f done a → wpAny P md ops Q' (f + g) done a w := by
  intro f
  induction f with
  | zero => intro done a w hw h; rw [Nat.zero_add]; exact hL _ _ _ hw h
  | succ f ih =>
    intro done a w hw h
    rw [show f + 1 + g = (f + g) + 1 by omega]
    exact ⟨fun h0 => absurd h0 h.1, fun i hi => wpOp_of_qOp hw (fun a' w' hw' h' => ih _ a' w' hw' h') (h.2 i hi).2⟩

/-- An operation of the head that may come up may be taken first. -/
theorem headAny_take {n i : Nat} {oi : Oper} {v : Value} {L : Array Bool → Act → Prop} (hi : ops[i]? = some oi) (hsel : Region.noSelect ops = true)
    (hs : Region.sinkB md ops n = true) (hc : Region.chainB md ops n = true) (hn : n < ops.size) (hin : i < n) (hL : ∀ done a, L done a → ∀ j ∈ Region.ready md ops done, n ≤ j) :
    ∀ (f : Nat) (done : Array Bool) (a : Act), HeadInv md ops n done →
      (∀ j oj, ops[j]? = some oj → j ≠ i → done.getD j true = false → (∀ e ∈ oj.after, Region.binds md e = true → e.on ≠ i) → oi.apart ops oj = true) →
      i ∈ Region.ready md ops done → YieldsIn P ops C oi v a →
      headAny P md ops C n L f (done.setIfInBounds i true) (a.put oi.dst v) → headAny P md ops C n L (f + 1) done a := by
  have ns := Region.noSelect_spec hsel
  intro f
  induction f with
  | zero =>
    intro done a inv _ hr hy H
    have hun := (mem_ready.1 hr).1
    refine ⟨fun h => (by rw [h] at hr; cases hr), fun j hj => ?_⟩
    have hjn : j < n := Nat.lt_of_not_le fun h => tail_waits hs hc hn inv _ i rfl hin hun j h hj
    refine ⟨hjn, ?_⟩
    by_cases hji : j = i
    · rw [hji]; exact hy.qOp hi H
    · exact absurd (hL _ _ H j (ready_mono hj hji)) (by omega)
  | succ f ih =>
    intro done a inv hfree hr hy H
    have hun := (mem_ready.1 hr).1
    refine ⟨fun h => (by rw [h] at hr; cases hr), fun j hj => ?_⟩
    have hjn : j < n := Nat.lt_of_not_le fun h => tail_waits hs hc hn inv _ i rfl hin hun j h hj
    refine ⟨hjn, ?_⟩
    by_cases hji : j = i
    · rw [hji]; exact hy.qOp hi H
    · have h1 := (H.2 j (ready_mono hj hji)).2
      obtain ⟨hjun, oj, hoj, hall⟩ := mem_ready.1 hj
      have hnot : ∀ e ∈ oj.after, Region.binds md e = true → e.on ≠ i := fun e he hb heq => by
        have h1 := hall e he hb
        rw [heq, getD_both hun] at h1
        cases h1
      have h2 := qOp_put hoj (hfree j oj hoj hji hjun hnot) (fun cs b => ns i oi cs b hi) (fun cs b => ns j oj cs b hoj) hy h1
      refine qOp_mono (fun a' h3 => ih (done.setIfInBounds j true) a' (inv.set hj hjn) ?_ (ready_mono hr (Ne.symm hji)) h3.1 ?_) h2
      · intro k ok hk hki hundone hno
        refine hfree k ok hk hki ?_ hno
        by_cases hjk : j = k
        · rw [← hjk]; exact hjun
        · rw [getD_set_ne true hjk] at hundone; exact hundone
      · rw [Array.setIfInBounds_comm _ _ hji]
        exact h3.2

theorem headAny_lex {n g : Nat} {Lq : Act → Prop} (hsel : Region.noSelect ops = true) (hs : Region.sinkB md ops n = true) (hc : Region.chainB md ops n = true) (hn : n < ops.size) :
    ∀ (l : List Oper) (k : Nat) (done : Array Bool) (a : Act), (∀ j, j < l.length → l[j]? = ops[k + j]?) → k + l.length = n → HeadInv md ops n done →
    Region.lexHead md ops g l.length k done = true → wpQuiet P ops C Lq l a →
    headAny P md ops C n (fun d a' => Region.seqB md ops g n d = true ∧ Lq a') l.length done a := by
  intro l
  induction l with
  | nil =>
    intro k done a _ hk _ hB h
    obtain rfl : k = n := by simpa using hk
    exact ⟨by simpa [Region.lexHead] using hB, h⟩
  | cons o l ih =>
    intro k done a hl hk inv hB h
    have h0 : ops[k]? = some o := by simpa using (hl 0 (by simp)).symm
    simp only [List.length_cons, Region.lexHead, Bool.and_eq_true] at hB
    obtain ⟨⟨hr, hf⟩, hB'⟩ := hB
    have hkn : k < n := by simp only [List.length_cons] at hk; omega
    have hr' : k ∈ Region.ready md ops done := by simpa using hr
    have hst : qOp P ops C k (wpQuiet P ops C Lq l) a := by unfold qOp; simp only [h0]; exact h
    obtain ⟨v, hy, hK⟩ := yieldsIn_of_qOp h0 hst
    refine headAny_take h0 hsel hs hc hn hkn (fun d a' hL => seqB_ready hL.1) l.length done a inv (Region.free_spec h0 hf) hr' hy
      (ih (k + 1) _ _ (fun j hj => ?_) (by simp only [List.length_cons] at hk; omega) (inv.set hr' hkn) hB' hK)
    have := hl (j + 1) (by simp; omega)
    simpa [Nat.add_assoc, Nat.add_comm 1 j] using this
end

/-- The first n operations read old memory, or call what only makes new memory; the rest comes in the order of the text. -/
theorem wp_region_ov_tail {P : Program} {id : Nat} {Q : Exit → Act → World → Prop} {a : Act} {w : World} {l : List Oper} (n : Nat) (hm : P.follows .mixedOrders = true) (hB : Region.lexTailB .any l.toArray n = true)
    (h : wpQuiet P l.toArray (fun w' => ∃ u, w' = ov w u) (fun a' => ∀ w', Below w.heap.size w w' → wpList P l.toArray Q (l.drop n) a' w') (l.take n) a) : (Code.region id l.toArray true).wp P Q a w := by
  simp only [Region.lexTailB, Bool.and_eq_true, decide_eq_true_eq] at hB
  obtain ⟨⟨⟨⟨hsel, hn⟩, hs⟩, hc⟩, hlex⟩ := hB
  have hn' : n < l.length := by simpa using hn
  have htl : (l.take n).length = n := by simp; omega
  have hdl : (l.drop n).length = l.toArray.size - n := by simp
  have inv0 : HeadInv .any l.toArray n (Array.replicate l.toArray.size false) :=
    ⟨by simp, fun j oj _ hl => (by rw [getD_replicate_false] at hl; cases hl), fun t _ ht => getD_in (by simpa using ht) (getD_replicate_false _ _)⟩
  have H := headAny_lex (md := .any) (g := l.toArray.size - n) hsel hs hc hn (l.take n) 0 _ a (fun j hj => by
    have hj' : j < n := by rw [htl] at hj; exact hj
    simp [hj']) (by simpa using htl) inv0 (by rw [htl]; exact hlex) h
  refine wp_region_any hm ?_
  have := any_of_headAny (Q' := Q) (g := l.toArray.size - n) (fun d a' w' hw' hL => by
    obtain ⟨u, rfl⟩ := hw'
    have := wpAny_of_seq (md := .any) (Q' := Q) (l.drop n) n d a' (ov w u) (fun j => by simp [List.getElem?_drop]) (by rw [hdl]; exact hL.1) (hL.2 _ (ov_below w u))
    rwa [hdl] at this) _ _ _ w.drew ⟨w.drew, ov_of ((Below.refl _ _).drew)⟩ H
  rw [htl, show n + (l.toArray.size - n) = l.toArray.size by omega] at this
  exact this

end Go.Proofs.YtppccnjckiedlaaGreatDoor
/- More small words on worlds: whole blocks. -/
namespace Go.Proofs.YtppccnjckiedlaaGreatDoor
open Go.RowKit
set_option linter.unusedVariables false
set_option linter.unusedSimpArgs false

theorem heap_get_alloc (w : World) (o : Obj) (i : Nat) : (w.alloc o).heap[i]? = if i = w.heap.size then some o else w.heap[i]? := by
  show (w.heap.push o)[i]? = _
  rw [Array.getElem?_push]
theorem cells_of_block {w : World} {b : Nat} {cs : Array Value} {t : TypeId} (h : w.heap[b]? = some (.cells cs t (0, 0))) :
    (∀ j, w.cell? ⟨b, j, none⟩ = cs[j]?) ∧ (∀ j, w.frozen? ⟨b, j, none⟩ = false) :=
  ⟨fun j => cell_of_row w b j cs t (0, 0) h, fun j => frozen_of_row w b j cs t h⟩

end Go.Proofs.YtppccnjckiedlaaGreatDoor
/- General laws of the walk, of no type: worlds in which one block may have been written; loads and stores by any law of a run. -/
namespace Go.Proofs.YtppccnjckiedlaaGreatDoor
open Go.RowKit
set_option linter.unusedVariables false
set_option linter.unusedSimpArgs false

/-- Block b aside, what was there is as it was. -/
structure Chg (b : Nat) (w w' : World) : Prop where
  os : w'.os = w.os
  tape : w'.tape = w.tape
  output : w'.output = w.output
  size : w.heap.size ≤ w'.heap.size
  block : ∀ k, k < w.heap.size → k ≠ b → w'.heap[k]? = w.heap[k]?
theorem Chg.refl (b : Nat) (w : World) : Chg b w w := ⟨rfl, rfl, rfl, Nat.le_refl _, fun _ _ _ => rfl⟩
theorem Chg.trans {b : Nat} {w1 w2 w3 : World} (h : Chg b w1 w2) (k : Chg b w2 w3) : Chg b w1 w3 :=
  ⟨k.os.trans h.os, k.tape.trans h.tape, k.output.trans h.output, Nat.le_trans h.size k.size, fun i hi hb => (k.block i (Nat.lt_of_lt_of_le hi h.size) hb).trans (h.block i hi hb)⟩
theorem Chg.setCell {b i : Nat} {w w' : World} (h : Chg b w w') (v : Value) : Chg b w (w'.setCell ⟨b, i, none⟩ v) :=
  ⟨h.os, h.tape, h.output, by rw [World.size_setCell]; exact h.size, fun k hk hb => (heap_setCell_other _ _ _ _ hb).trans (h.block k hk hb)⟩
theorem Chg.alloc {b : Nat} {w w' : World} (h : Chg b w w') (o : Obj) : Chg b w (w'.alloc o) :=
  ⟨h.os, h.tape, h.output, Nat.le_trans h.size (by rw [World.size_alloc]; omega), fun k hk hb => by rw [heap_get_alloc, if_neg (by have := h.size; omega)]; exact h.block k hk hb⟩
/-- A change of a block that was made since: nothing below has turned. -/
theorem Chg.below {b B : Nat} {w w1 w2 : World} (h : Below B w w1) (k : Chg b w1 w2) (hB : B ≤ b) (hw : B ≤ w1.heap.size) : Below B w w2 :=
  h.trans ⟨k.os, k.tape, k.output, k.size, fun i hi => k.block i (by omega) (by omega)⟩

theorem Chg.setRow {b : Nat} {w w' : World} (h : Chg b w w') (cs : Array Value) : Chg b w (w'.setRow b cs) :=
  ⟨h.os, h.tape, h.output, by rw [size_setRow]; exact h.size, fun k hk hb => (setRow_other _ _ _ _ hb).trans (h.block k hk hb)⟩

theorem run_load_u8 {w : World} {b j : Nat} {v : Value} (h : w.cell? ⟨b, j, none⟩ = some v) : (Instr.loadAt 5 (.pointer (some ⟨b, j, none⟩))).run Tryz.prog w = .ok v w := by
  simp [go_sem, h]
theorem run_load_int {w : World} {b j : Nat} {v : Value} (h : w.cell? ⟨b, j, none⟩ = some v) : (Instr.loadAt 3 (.pointer (some ⟨b, j, none⟩))).run Tryz.prog w = .ok v w := by
  simp [go_sem, h]
theorem run_load_part {w : World} {b off : Nat} {bcs cs : Array Value} {bt t : TypeId} (h : w.heap[b]? = some (.cells bcs bt (0, 0))) (hagg : ∀ w : World, (isAgg t).run Tryz.prog w = .ok true w)
    (hsz : (Tryz.prog.info? t).map (·.size) = some cs.size) (hc : ∀ j, j < cs.size → bcs[off + j]? = cs[j]?) : (Instr.loadAt t (.pointer (some ⟨b, off, none⟩))).run Tryz.prog w = .ok (.agg cs) w := by
  simp only [Instr.loadAt, Instr.sureAddr, Sem.run_bind, Sem.run_pure, Result.andThen_ok]
  have hl : (loadCells ⟨b, off, none⟩ cs.toList.length).run Tryz.prog w = .ok cs.toList.toArray w :=
    run_loadCells_list (P := Tryz.prog) w ⟨b, off, none⟩ cs.toList (fun j v hv => by
      have hadd : (⟨b, off, none⟩ : Addr).add j = ⟨b, off + j, none⟩ := by unfold Addr.add; split <;> simp_all
      have hj : j < cs.size := by
        have := (List.getElem?_eq_some_iff.1 hv).1
        rw [Array.length_toList] at this
        exact this
      rw [hadd, cell_of_row w b _ bcs _ (0, 0) h, hc j hj]
      simpa using hv)
  cases hq : Tryz.prog.info? t with
  | none => rw [hq] at hsz; cases hsz
  | some i =>
    have he : i.size = cs.size := by rw [hq] at hsz; simpa using hsz
    rw [Array.length_toList] at hl
    simp only [Array.toArray_toList] at hl
    simp only [loadVar, Sem.run_bind, hagg w, sizeOf, typeInfo, hq, he, hl, run_program, Result.andThen_ok, if_true, Sem.run_pure]
section
variable {ops : Array Oper} {rest : List Oper} {o : Oper} {a : Act} {w : World} {Q : Exit → Act → World → Prop}
theorem wpList_loadAny {t : TypeId} {v : Value} (hg : o.guard = none) (x : Operand) (ho : o.op = .load t x) (b j j' : Nat) (hx : a.eval x = .pointer (some ⟨b, j', none⟩)) (hr : (Instr.loadAt t (.pointer (some ⟨b, j, none⟩))).run Tryz.prog w = .ok v w) (hj : j' = j)
    (h : wpList Tryz.prog ops Q rest (a.put o.dst v) w) : wpList Tryz.prog ops Q (o :: rest) a w :=
  wpList_plain hg fun K hK => by
    subst hj
    unfold Oper.wp execOp
    simp only [ho, hx, hr, Sem.run_bind, Sem.run_pure, Result.andThen_ok]
    exact hK _ _ h
theorem wpList_storeAny {t : TypeId} (hg : o.guard = none) (x y : Operand) (ho : o.op = .store t x y) (w' : World) (hrun : (Instr.storeAt t (a.eval x) (a.eval y)).run Tryz.prog w = .ok () w')
    (h : wpList Tryz.prog ops Q rest (a.put o.dst undef) w') : wpList Tryz.prog ops Q (o :: rest) a w :=
  wpList_plain hg fun K hK => by
    unfold Oper.wp execOp
    simp only [ho, hrun, Sem.run_bind, Sem.run_pure, Result.andThen_ok]
    exact hK _ _ h
end
section
variable {C : World → Prop} {a : Act} {o : Oper} {K : Act → Prop}
theorem quiet_loadAny {t : TypeId} {v : Value} {x : Operand} (h : o.op = .load t x) (b j j' : Nat) (hx : a.eval x = .pointer (some ⟨b, j', none⟩)) (hr : ∀ w, C w → (Instr.loadAt t (.pointer (some ⟨b, j, none⟩))).run Tryz.prog w = .ok v w) (hj : j' = j) (hk : K (a.put o.dst v)) : o.quiet Tryz.prog a C K :=
  ⟨_, fun w hw => by subst hj; unfold Oper.quietAt execOp; simp only [h, hx, hr w hw, Sem.run_bind, Sem.run_pure, Result.andThen_ok]; exact ⟨rfl, rfl⟩, hk⟩
end
end Go.Proofs.YtppccnjckiedlaaGreatDoor
/- Plain: SHA-256 over words of 32 bits, with no program in sight. -/
namespace Go.Proofs.YtppccnjckiedlaaGreatDoor
namespace Sha
set_option linter.unusedVariables false
set_option linter.unusedSimpArgs false

abbrev W32 := BitVec 32
def rotr (x : W32) (n : Nat) : W32 := (x >>> n) ||| (x <<< (32 - n))
def s0 (x : W32) : W32 := rotr x 7 ^^^ rotr x 18 ^^^ x >>> 3
def s1 (x : W32) : W32 := rotr x 17 ^^^ rotr x 19 ^^^ x >>> 10
def S0 (x : W32) : W32 := rotr x 2 ^^^ rotr x 13 ^^^ rotr x 22
def S1 (x : W32) : W32 := rotr x 6 ^^^ rotr x 11 ^^^ rotr x 25
def ch (e f g : W32) : W32 := (e &&& f) ^^^ (~~~e &&& g)
def maj (a b c : W32) : W32 := (a &&& b) ^^^ (a &&& c) ^^^ (b &&& c)
theorem ch_or (e f g : W32) : (e &&& f) ||| ((4294967295#32 - e) &&& g) = ch e f g := by
  have h : (4294967295#32 - e) = ~~~e := by
    have := BitVec.neg_eq_not_add e
    have h2 : (4294967295#32 : BitVec 32) = -1#32 := by decide
    rw [h2, BitVec.sub_eq_add_neg, this, BitVec.add_comm (-1#32), BitVec.add_assoc]
    have h3 : (1#32 + -1#32 : BitVec 32) = 0#32 := by decide
    rw [h3, BitVec.add_zero]
  rw [h]
  unfold ch
  ext i
  simp only [BitVec.getElem_or, BitVec.getElem_and, BitVec.getElem_xor, BitVec.getElem_not]
  cases e[i] <;> cases f[i] <;> cases g[i] <;> rfl
theorem maj_or (a b c : W32) : (a &&& b) ||| (a &&& c) ||| (b &&& c) = maj a b c := by
  unfold maj
  ext i
  simp only [BitVec.getElem_or, BitVec.getElem_and, BitVec.getElem_xor]
  cases a[i] <;> cases b[i] <;> cases c[i] <;> rfl
/-- A word out of four bytes. -/
def be (a b c d : UInt8) : W32 := BitVec.ofNat 32 (a.toNat * 16777216 + b.toNat * 65536 + c.toNat * 256 + d.toNat)
def wb (a : UInt8) : W32 := BitVec.ofNat 32 a.toNat
theorem be_add (a b c d : UInt8) : (wb a <<< 24) + (wb b <<< 16) + (wb c <<< 8) + wb d = be a b c d := by
  have ha := a.toNat_lt
  have hb := b.toNat_lt
  have hc := c.toNat_lt
  have hd := d.toNat_lt
  apply BitVec.eq_of_toNat_eq
  unfold wb be
  simp only [BitVec.toNat_add, BitVec.toNat_shiftLeft, BitVec.toNat_ofNat, Nat.shiftLeft_eq]
  omega
theorem wb_bit (a : UInt8) (i : Nat) (h : 8 ≤ i) : (wb a).getLsbD i = false := by
  unfold wb
  rw [BitVec.getLsbD_ofNat]
  have ha := a.toNat_lt
  have : a.toNat.testBit i = false := Nat.testBit_lt_two_pow (Nat.lt_of_lt_of_le ha (Nat.pow_le_pow_right (by omega) h))
  simp [this]
theorem be_or (a b c d : UInt8) : (wb a <<< 24) ||| (wb b <<< 16) ||| (wb c <<< 8) ||| wb d = be a b c d := by
  rw [← be_add]
  have k1 : (wb a <<< 24) + (wb b <<< 16) = (wb a <<< 24) ||| (wb b <<< 16) := BitVec.add_eq_or_of_and_eq_zero _ _ (by
    apply BitVec.eq_of_getLsbD_eq
    intro i hi
    simp only [BitVec.getLsbD_and, BitVec.getLsbD_shiftLeft, BitVec.getLsbD_zero]
    by_cases h : i < 24
    · simp [h]
    · rw [wb_bit b (i - 16) (by omega)]; simp)
  have k2 : (wb a <<< 24 ||| wb b <<< 16) + (wb c <<< 8) = (wb a <<< 24 ||| wb b <<< 16) ||| (wb c <<< 8) := BitVec.add_eq_or_of_and_eq_zero _ _ (by
    apply BitVec.eq_of_getLsbD_eq
    intro i hi
    simp only [BitVec.getLsbD_and, BitVec.getLsbD_or, BitVec.getLsbD_shiftLeft, BitVec.getLsbD_zero]
    by_cases h : i < 16
    · have h1 : i < 24 := by omega
      simp [h, h1]
    · rw [wb_bit c (i - 8) (by omega)]; simp)
  have k3 : (wb a <<< 24 ||| wb b <<< 16 ||| wb c <<< 8) + wb d = (wb a <<< 24 ||| wb b <<< 16 ||| wb c <<< 8) ||| wb d := BitVec.add_eq_or_of_and_eq_zero _ _ (by
    apply BitVec.eq_of_getLsbD_eq
    intro i hi
    simp only [BitVec.getLsbD_and, BitVec.getLsbD_or, BitVec.getLsbD_shiftLeft, BitVec.getLsbD_zero]
    by_cases h : i < 8
    · have h1 : i < 24 := by omega
      have h2 : i < 16 := by omega
      simp [h, h1, h2]
    · rw [wb_bit d i (by omega)]; simp)
  rw [k1, k2, k3]

/-- A function with one value replaced. -/
def updW (f : Nat → W32) (i : Nat) (x : W32) : Nat → W32 := fun j => if j = i then x else f j
/-- The first sixteen words, read off a block. -/
def first (m : Nat → W32) (k : Nat) : Nat → W32 := fun j => if j < k then m j else 0
theorem first_next (m : Nat → W32) (k : Nat) : updW (first m k) k (m k) = first m (k + 1) := by
  funext j
  unfold updW first
  by_cases h : j = k
  · subst h; simp
  · rw [if_neg h]
    by_cases h2 : j < k
    · rw [if_pos h2, if_pos (by omega)]
    · rw [if_neg h2, if_neg (by omega)]
/-- The message schedule after k more words. -/
def sch (m : Nat → W32) : Nat → Nat → W32
  | 0 => first m 16
  | k + 1 => updW (sch m k) (16 + k) (sch m k k + s0 (sch m k (k + 1)) + sch m k (k + 9) + s1 (sch m k (k + 14)))
/-- The message schedule. -/
def wrd (m : Nat → W32) : Nat → W32 := sch m 48

structure St where
  a : W32
  b : W32
  c : W32
  d : W32
  e : W32
  f : W32
  g : W32
  h : W32
deriving DecidableEq
def St.at (s : St) (i : Nat) : W32 := if i = 0 then s.a else if i = 1 then s.b else if i = 2 then s.c else if i = 3 then s.d else if i = 4 then s.e else if i = 5 then s.f else if i = 6 then s.g else s.h
/-- One round, with the round's constant and word. -/
def rnd (k w : W32) (s : St) : St :=
  { a := s.h + S1 s.e + ch s.e s.f s.g + k + w + (S0 s.a + maj s.a s.b s.c), b := s.a, c := s.b, d := s.c, e := s.d + (s.h + S1 s.e + ch s.e s.f s.g + k + w), f := s.e, g := s.f, h := s.g }
def rounds (K W : Nat → W32) (s : St) : Nat → St
  | 0 => s
  | i + 1 => rnd (K i) (W i) (rounds K W s i)
def addSt (s t : St) : St := ⟨s.a + t.a, s.b + t.b, s.c + t.c, s.d + t.d, s.e + t.e, s.f + t.f, s.g + t.g, s.h + t.h⟩
/-- The round constants. -/
def kList : List Nat := [1116352408, 1899447441, 3049323471, 3921009573, 961987163, 1508970993, 2453635748, 2870763221, 3624381080, 310598401, 607225278, 1426881987, 1925078388, 2162078206, 2614888103, 3248222580, 3835390401, 4022224774, 264347078, 604807628, 770255983, 1249150122, 1555081692, 1996064986, 2554220882, 2821834349, 2952996808, 3210313671, 3336571891, 3584528711, 113926993, 338241895, 666307205, 773529912, 1294757372, 1396182291, 1695183700, 1986661051, 2177026350, 2456956037, 2730485921, 2820302411, 3259730800, 3345764771, 3516065817, 3600352804, 4094571909, 275423344, 430227734, 506948616, 659060556, 883997877, 958139571, 1322822218, 1537002063, 1747873779, 1955562222, 2024104815, 2227730452, 2361852424, 2428436474, 2756734187, 3204031479, 3329325298]
def kW (i : Nat) : W32 := BitVec.ofNat 32 (kList.getD i 0)
def start : St := ⟨1779033703#32, 3144134277#32, 1013904242#32, 2773480762#32, 1359893119#32, 2600822924#32, 528734635#32, 1541459225#32⟩
/-- The words of a block of bytes. -/
def msg (p : List UInt8) (j : Nat) : W32 := be (p.getD (4 * j) 0) (p.getD (4 * j + 1) 0) (p.getD (4 * j + 2) 0) (p.getD (4 * j + 3) 0)
/-- One block taken in. -/
def comp (s : St) (p : List UInt8) : St := addSt (rounds kW (wrd (msg p)) s 64) s
/-- The first n blocks of p taken in. -/
def blocks (s : St) (p : List UInt8) : Nat → St
  | 0 => s
  | n + 1 => comp (blocks s p n) ((p.drop (64 * n)).take 64)
/-- n big endian in k bytes. -/
def big (n : Nat) : Nat → List UInt8
  | 0 => []
  | k + 1 => big (n / 256) k ++ [UInt8.ofNat n]
/-- How many zero bytes are padded. -/
def zeros (n : Nat) : Nat := (119 - n % 64) % 64
def pad (s : List UInt8) : List UInt8 := s ++ 128 :: (List.replicate (zeros s.length) 0 ++ big (8 * s.length) 8)
def outB (s : St) : List UInt8 := big s.a.toNat 4 ++ big s.b.toNat 4 ++ big s.c.toNat 4 ++ big s.d.toNat 4 ++ big s.e.toNat 4 ++ big s.f.toNat 4 ++ big s.g.toNat 4 ++ big s.h.toNat 4
/-- The digest. -/
def ofB (s : List UInt8) : List UInt8 := outB (blocks start (pad s) ((pad s).length / 64))

theorem big_length (n k : Nat) : (big n k).length = k := by
  induction k generalizing n with
  | zero => rfl
  | succ k ih => simp [big, ih]
theorem pad_length (s : List UInt8) : (pad s).length = s.length + 9 + zeros s.length := by
  unfold pad
  simp [big_length]
  omega
theorem outB_length (s : St) : (outB s).length = 32 := by simp [outB, big_length]
theorem ofB_length (s : List UInt8) : (ofB s).length = 32 := outB_length _
/-- The schedule while it is being filled from the left. -/
def fullW (m : Nat → W32) (k : Nat) : Nat → W32 := if k ≤ 16 then first m k else sch m (k - 16)
theorem fullW_lo (m : Nat → W32) {k : Nat} (h : k ≤ 16) : fullW m k = first m k := by unfold fullW; rw [if_pos h]
theorem fullW_hi (m : Nat → W32) {k : Nat} (h : 16 ≤ k) : fullW m k = sch m (k - 16) := by
  unfold fullW
  by_cases h2 : k ≤ 16
  · obtain rfl : k = 16 := by omega
    rw [if_pos (by omega)]; rfl
  · rw [if_neg h2]
theorem rnd_step (s : St) (k w : W32) : (⟨s.at 7 + (rotr (s.at 4) 6 ^^^ rotr (s.at 4) 11 ^^^ rotr (s.at 4) 25) + ((s.at 4 &&& s.at 5) ^^^ (~~~(s.at 4) &&& s.at 6)) + k + w + ((rotr (s.at 0) 2 ^^^ rotr (s.at 0) 13 ^^^ rotr (s.at 0) 22) + ((s.at 0 &&& s.at 1) ^^^ (s.at 0 &&& s.at 2) ^^^ (s.at 1 &&& s.at 2))), s.at 0, s.at 1, s.at 2, s.at 3 + (s.at 7 + (rotr (s.at 4) 6 ^^^ rotr (s.at 4) 11 ^^^ rotr (s.at 4) 25) + ((s.at 4 &&& s.at 5) ^^^ (~~~(s.at 4) &&& s.at 6)) + k + w), s.at 4, s.at 5, s.at 6⟩ : St) = rnd k w s := rfl
theorem rnd_step' (s : St) (k w : W32) : (⟨s.at 7 + (rotr (s.at 4) 6 ^^^ rotr (s.at 4) 11 ^^^ rotr (s.at 4) 25) + ((s.at 4 &&& s.at 5) ||| ((4294967295#32 - s.at 4) &&& s.at 6)) + k + w + (rotr (s.at 0) 2 ^^^ rotr (s.at 0) 13 ^^^ rotr (s.at 0) 22) + ((s.at 0 &&& s.at 1) ||| (s.at 0 &&& s.at 2) ||| (s.at 1 &&& s.at 2)), s.at 0, s.at 1, s.at 2, s.at 3 + (s.at 7 + (rotr (s.at 4) 6 ^^^ rotr (s.at 4) 11 ^^^ rotr (s.at 4) 25) + ((s.at 4 &&& s.at 5) ||| ((4294967295#32 - s.at 4) &&& s.at 6)) + k + w), s.at 4, s.at 5, s.at 6⟩ : St) = rnd k w s := by
  rw [ch_or, maj_or, BitVec.add_assoc _ (rotr (s.at 0) 2 ^^^ rotr (s.at 0) 13 ^^^ rotr (s.at 0) 22) _]
  rfl
theorem rounds_next (K W : Nat → W32) (s : St) (i : Nat) : rounds K W s (i + 1) = rnd (K i) (W i) (rounds K W s i) := rfl
theorem rounds_zero (K W : Nat → W32) (s : St) : rounds K W s 0 = s := rfl
theorem addSt_at (s t : St) (i : Nat) : (addSt s t).at i = s.at i + t.at i := by
  unfold St.at addSt
  split
  · rfl
  · split
    · rfl
    · split
      · rfl
      · split
        · rfl
        · split
          · rfl
          · split
            · rfl
            · split <;> rfl
theorem at0 (s : St) : s.at 0 = s.a := rfl
theorem at1 (s : St) : s.at 1 = s.b := rfl
theorem at2 (s : St) : s.at 2 = s.c := rfl
theorem at3 (s : St) : s.at 3 = s.d := rfl
theorem at4 (s : St) : s.at 4 = s.e := rfl
theorem at5 (s : St) : s.at 5 = s.f := rfl
theorem at6 (s : St) : s.at 6 = s.g := rfl
theorem at7 (s : St) : s.at 7 = s.h := rfl
/-- The first k words are those of g. -/
def stepW (f g : Nat → W32) (k : Nat) : Nat → W32 := fun j => if j < k then g j else f j
theorem stepW_zero (f g : Nat → W32) : stepW f g 0 = f := by funext j; simp [stepW]
theorem stepW_next (f g : Nat → W32) (k : Nat) : updW (stepW f g k) k (g k) = stepW f g (k + 1) := by
  funext j
  unfold updW stepW
  by_cases h : j = k
  · subst h; simp
  · rw [if_neg h]
    by_cases h2 : j < k
    · rw [if_pos h2, if_pos (by omega)]
    · rw [if_neg h2, if_neg (by omega)]
theorem stepW_at (f g : Nat → W32) (k : Nat) : stepW f g k k = f k := by simp [stepW]
theorem stepW_all (f g : Nat → W32) (n : Nat) : ∀ i, i < n → stepW f g n i = g i := fun i hi => by simp [stepW, hi]
theorem comp_at (s : St) (p : List UInt8) (i : Nat) : (comp s p).at i = (rounds kW (wrd (msg p)) s 64).at i + s.at i := addSt_at _ _ _
theorem rotr_def (x : W32) (n : Nat) : rotr x n = (x >>> n) ||| (x <<< (32 - n)) := rfl
/- The words below are shut for the walks. -/
theorem s0_def (x : W32) : s0 x = rotr x 7 ^^^ rotr x 18 ^^^ x >>> 3 := rfl
theorem s1_def (x : W32) : s1 x = rotr x 17 ^^^ rotr x 19 ^^^ x >>> 10 := rfl
theorem sch_next (m : Nat → W32) (k : Nat) : sch m (k + 1) = updW (sch m k) (16 + k) (sch m k k + s0 (sch m k (k + 1)) + sch m k (k + 9) + s1 (sch m k (k + 14))) := rfl
theorem first_zero (m : Nat → W32) : first m 0 = fun _ => 0 := by funext j; simp [first]
theorem sch_zero (m : Nat → W32) : sch m 0 = first m 16 := rfl
attribute [irreducible] sch s0 s1 first St.at rnd rounds comp kW rotr
end Sha
end Go.Proofs.YtppccnjckiedlaaGreatDoor
/- Words of 32 bits as values, rows of words, and the laws of the walk for them. -/
namespace Go.Proofs.YtppccnjckiedlaaGreatDoor
open Go.RowKit Sha
set_option linter.unusedVariables false
set_option linter.unusedSimpArgs false

/-- A word as a value. -/
def U (x : W32) : Value := .int .u32 (x.toNat : Int)
/-- A byte as a value. -/
def Y (b : UInt8) : Value := .int .u8 (b.toNat : Int)
/-- The bytes of a string. -/
def bytes (s : ByteArray) : List UInt8 := s.data.toList
def byteAt (s : ByteArray) (i : Nat) : UInt8 := (bytes s).getD i 0
theorem byteAt_get (s : ByteArray) (i : Nat) (h : i < s.size) : s[i] = byteAt s i := by
  unfold byteAt bytes
  have h2 : i < s.data.size := h
  rw [List.getD_eq_getElem?_getD, Array.getElem?_toList, Array.getElem?_eq_getElem h2]
  rfl
theorem bytes_length (s : ByteArray) : (bytes s).length = s.size := by unfold bytes; rw [Array.length_toList]; rfl
theorem msg_at (s : ByteArray) (j : Nat) : msg (bytes s) j = be (byteAt s (4 * j)) (byteAt s (4 * j + 1)) (byteAt s (4 * j + 2)) (byteAt s (4 * j + 3)) := rfl
theorem U_wrap (n : Int) : U (BitVec.ofInt 32 n) = .int .u32 (IntKind.u32.wrap n) := by
  unfold U
  congr 1
  simp [BitVec.toNat_ofInt, IntKind.wrap, IntKind.bits, IntKind.signed]
  omega
theorem ofInt_toNat (x : W32) : BitVec.ofInt 32 (x.toNat : Int) = x := by
  apply BitVec.eq_of_toNat_eq
  simp [BitVec.toNat_ofInt]
theorem U_ofNat (x : W32) : U x = .int .u32 (IntKind.u32.wrap (x.toNat : Int)) := by rw [← U_wrap, ofInt_toNat]
section
variable (w : World) (x y : W32)
@[go_sem] theorem U_add : (binOp .add 106 (U x) (U y)).run Tryz.prog w = .ok (U (x + y)) w := by
  have e : U (x + y) = .int .u32 (IntKind.u32.wrap ((x.toNat : Int) + (y.toNat : Int))) := by
    rw [← U_wrap]
    congr 1
  rw [e]; unfold U; simp [go_sem]
@[go_sem] theorem U_sub : (binOp .sub 106 (U x) (U y)).run Tryz.prog w = .ok (U (x - y)) w := by
  have e : U (x - y) = .int .u32 (IntKind.u32.wrap ((x.toNat : Int) - (y.toNat : Int))) := by
    rw [← U_wrap]
    congr 1
    apply BitVec.eq_of_toNat_eq
    simp [BitVec.toNat_ofInt, BitVec.toNat_sub]
    have := x.isLt
    have := y.isLt
    omega
  rw [e]; unfold U; simp [go_sem]
@[go_sem] theorem U_and : (binOp .and 106 (U x) (U y)).run Tryz.prog w = .ok (U (x &&& y)) w := by
  have e : (binOp .and 106 (U x) (U y)).run Tryz.prog w = .ok (.int .u32 (IntKind.u32.wrap ((BitVec.ofInt 32 (x.toNat : Int) &&& BitVec.ofInt 32 (y.toNat : Int)).toNat : Int))) w := by kernel_rfl
  rw [e, ofInt_toNat, ofInt_toNat, ← U_ofNat]
@[go_sem] theorem U_or : (binOp .or 106 (U x) (U y)).run Tryz.prog w = .ok (U (x ||| y)) w := by
  have e : (binOp .or 106 (U x) (U y)).run Tryz.prog w = .ok (.int .u32 (IntKind.u32.wrap ((BitVec.ofInt 32 (x.toNat : Int) ||| BitVec.ofInt 32 (y.toNat : Int)).toNat : Int))) w := by kernel_rfl
  rw [e, ofInt_toNat, ofInt_toNat, ← U_ofNat]
@[go_sem] theorem U_xor : (binOp .xor 106 (U x) (U y)).run Tryz.prog w = .ok (U (x ^^^ y)) w := by
  have e : (binOp .xor 106 (U x) (U y)).run Tryz.prog w = .ok (.int .u32 (IntKind.u32.wrap ((BitVec.ofInt 32 (x.toNat : Int) ^^^ BitVec.ofInt 32 (y.toNat : Int)).toNat : Int))) w := by kernel_rfl
  rw [e, ofInt_toNat, ofInt_toNat, ← U_ofNat]
@[go_sem] theorem U_not : (Op.unary .xor (U x)).run Tryz.prog w = .ok (U (~~~x)) w := by
  have e : (Op.unary .xor (U x)).run Tryz.prog w = .ok (.int .u32 (IntKind.u32.wrap ((BitVec.ofInt 32 4294967295 ^^^ BitVec.ofInt 32 (x.toNat : Int)).toNat : Int))) w := by kernel_rfl
  rw [e, ofInt_toNat, ← U_ofNat]
  congr 2
@[go_sem] theorem U_shl (k : IntKind) (n : Int) (h0 : 0 ≤ n) (h1 : n < 32) : (binOp .shl 106 (U x) (.int k n)).run Tryz.prog w = .ok (U (x <<< n.toNat)) w := by
  obtain ⟨m, rfl⟩ := Int.eq_ofNat_of_zero_le h0
  have e : (binOp .shl 106 (U x) (.int k (m : Int))).run Tryz.prog w = .ok (.int .u32 (IntKind.u32.wrap ((x.toNat : Int) * 2 ^ (min m 32)))) w := by
    rw [Nat.min_eq_left (by omega)]
    unfold U
    simp [go_sem, IntKind.bits]
  rw [e, ← U_wrap, Nat.min_eq_left (by omega)]
  congr 2
  apply BitVec.eq_of_toNat_eq
  rw [BitVec.toNat_ofInt, BitVec.toNat_shiftLeft, Nat.shiftLeft_eq]
  have h6 : ((2 ^ 32 : Nat) : Int) = ((4294967296 : Nat) : Int) := by decide
  have h7 : (x.toNat : Int) * 2 ^ m = ((x.toNat * 2 ^ m : Nat) : Int) := by simp
  rw [h6, h7, ← Int.natCast_emod, Int.toNat_natCast, Int.toNat_natCast]
@[go_sem] theorem U_shr (k : IntKind) (n : Int) (h0 : 0 ≤ n) (h1 : n < 32) : (binOp .shr 106 (U x) (.int k n)).run Tryz.prog w = .ok (U (x >>> n.toNat)) w := by
  obtain ⟨m, rfl⟩ := Int.eq_ofNat_of_zero_le h0
  have e : (binOp .shr 106 (U x) (.int k (m : Int))).run Tryz.prog w = .ok (.int .u32 ((x.toNat : Int).fdiv (2 ^ (min m 32)))) w := by
    rw [Nat.min_eq_left (by omega), Int.fdiv_eq_ediv_of_nonneg _ (by exact Int.le_of_lt (Int.pow_pos (by decide)))]
    unfold U
    simp [go_sem, IntKind.bits]
  rw [e, Nat.min_eq_left (by omega)]
  unfold U
  congr 3
  rw [Int.toNat_natCast, BitVec.toNat_ushiftRight, Nat.shiftRight_eq_div_pow, Int.fdiv_eq_ediv_of_nonneg _ (by exact Int.le_of_lt (Int.pow_pos (by decide)))]
  simp
/-- A byte as a word; a word as an int, as a uint64. -/
@[go_sem] theorem Y_toU32 (b : UInt8) : (convert 5 106 (Y b)).run Tryz.prog w = .ok (U (wb b)) w := by
  have e : U (wb b) = .int .u32 (b.toNat : Int) := by
    unfold U wb
    have := b.toNat_lt
    congr 2
    rw [BitVec.toNat_ofNat]
    omega
  rw [e]
  unfold Y
  have := b.toNat_lt
  simp [go_sem]
  simp [IntKind.wrap, IntKind.bits, IntKind.signed]
  omega
@[go_sem] theorem U_toInt : (convert 106 3 (U x)).run Tryz.prog w = .ok (.int .i64 (x.toNat : Int)) w := by
  unfold U
  have := x.isLt
  simp [go_sem]
  simp [IntKind.wrap, IntKind.bits, IntKind.signed]
  omega
@[go_sem] theorem U_toU64 : (convert 106 70 (U x)).run Tryz.prog w = .ok (.int .u64 (x.toNat : Int)) w := by
  unfold U
  have := x.isLt
  simp [go_sem]
  simp [IntKind.wrap, IntKind.bits, IntKind.signed]
  omega
@[go_sem] theorem U_sub_max : (binOp .sub 106 (.int .u32 4294967295) (U x)).run Tryz.prog w = .ok (U (4294967295#32 - x)) w := by
  have h := U_sub w (4294967295#32) x
  exact h
@[go_sem] theorem guard_sub_max (t : TypeId) (p q : Operand) (v : Value) : (eqGuard .sub t p q v (U x)).run Tryz.prog w = .ok () w := by
  unfold U; simp [go_sem]
@[go_sem] theorem guard_add (t : TypeId) (p q : Operand) (v : Value) : (eqGuard .add t p q (U x) v).run Tryz.prog w = .ok () w := by
  unfold U; simp [go_sem]
@[go_sem] theorem guard_sub (t : TypeId) (p q : Operand) (v : Value) : (eqGuard .sub t p q (U x) v).run Tryz.prog w = .ok () w := by
  unfold U; simp [go_sem]
@[go_sem] theorem guard_and (t : TypeId) (p q : Operand) (v : Value) : (eqGuard .and t p q (U x) v).run Tryz.prog w = .ok () w := by
  unfold U; simp [go_sem]
@[go_sem] theorem guard_or (t : TypeId) (p q : Operand) (v : Value) : (eqGuard .or t p q (U x) v).run Tryz.prog w = .ok () w := by
  unfold U; simp [go_sem]
@[go_sem] theorem guard_xor (t : TypeId) (p q : Operand) (v : Value) : (eqGuard .xor t p q (U x) v).run Tryz.prog w = .ok () w := by
  unfold U; simp [go_sem]
@[go_sem] theorem guard_shl (t : TypeId) (p q : Operand) (v : Value) : (eqGuard .shl t p q (U x) v).run Tryz.prog w = .ok () w := by
  unfold U; simp [go_sem]
@[go_sem] theorem guard_shr (t : TypeId) (p q : Operand) (v : Value) : (eqGuard .shr t p q (U x) v).run Tryz.prog w = .ok () w := by
  unfold U; simp [go_sem]
end

/-- A row of n words. -/
def wC (n : Nat) (f : Nat → W32) : Array Value := Array.ofFn (n := n) fun k => U (f k.val)
def Wd.v (n : Nat) (f : Nat → W32) : Value := .agg (wC n f)
theorem size_wC (n : Nat) (f : Nat → W32) : (wC n f).size = n := by unfold wC; simp
theorem get_wC (n : Nat) (f : Nat → W32) (k : Nat) : (wC n f)[k]? = if k < n then some (U (f k)) else none := by
  unfold wC
  rw [Array.getElem?_ofFn]
  split <;> rfl
theorem wC_congr {n : Nat} {f g : Nat → W32} (h : ∀ i, i < n → f i = g i) : wC n f = wC n g := by
  apply Array.ext_getElem?
  intro k
  rw [get_wC, get_wC]
  split
  · rw [h _ (by omega)]
  · rfl
theorem set_wC (n : Nat) (f : Nat → W32) (i : Nat) (x : W32) (hi : i < n) : (wC n f).setIfInBounds i (U x) = wC n (updW f i x) := by
  apply Array.ext_getElem?
  intro k
  simp only [Array.getElem?_setIfInBounds, size_wC, get_wC, updW]
  by_cases h : i = k
  · subst h; simp [hi]
  · rw [if_neg h]
    simp only [if_neg (fun e : k = i => h e.symm)]
theorem cells_wd (n : Nat) (f : Nat → W32) : (Wd.v n f).cells = wC n f := by simp only [Wd.v, Value.cells]
theorem wC_oneCell (n : Nat) (f : Nat → W32) : (wC n f).all (·.oneCell') = true := by
  rw [Array.all_eq_true]
  intro i hi
  have h : (wC n f)[i]? = some (wC n f)[i] := Array.getElem?_eq_getElem hi
  rw [size_wC] at hi
  rw [get_wC, if_pos hi] at h
  rw [← Option.some.inj h]
  rfl
attribute [irreducible] wC

/-- A type of rows of n words. -/
structure WT (t : TypeId) (n : Nat) (e : TypeId) : Prop where
  und : Tryz.prog.underlying t = some (.array n e)
  size : (Tryz.prog.info? t).map (·.size) = some n
theorem wt64 : WT 128 64 106 := ⟨Tryz.underlying128, by kernel_rfl⟩
theorem wt8 : WT 109 8 106 := ⟨Tryz.underlying109, by kernel_rfl⟩

/-- The block b holds a row of words. -/
def WAt (t n : Nat) (w : World) (b : Nat) (f : Nat → W32) : Prop := w.heap[b]? = some (.cells (wC n f) t (0, 0))
section
variable {t n e : Nat} {w : World} {b : Nat} {f g : Nat → W32}
theorem WAt.of_eq {w' : World} (h : WAt t n w b f) (e : w'.heap[b]? = w.heap[b]?) : WAt t n w' b f := e.trans h
theorem WAt.lt (h : WAt t n w b f) : b < w.heap.size := (Array.getElem?_eq_some_iff.1 h).1
theorem WAt.congr (h : WAt t n w b f) (e : wC n f = wC n g) : WAt t n w b g := by unfold WAt at h ⊢; rw [← e]; exact h
theorem WAt.cell (h : WAt t n w b f) {i : Nat} (hi : i < n) : w.cell? ⟨b, i, none⟩ = some (U (f i)) := ((cells_of_block h).1 i).trans (by rw [get_wC, if_pos hi])
theorem WAt.frozen (h : WAt t n w b f) (j : Nat) : w.frozen? ⟨b, j, none⟩ = false := (cells_of_block h).2 j
theorem WAt.set (h : WAt t n w b f) {i : Nat} (hi : i < n) (x : W32) : WAt t n (w.setCell ⟨b, i, none⟩ (U x)) b (updW f i x) := by
  unfold WAt
  rw [← set_wC n f i x hi]
  exact heap_setCell_same _ _ _ _ _ _ h
theorem ov_w (h : WAt t n w b f) : ∀ w', (∃ u, w' = ov w u) → WAt t n w' b f := by
  rintro w' ⟨u, rfl⟩
  exact h.of_eq ((ov_below w u).block _ h.lt)
theorem WAt.drew (h : WAt t n w b f) : WAt t n w.drew b f := h
theorem run_load_w (T : WT t n e) (h : WAt t n w b f) : (Instr.loadAt t (.pointer (some ⟨b, 0, none⟩))).run Tryz.prog w = .ok (Wd.v n f) w := by
  simp only [Instr.loadAt, Instr.sureAddr, Sem.run_bind, Sem.run_pure, Result.andThen_ok]
  exact run_loadVar_row w b _ t _ _ _ h T.und rfl (by rw [size_wC]; exact T.size)
theorem run_store_w (T : WT t n e) (h : WAt t n w b f) : (Instr.storeAt t (.pointer (some ⟨b, 0, none⟩)) (Wd.v n g)).run Tryz.prog w = .ok () (w.setRow b (wC n g)) := by
  simp only [Instr.storeAt, Instr.sureAddr, Sem.run_bind, Sem.run_pure, Result.andThen_ok]
  exact run_storeVar_row w b _ t _ _ h (by rw [size_wC]; exact T.size) (by rw [size_wC, size_wC]) (wC_oneCell n g)
theorem run_load_word (h : WAt t n w b f) {i : Nat} (hi : i < n) : (Instr.loadAt 106 (.pointer (some ⟨b, i, none⟩))).run Tryz.prog w = .ok (U (f i)) w := by
  have c := h.cell hi
  simp [go_sem, c]
theorem results_w {fn : Func} {p : Tmp} (T : WT t n e) (h : fn.results = #[.cell p t]) (tmps : Array Value) (w : World) (b : Nat) (hp : tmps.getD p undef = .pointer (some ⟨b, 0, none⟩)) (ht : WAt t n w b f) :
    (results fn tmps).run Tryz.prog w = .ok (Wd.v n f) w :=
  results_cell_row h tmps w b _ _ _ _ hp ht T.und rfl (by rw [size_wC]; exact T.size)
end
theorem run_alloc_w64 (w : World) (o : Oper) (ho : o.op = .alloc 128) (ev : Operand → Value) : (execOp ev o).run Tryz.prog w = .ok (.value (.pointer (some ⟨w.heap.size, 0, none⟩))) (w.alloc (.cells (wC 64 fun _ => 0) 128)) := by
  obtain ⟨d, p, t, ps, af, gd⟩ := o
  simp only at ho
  subst ho
  kernel_rfl
theorem run_alloc_w8 (w : World) (o : Oper) (ho : o.op = .alloc 109) (ev : Operand → Value) : (execOp ev o).run Tryz.prog w = .ok (.value (.pointer (some ⟨w.heap.size, 0, none⟩))) (w.alloc (.cells (wC 8 fun _ => 0) 109)) := by
  obtain ⟨d, p, t, ps, af, gd⟩ := o
  simp only at ho
  subst ho
  kernel_rfl
section
variable {t n e : Nat} {ops : Array Oper} {rest : List Oper} {o : Oper} {a : Act} {w : World} {Q : Exit → Act → World → Prop}
theorem wpList_boxW (T : WT t n e) (hg : o.guard = none) (x : Operand) (ho : o.op = .box t x) (f : Nat → W32) (hx : a.eval x = Wd.v n f)
    (h : ∀ b w', w.heap.size ≤ b → b ≤ w.heap.size → WAt t n w' b f → Below b w w' → w'.heap.size = b + 1 → wpList Tryz.prog ops Q rest (a.put o.dst (.pointer (some ⟨b, 0, none⟩))) w') : wpList Tryz.prog ops Q (o :: rest) a w :=
  wpList_plain hg fun K hK => by
    have e : (a.eval x).cells = wC n f := by rw [hx]; exact cells_wd n f
    unfold Oper.wp execOp
    simp only [ho, Sem.run_bind, Instr.box, newVar, newRow, run_newObj_alloc, Sem.run_pure, Result.andThen_ok, e]
    exact hK _ _ (h _ _ (Nat.le_refl _) (Nat.le_refl _) (by unfold WAt; rw [heap_get_alloc, if_pos rfl]) ((Below.refl _ _).alloc (Nat.le_refl _) _) (World.size_alloc _ _))
theorem wpList_allocW64 (hg : o.guard = none) (ho : o.op = .alloc 128)
    (h : ∀ b w', w.heap.size ≤ b → b ≤ w.heap.size → WAt 128 64 w' b (fun _ => 0) → Below b w w' → w'.heap.size = b + 1 → wpList Tryz.prog ops Q rest (a.put o.dst (.pointer (some ⟨b, 0, none⟩))) w') : wpList Tryz.prog ops Q (o :: rest) a w :=
  wpList_plain hg fun K hK => by
    unfold Oper.wp
    rw [run_alloc_w64 w o ho]
    exact hK _ _ (h _ _ (Nat.le_refl _) (Nat.le_refl _) (by unfold WAt; rw [heap_get_alloc, if_pos rfl]) ((Below.refl _ _).alloc (Nat.le_refl _) _) (World.size_alloc _ _))
theorem wpList_allocW8 (hg : o.guard = none) (ho : o.op = .alloc 109)
    (h : ∀ b w', w.heap.size ≤ b → b ≤ w.heap.size → WAt 109 8 w' b (fun _ => 0) → Below b w w' → w'.heap.size = b + 1 → wpList Tryz.prog ops Q rest (a.put o.dst (.pointer (some ⟨b, 0, none⟩))) w') : wpList Tryz.prog ops Q (o :: rest) a w :=
  wpList_plain hg fun K hK => by
    unfold Oper.wp
    rw [run_alloc_w8 w o ho]
    exact hK _ _ (h _ _ (Nat.le_refl _) (Nat.le_refl _) (by unfold WAt; rw [heap_get_alloc, if_pos rfl]) ((Below.refl _ _).alloc (Nat.le_refl _) _) (World.size_alloc _ _))
theorem wpList_storeW (T : WT t n e) (hg : o.guard = none) (x y : Operand) (ho : o.op = .store t x y) (b : Nat) (hx : a.eval x = .pointer (some ⟨b, 0, none⟩)) (g : Nat → W32) (hy : a.eval y = Wd.v n g) {f : Nat → W32} (ht : WAt t n w b f)
    (h : ∀ w', WAt t n w' b g → Chg b w w' → w'.heap.size = w.heap.size → wpList Tryz.prog ops Q rest (a.put o.dst undef) w') : wpList Tryz.prog ops Q (o :: rest) a w := by
  refine wpList_storeAny hg x y ho _ ?_ (h _ (setRow_heap w b _ _ _ _ ht) ((Chg.refl b w).setRow _) (size_setRow _ _ _))
  rw [hx, hy]
  exact run_store_w T ht
theorem wpList_storeWord (hg : o.guard = none) (x y : Operand) (ho : o.op = .store 106 x y) (b j : Nat) (hx : a.eval x = .pointer (some ⟨b, j, none⟩)) (v : W32) (hy : a.eval y = U v) {f : Nat → W32} (ht : WAt t n w b f) (i : Nat) (hi : i < n) (hj : j = i)
    (h : ∀ w', WAt t n w' b (updW f i v) → Chg b w w' → w'.heap.size = w.heap.size → wpList Tryz.prog ops Q rest (a.put o.dst undef) w') : wpList Tryz.prog ops Q (o :: rest) a w := by
  subst hj
  refine wpList_storeAny hg x y ho _ ?_ (h _ (ht.set hi v) ((Chg.refl b w).setCell _) (by simp only [World.size_setCell]))
  rw [hx, hy]
  have c0 := ht.cell hi
  have f0 := ht.frozen j
  unfold U at c0 ⊢
  simp [go_sem, c0, f0]
end
/-- A package-level table of words. -/
def GAt (g n : Nat) (w : World) (f : Nat → W32) : Prop := g < w.heap.size ∧ ∀ i, i < n → w.cell? ⟨g, i, none⟩ = some (U (f i))
section
variable {g n : Nat} {w : World} {f : Nat → W32}
theorem GAt.lt (h : GAt g n w f) : g < w.heap.size := h.1
theorem GAt.of_eq {w' : World} (h : GAt g n w f) (e : w'.heap[g]? = w.heap[g]?) : GAt g n w' f := by
  refine ⟨?_, fun i hi => ?_⟩
  · have := h.1
    rcases Nat.lt_or_ge g w'.heap.size with k | k
    · exact k
    · rw [Array.getElem?_eq_none k, Array.getElem?_eq_getElem this] at e
      cases e
  · rw [World.cell?_of_block (w := w) e]
    exact h.2 i hi
theorem GAt.drew (h : GAt g n w f) : GAt g n w.drew f := h
theorem ov_g (h : GAt g n w f) : ∀ w', (∃ u, w' = ov w u) → GAt g n w' f := by
  rintro w' ⟨u, rfl⟩
  exact h.of_eq ((ov_below w u).block _ h.lt)
theorem run_load_gword (h : GAt g n w f) {i : Nat} (hi : i < n) : (Instr.loadAt 106 (.pointer (some ⟨g, i, none⟩))).run Tryz.prog w = .ok (U (f i)) w := by
  have c := h.2 i hi
  simp [go_sem, c]
theorem run_load_gw {t e : TypeId} (T : WT t n e) (h : GAt g n w f) : (Instr.loadAt t (.pointer (some ⟨g, 0, none⟩))).run Tryz.prog w = .ok (Wd.v n f) w := by
  simp only [Instr.loadAt, Instr.sureAddr, Sem.run_bind, Sem.run_pure, Result.andThen_ok]
  have hl : (loadCells ⟨g, 0, none⟩ (wC n f).toList.length).run Tryz.prog w = .ok (wC n f).toList.toArray w :=
    run_loadCells_list (P := Tryz.prog) w ⟨g, 0, none⟩ (wC n f).toList (fun j v hv => by
      have hadd : (⟨g, 0, none⟩ : Addr).add j = ⟨g, j, none⟩ := by unfold Addr.add; split <;> simp_all
      have hj : j < n := by
        have := (List.getElem?_eq_some_iff.1 hv).1
        rw [Array.length_toList, size_wC] at this
        exact this
      rw [hadd, h.2 j hj]
      rw [Array.getElem?_toList, get_wC, if_pos hj] at hv
      exact hv)
  have hagg : (isAgg t).run Tryz.prog w = .ok true w := by
    unfold isAgg
    rw [Sem.run_bind, run_underlying T.und w]
    simp
  have hsz := T.size
  cases hq : Tryz.prog.info? t with
  | none => rw [hq] at hsz; cases hsz
  | some i =>
    have he : i.size = (wC n f).size := by rw [hq] at hsz; rw [size_wC]; simpa using hsz
    rw [Array.length_toList] at hl
    simp only [Array.toArray_toList] at hl
    simp only [loadVar, Sem.run_bind, hagg, sizeOf, typeInfo, hq, he, hl, run_program, Result.andThen_ok, if_true, Sem.run_pure]
    rfl
end
/-- Eight words built. -/
theorem wd_eight (s : St) : Wd.v 8 s.at = .agg #[U s.a, U s.b, U s.c, U s.d, U s.e, U s.f, U s.g, U s.h] := by
  unfold Wd.v
  congr 1
  apply Array.ext_getElem?
  intro k
  rw [get_wC]
  have hc : k = 0 ∨ k = 1 ∨ k = 2 ∨ k = 3 ∨ k = 4 ∨ k = 5 ∨ k = 6 ∨ k = 7 ∨ 8 ≤ k := by omega
  rcases hc with rfl | rfl | rfl | rfl | rfl | rfl | rfl | rfl | hk
  · rw [if_pos (by omega), at0]; rfl
  · rw [if_pos (by omega), at1]; rfl
  · rw [if_pos (by omega), at2]; rfl
  · rw [if_pos (by omega), at3]; rfl
  · rw [if_pos (by omega), at4]; rfl
  · rw [if_pos (by omega), at5]; rfl
  · rw [if_pos (by omega), at6]; rfl
  · rw [if_pos (by omega), at7]; rfl
  · rw [if_neg (by omega)]
    exact (Array.getElem?_eq_none (by simp; omega)).symm
section
variable {ops : Array Oper} {rest : List Oper} {o : Oper} {a : Act} {w : World} {Q : Exit → Act → World → Prop}
theorem wpList_buildW8 (hg : o.guard = none) (x0 x1 x2 x3 x4 x5 x6 x7 : Operand) (ho : o.op = .build 109 #[(0, x0), (1, x1), (2, x2), (3, x3), (4, x4), (5, x5), (6, x6), (7, x7)]) (v0 v1 v2 v3 v4 v5 v6 v7 : W32)
    (h0 : a.eval x0 = U v0) (h1 : a.eval x1 = U v1) (h2 : a.eval x2 = U v2) (h3 : a.eval x3 = U v3) (h4 : a.eval x4 = U v4) (h5 : a.eval x5 = U v5) (h6 : a.eval x6 = U v6) (h7 : a.eval x7 = U v7)
    (h : wpList Tryz.prog ops Q rest (a.put o.dst (Wd.v 8 (St.at ⟨v0, v1, v2, v3, v4, v5, v6, v7⟩))) w) : wpList Tryz.prog ops Q (o :: rest) a w :=
  wpList_plain hg fun K hK => by
    have r : (execOp a.eval o).run Tryz.prog w = .ok (.value (Wd.v 8 (St.at ⟨v0, v1, v2, v3, v4, v5, v6, v7⟩))) w := by
      rw [wd_eight]
      obtain ⟨d, p, t, ps, af, gd⟩ := o
      simp only at ho
      subst ho
      unfold execOp
      simp only [List.map_toArray, List.map_cons, List.map_nil, h0, h1, h2, h3, h4, h5, h6, h7]
      kernel_rfl
    unfold Oper.wp
    rw [r]
    exact hK _ _ h
end
theorem part_w (n : Nat) (f : Nat → W32) (k : Nat) (hk : k < n) (w : World) : (Go.part 106 (wC n f) k).run Tryz.prog w = .ok (U (f k)) w := by
  have h0 : (isAgg 106).run Tryz.prog w = .ok false w := by kernel_rfl
  have h1 : (wC n f)[k]? = some (U (f k)) := by rw [get_wC, if_pos hk]
  unfold Go.part
  simp [Sem.run_bind, h0, Result.andThen_ok, Sem.run_pure, h1]
theorem run_index_w8 (f : Nat → W32) (k : Nat) (hk : k < 8) (w : World) : (Instr.index 109 (Wd.v 8 f) (.int .i64 k)).run Tryz.prog w = .ok (U (f k)) w := by
  have hs : ∀ w, (sizeOf 106).run Tryz.prog w = .ok 1 w := fun w => by kernel_rfl
  unfold Instr.index Wd.v
  have e : (0 : Int) ≤ (k : Int) ∧ (k : Int) < 8 := by omega
  simp only [asIntOf, Sem.run_bind, Sem.run_pure, Result.andThen_ok, run_underlying Tryz.underlying109]
  rw [if_pos (by simpa using e)]
  simp only [Sem.run_bind, hs, Result.andThen_ok, Int.toNat_natCast, Nat.mul_one]
  exact part_w 8 f k hk w
/-- How long a string is. -/
def strLen : Value → Nat
  | .string s => s.size
  | _ => 0
end Go.Proofs.YtppccnjckiedlaaGreatDoor
/- Contracts: rotations; the message schedule of package digest. -/
namespace Go.Proofs.YtppccnjckiedlaaGreatDoor
open Go.RowKit Sha
set_option linter.unusedVariables false
set_option linter.unusedSimpArgs false

theorem rotl_rotr (x : W32) (n : Nat) (h : n < 32) : (x <<< (32 - n)) ||| (x >>> n) = rotr x n := by unfold rotr; rw [BitVec.or_comm]

theorem L_rot7 (x : W32) (w : World) : Calls Tryz.prog 84 #[U x, .int .i64 (-7)] w fun e w' => e = .returned (U (rotr x 7)) ∧ w = w' := by
  have e1 : bits BinOp.and IntKind.u64 (IntKind.u64.wrap (-7)) 31 = 25 := by decide
  rw [← rotl_rotr x 7 (by decide)]
  go_enter Tryz.func84, Tryz.ntmps84
  go_wp2
  go_ret
  exact ⟨rfl, rfl⟩
theorem L_rot18 (x : W32) (w : World) : Calls Tryz.prog 84 #[U x, .int .i64 (-18)] w fun e w' => e = .returned (U (rotr x 18)) ∧ w = w' := by
  have e1 : bits BinOp.and IntKind.u64 (IntKind.u64.wrap (-18)) 31 = 14 := by decide
  rw [← rotl_rotr x 18 (by decide)]
  go_enter Tryz.func84, Tryz.ntmps84
  go_wp2
  go_ret
  exact ⟨rfl, rfl⟩
theorem L_rot17 (x : W32) (w : World) : Calls Tryz.prog 84 #[U x, .int .i64 (-17)] w fun e w' => e = .returned (U (rotr x 17)) ∧ w = w' := by
  have e1 : bits BinOp.and IntKind.u64 (IntKind.u64.wrap (-17)) 31 = 15 := by decide
  rw [← rotl_rotr x 17 (by decide)]
  go_enter Tryz.func84, Tryz.ntmps84
  go_wp2
  go_ret
  exact ⟨rfl, rfl⟩
theorem L_rot19 (x : W32) (w : World) : Calls Tryz.prog 84 #[U x, .int .i64 (-19)] w fun e w' => e = .returned (U (rotr x 19)) ∧ w = w' := by
  have e1 : bits BinOp.and IntKind.u64 (IntKind.u64.wrap (-19)) 31 = 13 := by decide
  rw [← rotl_rotr x 19 (by decide)]
  go_enter Tryz.func84, Tryz.ntmps84
  go_wp2
  go_ret
  exact ⟨rfl, rfl⟩
theorem L_rot6 (x : W32) (w : World) : Calls Tryz.prog 84 #[U x, .int .i64 (-6)] w fun e w' => e = .returned (U (rotr x 6)) ∧ w = w' := by
  have e1 : bits BinOp.and IntKind.u64 (IntKind.u64.wrap (-6)) 31 = 26 := by decide
  rw [← rotl_rotr x 6 (by decide)]
  go_enter Tryz.func84, Tryz.ntmps84
  go_wp2
  go_ret
  exact ⟨rfl, rfl⟩
theorem L_rot11 (x : W32) (w : World) : Calls Tryz.prog 84 #[U x, .int .i64 (-11)] w fun e w' => e = .returned (U (rotr x 11)) ∧ w = w' := by
  have e1 : bits BinOp.and IntKind.u64 (IntKind.u64.wrap (-11)) 31 = 21 := by decide
  rw [← rotl_rotr x 11 (by decide)]
  go_enter Tryz.func84, Tryz.ntmps84
  go_wp2
  go_ret
  exact ⟨rfl, rfl⟩
theorem L_rot25 (x : W32) (w : World) : Calls Tryz.prog 84 #[U x, .int .i64 (-25)] w fun e w' => e = .returned (U (rotr x 25)) ∧ w = w' := by
  have e1 : bits BinOp.and IntKind.u64 (IntKind.u64.wrap (-25)) 31 = 7 := by decide
  rw [← rotl_rotr x 25 (by decide)]
  go_enter Tryz.func84, Tryz.ntmps84
  go_wp2
  go_ret
  exact ⟨rfl, rfl⟩
theorem L_rot2 (x : W32) (w : World) : Calls Tryz.prog 84 #[U x, .int .i64 (-2)] w fun e w' => e = .returned (U (rotr x 2)) ∧ w = w' := by
  have e1 : bits BinOp.and IntKind.u64 (IntKind.u64.wrap (-2)) 31 = 30 := by decide
  rw [← rotl_rotr x 2 (by decide)]
  go_enter Tryz.func84, Tryz.ntmps84
  go_wp2
  go_ret
  exact ⟨rfl, rfl⟩
theorem L_rot13 (x : W32) (w : World) : Calls Tryz.prog 84 #[U x, .int .i64 (-13)] w fun e w' => e = .returned (U (rotr x 13)) ∧ w = w' := by
  have e1 : bits BinOp.and IntKind.u64 (IntKind.u64.wrap (-13)) 31 = 19 := by decide
  rw [← rotl_rotr x 13 (by decide)]
  go_enter Tryz.func84, Tryz.ntmps84
  go_wp2
  go_ret
  exact ⟨rfl, rfl⟩
theorem L_rot22 (x : W32) (w : World) : Calls Tryz.prog 84 #[U x, .int .i64 (-22)] w fun e w' => e = .returned (U (rotr x 22)) ∧ w = w' := by
  have e1 : bits BinOp.and IntKind.u64 (IntKind.u64.wrap (-22)) 31 = 10 := by decide
  rw [← rotl_rotr x 22 (by decide)]
  go_enter Tryz.func84, Tryz.ntmps84
  go_wp2
  go_ret
  exact ⟨rfl, rfl⟩
theorem R_turn7 (x : W32) (w : World) : Calls Tryz.prog 100 #[U x, .int .i64 7] w fun e w' => e = .returned (U (rotr x 7)) ∧ w = w' := by
  rw [rotr_def]
  go_enter Tryz.func100, Tryz.ntmps100
  go_wp2
  go_ret
  exact ⟨rfl, rfl⟩
theorem R_turn18 (x : W32) (w : World) : Calls Tryz.prog 100 #[U x, .int .i64 18] w fun e w' => e = .returned (U (rotr x 18)) ∧ w = w' := by
  rw [rotr_def]
  go_enter Tryz.func100, Tryz.ntmps100
  go_wp2
  go_ret
  exact ⟨rfl, rfl⟩
theorem R_turn17 (x : W32) (w : World) : Calls Tryz.prog 100 #[U x, .int .i64 17] w fun e w' => e = .returned (U (rotr x 17)) ∧ w = w' := by
  rw [rotr_def]
  go_enter Tryz.func100, Tryz.ntmps100
  go_wp2
  go_ret
  exact ⟨rfl, rfl⟩
theorem R_turn19 (x : W32) (w : World) : Calls Tryz.prog 100 #[U x, .int .i64 19] w fun e w' => e = .returned (U (rotr x 19)) ∧ w = w' := by
  rw [rotr_def]
  go_enter Tryz.func100, Tryz.ntmps100
  go_wp2
  go_ret
  exact ⟨rfl, rfl⟩
theorem R_turn6 (x : W32) (w : World) : Calls Tryz.prog 100 #[U x, .int .i64 6] w fun e w' => e = .returned (U (rotr x 6)) ∧ w = w' := by
  rw [rotr_def]
  go_enter Tryz.func100, Tryz.ntmps100
  go_wp2
  go_ret
  exact ⟨rfl, rfl⟩
theorem R_turn11 (x : W32) (w : World) : Calls Tryz.prog 100 #[U x, .int .i64 11] w fun e w' => e = .returned (U (rotr x 11)) ∧ w = w' := by
  rw [rotr_def]
  go_enter Tryz.func100, Tryz.ntmps100
  go_wp2
  go_ret
  exact ⟨rfl, rfl⟩
theorem R_turn25 (x : W32) (w : World) : Calls Tryz.prog 100 #[U x, .int .i64 25] w fun e w' => e = .returned (U (rotr x 25)) ∧ w = w' := by
  rw [rotr_def]
  go_enter Tryz.func100, Tryz.ntmps100
  go_wp2
  go_ret
  exact ⟨rfl, rfl⟩
theorem R_turn2 (x : W32) (w : World) : Calls Tryz.prog 100 #[U x, .int .i64 2] w fun e w' => e = .returned (U (rotr x 2)) ∧ w = w' := by
  rw [rotr_def]
  go_enter Tryz.func100, Tryz.ntmps100
  go_wp2
  go_ret
  exact ⟨rfl, rfl⟩
theorem R_turn13 (x : W32) (w : World) : Calls Tryz.prog 100 #[U x, .int .i64 13] w fun e w' => e = .returned (U (rotr x 13)) ∧ w = w' := by
  rw [rotr_def]
  go_enter Tryz.func100, Tryz.ntmps100
  go_wp2
  go_ret
  exact ⟨rfl, rfl⟩
theorem R_turn22 (x : W32) (w : World) : Calls Tryz.prog 100 #[U x, .int .i64 22] w fun e w' => e = .returned (U (rotr x 22)) ∧ w = w' := by
  rw [rotr_def]
  go_enter Tryz.func100, Tryz.ntmps100
  go_wp2
  go_ret
  exact ⟨rfl, rfl⟩

/-- All of them. -/
theorem L_rot (x : W32) (k : Int) (n : Nat) (hn : k = -(n : Int) ∧ n ∈ [7, 18, 17, 19, 6, 11, 25, 2, 13, 22]) (w : World) : Calls Tryz.prog 84 #[U x, .int .i64 k] w fun e w' => e = .returned (U (rotr x n)) ∧ w = w' := by
  obtain ⟨rfl, hn⟩ := hn
  simp at hn
  rcases hn with rfl | rfl | rfl | rfl | rfl | rfl | rfl | rfl | rfl | rfl
  · exact L_rot7 x w
  · exact L_rot18 x w
  · exact L_rot17 x w
  · exact L_rot19 x w
  · exact L_rot6 x w
  · exact L_rot11 x w
  · exact L_rot25 x w
  · exact L_rot2 x w
  · exact L_rot13 x w
  · exact L_rot22 x w
theorem R_turn (x : W32) (k : Int) (n : Nat) (hn : k = (n : Int) ∧ n ∈ [7, 18, 17, 19, 6, 11, 25, 2, 13, 22]) (w : World) : Calls Tryz.prog 100 #[U x, .int .i64 k] w fun e w' => e = .returned (U (rotr x n)) ∧ w = w' := by
  obtain ⟨rfl, hn⟩ := hn
  simp at hn
  rcases hn with rfl | rfl | rfl | rfl | rfl | rfl | rfl | rfl | rfl | rfl
  · exact R_turn7 x w
  · exact R_turn18 x w
  · exact R_turn17 x w
  · exact R_turn19 x w
  · exact R_turn6 x w
  · exact R_turn11 x w
  · exact R_turn25 x w
  · exact R_turn2 x w
  · exact R_turn13 x w
  · exact R_turn22 x w
theorem run_indexS (t : TypeId) (ht : Tryz.prog.underlying t = some .string) (s : ByteArray) (m : Nat) (hm : m < s.size) (w : World) : (Instr.index t (.string s) (.int .i64 (m : Int))).run Tryz.prog w = .ok (Y (byteAt s m)) w := by
  rw [run_index_string w t s .i64 (m : Int) ht, dif_pos ⟨by omega, by omega⟩]
  simp only [Int.toNat_natCast]
  rw [byteAt_get s m hm]
  rfl
section
variable {C : World → Prop} {a : Act} {o : Oper} {K : Act → Prop}
theorem quiet_indexS {t : TypeId} {x i : Operand} (h : o.op = .index t x i) (s : ByteArray) (hx : a.eval x = .string s) (j : Int) (hi : a.eval i = .int .i64 j) (m : Nat) (hm : m < s.size) (hj : j = m) (hk : K (a.put o.dst (Y (byteAt s m)))) (ht : Tryz.prog.underlying t = some .string := by kernel_rfl) : o.quiet Tryz.prog a C K :=
  ⟨_, fun w hw => by subst hj; unfold Oper.quietAt execOp; simp only [h, hx, hi, run_indexS t ht s m hm w, Sem.run_bind, Sem.run_pure, Result.andThen_ok]; exact ⟨rfl, rfl⟩, hk⟩
end
set_option maxHeartbeats 600000 in
set_option maxRecDepth 20000 in
theorem P_schedule (s : ByteArray) (w : World) (hs : s.size = 64) : Calls Tryz.prog 83 #[.string s] w fun e w' => e = .returned (Wd.v 64 (wrd (msg (bytes s)))) ∧ Below w.heap.size w w' := by
  have B := Below.refl w.heap.size w
  go_enter Tryz.func83, Tryz.ntmps83
  go_wp2_with (first | (refine wpList_allocW64 rfl rfl ?_; intro b_w1 wn hle hge ht hbn hzn; have hsz := B.size; replace B := B.trans (hbn.mono (by omega)); have hln := Nat.lt_of_lt_of_eq (Nat.lt_succ_self _) hzn.symm; clear hzn; (try first | (have hlt := w1.lt; replace w1 := w1.of_eq (hbn.block _ (by omega))) | replace w1 := w1.below (hbn.mono hle)); have w1 := ht; clear ht; simp only [Act.put, putS]))
  go_loopw [3, 9] (fun _ i wr => ∃ k : Nat, k ≤ 16 ∧ i = .int .i64 k ∧ Below w.heap.size w wr ∧ WAt 128 64 wr b_w1 (first (msg (bytes s)) k)) (fun _ i _ => (16 - intOf i).toNat)
  case atStart => exact ⟨0, by omega, rfl, B, by rw [first_zero]; exact w1⟩
  case round =>
    clear B w1
    obtain ⟨k, hk, rfl, B, w1⟩ := hrel
    by_cases hlt : k < 16
    · go_wp2
      refine wp_region_ov_tail 31 (by kernel_rfl) (by kernel_rfl) ?_
      simp only [List.take_succ_cons, List.take_zero, List.drop_succ_cons, List.drop_zero]
      repeat (first | go_big_quiet_skip | (go_big_quiet_want; first | (refine quiet_indexS (t := 9) rfl (s) rfl _ rfl (4 * k) (by omega) (by omega) ?_; simp only [Act.put, putS]; go_big_quiet_on) | (refine quiet_indexS (t := 9) rfl (s) rfl _ rfl (4 * k + 1) (by omega) (by omega) ?_; simp only [Act.put, putS]; go_big_quiet_on) | (refine quiet_indexS (t := 9) rfl (s) rfl _ rfl (4 * k + 2) (by omega) (by omega) ?_; simp only [Act.put, putS]; go_big_quiet_on) | (refine quiet_indexS (t := 9) rfl (s) rfl _ rfl (4 * k + 3) (by omega) (by omega) ?_; simp only [Act.put, putS]; go_big_quiet_on) | (go_big_quiet_op; first | go_big_quiet_on | go_big_quiet_call ((fail)))))
      refine wpQuiet_nil ?_
      intro wn hbn
      have hsz := B.size
      have hzn := hbn.size
      replace B := B.trans (hbn.mono B.size)
      try first | replace w1 := w1.of_eq (hbn.block _ w1.lt) | replace w1 := w1.below hbn
      go_wp2_with (first | (refine wpList_storeWord rfl _ _ rfl _ _ rfl (_) rfl w1 (k) (by omega) (by first | rfl | omega) ?_; clear w1; intro wn ht hcn hzn; have hsz := B.size; replace hzn := Nat.le_of_eq hzn.symm; replace B := Chg.below B hcn (by omega) B.size; have w1 := ht; clear ht; simp only [Act.put, putS]))
      rw [be_or, ← msg_at, first_next] at w1
      go_roundw
      case rel => exact ⟨k + 1, by omega, by go_num, B, w1⟩
      case measure => simp [intOf]; omega
    · obtain rfl : k = 16 := by omega
      simp only [show ((16 : Nat) : Int) = 16 from rfl]
      go_wp2
      go_loopw [4, 5, 6, 7, 8] (fun i _ _ _ _ wr => ∃ k : Nat, k ≤ 48 ∧ i = .int .i64 (16 + k) ∧ Below w.heap.size w wr ∧ WAt 128 64 wr b_w1 (sch (msg (bytes s)) k)) (fun i _ _ _ _ _ => (64 - intOf i).toNat)
      case atStart => exact ⟨0, by omega, rfl, B, by rw [sch_zero]; exact w1⟩
      case round =>
        clear B w1
        obtain ⟨k, hk, rfl, B, w1⟩ := hrel
        by_cases hlt : k < 48
        · go_wp2
          refine wp_region_ov (by kernel_rfl) (by kernel_rfl) ?_
          repeat (first | go_big_quiet_skip | (go_big_quiet_want; first | (refine quiet_loadAny (t := 106) rfl _ _ _ rfl (fun w hw => run_load_word (ov_w w1 w hw) (show k + 1 < 64 by omega)) (by first | rfl | omega) ?_; simp only [Act.put, putS]; go_big_quiet_on) | (refine quiet_loadAny (t := 106) rfl _ _ _ rfl (fun w hw => run_load_word (ov_w w1 w hw) (show k + 14 < 64 by omega)) (by first | rfl | omega) ?_; simp only [Act.put, putS]; go_big_quiet_on) | (go_big_quiet_op; first | go_big_quiet_on | go_big_quiet_call ((fail)))))
          refine wpQuiet_nil ?_
          intro wn hbn
          have hsz := B.size
          have hzn := hbn.size
          replace B := B.trans (hbn.mono B.size)
          try first | replace w1 := w1.of_eq (hbn.block _ w1.lt) | replace w1 := w1.below hbn
          go_wp2_with (first | (go_at_call 84; refine (L_rot _ _ 7 (by decide) _).mono ?_; rintro e wq ⟨rfl, rfl⟩) | (go_at_call 84; refine (L_rot _ _ 18 (by decide) _).mono ?_; rintro e wq ⟨rfl, rfl⟩) | (go_at_call 84; refine (L_rot _ _ 17 (by decide) _).mono ?_; rintro e wq ⟨rfl, rfl⟩) | (go_at_call 84; refine (L_rot _ _ 19 (by decide) _).mono ?_; rintro e wq ⟨rfl, rfl⟩))
          refine wp_region_ov_tail 15 (by kernel_rfl) (by kernel_rfl) ?_
          simp only [List.take_succ_cons, List.take_zero, List.drop_succ_cons, List.drop_zero]
          repeat (first | go_big_quiet_skip | (go_big_quiet_want; first | (refine quiet_loadAny (t := 106) rfl _ _ _ rfl (fun w hw => run_load_word (ov_w w1 w hw) (show k < 64 by omega)) (by first | rfl | omega) ?_; simp only [Act.put, putS]; go_big_quiet_on) | (refine quiet_loadAny (t := 106) rfl _ _ _ rfl (fun w hw => run_load_word (ov_w w1 w hw) (show k + 9 < 64 by omega)) (by first | rfl | omega) ?_; simp only [Act.put, putS]; go_big_quiet_on) | (go_big_quiet_op; first | go_big_quiet_on | go_big_quiet_call ((fail)))))
          refine wpQuiet_nil ?_
          intro wn hbn
          have hsz := B.size
          have hzn := hbn.size
          replace B := B.trans (hbn.mono B.size)
          try first | replace w1 := w1.of_eq (hbn.block _ w1.lt) | replace w1 := w1.below hbn
          go_wp2_with (first | (refine wpList_storeWord rfl _ _ rfl _ _ rfl (_) rfl w1 (16 + k) (by omega) (by first | rfl | omega) ?_; clear w1; intro wn ht hcn hzn; have hsz := B.size; replace hzn := Nat.le_of_eq hzn.symm; replace B := Chg.below B hcn (by omega) B.size; have w1 := ht; clear ht; simp only [Act.put, putS]))
          rw [← s0_def, ← s1_def, ← sch_next] at w1
          go_roundw
          case rel => exact ⟨k + 1, by omega, by go_num, B, w1⟩
          case measure => simp [intOf]; omega
        · obtain rfl : k = 48 := by omega
          go_wp2_with (first | (refine wpList_storeW wt64 rfl _ _ rfl _ rfl _ rfl w1 ?_; clear w1; intro wn ht hcn hzn; have hsz := B.size; replace hzn := Nat.le_of_eq hzn.symm; replace B := Chg.below B hcn (by omega) B.size; have w1 := ht; clear ht; simp only [Act.put, putS]) | (refine wpList_loadAny (t := 128) rfl _ rfl _ _ _ rfl (run_load_w wt64 w1) (by rfl) ?_; simp only [Act.put, putS]))
          refine bodyPost_ret (results_w wt64 rfl _ _ (b_w1) rfl w1) rfl ?_
          exact ⟨rfl, B⟩
end Go.Proofs.YtppccnjckiedlaaGreatDoor
/- Contract: compress of package digest. -/
namespace Go.Proofs.YtppccnjckiedlaaGreatDoor
open Go.RowKit Sha
set_option linter.unusedVariables false
set_option linter.unusedSimpArgs false

set_option maxHeartbeats 4000000 in
set_option maxRecDepth 20000 in
theorem P_compress (h : St) (s : ByteArray) (w : World) (hs : s.size = 64) (kt : GAt 1 64 w kW) : Calls Tryz.prog 59 #[Wd.v 8 h.at, .string s] w fun e w' => e = .returned (Wd.v 8 (comp h (bytes s)).at) ∧ Below w.heap.size w w' := by
  have B := Below.refl w.heap.size w
  go_enter Tryz.func59, Tryz.ntmps59
  go_wp2_with (first | (refine wpList_storeW wt8 rfl _ _ rfl _ rfl _ rfl v1 ?_; clear v1; intro wn ht hcn hzn; have hsz := B.size; replace hzn := Nat.le_of_eq hzn.symm; replace B := Chg.below B hcn (by omega) B.size; (try replace kt := kt.of_eq (hcn.block _ kt.lt (by omega))); (try replace h1 := h1.of_eq (hcn.block _ h1.lt (by omega))); (try replace r1 := r1.of_eq (hcn.block _ r1.lt (by omega))); (try replace k1 := k1.of_eq (hcn.block _ k1.lt (by omega))); have v1 := ht; clear ht; simp only [Act.put, putS]) | (have _ := k1; refine wpList_allocW8 rfl rfl ?_; intro b_v1 wn hle hge ht hbn hzn; have hsz := B.size; replace B := B.trans (hbn.mono (by omega)); have hln := Nat.lt_of_lt_of_eq (Nat.lt_succ_self _) hzn.symm; clear hzn; (try first | (have hlt := kt.lt; replace kt := kt.of_eq (hbn.block _ (by omega))) | replace kt := kt.below (hbn.mono hle)); (try first | (have hlt := h1.lt; replace h1 := h1.of_eq (hbn.block _ (by omega))) | replace h1 := h1.below (hbn.mono hle)); (try first | (have hlt := r1.lt; replace r1 := r1.of_eq (hbn.block _ (by omega))) | replace r1 := r1.below (hbn.mono hle)); (try first | (have hlt := k1.lt; replace k1 := k1.of_eq (hbn.block _ (by omega))) | replace k1 := k1.below (hbn.mono hle)); (try first | (have hlt := v1.lt; replace v1 := v1.of_eq (hbn.block _ (by omega))) | replace v1 := v1.below (hbn.mono hle)); have v1 := ht; clear ht; simp only [Act.put, putS]) | (refine wpList_loadAny (t := 109) rfl _ rfl _ _ _ rfl (run_load_w wt8 h1) (by rfl) ?_; simp only [Act.put, putS]) | (refine wpList_storeW wt64 rfl _ _ rfl _ rfl _ rfl k1 ?_; clear k1; intro wn ht hcn hzn; have hsz := B.size; replace hzn := Nat.le_of_eq hzn.symm; replace B := Chg.below B hcn (by omega) B.size; (try replace kt := kt.of_eq (hcn.block _ kt.lt (by omega))); (try replace h1 := h1.of_eq (hcn.block _ h1.lt (by omega))); (try replace r1 := r1.of_eq (hcn.block _ r1.lt (by omega))); (try replace v1 := v1.of_eq (hcn.block _ v1.lt (by omega))); have k1 := ht; clear ht; simp only [Act.put, putS]) | (have _ := r1; refine wpList_allocW64 rfl rfl ?_; intro b_k1 wn hle hge ht hbn hzn; have hsz := B.size; replace B := B.trans (hbn.mono (by omega)); have hln := Nat.lt_of_lt_of_eq (Nat.lt_succ_self _) hzn.symm; clear hzn; (try first | (have hlt := kt.lt; replace kt := kt.of_eq (hbn.block _ (by omega))) | replace kt := kt.below (hbn.mono hle)); (try first | (have hlt := h1.lt; replace h1 := h1.of_eq (hbn.block _ (by omega))) | replace h1 := h1.below (hbn.mono hle)); (try first | (have hlt := r1.lt; replace r1 := r1.of_eq (hbn.block _ (by omega))) | replace r1 := r1.below (hbn.mono hle)); (try first | (have hlt := k1.lt; replace k1 := k1.of_eq (hbn.block _ (by omega))) | replace k1 := k1.below (hbn.mono hle)); (try first | (have hlt := v1.lt; replace v1 := v1.of_eq (hbn.block _ (by omega))) | replace v1 := v1.below (hbn.mono hle)); have k1 := ht; clear ht; simp only [Act.put, putS]) | (go_at_call 83; refine (P_schedule _ _ hs).mono ?_; rintro e wn ⟨rfl, hbn⟩; have hsz := B.size; have hzn := hbn.size; replace B := B.trans (hbn.mono B.size); (try first | replace kt := kt.of_eq (hbn.block _ kt.lt) | replace kt := kt.below hbn); (try first | replace h1 := h1.of_eq (hbn.block _ h1.lt) | replace h1 := h1.below hbn); (try first | replace r1 := r1.of_eq (hbn.block _ r1.lt) | replace r1 := r1.below hbn); (try first | replace k1 := k1.of_eq (hbn.block _ k1.lt) | replace k1 := k1.below hbn); (try first | replace v1 := v1.of_eq (hbn.block _ v1.lt) | replace v1 := v1.below hbn)) | (have _ := h1; refine wpList_allocW8 rfl rfl ?_; intro b_r1 wn hle hge ht hbn hzn; have hsz := B.size; replace B := B.trans (hbn.mono (by omega)); have hln := Nat.lt_of_lt_of_eq (Nat.lt_succ_self _) hzn.symm; clear hzn; (try first | (have hlt := kt.lt; replace kt := kt.of_eq (hbn.block _ (by omega))) | replace kt := kt.below (hbn.mono hle)); (try first | (have hlt := h1.lt; replace h1 := h1.of_eq (hbn.block _ (by omega))) | replace h1 := h1.below (hbn.mono hle)); (try first | (have hlt := r1.lt; replace r1 := r1.of_eq (hbn.block _ (by omega))) | replace r1 := r1.below (hbn.mono hle)); (try first | (have hlt := k1.lt; replace k1 := k1.of_eq (hbn.block _ (by omega))) | replace k1 := k1.below (hbn.mono hle)); (try first | (have hlt := v1.lt; replace v1 := v1.of_eq (hbn.block _ (by omega))) | replace v1 := v1.below (hbn.mono hle)); have r1 := ht; clear ht; simp only [Act.put, putS]) | (refine wpList_boxW wt8 rfl _ rfl _ rfl ?_; intro b_h1 wn hle hge ht hbn hzn; have hsz := B.size; replace B := B.trans (hbn.mono (by omega)); have hln := Nat.lt_of_lt_of_eq (Nat.lt_succ_self _) hzn.symm; clear hzn; (try first | (have hlt := kt.lt; replace kt := kt.of_eq (hbn.block _ (by omega))) | replace kt := kt.below (hbn.mono hle)); (try first | (have hlt := h1.lt; replace h1 := h1.of_eq (hbn.block _ (by omega))) | replace h1 := h1.below (hbn.mono hle)); (try first | (have hlt := r1.lt; replace r1 := r1.of_eq (hbn.block _ (by omega))) | replace r1 := r1.below (hbn.mono hle)); (try first | (have hlt := k1.lt; replace k1 := k1.of_eq (hbn.block _ (by omega))) | replace k1 := k1.below (hbn.mono hle)); (try first | (have hlt := v1.lt; replace v1 := v1.of_eq (hbn.block _ (by omega))) | replace v1 := v1.below (hbn.mono hle)); have h1 := ht; clear ht; simp only [Act.put, putS]))
  go_loopw [7, 8, 9, 10, 11, 12, 13, 18] (fun _ _ _ _ _ _ _ i wr => ∃ k : Nat, k ≤ 64 ∧ i = .int .i64 k ∧ Below w.heap.size w wr ∧ GAt 1 64 wr kW ∧ WAt 109 8 wr b_h1 h.at ∧ WAt 109 8 wr b_r1 (fun _ => 0) ∧ WAt 128 64 wr b_k1 (wrd (msg (bytes s))) ∧ WAt 109 8 wr b_v1 (rounds kW (wrd (msg (bytes s))) h k).at) (fun _ _ _ _ _ _ _ i _ => (64 - intOf i).toNat)
  case atStart => exact ⟨0, by omega, rfl, B, kt, h1, r1, k1, by rw [rounds_zero]; exact v1⟩
  case round =>
    clear B kt h1 r1 k1 v1
    obtain ⟨k, hk, rfl, B, kt, h1, r1, k1, v1⟩ := hrel
    by_cases hlt : k < 64
    · go_wp2
      refine wp_region_ov (by kernel_rfl) (by kernel_rfl) ?_
      repeat (first | go_big_quiet_skip | (go_big_quiet_want; first | (refine quiet_loadAny (t := 106) rfl _ _ _ rfl (fun w hw => run_load_word (ov_w v1 w hw) (show 0 < 8 by omega)) (by rfl) ?_; simp only [Act.put, putS]; go_big_quiet_on) | (refine quiet_loadAny (t := 106) rfl _ _ _ rfl (fun w hw => run_load_word (ov_w v1 w hw) (show 1 < 8 by omega)) (by rfl) ?_; simp only [Act.put, putS]; go_big_quiet_on) | (refine quiet_loadAny (t := 106) rfl _ _ _ rfl (fun w hw => run_load_word (ov_w v1 w hw) (show 2 < 8 by omega)) (by rfl) ?_; simp only [Act.put, putS]; go_big_quiet_on) | (refine quiet_loadAny (t := 106) rfl _ _ _ rfl (fun w hw => run_load_word (ov_w v1 w hw) (show 3 < 8 by omega)) (by rfl) ?_; simp only [Act.put, putS]; go_big_quiet_on) | (refine quiet_loadAny (t := 106) rfl _ _ _ rfl (fun w hw => run_load_word (ov_w v1 w hw) (show 4 < 8 by omega)) (by rfl) ?_; simp only [Act.put, putS]; go_big_quiet_on) | (refine quiet_loadAny (t := 106) rfl _ _ _ rfl (fun w hw => run_load_word (ov_w v1 w hw) (show 5 < 8 by omega)) (by rfl) ?_; simp only [Act.put, putS]; go_big_quiet_on) | (refine quiet_loadAny (t := 106) rfl _ _ _ rfl (fun w hw => run_load_word (ov_w v1 w hw) (show 6 < 8 by omega)) (by rfl) ?_; simp only [Act.put, putS]; go_big_quiet_on) | (refine quiet_loadAny (t := 106) rfl _ _ _ rfl (fun w hw => run_load_word (ov_w v1 w hw) (show 7 < 8 by omega)) (by rfl) ?_; simp only [Act.put, putS]; go_big_quiet_on) | (go_big_quiet_op; first | go_big_quiet_on | go_big_quiet_call ((fail)))))
      refine wpQuiet_nil ?_
      intro wn hbn
      have hsz := B.size
      have hzn := hbn.size
      replace B := B.trans (hbn.mono B.size)
      try first | replace kt := kt.of_eq (hbn.block _ kt.lt) | replace kt := kt.below hbn
      try first | replace h1 := h1.of_eq (hbn.block _ h1.lt) | replace h1 := h1.below hbn
      try first | replace r1 := r1.of_eq (hbn.block _ r1.lt) | replace r1 := r1.below hbn
      try first | replace k1 := k1.of_eq (hbn.block _ k1.lt) | replace k1 := k1.below hbn
      try first | replace v1 := v1.of_eq (hbn.block _ v1.lt) | replace v1 := v1.below hbn
      go_wp2_with (first | (go_at_call 84; refine (L_rot _ _ 6 (by decide) _).mono ?_; rintro e wq ⟨rfl, rfl⟩) | (go_at_call 84; refine (L_rot _ _ 11 (by decide) _).mono ?_; rintro e wq ⟨rfl, rfl⟩) | (go_at_call 84; refine (L_rot _ _ 25 (by decide) _).mono ?_; rintro e wq ⟨rfl, rfl⟩) | (go_at_call 84; refine (L_rot _ _ 2 (by decide) _).mono ?_; rintro e wq ⟨rfl, rfl⟩) | (go_at_call 84; refine (L_rot _ _ 13 (by decide) _).mono ?_; rintro e wq ⟨rfl, rfl⟩) | (go_at_call 84; refine (L_rot _ _ 22 (by decide) _).mono ?_; rintro e wq ⟨rfl, rfl⟩))
      refine wp_region_ov (by kernel_rfl) (by kernel_rfl) ?_
      repeat (first | go_big_quiet_skip | (go_big_quiet_want; first | (refine quiet_loadAny (t := 106) rfl _ _ _ rfl (fun w hw => run_load_word (ov_w v1 w hw) (show 0 < 8 by omega)) (by rfl) ?_; simp only [Act.put, putS]; go_big_quiet_on) | (refine quiet_loadAny (t := 106) rfl _ _ _ rfl (fun w hw => run_load_word (ov_w v1 w hw) (show 1 < 8 by omega)) (by rfl) ?_; simp only [Act.put, putS]; go_big_quiet_on) | (refine quiet_loadAny (t := 106) rfl _ _ _ rfl (fun w hw => run_load_word (ov_w v1 w hw) (show 2 < 8 by omega)) (by rfl) ?_; simp only [Act.put, putS]; go_big_quiet_on) | (refine quiet_loadAny (t := 106) rfl _ _ _ rfl (fun w hw => run_load_word (ov_w v1 w hw) (show 3 < 8 by omega)) (by rfl) ?_; simp only [Act.put, putS]; go_big_quiet_on) | (refine quiet_loadAny (t := 106) rfl _ _ _ rfl (fun w hw => run_load_word (ov_w v1 w hw) (show 4 < 8 by omega)) (by rfl) ?_; simp only [Act.put, putS]; go_big_quiet_on) | (refine quiet_loadAny (t := 106) rfl _ _ _ rfl (fun w hw => run_load_word (ov_w v1 w hw) (show 5 < 8 by omega)) (by rfl) ?_; simp only [Act.put, putS]; go_big_quiet_on) | (refine quiet_loadAny (t := 106) rfl _ _ _ rfl (fun w hw => run_load_word (ov_w v1 w hw) (show 6 < 8 by omega)) (by rfl) ?_; simp only [Act.put, putS]; go_big_quiet_on) | (refine quiet_loadAny (t := 106) rfl _ _ _ rfl (fun w hw => run_load_word (ov_w v1 w hw) (show 7 < 8 by omega)) (by rfl) ?_; simp only [Act.put, putS]; go_big_quiet_on) | (refine quiet_loadAny (t := 106) rfl _ _ _ rfl (fun w hw => run_load_gword (ov_g kt w hw) (hlt)) (by first | rfl | omega) ?_; simp only [Act.put, putS]; go_big_quiet_on) | (refine quiet_loadAny (t := 106) rfl _ _ _ rfl (fun w hw => run_load_word (ov_w k1 w hw) (hlt)) (by first | rfl | omega) ?_; simp only [Act.put, putS]; go_big_quiet_on) | (go_big_quiet_op; first | go_big_quiet_on | go_big_quiet_call ((fail)))))
      refine wpQuiet_nil ?_
      intro wn hbn
      have hsz := B.size
      have hzn := hbn.size
      replace B := B.trans (hbn.mono B.size)
      try first | replace kt := kt.of_eq (hbn.block _ kt.lt) | replace kt := kt.below hbn
      try first | replace h1 := h1.of_eq (hbn.block _ h1.lt) | replace h1 := h1.below hbn
      try first | replace r1 := r1.of_eq (hbn.block _ r1.lt) | replace r1 := r1.below hbn
      try first | replace k1 := k1.of_eq (hbn.block _ k1.lt) | replace k1 := k1.below hbn
      try first | replace v1 := v1.of_eq (hbn.block _ v1.lt) | replace v1 := v1.below hbn
      go_wp2_with (first | (refine wpList_storeW wt8 rfl _ _ rfl _ rfl _ rfl v1 ?_; clear v1; intro wn ht hcn hzn; have hsz := B.size; replace hzn := Nat.le_of_eq hzn.symm; replace B := Chg.below B hcn (by omega) B.size; (try replace kt := kt.of_eq (hcn.block _ kt.lt (by omega))); (try replace h1 := h1.of_eq (hcn.block _ h1.lt (by omega))); (try replace r1 := r1.of_eq (hcn.block _ r1.lt (by omega))); (try replace k1 := k1.of_eq (hcn.block _ k1.lt (by omega))); have v1 := ht; clear ht; simp only [Act.put, putS]) | (refine wpList_buildW8 rfl _ _ _ _ _ _ _ _ rfl _ _ _ _ _ _ _ _ rfl rfl rfl rfl rfl rfl rfl rfl ?_; simp only [Act.put, putS]) | (refine wpList_loadAny (t := 106) rfl _ rfl _ _ _ rfl (run_load_word v1 (show 0 < 8 by omega)) (by rfl) ?_; simp only [Act.put, putS]) | (refine wpList_loadAny (t := 106) rfl _ rfl _ _ _ rfl (run_load_word v1 (show 1 < 8 by omega)) (by rfl) ?_; simp only [Act.put, putS]) | (refine wpList_loadAny (t := 106) rfl _ rfl _ _ _ rfl (run_load_word v1 (show 2 < 8 by omega)) (by rfl) ?_; simp only [Act.put, putS]) | (refine wpList_loadAny (t := 106) rfl _ rfl _ _ _ rfl (run_load_word v1 (show 3 < 8 by omega)) (by rfl) ?_; simp only [Act.put, putS]) | (refine wpList_loadAny (t := 106) rfl _ rfl _ _ _ rfl (run_load_word v1 (show 4 < 8 by omega)) (by rfl) ?_; simp only [Act.put, putS]) | (refine wpList_loadAny (t := 106) rfl _ rfl _ _ _ rfl (run_load_word v1 (show 5 < 8 by omega)) (by rfl) ?_; simp only [Act.put, putS]) | (refine wpList_loadAny (t := 106) rfl _ rfl _ _ _ rfl (run_load_word v1 (show 6 < 8 by omega)) (by rfl) ?_; simp only [Act.put, putS]) | (refine wpList_loadAny (t := 106) rfl _ rfl _ _ _ rfl (run_load_word v1 (show 7 < 8 by omega)) (by rfl) ?_; simp only [Act.put, putS]))
      rw [rnd_step, ← rounds_next] at v1
      go_roundw
      case rel => exact ⟨k + 1, by omega, by go_num, B, kt, h1, r1, k1, v1⟩
      case measure => simp [intOf]; omega
    · obtain rfl : k = 64 := by omega
      simp only [show ((64 : Nat) : Int) = 64 from rfl]
      go_wp2
      go_loopw [14, 102] (fun _ i wr => ∃ k : Nat, k ≤ 8 ∧ i = .int .i64 k ∧ Below w.heap.size w wr ∧ WAt 109 8 wr b_h1 h.at ∧ WAt 109 8 wr b_r1 (fun _ => 0) ∧ WAt 109 8 wr b_v1 (stepW (rounds kW (wrd (msg (bytes s))) h 64).at (comp h (bytes s)).at k)) (fun _ i _ => (8 - intOf i).toNat)
      case atStart => exact ⟨0, by omega, rfl, B, h1, r1, by rw [stepW_zero]; exact v1⟩
      case round =>
        clear B kt h1 r1 k1 v1
        obtain ⟨k, hk, rfl, B, h1, r1, v1⟩ := hrel
        by_cases hlt : k < 8
        · go_wp2
          refine wp_region_ov_tail 8 (by kernel_rfl) (by kernel_rfl) ?_
          simp only [List.take_succ_cons, List.take_zero, List.drop_succ_cons, List.drop_zero]
          repeat (first | go_big_quiet_skip | (go_big_quiet_want; first | (refine quiet_loadAny (t := 106) rfl _ _ _ rfl (fun w hw => run_load_word (ov_w h1 w hw) (hlt)) (by first | rfl | omega) ?_; simp only [Act.put, putS]; go_big_quiet_on) | (refine quiet_loadAny (t := 106) rfl _ _ _ rfl (fun w hw => run_load_word (ov_w v1 w hw) (hlt)) (by first | rfl | omega) ?_; simp only [Act.put, putS]; go_big_quiet_on) | (go_big_quiet_op; first | go_big_quiet_on | go_big_quiet_call ((fail)))))
          refine wpQuiet_nil ?_
          intro wn hbn
          have hsz := B.size
          have hzn := hbn.size
          replace B := B.trans (hbn.mono B.size)
          try first | replace kt := kt.of_eq (hbn.block _ kt.lt) | replace kt := kt.below hbn
          try first | replace h1 := h1.of_eq (hbn.block _ h1.lt) | replace h1 := h1.below hbn
          try first | replace r1 := r1.of_eq (hbn.block _ r1.lt) | replace r1 := r1.below hbn
          try first | replace k1 := k1.of_eq (hbn.block _ k1.lt) | replace k1 := k1.below hbn
          try first | replace v1 := v1.of_eq (hbn.block _ v1.lt) | replace v1 := v1.below hbn
          go_wp2_with (first | (refine wpList_storeWord rfl _ _ rfl _ _ rfl (_) rfl v1 (k) (by omega) (by first | rfl | omega) ?_; clear v1; intro wn ht hcn hzn; have hsz := B.size; replace hzn := Nat.le_of_eq hzn.symm; replace B := Chg.below B hcn (by omega) B.size; (try replace kt := kt.of_eq (hcn.block _ kt.lt (by omega))); (try replace h1 := h1.of_eq (hcn.block _ h1.lt (by omega))); (try replace r1 := r1.of_eq (hcn.block _ r1.lt (by omega))); (try replace k1 := k1.of_eq (hcn.block _ k1.lt (by omega))); have v1 := ht; clear ht; simp only [Act.put, putS]))
          rw [stepW_at, ← comp_at, stepW_next] at v1
          go_roundw
          case rel => exact ⟨k + 1, by omega, by go_num, B, h1, r1, v1⟩
          case measure => simp [intOf]; omega
        · obtain rfl : k = 8 := by omega
          replace v1 := v1.congr (wC_congr (stepW_all _ _ 8))
          go_wp2_with (first | (refine wpList_storeW wt8 rfl _ _ rfl _ rfl _ rfl r1 ?_; clear r1; intro wn ht hcn hzn; have hsz := B.size; replace hzn := Nat.le_of_eq hzn.symm; replace B := Chg.below B hcn (by omega) B.size; (try replace kt := kt.of_eq (hcn.block _ kt.lt (by omega))); (try replace h1 := h1.of_eq (hcn.block _ h1.lt (by omega))); (try replace k1 := k1.of_eq (hcn.block _ k1.lt (by omega))); (try replace v1 := v1.of_eq (hcn.block _ v1.lt (by omega))); have r1 := ht; clear ht; simp only [Act.put, putS]) | (refine wpList_loadAny (t := 109) rfl _ rfl _ _ _ rfl (run_load_w wt8 v1) (by rfl) ?_; simp only [Act.put, putS]))
          refine bodyPost_ret (results_w wt8 rfl _ _ (b_r1) rfl r1) rfl ?_
          exact ⟨rfl, B⟩
end Go.Proofs.YtppccnjckiedlaaGreatDoor
/- Contract: compress of the reference. -/
namespace Go.Proofs.YtppccnjckiedlaaGreatDoor
open Go.RowKit Sha
set_option linter.unusedVariables false
set_option linter.unusedSimpArgs false

set_option maxHeartbeats 4000000 in
set_option maxRecDepth 20000 in
theorem R_compress (h : St) (s : ByteArray) (w : World) (hs : s.size = 64) : Calls Tryz.prog 90 #[Wd.v 8 h.at, .string s, Wd.v 64 kW] w fun e w' => e = .returned (Wd.v 8 (comp h (bytes s)).at) ∧ Below w.heap.size w w' := by
  have B := Below.refl w.heap.size w
  go_enter Tryz.func90, Tryz.ntmps90
  go_wp2_with (first | (have _ := r1; refine wpList_allocW64 rfl rfl ?_; intro b_w1 wn hle hge ht hbn hzn; have hsz := B.size; replace B := B.trans (hbn.mono (by omega)); have hln := Nat.lt_of_lt_of_eq (Nat.lt_succ_self _) hzn.symm; clear hzn; (try first | (have hlt := h1.lt; replace h1 := h1.of_eq (hbn.block _ (by omega))) | replace h1 := h1.below (hbn.mono hle)); (try first | (have hlt := k1.lt; replace k1 := k1.of_eq (hbn.block _ (by omega))) | replace k1 := k1.below (hbn.mono hle)); (try first | (have hlt := r1.lt; replace r1 := r1.of_eq (hbn.block _ (by omega))) | replace r1 := r1.below (hbn.mono hle)); (try first | (have hlt := w1.lt; replace w1 := w1.of_eq (hbn.block _ (by omega))) | replace w1 := w1.below (hbn.mono hle)); (try first | (have hlt := v1.lt; replace v1 := v1.of_eq (hbn.block _ (by omega))) | replace v1 := v1.below (hbn.mono hle)); have w1 := ht; clear ht; simp only [Act.put, putS]) | (have _ := k1; refine wpList_allocW8 rfl rfl ?_; intro b_r1 wn hle hge ht hbn hzn; have hsz := B.size; replace B := B.trans (hbn.mono (by omega)); have hln := Nat.lt_of_lt_of_eq (Nat.lt_succ_self _) hzn.symm; clear hzn; (try first | (have hlt := h1.lt; replace h1 := h1.of_eq (hbn.block _ (by omega))) | replace h1 := h1.below (hbn.mono hle)); (try first | (have hlt := k1.lt; replace k1 := k1.of_eq (hbn.block _ (by omega))) | replace k1 := k1.below (hbn.mono hle)); (try first | (have hlt := r1.lt; replace r1 := r1.of_eq (hbn.block _ (by omega))) | replace r1 := r1.below (hbn.mono hle)); (try first | (have hlt := w1.lt; replace w1 := w1.of_eq (hbn.block _ (by omega))) | replace w1 := w1.below (hbn.mono hle)); (try first | (have hlt := v1.lt; replace v1 := v1.of_eq (hbn.block _ (by omega))) | replace v1 := v1.below (hbn.mono hle)); have r1 := ht; clear ht; simp only [Act.put, putS]) | (have _ := h1; refine wpList_boxW wt64 rfl _ rfl _ rfl ?_; intro b_k1 wn hle hge ht hbn hzn; have hsz := B.size; replace B := B.trans (hbn.mono (by omega)); have hln := Nat.lt_of_lt_of_eq (Nat.lt_succ_self _) hzn.symm; clear hzn; (try first | (have hlt := h1.lt; replace h1 := h1.of_eq (hbn.block _ (by omega))) | replace h1 := h1.below (hbn.mono hle)); (try first | (have hlt := k1.lt; replace k1 := k1.of_eq (hbn.block _ (by omega))) | replace k1 := k1.below (hbn.mono hle)); (try first | (have hlt := r1.lt; replace r1 := r1.of_eq (hbn.block _ (by omega))) | replace r1 := r1.below (hbn.mono hle)); (try first | (have hlt := w1.lt; replace w1 := w1.of_eq (hbn.block _ (by omega))) | replace w1 := w1.below (hbn.mono hle)); (try first | (have hlt := v1.lt; replace v1 := v1.of_eq (hbn.block _ (by omega))) | replace v1 := v1.below (hbn.mono hle)); have k1 := ht; clear ht; simp only [Act.put, putS]) | (refine wpList_boxW wt8 rfl _ rfl _ rfl ?_; intro b_h1 wn hle hge ht hbn hzn; have hsz := B.size; replace B := B.trans (hbn.mono (by omega)); have hln := Nat.lt_of_lt_of_eq (Nat.lt_succ_self _) hzn.symm; clear hzn; (try first | (have hlt := h1.lt; replace h1 := h1.of_eq (hbn.block _ (by omega))) | replace h1 := h1.below (hbn.mono hle)); (try first | (have hlt := k1.lt; replace k1 := k1.of_eq (hbn.block _ (by omega))) | replace k1 := k1.below (hbn.mono hle)); (try first | (have hlt := r1.lt; replace r1 := r1.of_eq (hbn.block _ (by omega))) | replace r1 := r1.below (hbn.mono hle)); (try first | (have hlt := w1.lt; replace w1 := w1.of_eq (hbn.block _ (by omega))) | replace w1 := w1.below (hbn.mono hle)); (try first | (have hlt := v1.lt; replace v1 := v1.of_eq (hbn.block _ (by omega))) | replace v1 := v1.below (hbn.mono hle)); have h1 := ht; clear ht; simp only [Act.put, putS]))
  go_loopw [8, 9, 10] (fun i _ _ wr => ∃ k : Nat, k ≤ 64 ∧ i = .int .i64 k ∧ Below w.heap.size w wr ∧ WAt 109 8 wr b_h1 h.at ∧ WAt 128 64 wr b_k1 kW ∧ WAt 109 8 wr b_r1 (fun _ => 0) ∧ WAt 128 64 wr b_w1 (fullW (msg (bytes s)) k)) (fun i _ _ _ => (64 - intOf i).toNat)
  case atStart => exact ⟨0, by omega, rfl, B, h1, k1, r1, by rw [fullW_lo _ (by omega), first_zero]; exact w1⟩
  case round =>
    clear B h1 k1 r1 w1
    obtain ⟨k, hk, rfl, B, h1, k1, r1, w1⟩ := hrel
    by_cases hlt : k < 64
    · by_cases h16 : k < 16
      · have d16 : decide ((k : Int) < 16) = true := decide_eq_true (by omega)
        rw [fullW_lo _ (by omega)] at w1
        go_wp2
        refine wp_region_ov_tail 31 (by kernel_rfl) (by kernel_rfl) ?_
        simp only [List.take_succ_cons, List.take_zero, List.drop_succ_cons, List.drop_zero]
        repeat (first | go_big_quiet_skip | (go_big_quiet_want; first | (refine quiet_indexS (t := 9) rfl (s) rfl _ rfl (4 * k) (by omega) (by omega) ?_; simp only [Act.put, putS]; go_big_quiet_on) | (refine quiet_indexS (t := 9) rfl (s) rfl _ rfl (4 * k + 1) (by omega) (by omega) ?_; simp only [Act.put, putS]; go_big_quiet_on) | (refine quiet_indexS (t := 9) rfl (s) rfl _ rfl (4 * k + 2) (by omega) (by omega) ?_; simp only [Act.put, putS]; go_big_quiet_on) | (refine quiet_indexS (t := 9) rfl (s) rfl _ rfl (4 * k + 3) (by omega) (by omega) ?_; simp only [Act.put, putS]; go_big_quiet_on) | (go_big_quiet_op; first | go_big_quiet_on | go_big_quiet_call ((fail)))))
        refine wpQuiet_nil ?_
        intro wn hbn
        have hsz := B.size
        have hzn := hbn.size
        replace B := B.trans (hbn.mono B.size)
        try first | replace h1 := h1.of_eq (hbn.block _ h1.lt) | replace h1 := h1.below hbn
        try first | replace k1 := k1.of_eq (hbn.block _ k1.lt) | replace k1 := k1.below hbn
        try first | replace r1 := r1.of_eq (hbn.block _ r1.lt) | replace r1 := r1.below hbn
        try first | replace w1 := w1.of_eq (hbn.block _ w1.lt) | replace w1 := w1.below hbn
        try first | replace v1 := v1.of_eq (hbn.block _ v1.lt) | replace v1 := v1.below hbn
        go_wp2_with (first | (refine wpList_storeWord rfl _ _ rfl _ _ rfl (_) rfl w1 (k) (by omega) (by first | rfl | omega) ?_; clear w1; intro wn ht hcn hzn; have hsz := B.size; replace hzn := Nat.le_of_eq hzn.symm; replace B := Chg.below B hcn (by omega) B.size; (try replace h1 := h1.of_eq (hcn.block _ h1.lt (by omega))); (try replace k1 := k1.of_eq (hcn.block _ k1.lt (by omega))); (try replace r1 := r1.of_eq (hcn.block _ r1.lt (by omega))); (try replace v1 := v1.of_eq (hcn.block _ v1.lt (by omega))); have w1 := ht; clear ht; simp only [Act.put, putS]))
        rw [be_add, ← msg_at, first_next, ← fullW_lo _ (by omega)] at w1
        go_roundw
        case rel => exact ⟨k + 1, by omega, by go_num, B, h1, k1, r1, w1⟩
        case measure => simp [intOf]; omega
      · have d16 : decide ((k : Int) < 16) = false := decide_eq_false (by omega)
        rw [fullW_hi _ (by omega)] at w1
        go_wp2
        refine wp_region_ov (by kernel_rfl) (by kernel_rfl) ?_
        repeat (first | go_big_quiet_skip | (go_big_quiet_want; first | (refine quiet_loadAny (t := 106) rfl _ _ _ rfl (fun w hw => run_load_word (ov_w w1 w hw) (show k - 15 < 64 by omega)) (by first | rfl | omega) ?_; simp only [Act.put, putS]; go_big_quiet_on) | (go_big_quiet_op; first | go_big_quiet_on | go_big_quiet_call ((first | (go_at_call 100; exact calls_ov_same (R_turn _ _ 7 (by decide) _)) | (go_at_call 100; exact calls_ov_same (R_turn _ _ 18 (by decide) _)))))))
        refine wpQuiet_nil ?_
        intro wn hbn
        have hsz := B.size
        have hzn := hbn.size
        replace B := B.trans (hbn.mono B.size)
        try first | replace h1 := h1.of_eq (hbn.block _ h1.lt) | replace h1 := h1.below hbn
        try first | replace k1 := k1.of_eq (hbn.block _ k1.lt) | replace k1 := k1.below hbn
        try first | replace r1 := r1.of_eq (hbn.block _ r1.lt) | replace r1 := r1.below hbn
        try first | replace w1 := w1.of_eq (hbn.block _ w1.lt) | replace w1 := w1.below hbn
        try first | replace v1 := v1.of_eq (hbn.block _ v1.lt) | replace v1 := v1.below hbn
        go_wp2
        refine wp_region_ov (by kernel_rfl) (by kernel_rfl) ?_
        repeat (first | go_big_quiet_skip | (go_big_quiet_want; first | (refine quiet_loadAny (t := 106) rfl _ _ _ rfl (fun w hw => run_load_word (ov_w w1 w hw) (show k - 2 < 64 by omega)) (by first | rfl | omega) ?_; simp only [Act.put, putS]; go_big_quiet_on) | (go_big_quiet_op; first | go_big_quiet_on | go_big_quiet_call ((first | (go_at_call 100; exact calls_ov_same (R_turn _ _ 17 (by decide) _)) | (go_at_call 100; exact calls_ov_same (R_turn _ _ 19 (by decide) _)))))))
        refine wpQuiet_nil ?_
        intro wn hbn
        have hsz := B.size
        have hzn := hbn.size
        replace B := B.trans (hbn.mono B.size)
        try first | replace h1 := h1.of_eq (hbn.block _ h1.lt) | replace h1 := h1.below hbn
        try first | replace k1 := k1.of_eq (hbn.block _ k1.lt) | replace k1 := k1.below hbn
        try first | replace r1 := r1.of_eq (hbn.block _ r1.lt) | replace r1 := r1.below hbn
        try first | replace w1 := w1.of_eq (hbn.block _ w1.lt) | replace w1 := w1.below hbn
        try first | replace v1 := v1.of_eq (hbn.block _ v1.lt) | replace v1 := v1.below hbn
        go_wp2
        refine wp_region_ov_tail 15 (by kernel_rfl) (by kernel_rfl) ?_
        simp only [List.take_succ_cons, List.take_zero, List.drop_succ_cons, List.drop_zero]
        repeat (first | go_big_quiet_skip | (go_big_quiet_want; first | (refine quiet_loadAny (t := 106) rfl _ _ _ rfl (fun w hw => run_load_word (ov_w w1 w hw) (show k - 16 < 64 by omega)) (by first | rfl | omega) ?_; simp only [Act.put, putS]; go_big_quiet_on) | (refine quiet_loadAny (t := 106) rfl _ _ _ rfl (fun w hw => run_load_word (ov_w w1 w hw) (show k - 7 < 64 by omega)) (by first | rfl | omega) ?_; simp only [Act.put, putS]; go_big_quiet_on) | (go_big_quiet_op; first | go_big_quiet_on | go_big_quiet_call ((fail)))))
        refine wpQuiet_nil ?_
        intro wn hbn
        have hsz := B.size
        have hzn := hbn.size
        replace B := B.trans (hbn.mono B.size)
        try first | replace h1 := h1.of_eq (hbn.block _ h1.lt) | replace h1 := h1.below hbn
        try first | replace k1 := k1.of_eq (hbn.block _ k1.lt) | replace k1 := k1.below hbn
        try first | replace r1 := r1.of_eq (hbn.block _ r1.lt) | replace r1 := r1.below hbn
        try first | replace w1 := w1.of_eq (hbn.block _ w1.lt) | replace w1 := w1.below hbn
        try first | replace v1 := v1.of_eq (hbn.block _ v1.lt) | replace v1 := v1.below hbn
        go_wp2_with (first | (refine wpList_storeWord rfl _ _ rfl _ _ rfl (_) rfl w1 (k) (by omega) (by first | rfl | omega) ?_; clear w1; intro wn ht hcn hzn; have hsz := B.size; replace hzn := Nat.le_of_eq hzn.symm; replace B := Chg.below B hcn (by omega) B.size; (try replace h1 := h1.of_eq (hcn.block _ h1.lt (by omega))); (try replace k1 := k1.of_eq (hcn.block _ k1.lt (by omega))); (try replace r1 := r1.of_eq (hcn.block _ r1.lt (by omega))); (try replace v1 := v1.of_eq (hcn.block _ v1.lt (by omega))); have w1 := ht; clear ht; simp only [Act.put, putS]))
        rw [← s0_def, ← s1_def] at w1
        go_roundw
        case rel =>
          obtain ⟨j, rfl⟩ : ∃ j, k = 16 + j := ⟨k - 16, by omega⟩
          rw [show 16 + j - 16 = j by omega, show 16 + j - 15 = j + 1 by omega, show 16 + j - 7 = j + 9 by omega, show 16 + j - 2 = j + 14 by omega, ← sch_next] at w1
          exact ⟨16 + j + 1, by omega, by go_num, B, h1, k1, r1, by rw [fullW_hi _ (by omega), show 16 + j + 1 - 16 = j + 1 by omega]; exact w1⟩
        case measure => simp [intOf]; omega
    · obtain rfl : k = 64 := by omega
      simp only [show ((64 : Nat) : Int) = 64 from rfl]
      rw [fullW_hi _ (by omega)] at w1
      replace w1 := w1.congr (show wC 64 (sch (msg (bytes s)) (64 - 16)) = wC 64 (wrd (msg (bytes s))) from rfl)
      go_wp2_with (first | (refine wpList_storeW wt8 rfl _ _ rfl _ rfl _ rfl v1 ?_; clear v1; intro wn ht hcn hzn; have hsz := B.size; replace hzn := Nat.le_of_eq hzn.symm; replace B := Chg.below B hcn (by omega) B.size; (try replace h1 := h1.of_eq (hcn.block _ h1.lt (by omega))); (try replace k1 := k1.of_eq (hcn.block _ k1.lt (by omega))); (try replace r1 := r1.of_eq (hcn.block _ r1.lt (by omega))); (try replace w1 := w1.of_eq (hcn.block _ w1.lt (by omega))); have v1 := ht; clear ht; simp only [Act.put, putS]) | (refine wpList_allocW8 rfl rfl ?_; intro b_v1 wn hle hge ht hbn hzn; have hsz := B.size; replace B := B.trans (hbn.mono (by omega)); have hln := Nat.lt_of_lt_of_eq (Nat.lt_succ_self _) hzn.symm; clear hzn; (try first | (have hlt := h1.lt; replace h1 := h1.of_eq (hbn.block _ (by omega))) | replace h1 := h1.below (hbn.mono hle)); (try first | (have hlt := k1.lt; replace k1 := k1.of_eq (hbn.block _ (by omega))) | replace k1 := k1.below (hbn.mono hle)); (try first | (have hlt := r1.lt; replace r1 := r1.of_eq (hbn.block _ (by omega))) | replace r1 := r1.below (hbn.mono hle)); (try first | (have hlt := w1.lt; replace w1 := w1.of_eq (hbn.block _ (by omega))) | replace w1 := w1.below (hbn.mono hle)); (try first | (have hlt := v1.lt; replace v1 := v1.of_eq (hbn.block _ (by omega))) | replace v1 := v1.below (hbn.mono hle)); have v1 := ht; clear ht; simp only [Act.put, putS]) | (refine wpList_loadAny (t := 109) rfl _ rfl _ _ _ rfl (run_load_w wt8 h1) (by rfl) ?_; simp only [Act.put, putS]))
      go_loopw [12, 13, 14, 15, 16, 17] (fun i _ _ _ _ _ wr => ∃ k : Nat, k ≤ 64 ∧ i = .int .i64 k ∧ Below w.heap.size w wr ∧ WAt 109 8 wr b_h1 h.at ∧ WAt 128 64 wr b_k1 kW ∧ WAt 109 8 wr b_r1 (fun _ => 0) ∧ WAt 128 64 wr b_w1 (wrd (msg (bytes s))) ∧ WAt 109 8 wr b_v1 (rounds kW (wrd (msg (bytes s))) h k).at) (fun i _ _ _ _ _ _ => (64 - intOf i).toNat)
      case atStart => exact ⟨0, by omega, rfl, B, h1, k1, r1, w1, by rw [rounds_zero]; exact v1⟩
      case round =>
        clear B h1 k1 r1 w1 v1
        obtain ⟨k, hk, rfl, B, h1, k1, r1, w1, v1⟩ := hrel
        by_cases hlt : k < 64
        · go_wp2
          refine wp_region_ov (by kernel_rfl) (by kernel_rfl) ?_
          repeat (first | go_big_quiet_skip | (go_big_quiet_want; first | (refine quiet_loadAny (t := 106) rfl _ _ _ rfl (fun w hw => run_load_word (ov_w v1 w hw) (show 0 < 8 by omega)) (by rfl) ?_; simp only [Act.put, putS]; go_big_quiet_on) | (refine quiet_loadAny (t := 106) rfl _ _ _ rfl (fun w hw => run_load_word (ov_w v1 w hw) (show 1 < 8 by omega)) (by rfl) ?_; simp only [Act.put, putS]; go_big_quiet_on) | (refine quiet_loadAny (t := 106) rfl _ _ _ rfl (fun w hw => run_load_word (ov_w v1 w hw) (show 2 < 8 by omega)) (by rfl) ?_; simp only [Act.put, putS]; go_big_quiet_on) | (refine quiet_loadAny (t := 106) rfl _ _ _ rfl (fun w hw => run_load_word (ov_w v1 w hw) (show 3 < 8 by omega)) (by rfl) ?_; simp only [Act.put, putS]; go_big_quiet_on) | (refine quiet_loadAny (t := 106) rfl _ _ _ rfl (fun w hw => run_load_word (ov_w v1 w hw) (show 4 < 8 by omega)) (by rfl) ?_; simp only [Act.put, putS]; go_big_quiet_on) | (refine quiet_loadAny (t := 106) rfl _ _ _ rfl (fun w hw => run_load_word (ov_w v1 w hw) (show 5 < 8 by omega)) (by rfl) ?_; simp only [Act.put, putS]; go_big_quiet_on) | (refine quiet_loadAny (t := 106) rfl _ _ _ rfl (fun w hw => run_load_word (ov_w v1 w hw) (show 6 < 8 by omega)) (by rfl) ?_; simp only [Act.put, putS]; go_big_quiet_on) | (refine quiet_loadAny (t := 106) rfl _ _ _ rfl (fun w hw => run_load_word (ov_w v1 w hw) (show 7 < 8 by omega)) (by rfl) ?_; simp only [Act.put, putS]; go_big_quiet_on) | (go_big_quiet_op; first | go_big_quiet_on | go_big_quiet_call ((first | (go_at_call 100; exact calls_ov_same (R_turn _ _ 6 (by decide) _)) | (go_at_call 100; exact calls_ov_same (R_turn _ _ 11 (by decide) _)) | (go_at_call 100; exact calls_ov_same (R_turn _ _ 25 (by decide) _)))))))
          refine wpQuiet_nil ?_
          intro wn hbn
          have hsz := B.size
          have hzn := hbn.size
          replace B := B.trans (hbn.mono B.size)
          try first | replace h1 := h1.of_eq (hbn.block _ h1.lt) | replace h1 := h1.below hbn
          try first | replace k1 := k1.of_eq (hbn.block _ k1.lt) | replace k1 := k1.below hbn
          try first | replace r1 := r1.of_eq (hbn.block _ r1.lt) | replace r1 := r1.below hbn
          try first | replace w1 := w1.of_eq (hbn.block _ w1.lt) | replace w1 := w1.below hbn
          try first | replace v1 := v1.of_eq (hbn.block _ v1.lt) | replace v1 := v1.below hbn
          go_wp2_with (first | (refine wpList_loadAny (t := 106) rfl _ rfl _ _ _ rfl (run_load_word v1 (show 0 < 8 by omega)) (by rfl) ?_; simp only [Act.put, putS]) | (refine wpList_loadAny (t := 106) rfl _ rfl _ _ _ rfl (run_load_word v1 (show 1 < 8 by omega)) (by rfl) ?_; simp only [Act.put, putS]) | (refine wpList_loadAny (t := 106) rfl _ rfl _ _ _ rfl (run_load_word v1 (show 2 < 8 by omega)) (by rfl) ?_; simp only [Act.put, putS]) | (refine wpList_loadAny (t := 106) rfl _ rfl _ _ _ rfl (run_load_word v1 (show 3 < 8 by omega)) (by rfl) ?_; simp only [Act.put, putS]) | (refine wpList_loadAny (t := 106) rfl _ rfl _ _ _ rfl (run_load_word v1 (show 4 < 8 by omega)) (by rfl) ?_; simp only [Act.put, putS]) | (refine wpList_loadAny (t := 106) rfl _ rfl _ _ _ rfl (run_load_word v1 (show 5 < 8 by omega)) (by rfl) ?_; simp only [Act.put, putS]) | (refine wpList_loadAny (t := 106) rfl _ rfl _ _ _ rfl (run_load_word v1 (show 6 < 8 by omega)) (by rfl) ?_; simp only [Act.put, putS]) | (refine wpList_loadAny (t := 106) rfl _ rfl _ _ _ rfl (run_load_word v1 (show 7 < 8 by omega)) (by rfl) ?_; simp only [Act.put, putS]))
          refine wp_region_ov (by kernel_rfl) (by kernel_rfl) ?_
          repeat (first | go_big_quiet_skip | (go_big_quiet_want; first | (refine quiet_loadAny (t := 106) rfl _ _ _ rfl (fun w hw => run_load_word (ov_w v1 w hw) (show 0 < 8 by omega)) (by rfl) ?_; simp only [Act.put, putS]; go_big_quiet_on) | (refine quiet_loadAny (t := 106) rfl _ _ _ rfl (fun w hw => run_load_word (ov_w v1 w hw) (show 1 < 8 by omega)) (by rfl) ?_; simp only [Act.put, putS]; go_big_quiet_on) | (refine quiet_loadAny (t := 106) rfl _ _ _ rfl (fun w hw => run_load_word (ov_w v1 w hw) (show 2 < 8 by omega)) (by rfl) ?_; simp only [Act.put, putS]; go_big_quiet_on) | (refine quiet_loadAny (t := 106) rfl _ _ _ rfl (fun w hw => run_load_word (ov_w v1 w hw) (show 3 < 8 by omega)) (by rfl) ?_; simp only [Act.put, putS]; go_big_quiet_on) | (refine quiet_loadAny (t := 106) rfl _ _ _ rfl (fun w hw => run_load_word (ov_w v1 w hw) (show 4 < 8 by omega)) (by rfl) ?_; simp only [Act.put, putS]; go_big_quiet_on) | (refine quiet_loadAny (t := 106) rfl _ _ _ rfl (fun w hw => run_load_word (ov_w v1 w hw) (show 5 < 8 by omega)) (by rfl) ?_; simp only [Act.put, putS]; go_big_quiet_on) | (refine quiet_loadAny (t := 106) rfl _ _ _ rfl (fun w hw => run_load_word (ov_w v1 w hw) (show 6 < 8 by omega)) (by rfl) ?_; simp only [Act.put, putS]; go_big_quiet_on) | (refine quiet_loadAny (t := 106) rfl _ _ _ rfl (fun w hw => run_load_word (ov_w v1 w hw) (show 7 < 8 by omega)) (by rfl) ?_; simp only [Act.put, putS]; go_big_quiet_on) | (refine quiet_loadAny (t := 106) rfl _ _ _ rfl (fun w hw => run_load_word (ov_w k1 w hw) (hlt)) (by first | rfl | omega) ?_; simp only [Act.put, putS]; go_big_quiet_on) | (refine quiet_loadAny (t := 106) rfl _ _ _ rfl (fun w hw => run_load_word (ov_w w1 w hw) (hlt)) (by first | rfl | omega) ?_; simp only [Act.put, putS]; go_big_quiet_on) | (go_big_quiet_op; first | go_big_quiet_on | go_big_quiet_call ((fail)))))
          refine wpQuiet_nil ?_
          intro wn hbn
          have hsz := B.size
          have hzn := hbn.size
          replace B := B.trans (hbn.mono B.size)
          try first | replace h1 := h1.of_eq (hbn.block _ h1.lt) | replace h1 := h1.below hbn
          try first | replace k1 := k1.of_eq (hbn.block _ k1.lt) | replace k1 := k1.below hbn
          try first | replace r1 := r1.of_eq (hbn.block _ r1.lt) | replace r1 := r1.below hbn
          try first | replace w1 := w1.of_eq (hbn.block _ w1.lt) | replace w1 := w1.below hbn
          try first | replace v1 := v1.of_eq (hbn.block _ v1.lt) | replace v1 := v1.below hbn
          go_wp2
          refine wp_region_ov (by kernel_rfl) (by kernel_rfl) ?_
          repeat (first | go_big_quiet_skip | (go_big_quiet_want; first | (refine quiet_loadAny (t := 106) rfl _ _ _ rfl (fun w hw => run_load_word (ov_w v1 w hw) (show 0 < 8 by omega)) (by rfl) ?_; simp only [Act.put, putS]; go_big_quiet_on) | (refine quiet_loadAny (t := 106) rfl _ _ _ rfl (fun w hw => run_load_word (ov_w v1 w hw) (show 1 < 8 by omega)) (by rfl) ?_; simp only [Act.put, putS]; go_big_quiet_on) | (refine quiet_loadAny (t := 106) rfl _ _ _ rfl (fun w hw => run_load_word (ov_w v1 w hw) (show 2 < 8 by omega)) (by rfl) ?_; simp only [Act.put, putS]; go_big_quiet_on) | (refine quiet_loadAny (t := 106) rfl _ _ _ rfl (fun w hw => run_load_word (ov_w v1 w hw) (show 3 < 8 by omega)) (by rfl) ?_; simp only [Act.put, putS]; go_big_quiet_on) | (refine quiet_loadAny (t := 106) rfl _ _ _ rfl (fun w hw => run_load_word (ov_w v1 w hw) (show 4 < 8 by omega)) (by rfl) ?_; simp only [Act.put, putS]; go_big_quiet_on) | (refine quiet_loadAny (t := 106) rfl _ _ _ rfl (fun w hw => run_load_word (ov_w v1 w hw) (show 5 < 8 by omega)) (by rfl) ?_; simp only [Act.put, putS]; go_big_quiet_on) | (refine quiet_loadAny (t := 106) rfl _ _ _ rfl (fun w hw => run_load_word (ov_w v1 w hw) (show 6 < 8 by omega)) (by rfl) ?_; simp only [Act.put, putS]; go_big_quiet_on) | (refine quiet_loadAny (t := 106) rfl _ _ _ rfl (fun w hw => run_load_word (ov_w v1 w hw) (show 7 < 8 by omega)) (by rfl) ?_; simp only [Act.put, putS]; go_big_quiet_on) | (go_big_quiet_op; first | go_big_quiet_on | go_big_quiet_call ((first | (go_at_call 100; exact calls_ov_same (R_turn _ _ 2 (by decide) _)) | (go_at_call 100; exact calls_ov_same (R_turn _ _ 13 (by decide) _)) | (go_at_call 100; exact calls_ov_same (R_turn _ _ 22 (by decide) _)))))))
          refine wpQuiet_nil ?_
          intro wn hbn
          have hsz := B.size
          have hzn := hbn.size
          replace B := B.trans (hbn.mono B.size)
          try first | replace h1 := h1.of_eq (hbn.block _ h1.lt) | replace h1 := h1.below hbn
          try first | replace k1 := k1.of_eq (hbn.block _ k1.lt) | replace k1 := k1.below hbn
          try first | replace r1 := r1.of_eq (hbn.block _ r1.lt) | replace r1 := r1.below hbn
          try first | replace w1 := w1.of_eq (hbn.block _ w1.lt) | replace w1 := w1.below hbn
          try first | replace v1 := v1.of_eq (hbn.block _ v1.lt) | replace v1 := v1.below hbn
          go_wp2_with (first | (refine wpList_storeW wt8 rfl _ _ rfl _ rfl _ rfl v1 ?_; clear v1; intro wn ht hcn hzn; have hsz := B.size; replace hzn := Nat.le_of_eq hzn.symm; replace B := Chg.below B hcn (by omega) B.size; (try replace h1 := h1.of_eq (hcn.block _ h1.lt (by omega))); (try replace k1 := k1.of_eq (hcn.block _ k1.lt (by omega))); (try replace r1 := r1.of_eq (hcn.block _ r1.lt (by omega))); (try replace w1 := w1.of_eq (hcn.block _ w1.lt (by omega))); have v1 := ht; clear ht; simp only [Act.put, putS]) | (refine wpList_buildW8 rfl _ _ _ _ _ _ _ _ rfl _ _ _ _ _ _ _ _ rfl rfl rfl rfl rfl rfl rfl rfl ?_; simp only [Act.put, putS]) | (refine wpList_loadAny (t := 106) rfl _ rfl _ _ _ rfl (run_load_word v1 (show 0 < 8 by omega)) (by rfl) ?_; simp only [Act.put, putS]) | (refine wpList_loadAny (t := 106) rfl _ rfl _ _ _ rfl (run_load_word v1 (show 1 < 8 by omega)) (by rfl) ?_; simp only [Act.put, putS]) | (refine wpList_loadAny (t := 106) rfl _ rfl _ _ _ rfl (run_load_word v1 (show 2 < 8 by omega)) (by rfl) ?_; simp only [Act.put, putS]) | (refine wpList_loadAny (t := 106) rfl _ rfl _ _ _ rfl (run_load_word v1 (show 3 < 8 by omega)) (by rfl) ?_; simp only [Act.put, putS]) | (refine wpList_loadAny (t := 106) rfl _ rfl _ _ _ rfl (run_load_word v1 (show 4 < 8 by omega)) (by rfl) ?_; simp only [Act.put, putS]) | (refine wpList_loadAny (t := 106) rfl _ rfl _ _ _ rfl (run_load_word v1 (show 5 < 8 by omega)) (by rfl) ?_; simp only [Act.put, putS]) | (refine wpList_loadAny (t := 106) rfl _ rfl _ _ _ rfl (run_load_word v1 (show 6 < 8 by omega)) (by rfl) ?_; simp only [Act.put, putS]) | (refine wpList_loadAny (t := 106) rfl _ rfl _ _ _ rfl (run_load_word v1 (show 7 < 8 by omega)) (by rfl) ?_; simp only [Act.put, putS]))
          rw [rnd_step', ← rounds_next] at v1
          go_roundw
          case rel => exact ⟨k + 1, by omega, by go_num, B, h1, k1, r1, w1, v1⟩
          case measure => simp [intOf]; omega
        · obtain rfl : k = 64 := by omega
          simp only [show ((64 : Nat) : Int) = 64 from rfl]
          go_wp2
          go_loopw [18] (fun i wr => ∃ k : Nat, k ≤ 8 ∧ i = .int .i64 k ∧ Below w.heap.size w wr ∧ WAt 109 8 wr b_v1 (rounds kW (wrd (msg (bytes s))) h 64).at ∧ WAt 109 8 wr b_r1 (fun _ => 0) ∧ WAt 109 8 wr b_h1 (stepW h.at (comp h (bytes s)).at k)) (fun i _ => (8 - intOf i).toNat)
          case atStart => exact ⟨0, by omega, rfl, B, v1, r1, by rw [stepW_zero]; exact h1⟩
          case round =>
            clear B h1 k1 r1 w1 v1
            obtain ⟨k, hk, rfl, B, v1, r1, h1⟩ := hrel
            by_cases hlt : k < 8
            · go_wp2
              refine wp_region_ov_tail 9 (by kernel_rfl) (by kernel_rfl) ?_
              simp only [List.take_succ_cons, List.take_zero, List.drop_succ_cons, List.drop_zero]
              repeat (first | go_big_quiet_skip | (go_big_quiet_want; first | (refine quiet_loadAny (t := 106) rfl _ _ _ rfl (fun w hw => run_load_word (ov_w h1 w hw) (hlt)) (by first | rfl | omega) ?_; simp only [Act.put, putS]; go_big_quiet_on) | (refine quiet_loadAny (t := 106) rfl _ _ _ rfl (fun w hw => run_load_word (ov_w v1 w hw) (hlt)) (by first | rfl | omega) ?_; simp only [Act.put, putS]; go_big_quiet_on) | (go_big_quiet_op; first | go_big_quiet_on | go_big_quiet_call ((fail)))))
              refine wpQuiet_nil ?_
              intro wn hbn
              have hsz := B.size
              have hzn := hbn.size
              replace B := B.trans (hbn.mono B.size)
              try first | replace h1 := h1.of_eq (hbn.block _ h1.lt) | replace h1 := h1.below hbn
              try first | replace k1 := k1.of_eq (hbn.block _ k1.lt) | replace k1 := k1.below hbn
              try first | replace r1 := r1.of_eq (hbn.block _ r1.lt) | replace r1 := r1.below hbn
              try first | replace w1 := w1.of_eq (hbn.block _ w1.lt) | replace w1 := w1.below hbn
              try first | replace v1 := v1.of_eq (hbn.block _ v1.lt) | replace v1 := v1.below hbn
              go_wp2_with (first | (refine wpList_storeWord rfl _ _ rfl _ _ rfl (_) rfl h1 (k) (by omega) (by first | rfl | omega) ?_; clear h1; intro wn ht hcn hzn; have hsz := B.size; replace hzn := Nat.le_of_eq hzn.symm; replace B := Chg.below B hcn (by omega) B.size; (try replace k1 := k1.of_eq (hcn.block _ k1.lt (by omega))); (try replace r1 := r1.of_eq (hcn.block _ r1.lt (by omega))); (try replace w1 := w1.of_eq (hcn.block _ w1.lt (by omega))); (try replace v1 := v1.of_eq (hcn.block _ v1.lt (by omega))); have h1 := ht; clear ht; simp only [Act.put, putS]))
              rw [stepW_at, BitVec.add_comm, ← comp_at, stepW_next] at h1
              go_roundw
              case rel => exact ⟨k + 1, by omega, by go_num, B, v1, r1, h1⟩
              case measure => simp [intOf]; omega
            · obtain rfl : k = 8 := by omega
              replace h1 := h1.congr (wC_congr (stepW_all _ _ 8))
              go_wp2_with (first | (refine wpList_storeW wt8 rfl _ _ rfl _ rfl _ rfl r1 ?_; clear r1; intro wn ht hcn hzn; have hsz := B.size; replace hzn := Nat.le_of_eq hzn.symm; replace B := Chg.below B hcn (by omega) B.size; (try replace h1 := h1.of_eq (hcn.block _ h1.lt (by omega))); (try replace k1 := k1.of_eq (hcn.block _ k1.lt (by omega))); (try replace w1 := w1.of_eq (hcn.block _ w1.lt (by omega))); (try replace v1 := v1.of_eq (hcn.block _ v1.lt (by omega))); have r1 := ht; clear ht; simp only [Act.put, putS]) | (refine wpList_loadAny (t := 109) rfl _ rfl _ _ _ rfl (run_load_w wt8 h1) (by rfl) ?_; simp only [Act.put, putS]))
              refine bodyPost_ret (results_w wt8 rfl _ _ (b_r1) rfl r1) rfl ?_
              exact ⟨rfl, B⟩
end Go.Proofs.YtppccnjckiedlaaGreatDoor
/- Rows of bytes, numbers big endian: the contracts of octet.Put and of the reference's Big. -/
namespace Go.Proofs.YtppccnjckiedlaaGreatDoor
open Go.RowKit Sha
set_option linter.unusedVariables false
set_option linter.unusedSimpArgs false

/-- A string of the bytes l. -/
def ofL (l : List UInt8) : ByteArray := ⟨l.toArray⟩
theorem bytes_ofL (l : List UInt8) : bytes (ofL l) = l := rfl
theorem ofL_size (l : List UInt8) : (ofL l).size = l.length := by rw [← bytes_length, bytes_ofL]
theorem big_get (m : Nat) : ∀ (n k : Nat), k < m → (big n m)[k]? = some (UInt8.ofNat (n / 256 ^ (m - 1 - k))) := by
  induction m with
  | zero => intro n k h; omega
  | succ m ih =>
    intro n k h
    unfold big
    by_cases hk : k < m
    · rw [List.getElem?_append_left (by rw [big_length]; exact hk), ih _ _ hk, Nat.div_div_eq_div_mul, ← Nat.pow_succ', show (m - 1 - k).succ = m + 1 - 1 - k by omega]
    · obtain rfl : k = m := by omega
      rw [List.getElem?_append_right (by rw [big_length]; omega), big_length]
      simp
def bC (n : Nat) (f : Nat → UInt8) : Array Value := Array.ofFn (n := n) fun k => Y (f k.val)
def updB (f : Nat → UInt8) (i : Nat) (x : UInt8) : Nat → UInt8 := fun j => if j = i then x else f j
theorem size_bC (n : Nat) (f : Nat → UInt8) : (bC n f).size = n := by unfold bC; simp
theorem get_bC (n : Nat) (f : Nat → UInt8) (k : Nat) : (bC n f)[k]? = if k < n then some (Y (f k)) else none := by
  unfold bC
  rw [Array.getElem?_ofFn]
  split <;> rfl
theorem set_bC (n : Nat) (f : Nat → UInt8) (i : Nat) (x : UInt8) (hi : i < n) : (bC n f).setIfInBounds i (Y x) = bC n (updB f i x) := by
  apply Array.ext_getElem?
  intro k
  simp only [Array.getElem?_setIfInBounds, size_bC, get_bC, updB]
  by_cases h : i = k
  · subst h; simp [hi]
  · rw [if_neg h]
    simp only [if_neg (fun e : k = i => h e.symm)]
attribute [irreducible] bC
/-- The block b holds a row of n bytes. -/
def BAt (t n : Nat) (w : World) (b : Nat) (f : Nat → UInt8) : Prop := w.heap[b]? = some (.cells (bC n f) t (0, 0))
section
variable {t n : Nat} {w : World} {b : Nat} {f : Nat → UInt8}
theorem BAt.of_eq {w' : World} (h : BAt t n w b f) (e : w'.heap[b]? = w.heap[b]?) : BAt t n w' b f := e.trans h
theorem BAt.lt (h : BAt t n w b f) : b < w.heap.size := (Array.getElem?_eq_some_iff.1 h).1
theorem BAt.cell (h : BAt t n w b f) {i : Nat} (hi : i < n) : w.cell? ⟨b, i, none⟩ = some (Y (f i)) := ((cells_of_block h).1 i).trans (by rw [get_bC, if_pos hi])
theorem BAt.frozen (h : BAt t n w b f) (j : Nat) : w.frozen? ⟨b, j, none⟩ = false := (cells_of_block h).2 j
theorem BAt.set (h : BAt t n w b f) {i : Nat} (hi : i < n) (x : UInt8) : BAt t n (w.setCell ⟨b, i, none⟩ (Y x)) b (updB f i x) := by
  unfold BAt
  rw [← set_bC n f i x hi]
  exact heap_setCell_same _ _ _ _ _ _ h
/-- A window of it as a string. -/
theorem run_conv_bytes (h : BAt t n w b f) (l : List UInt8) (o cap : Nat) (ho : o + l.length ≤ n) (hl : ∀ i, i < l.length → l[i]? = some (f (o + i))) :
    (convert 71 9 (.slice (some ⟨b, o, none⟩) l.length cap)).run Tryz.prog w = .ok (.string (ofL l)) w := by
  have hb : Lib.Bytes w b o (ofL l) := fun i hi => by
    rw [ofL_size] at hi
    rw [h.cell (by omega)]
    have e := hl i hi
    have e2 : (ofL l)[i]'(by rw [ofL_size]; exact hi) = f (o + i) := by
      have := byteAt_get (ofL l) i (by rw [ofL_size]; exact hi)
      rw [this]
      unfold byteAt
      rw [bytes_ofL, List.getD_eq_getElem?_getD, e]
      rfl
    rw [e2]
    rfl
  have := Lib.run_convert_whole (P := Tryz.prog) w 71 5 9 Tryz.underlying71 Tryz.underlying5 Tryz.underlying9 b o (ofL l) hb cap
  rw [ofL_size] at this
  exact this
end
theorem run_alloc_b8 (w : World) (o : Oper) (ho : o.op = .alloc 69) (ev : Operand → Value) : (execOp ev o).run Tryz.prog w = .ok (.value (.pointer (some ⟨w.heap.size, 0, none⟩))) (w.alloc (.cells (bC 8 fun _ => 0) 69)) := by
  obtain ⟨d, p, t, ps, af, gd⟩ := o
  simp only at ho
  subst ho
  kernel_rfl
theorem run_make_b4 (w : World) (o : Oper) (x : Operand) (ho : o.op = .makeSlice 71 x x) (ev : Operand → Value) (hx : ev x = .int .i64 4) : (execOp ev o).run Tryz.prog w = .ok (.value (.slice (some ⟨w.heap.size, 0, none⟩) 4 4)) (w.alloc (.cells (bC 4 fun _ => 0) 5)) := by
  obtain ⟨d, p, t, ps, af, gd⟩ := o
  simp only at ho
  subst ho
  unfold execOp
  simp only [hx]
  kernel_rfl
theorem run_make_b8 (w : World) (o : Oper) (x : Operand) (ho : o.op = .makeSlice 71 x x) (ev : Operand → Value) (hx : ev x = .int .i64 8) : (execOp ev o).run Tryz.prog w = .ok (.value (.slice (some ⟨w.heap.size, 0, none⟩) 8 8)) (w.alloc (.cells (bC 8 fun _ => 0) 5)) := by
  obtain ⟨d, p, t, ps, af, gd⟩ := o
  simp only at ho
  subst ho
  unfold execOp
  simp only [hx]
  kernel_rfl
section
variable {ops : Array Oper} {rest : List Oper} {o : Oper} {a : Act} {w : World} {Q : Exit → Act → World → Prop}
theorem wpList_allocB8 (hg : o.guard = none) (ho : o.op = .alloc 69)
    (h : ∀ b w', w.heap.size ≤ b → b ≤ w.heap.size → BAt 69 8 w' b (fun _ => 0) → Below b w w' → w'.heap.size = b + 1 → wpList Tryz.prog ops Q rest (a.put o.dst (.pointer (some ⟨b, 0, none⟩))) w') : wpList Tryz.prog ops Q (o :: rest) a w :=
  wpList_plain hg fun K hK => by
    unfold Oper.wp
    rw [run_alloc_b8 w o ho]
    exact hK _ _ (h _ _ (Nat.le_refl _) (Nat.le_refl _) (by unfold BAt; rw [heap_get_alloc, if_pos rfl]) ((Below.refl _ _).alloc (Nat.le_refl _) _) (World.size_alloc _ _))
theorem wpList_makeB4 (hg : o.guard = none) (x : Operand) (ho : o.op = .makeSlice 71 x x) (hx : a.eval x = .int .i64 4)
    (h : ∀ b w', w.heap.size ≤ b → b ≤ w.heap.size → BAt 5 4 w' b (fun _ => 0) → Below b w w' → w'.heap.size = b + 1 → wpList Tryz.prog ops Q rest (a.put o.dst (.slice (some ⟨b, 0, none⟩) 4 4)) w') : wpList Tryz.prog ops Q (o :: rest) a w :=
  wpList_plain hg fun K hK => by
    unfold Oper.wp
    rw [run_make_b4 w o x ho _ hx]
    exact hK _ _ (h _ _ (Nat.le_refl _) (Nat.le_refl _) (by unfold BAt; rw [heap_get_alloc, if_pos rfl]) ((Below.refl _ _).alloc (Nat.le_refl _) _) (World.size_alloc _ _))
theorem wpList_makeB8 (hg : o.guard = none) (x : Operand) (ho : o.op = .makeSlice 71 x x) (hx : a.eval x = .int .i64 8)
    (h : ∀ b w', w.heap.size ≤ b → b ≤ w.heap.size → BAt 5 8 w' b (fun _ => 0) → Below b w w' → w'.heap.size = b + 1 → wpList Tryz.prog ops Q rest (a.put o.dst (.slice (some ⟨b, 0, none⟩) 8 8)) w') : wpList Tryz.prog ops Q (o :: rest) a w :=
  wpList_plain hg fun K hK => by
    unfold Oper.wp
    rw [run_make_b8 w o x ho _ hx]
    exact hK _ _ (h _ _ (Nat.le_refl _) (Nat.le_refl _) (by unfold BAt; rw [heap_get_alloc, if_pos rfl]) ((Below.refl _ _).alloc (Nat.le_refl _) _) (World.size_alloc _ _))
theorem wpList_storeByte {t n : Nat} (hg : o.guard = none) (x y : Operand) (ho : o.op = .store 5 x y) (b j : Nat) (hx : a.eval x = .pointer (some ⟨b, j, none⟩)) (z : Int) (hy : a.eval y = .int .u8 z) (v : UInt8) (hv : z = (v.toNat : Int)) {f : Nat → UInt8} (ht : BAt t n w b f) (i : Nat) (hi : i < n) (hj : j = i)
    (h : ∀ w', BAt t n w' b (updB f i v) → Chg b w w' → w'.heap.size = w.heap.size → wpList Tryz.prog ops Q rest (a.put o.dst undef) w') : wpList Tryz.prog ops Q (o :: rest) a w := by
  subst hj
  refine wpList_storeAny hg x y ho _ ?_ (h _ (ht.set hi v) ((Chg.refl b w).setCell _) (by simp only [World.size_setCell]))
  rw [hx, hy, hv]
  have c0 := ht.cell hi
  have f0 := ht.frozen j
  unfold Y at c0 ⊢
  simp [go_sem, c0, f0]
theorem wpList_convAny {s d : TypeId} {v u : Value} (hg : o.guard = none) (x : Operand) (ho : o.op = .convert s d x) (hx : a.eval x = u) (hr : (convert s d u).run Tryz.prog w = .ok v w)
    (h : wpList Tryz.prog ops Q rest (a.put o.dst v) w) : wpList Tryz.prog ops Q (o :: rest) a w :=
  wpList_plain hg fun K hK => by
    unfold Oper.wp execOp
    simp only [ho, hx, hr, Sem.run_bind, Sem.run_pure, Result.andThen_ok]
    exact hK _ _ h
end
theorem P_size4 (w : World) : Calls Tryz.prog 25 #[.int .i64 4] w fun e w' => e = .returned (.int .i64 4) ∧ w = w' := by
  go_enter Tryz.func25, Tryz.ntmps25
  go_wp2
  go_ret
  exact ⟨rfl, rfl⟩
theorem P_size8 (w : World) : Calls Tryz.prog 25 #[.int .i64 8] w fun e w' => e = .returned (.int .i64 8) ∧ w = w' := by
  go_enter Tryz.func25, Tryz.ntmps25
  go_wp2
  go_ret
  exact ⟨rfl, rfl⟩
end Go.Proofs.YtppccnjckiedlaaGreatDoor
/- Plain: the digest by whole blocks of the text, then the blocks of what is left and padded. -/
namespace Go.Proofs.YtppccnjckiedlaaGreatDoor
namespace Sha
set_option linter.unusedVariables false
set_option linter.unusedSimpArgs false

theorem blocks_next (s : St) (p : List UInt8) (n : Nat) : blocks s p (n + 1) = comp (blocks s p n) ((p.drop (64 * n)).take 64) := rfl
theorem blocks_congr {s : St} {p p' : List UInt8} : ∀ (n : Nat), (∀ i, i < n → (p.drop (64 * i)).take 64 = (p'.drop (64 * i)).take 64) → blocks s p n = blocks s p' n
  | 0, _ => rfl
  | n + 1, h => by
    rw [blocks_next, blocks_next, blocks_congr n (fun i hi => h i (by omega)), h n (by omega)]
theorem blocks_after {s : St} {p1 p2 : List UInt8} {q : Nat} (h : p1.length = 64 * q) : ∀ n, blocks s (p1 ++ p2) (q + n) = blocks (blocks s (p1 ++ p2) q) p2 n
  | 0 => rfl
  | n + 1 => by
    have e : (p1 ++ p2).drop (64 * (q + n)) = p2.drop (64 * n) := by
      rw [List.drop_append, h, show 64 * (q + n) - 64 * q = 64 * n by omega, List.drop_eq_nil_of_le (by omega), List.nil_append]
    show comp (blocks s (p1 ++ p2) (q + n)) (((p1 ++ p2).drop (64 * (q + n))).take 64) = _
    rw [blocks_after h n, e]
    rfl
theorem win_append {p1 p2 : List UInt8} {i q : Nat} (h : p1.length = 64 * q) (hi : i < q) : ((p1 ++ p2).drop (64 * i)).take 64 = (p1.drop (64 * i)).take 64 := by
  rw [List.drop_append, List.take_append, List.length_drop, h, show 64 - (64 * q - 64 * i) = 0 by omega]
  simp
def tailB (l : List UInt8) : List UInt8 := l.drop (64 * (l.length / 64)) ++ 128 :: (List.replicate (zeros l.length) 0 ++ big (8 * l.length) 8)
theorem tailB_length (l : List UInt8) : (tailB l).length = l.length % 64 + 9 + zeros l.length := by
  unfold tailB
  simp [big_length]
  omega
theorem tail_blocks (l : List UInt8) : (tailB l).length = 64 * ((tailB l).length / 64) := by
  rw [tailB_length]
  unfold zeros
  omega
theorem pad_eq (l : List UInt8) : pad l = l.take (64 * (l.length / 64)) ++ tailB l := by
  unfold pad tailB
  rw [← List.append_assoc, List.take_append_drop]
theorem ofB_eq (l : List UInt8) : ofB l = outB (blocks (blocks start l (l.length / 64)) (tailB l) ((tailB l).length / 64)) := by
  unfold ofB
  have hq : (l.take (64 * (l.length / 64))).length = 64 * (l.length / 64) := by rw [List.length_take]; omega
  have hl : (pad l).length / 64 = l.length / 64 + (tailB l).length / 64 := by
    rw [pad_eq, List.length_append, hq]
    have := tail_blocks l
    omega
  rw [hl, pad_eq, blocks_after hq]
  have e : blocks start (l.take (64 * (l.length / 64)) ++ tailB l) (l.length / 64) = blocks start l (l.length / 64) := by
    refine blocks_congr _ fun i hi => ?_
    rw [win_append hq hi]
    conv => rhs; rw [← List.take_append_drop (64 * (l.length / 64)) l]
    rw [win_append hq hi]
  rw [e]
/-- The first k words of the result. -/
def outK (s : St) : Nat → List UInt8
  | 0 => []
  | k + 1 => outK s k ++ big (s.at k).toNat 4
theorem outK_next (s : St) (k : Nat) : outK s (k + 1) = outK s k ++ big (s.at k).toNat 4 := rfl
theorem outK_all (s : St) : outK s 8 = outB s := by
  unfold outB
  simp only [outK, at0, at1, at2, at3, at4, at5, at6, at7, List.nil_append]
theorem outK_length (s : St) (k : Nat) : (outK s k).length = 4 * k := by
  induction k with
  | zero => rfl
  | succ k ih => rw [outK_next, List.length_append, ih, big_length]; omega
end Sha
open Sha
/- Strings told by the list of their bytes. -/
@[go_sem] theorem ofL_append (a b : List UInt8) : ofL a ++ ofL b = ofL (a ++ b) := by
  apply ByteArray.ext
  apply Array.toList_inj.1
  rw [ByteArray.data_append]
  simp [ofL]
@[go_sem] theorem ofL_append_mk (a : List UInt8) (b : Array UInt8) : ofL a ++ ByteArray.mk b = ofL (a ++ b.toList) := by
  apply ByteArray.ext
  apply Array.toList_inj.1
  rw [ByteArray.data_append]
  simp [ofL]
@[go_sem] theorem big_len (n k : Nat) : (big n k).length = k := big_length n k
@[go_sem] theorem ofL_size' (a : List UInt8) : (ofL a).size = a.length := ofL_size a
@[go_sem] theorem ofL_extract (l : List UInt8) (a b : Nat) : (ofL l).extract a b = ofL ((l.drop a).take (b - a)) := by
  apply ByteArray.ext
  apply Array.toList_inj.1
  rw [ByteArray.data_extract]
  simp [ofL, List.extract]
end Go.Proofs.YtppccnjckiedlaaGreatDoor
/- Contracts of Go's library, out of the kit's shelf, in this seat's own numbers: strings.Builder, strings.Repeat, strings.IndexByte. -/
namespace Go.Proofs.YtppccnjckiedlaaGreatDoor
open Go.Shelf
def ren : Go.Shelf.Ren := ⟨fun | 105 => 58 | 212 => 79 | 99 => 80 | 165 => 81 | 166 => 33 | 170 => 82 | 169 => 34 | 263 => 96 | 264 => 97 | 206 => 98 | 240 => 64 | 241 => 99 | 276 => 91 | 277 => 103 | n => n, fun | 9 => 9 | 3 => 3 | 4 => 4 | 20 => 20 | 0 => 0 | 46 => 112 | 109 => 123 | 5 => 5 | 72 => 81 | 76 => 84 | 51 => 106 | 146 => 142 | 53 => 70 | 148 => 144 | 70 => 79 | 37 => 71 | 75 => 83 | 127 => 114 | 164 => 135 | 80 => 86 | n => n, fun | n => n⟩
theorem lays105 : Go.Proofs.Lays.n105 Tryz.prog ren := {
  mixed := by kernel_rfl
  f99 := Tryz.func80.trans (congrArg some (by kernel_rfl))
  f105 := Tryz.func58.trans (congrArg some (by kernel_rfl))
  f165 := Tryz.func81.trans (congrArg some (by kernel_rfl))
  f166 := Tryz.func33.trans (congrArg some (by kernel_rfl))
  f169 := Tryz.func34.trans (congrArg some (by kernel_rfl))
  f170 := Tryz.func82.trans (congrArg some (by kernel_rfl))
  f206 := Tryz.func98.trans (congrArg some (by kernel_rfl))
  f212 := Tryz.func79.trans (congrArg some (by kernel_rfl))
  f240 := Tryz.func64.trans (congrArg some (by kernel_rfl))
  f241 := Tryz.func99.trans (congrArg some (by kernel_rfl))
  f263 := Tryz.func96.trans (congrArg some (by kernel_rfl))
  f264 := Tryz.func97.trans (congrArg some (by kernel_rfl))
  f276 := Tryz.func91.trans (congrArg some (by kernel_rfl))
  f277 := Tryz.func103.trans (congrArg some (by kernel_rfl))
  t0 := Tryz.underlying0
  a0 := Tryz.isAgg0
  z0 := Tryz.sizeOf0
  v0 := Tryz.zeroValue0
  t3 := Tryz.underlying3
  a3 := Tryz.isAgg3
  z3 := Tryz.sizeOf3
  v3 := Tryz.zeroValue3
  t4 := Tryz.underlying4
  a4 := Tryz.isAgg4
  z4 := Tryz.sizeOf4
  v4 := Tryz.zeroValue4
  t5 := Tryz.underlying5
  a5 := Tryz.isAgg5
  z5 := Tryz.sizeOf5
  v5 := Tryz.zeroValue5
  t9 := Tryz.underlying9
  a9 := Tryz.isAgg9
  z9 := Tryz.sizeOf9
  v9 := Tryz.zeroValue9
  t20 := Tryz.underlying20
  a20 := Tryz.isAgg20
  z20 := Tryz.sizeOf20
  v20 := Tryz.zeroValue20
  t37 := Tryz.underlying71
  a37 := Tryz.isAgg71
  z37 := Tryz.sizeOf71
  v37 := Tryz.zeroValue71
  t46 := Tryz.underlying112
  a46 := Tryz.isAgg112
  z46 := Tryz.sizeOf112
  v46 := Tryz.zeroValue112
  t51 := Tryz.underlying106
  a51 := Tryz.isAgg106
  z51 := Tryz.sizeOf106
  v51 := Tryz.zeroValue106
  t53 := Tryz.underlying70
  a53 := Tryz.isAgg70
  z53 := Tryz.sizeOf70
  v53 := Tryz.zeroValue70
  t70 := Tryz.underlying79
  a70 := Tryz.isAgg79
  z70 := Tryz.sizeOf79
  v70 := Tryz.zeroValue79
  t72 := Tryz.underlying81
  a72 := Tryz.isAgg81
  z72 := Tryz.sizeOf81
  v72 := Tryz.zeroValue81
  t75 := Tryz.underlying83
  a75 := Tryz.isAgg83
  z75 := Tryz.sizeOf83
  v75 := Tryz.zeroValue83
  t76 := Tryz.underlying84
  a76 := Tryz.isAgg84
  z76 := Tryz.sizeOf84
  v76 := Tryz.zeroValue84
  t109 := Tryz.underlying123
  a109 := Tryz.isAgg123
  z109 := Tryz.sizeOf123
  v109 := Tryz.zeroValue123
  t127 := Tryz.underlying114
  a127 := Tryz.isAgg114
  z127 := Tryz.sizeOf114
  v127 := Tryz.zeroValue114
  t146 := Tryz.underlying142
  a146 := Tryz.isAgg142
  z146 := Tryz.sizeOf142
  v146 := Tryz.zeroValue142
  t148 := Tryz.underlying144
  a148 := Tryz.isAgg144
  z148 := Tryz.sizeOf144
  v148 := Tryz.zeroValue144
  t164 := Tryz.underlying135
  a164 := Tryz.isAgg135
  z164 := Tryz.sizeOf135
  v164 := Tryz.zeroValue135 }
theorem lays166 : Go.Proofs.Lays.n166 Tryz.prog ren := {
  mixed := by kernel_rfl
  f166 := Tryz.func33.trans (congrArg some (by kernel_rfl))
  f240 := Tryz.func64.trans (congrArg some (by kernel_rfl))
  f276 := Tryz.func91.trans (congrArg some (by kernel_rfl))
  t0 := Tryz.underlying0
  a0 := Tryz.isAgg0
  z0 := Tryz.sizeOf0
  v0 := Tryz.zeroValue0
  t3 := Tryz.underlying3
  a3 := Tryz.isAgg3
  z3 := Tryz.sizeOf3
  v3 := Tryz.zeroValue3
  t4 := Tryz.underlying4
  a4 := Tryz.isAgg4
  z4 := Tryz.sizeOf4
  v4 := Tryz.zeroValue4
  t9 := Tryz.underlying9
  a9 := Tryz.isAgg9
  z9 := Tryz.sizeOf9
  v9 := Tryz.zeroValue9
  t20 := Tryz.underlying20
  a20 := Tryz.isAgg20
  z20 := Tryz.sizeOf20
  v20 := Tryz.zeroValue20
  t37 := Tryz.underlying71
  a37 := Tryz.isAgg71
  z37 := Tryz.sizeOf71
  v37 := Tryz.zeroValue71
  t70 := Tryz.underlying79
  a70 := Tryz.isAgg79
  z70 := Tryz.sizeOf79
  v70 := Tryz.zeroValue79
  t72 := Tryz.underlying81
  a72 := Tryz.isAgg81
  z72 := Tryz.sizeOf81
  v72 := Tryz.zeroValue81
  t75 := Tryz.underlying83
  a75 := Tryz.isAgg83
  z75 := Tryz.sizeOf83
  v75 := Tryz.zeroValue83
  t164 := Tryz.underlying135
  a164 := Tryz.isAgg135
  z164 := Tryz.sizeOf135
  v164 := Tryz.zeroValue135 }
theorem lays169 : Go.Proofs.Lays.n169 Tryz.prog ren := {
  mixed := by kernel_rfl
  f169 := Tryz.func34.trans (congrArg some (by kernel_rfl))
  t0 := Tryz.underlying0
  a0 := Tryz.isAgg0
  z0 := Tryz.sizeOf0
  v0 := Tryz.zeroValue0
  t3 := Tryz.underlying3
  a3 := Tryz.isAgg3
  z3 := Tryz.sizeOf3
  v3 := Tryz.zeroValue3
  t9 := Tryz.underlying9
  a9 := Tryz.isAgg9
  z9 := Tryz.sizeOf9
  v9 := Tryz.zeroValue9
  t37 := Tryz.underlying71
  a37 := Tryz.isAgg71
  z37 := Tryz.sizeOf71
  v37 := Tryz.zeroValue71
  t70 := Tryz.underlying79
  a70 := Tryz.isAgg79
  z70 := Tryz.sizeOf79
  v70 := Tryz.zeroValue79
  t72 := Tryz.underlying81
  a72 := Tryz.isAgg81
  z72 := Tryz.sizeOf81
  v72 := Tryz.zeroValue81
  t127 := Tryz.underlying114
  a127 := Tryz.isAgg114
  z127 := Tryz.sizeOf114
  v127 := Tryz.zeroValue114 }
theorem extra : Builder.Extra Tryz.prog ren := {
  sizeBuilder := by kernel_rfl
  liesBuilder := by kernel_rfl
  t5 := Tryz.underlying5
  a5 := Tryz.isAgg5
  z5 := Tryz.sizeOf5
  v5 := Tryz.zeroValue5
  infoByte := by kernel_rfl
  cellsByte := by kernel_rfl
  sizeByte := by kernel_rfl
  neB5 := by decide }
open Go.RowKit Go.Lib
theorem L_Repeat (s : ByteArray) (c : Nat) (w : World) (hc : c ≤ 9223372036854775807) (hlen : s.size * c ≤ 140737488355328) :
    Calls Tryz.prog 58 #[.string s, .int .i64 c] w fun e w' => e = .returned (.string ⟨(Lib.repeatL s.data.toList c).toArray⟩) ∧ Below w.heap.size w w' := Any.strings_Repeat lays105 extra s c w hc hlen
/-- A builder that holds the bytes l. -/
def HoldsB (B b : Nat) (l : List UInt8) (w : World) : Prop := Lib.IsBuilder 81 5 B b (Lib.byteCells l) w
theorem HoldsB.lt {B b : Nat} {l : List UInt8} {w : World} (h : HoldsB B b l w) : b < w.heap.size := h.elim (fun x => x.lt) (fun x => x.lt)
theorem HoldsB.below {B b : Nat} {l : List UInt8} {w w' : World} (h : HoldsB B b l w) (hb : Below w.heap.size w w') : HoldsB B b l w' := by
  have step : ∀ p, Lib.BuilderAt 81 5 B b p (Lib.byteCells l) w → Lib.BuilderAt 81 5 B b p (Lib.byteCells l) w' := fun p h => by
    have hlt := h.lt
    obtain ⟨hB, v, hv, hown, hne⟩ := h
    exact ⟨hB, v, (hb.block b hlt).trans hv, hown.kept (row := none) ⟨hb.os, hb.tape, hb.output, hb.size, fun k hk _ => hb.block k hk⟩ (Classical.em _), hne⟩
  exact h.elim (fun x => .inl (step _ x)) (fun x => .inr (step _ x))
theorem HoldsB.fresh (w : World) : HoldsB w.heap.size w.heap.size [] (w.alloc (.cells #[.pointer none, .slice none 0 0] 81)) := Lib.fresh_isBuilder _ _ w
theorem run_alloc_builder (w : World) (o : Oper) (ho : o.op = .alloc 81) (ev : Operand → Value) : (execOp ev o).run Tryz.prog w = .ok (.value (.pointer (some ⟨w.heap.size, 0, none⟩))) (w.alloc (.cells #[.pointer none, .slice none 0 0] 81)) := by
  obtain ⟨d, p, t, ps, af, gd⟩ := o
  simp only at ho
  subst ho
  kernel_rfl
theorem wpList_allocB {ops : Array Oper} {rest : List Oper} {o : Oper} {a : Act} {w : World} {Q : Exit → Act → World → Prop} (hg : o.guard = none) (ho : o.op = .alloc 81)
    (h : ∀ b w', w.heap.size ≤ b → b ≤ w.heap.size → HoldsB b b [] w' → Below b w w' → w'.heap.size = b + 1 → wpList Tryz.prog ops Q rest (a.put o.dst (.pointer (some ⟨b, 0, none⟩))) w') : wpList Tryz.prog ops Q (o :: rest) a w :=
  wpList_plain hg fun K hK => by
    unfold Oper.wp
    rw [run_alloc_builder w o ho]
    exact hK _ _ (h _ _ (Nat.le_refl _) (Nat.le_refl _) (HoldsB.fresh w) ((Below.refl _ _).alloc (Nat.le_refl _) _) (World.size_alloc _ _))
theorem bc_append (l k : List UInt8) : Lib.byteCells (l ++ k) = Lib.byteCells l ++ Lib.byteCells k := by simp [Lib.byteCells]
theorem L_WriteString (B b : Nat) (l : List UInt8) (s : ByteArray) (w : World) (h : HoldsB B b l w) (hlen : l.length + s.size ≤ 140737488355328) (hBw : B ≤ w.heap.size) :
    Calls Tryz.prog 33 #[.pointer (some ⟨b, 0, none⟩), .string s] w fun e w' => e = .returned (.tuple #[.int .i64 s.size, .nilIface]) ∧ HoldsB B b (l ++ bytes s) w' ∧ Below B w w' :=
  (Any.Builder_WriteString lays166 extra B b (Lib.byteCells l) s w h (by simpa [Lib.byteCells] using hlen) hBw).mono fun e w' ⟨h1, h2, h3⟩ => ⟨h1, Or.inr (by rw [bc_append]; exact h2), h3⟩
theorem L_String (B b : Nat) (l : List UInt8) (w : World) (h : HoldsB B b l w) (hBw : B ≤ w.heap.size) :
    Calls Tryz.prog 34 #[.pointer (some ⟨b, 0, none⟩)] w fun e w' => e = .returned (.string (ofL l)) ∧ Below B w w' := Any.Builder_String_any lays169 extra B b l w h hBw
end Go.Proofs.YtppccnjckiedlaaGreatDoor
/- Slices of bytes that the call itself has made and appends to. -/
namespace Go.Proofs.YtppccnjckiedlaaGreatDoor
open Go.RowKit Sha
set_option linter.unusedVariables false
set_option linter.unusedSimpArgs false

/-- v is a slice of the bytes l, in a row that the call owns (from block B on). -/
def OwnB (B : Nat) (v : Value) (l : List UInt8) (w : World) : Prop := w.ownsRow B 5 1 v l.length (Lib.byteCells l)
section
variable {B : Nat} {v : Value} {l : List UInt8} {w : World}
theorem OwnB.below {w' : World} (h : OwnB B v l w) (hb : Below w.heap.size w w') : OwnB B v l w' :=
  World.ownsRow.kept (row := none) h ⟨hb.os, hb.tape, hb.output, hb.size, fun k hk _ => hb.block k hk⟩ (Classical.em _)
theorem bC_cells (n : Nat) (l : List UInt8) (f : Nat → UInt8) (hn : n = l.length) (hf : ∀ i, i < n → l[i]? = some (f i)) : (bC n f).toList = Lib.byteCells l := by
  subst hn
  apply List.ext_getElem?
  intro i
  rw [Array.getElem?_toList, get_bC]
  unfold Lib.byteCells
  rw [List.getElem?_map]
  by_cases hi : i < l.length
  · rw [if_pos hi, hf i hi]; rfl
  · rw [if_neg hi, List.getElem?_eq_none (by omega)]; rfl
theorem OwnB.made {b n : Nat} {f : Nat → UInt8} (h : BAt 5 n w b f) (hb : B ≤ b) (hn : n = l.length) (hm : n ≤ maxLen) (hf : ∀ i, i < n → l[i]? = some (f i)) : OwnB B (.slice (some ⟨b, 0, none⟩) n n) l w := by
  have hc := bC_cells n l f hn hf
  refine ⟨by simp [Lib.byteCells], .inr ⟨b, n, bC n f, by rw [hn], hb, h, by omega, hm, by rw [size_bC]; omega, ?_⟩⟩
  rw [hc, Nat.mul_one]
  exact List.take_of_length_le (by simp [Lib.byteCells])
/-- As a string. -/
theorem OwnB.conv (h : OwnB B v l w) (hl : l ≠ []) : (convert 71 9 v).run Tryz.prog w = .ok (.string (ofL l)) w := by
  obtain ⟨h1, h2⟩ := h
  rcases h2 with ⟨rfl, h0⟩ | ⟨g, cap, cur, rfl, hb, hg, hn, hm, hs, ht⟩
  · exact absurd (List.eq_nil_of_length_eq_zero h0) hl
  · have hb : Lib.Bytes w g 0 (ofL l) := fun i hi => by
      rw [ofL_size] at hi
      have e : cur[i]? = some (.int .u8 (l[i].toNat : Int)) := by
        have := congrArg (fun x : List Value => x[i]?) ht
        simp only [Nat.mul_one, Lib.byteCells, List.getElem?_map, List.getElem?_eq_getElem hi, Option.map_some] at this
        rw [List.getElem?_take_of_lt hi, Array.getElem?_toList] at this
        exact this
      rw [Nat.zero_add, cell_of_row w g i cur _ (0, 0) hg, e]
      rfl
    have := Lib.run_convert_whole (P := Tryz.prog) w 71 5 9 Tryz.underlying71 Tryz.underlying5 Tryz.underlying9 g 0 (ofL l) hb cap
    rw [ofL_size] at this
    exact this
theorem OwnB.len (h : OwnB B v l w) : ∃ a c, v = .slice a l.length c := by
  obtain ⟨h1, h2⟩ := h
  rcases h2 with ⟨rfl, h0⟩ | ⟨g, cap, cur, rfl, _⟩
  · exact ⟨none, 0, by rw [h0]⟩
  · exact ⟨_, cap, rfl⟩
end
theorem run_bs0 (w : World) (o : Oper) (ho : o.op = .buildSlice 71 1 #[(0, .const (.int .u8 0))]) (ev : Operand → Value) (hev : ev (.const (.int .u8 0)) = .int .u8 0) : (execOp ev o).run Tryz.prog w = .ok (.value (.slice (some ⟨w.heap.size, 0, none⟩) 1 1)) (w.alloc (.cells (bC 1 fun _ => 0) 5)) := by
  obtain ⟨d, p, t, ps, af, gd⟩ := o
  simp only at ho
  subst ho
  unfold execOp
  simp only [List.map_toArray, List.map_cons, List.map_nil, hev]
  kernel_rfl
theorem run_bs128 (w : World) (o : Oper) (ho : o.op = .buildSlice 71 1 #[(0, .const (.int .u8 128))]) (ev : Operand → Value) (hev : ev (.const (.int .u8 128)) = .int .u8 128) : (execOp ev o).run Tryz.prog w = .ok (.value (.slice (some ⟨w.heap.size, 0, none⟩) 1 1)) (w.alloc (.cells (bC 1 fun _ => 128) 5)) := by
  obtain ⟨d, p, t, ps, af, gd⟩ := o
  simp only at ho
  subst ho
  unfold execOp
  simp only [List.map_toArray, List.map_cons, List.map_nil, hev]
  kernel_rfl
section
variable {ops : Array Oper} {rest : List Oper} {o : Oper} {a : Act} {w : World} {Q : Exit → Act → World → Prop}
theorem wpList_bs0 (hg : o.guard = none) (ho : o.op = .buildSlice 71 1 #[(0, .const (.int .u8 0))])
    (h : ∀ b w', w.heap.size ≤ b → b ≤ w.heap.size → BAt 5 1 w' b (fun _ => 0) → Below b w w' → w'.heap.size = b + 1 → wpList Tryz.prog ops Q rest (a.put o.dst (.slice (some ⟨b, 0, none⟩) 1 1)) w') : wpList Tryz.prog ops Q (o :: rest) a w :=
  wpList_plain hg fun K hK => by
    unfold Oper.wp
    rw [run_bs0 w o ho _ rfl]
    exact hK _ _ (h _ _ (Nat.le_refl _) (Nat.le_refl _) (by unfold BAt; rw [heap_get_alloc, if_pos rfl]) ((Below.refl _ _).alloc (Nat.le_refl _) _) (World.size_alloc _ _))
theorem wpList_bs128 (hg : o.guard = none) (ho : o.op = .buildSlice 71 1 #[(0, .const (.int .u8 128))])
    (h : ∀ b w', w.heap.size ≤ b → b ≤ w.heap.size → BAt 5 1 w' b (fun _ => 128) → Below b w w' → w'.heap.size = b + 1 → wpList Tryz.prog ops Q rest (a.put o.dst (.slice (some ⟨b, 0, none⟩) 1 1)) w') : wpList Tryz.prog ops Q (o :: rest) a w :=
  wpList_plain hg fun K hK => by
    unfold Oper.wp
    rw [run_bs128 w o ho _ rfl]
    exact hK _ _ (h _ _ (Nat.le_refl _) (Nat.le_refl _) (by unfold BAt; rw [heap_get_alloc, if_pos rfl]) ((Below.refl _ _).alloc (Nat.le_refl _) _) (World.size_alloc _ _))
/-- One byte appended. -/
theorem wpList_append1 (hg : o.guard = none) (s x : Operand) (ho : o.op = .call { callee := .builtin .append, args := #[s, x], argTypes := #[71, 71] }) (v : Value) (hs : a.eval s = v) (b c : Nat) (hx : a.eval x = .slice (some ⟨b, 0, none⟩) 1 c) {B : Nat} {l : List UInt8} {y : UInt8} {f : Nat → UInt8} (hown : OwnB B v l w) (hb : BAt 5 1 w b f) (hy : f 0 = y) (hlen : l.length + 1 ≤ 140737488355328) (hB : B ≤ w.heap.size)
    (h : ∀ v' w', OwnB B v' (l ++ [y]) w' → Below B w w' → wpList Tryz.prog ops Q rest (a.put o.dst v') w') : wpList Tryz.prog ops Q (o :: rest) a w := by
  obtain ⟨i, hi⟩ : ∃ i, Tryz.prog.info? 5 = some i := by
    cases h : Tryz.prog.info? 5 with
    | some i => exact ⟨i, rfl⟩
    | none =>
      have e : (Tryz.prog.info? 5).isSome = true := by kernel_rfl
      rw [h] at e; cases e
  have hz : i.zero = some (.int .u8 0) := by
    have e : (Tryz.prog.info? 5).bind (·.zero) = some (.int .u8 0) := by kernel_rfl
    rw [hi] at e; exact e
  have hs1 : i.size = 1 := by
    have e : (Tryz.prog.info? 5).map (·.size) = some 1 := by kernel_rfl
    rw [hi] at e; simpa using e
  have hb1 : i.bytes = 1 := by
    have e : (Tryz.prog.info? 5).map (·.bytes) = some 1 := by kernel_rfl
    rw [hi] at e; simpa using e
  refine wpList_append_own (P := Tryz.prog) w hg s x 71 ho B 5 i (.int .u8 0) 1 1 Tryz.underlying71 hi hz hs1 hb1 rfl (by omega) v l.length (Lib.byteCells l) hs hown ⟨b, 0, none⟩ 1 c [Y y] hx rfl ?_ ?_ (by unfold maxLen; omega) (by omega) hB ?_
  · intro j u hu
    cases j with
    | zero =>
      simp at hu
      subst hu
      have := hb.cell (i := 0) (by omega)
      rw [hy] at this
      simpa [Addr.add] using this
    | succ j => simp at hu
  · intro u hu
    simp at hu
    subst hu
    rfl
  · intro v' w' h1 h2 h3
    refine h v' w' ?_ ?_
    · unfold OwnB
      rw [bc_append, List.length_append]
      exact h1
    · have hlt := hown.lt
      exact ⟨h2.os, h2.tape, h2.output, h2.size, fun k hk => h2.block k (by omega) (fun e => by have := hlt k e.symm; omega)⟩
end
end Go.Proofs.YtppccnjckiedlaaGreatDoor
/- The contracts of octet.Put and of the reference's Big. -/
namespace Go.Proofs.YtppccnjckiedlaaGreatDoor
open Go.RowKit Sha
set_option linter.unusedVariables false
set_option linter.unusedSimpArgs false

/-- The bytes from the k-th on (of m) are those of n. -/
def fromB (n m k : Nat) : Nat → UInt8 := fun j => if k ≤ j then UInt8.ofNat (n / 256 ^ (m - 1 - j)) else 0
theorem fromB_prev (n m k : Nat) : updB (fromB n m (k + 1)) k (UInt8.ofNat (n / 256 ^ (m - 1 - k))) = fromB n m k := by
  funext j
  unfold updB fromB
  by_cases h : j = k
  · subst h; simp
  · rw [if_neg h]
    by_cases h2 : k ≤ j
    · rw [if_pos h2, if_pos (by omega)]
    · rw [if_neg h2, if_neg (by omega)]
theorem fromB_none (n m k : Nat) (h : m ≤ k) (f : Nat → UInt8) (hf : ∀ j, j < m → f j = 0) : bC m f = bC m (fromB n m k) := by
  apply Array.ext_getElem?
  intro j
  rw [get_bC, get_bC]
  split
  · rw [hf j (by omega)]; unfold fromB; rw [if_neg (by omega)]
  · rfl
theorem BAt.congr {t n : Nat} {w : World} {b : Nat} {f g : Nat → UInt8} (h : BAt t n w b f) (e : bC n f = bC n g) : BAt t n w b g := by unfold BAt at h ⊢; rw [← e]; exact h

set_option maxHeartbeats 1000000 in
set_option maxRecDepth 20000 in
theorem R_Big4 (n : Nat) (hn : n < 18446744073709551616) (w : World) : Calls Tryz.prog 30 #[.int .u64 (n : Int), .int .i64 4] w fun e w' => e = .returned (.string (ofL (big n 4))) ∧ Below w.heap.size w w' := by
  have B := Below.refl w.heap.size w
  go_enter Tryz.func30, Tryz.ntmps30
  go_wp2_with (first | (refine wpList_makeB4 rfl _ rfl rfl ?_; intro b_b1 wn hle hge ht hbn hzn; have hsz := B.size; replace B := B.trans (hbn.mono (by omega)); have hln := Nat.lt_of_lt_of_eq (Nat.lt_succ_self _) hzn.symm; clear hzn; (try first | (have hlt := b1.lt; replace b1 := b1.of_eq (hbn.block _ (by omega))) | replace b1 := b1.below (hbn.mono hle)); have b1 := ht; clear ht; simp only [Act.put, putS]))
  go_loopw [0, 6] (fun v i wr => ∃ k : Nat, k ≤ 4 ∧ i = .int .i64 (k - 1) ∧ v = .int .u64 ((n / 256 ^ (4 - k) : Nat) : Int) ∧ Below w.heap.size w wr ∧ BAt 5 4 wr b_b1 (fromB n 4 k)) (fun _ i _ => (intOf i + 1).toNat)
  case atStart => exact ⟨4, by omega, rfl, by simp, B, b1.congr (fromB_none _ _ _ (by omega) _ (fun _ _ => rfl))⟩
  case round =>
    clear B b1
    obtain ⟨k, hk, rfl, rfl, B, b1⟩ := hrel
    have hq : n / 256 ^ (4 - k) < 18446744073709551616 := Nat.lt_of_le_of_lt (Nat.div_le_self _ _) hn
    by_cases hlt : 0 < k
    · obtain ⟨j, rfl⟩ : ∃ j, k = j + 1 := ⟨k - 1, by omega⟩
      have e1 : 4 - (j + 1) = 4 - 1 - j := by omega
      have e2 : n / 256 ^ (4 - 1 - j) / 256 = n / 256 ^ (4 - j) := by rw [Nat.div_div_eq_div_mul, ← Nat.pow_succ, show (4 - 1 - j).succ = 4 - j by omega]
      rw [e1] at hq ⊢
      generalize hqq : n / 256 ^ (4 - 1 - j) = q at *
      go_wp2_with (first | (refine wpList_storeByte rfl _ _ rfl _ _ rfl _ rfl (UInt8.ofNat q) (by simp) b1 (j) (by omega) (by first | rfl | omega) ?_; clear b1; intro wn ht hcn hzn; have hsz := B.size; replace hzn := Nat.le_of_eq hzn.symm; replace B := Chg.below B hcn (by omega) B.size; have b1 := ht; clear ht; simp only [Act.put, putS]))
      rw [← hqq, fromB_prev] at b1
      go_roundw
      case rel => exact ⟨j, by omega, by go_num, by rw [← e2]; simp, B, b1⟩
      case measure => simp [intOf]
    · obtain rfl : k = 0 := by omega
      go_wp2_with (first | (refine wpList_convAny (s := 71) (d := 9) rfl _ rfl rfl (run_conv_bytes b1 (big n 4) (0) _ (by simp [big_length]) (fun i hi => by rw [big_length] at hi; rw [big_get _ _ _ hi]; unfold fromB; rw [if_pos (by omega), Nat.zero_add])) ?_; simp only [Act.put, putS]))
      go_ret
      exact ⟨rfl, B⟩
set_option maxHeartbeats 1000000 in
set_option maxRecDepth 20000 in
theorem R_Big8 (n : Nat) (hn : n < 18446744073709551616) (w : World) : Calls Tryz.prog 30 #[.int .u64 (n : Int), .int .i64 8] w fun e w' => e = .returned (.string (ofL (big n 8))) ∧ Below w.heap.size w w' := by
  have B := Below.refl w.heap.size w
  go_enter Tryz.func30, Tryz.ntmps30
  go_wp2_with (first | (refine wpList_makeB8 rfl _ rfl rfl ?_; intro b_b1 wn hle hge ht hbn hzn; have hsz := B.size; replace B := B.trans (hbn.mono (by omega)); have hln := Nat.lt_of_lt_of_eq (Nat.lt_succ_self _) hzn.symm; clear hzn; (try first | (have hlt := b1.lt; replace b1 := b1.of_eq (hbn.block _ (by omega))) | replace b1 := b1.below (hbn.mono hle)); have b1 := ht; clear ht; simp only [Act.put, putS]))
  go_loopw [0, 6] (fun v i wr => ∃ k : Nat, k ≤ 8 ∧ i = .int .i64 (k - 1) ∧ v = .int .u64 ((n / 256 ^ (8 - k) : Nat) : Int) ∧ Below w.heap.size w wr ∧ BAt 5 8 wr b_b1 (fromB n 8 k)) (fun _ i _ => (intOf i + 1).toNat)
  case atStart => exact ⟨8, by omega, rfl, by simp, B, b1.congr (fromB_none _ _ _ (by omega) _ (fun _ _ => rfl))⟩
  case round =>
    clear B b1
    obtain ⟨k, hk, rfl, rfl, B, b1⟩ := hrel
    have hq : n / 256 ^ (8 - k) < 18446744073709551616 := Nat.lt_of_le_of_lt (Nat.div_le_self _ _) hn
    by_cases hlt : 0 < k
    · obtain ⟨j, rfl⟩ : ∃ j, k = j + 1 := ⟨k - 1, by omega⟩
      have e1 : 8 - (j + 1) = 8 - 1 - j := by omega
      have e2 : n / 256 ^ (8 - 1 - j) / 256 = n / 256 ^ (8 - j) := by rw [Nat.div_div_eq_div_mul, ← Nat.pow_succ, show (8 - 1 - j).succ = 8 - j by omega]
      rw [e1] at hq ⊢
      generalize hqq : n / 256 ^ (8 - 1 - j) = q at *
      go_wp2_with (first | (refine wpList_storeByte rfl _ _ rfl _ _ rfl _ rfl (UInt8.ofNat q) (by simp) b1 (j) (by omega) (by first | rfl | omega) ?_; clear b1; intro wn ht hcn hzn; have hsz := B.size; replace hzn := Nat.le_of_eq hzn.symm; replace B := Chg.below B hcn (by omega) B.size; have b1 := ht; clear ht; simp only [Act.put, putS]))
      rw [← hqq, fromB_prev] at b1
      go_roundw
      case rel => exact ⟨j, by omega, by go_num, by rw [← e2]; simp, B, b1⟩
      case measure => simp [intOf]
    · obtain rfl : k = 0 := by omega
      go_wp2_with (first | (refine wpList_convAny (s := 71) (d := 9) rfl _ rfl rfl (run_conv_bytes b1 (big n 8) (0) _ (by simp [big_length]) (fun i hi => by rw [big_length] at hi; rw [big_get _ _ _ hi]; unfold fromB; rw [if_pos (by omega), Nat.zero_add])) ?_; simp only [Act.put, putS]))
      go_ret
      exact ⟨rfl, B⟩

/-- The first k bytes (of m) are those of n. -/
def tillB (n m k : Nat) : Nat → UInt8 := fun j => if j < k then UInt8.ofNat (n / 256 ^ (m - 1 - j)) else 0
theorem tillB_next (n m k : Nat) : updB (tillB n m k) k (UInt8.ofNat (n / 256 ^ (m - 1 - k))) = tillB n m (k + 1) := by
  funext j
  unfold updB tillB
  by_cases h : j = k
  · subst h; simp
  · rw [if_neg h]
    by_cases h2 : j < k
    · rw [if_pos h2, if_pos (by omega)]
    · rw [if_neg h2, if_neg (by omega)]
theorem tillB_none (n m : Nat) : bC m (fun _ => 0) = bC m (tillB n m 0) := by
  congr 1
set_option maxHeartbeats 1000000 in
set_option maxRecDepth 20000 in
theorem P_Put4 (n : Nat) (hn : n < 9223372036854775808) (w : World) : Calls Tryz.prog 7 #[.int .i64 (n : Int), .int .i64 4] w fun e w' => e = .returned (.string (ofL (big n 4))) ∧ Below w.heap.size w w' := by
  have B := Below.refl w.heap.size w
  go_enter Tryz.func7, Tryz.ntmps7
  go_wp2_with (first | (refine wpList_allocB8 rfl rfl ?_; intro b_b1 wn hle hge ht hbn hzn; have hsz := B.size; replace B := B.trans (hbn.mono (by omega)); have hln := Nat.lt_of_lt_of_eq (Nat.lt_succ_self _) hzn.symm; clear hzn; (try first | (have hlt := b1.lt; replace b1 := b1.of_eq (hbn.block _ (by omega))) | replace b1 := b1.below (hbn.mono hle)); have b1 := ht; clear ht; simp only [Act.put, putS]))
  go_loopw [6, 7] (fun _ i wr => ∃ k : Nat, k ≤ 8 ∧ i = .int .i64 k ∧ Below w.heap.size w wr ∧ BAt 69 8 wr b_b1 (tillB n 8 k)) (fun _ i _ => (8 - intOf i).toNat)
  case atStart => exact ⟨0, by omega, rfl, B, b1.congr (tillB_none _ _)⟩
  case round =>
    clear B b1
    obtain ⟨k, hk, rfl, B, b1⟩ := hrel
    by_cases hlt : k < 8
    · have hp : (2 : Int) ^ ((56 : Int) - 8 * k).toNat = ((256 ^ (8 - 1 - k) : Nat) : Int) := by
        have hc : k = 0 ∨ k = 1 ∨ k = 2 ∨ k = 3 ∨ k = 4 ∨ k = 5 ∨ k = 6 ∨ k = 7 := by omega
        rcases hc with rfl | rfl | rfl | rfl | rfl | rfl | rfl | rfl <;> rfl
      go_wp2_with (first | (refine wpList_storeByte rfl _ _ rfl _ _ rfl _ rfl (UInt8.ofNat (n / 256 ^ (8 - 1 - k))) (by rw [show 8 - 1 - k = 7 - k by omega]; simp) b1 (k) (by omega) (by first | rfl | omega) ?_; clear b1; intro wn ht hcn hzn; have hsz := B.size; replace hzn := Nat.le_of_eq hzn.symm; replace B := Chg.below B hcn (by omega) B.size; have b1 := ht; clear ht; simp only [Act.put, putS]))
      rw [tillB_next] at b1
      go_roundw
      case rel => exact ⟨k + 1, by omega, by go_num, B, b1⟩
      case measure => simp [intOf]; omega
    · obtain rfl : k = 8 := by omega
      simp only [show ((8 : Nat) : Int) = 8 from rfl]
      go_wp2_with (first | (refine wpList_convAny (s := 71) (d := 9) rfl _ rfl rfl (run_conv_bytes b1 (big n 4) (4) _ (by simp [big_length]) (fun i hi => by rw [big_length] at hi; rw [big_get _ _ _ hi]; unfold tillB; rw [if_pos (by omega)]; congr 4; omega)) ?_; simp only [Act.put, putS]) | (go_at_call 25; refine (P_size4 _).mono ?_; rintro e wq ⟨rfl, rfl⟩))
      go_ret
      exact ⟨rfl, B⟩
set_option maxHeartbeats 1000000 in
set_option maxRecDepth 20000 in
theorem P_Put8 (n : Nat) (hn : n < 9223372036854775808) (w : World) : Calls Tryz.prog 7 #[.int .i64 (n : Int), .int .i64 8] w fun e w' => e = .returned (.string (ofL (big n 8))) ∧ Below w.heap.size w w' := by
  have B := Below.refl w.heap.size w
  go_enter Tryz.func7, Tryz.ntmps7
  go_wp2_with (first | (refine wpList_allocB8 rfl rfl ?_; intro b_b1 wn hle hge ht hbn hzn; have hsz := B.size; replace B := B.trans (hbn.mono (by omega)); have hln := Nat.lt_of_lt_of_eq (Nat.lt_succ_self _) hzn.symm; clear hzn; (try first | (have hlt := b1.lt; replace b1 := b1.of_eq (hbn.block _ (by omega))) | replace b1 := b1.below (hbn.mono hle)); have b1 := ht; clear ht; simp only [Act.put, putS]))
  go_loopw [6, 7] (fun _ i wr => ∃ k : Nat, k ≤ 8 ∧ i = .int .i64 k ∧ Below w.heap.size w wr ∧ BAt 69 8 wr b_b1 (tillB n 8 k)) (fun _ i _ => (8 - intOf i).toNat)
  case atStart => exact ⟨0, by omega, rfl, B, b1.congr (tillB_none _ _)⟩
  case round =>
    clear B b1
    obtain ⟨k, hk, rfl, B, b1⟩ := hrel
    by_cases hlt : k < 8
    · have hp : (2 : Int) ^ ((56 : Int) - 8 * k).toNat = ((256 ^ (8 - 1 - k) : Nat) : Int) := by
        have hc : k = 0 ∨ k = 1 ∨ k = 2 ∨ k = 3 ∨ k = 4 ∨ k = 5 ∨ k = 6 ∨ k = 7 := by omega
        rcases hc with rfl | rfl | rfl | rfl | rfl | rfl | rfl | rfl <;> rfl
      go_wp2_with (first | (refine wpList_storeByte rfl _ _ rfl _ _ rfl _ rfl (UInt8.ofNat (n / 256 ^ (8 - 1 - k))) (by rw [show 8 - 1 - k = 7 - k by omega]; simp) b1 (k) (by omega) (by first | rfl | omega) ?_; clear b1; intro wn ht hcn hzn; have hsz := B.size; replace hzn := Nat.le_of_eq hzn.symm; replace B := Chg.below B hcn (by omega) B.size; have b1 := ht; clear ht; simp only [Act.put, putS]))
      rw [tillB_next] at b1
      go_roundw
      case rel => exact ⟨k + 1, by omega, by go_num, B, b1⟩
      case measure => simp [intOf]; omega
    · obtain rfl : k = 8 := by omega
      simp only [show ((8 : Nat) : Int) = 8 from rfl]
      go_wp2_with (first | (refine wpList_convAny (s := 71) (d := 9) rfl _ rfl rfl (run_conv_bytes b1 (big n 8) (0) _ (by simp [big_length]) (fun i hi => by rw [big_length] at hi; rw [big_get _ _ _ hi]; unfold tillB; rw [if_pos (by omega)]; congr 4; omega)) ?_; simp only [Act.put, putS]) | (go_at_call 25; refine (P_size8 _).mono ?_; rintro e wq ⟨rfl, rfl⟩))
      go_ret
      exact ⟨rfl, B⟩
end Go.Proofs.YtppccnjckiedlaaGreatDoor
/- Contract of digest.Of. -/
namespace Go.Proofs.YtppccnjckiedlaaGreatDoor
open Go.RowKit Sha
set_option linter.unusedVariables false
set_option linter.unusedSimpArgs false

theorem rep0 (c : Nat) : Lib.repeatL [0] c = List.replicate c (0 : UInt8) := by
  induction c with
  | zero => rfl
  | succ c ih => simp [Lib.repeatL, ih, List.replicate_succ]
theorem L_Rep0 (c : Nat) (w : World) (hc : c ≤ 1000) : Calls Tryz.prog 58 #[.string ⟨#[0]⟩, .int .i64 c] w fun e w' => e = .returned (.string (ofL (List.replicate c 0))) ∧ Below w.heap.size w w' := by
  rw [← rep0]
  exact L_Repeat ⟨#[0]⟩ c w (by omega) (by show 1 * c ≤ _; omega)
theorem P_Put4z (n : Nat) (z : Int) (hz : z = (n : Int)) (hn : n < 9223372036854775808) (w : World) : Calls Tryz.prog 7 #[.int .i64 z, .int .i64 4] w fun e w' => e = .returned (.string (ofL (big n 4))) ∧ Below w.heap.size w w' := hz ▸ P_Put4 n hn w
theorem P_Put8z (n : Nat) (z : Int) (hz : z = (n : Int)) (hn : n < 9223372036854775808) (w : World) : Calls Tryz.prog 7 #[.int .i64 z, .int .i64 8] w fun e w' => e = .returned (.string (ofL (big n 8))) ∧ Below w.heap.size w w' := hz ▸ P_Put8 n hn w

set_option maxHeartbeats 2000000 in
set_option maxRecDepth 20000 in
theorem P_Of (l : List UInt8) (w : World) (hl : l.length < 1099511627776) (gs : GAt 0 8 w Sha.start.at) (kt : GAt 1 64 w kW) : Calls Tryz.prog 26 #[.string (ofL l)] w fun e w' => e = .returned (.string (ofL (ofB l))) ∧ Below w.heap.size w w' := by
  have B := Below.refl w.heap.size w
  have hz : (119 - (l.length : Int) % 64) % 64 = (zeros l.length : Nat) := by unfold zeros; omega
  have hz2 : zeros l.length < 64 := by unfold zeros; omega
  go_enter Tryz.func26, Tryz.ntmps26
  go_wp2_with (first | (refine wpList_storeW wt8 rfl _ _ rfl _ rfl _ rfl h1 ?_; clear h1; intro wn ht hcn hzn; have hsz := B.size; replace hzn := Nat.le_of_eq hzn.symm; replace B := Chg.below B hcn (by omega) B.size; (try replace gs := gs.of_eq (hcn.block _ gs.lt (by omega))); (try replace kt := kt.of_eq (hcn.block _ kt.lt (by omega))); have h1 := ht; clear ht; simp only [Act.put, putS]) | (refine wpList_allocW8 rfl rfl ?_; intro b_h1 wn hle hge ht hbn hzn; have hsz := B.size; replace B := B.trans (hbn.mono (by omega)); have hln := Nat.lt_of_lt_of_eq (Nat.lt_succ_self _) hzn.symm; clear hzn; (try first | (have hlt := gs.lt; replace gs := gs.of_eq (hbn.block _ (by omega))) | replace gs := gs.below (hbn.mono hle)); (try first | (have hlt := kt.lt; replace kt := kt.of_eq (hbn.block _ (by omega))) | replace kt := kt.below (hbn.mono hle)); (try first | (have hlt := h1.lt; replace h1 := h1.of_eq (hbn.block _ (by omega))) | replace h1 := h1.below (hbn.mono hle)); have h1 := ht; clear ht; simp only [Act.put, putS]) | (refine wpList_loadAny (t := 109) rfl _ rfl _ _ _ rfl (run_load_gw wt8 gs) (by rfl) ?_; simp only [Act.put, putS]))
  refine wp_region_ov (by kernel_rfl) (by kernel_rfl) ?_
  repeat (first | go_big_quiet_skip | (go_big_quiet_want; first | (go_big_quiet_op; first | go_big_quiet_on | go_big_quiet_call ((first | (go_at_call 58; exact calls_ov (L_Rep0 _ _ (by omega))) | (go_at_call 7; exact calls_ov (P_Put8z (8 * l.length) _ (by omega) (by omega) _)))))))
  refine wpQuiet_nil ?_
  intro wn hbn
  have hsz := B.size
  have hzn := hbn.size
  replace B := B.trans (hbn.mono B.size)
  try first | replace gs := gs.of_eq (hbn.block _ gs.lt) | replace gs := gs.below hbn
  try first | replace kt := kt.of_eq (hbn.block _ kt.lt) | replace kt := kt.below hbn
  try first | replace h1 := h1.of_eq (hbn.block _ h1.lt) | replace h1 := h1.below hbn
  have ht : List.take (l.length - l.length / 64 * 64) (List.drop (l.length / 64 * 64) l) ++ 128 :: (List.replicate (zeros l.length) 0 ++ big (8 * l.length) 8) = tailB l := by
    unfold tailB
    rw [show l.length / 64 * 64 = 64 * (l.length / 64) by omega, List.take_of_length_le (by rw [List.length_drop]; omega)]
  simp only [List.append_assoc, List.cons_append, ht]
  go_wp2
  clear ht hz hz2
  generalize (119 - (l.length : Int) % 64) % 64 = z4
  go_loopw [6] (fun i wr => ∃ k : Nat, 64 * k ≤ l.length ∧ i = .int .i64 (64 * k) ∧ Below w.heap.size w wr ∧ GAt 1 64 wr kW ∧ WAt 109 8 wr b_h1 (blocks Sha.start l k).at) (fun i _ => ((l.length : Int) - intOf i).toNat)
  case atStart => exact ⟨0, by omega, rfl, B, kt, h1⟩
  case round =>
    clear B gs kt h1
    obtain ⟨k, hk, rfl, B, kt, h1⟩ := hrel
    by_cases hlt : 64 * k + 64 ≤ l.length
    · go_wp2
      refine wp_region_ov_tail 7 (by kernel_rfl) (by kernel_rfl) ?_
      simp only [List.take_succ_cons, List.take_zero, List.drop_succ_cons, List.drop_zero]
      repeat (first | go_big_quiet_skip | (go_big_quiet_want; first | (refine quiet_loadAny (t := 109) rfl _ _ _ rfl (fun w hw => run_load_w wt8 (ov_w h1 w hw)) (by rfl) ?_; simp only [Act.put, putS]; go_big_quiet_on) | (go_big_quiet_op; first | go_big_quiet_on | go_big_quiet_call ((first | (go_at_call 59; exact calls_ov (P_compress _ _ _ (by rw [ofL_size, List.length_take, List.length_drop]; omega) (ov_g kt _ ⟨_, rfl⟩))))))))
      refine wpQuiet_nil ?_
      intro wn hbn
      have hsz := B.size
      have hzn := hbn.size
      replace B := B.trans (hbn.mono B.size)
      try first | replace gs := gs.of_eq (hbn.block _ gs.lt) | replace gs := gs.below hbn
      try first | replace kt := kt.of_eq (hbn.block _ kt.lt) | replace kt := kt.below hbn
      try first | replace h1 := h1.of_eq (hbn.block _ h1.lt) | replace h1 := h1.below hbn
      go_wp2_with (first | (refine wpList_storeW wt8 rfl _ _ rfl _ rfl _ rfl h1 ?_; clear h1; intro wn ht hcn hzn; have hsz := B.size; replace hzn := Nat.le_of_eq hzn.symm; replace B := Chg.below B hcn (by omega) B.size; (try replace gs := gs.of_eq (hcn.block _ gs.lt (by omega))); (try replace kt := kt.of_eq (hcn.block _ kt.lt (by omega))); have h1 := ht; clear ht; simp only [Act.put, putS]))
      rw [bytes_ofL, ← blocks_next] at h1
      go_roundw
      case rel => exact ⟨k + 1, by omega, by go_num, B, kt, h1⟩
      case measure => simp [intOf]; omega
    · have hq : k = l.length / 64 := by omega
      have hT := tail_blocks l
      have hT2 : (tailB l).length / 64 ≤ 2 := by rw [tailB_length]; unfold zeros; omega
      go_wp2
      rw [hq] at h1
      clear hq hlt
      generalize (k : Int) = z6
      go_loopw [5] (fun p wr => ∃ j : Nat, j ≤ (tailB l).length / 64 ∧ p = .string (ofL ((tailB l).drop (64 * j))) ∧ Below w.heap.size w wr ∧ GAt 1 64 wr kW ∧ WAt 109 8 wr b_h1 (blocks (blocks Sha.start l (l.length / 64)) (tailB l) j).at) (fun p _ => strLen p)
      case atStart => exact ⟨0, by omega, rfl, B, kt, h1⟩
      case round =>
        clear B kt h1
        obtain ⟨j, hj, rfl, B, kt, h1⟩ := hrel
        by_cases hlt2 : j < (tailB l).length / 64
        · have hlen : 64 ≤ ((tailB l).drop (64 * j)).length := by rw [List.length_drop]; omega
          generalize ht : (tailB l).drop (64 * j) = t at *
          go_wp2
          refine wp_region_ov_tail 4 (by kernel_rfl) (by kernel_rfl) ?_
          simp only [List.take_succ_cons, List.take_zero, List.drop_succ_cons, List.drop_zero]
          repeat (first | go_big_quiet_skip | (go_big_quiet_want; first | (refine quiet_loadAny (t := 109) rfl _ _ _ rfl (fun w hw => run_load_w wt8 (ov_w h1 w hw)) (by rfl) ?_; simp only [Act.put, putS]; go_big_quiet_on) | (go_big_quiet_op; first | go_big_quiet_on | go_big_quiet_call ((first | (go_at_call 59; exact calls_ov (P_compress _ _ _ (by rw [ofL_size]; simp; omega) (ov_g kt _ ⟨_, rfl⟩))))))))
          refine wpQuiet_nil ?_
          intro wn hbn
          have hsz := B.size
          have hzn := hbn.size
          replace B := B.trans (hbn.mono B.size)
          try first | replace gs := gs.of_eq (hbn.block _ gs.lt) | replace gs := gs.below hbn
          try first | replace kt := kt.of_eq (hbn.block _ kt.lt) | replace kt := kt.below hbn
          try first | replace h1 := h1.of_eq (hbn.block _ h1.lt) | replace h1 := h1.below hbn
          go_wp2_with (first | (refine wpList_storeW wt8 rfl _ _ rfl _ rfl _ rfl h1 ?_; clear h1; intro wn ht hcn hzn; have hsz := B.size; replace hzn := Nat.le_of_eq hzn.symm; replace B := Chg.below B hcn (by omega) B.size; (try replace gs := gs.of_eq (hcn.block _ gs.lt (by omega))); (try replace kt := kt.of_eq (hcn.block _ kt.lt (by omega))); have h1 := ht; clear ht; simp only [Act.put, putS]))
          rw [bytes_ofL, ← ht, ← blocks_next] at h1
          go_roundw
          case rel => exact ⟨j + 1, by omega, by rw [List.take_of_length_le (by simp), ← ht, List.drop_drop, show 64 * j + 64 = 64 * (j + 1) by omega], B, kt, h1⟩
          case measure => simp [strLen, ofL_size]; omega
        · obtain rfl : j = (tailB l).length / 64 := by omega
          have hnil : (tailB l).drop (64 * ((tailB l).length / 64)) = [] := List.drop_eq_nil_of_le (by omega)
          have hres := ofB_eq l
          rw [hnil]
          generalize blocks (blocks Sha.start l (l.length / 64)) (tailB l) ((tailB l).length / 64) = st at *
          go_wp2_with (first | (refine wpList_allocB rfl rfl ?_; intro b_bd wn hle hge ht hbn hzn; have hsz := B.size; replace B := B.trans (hbn.mono (by omega)); have hln := Nat.lt_of_lt_of_eq (Nat.lt_succ_self _) hzn.symm; clear hzn; (try first | (have hlt := gs.lt; replace gs := gs.of_eq (hbn.block _ (by omega))) | replace gs := gs.below (hbn.mono hle)); (try first | (have hlt := kt.lt; replace kt := kt.of_eq (hbn.block _ (by omega))) | replace kt := kt.below (hbn.mono hle)); (try first | (have hlt := h1.lt; replace h1 := h1.of_eq (hbn.block _ (by omega))) | replace h1 := h1.below (hbn.mono hle)); have bd := ht; clear ht; simp only [Act.put, putS]) | (refine wpList_loadAny (t := 109) rfl _ rfl _ _ _ rfl (run_load_w wt8 h1) (by rfl) ?_; simp only [Act.put, putS]))
          have hbd : w.heap.size ≤ b_bd := by omega
          go_loopw [9, 55] (fun _ i wr => ∃ k : Nat, k ≤ 8 ∧ i = .int .i64 k ∧ Below w.heap.size w wr ∧ HoldsB b_bd b_bd (outK st k) wr) (fun _ i _ => (8 - intOf i).toNat)
          case atStart => exact ⟨0, by omega, rfl, B, bd⟩
          case round =>
            clear B kt h1 bd
            obtain ⟨k, hk, rfl, B, bd⟩ := hrel
            by_cases hlt3 : k < 8
            · have hix := run_index_w8 st.at k hlt3
              have hxl := (st.at k).isLt
              have hbl := bd.lt
              go_wp2_with (first | (go_at_call 7; refine (P_Put4 _ (by omega) _).mono ?_; rintro e wn ⟨rfl, hbn⟩; have hsz := B.size; have hzn := hbn.size; replace B := B.trans (hbn.mono B.size); replace bd := bd.below hbn) | (go_at_call 33; refine (L_WriteString b_bd b_bd _ _ _ bd (by rw [outK_length, ofL_size, big_length]; omega) (Nat.le_of_lt bd.lt)).mono ?_; rintro e wn ⟨rfl, ht, hbn⟩; have hsz := B.size; have hzn := hbn.size; replace B := B.trans (hbn.mono (by omega)); replace bd := ht; clear ht))
              rw [bytes_ofL, ← outK_next] at bd
              go_roundw
              case rel => exact ⟨k + 1, by omega, by go_num, B, bd⟩
              case measure => simp [intOf]; omega
            · obtain rfl : k = 8 := by omega
              have hbl := bd.lt
              rw [outK_all] at bd
              go_wp2_with ((go_at_call 34; refine (L_String b_bd b_bd _ _ bd (Nat.le_of_lt bd.lt)).mono ?_; rintro e wn ⟨rfl, hbn⟩; replace B := B.trans (hbn.mono hbd)))
              go_ret
              exact ⟨by rw [hres]; rfl, B⟩
end Go.Proofs.YtppccnjckiedlaaGreatDoor
/- Contracts of the reference's constants and Of. -/
namespace Go.Proofs.YtppccnjckiedlaaGreatDoor
open Go.RowKit Sha
set_option linter.unusedVariables false
set_option linter.unusedSimpArgs false

theorem run_build_start (w : World) (o : Oper) (ho : o.op = .build 109 #[(0, .const (.int .u32 1779033703)), (1, .const (.int .u32 3144134277)), (2, .const (.int .u32 1013904242)), (3, .const (.int .u32 2773480762)), (4, .const (.int .u32 1359893119)), (5, .const (.int .u32 2600822924)), (6, .const (.int .u32 528734635)), (7, .const (.int .u32 1541459225))]) (a : Act) : (execOp a.eval o).run Tryz.prog w = .ok (.value (Wd.v 8 Sha.start.at)) w := by
  obtain ⟨d, p, t, ps, af, gd⟩ := o
  simp only at ho
  subst ho
  kernel_rfl
theorem wpList_build_start {ops : Array Oper} {rest : List Oper} {o : Oper} {a : Act} {w : World} {Q : Exit → Act → World → Prop} (hg : o.guard = none) (ho : o.op = .build 109 #[(0, .const (.int .u32 1779033703)), (1, .const (.int .u32 3144134277)), (2, .const (.int .u32 1013904242)), (3, .const (.int .u32 2773480762)), (4, .const (.int .u32 1359893119)), (5, .const (.int .u32 2600822924)), (6, .const (.int .u32 528734635)), (7, .const (.int .u32 1541459225))])
    (h : wpList Tryz.prog ops Q rest (a.put o.dst (Wd.v 8 Sha.start.at)) w) : wpList Tryz.prog ops Q (o :: rest) a w :=
  wpList_plain hg fun K hK => by
    unfold Oper.wp
    rw [run_build_start w o ho a]
    exact hK _ _ h
theorem run_build_k (w : World) (o : Oper) (ho : o.op = .build 128 #[(0, .const (.int .u32 1116352408)), (1, .const (.int .u32 1899447441)), (2, .const (.int .u32 3049323471)), (3, .const (.int .u32 3921009573)), (4, .const (.int .u32 961987163)), (5, .const (.int .u32 1508970993)), (6, .const (.int .u32 2453635748)), (7, .const (.int .u32 2870763221)), (8, .const (.int .u32 3624381080)), (9, .const (.int .u32 310598401)), (10, .const (.int .u32 607225278)), (11, .const (.int .u32 1426881987)), (12, .const (.int .u32 1925078388)), (13, .const (.int .u32 2162078206)), (14, .const (.int .u32 2614888103)), (15, .const (.int .u32 3248222580)), (16, .const (.int .u32 3835390401)), (17, .const (.int .u32 4022224774)), (18, .const (.int .u32 264347078)), (19, .const (.int .u32 604807628)), (20, .const (.int .u32 770255983)), (21, .const (.int .u32 1249150122)), (22, .const (.int .u32 1555081692)), (23, .const (.int .u32 1996064986)), (24, .const (.int .u32 2554220882)), (25, .const (.int .u32 2821834349)), (26, .const (.int .u32 2952996808)), (27, .const (.int .u32 3210313671)), (28, .const (.int .u32 3336571891)), (29, .const (.int .u32 3584528711)), (30, .const (.int .u32 113926993)), (31, .const (.int .u32 338241895)), (32, .const (.int .u32 666307205)), (33, .const (.int .u32 773529912)), (34, .const (.int .u32 1294757372)), (35, .const (.int .u32 1396182291)), (36, .const (.int .u32 1695183700)), (37, .const (.int .u32 1986661051)), (38, .const (.int .u32 2177026350)), (39, .const (.int .u32 2456956037)), (40, .const (.int .u32 2730485921)), (41, .const (.int .u32 2820302411)), (42, .const (.int .u32 3259730800)), (43, .const (.int .u32 3345764771)), (44, .const (.int .u32 3516065817)), (45, .const (.int .u32 3600352804)), (46, .const (.int .u32 4094571909)), (47, .const (.int .u32 275423344)), (48, .const (.int .u32 430227734)), (49, .const (.int .u32 506948616)), (50, .const (.int .u32 659060556)), (51, .const (.int .u32 883997877)), (52, .const (.int .u32 958139571)), (53, .const (.int .u32 1322822218)), (54, .const (.int .u32 1537002063)), (55, .const (.int .u32 1747873779)), (56, .const (.int .u32 1955562222)), (57, .const (.int .u32 2024104815)), (58, .const (.int .u32 2227730452)), (59, .const (.int .u32 2361852424)), (60, .const (.int .u32 2428436474)), (61, .const (.int .u32 2756734187)), (62, .const (.int .u32 3204031479)), (63, .const (.int .u32 3329325298))]) (a : Act) : (execOp a.eval o).run Tryz.prog w = .ok (.value (Wd.v 64 kW)) w := by
  obtain ⟨d, p, t, ps, af, gd⟩ := o
  simp only at ho
  subst ho
  kernel_rfl
theorem wpList_build_k {ops : Array Oper} {rest : List Oper} {o : Oper} {a : Act} {w : World} {Q : Exit → Act → World → Prop} (hg : o.guard = none) (ho : o.op = .build 128 #[(0, .const (.int .u32 1116352408)), (1, .const (.int .u32 1899447441)), (2, .const (.int .u32 3049323471)), (3, .const (.int .u32 3921009573)), (4, .const (.int .u32 961987163)), (5, .const (.int .u32 1508970993)), (6, .const (.int .u32 2453635748)), (7, .const (.int .u32 2870763221)), (8, .const (.int .u32 3624381080)), (9, .const (.int .u32 310598401)), (10, .const (.int .u32 607225278)), (11, .const (.int .u32 1426881987)), (12, .const (.int .u32 1925078388)), (13, .const (.int .u32 2162078206)), (14, .const (.int .u32 2614888103)), (15, .const (.int .u32 3248222580)), (16, .const (.int .u32 3835390401)), (17, .const (.int .u32 4022224774)), (18, .const (.int .u32 264347078)), (19, .const (.int .u32 604807628)), (20, .const (.int .u32 770255983)), (21, .const (.int .u32 1249150122)), (22, .const (.int .u32 1555081692)), (23, .const (.int .u32 1996064986)), (24, .const (.int .u32 2554220882)), (25, .const (.int .u32 2821834349)), (26, .const (.int .u32 2952996808)), (27, .const (.int .u32 3210313671)), (28, .const (.int .u32 3336571891)), (29, .const (.int .u32 3584528711)), (30, .const (.int .u32 113926993)), (31, .const (.int .u32 338241895)), (32, .const (.int .u32 666307205)), (33, .const (.int .u32 773529912)), (34, .const (.int .u32 1294757372)), (35, .const (.int .u32 1396182291)), (36, .const (.int .u32 1695183700)), (37, .const (.int .u32 1986661051)), (38, .const (.int .u32 2177026350)), (39, .const (.int .u32 2456956037)), (40, .const (.int .u32 2730485921)), (41, .const (.int .u32 2820302411)), (42, .const (.int .u32 3259730800)), (43, .const (.int .u32 3345764771)), (44, .const (.int .u32 3516065817)), (45, .const (.int .u32 3600352804)), (46, .const (.int .u32 4094571909)), (47, .const (.int .u32 275423344)), (48, .const (.int .u32 430227734)), (49, .const (.int .u32 506948616)), (50, .const (.int .u32 659060556)), (51, .const (.int .u32 883997877)), (52, .const (.int .u32 958139571)), (53, .const (.int .u32 1322822218)), (54, .const (.int .u32 1537002063)), (55, .const (.int .u32 1747873779)), (56, .const (.int .u32 1955562222)), (57, .const (.int .u32 2024104815)), (58, .const (.int .u32 2227730452)), (59, .const (.int .u32 2361852424)), (60, .const (.int .u32 2428436474)), (61, .const (.int .u32 2756734187)), (62, .const (.int .u32 3204031479)), (63, .const (.int .u32 3329325298))])
    (h : wpList Tryz.prog ops Q rest (a.put o.dst (Wd.v 64 kW)) w) : wpList Tryz.prog ops Q (o :: rest) a w :=
  wpList_plain hg fun K hK => by
    unfold Oper.wp
    rw [run_build_k w o ho a]
    exact hK _ _ h

set_option maxHeartbeats 1000000 in
set_option maxRecDepth 20000 in
theorem R_constants (w : World) : Calls Tryz.prog 89 #[] w fun e w' => e = .returned (Wd.v 64 kW) ∧ Below w.heap.size w w' := by
  have B := Below.refl w.heap.size w
  go_enter Tryz.func89, Tryz.ntmps89
  go_wp2_with (first | (refine wpList_storeW wt64 rfl _ _ rfl _ rfl _ rfl k1 ?_; clear k1; intro wn ht hcn hzn; have hsz := B.size; replace hzn := Nat.le_of_eq hzn.symm; replace B := Chg.below B hcn (by omega) B.size; have k1 := ht; clear ht; simp only [Act.put, putS]) | (refine wpList_build_k rfl rfl ?_; simp only [Act.put, putS]) | (refine wpList_allocW64 rfl rfl ?_; intro b_k1 wn hle hge ht hbn hzn; have hsz := B.size; replace B := B.trans (hbn.mono (by omega)); have hln := Nat.lt_of_lt_of_eq (Nat.lt_succ_self _) hzn.symm; clear hzn; (try first | (have hlt := k1.lt; replace k1 := k1.of_eq (hbn.block _ (by omega))) | replace k1 := k1.below (hbn.mono hle)); have k1 := ht; clear ht; simp only [Act.put, putS]))
  refine bodyPost_ret (results_w wt64 rfl _ _ (b_k1) rfl k1) rfl ?_
  exact ⟨rfl, B⟩

theorem R_Big4z (n : Nat) (z : Int) (hz : z = (n : Int)) (hn : n < 18446744073709551616) (w : World) : Calls Tryz.prog 30 #[.int .u64 z, .int .i64 4] w fun e w' => e = .returned (.string (ofL (big n 4))) ∧ Below w.heap.size w w' := hz ▸ R_Big4 n hn w
theorem R_Big8z (n : Nat) (z : Int) (hz : z = (n : Int)) (hn : n < 18446744073709551616) (w : World) : Calls Tryz.prog 30 #[.int .u64 z, .int .i64 8] w fun e w' => e = .returned (.string (ofL (big n 8))) ∧ Below w.heap.size w w' := hz ▸ R_Big8 n hn w
section
variable {C : World → Prop} {a : Act} {o : Oper} {K : Act → Prop}
theorem quiet_convAny {s d : TypeId} {v u : Value} {x : Operand} (h : o.op = .convert s d x) (hx : a.eval x = u) (hr : ∀ w, C w → (convert s d u).run Tryz.prog w = .ok v w) (hk : K (a.put o.dst v)) : o.quiet Tryz.prog a C K :=
  ⟨_, fun w hw => by unfold Oper.quietAt execOp; simp only [h, hx, hr w hw, Sem.run_bind, Sem.run_pure, Result.andThen_ok]; exact ⟨rfl, rfl⟩, hk⟩
end
theorem ov_own {B : Nat} {v : Value} {l : List UInt8} {w : World} (h : OwnB B v l w) : ∀ w', (∃ u, w' = ov w u) → OwnB B v l w' := by
  rintro w' ⟨u, rfl⟩
  exact h.below (ov_below w u)
/-- How long a slice is. -/
def slcLen : Value → Nat
  | .slice _ n _ => n
  | _ => 0
theorem own128 {B b : Nat} {w : World} (h : BAt 5 1 w b (fun _ => 128)) (hb : B ≤ b) : OwnB B (.slice (some ⟨b, 0, none⟩) 1 1) [128] w :=
  OwnB.made h hb rfl (by decide) (fun i hi => by
    have e : i = 0 := by omega
    subst e
    rfl)
theorem rep_next (k : Nat) : (128 : UInt8) :: List.replicate k 0 ++ [0] = 128 :: List.replicate (k + 1) 0 := by
  rw [List.cons_append, List.replicate_succ']

set_option maxHeartbeats 4000000 in
set_option maxRecDepth 20000 in
theorem R_OfD (l : List UInt8) (w : World) (hl : l.length < 1099511627776) : Calls Tryz.prog 61 #[.string (ofL l)] w fun e w' => e = .returned (.string (ofL (ofB l))) ∧ Below w.heap.size w w' := by
  have B := Below.refl w.heap.size w
  have hz := Lib.hid (show zeros l.length = (119 - l.length % 64) % 64 from rfl)
  have hz2 : zeros l.length < 64 := by unfold zeros; omega
  go_enter Tryz.func61, Tryz.ntmps61
  go_wp2_with (first | (have _ := k1; refine wpList_bs128 rfl rfl ?_; intro b_b1 wn hle hge ht hbn hzn; have hsz := B.size; replace B := B.trans (hbn.mono (by omega)); have hln := Nat.lt_of_lt_of_eq (Nat.lt_succ_self _) hzn.symm; clear hzn; (try first | (have hlt := h1.lt; replace h1 := h1.of_eq (hbn.block _ (by omega))) | replace h1 := h1.below (hbn.mono hle)); (try first | (have hlt := k1.lt; replace k1 := k1.of_eq (hbn.block _ (by omega))) | replace k1 := k1.below (hbn.mono hle)); (try first | (have hlt := b1.lt; replace b1 := b1.of_eq (hbn.block _ (by omega))) | replace b1 := b1.below (hbn.mono hle)); (try first | (have hlt := b2.lt; replace b2 := b2.of_eq (hbn.block _ (by omega))) | replace b2 := b2.below (hbn.mono hle)); have b1 := ht; clear ht; simp only [Act.put, putS]) | (refine wpList_storeW wt64 rfl _ _ rfl _ rfl _ rfl k1 ?_; clear k1; intro wn ht hcn hzn; have hsz := B.size; replace hzn := Nat.le_of_eq hzn.symm; replace B := Chg.below B hcn (by omega) B.size; (try replace h1 := h1.of_eq (hcn.block _ h1.lt (by omega))); (try replace b1 := b1.of_eq (hcn.block _ b1.lt (by omega))); (try replace b2 := b2.of_eq (hcn.block _ b2.lt (by omega))); have k1 := ht; clear ht; simp only [Act.put, putS]) | (have _ := h1; refine wpList_allocW64 rfl rfl ?_; intro b_k1 wn hle hge ht hbn hzn; have hsz := B.size; replace B := B.trans (hbn.mono (by omega)); have hln := Nat.lt_of_lt_of_eq (Nat.lt_succ_self _) hzn.symm; clear hzn; (try first | (have hlt := h1.lt; replace h1 := h1.of_eq (hbn.block _ (by omega))) | replace h1 := h1.below (hbn.mono hle)); (try first | (have hlt := k1.lt; replace k1 := k1.of_eq (hbn.block _ (by omega))) | replace k1 := k1.below (hbn.mono hle)); (try first | (have hlt := b1.lt; replace b1 := b1.of_eq (hbn.block _ (by omega))) | replace b1 := b1.below (hbn.mono hle)); (try first | (have hlt := b2.lt; replace b2 := b2.of_eq (hbn.block _ (by omega))) | replace b2 := b2.below (hbn.mono hle)); have k1 := ht; clear ht; simp only [Act.put, putS]) | (go_at_call 89; refine (R_constants _).mono ?_; rintro e wn ⟨rfl, hbn⟩; have hsz := B.size; have hzn := hbn.size; replace B := B.trans (hbn.mono B.size); (try first | replace h1 := h1.of_eq (hbn.block _ h1.lt) | replace h1 := h1.below hbn); (try first | replace k1 := k1.of_eq (hbn.block _ k1.lt) | replace k1 := k1.below hbn); (try first | replace b1 := b1.of_eq (hbn.block _ b1.lt) | replace b1 := b1.below hbn); (try first | replace b2 := b2.of_eq (hbn.block _ b2.lt) | replace b2 := b2.below hbn)) | (refine wpList_storeW wt8 rfl _ _ rfl _ rfl _ rfl h1 ?_; clear h1; intro wn ht hcn hzn; have hsz := B.size; replace hzn := Nat.le_of_eq hzn.symm; replace B := Chg.below B hcn (by omega) B.size; (try replace k1 := k1.of_eq (hcn.block _ k1.lt (by omega))); (try replace b1 := b1.of_eq (hcn.block _ b1.lt (by omega))); (try replace b2 := b2.of_eq (hcn.block _ b2.lt (by omega))); have h1 := ht; clear ht; simp only [Act.put, putS]) | (refine wpList_build_start rfl rfl ?_; simp only [Act.put, putS]) | (refine wpList_allocW8 rfl rfl ?_; intro b_h1 wn hle hge ht hbn hzn; have hsz := B.size; replace B := B.trans (hbn.mono (by omega)); have hln := Nat.lt_of_lt_of_eq (Nat.lt_succ_self _) hzn.symm; clear hzn; (try first | (have hlt := h1.lt; replace h1 := h1.of_eq (hbn.block _ (by omega))) | replace h1 := h1.below (hbn.mono hle)); (try first | (have hlt := k1.lt; replace k1 := k1.of_eq (hbn.block _ (by omega))) | replace k1 := k1.below (hbn.mono hle)); (try first | (have hlt := b1.lt; replace b1 := b1.of_eq (hbn.block _ (by omega))) | replace b1 := b1.below (hbn.mono hle)); (try first | (have hlt := b2.lt; replace b2 := b2.of_eq (hbn.block _ (by omega))) | replace b2 := b2.below (hbn.mono hle)); have h1 := ht; clear ht; simp only [Act.put, putS]))
  have od := own128 b1 (Nat.le_refl _)
  have hbb : w.heap.size ≤ b_b1 := by omega
  have hb1 : b_h1 < b_b1 := by have := h1.lt; omega
  have hb2 : b_k1 < b_b1 := by have := k1.lt; omega
  have hbz := b1.lt
  clear b1
  go_loopw [5] (fun v wr => ∃ k : Nat, k ≤ zeros l.length ∧ OwnB b_b1 v (128 :: List.replicate k 0) wr ∧ Below w.heap.size w wr ∧ b_b1 < wr.heap.size ∧ WAt 109 8 wr b_h1 Sha.start.at ∧ WAt 128 64 wr b_k1 kW) (fun v _ => 200 - slcLen v)
  case atStart => exact ⟨0, by omega, od, B, hbz, h1, k1⟩
  case round =>
    clear B h1 k1 od
    obtain ⟨k, hk, od, B, hlt1, h1, k1⟩ := hrel
    obtain ⟨va, vc, rfl⟩ := od.len
    rw [List.length_cons, List.length_replicate] at *
    by_cases hlt : k < zeros l.length
    · have hne : ((l.length : Int) + ((k : Int) + 1)) % 64 ≠ 56 := by have := hz.out; omega
      go_wp2_with (first | (at_builtin; refine wpList_append1 rfl _ _ rfl _ rfl _ _ rfl (y := 0) od b2 rfl (by rw [List.length_cons, List.length_replicate]; omega) (by omega) ?_; intro vn wn ht hbn; have hsz := B.size; have hzn := hbn.size; replace B := B.trans (hbn.mono (by omega)); clear od b2; (try replace h1 := h1.of_eq (hbn.block _ (by omega))); (try replace k1 := k1.of_eq (hbn.block _ (by omega))); have od := ht; clear ht; simp only [Act.put, putS]) | (refine wpList_bs0 rfl rfl ?_; intro b_b2 wn hle hge ht hbn hzn; replace od := od.below (hbn.mono hle); have hsz := B.size; replace B := B.trans (hbn.mono (by omega)); have hln := Nat.lt_of_lt_of_eq (Nat.lt_succ_self _) hzn.symm; clear hzn; (try first | (have hlt := h1.lt; replace h1 := h1.of_eq (hbn.block _ (by omega))) | replace h1 := h1.below (hbn.mono hle)); (try first | (have hlt := k1.lt; replace k1 := k1.of_eq (hbn.block _ (by omega))) | replace k1 := k1.below (hbn.mono hle)); have b2 := ht; clear ht; simp only [Act.put, putS]))
      rw [rep_next] at od
      go_roundw
      case rel => exact ⟨k + 1, by omega, od, B, by omega, h1, k1⟩
      case measure =>
        obtain ⟨va', vc', rfl⟩ := od.len
        simp [slcLen]
        omega
    · obtain rfl : k = zeros l.length := by omega
      have hne : ((l.length : Int) + ((zeros l.length : Nat) + 1)) % 64 = 56 := by have := hz.out; omega
      go_wp2
      refine wp_region_ov (by kernel_rfl) (by kernel_rfl) ?_
      repeat (first | go_big_quiet_skip | (go_big_quiet_want; first | (refine quiet_convAny (s := 71) (d := 9) rfl rfl (fun w hw => (ov_own od w hw).conv (by simp)) ?_; simp only [Act.put, putS]; go_big_quiet_on) | (go_big_quiet_op; first | go_big_quiet_on | go_big_quiet_call ((first | (go_at_call 30; exact calls_ov (R_Big8z (8 * l.length) _ (by omega) (by omega) _)))))))
      refine wpQuiet_nil ?_
      intro wn hbn
      have hsz := B.size
      have hzn := hbn.size
      replace B := B.trans (hbn.mono B.size)
      try first | replace h1 := h1.of_eq (hbn.block _ h1.lt) | replace h1 := h1.below hbn
      try first | replace k1 := k1.of_eq (hbn.block _ k1.lt) | replace k1 := k1.below hbn
      have hp : l ++ 128 :: (List.replicate (zeros l.length) 0 ++ big (8 * l.length) 8) = pad l := rfl
      simp only [List.append_assoc, List.cons_append, hp]
      obtain ⟨T, hT⟩ : ∃ T, (pad l).length = 64 * T := ⟨(pad l).length / 64, by rw [pad_length, hz.out]; omega⟩
      have hT2 : 64 * T < 2199023255552 := by rw [← hT, pad_length]; omega
      have hres := Lib.hid (show ofB l = outB (blocks Sha.start (pad l) T) from by unfold ofB; rw [show (pad l).length / 64 = T by omega])
      clear od hp hne hz hz2 hlt
      generalize (zeros l.length : Int) = zz at *
      go_wp2
      go_loopw [7] (fun i wr => ∃ k : Nat, k ≤ T ∧ i = .int .i64 (64 * k) ∧ Below w.heap.size w wr ∧ WAt 109 8 wr b_h1 (blocks Sha.start (pad l) k).at ∧ WAt 128 64 wr b_k1 kW) (fun i _ => (((64 * T : Nat) : Int) - intOf i).toNat)
      case atStart => exact ⟨0, by omega, rfl, B, h1, k1⟩
      case round =>
        clear B h1 k1
        obtain ⟨k, hk, rfl, B, h1, k1⟩ := hrel
        by_cases hlt2 : k < T
        · have hlen : 64 * k + 64 ≤ (pad l).length := by omega
          go_wp2
          refine wp_region_ov_tail 8 (by kernel_rfl) (by kernel_rfl) ?_
          simp only [List.take_succ_cons, List.take_zero, List.drop_succ_cons, List.drop_zero]
          repeat (first | go_big_quiet_skip | (go_big_quiet_want; first | (refine quiet_loadAny (t := 109) rfl _ _ _ rfl (fun w hw => run_load_w wt8 (ov_w h1 w hw)) (by rfl) ?_; simp only [Act.put, putS]; go_big_quiet_on) | (refine quiet_loadAny (t := 128) rfl _ _ _ rfl (fun w hw => run_load_w wt64 (ov_w k1 w hw)) (by rfl) ?_; simp only [Act.put, putS]; go_big_quiet_on) | (go_big_quiet_op; first | go_big_quiet_on | go_big_quiet_call ((first | (go_at_call 90; exact calls_ov (R_compress _ _ _ (by rw [ofL_size]; simp; omega))))))))
          refine wpQuiet_nil ?_
          intro wn hbn
          have hsz := B.size
          have hzn := hbn.size
          replace B := B.trans (hbn.mono B.size)
          try first | replace h1 := h1.of_eq (hbn.block _ h1.lt) | replace h1 := h1.below hbn
          try first | replace k1 := k1.of_eq (hbn.block _ k1.lt) | replace k1 := k1.below hbn
          go_wp2_with (first | (refine wpList_storeW wt8 rfl _ _ rfl _ rfl _ rfl h1 ?_; clear h1; intro wn ht hcn hzn; have hsz := B.size; replace hzn := Nat.le_of_eq hzn.symm; replace B := Chg.below B hcn (by omega) B.size; (try replace k1 := k1.of_eq (hcn.block _ k1.lt (by omega))); have h1 := ht; clear ht; simp only [Act.put, putS]))
          rw [bytes_ofL, ← blocks_next] at h1
          go_roundw
          case rel => exact ⟨k + 1, by omega, by go_num, B, h1, k1⟩
          case measure => simp [intOf]; omega
        · obtain rfl : k = T := by omega
          generalize blocks Sha.start (pad l) k = st at *
          go_wp2
          clear hlt2 hk hT2
          generalize (k : Int) = z7 at *
          clear hT
          go_loopw [8, 9] (fun d i wr => ∃ n : Nat, n ≤ 8 ∧ d = .string (ofL (outK st n)) ∧ i = .int .i64 n ∧ Below w.heap.size w wr ∧ WAt 109 8 wr b_h1 st.at) (fun _ i _ => (8 - intOf i).toNat)
          case atStart => exact ⟨0, by omega, rfl, rfl, B, h1⟩
          case round =>
            clear B h1 k1
            obtain ⟨n, hn, rfl, rfl, B, h1⟩ := hrel
            by_cases hlt3 : n < 8
            · have hol := outK_length st n
              have hxl := (st.at n).isLt
              go_wp2_with (first | (refine wpList_loadAny (t := 106) rfl _ rfl _ _ _ rfl (run_load_word h1 (hlt3)) (by first | rfl | omega) ?_; simp only [Act.put, putS]) | (go_at_call 30; refine (R_Big4 _ (by omega) _).mono ?_; rintro e wn ⟨rfl, hbn⟩; have hsz := B.size; have hzn := hbn.size; replace B := B.trans (hbn.mono B.size); (try first | replace h1 := h1.of_eq (hbn.block _ h1.lt) | replace h1 := h1.below hbn)))
              go_roundw
              case rel => exact ⟨n + 1, by omega, by rw [outK_next], by go_num, B, h1⟩
              case measure => simp [intOf]; omega
            · obtain rfl : n = 8 := by omega
              go_wp2
              go_ret
              exact ⟨by rw [hres.out, ← outK_all]; rfl, B⟩
end Go.Proofs.YtppccnjckiedlaaGreatDoor
/- Contracts of digest.Valid and digest.Hex. -/
namespace Go.Proofs.YtppccnjckiedlaaGreatDoor
open Go.RowKit Sha
set_option linter.unusedVariables false
set_option linter.unusedSimpArgs false

def digs : List UInt8 := [48, 49, 50, 51, 52, 53, 54, 55, 56, 57, 97, 98, 99, 100, 101, 102]
def hexD (b : UInt8) : UInt8 := digs.getD b.toNat 0
def hexB (l : List UInt8) : Nat → List UInt8
  | 0 => []
  | k + 1 => hexB l k ++ [hexD (l.getD k 0 >>> 4)] ++ [hexD (l.getD k 0 &&& 15)]
/-- What Hex returns. -/
def hexL (l : List UInt8) : List UInt8 := if l.length = 32 then hexB l 32 else []
section
variable (w : World) (b : UInt8)
@[go_sem] theorem Y_shr4 : (binOp .shr 5 (Y b) (.int .u64 4)).run Tryz.prog w = .ok (Y (b >>> 4)) w := by
  have e : ∀ b : UInt8, ((b >>> 4).toNat : Int) = (b.toNat : Int) / 16 := fun b => by
    rw [UInt8.toNat_shiftRight]
    show ((b.toNat >>> 4 : Nat) : Int) = _
    rw [Nat.shiftRight_eq_div_pow]
    rfl
  unfold Y
  rw [e]
  simp [go_sem]
@[go_sem] theorem Y_and15 : (binOp .and 5 (Y b) (.int .u8 15)).run Tryz.prog w = .ok (Y (b &&& 15)) w := by
  have e : (binOp .and 5 (Y b) (.int .u8 15)).run Tryz.prog w = .ok (.int .u8 (IntKind.u8.wrap ((BitVec.ofInt 8 (b.toNat : Int) &&& BitVec.ofInt 8 15).toNat : Int))) w := by kernel_rfl
  rw [e]
  have h : BitVec.ofInt 8 (b.toNat : Int) = b.toBitVec := by
    apply BitVec.eq_of_toNat_eq
    simp [BitVec.toNat_ofInt]
  rw [h]
  show _ = Result.ok (Value.int .u8 ((b &&& 15).toNat : Int)) w
  congr 2
  have h2 : (b &&& 15).toNat = (b.toBitVec &&& BitVec.ofInt 8 15).toNat := rfl
  rw [h2]
  have h3 : b.toNat &&& 15 ≤ 15 := Nat.and_le_right
  simp only [IntKind.wrap, IntKind.bits, IntKind.signed]
  simp
  omega
@[go_sem] theorem guardY_shr (t : TypeId) (p q : Operand) (v : Value) : (eqGuard .shr t p q (Y b) v).run Tryz.prog w = .ok () w := by
  unfold Y; simp [go_sem]
@[go_sem] theorem guardY_and (t : TypeId) (p q : Operand) (v : Value) : (eqGuard .and t p q (Y b) v).run Tryz.prog w = .ok () w := by
  unfold Y; simp [go_sem]
theorem run_index_digs (t : TypeId) (ht : Tryz.prog.underlying t = some .string) (h : b.toNat < 16) : (Instr.index t (.string ⟨#[48, 49, 50, 51, 52, 53, 54, 55, 56, 57, 97, 98, 99, 100, 101, 102]⟩) (Y b)).run Tryz.prog w = .ok (Y (hexD b)) w := by
  unfold Y
  have hs : (⟨#[48, 49, 50, 51, 52, 53, 54, 55, 56, 57, 97, 98, 99, 100, 101, 102]⟩ : ByteArray).size = 16 := rfl
  rw [run_index_string w t _ .u8 (b.toNat : Int) ht, dif_pos ⟨by omega, by omega⟩]
  simp only [Int.toNat_natCast]
  rw [byteAt_get _ b.toNat (by omega)]
  rfl
theorem shr4_lt : (b >>> 4).toNat < 16 := by
  have := b.toNat_lt
  rw [UInt8.toNat_shiftRight]
  show b.toNat >>> 4 < 16
  rw [Nat.shiftRight_eq_div_pow]
  omega
theorem and15_lt : (b &&& 15).toNat < 16 := by
  rw [UInt8.toNat_and]
  exact Nat.lt_of_le_of_lt Nat.and_le_right (by decide)
@[go_sem] theorem digs_hi : (Instr.index 9 (.string ⟨#[48, 49, 50, 51, 52, 53, 54, 55, 56, 57, 97, 98, 99, 100, 101, 102]⟩) (Y (b >>> 4))).run Tryz.prog w = .ok (Y (hexD (b >>> 4))) w := run_index_digs w _ _ Tryz.underlying9 (shr4_lt b)
@[go_sem] theorem digs_lo : (Instr.index 9 (.string ⟨#[48, 49, 50, 51, 52, 53, 54, 55, 56, 57, 97, 98, 99, 100, 101, 102]⟩) (Y (b &&& 15))).run Tryz.prog w = .ok (Y (hexD (b &&& 15))) w := run_index_digs w _ _ Tryz.underlying9 (and15_lt b)
end
section
variable {ops : Array Oper} {rest : List Oper} {o : Oper} {a : Act} {w : World} {Q : Exit → Act → World → Prop}
end

theorem P_ValidD (l : List UInt8) (w : World) (hl : l.length < 1099511627776) : Calls Tryz.prog 13 #[.string (ofL l)] w fun e w' => e = .returned (.bool (decide (l.length = 32))) ∧ w = w' := by
  by_cases h : l.length = 32
  · go_enter Tryz.func13, Tryz.ntmps13
    go_wp2
    go_ret
    exact ⟨by rw [decide_eq_true h]; simp [h], rfl⟩
  · have h2 : ((l.length : Int) == 32) = false := by simp; omega
    go_enter Tryz.func13, Tryz.ntmps13
    go_wp2
    go_ret
    exact ⟨by rw [decide_eq_false h]; simp [h2], rfl⟩

end Go.Proofs.YtppccnjckiedlaaGreatDoor
/- Contract of digest.Parse. -/
namespace Go.Proofs.YtppccnjckiedlaaGreatDoor
open Go.RowKit Sha
set_option linter.unusedVariables false
set_option linter.unusedSimpArgs false

def nib (c : UInt8) : Int := Lib.indexByte digs c
/-- The byte of two digits. -/
def pairB (a b : UInt8) : UInt8 := UInt8.ofNat ((nib a).toNat * 16 + (nib b).toNat)
def parseP (l : List UInt8) : Nat → List UInt8
  | 0 => []
  | k + 1 => parseP l k ++ [pairB (l.getD (2 * k) 0) (l.getD (2 * k + 1) 0)]
/-- Are all characters digits? -/
def allHex (l : List UInt8) : Bool := decide (∀ j ∈ List.range l.length, 0 ≤ nib (l.getD j 0))
def parseOk (l : List UInt8) : Bool := decide (l.length = 64) && allHex l
def parseD (l : List UInt8) : List UInt8 := if parseOk l = true then parseP l 32 else []
def parseE (l : List UInt8) : Int := if parseOk l = true then 0 else 11
end Go.Proofs.YtppccnjckiedlaaGreatDoor
/- Plain: the digest reckoned at closed texts: the schedule as a list. -/
namespace Go.Proofs.YtppccnjckiedlaaGreatDoor
namespace Sha
set_option linter.unusedVariables false
set_option linter.unusedSimpArgs false

/-- The schedule as a list, the newest word first. -/
def schL (m : Nat → W32) : Nat → List W32
  | 0 => [m 15, m 14, m 13, m 12, m 11, m 10, m 9, m 8, m 7, m 6, m 5, m 4, m 3, m 2, m 1, m 0]
  | k + 1 => ((schL m k).getD 15 0 + s0 ((schL m k).getD 14 0) + (schL m k).getD 6 0 + s1 ((schL m k).getD 1 0)) :: schL m k
end Sha
end Go.Proofs.YtppccnjckiedlaaGreatDoor
/- The sanity check of the digest laws returns true. -/
namespace Go.Proofs.YtppccnjckiedlaaGreatDoor
open Go.RowKit Sha
set_option linter.unusedVariables false
set_option linter.unusedSimpArgs false

/-- The digest of a string; its hexadecimal form; what is parsed out of a string; is it valid? -/
def DS (s : ByteArray) : ByteArray := ofL (ofB (bytes s))
def HS (s : ByteArray) : ByteArray := ofL (hexL (bytes s))
def PS (s : ByteArray) : ByteArray := ofL (parseD (bytes s))
def ES (s : ByteArray) : Int := parseE (bytes s)
def VS (s : ByteArray) : Bool := decide ((bytes s).length = 32)
theorem DS_size (s : ByteArray) : (DS s).size = 32 := by unfold DS; rw [ofL_size, ofB_length]
theorem bytes_lt {s : ByteArray} (h : s.size < 1099511627776) : (bytes s).length < 1099511627776 := by rw [bytes_length]; exact h
section
variable (s : ByteArray) (w : World)
theorem S_Of (h : s.size < 1099511627776) (gs : GAt 0 8 w Sha.start.at) (kt : GAt 1 64 w kW) : Calls Tryz.prog 26 #[.string s] w fun e w' => e = .returned (.string (DS s)) ∧ Below w.heap.size w w' := P_Of (bytes s) w (bytes_lt h) gs kt
theorem S_OfR (h : s.size < 1099511627776) : Calls Tryz.prog 61 #[.string s] w fun e w' => e = .returned (.string (DS s)) ∧ Below w.heap.size w w' := R_OfD (bytes s) w (bytes_lt h)
end
set_option maxHeartbeats 1000000 in
set_option maxRecDepth 20000 in
theorem P_Join_nil (w : World) (gs : GAt 0 8 w Sha.start.at) (kt : GAt 1 64 w kW) : Calls Tryz.prog 11 #[.slice none 0 0] w fun e w' => e = .returned (.string (DS ⟨#[]⟩)) ∧ Below w.heap.size w w' := by
  have B := Below.refl w.heap.size w
  have g0 := gs.lt
  have k0 := kt.lt
  go_enter Tryz.func11, Tryz.ntmps11
  go_wp2_with (first | (refine wpList_allocB rfl rfl ?_; intro b_bd wn hle hge ht hbn hzn; have hsz := B.size; replace B := B.trans (hbn.mono (by omega)); have hln := Nat.lt_of_lt_of_eq (Nat.lt_succ_self _) hzn.symm; clear hzn; (try first | (have hlt := gs.lt; replace gs := gs.of_eq (hbn.block _ (by omega))) | replace gs := gs.below (hbn.mono hle)); (try first | (have hlt := kt.lt; replace kt := kt.of_eq (hbn.block _ (by omega))) | replace kt := kt.below (hbn.mono hle)); have bd := ht; clear ht; simp only [Act.put, putS]))
  have hbd : w.heap.size ≤ b_bd := hle
  go_loopw [5, 8] (fun _ i wr => i = .int .i64 0 ∧ Below w.heap.size w wr ∧ HoldsB b_bd b_bd [] wr ∧ GAt 0 8 wr Sha.start.at ∧ GAt 1 64 wr kW) (fun _ _ _ => 0)
  case atStart => exact ⟨rfl, B, bd, gs, kt⟩
  case round =>
    clear B bd gs kt
    obtain ⟨rfl, B, bd, gs, kt⟩ := hrel
    have hbl := bd.lt
    go_wp2_with (first | (go_at_call 26; refine (S_Of _ _ (by decide) gs kt).mono ?_; rintro e wn ⟨rfl, hbn⟩; have hsz := B.size; have hzn := hbn.size; replace B := B.trans (hbn.mono B.size); (try first | replace gs := gs.of_eq (hbn.block _ gs.lt) | replace gs := gs.below hbn); (try first | replace kt := kt.of_eq (hbn.block _ kt.lt) | replace kt := kt.below hbn)) | (go_at_call 34; refine (L_String b_bd b_bd _ _ bd (Nat.le_of_lt bd.lt)).mono ?_; rintro e wn ⟨rfl, hbn⟩; have hsz := B.size; have hzn := hbn.size; replace B := B.trans (hbn.mono (by omega)); replace gs := gs.of_eq (hbn.block _ (by have := gs.lt; omega)); replace kt := kt.of_eq (hbn.block _ (by have := kt.lt; omega))))
    go_ret
    exact ⟨rfl, B⟩

attribute [irreducible] DS HS PS ES VS
end Go.Proofs.YtppccnjckiedlaaGreatDoor
/- What the two listed tables give the walks, and the contracts of what the digest laws share. -/
namespace Go.Proofs.YtppccnjckiedlaaGreatDoor
open Go.ChangeShapes Go.WideShapes Go.ChangeAt Go.RowKit Sha
set_option linter.unusedVariables false
set_option linter.unusedSimpArgs false

def laidD : List (String × DataW Unit) := [("gouache/digest.round", Rows.laid_gouache_digest_round), ("gouache/digest.start", Rows.laid_gouache_digest_start)]
theorem door_met (os : Os) (args : Array Value) : laidMetH Tryz.prog laidD ((World.doorLaid Tryz.prog 400 os).forCall (fun _ _ => 0) ⟨#[], args, []⟩).memory :=
  laidMetH_of_parts3 (fuel := 8) (laidMet_of_run' 8 (by kernel_rfl) (by kernel_rfl)) (by kernel_rfl) (by kernel_rfl)
def kInts : List Int := kList.map Int.ofNat
def sInts : List Int := [1779033703, 3144134277, 1013904242, 2773480762, 1359893119, 2600822924, 528734635, 1541459225]
theorem gRound : Tryz.prog.globalNamed "gouache/digest.round" = some 1 := by kernel_rfl
theorem gStart : Tryz.prog.globalNamed "gouache/digest.start" = some 0 := by kernel_rfl
theorem kInts_at : ∀ i, i < 64 → (Value.int .u32 (kInts.getD i 0)) = U (kW i) := by
  have h : ∀ i ∈ List.range 64, kInts.getD i 0 = ((kW i).toNat : Int) := by decide +kernel
  intro i hi
  rw [h i (List.mem_range.2 hi)]
  rfl
theorem sInts_at : ∀ i, i < 8 → (Value.int .u32 (sInts.getD i 0)) = U (Sha.start.at i) := by
  have h : ∀ i ∈ List.range 8, sInts.getD i 0 = ((Sha.start.at i).toNat : Int) := by decide +kernel
  intro i hi
  rw [h i (List.mem_range.2 hi)]
  rfl
theorem gat_of_tab {W : World} {name : String} {g n : Nat} {zs : List Int} {f : Nat → W32} (h : Lib.TabIs Tryz.prog W name .u32 zs) (hg : Tryz.prog.globalNamed name = some g) (hn : zs.length = n) (h0 : 0 < n) (hf : ∀ i, i < n → Value.int .u32 (zs.getD i 0) = U (f i)) : GAt g n W f := by
  have hc : ∀ i, i < n → W.cell? ⟨g, i, none⟩ = some (U (f i)) := fun i hi => by
    rw [h.cell hg i (by omega), hf i hi]
  refine ⟨?_, hc⟩
  have := hc 0 h0
  rcases Nat.lt_or_ge g W.heap.size with k | k
  · exact k
  · unfold World.cell? at this
    rw [Array.getElem?_eq_none k] at this
    cases this
/-- WHAT THE CONDITION GIVES THE WALKS. -/
theorem of_laid {W : World} (h : laidMetH Tryz.prog laidD W) : GAt 0 8 W Sha.start.at ∧ GAt 1 64 W kW := by
  rw [MakeChecks.laidMetH_plain _ _ _ (by kernel_rfl)] at h
  have h1 : laidMet Tryz.prog (("gouache/digest.round", Lib.tabData .u32 kInts) :: [("gouache/digest.start", Rows.laid_gouache_digest_start)]) W := h
  have h2 : laidMet Tryz.prog (("gouache/digest.start", Lib.tabData .u32 sInts) :: []) W := laidMet.tail h
  have t1 := Lib.tabIs_of_head gRound (by kernel_rfl) Tryz.underlying128 Tryz.underlying106 (by kernel_rfl) (by kernel_rfl) h1
  have t2 := Lib.tabIs_of_head gStart (by kernel_rfl) Tryz.underlying109 Tryz.underlying106 (by kernel_rfl) (by kernel_rfl) h2
  exact ⟨gat_of_tab t2 gStart rfl (by omega) sInts_at, gat_of_tab t1 gRound rfl (by omega) kInts_at⟩

end Go.Proofs.YtppccnjckiedlaaGreatDoor
/- Lists of strings in memory; contracts of Join, of the reference's Preimage and Join. -/
namespace Go.Proofs.YtppccnjckiedlaaGreatDoor
open Go.RowKit Sha
set_option linter.unusedVariables false
set_option linter.unusedSimpArgs false

/-- The string number k. -/
def sAt (ls : List ByteArray) (k : Nat) : ByteArray := ls.getD k ⟨#[]⟩
/-- What is hashed for the first k strings. -/
def joinP (ls : List ByteArray) : Nat → List UInt8
  | 0 => []
  | k + 1 => joinP ls k ++ big (sAt ls k).size 8 ++ bytes (sAt ls k)
theorem joinP_next (ls : List ByteArray) (k : Nat) : joinP ls (k + 1) = joinP ls k ++ big (sAt ls k).size 8 ++ bytes (sAt ls k) := rfl
theorem joinP_length (ls : List ByteArray) (M : Nat) (h : ∀ k, (sAt ls k).size ≤ M) (k : Nat) : (joinP ls k).length ≤ k * (M + 8) := by
  induction k with
  | zero => exact Nat.zero_le _
  | succ k ih =>
    rw [joinP_next, List.length_append, List.length_append, big_length, bytes_length, Nat.succ_mul]
    have := h k
    omega
/-- The strings' cells. -/
def SCells (g o : Nat) (ls : List ByteArray) (w : World) : Prop := g < w.heap.size ∧ ∀ i, i < ls.length → w.cell? ⟨g, o + i, none⟩ = some (.string (sAt ls i))
section
variable {g o : Nat} {w : World} {ls : List ByteArray}
theorem SCells.lt (h : SCells g o ls w) : g < w.heap.size := h.1
theorem SCells.of_eq {w' : World} (h : SCells g o ls w) (e : w'.heap[g]? = w.heap[g]?) : SCells g o ls w' := by
  refine ⟨?_, fun i hi => ?_⟩
  · have := h.1
    rcases Nat.lt_or_ge g w'.heap.size with k | k
    · exact k
    · rw [Array.getElem?_eq_none k, Array.getElem?_eq_getElem this] at e
      cases e
  · rw [World.cell?_of_block (w := w) e]
    exact h.2 i hi
theorem ov_s (h : SCells g o ls w) : ∀ w', (∃ u, w' = ov w u) → SCells g o ls w' := by
  rintro w' ⟨u, rfl⟩
  exact h.of_eq ((ov_below w u).block _ h.lt)
theorem run_load_str (h : SCells g o ls w) {i : Nat} (hi : i < ls.length) : (Instr.loadAt 9 (.pointer (some ⟨g, o + i, none⟩))).run Tryz.prog w = .ok (.string (sAt ls i)) w := by
  have c := h.2 i hi
  simp [go_sem, c]
end

set_option maxHeartbeats 1000000 in
set_option maxRecDepth 20000 in
theorem P_Join (g o c : Nat) (ls : List ByteArray) (w : World) (sc : SCells g o ls w) (hn : ls.length ≤ 1000) (hM : ∀ k, (sAt ls k).size ≤ 100000) (gs : GAt 0 8 w Sha.start.at) (kt : GAt 1 64 w kW) : Calls Tryz.prog 11 #[.slice (some ⟨g, o, none⟩) ls.length c] w fun e w' => e = .returned (.string (DS (ofL (joinP ls ls.length)))) ∧ Below w.heap.size w w' := by
  have B := Below.refl w.heap.size w
  have g0 := gs.lt
  have k0 := kt.lt
  have s0 := sc.lt
  go_enter Tryz.func11, Tryz.ntmps11
  go_wp2_with (first | (refine wpList_allocB rfl rfl ?_; intro b_bd wn hle hge ht hbn hzn; have hsz := B.size; replace B := B.trans (hbn.mono (by omega)); have hln := Nat.lt_of_lt_of_eq (Nat.lt_succ_self _) hzn.symm; clear hzn; (try first | (have hlt := gs.lt; replace gs := gs.of_eq (hbn.block _ (by omega))) | replace gs := gs.below (hbn.mono hle)); (try first | (have hlt := kt.lt; replace kt := kt.of_eq (hbn.block _ (by omega))) | replace kt := kt.below (hbn.mono hle)); (try first | (have hlt := sc.lt; replace sc := sc.of_eq (hbn.block _ (by omega))) | replace sc := sc.below (hbn.mono hle)); have bd := ht; clear ht; simp only [Act.put, putS]))
  have hbd : w.heap.size ≤ b_bd := by omega
  go_loopw [5, 8] (fun _ i wr => ∃ k : Nat, k ≤ ls.length ∧ i = .int .i64 k ∧ Below w.heap.size w wr ∧ HoldsB b_bd b_bd (joinP ls k) wr ∧ GAt 0 8 wr Sha.start.at ∧ GAt 1 64 wr kW ∧ SCells g o ls wr) (fun _ i _ => ((ls.length : Int) - intOf i).toNat)
  case atStart => exact ⟨0, by omega, rfl, B, bd, gs, kt, sc⟩
  case round =>
    clear B bd gs kt sc
    obtain ⟨k, hk, rfl, B, bd, gs, kt, sc⟩ := hrel
    have hjl := joinP_length ls 100000 hM k
    have hjl2 : (joinP ls k).length ≤ 108000000 := by omega
    clear hjl
    have hbl := bd.lt
    by_cases hlt : k < ls.length
    · have hmk := hM k
      go_wp2_with (first | (go_at_call 7; refine (P_Put8 _ (by omega) _).mono ?_; rintro e wn ⟨rfl, hbn⟩; have hsz := B.size; have hzn := hbn.size; replace B := B.trans (hbn.mono B.size); replace bd := bd.below hbn; (try first | replace gs := gs.of_eq (hbn.block _ gs.lt) | replace gs := gs.below hbn); (try first | replace kt := kt.of_eq (hbn.block _ kt.lt) | replace kt := kt.below hbn); (try first | replace sc := sc.of_eq (hbn.block _ sc.lt) | replace sc := sc.below hbn)) | (go_at_call 33; refine (L_WriteString b_bd b_bd _ _ _ bd (by first | (rw [ofL_size, big_length]; omega) | (rw [List.length_append, bytes_ofL, big_length]; omega)) (Nat.le_of_lt bd.lt)).mono ?_; rintro e wn ⟨rfl, ht, hbn⟩; have hsz := B.size; have hzn := hbn.size; replace B := B.trans (hbn.mono (by omega)); replace bd := ht; clear ht; (try replace gs := gs.of_eq (hbn.block _ (by omega))); (try replace kt := kt.of_eq (hbn.block _ (by omega))); (try replace sc := sc.of_eq (hbn.block _ (by omega)))) | (refine wpList_loadAny (t := 9) rfl _ rfl _ _ _ rfl (run_load_str sc hlt) (by first | rfl | omega) ?_; simp only [Act.put, putS]))
      rw [bytes_ofL, ← joinP_next] at bd
      go_roundw
      case rel => exact ⟨k + 1, by omega, by go_num, B, bd, gs, kt, sc⟩
      case measure => simp [intOf]; omega
    · obtain rfl : k = ls.length := by omega
      go_wp2_with (first | (go_at_call 26; refine (S_Of _ _ (by rw [ofL_size]; omega) gs kt).mono ?_; rintro e wn ⟨rfl, hbn⟩; have hsz := B.size; have hzn := hbn.size; replace B := B.trans (hbn.mono B.size); (try first | replace gs := gs.of_eq (hbn.block _ gs.lt) | replace gs := gs.below hbn); (try first | replace kt := kt.of_eq (hbn.block _ kt.lt) | replace kt := kt.below hbn)) | (go_at_call 34; refine (L_String b_bd b_bd _ _ bd (Nat.le_of_lt bd.lt)).mono ?_; rintro e wn ⟨rfl, hbn⟩; have hsz := B.size; have hzn := hbn.size; replace B := B.trans (hbn.mono (by omega)); replace gs := gs.of_eq (hbn.block _ (by omega)); replace kt := kt.of_eq (hbn.block _ (by omega))))
      go_ret
      exact ⟨rfl, B⟩

@[go_sem] theorem ofL_append_sAt (a : List UInt8) (ls : List ByteArray) (k : Nat) : ofL a ++ sAt ls k = ofL (a ++ bytes (sAt ls k)) := ofL_append a (bytes (sAt ls k))
set_option maxHeartbeats 1000000 in
set_option maxRecDepth 20000 in
theorem R_Preimage (g o c : Nat) (ls : List ByteArray) (w : World) (sc : SCells g o ls w) (hn : ls.length ≤ 1000) (hM : ∀ k, (sAt ls k).size ≤ 100000) : Calls Tryz.prog 63 #[.slice (some ⟨g, o, none⟩) ls.length c] w fun e w' => e = .returned (.string (ofL (joinP ls ls.length))) ∧ Below w.heap.size w w' := by
  have B := Below.refl w.heap.size w
  go_enter Tryz.func63, Tryz.ntmps63
  go_wp2
  go_loopw [3, 4] (fun d i wr => ∃ k : Nat, k ≤ ls.length ∧ d = .string (ofL (joinP ls k)) ∧ i = .int .i64 k ∧ Below w.heap.size w wr ∧ SCells g o ls wr) (fun _ i _ => ((ls.length : Int) - intOf i).toNat)
  case atStart => exact ⟨0, by omega, rfl, rfl, B, sc⟩
  case round =>
    clear B sc
    obtain ⟨k, hk, rfl, rfl, B, sc⟩ := hrel
    have hjl := joinP_length ls 100000 hM k
    have hjl2 : (joinP ls k).length ≤ 108000000 := by omega
    clear hjl
    by_cases hlt : k < ls.length
    · have hmk := hM k
      go_wp2
      refine wp_region_ov (by kernel_rfl) (by kernel_rfl) ?_
      repeat (first | go_big_quiet_skip | (go_big_quiet_want; first | (refine quiet_loadAny (t := 9) rfl _ _ _ rfl (fun w hw => run_load_str (ov_s sc w hw) hlt) (by first | rfl | omega) ?_; simp only [Act.put, putS]; go_big_quiet_on) | (go_big_quiet_op; first | go_big_quiet_on | go_big_quiet_call ((first | (go_at_call 30; exact calls_ov (R_Big8 _ (by omega) _)))))))
      refine wpQuiet_nil ?_
      intro wn hbn
      have hsz := B.size
      have hzn := hbn.size
      replace B := B.trans (hbn.mono B.size)
      try first | replace sc := sc.of_eq (hbn.block _ sc.lt) | replace sc := sc.below hbn
      go_wp2
      go_roundw
      case rel => exact ⟨k + 1, by omega, by rw [joinP_next, List.append_assoc], by go_num, B, sc⟩
      case measure => simp [intOf]; omega
    · obtain rfl : k = ls.length := by omega
      go_wp2
      go_ret
      exact ⟨rfl, B⟩

set_option maxHeartbeats 1000000 in
set_option maxRecDepth 20000 in
theorem R_Join (g o c : Nat) (ls : List ByteArray) (w : World) (sc : SCells g o ls w) (hn : ls.length ≤ 1000) (hM : ∀ k, (sAt ls k).size ≤ 100000) : Calls Tryz.prog 32 #[.slice (some ⟨g, o, none⟩) ls.length c] w fun e w' => e = .returned (.string (DS (ofL (joinP ls ls.length)))) ∧ Below w.heap.size w w' := by
  have B := Below.refl w.heap.size w
  have hjl := joinP_length ls 100000 hM ls.length
  have hjl2 : (joinP ls ls.length).length ≤ 108000000 := by omega
  clear hjl
  go_enter Tryz.func32, Tryz.ntmps32
  go_wp2_with (first | (go_at_call 63; refine (R_Preimage _ _ _ _ _ sc hn hM).mono ?_; rintro e wn ⟨rfl, hbn⟩; have hsz := B.size; have hzn := hbn.size; replace B := B.trans (hbn.mono B.size)) | (go_at_call 61; refine (S_OfR _ _ (by rw [ofL_size]; omega)).mono ?_; rintro e wn ⟨rfl, hbn⟩; have hsz := B.size; have hzn := hbn.size; replace B := B.trans (hbn.mono B.size)))
  go_ret
  exact ⟨rfl, B⟩
end Go.Proofs.YtppccnjckiedlaaGreatDoor
/- Slices of strings that the call itself has made and appends to. -/
namespace Go.Proofs.YtppccnjckiedlaaGreatDoor
open Go.RowKit Sha
set_option linter.unusedVariables false
set_option linter.unusedSimpArgs false

def strC (ls : List ByteArray) : List Value := ls.map Value.string
/-- v is a slice of the strings ls, in a row that the call owns (from block B on). -/
def OwnS (B : Nat) (v : Value) (ls : List ByteArray) (w : World) : Prop := w.ownsRow B 9 1 v ls.length (strC ls)
section
variable {B : Nat} {v : Value} {ls : List ByteArray} {w : World}
theorem OwnS.below {w' : World} (h : OwnS B v ls w) (hb : Below w.heap.size w w') : OwnS B v ls w' :=
  World.ownsRow.kept (row := none) h ⟨hb.os, hb.tape, hb.output, hb.size, fun k hk _ => hb.block k hk⟩ (Classical.em _)
/-- Its cells, where it is not nil. -/
theorem OwnS.scells (h : OwnS B v ls w) : (v = .slice none 0 0 ∧ ls = []) ∨ ∃ g c, v = .slice (some ⟨g, 0, none⟩) ls.length c ∧ B ≤ g ∧ SCells g 0 ls w := by
  obtain ⟨h1, h2⟩ := h
  rcases h2 with ⟨rfl, h0⟩ | ⟨g, cap, cur, rfl, hb, hg, hn, hm, hs, ht⟩
  · exact .inl ⟨rfl, List.eq_nil_of_length_eq_zero h0⟩
  · refine .inr ⟨g, cap, rfl, hb, (Array.getElem?_eq_some_iff.1 hg).1, fun i hi => ?_⟩
    have e : cur[i]? = some (.string (sAt ls i)) := by
      have := congrArg (fun x : List Value => x[i]?) ht
      simp only [Nat.mul_one, strC, List.getElem?_map, List.getElem?_eq_getElem hi, Option.map_some] at this
      rw [List.getElem?_take_of_lt hi, Array.getElem?_toList] at this
      rw [this]
      unfold sAt
      rw [List.getD_eq_getElem?_getD, List.getElem?_eq_getElem hi]
      rfl
    rw [Nat.zero_add, cell_of_row w g i cur _ (0, 0) hg, e]
end
section
variable {ops : Array Oper} {rest : List Oper} {o : Oper} {a : Act} {w : World} {Q : Exit → Act → World → Prop}
end
theorem run_bsE (w : World) (o : Oper) (ho : o.op = .buildSlice 33 0 #[]) (a : Act) : (execOp a.eval o).run Tryz.prog w = .ok (.value (.slice (some ⟨w.heap.size, 0, none⟩) 0 0)) (w.alloc (.cells #[] 9)) := by
  obtain ⟨d, p, t, ps, af, gd⟩ := o
  simp only at ho
  subst ho
  kernel_rfl
section
variable {ops : Array Oper} {rest : List Oper} {o : Oper} {a : Act} {w : World} {Q : Exit → Act → World → Prop}
theorem wpList_bsE (hg : o.guard = none) (ho : o.op = .buildSlice 33 0 #[])
    (h : ∀ b w', w.heap.size ≤ b → b ≤ w.heap.size → OwnS b (.slice (some ⟨b, 0, none⟩) 0 0) [] w' → Below b w w' → w'.heap.size = b + 1 → wpList Tryz.prog ops Q rest (a.put o.dst (.slice (some ⟨b, 0, none⟩) 0 0)) w') : wpList Tryz.prog ops Q (o :: rest) a w :=
  wpList_plain hg fun K hK => by
    unfold Oper.wp
    rw [run_bsE w o ho a]
    exact hK _ _ (h _ _ (Nat.le_refl _) (Nat.le_refl _) ⟨rfl, .inr ⟨w.heap.size, 0, #[], rfl, Nat.le_refl _, by rw [heap_get_alloc, if_pos rfl], Nat.le_refl _, by unfold maxLen; omega, rfl, rfl⟩⟩ ((Below.refl _ _).alloc (Nat.le_refl _) _) (World.size_alloc _ _))
end
/-- The first k strings, cut to 60 bytes. -/
def cutP (ps : List ByteArray) : Nat → List ByteArray
  | 0 => []
  | k + 1 => cutP ps k ++ [(sAt ps k).extract 0 (min (sAt ps k).size 60)]
end Go.Proofs.YtppccnjckiedlaaGreatDoor
/- DigestJoin: for every list of strings, Join agrees with the reference implementation: the law returns true for every input, and its argument reads as it did. The two tables of package digest hold what the program's text lays. No other condition. -/
namespace Go.Proofs.YtppccnjckiedlaaGreatDoor
open Go.RowKit Sha Go.ChangeShapes Go.WideShapes Go.ChangeAt
set_option linter.unusedVariables false
set_option linter.unusedSimpArgs false

/-- How a list of strings lies at the call. -/
def StrsAt (v : Value) (w : World) : Prop := (∃ a c, v = .slice a 0 c) ∨ ∃ g o c ps, v = .slice (some ⟨g, o, none⟩) ps.length c ∧ SCells g o ps w ∧ (∀ k, (sAt ps k).size ≤ maxLen) ∧ ps.length ≤ maxLen
section
variable {H : Type} {enc : TypeId × Value → H} {w : World} {base : Nat} {spare : Nat → Bool} {held : Bool}
end
set_option maxHeartbeats 1000000 in
theorem R_Preimage_nil (w : World) : Calls Tryz.prog 63 #[.slice none 0 0] w fun e w' => e = .returned (.string ⟨#[]⟩) ∧ Below w.heap.size w w' := by
  have B := Below.refl w.heap.size w
  go_enter Tryz.func63, Tryz.ntmps63
  go_wp2
  go_loopw [3, 4] (fun d i wr => d = .string ⟨#[]⟩ ∧ i = .int .i64 0 ∧ Below w.heap.size w wr) (fun _ i _ => 0)
  case atStart => exact ⟨rfl, rfl, B⟩
  case round =>
    clear B
    obtain ⟨rfl, rfl, B⟩ := hrel
    go_wp2
    go_ret
    exact ⟨rfl, B⟩
set_option maxHeartbeats 1000000 in
theorem R_Join_nil (w : World) : Calls Tryz.prog 32 #[.slice none 0 0] w fun e w' => e = .returned (.string (DS ⟨#[]⟩)) ∧ Below w.heap.size w w' := by
  have B := Below.refl w.heap.size w
  go_enter Tryz.func32, Tryz.ntmps32
  go_wp2_with (first | (go_at_call 63; refine (R_Preimage_nil _).mono ?_; rintro e wn ⟨rfl, hbn⟩; have hsz := B.size; have hzn := hbn.size; replace B := B.trans (hbn.mono B.size)) | (go_at_call 61; refine (S_OfR _ _ (by decide)).mono ?_; rintro e wn ⟨rfl, hbn⟩; have hsz := B.size; have hzn := hbn.size; replace B := B.trans (hbn.mono B.size)))
  go_ret
  exact ⟨rfl, B⟩
theorem StrsAt.below {v : Value} {w w' : World} (h : StrsAt v w) (hb : Below w.heap.size w w') : StrsAt v w' := by
  rcases h with h | ⟨g, o, c, ps, e, sc, hM, hn⟩
  · exact .inl h
  · exact .inr ⟨g, o, c, ps, e, sc.of_eq (hb.block _ sc.lt), hM, hn⟩
namespace digestJoin
open Go.ChangeShapes Go.WideShapes Go.ChangeAt Go.RowKit
open Go.ChangeMaps (open_string shut_string)
end digestJoin

end Go.Proofs.YtppccnjckiedlaaGreatDoor
/- Lists of strings that a law has made, nil or not; Join of them; slices built of one and two strings. -/
namespace Go.Proofs.YtppccnjckiedlaaGreatDoor
open Go.RowKit Sha
set_option linter.unusedVariables false
set_option linter.unusedSimpArgs false

/-- v is a slice of the strings ls. -/
def LS (v : Value) (ls : List ByteArray) (w : World) : Prop := (v = .slice none 0 0 ∧ ls = []) ∨ ∃ g c, v = .slice (some ⟨g, 0, none⟩) ls.length c ∧ SCells g 0 ls w
theorem OwnS.ls {B : Nat} {v : Value} {ls : List ByteArray} {w : World} (h : OwnS B v ls w) : LS v ls w := by
  rcases h.scells with h | ⟨g, c, e, _, sc⟩
  · exact .inl h
  · exact .inr ⟨g, c, e, sc⟩
theorem LS.below {v : Value} {ls : List ByteArray} {w w' : World} (h : LS v ls w) (hb : Below w.heap.size w w') : LS v ls w' := by
  rcases h with h | ⟨g, c, e, sc⟩
  · exact .inl h
  · exact .inr ⟨g, c, e, sc.of_eq (hb.block _ sc.lt)⟩
theorem LS.len {v : Value} {ls : List ByteArray} {w : World} (h : LS v ls w) : ∃ a c, v = .slice a ls.length c := by
  rcases h with ⟨rfl, rfl⟩ | ⟨g, c, e, sc⟩
  · exact ⟨none, 0, rfl⟩
  · exact ⟨_, c, e⟩
def JL (ls : List ByteArray) : ByteArray := DS (ofL (joinP ls ls.length))
theorem JL_size (ls : List ByteArray) : (JL ls).size = 32 := DS_size _
section
variable {v : Value} {ls : List ByteArray} {w : World}
theorem P_JoinL (h : LS v ls w) (hn : ls.length ≤ 1000) (hM : ∀ k, (sAt ls k).size ≤ 100000) (gs : GAt 0 8 w Sha.start.at) (kt : GAt 1 64 w kW) : Calls Tryz.prog 11 #[v] w fun e w' => e = .returned (.string (JL ls)) ∧ Below w.heap.size w w' := by
  rcases h with ⟨rfl, rfl⟩ | ⟨g, c, rfl, sc⟩
  · exact P_Join_nil w gs kt
  · exact P_Join _ _ _ _ _ sc hn hM gs kt
end
theorem run_bs2 (w : World) (o : Oper) (x y : Operand) (ho : o.op = .buildSlice 33 2 #[(0, x), (1, y)]) (ev : Operand → Value) (s t : ByteArray) (hx : ev x = .string s) (hy : ev y = .string t) : (execOp ev o).run Tryz.prog w = .ok (.value (.slice (some ⟨w.heap.size, 0, none⟩) 2 2)) (w.alloc (.cells #[.string s, .string t] 9)) := by
  obtain ⟨d, p, t, ps, af, gd⟩ := o
  simp only at ho
  subst ho
  unfold execOp
  simp only [List.map_toArray, List.map_cons, List.map_nil, hx, hy]
  kernel_rfl
section
variable {ops : Array Oper} {rest : List Oper} {o : Oper} {a : Act} {w : World} {Q : Exit → Act → World → Prop}
theorem wpList_bsS2 (hg : o.guard = none) (x y : Operand) (ho : o.op = .buildSlice 33 2 #[(0, x), (1, y)]) (s t : ByteArray) (hx : a.eval x = .string s) (hy : a.eval y = .string t)
    (h : ∀ b w', w.heap.size ≤ b → b ≤ w.heap.size → LS (.slice (some ⟨b, 0, none⟩) 2 2) [s, t] w' → Below b w w' → w'.heap.size = b + 1 → wpList Tryz.prog ops Q rest (a.put o.dst (.slice (some ⟨b, 0, none⟩) 2 2)) w') : wpList Tryz.prog ops Q (o :: rest) a w :=
  wpList_plain hg fun K hK => by
    unfold Oper.wp
    rw [run_bs2 w o x y ho _ s t hx hy]
    have hb : (w.alloc (.cells #[.string s, .string t] 9)).heap[w.heap.size]? = some (.cells #[.string s, .string t] 9 (0, 0)) := by rw [heap_get_alloc, if_pos rfl]
    refine hK _ _ (h _ _ (Nat.le_refl _) (Nat.le_refl _) (.inr ⟨w.heap.size, 2, rfl, by rw [World.size_alloc]; omega, fun i hi => ?_⟩) ((Below.refl _ _).alloc (Nat.le_refl _) _) (World.size_alloc _ _))
    rw [(cells_of_block hb).1, Nat.zero_add]
    match i, hi with
    | 0, _ => rfl
    | 1, _ => rfl
end
theorem LS.at {a : Option Addr} {n c : Nat} {ls : List ByteArray} {w : World} (h : LS (.slice a n c) ls w) (hn : 0 < ls.length) : ∃ g, a = some ⟨g, 0, none⟩ ∧ SCells g 0 ls w := by
  rcases h with ⟨_, rfl⟩ | ⟨g, c', e, sc⟩
  · exact absurd hn (by decide)
  · injection e with e1 e2 e3
    exact ⟨g, e1, sc⟩
/-! ### Preimages are equal only of equal lists -/
/-- Are the lists equal, as far as the first k elements tell? -/
def sameK (xs ys : List ByteArray) : Nat → Bool
  | 0 => decide (xs.length = ys.length)
  | k + 1 => sameK xs ys k && decide (sAt xs k = sAt ys k)
end Go.Proofs.YtppccnjckiedlaaGreatDoor
/- Plain arithmetic of 8-bit compositing, in Int: what package pixel and its reference compute. -/
namespace Go.Proofs.YtppccnjckiedlaaGreatDoor.Pl

def clampI (n : Int) : Int := max 0 (min n 255)
def roundI (n d : Int) : Int := (2 * n + d) / (2 * d)
def mulI (a b : Int) : Int := roundI (clampI a * clampI b) 255
def scrI (b s : Int) : Int := b + s - mulI b s
def hardI (b s : Int) : Int := if s < 128 then mulI b (2 * s) else scrI b (2 * s - 255)
def dodgeI (b s : Int) : Int := if b = 0 then 0 else if s = 255 then 255 else min 255 (255 * b / (255 - s))
def burnI (b s : Int) : Int := if b = 255 then 255 else if s = 0 then 0 else 255 - min 255 (255 * (255 - b) / s)
def softI (b s : Int) : Int := min 255 (mulI (255 - b) (mulI b s) + mulI b (scrI b s))
def absI (x : Int) : Int := max x (-x)

theorem mul_bd {a b : Int} {m k : Int} (ha : 0 ≤ a) (ha' : a ≤ m) (hb : 0 ≤ b) (hb' : b ≤ k) : 0 ≤ a * b ∧ a * b ≤ m * k :=
  ⟨Int.mul_nonneg ha hb, Int.mul_le_mul ha' hb' hb (by omega)⟩
/-- The sixteen modes; all others are Normal. -/
def modeI (m b s : Int) : Int :=
  if m = 1 then mulI b s else if m = 2 then scrI b s else if m = 3 then hardI s b else if m = 4 then min b s else if m = 5 then max b s
  else if m = 6 then dodgeI b s else if m = 7 then burnI b s else if m = 8 then hardI b s else if m = 9 then softI b s else if m = 10 then max (b - s) (s - b)
  else if m = 11 then max 0 (b + s - 2 * mulI b s) else if m = 12 then min 255 (b + s) else if m = 13 then max 0 (b - s) else if m = 14 then (b + s + 1) / 2
  else if m = 15 then 255 - max (255 - b - s) (s - (255 - b)) else s
def blendI (m b s : Int) : Int := modeI m (clampI b) (clampI s)

/-! ### Pixels -/
structure Px where
  r : Int
  g : Int
  b : Int
  a : Int
/-- Every channel is a byte. -/
def Px.ok (p : Px) : Prop := (0 ≤ p.r ∧ p.r ≤ 255) ∧ (0 ≤ p.g ∧ p.g ≤ 255) ∧ (0 ≤ p.b ∧ p.b ≤ 255) ∧ (0 ≤ p.a ∧ p.a ≤ 255)
def Px.zero : Px := ⟨0, 0, 0, 0⟩
theorem Px.zero_ok : Px.zero.ok := by unfold Px.ok Px.zero; simp
def cleanP (p : Px) : Px := if p.a = 0 then Px.zero else p
theorem cleanP_ok {p : Px} (h : p.ok) : (cleanP p).ok := by unfold cleanP; split; exact Px.zero_ok; exact h
def fadeP (p : Px) (c : Int) : Px := cleanP { p with a := mulI p.a c }
/-! Over -/
def overW (u v : Int) : Int := 255 * u + 255 * v - u * v
def overN (m u v b s : Int) : Int := u * (255 - v) * s + u * v * blendI m b s + (255 - u) * v * b
def overC (m u v b s : Int) : Int := roundI (overN m u v b s) (overW u v)
def overP (q p : Px) (m c : Int) : Px :=
  if overW (mulI p.a c) q.a = 0 then Px.zero else
    ⟨overC m (mulI p.a c) q.a q.r p.r, overC m (mulI p.a c) q.a q.g p.g, overC m (mulI p.a c) q.a q.b p.b, roundI (overW (mulI p.a c) q.a) 255⟩

/-! Mix -/
def mixC (p q x y : Int) : Int := roundI (p * x + q * y) (p + q)
def mixP (a b : Px) (t : Int) : Px :=
  if roundI (a.a * (255 - clampI t) + b.a * clampI t) 255 = 0 then Px.zero else
    ⟨mixC (a.a * (255 - clampI t)) (b.a * clampI t) a.r b.r, mixC (a.a * (255 - clampI t)) (b.a * clampI t) a.g b.g, mixC (a.a * (255 - clampI t)) (b.a * clampI t) a.b b.b, roundI (a.a * (255 - clampI t) + b.a * clampI t) 255⟩
end Go.Proofs.YtppccnjckiedlaaGreatDoor.Pl
/- Contracts of the arithmetic functions of package pixel and of its reference: each returns what the plain function of the same name says, and leaves the world alone. -/
namespace Go.Proofs.YtppccnjckiedlaaGreatDoor
open Go.RowKit Pl
set_option linter.unusedVariables false
set_option linter.unusedSimpArgs false

theorem ret_int {k : IntKind} {a b : Int} (h : a = b) : Ending.returned (.int k a) = .returned (.int k b) := by rw [h]

end Go.Proofs.YtppccnjckiedlaaGreatDoor
/- Contracts of the blend functions of package pixel (each closure and function of 'functions') and of the reference's: each returns what the plain function says, and leaves the world alone. -/
namespace Go.Proofs.YtppccnjckiedlaaGreatDoor
open Go.RowKit Pl
set_option linter.unusedVariables false
set_option linter.unusedSimpArgs false

end Go.Proofs.YtppccnjckiedlaaGreatDoor
/- Contracts of 'functions' and 'Blend' of package pixel and of the reference's Blend. -/
namespace Go.Proofs.YtppccnjckiedlaaGreatDoor
open Go.RowKit Pl
set_option linter.unusedVariables false
set_option linter.unusedSimpArgs false

end Go.Proofs.YtppccnjckiedlaaGreatDoor
/- Contracts of Blend of package pixel. -/
namespace Go.Proofs.YtppccnjckiedlaaGreatDoor
open Go.RowKit Pl
set_option linter.unusedVariables false
set_option linter.unusedSimpArgs false

end Go.Proofs.YtppccnjckiedlaaGreatDoor
/- Contracts of the closures of package pixel, of 'channels', Clean, Fade, and of the reference's. -/
namespace Go.Proofs.YtppccnjckiedlaaGreatDoor
open Go.RowKit Pl
set_option linter.unusedVariables false
set_option linter.unusedSimpArgs false

def Px.v (p : Px) : Value := .agg #[.int .u8 p.r, .int .u8 p.g, .int .u8 p.b, .int .u8 p.a]

/-- A function value of two ints: what it does from the world w0 on. -/
def Clo (F : Nat) (caps : Array Value) (φ : Int → Int → Int) (w0 : World) : Prop :=
  ∀ (x y : Int) (wx : World), Below w0.heap.size w0 wx → 0 ≤ x → x ≤ 255 → 0 ≤ y → y ≤ 255 →
    Calls Tryz.prog F (#[.int .i64 x, .int .i64 y] ++ caps) wx fun e w' => e = .returned (.int .i64 (φ x y)) ∧ Below wx.heap.size wx w'

end Go.Proofs.YtppccnjckiedlaaGreatDoor
/- How this seat's arguments are opened: pixels, pairs of integers. -/
namespace Go.Proofs.YtppccnjckiedlaaGreatDoor
open Go.ChangeShapes Go.WideShapes Go.ChangeAt Go.RowKit Pl
set_option linter.unusedVariables false
set_option linter.unusedSimpArgs false
set_option maxRecDepth 20000

theorem own : ownKnob Tryz.prog.godebug = none := by kernel_rfl
theorem laidOut : laidOutB Tryz.prog = true := by kernel_rfl

section
variable {H : Type} {enc : TypeId × Value → H} {w : World} {base : Nat} {spare : Nat → Bool} {held : Bool}

end

end Go.Proofs.YtppccnjckiedlaaGreatDoor
/- Plain: tiles as functions from indexes to pixels, and their cells. -/
namespace Go.Proofs.YtppccnjckiedlaaGreatDoor
open Go.RowKit Pl
set_option linter.unusedVariables false
set_option linter.unusedSimpArgs false
set_option maxRecDepth 20000

/-- The cell number j (0 to 3) of a pixel. -/
def pxC (p : Px) (j : Nat) : Value := if j = 0 then .int .u8 p.r else if j = 1 then .int .u8 p.g else if j = 2 then .int .u8 p.b else .int .u8 p.a
/-- The 256 cells of a tile. -/
def tileC (f : Nat → Px) : Array Value := Array.ofFn (n := 256) fun k => pxC (f (k.val / 4)) (k.val % 4)
def Tile.v (f : Nat → Px) : Value := .agg (tileC f)
def upd (f : Nat → Px) (i : Nat) (p : Px) : Nat → Px := fun j => if j = i then p else f j
theorem size_tileC (f : Nat → Px) : (tileC f).size = 256 := by unfold tileC; simp
theorem get_tileC (f : Nat → Px) (k : Nat) : (tileC f)[k]? = if k < 256 then some (pxC (f (k / 4)) (k % 4)) else none := by
  unfold tileC
  rw [Array.getElem?_ofFn]
  split <;> rfl
theorem tileC_at (f : Nat → Px) (i j : Nat) (hi : i < 64) (hj : j < 4) : (tileC f)[i * 4 + j]? = some (pxC (f i) j) := by
  rw [get_tileC, if_pos (by omega), show (i * 4 + j) / 4 = i by omega, show (i * 4 + j) % 4 = j by omega]
theorem tileC_congr {f g : Nat → Px} (h : ∀ i, i < 64 → f i = g i) : tileC f = tileC g := by
  apply Array.ext_getElem?
  intro k
  rw [get_tileC, get_tileC]
  split
  · rw [h _ (by omega)]
  · rfl
/-- Four cells written: one pixel replaced. -/
theorem set_tileC (f : Nat → Px) (i : Nat) (p : Px) (hi : i < 64) :
    ((((tileC f).setIfInBounds (i * 4) (.int .u8 p.r)).setIfInBounds (i * 4 + 1) (.int .u8 p.g)).setIfInBounds (i * 4 + 2) (.int .u8 p.b)).setIfInBounds (i * 4 + 3) (.int .u8 p.a) = tileC (upd f i p) := by
  apply Array.ext_getElem?
  intro k
  simp only [Array.getElem?_setIfInBounds, Array.size_setIfInBounds, size_tileC, get_tileC]
  by_cases hk : k < 256
  · simp only [hk, if_true]
    by_cases h : k / 4 = i
    · have hm : k = i * 4 + k % 4 := by omega
      have h4 : k % 4 < 4 := by omega
      have hu : upd f i p (k / 4) = p := by unfold upd; rw [if_pos h]
      rw [hu]
      have hc : k % 4 = 0 ∨ k % 4 = 1 ∨ k % 4 = 2 ∨ k % 4 = 3 := by omega
      rcases hc with hc | hc | hc | hc
      · rw [if_neg (by omega), if_neg (by omega), if_neg (by omega), if_pos (by omega), if_pos (by omega), hc]; rfl
      · rw [if_neg (by omega), if_neg (by omega), if_pos (by omega), if_pos (by omega), hc]; rfl
      · rw [if_neg (by omega), if_pos (by omega), if_pos (by omega), hc]; rfl
      · rw [if_pos (by omega), if_pos (by omega), hc]; rfl
    · have hu : upd f i p (k / 4) = f (k / 4) := by unfold upd; rw [if_neg h]
      rw [hu, if_neg (by omega), if_neg (by omega), if_neg (by omega), if_neg (by omega)]
  · rw [if_neg (by omega), if_neg (by omega), if_neg (by omega), if_neg (by omega), if_neg hk, if_neg hk]

theorem cells_tile (f : Nat → Px) : (Tile.v f).cells = tileC f := by simp only [Tile.v, Value.cells]
attribute [irreducible] tileC

/-- The block b holds a tile. -/
def TileAt (w : World) (b : Nat) (f : Nat → Px) : Prop := w.heap[b]? = some (.cells (tileC f) 37 (0, 0))
theorem TileAt.of_eq {w w' : World} {b : Nat} {f : Nat → Px} (h : TileAt w b f) (e : w'.heap[b]? = w.heap[b]?) : TileAt w' b f := e.trans h
theorem TileAt.lt {w : World} {b : Nat} {f : Nat → Px} (h : TileAt w b f) : b < w.heap.size := (Array.getElem?_eq_some_iff.1 h).1
/-- Its cells. -/
theorem TileAt.cells {w : World} {b : Nat} {f : Nat → Px} (h : TileAt w b f) {i : Nat} (hi : i < 64) :
    w.cell? ⟨b, i * 4, none⟩ = some (.int .u8 (f i).r) ∧ w.cell? ⟨b, i * 4 + 1, none⟩ = some (.int .u8 (f i).g) ∧ w.cell? ⟨b, i * 4 + 2, none⟩ = some (.int .u8 (f i).b) ∧ w.cell? ⟨b, i * 4 + 3, none⟩ = some (.int .u8 (f i).a) := by
  obtain ⟨hc, _⟩ := cells_of_block h
  refine ⟨?_, ?_, ?_, ?_⟩
  · have := (hc (i * 4 + 0)).trans (tileC_at f i 0 hi (by omega)); exact this
  · exact (hc _).trans (tileC_at f i 1 hi (by omega))
  · exact (hc _).trans (tileC_at f i 2 hi (by omega))
  · exact (hc _).trans (tileC_at f i 3 hi (by omega))
theorem TileAt.frozen {w : World} {b : Nat} {f : Nat → Px} (h : TileAt w b f) (j : Nat) : w.frozen? ⟨b, j, none⟩ = false := (cells_of_block h).2 j
/-- A pixel stored. -/
theorem TileAt.set {w : World} {b : Nat} {f : Nat → Px} (h : TileAt w b f) {i : Nat} (hi : i < 64) (p : Px) :
    TileAt ((((w.setCell ⟨b, i * 4, none⟩ (.int .u8 p.r)).setCell ⟨b, i * 4 + 1, none⟩ (.int .u8 p.g)).setCell ⟨b, i * 4 + 2, none⟩ (.int .u8 p.b)).setCell ⟨b, i * 4 + 3, none⟩ (.int .u8 p.a)) b (upd f i p) := by
  unfold TileAt
  rw [← set_tileC f i p hi]
  exact heap_setCell_same _ _ _ _ _ _ (heap_setCell_same _ _ _ _ _ _ (heap_setCell_same _ _ _ _ _ _ (heap_setCell_same _ _ _ _ _ _ h)))

/-- Every pixel's channels are bytes. -/
def Tok (f : Nat → Px) : Prop := ∀ i, i < 64 → (f i).ok

section
variable {H : Type} {enc : TypeId × Value → H} {w : World} {base : Nat} {spare : Nat → Bool} {held : Bool}
end

end Go.Proofs.YtppccnjckiedlaaGreatDoor
/- The iterator over the positions of a tile, and 'rearrange'. -/
namespace Go.Proofs.YtppccnjckiedlaaGreatDoor
open Go.RowKit Pl
attribute [local go_sem] Oper.semAt_some
set_option linter.unusedVariables false
set_option linter.unusedSimpArgs false
set_option maxRecDepth 20000

/-- Position number i: column and row. -/
abbrev posV (i : Fin 64) : Array Value := #[.int .i64 ((i.val : Int) % 8), .int .i64 ((i.val : Int) / 8)]
/-- The first k positions. -/
def upto (k : Nat) : List (Fin 64) := (List.finRange 64).take k
end Go.Proofs.YtppccnjckiedlaaGreatDoor
/- Plain laws of compositing: the ends and the symmetry of Mix, the identities and bounds of Over, the symmetries of the blend modes. -/
namespace Go.Proofs.YtppccnjckiedlaaGreatDoor.Pl
set_option linter.unusedVariables false

/-! Over -/
/-! The blend modes -/
end Go.Proofs.YtppccnjckiedlaaGreatDoor.Pl
/- Plain: what a Mean holds, and its mean; words on worlds in which one block may have been written. -/
namespace Go.Proofs.YtppccnjckiedlaaGreatDoor
open Go.RowKit
set_option linter.unusedVariables false
set_option linter.unusedSimpArgs false

namespace Pl
/-- The sums of A, of A times each channel, and the number of pixels. -/
structure Acc where
  a : Int
  r : Int
  g : Int
  b : Int
  n : Int
def Acc.zero : Acc := ⟨0, 0, 0, 0, 0⟩
def addAcc (s : Acc) (p : Px) (n : Int) : Acc :=
  if n < 1 then s else ⟨s.a + min n 65536 * p.a, s.r + min n 65536 * p.a * p.r, s.g + min n 65536 * p.a * p.g, s.b + min n 65536 * p.a * p.b, s.n + min n 65536⟩
/-- What holds of the sums: M bounds the number of pixels. -/
def Acc.ok (s : Acc) (M : Int) : Prop := (0 ≤ s.n ∧ s.n ≤ M) ∧ (0 ≤ s.a ∧ s.a ≤ 255 * s.n) ∧ (0 ≤ s.r ∧ s.r ≤ 255 * s.a) ∧ (0 ≤ s.g ∧ s.g ≤ 255 * s.a) ∧ (0 ≤ s.b ∧ s.b ≤ 255 * s.a)
theorem Acc.zero_ok : Acc.zero.ok 0 := by unfold Acc.ok Acc.zero; simp
def meanP (s : Acc) : Px :=
  if s.n = 0 then Px.zero else if roundI s.a s.n = 0 then Px.zero else ⟨roundI s.r s.a, roundI s.g s.a, roundI s.b s.a, roundI s.a s.n⟩
end Pl

end Go.Proofs.YtppccnjckiedlaaGreatDoor
/- Laws of the walk for whole tiles: a tile loaded, stored, boxed, made; outside and inside a fence. The worlds behind are variables: what is known of them are their blocks. -/
namespace Go.Proofs.YtppccnjckiedlaaGreatDoor
open Go.RowKit Pl
set_option linter.unusedVariables false
set_option linter.unusedSimpArgs false
set_option maxRecDepth 20000

theorem tile_size (f : Nat → Px) : (Tryz.prog.info? 37).map (·.size) = some (tileC f).size := by
  rw [size_tileC]; kernel_rfl
theorem tile_oneCell (f : Nat → Px) : (tileC f).all (·.oneCell') = true := by
  rw [Array.all_eq_true]
  intro i hi
  have h : (tileC f)[i]? = some (tileC f)[i] := Array.getElem?_eq_getElem hi
  rw [size_tileC] at hi
  rw [get_tileC, if_pos hi] at h
  rw [← Option.some.inj h]
  unfold pxC
  repeat' split
  all_goals rfl

theorem run_load_tile {w : World} {b : Nat} {f : Nat → Px} (h : TileAt w b f) : (Instr.loadAt 37 (.pointer (some ⟨b, 0, none⟩))).run Tryz.prog w = .ok (Tile.v f) w := by
  simp only [Instr.loadAt, Instr.sureAddr, Sem.run_bind, Sem.run_pure, Result.andThen_ok]
  exact run_loadVar_row w b _ 37 _ _ _ h Tryz.underlying37 rfl (tile_size f)
theorem run_store_tile {w : World} {b : Nat} {f g : Nat → Px} (h : TileAt w b f) : (Instr.storeAt 37 (.pointer (some ⟨b, 0, none⟩)) (Tile.v g)).run Tryz.prog w = .ok () (w.setRow b (tileC g)) := by
  simp only [Instr.storeAt, Instr.sureAddr, Sem.run_bind, Sem.run_pure, Result.andThen_ok]
  exact run_storeVar_row w b _ 37 _ _ h (tile_size g) (by rw [size_tileC, size_tileC]) (tile_oneCell g)
theorem TileAt.setRow {w : World} {b : Nat} {f : Nat → Px} (h : TileAt w b f) (g : Nat → Px) : TileAt (w.setRow b (tileC g)) b g := setRow_heap w b _ _ _ _ h

theorem set4_chg {w : World} {b i : Nat} (v0 v1 v2 v3 : Value) : Chg b w ((((w.setCell ⟨b, i, none⟩ v0).setCell ⟨b, i + 1, none⟩ v1).setCell ⟨b, i + 2, none⟩ v2).setCell ⟨b, i + 3, none⟩ v3) :=
  ((((Chg.refl b w).setCell v0).setCell v1).setCell v2).setCell v3

section
variable {ops : Array Oper} {rest : List Oper} {o : Oper} {a : Act} {w : World} {Q : Exit → Act → World → Prop}

theorem wpList_loadT (hg : o.guard = none) (x : Operand) (ho : o.op = .load 37 x) (b : Nat) (hx : a.eval x = .pointer (some ⟨b, 0, none⟩)) {f : Nat → Px} (ht : TileAt w b f)
    (h : wpList Tryz.prog ops Q rest (a.put o.dst (Tile.v f)) w) : wpList Tryz.prog ops Q (o :: rest) a w :=
  wpList_plain hg fun K hK => by
    unfold Oper.wp execOp
    simp only [ho, hx, run_load_tile ht, Sem.run_bind, Sem.run_pure, Result.andThen_ok]
    exact hK _ _ h
theorem wpList_storeT (hg : o.guard = none) (x y : Operand) (ho : o.op = .store 37 x y) (b : Nat) (hx : a.eval x = .pointer (some ⟨b, 0, none⟩)) (g : Nat → Px) (hy : a.eval y = Tile.v g) {f : Nat → Px} (ht : TileAt w b f)
    (h : ∀ w', TileAt w' b g → Chg b w w' → w'.heap.size = w.heap.size → wpList Tryz.prog ops Q rest (a.put o.dst undef) w') : wpList Tryz.prog ops Q (o :: rest) a w :=
  wpList_plain hg fun K hK => by
    unfold Oper.wp execOp
    simp only [ho, hx, hy, run_store_tile ht, Sem.run_bind, Sem.run_pure, Result.andThen_ok]
    exact hK _ _ (h _ (ht.setRow g) ((Chg.refl b w).setRow _) (size_setRow _ _ _))
theorem wpList_boxT (hg : o.guard = none) (x : Operand) (ho : o.op = .box 37 x) (f : Nat → Px) (hx : a.eval x = Tile.v f)
    (h : ∀ w', TileAt w' w.heap.size f → Below w.heap.size w w' → w'.heap.size = w.heap.size + 1 → wpList Tryz.prog ops Q rest (a.put o.dst (.pointer (some ⟨w.heap.size, 0, none⟩))) w') : wpList Tryz.prog ops Q (o :: rest) a w :=
  Great.wpList_boxTo hg _ x ho _ rfl _ rfl (tileC f) (by rw [hx]; exact cells_tile f) (h _ (by unfold TileAt; rw [heap_get_alloc, if_pos rfl]) ((Below.refl _ _).alloc (Nat.le_refl _) _) (World.size_alloc _ _))
theorem run_alloc_tile (w : World) (o : Oper) (ho : o.op = .alloc 37) (ev : Operand → Value) : (execOp ev o).run Tryz.prog w = .ok (.value (.pointer (some ⟨w.heap.size, 0, none⟩))) (w.alloc (.cells (tileC fun _ => Px.zero) 37)) := by
  obtain ⟨d, p, t, ps, af, gd⟩ := o
  simp only at ho
  subst ho
  kernel_rfl
theorem wpList_allocT (hg : o.guard = none) (ho : o.op = .alloc 37)
    (h : ∀ w', TileAt w' w.heap.size (fun _ => Px.zero) → Below w.heap.size w w' → w'.heap.size = w.heap.size + 1 → wpList Tryz.prog ops Q rest (a.put o.dst (.pointer (some ⟨w.heap.size, 0, none⟩))) w') : wpList Tryz.prog ops Q (o :: rest) a w :=
  wpList_plain hg fun K hK => by
    unfold Oper.wp
    rw [run_alloc_tile w o ho]
    exact hK _ _ (h _ (by unfold TileAt; rw [heap_get_alloc, if_pos rfl]) ((Below.refl _ _).alloc (Nat.le_refl _) _) (World.size_alloc _ _))

variable {F : Fence} {n : Nat}
end

/-- A tile for a result. -/
theorem results_tile {fn : Func} {p : Tmp} (h : fn.results = #[.cell p 37]) (tmps : Array Value) (w : World) (b : Nat) (hp : tmps.getD p undef = .pointer (some ⟨b, 0, none⟩)) {f : Nat → Px} (ht : TileAt w b f) :
    (results fn tmps).run Tryz.prog w = .ok (Tile.v f) w :=
  results_cell_row h tmps w b _ _ _ _ hp ht Tryz.underlying37 rfl (tile_size f)

end Go.Proofs.YtppccnjckiedlaaGreatDoor
/- 'rearrange', Flip and Turn of package tile. -/
namespace Go.Proofs.YtppccnjckiedlaaGreatDoor
open Go.RowKit Pl
attribute [local go_sem] Oper.semAt_some
set_option linter.unusedVariables false
set_option linter.unusedSimpArgs false
set_option maxRecDepth 20000

/-- A tile filled position by position. -/
def part (g : Fin 64 → Px) (pre : List (Fin 64)) : Nat → Px := pre.foldl (fun f i => upd f i.val (g i)) (fun _ => Px.zero)
end Go.Proofs.YtppccnjckiedlaaGreatDoor
/- Contracts of Flip, Turn, inside, Get, Set, Fill of package tile. -/
namespace Go.Proofs.YtppccnjckiedlaaGreatDoor
open Go.RowKit Pl
set_option linter.unusedVariables false
set_option linter.unusedSimpArgs false
set_option maxRecDepth 20000

def flipT (t : Nat → Px) : Nat → Px := fun j => t (8 * (j / 8) + (7 - j % 8))
def turnT (t : Nat → Px) : Nat → Px := fun j => t (8 * (7 - j % 8) + j / 8)

end Go.Proofs.YtppccnjckiedlaaGreatDoor
/- Tiles: an index into a tile as a value, '==' of tiles, tiles filled from the left. -/
namespace Go.Proofs.YtppccnjckiedlaaGreatDoor
open Go.RowKit Pl
set_option linter.unusedVariables false
set_option linter.unusedSimpArgs false
set_option maxRecDepth 20000

deriving instance DecidableEq for Px
/-- Two tiles are equal. -/
def eqT (f g : Nat → Px) : Bool := decide (∀ i ∈ List.range 64, f i = g i)
theorem extract_tile (f : Nat → Px) (k : Nat) (hk : k < 64) : (tileC f).extract (k * 4) (k * 4 + 4) = #[.int .u8 (f k).r, .int .u8 (f k).g, .int .u8 (f k).b, .int .u8 (f k).a] := by
  apply Array.ext_getElem?
  intro j
  rw [Array.getElem?_extract]
  simp only [size_tileC]
  by_cases hj : j < 4
  · rw [if_pos (by omega), tileC_at f k j hk hj]
    have hc : j = 0 ∨ j = 1 ∨ j = 2 ∨ j = 3 := by omega
    rcases hc with rfl | rfl | rfl | rfl <;> rfl
  · rw [if_neg (by omega)]
    exact (Array.getElem?_eq_none (by simp; omega)).symm
theorem Px.v_def (p : Px) : Px.v p = .agg #[.int .u8 p.r, .int .u8 p.g, .int .u8 p.b, .int .u8 p.a] := rfl
theorem isAgg_px (w : World) : (isAgg 35).run Tryz.prog w = .ok true w := by kernel_rfl
theorem sizeOf_px (w : World) : (sizeOf 35).run Tryz.prog w = .ok 4 w := by kernel_rfl
theorem cellsOf_px : Tryz.prog.cellsOf 35 = 4 := by kernel_rfl
theorem part_tile (f : Nat → Px) (k : Nat) (hk : k < 64) (w : World) : (Go.part 35 (tileC f) (k * 4)).run Tryz.prog w = .ok (Px.v (f k)) w := by
  unfold Go.part
  simp only [Sem.run_bind, isAgg_px, Result.andThen_ok, if_true, sizeOf_px, Sem.run_pure, extract_tile f k hk, Px.v_def]
theorem index_tile (f : Nat → Px) (k : Nat) (hk : k < 64) (w : World) : (Instr.index 37 (Tile.v f) (.int .i64 k)).run Tryz.prog w = .ok (Px.v (f k)) w := by
  unfold Instr.index Tile.v
  have e : (0 : Int) ≤ (k : Int) ∧ (k : Int) < 64 := by omega
  simp only [asIntOf, Sem.run_bind, Sem.run_pure, Result.andThen_ok, run_underlying Tryz.underlying37]
  rw [if_pos (by simpa using e)]
  simp only [Sem.run_bind, sizeOf_px, Result.andThen_ok, Int.toNat_natCast]
  exact part_tile f k hk w

/-- '==' of pixels, below. -/
theorem equalIn_px (d : Nat) (p q : Px) (w : World) : (Op.equalIn (d + 2) 35 (Px.v p) (Px.v q)).run Tryz.prog w = .ok (decide (p = q)) w := by
  have h : (Op.equalIn (d + 2) 35 (Px.v p) (Px.v q)).run Tryz.prog w = .ok (p.r == q.r && (p.g == q.g && (p.b == q.b && p.a == q.a))) w := by
    obtain ⟨r, g, b, a⟩ := p
    obtain ⟨r', g', b', a'⟩ := q
    simp only [Px.v]
    by_cases h1 : r = r' <;> by_cases h2 : g = g' <;> by_cases h3 : b = b' <;> by_cases h4 : a = a' <;> simp [go_sem, h1, h2, h3, h4]
  rw [h]
  congr 1
  obtain ⟨a, b, c, d⟩ := p
  obtain ⟨a', b', c', d'⟩ := q
  rw [Bool.eq_iff_iff]
  simp
theorem eqItems_tile (f g : Nat → Px) (w : World) : ∀ is : List Nat, (∀ i ∈ is, i < 64) → (Op.eqItems 9999 35 4 (tileC f) (tileC g) is).run Tryz.prog w = .ok (decide (∀ i ∈ is, f i = g i)) w
  | [], _ => by simp [Op.eqItems]
  | i :: is, h => by
    have hi : i < 64 := h i (by simp)
    simp only [Op.eqItems, Sem.run_bind, part_tile f i hi, part_tile g i hi, Result.andThen_ok, equalIn_px 9997]
    by_cases e : f i = g i
    · simp [e, eqItems_tile f g w is (fun j hj => h j (by simp [hj]))]
    · simp [e]
theorem equalIn_tile (f g : Nat → Px) (w : World) : (Op.equalIn 10000 37 (Tile.v f) (Tile.v g)).run Tryz.prog w = .ok (eqT f g) w := by
  obtain ⟨i, hi⟩ : ∃ i, Tryz.prog.info? 35 = some i := by
    cases h : Tryz.prog.info? 35 with
    | some i => exact ⟨i, rfl⟩
    | none =>
      have e : (Tryz.prog.info? 35).isSome = true := by kernel_rfl
      rw [h] at e; cases e
  unfold Tile.v
  refine (run_equalIn_array w 9999 (tileC f) (tileC g) Tryz.underlying37 hi).trans ?_
  rw [cellsOf_px, eqItems_tile f g w _ (fun i hi => List.mem_range.1 hi)]
  rfl
/-- '==' of tiles. -/
theorem eql_tile (f g : Nat → Px) (w : World) : (binOp .eql 37 (Tile.v f) (Tile.v g)).run Tryz.prog w = .ok (.bool (eqT f g)) w := by
  have h := run_eql_struct (P := Tryz.prog) w 37 (tileC f) (tileC g)
  have e := equalIn_tile f g w
  unfold Tile.v at e ⊢
  rw [h, e]; rfl
theorem neq_tile (f g : Nat → Px) (w : World) : (binOp .neq 37 (Tile.v f) (Tile.v g)).run Tryz.prog w = .ok (.bool (!eqT f g)) w := by
  have h := run_neq_struct (P := Tryz.prog) w 37 (tileC f) (tileC g)
  have e := equalIn_tile f g w
  unfold Tile.v at e ⊢
  rw [h, e]; rfl
theorem zero_tile : Tile.v (fun _ => Px.zero) = .agg (Array.replicate 256 (.int .u8 0)) := by
  unfold Tile.v
  congr 1
  apply Array.ext_getElem?
  intro k
  rw [get_tileC, Array.getElem?_replicate]
  have hc : k % 4 = 0 ∨ k % 4 = 1 ∨ k % 4 = 2 ∨ k % 4 = 3 := by omega
  rcases hc with h | h | h | h <;> simp [h, pxC, Px.zero]
theorem run_build_tile (w : World) (o : Oper) (ho : o.op = .build 37 #[]) (ev : Operand → Value) : (execOp ev o).run Tryz.prog w = .ok (.value (Tile.v fun _ => Px.zero)) w := by
  rw [zero_tile]
  obtain ⟨d, p, t, ps, af, gd⟩ := o
  simp only at ho
  subst ho
  kernel_rfl
theorem wpList_buildT {ops : Array Oper} {rest : List Oper} {o : Oper} {a : Act} {w : World} {Q : Exit → Act → World → Prop} (hg : o.guard = none) (ho : o.op = .build 37 #[])
    (h : wpList Tryz.prog ops Q rest (a.put o.dst (Tile.v fun _ => Px.zero)) w) : wpList Tryz.prog ops Q (o :: rest) a w :=
  wpList_plain hg fun K hK => by
    unfold Oper.wp
    rw [run_build_tile w o ho]
    exact hK _ _ h
/-- '==' of two pixels. -/
theorem eql_px (p q : Px) (w : World) : (binOp .eql 35 (Px.v p) (Px.v q)).run Tryz.prog w = .ok (.bool (decide (p = q))) w := by
  have h := run_eql_struct (P := Tryz.prog) w 35 #[.int .u8 p.r, .int .u8 p.g, .int .u8 p.b, .int .u8 p.a] #[.int .u8 q.r, .int .u8 q.g, .int .u8 q.b, .int .u8 q.a]
  have e := equalIn_px 9998 p q w
  rw [Px.v_def, Px.v_def] at e ⊢
  rw [h, e]; rfl
theorem neq_px (p q : Px) (w : World) : (binOp .neq 35 (Px.v p) (Px.v q)).run Tryz.prog w = .ok (.bool (!decide (p = q))) w := by
  have h := run_neq_struct (P := Tryz.prog) w 35 #[.int .u8 p.r, .int .u8 p.g, .int .u8 p.b, .int .u8 p.a] #[.int .u8 q.r, .int .u8 q.g, .int .u8 q.b, .int .u8 q.a]
  have e := equalIn_px 9998 p q w
  rw [Px.v_def, Px.v_def] at e ⊢
  rw [h, e]; rfl

/-- The first k pixels are those of g, the others those of f. -/
def stepT (f g : Nat → Px) (k : Nat) : Nat → Px := fun j => if j < k then g j else f j
theorem stepT_zero (f g : Nat → Px) : stepT f g 0 = f := by funext j; simp [stepT]
theorem stepT_next (f g : Nat → Px) (k : Nat) : upd (stepT f g k) k (g k) = stepT f g (k + 1) := by
  funext j
  unfold upd stepT
  by_cases h : j = k
  · subst h; simp
  · rw [if_neg h]
    by_cases h2 : j < k
    · rw [if_pos h2, if_pos (by omega)]
    · rw [if_neg h2, if_neg (by omega)]
theorem stepT_at (f g : Nat → Px) (k : Nat) : stepT f g k k = f k := by simp [stepT]
theorem stepT_all (f g : Nat → Px) : tileC (stepT f g 64) = tileC g := tileC_congr fun i hi => by simp [stepT, hi]
theorem TileAt.congr {w : World} {b : Nat} {f g : Nat → Px} (h : TileAt w b f) (e : tileC f = tileC g) : TileAt w b g := by unfold TileAt at h ⊢; rw [← e]; exact h
end Go.Proofs.YtppccnjckiedlaaGreatDoor
/- Laws of the walk for pixels: a pixel of a tile loaded and stored, a pixel boxed, made, loaded, stored. The worlds behind are variables. -/
namespace Go.Proofs.YtppccnjckiedlaaGreatDoor
open Go.RowKit Pl
set_option linter.unusedVariables false
set_option linter.unusedSimpArgs false
set_option maxRecDepth 20000

def pxA (p : Px) : Array Value := #[.int .u8 p.r, .int .u8 p.g, .int .u8 p.b, .int .u8 p.a]
/-- The block b holds a pixel. -/
def PixAt (w : World) (b : Nat) (p : Px) : Prop := w.heap[b]? = some (.cells (pxA p) 35 (0, 0))
theorem PixAt.of_eq {w w' : World} {b : Nat} {p : Px} (h : PixAt w b p) (e : w'.heap[b]? = w.heap[b]?) : PixAt w' b p := e.trans h
theorem PixAt.lt {w : World} {b : Nat} {p : Px} (h : PixAt w b p) : b < w.heap.size := (Array.getElem?_eq_some_iff.1 h).1
theorem pxA_size (p : Px) : (Tryz.prog.info? 35).map (·.size) = some (pxA p).size := by
  show _ = some 4
  kernel_rfl
theorem pxA_oneCell (p : Px) : (pxA p).all (·.oneCell') = true := by simp [pxA, Value.oneCell']

theorem run_load_px {w : World} {b : Nat} {p : Px} (h : PixAt w b p) : (Instr.loadAt 35 (.pointer (some ⟨b, 0, none⟩))).run Tryz.prog w = .ok (Px.v p) w := by
  simp only [Instr.loadAt, Instr.sureAddr, Sem.run_bind, Sem.run_pure, Result.andThen_ok]
  exact run_loadVar_row w b _ 35 _ _ _ h Tryz.underlying35 rfl (pxA_size p)
theorem run_store_px {w : World} {b : Nat} {p : Px} (h : PixAt w b p) (q : Px) : (Instr.storeAt 35 (.pointer (some ⟨b, 0, none⟩)) (Px.v q)).run Tryz.prog w = .ok () (w.setRow b (pxA q)) := by
  simp only [Instr.storeAt, Instr.sureAddr, Sem.run_bind, Sem.run_pure, Result.andThen_ok]
  exact run_storeVar_row w b _ 35 _ _ h (pxA_size q) rfl (pxA_oneCell q)
theorem run_load_tp {w : World} {b i : Nat} {f : Nat → Px} (h : TileAt w b f) (hi : i < 64) : (Instr.loadAt 35 (.pointer (some ⟨b, i * 4, none⟩))).run Tryz.prog w = .ok (Px.v (f i)) w := by
  obtain ⟨c0, c1, c2, c3⟩ := h.cells hi
  simp [go_sem, c0, c1, c2, c3, Px.v]
theorem run_store_tp {w : World} {b i : Nat} {f : Nat → Px} (h : TileAt w b f) (hi : i < 64) (p : Px) : (Instr.storeAt 35 (.pointer (some ⟨b, i * 4, none⟩)) (Px.v p)).run Tryz.prog w =
    .ok () ((((w.setCell ⟨b, i * 4, none⟩ (.int .u8 p.r)).setCell ⟨b, i * 4 + 1, none⟩ (.int .u8 p.g)).setCell ⟨b, i * 4 + 2, none⟩ (.int .u8 p.b)).setCell ⟨b, i * 4 + 3, none⟩ (.int .u8 p.a)) := by
  obtain ⟨c0, c1, c2, c3⟩ := h.cells hi
  have hf := h.frozen
  simp [go_sem, c0, c1, c2, c3, hf, Px.v]
theorem run_alloc_px (w : World) (o : Oper) (ho : o.op = .alloc 35) (ev : Operand → Value) : (execOp ev o).run Tryz.prog w = .ok (.value (.pointer (some ⟨w.heap.size, 0, none⟩))) (w.alloc (.cells (pxA Px.zero) 35)) := by
  obtain ⟨d, p, t, ps, af, gd⟩ := o
  simp only at ho
  subst ho
  kernel_rfl
theorem set4_size {w : World} {b i : Nat} (v0 v1 v2 v3 : Value) : ((((w.setCell ⟨b, i, none⟩ v0).setCell ⟨b, i + 1, none⟩ v1).setCell ⟨b, i + 2, none⟩ v2).setCell ⟨b, i + 3, none⟩ v3).heap.size = w.heap.size := by
  simp only [World.size_setCell]

section
variable {ops : Array Oper} {rest : List Oper} {o : Oper} {a : Act} {w : World} {Q : Exit → Act → World → Prop}
theorem wpList_loadPx (hg : o.guard = none) (x : Operand) (ho : o.op = .load 35 x) (b : Nat) (hx : a.eval x = .pointer (some ⟨b, 0, none⟩)) {p : Px} (ht : PixAt w b p)
    (h : wpList Tryz.prog ops Q rest (a.put o.dst (Px.v p)) w) : wpList Tryz.prog ops Q (o :: rest) a w :=
  wpList_plain hg fun K hK => by
    unfold Oper.wp execOp
    simp only [ho, hx, run_load_px ht, Sem.run_bind, Sem.run_pure, Result.andThen_ok]
    exact hK _ _ h
theorem wpList_storePx (hg : o.guard = none) (x y : Operand) (ho : o.op = .store 35 x y) (b : Nat) (hx : a.eval x = .pointer (some ⟨b, 0, none⟩)) (q : Px) (hy : a.eval y = Px.v q) {p : Px} (ht : PixAt w b p)
    (h : ∀ w', PixAt w' b q → Chg b w w' → w'.heap.size = w.heap.size → wpList Tryz.prog ops Q rest (a.put o.dst undef) w') : wpList Tryz.prog ops Q (o :: rest) a w :=
  wpList_plain hg fun K hK => by
    unfold Oper.wp execOp
    simp only [ho, hx, hy, run_store_px ht q, Sem.run_bind, Sem.run_pure, Result.andThen_ok]
    exact hK _ _ (h _ (setRow_heap w b _ _ _ _ ht) ((Chg.refl b w).setRow _) (size_setRow _ _ _))
theorem wpList_loadTp (hg : o.guard = none) (x : Operand) (ho : o.op = .load 35 x) (b j : Nat) (hx : a.eval x = .pointer (some ⟨b, j, none⟩)) {f : Nat → Px} (ht : TileAt w b f) (i : Nat) (hi : i < 64) (hj : j = i * 4)
    (h : wpList Tryz.prog ops Q rest (a.put o.dst (Px.v (f i))) w) : wpList Tryz.prog ops Q (o :: rest) a w :=
  wpList_plain hg fun K hK => by
    subst hj
    unfold Oper.wp execOp
    simp only [ho, hx, run_load_tp ht hi, Sem.run_bind, Sem.run_pure, Result.andThen_ok]
    exact hK _ _ h
theorem wpList_storeTp (hg : o.guard = none) (x y : Operand) (ho : o.op = .store 35 x y) (b j : Nat) (hx : a.eval x = .pointer (some ⟨b, j, none⟩)) (q : Px) (hy : a.eval y = Px.v q) {f : Nat → Px} (ht : TileAt w b f) (i : Nat) (hi : i < 64) (hj : j = i * 4)
    (h : ∀ w', TileAt w' b (upd f i q) → Chg b w w' → w'.heap.size = w.heap.size → wpList Tryz.prog ops Q rest (a.put o.dst undef) w') : wpList Tryz.prog ops Q (o :: rest) a w :=
  wpList_plain hg fun K hK => by
    subst hj
    unfold Oper.wp execOp
    simp only [ho, hx, hy, run_store_tp ht hi q, Sem.run_bind, Sem.run_pure, Result.andThen_ok]
    exact hK _ _ (h _ (ht.set hi q) (set4_chg _ _ _ _) (set4_size _ _ _ _))
theorem wpList_boxPx (hg : o.guard = none) (x : Operand) (ho : o.op = .box 35 x) (p : Px) (hx : a.eval x = Px.v p)
    (h : ∀ w', PixAt w' w.heap.size p → Below w.heap.size w w' → w'.heap.size = w.heap.size + 1 → wpList Tryz.prog ops Q rest (a.put o.dst (.pointer (some ⟨w.heap.size, 0, none⟩))) w') : wpList Tryz.prog ops Q (o :: rest) a w :=
  Great.wpList_boxTo hg _ x ho _ rfl _ rfl (pxA p) (by rw [hx]; rfl) (h _ (by unfold PixAt; rw [heap_get_alloc, if_pos rfl]) ((Below.refl _ _).alloc (Nat.le_refl _) _) (World.size_alloc _ _))
theorem wpList_buildPx (hg : o.guard = none) (ho : o.op = .build 35 #[])
    (h : wpList Tryz.prog ops Q rest (a.put o.dst (Px.v Px.zero)) w) : wpList Tryz.prog ops Q (o :: rest) a w :=
  wpList_plain hg fun K hK => by
    have e : (execOp a.eval o).run Tryz.prog w = .ok (.value (Px.v Px.zero)) w := by
      obtain ⟨d, p, t, ps, af, gd⟩ := o
      simp only at ho
      subst ho
      kernel_rfl
    unfold Oper.wp
    rw [e]
    exact hK _ _ h
theorem wpList_allocPx (hg : o.guard = none) (ho : o.op = .alloc 35)
    (h : ∀ w', PixAt w' w.heap.size Px.zero → Below w.heap.size w w' → w'.heap.size = w.heap.size + 1 → wpList Tryz.prog ops Q rest (a.put o.dst (.pointer (some ⟨w.heap.size, 0, none⟩))) w') : wpList Tryz.prog ops Q (o :: rest) a w :=
  wpList_plain hg fun K hK => by
    unfold Oper.wp
    rw [run_alloc_px w o ho]
    exact hK _ _ (h _ (by unfold PixAt; rw [heap_get_alloc, if_pos rfl]) ((Below.refl _ _).alloc (Nat.le_refl _) _) (World.size_alloc _ _))
end
/-- A pixel for a result. -/
theorem results_px {fn : Func} {p : Tmp} (h : fn.results = #[.cell p 35]) (tmps : Array Value) (w : World) (b : Nat) (hp : tmps.getD p undef = .pointer (some ⟨b, 0, none⟩)) {q : Px} (ht : PixAt w b q) :
    (results fn tmps).run Tryz.prog w = .ok (Px.v q) w :=
  results_cell_row h tmps w b _ _ _ _ hp ht Tryz.underlying35 rfl (pxA_size q)
end Go.Proofs.YtppccnjckiedlaaGreatDoor
/- Contracts of inside, Get, Set, Fill of package tile and of the reference. -/
namespace Go.Proofs.YtppccnjckiedlaaGreatDoor
open Go.RowKit Pl
set_option linter.unusedVariables false
set_option linter.unusedSimpArgs false
set_option maxRecDepth 20000

def insB (x y : Int) : Bool := decide (0 ≤ x ∧ x < 8 ∧ 0 ≤ y ∧ y < 8)
def posI (x y : Int) : Nat := (8 * y + x).toNat
def getT (t : Nat → Px) (x y : Int) : Px := if insB x y = true then t (posI x y) else Px.zero
def setT (t : Nat → Px) (x y : Int) (p : Px) : Nat → Px := if insB x y = true then upd t (posI x y) p else t
theorem insB_true {x y : Int} (h : insB x y = true) : 0 ≤ x ∧ x < 8 ∧ 0 ≤ y ∧ y < 8 ∧ posI x y < 64 ∧ ((posI x y : Nat) : Int) = 8 * y + x := by
  unfold insB at h
  have h := of_decide_eq_true h
  unfold posI
  omega

theorem P_inside (x y : Int) (w : World) : Calls Tryz.prog 46 #[.int .i64 x, .int .i64 y] w fun e w' => e = .returned (.bool (insB x y)) ∧ w = w' := by
  by_cases h0 : 0 ≤ x
  rotate_left
  · have e1 : insB x y = false := by unfold insB; exact decide_eq_false (by omega)
    have d1 : decide (0 ≤ x) = false := decide_eq_false (by omega)
    rw [e1]; clear e1
    go_enter Tryz.func46, Tryz.ntmps46
    go_wp2
    go_ret
    exact ⟨rfl, rfl⟩
  by_cases h1 : x < 8
  rotate_left
  · have e1 : insB x y = false := by unfold insB; exact decide_eq_false (by omega)
    have d1 : decide (x < 8) = false := decide_eq_false (by omega)
    rw [e1]; clear e1
    go_enter Tryz.func46, Tryz.ntmps46
    go_wp2
    go_ret
    exact ⟨rfl, rfl⟩
  by_cases h2 : 0 ≤ y
  rotate_left
  · have e1 : insB x y = false := by unfold insB; exact decide_eq_false (by omega)
    have d1 : decide (0 ≤ y) = false := decide_eq_false (by omega)
    rw [e1]; clear e1
    go_enter Tryz.func46, Tryz.ntmps46
    go_wp2
    go_ret
    exact ⟨rfl, rfl⟩
  by_cases h3 : y < 8
  rotate_left
  · have e1 : insB x y = false := by unfold insB; exact decide_eq_false (by omega)
    have d1 : decide (y < 8) = false := decide_eq_false (by omega)
    rw [e1]; clear e1
    go_enter Tryz.func46, Tryz.ntmps46
    go_wp2
    go_ret
    exact ⟨rfl, rfl⟩
  have e1 : insB x y = true := by unfold insB; exact decide_eq_true (by omega)
  rw [e1]; clear e1
  go_enter Tryz.func46, Tryz.ntmps46
  go_wp2
  go_ret
  exact ⟨rfl, rfl⟩
theorem R_inside (x y : Int) (w : World) : Calls Tryz.prog 78 #[.int .i64 x, .int .i64 y] w fun e w' => e = .returned (.bool (insB x y)) ∧ w = w' := by
  by_cases h0 : 0 ≤ x
  rotate_left
  · have e1 : insB x y = false := by unfold insB; exact decide_eq_false (by omega)
    have d1 : decide (0 ≤ x) = false := decide_eq_false (by omega)
    rw [e1]; clear e1
    go_enter Tryz.func78, Tryz.ntmps78
    go_wp2
    go_ret
    exact ⟨rfl, rfl⟩
  by_cases h1 : x < 8
  rotate_left
  · have e1 : insB x y = false := by unfold insB; exact decide_eq_false (by omega)
    have d1 : decide (x < 8) = false := decide_eq_false (by omega)
    rw [e1]; clear e1
    go_enter Tryz.func78, Tryz.ntmps78
    go_wp2
    go_ret
    exact ⟨rfl, rfl⟩
  by_cases h2 : 0 ≤ y
  rotate_left
  · have e1 : insB x y = false := by unfold insB; exact decide_eq_false (by omega)
    have d1 : decide (0 ≤ y) = false := decide_eq_false (by omega)
    rw [e1]; clear e1
    go_enter Tryz.func78, Tryz.ntmps78
    go_wp2
    go_ret
    exact ⟨rfl, rfl⟩
  by_cases h3 : y < 8
  rotate_left
  · have e1 : insB x y = false := by unfold insB; exact decide_eq_false (by omega)
    have d1 : decide (y < 8) = false := decide_eq_false (by omega)
    rw [e1]; clear e1
    go_enter Tryz.func78, Tryz.ntmps78
    go_wp2
    go_ret
    exact ⟨rfl, rfl⟩
  have e1 : insB x y = true := by unfold insB; exact decide_eq_true (by omega)
  rw [e1]; clear e1
  go_enter Tryz.func78, Tryz.ntmps78
  go_wp2
  go_ret
  exact ⟨rfl, rfl⟩

set_option maxHeartbeats 1000000 in
set_option maxRecDepth 20000 in
theorem P_Get (t : Nat → Px) (x y : Int) (w : World) : Calls Tryz.prog 17 #[Tile.v t, .int .i64 x, .int .i64 y] w fun e w' => e = .returned (Px.v (getT t x y)) ∧ Below w.heap.size w w' := by
  cases hi : insB x y with
  | false =>
    have e1 : getT t x y = Px.zero := by unfold getT; rw [hi]; rfl
    rw [e1]; clear e1
    go_enter Tryz.func17, Tryz.ntmps17
    go_wp2_with (first | (refine wpList_storePx rfl _ _ rfl _ rfl _ rfl h2 ?_; clear h2; intro w3 h2 hc3 hz3; replace hz3 := Nat.le_of_eq hz3.symm; replace h1 := h1.of_eq (hc3.block _ h1.lt (by omega)); simp only [Act.put, putS]) | (refine wpList_buildPx rfl rfl ?_; simp only [Act.put, putS]) | (refine wpList_allocPx rfl rfl ?_; intro w2 h2 hb2 hz2; have l2 := Nat.lt_of_lt_of_eq (Nat.lt_succ_self _) hz2.symm; clear hz2; replace h1 := h1.of_eq (hb2.block _ h1.lt); simp only [Act.put, putS]) | (refine wpList_boxT rfl _ rfl _ rfl ?_; intro w1 h1 hb1 hz1; have l1 := Nat.lt_of_lt_of_eq (Nat.lt_succ_self _) hz1.symm; clear hz1; simp only [Act.put, putS]) | (go_at_call 46; refine (P_inside _ _ _).mono ?_; rintro e w' ⟨rfl, rfl⟩))
    refine bodyPost_ret (results_px rfl _ _ (w1.heap.size) rfl h2) rfl ?_
    refine ⟨rfl, ?_⟩
    repeat' (first | (with_reducible exact Below.refl _ _) | (with_reducible assumption) | (with_reducible refine Below.trans ?_ (hb1.mono (by omega))) | (with_reducible refine Below.trans ?_ (hb2.mono (by omega))) | (with_reducible refine Chg.below ?_ hc3 (by omega) (by omega)))
  | true =>
    have e1 : getT t x y = t (posI x y) := by unfold getT; rw [hi]; rfl
    rw [e1]; clear e1
    obtain ⟨h1, h2, h3, h4, h5, h6⟩ := insB_true hi
    have n1 : 0 ≤ 8 * y + x := by omega
    have n2 : 8 * y + x < 64 := by omega
    have e7 : (8 * y + x).toNat = posI x y := rfl
    go_enter Tryz.func17, Tryz.ntmps17
    go_wp2_with (first | (refine wpList_storePx rfl _ _ rfl _ rfl _ rfl t2 ?_; clear t2; intro w3 t2 hc3 hz3; replace hz3 := Nat.le_of_eq hz3.symm; replace t1 := t1.of_eq (hc3.block _ t1.lt (by omega)); simp only [Act.put, putS]) | (refine wpList_loadTp rfl _ rfl _ _ rfl t1 (posI x y) (by assumption) (by first | rfl | omega) ?_; simp only [Act.put, putS]) | (refine wpList_allocPx rfl rfl ?_; intro w2 t2 hb2 hz2; have l2 := Nat.lt_of_lt_of_eq (Nat.lt_succ_self _) hz2.symm; clear hz2; replace t1 := t1.of_eq (hb2.block _ t1.lt); simp only [Act.put, putS]) | (refine wpList_boxT rfl _ rfl _ rfl ?_; intro w1 t1 hb1 hz1; have l1 := Nat.lt_of_lt_of_eq (Nat.lt_succ_self _) hz1.symm; clear hz1; simp only [Act.put, putS]) | (go_at_call 46; refine (P_inside _ _ _).mono ?_; rintro e w' ⟨rfl, rfl⟩))
    refine bodyPost_ret (results_px rfl _ _ (w1.heap.size) rfl t2) rfl ?_
    refine ⟨rfl, ?_⟩
    repeat' (first | (with_reducible exact Below.refl _ _) | (with_reducible assumption) | (with_reducible refine Below.trans ?_ (hb1.mono (by omega))) | (with_reducible refine Below.trans ?_ (hb2.mono (by omega))) | (with_reducible refine Chg.below ?_ hc3 (by omega) (by omega)))
set_option maxHeartbeats 1000000 in
set_option maxRecDepth 20000 in
theorem P_Set (t : Nat → Px) (x y : Int) (p : Px) (w : World) : Calls Tryz.prog 38 #[Tile.v t, .int .i64 x, .int .i64 y, Px.v p] w fun e w' => e = .returned (Tile.v (setT t x y p)) ∧ Below w.heap.size w w' := by
  cases hi : insB x y with
  | false =>
    have e1 : setT t x y p = t := by unfold setT; rw [hi]; rfl
    rw [e1]; clear e1
    go_enter Tryz.func38, Tryz.ntmps38
    go_wp2_with (first | (refine wpList_storeT rfl _ _ rfl _ rfl _ rfl t3 ?_; clear t3; intro w4 t3 hc4 hz4; replace hz4 := Nat.le_of_eq hz4.symm; replace t1 := t1.of_eq (hc4.block _ t1.lt (by omega)); simp only [Act.put, putS]) | (refine wpList_loadT rfl _ rfl _ rfl t1 ?_; simp only [Act.put, putS]) | (refine wpList_allocT rfl rfl ?_; intro w3 t3 hb3 hz3; have l3 := Nat.lt_of_lt_of_eq (Nat.lt_succ_self _) hz3.symm; clear hz3; replace t1 := t1.of_eq (hb3.block _ t1.lt); replace t2 := t2.of_eq (hb3.block _ t2.lt); simp only [Act.put, putS]) | (refine wpList_boxPx rfl _ rfl _ rfl ?_; intro w2 t2 hb2 hz2; have l2 := Nat.lt_of_lt_of_eq (Nat.lt_succ_self _) hz2.symm; clear hz2; replace t1 := t1.of_eq (hb2.block _ t1.lt); simp only [Act.put, putS]) | (refine wpList_boxT rfl _ rfl _ rfl ?_; intro w1 t1 hb1 hz1; have l1 := Nat.lt_of_lt_of_eq (Nat.lt_succ_self _) hz1.symm; clear hz1; simp only [Act.put, putS]) | (go_at_call 46; refine (P_inside _ _ _).mono ?_; rintro e w' ⟨rfl, rfl⟩))
    refine bodyPost_ret (results_tile rfl _ _ (w2.heap.size) rfl t3) rfl ?_
    refine ⟨rfl, ?_⟩
    repeat' (first | (with_reducible exact Below.refl _ _) | (with_reducible assumption) | (with_reducible refine Below.trans ?_ (hb1.mono (by omega))) | (with_reducible refine Below.trans ?_ (hb2.mono (by omega))) | (with_reducible refine Below.trans ?_ (hb3.mono (by omega))) | (with_reducible refine Chg.below ?_ hc4 (by omega) (by omega)))
  | true =>
    have e1 : setT t x y p = upd t (posI x y) p := by unfold setT; rw [hi]; rfl
    rw [e1]; clear e1
    obtain ⟨h1, h2, h3, h4, h5, h6⟩ := insB_true hi
    have n1 : 0 ≤ 8 * y + x := by omega
    have n2 : 8 * y + x < 64 := by omega
    have e7 : (8 * y + x).toNat = posI x y := rfl
    go_enter Tryz.func38, Tryz.ntmps38
    go_wp2_with (first | (refine wpList_storeT rfl _ _ rfl _ rfl _ rfl t3 ?_; clear t3; intro w5 t3 hc5 hz5; replace hz5 := Nat.le_of_eq hz5.symm; replace t1 := t1.of_eq (hc5.block _ t1.lt (by omega)); simp only [Act.put, putS]) | (refine wpList_loadT rfl _ rfl _ rfl t1 ?_; simp only [Act.put, putS]) | (refine wpList_storeTp rfl _ _ rfl _ _ rfl _ rfl t1 (posI x y) (by assumption) (by first | rfl | omega) ?_; clear t1; intro w4 t1 hc4 hz4; replace hz4 := Nat.le_of_eq hz4.symm; replace t2 := t2.of_eq (hc4.block _ t2.lt (by omega)); replace t3 := t3.of_eq (hc4.block _ t3.lt (by omega)); simp only [Act.put, putS]) | (refine wpList_loadPx rfl _ rfl _ rfl t2 ?_; simp only [Act.put, putS]) | (refine wpList_allocT rfl rfl ?_; intro w3 t3 hb3 hz3; have l3 := Nat.lt_of_lt_of_eq (Nat.lt_succ_self _) hz3.symm; clear hz3; replace t1 := t1.of_eq (hb3.block _ t1.lt); replace t2 := t2.of_eq (hb3.block _ t2.lt); simp only [Act.put, putS]) | (refine wpList_boxPx rfl _ rfl _ rfl ?_; intro w2 t2 hb2 hz2; have l2 := Nat.lt_of_lt_of_eq (Nat.lt_succ_self _) hz2.symm; clear hz2; replace t1 := t1.of_eq (hb2.block _ t1.lt); simp only [Act.put, putS]) | (refine wpList_boxT rfl _ rfl _ rfl ?_; intro w1 t1 hb1 hz1; have l1 := Nat.lt_of_lt_of_eq (Nat.lt_succ_self _) hz1.symm; clear hz1; simp only [Act.put, putS]) | (go_at_call 46; refine (P_inside _ _ _).mono ?_; rintro e w' ⟨rfl, rfl⟩))
    refine bodyPost_ret (results_tile rfl _ _ (w2.heap.size) rfl t3) rfl ?_
    refine ⟨rfl, ?_⟩
    repeat' (first | (with_reducible exact Below.refl _ _) | (with_reducible assumption) | (with_reducible refine Below.trans ?_ (hb1.mono (by omega))) | (with_reducible refine Below.trans ?_ (hb2.mono (by omega))) | (with_reducible refine Below.trans ?_ (hb3.mono (by omega))) | (with_reducible refine Chg.below ?_ hc4 (by omega) (by omega)) | (with_reducible refine Chg.below ?_ hc5 (by omega) (by omega)))
set_option maxHeartbeats 1000000 in
set_option maxRecDepth 20000 in
theorem R_Set (t : Nat → Px) (x y : Int) (p : Px) (w : World) : Calls Tryz.prog 57 #[Tile.v t, .int .i64 x, .int .i64 y, Px.v p] w fun e w' => e = .returned (Tile.v (setT t x y p)) ∧ Below w.heap.size w w' := by
  cases hi : insB x y with
  | false =>
    have e1 : setT t x y p = t := by unfold setT; rw [hi]; rfl
    rw [e1]; clear e1
    go_enter Tryz.func57, Tryz.ntmps57
    go_wp2_with (first | (refine wpList_storeT rfl _ _ rfl _ rfl _ rfl t3 ?_; clear t3; intro w4 t3 hc4 hz4; replace hz4 := Nat.le_of_eq hz4.symm; replace t1 := t1.of_eq (hc4.block _ t1.lt (by omega)); simp only [Act.put, putS]) | (refine wpList_loadT rfl _ rfl _ rfl t1 ?_; simp only [Act.put, putS]) | (refine wpList_allocT rfl rfl ?_; intro w3 t3 hb3 hz3; have l3 := Nat.lt_of_lt_of_eq (Nat.lt_succ_self _) hz3.symm; clear hz3; replace t1 := t1.of_eq (hb3.block _ t1.lt); replace t2 := t2.of_eq (hb3.block _ t2.lt); simp only [Act.put, putS]) | (refine wpList_boxPx rfl _ rfl _ rfl ?_; intro w2 t2 hb2 hz2; have l2 := Nat.lt_of_lt_of_eq (Nat.lt_succ_self _) hz2.symm; clear hz2; replace t1 := t1.of_eq (hb2.block _ t1.lt); simp only [Act.put, putS]) | (refine wpList_boxT rfl _ rfl _ rfl ?_; intro w1 t1 hb1 hz1; have l1 := Nat.lt_of_lt_of_eq (Nat.lt_succ_self _) hz1.symm; clear hz1; simp only [Act.put, putS]) | (go_at_call 78; refine (R_inside _ _ _).mono ?_; rintro e w' ⟨rfl, rfl⟩))
    refine bodyPost_ret (results_tile rfl _ _ (w2.heap.size) rfl t3) rfl ?_
    refine ⟨rfl, ?_⟩
    repeat' (first | (with_reducible exact Below.refl _ _) | (with_reducible assumption) | (with_reducible refine Below.trans ?_ (hb1.mono (by omega))) | (with_reducible refine Below.trans ?_ (hb2.mono (by omega))) | (with_reducible refine Below.trans ?_ (hb3.mono (by omega))) | (with_reducible refine Chg.below ?_ hc4 (by omega) (by omega)))
  | true =>
    have e1 : setT t x y p = upd t (posI x y) p := by unfold setT; rw [hi]; rfl
    rw [e1]; clear e1
    obtain ⟨h1, h2, h3, h4, h5, h6⟩ := insB_true hi
    have n1 : 0 ≤ 8 * y + x := by omega
    have n2 : 8 * y + x < 64 := by omega
    have e7 : (8 * y + x).toNat = posI x y := rfl
    go_enter Tryz.func57, Tryz.ntmps57
    go_wp2_with (first | (refine wpList_storeT rfl _ _ rfl _ rfl _ rfl t3 ?_; clear t3; intro w5 t3 hc5 hz5; replace hz5 := Nat.le_of_eq hz5.symm; replace t1 := t1.of_eq (hc5.block _ t1.lt (by omega)); simp only [Act.put, putS]) | (refine wpList_loadT rfl _ rfl _ rfl t1 ?_; simp only [Act.put, putS]) | (refine wpList_storeTp rfl _ _ rfl _ _ rfl _ rfl t1 (posI x y) (by assumption) (by first | rfl | omega) ?_; clear t1; intro w4 t1 hc4 hz4; replace hz4 := Nat.le_of_eq hz4.symm; replace t2 := t2.of_eq (hc4.block _ t2.lt (by omega)); replace t3 := t3.of_eq (hc4.block _ t3.lt (by omega)); simp only [Act.put, putS]) | (refine wpList_loadPx rfl _ rfl _ rfl t2 ?_; simp only [Act.put, putS]) | (refine wpList_allocT rfl rfl ?_; intro w3 t3 hb3 hz3; have l3 := Nat.lt_of_lt_of_eq (Nat.lt_succ_self _) hz3.symm; clear hz3; replace t1 := t1.of_eq (hb3.block _ t1.lt); replace t2 := t2.of_eq (hb3.block _ t2.lt); simp only [Act.put, putS]) | (refine wpList_boxPx rfl _ rfl _ rfl ?_; intro w2 t2 hb2 hz2; have l2 := Nat.lt_of_lt_of_eq (Nat.lt_succ_self _) hz2.symm; clear hz2; replace t1 := t1.of_eq (hb2.block _ t1.lt); simp only [Act.put, putS]) | (refine wpList_boxT rfl _ rfl _ rfl ?_; intro w1 t1 hb1 hz1; have l1 := Nat.lt_of_lt_of_eq (Nat.lt_succ_self _) hz1.symm; clear hz1; simp only [Act.put, putS]) | (go_at_call 78; refine (R_inside _ _ _).mono ?_; rintro e w' ⟨rfl, rfl⟩))
    refine bodyPost_ret (results_tile rfl _ _ (w2.heap.size) rfl t3) rfl ?_
    refine ⟨rfl, ?_⟩
    repeat' (first | (with_reducible exact Below.refl _ _) | (with_reducible assumption) | (with_reducible refine Below.trans ?_ (hb1.mono (by omega))) | (with_reducible refine Below.trans ?_ (hb2.mono (by omega))) | (with_reducible refine Below.trans ?_ (hb3.mono (by omega))) | (with_reducible refine Chg.below ?_ hc4 (by omega) (by omega)) | (with_reducible refine Chg.below ?_ hc5 (by omega) (by omega)))

end Go.Proofs.YtppccnjckiedlaaGreatDoor
/- Contracts of Fill and Clean of package tile and of the reference. -/
namespace Go.Proofs.YtppccnjckiedlaaGreatDoor
open Go.RowKit Pl
set_option linter.unusedVariables false
set_option linter.unusedSimpArgs false
set_option maxRecDepth 20000

def fillT (p : Px) : Nat → Px := fun _ => p
def cleanT (t : Nat → Px) : Nat → Px := fun i => cleanP (t i)
def zeroT : Nat → Px := fun _ => Px.zero

end Go.Proofs.YtppccnjckiedlaaGreatDoor
/- Contracts of 'channels', Clean, Fade, of package pixel and of the reference's. -/
namespace Go.Proofs.YtppccnjckiedlaaGreatDoor
open Go.RowKit Pl
set_option linter.unusedVariables false
set_option linter.unusedSimpArgs false

end Go.Proofs.YtppccnjckiedlaaGreatDoor
/- Contracts of Clean, Fade of package pixel and of the reference, and of the reference's Blend, Over, Mix. -/
namespace Go.Proofs.YtppccnjckiedlaaGreatDoor
open Go.RowKit Pl
set_option linter.unusedVariables false
set_option linter.unusedSimpArgs false

set_option maxHeartbeats 400000 in
theorem P_Clean (q : Px) (w : World) (hq : q.ok) :
    Calls Tryz.prog 71 #[Px.v q] w fun e w' => e = .returned (Px.v (cleanP q)) ∧ Below w.heap.size w w' := by
  obtain ⟨r, g, b, a⟩ := q
  obtain ⟨⟨p1, p2⟩, ⟨p3, p4⟩, ⟨p5, p6⟩, ⟨p7, p8⟩⟩ := hq
  simp only at p1 p2 p3 p4 p5 p6 p7 p8
  by_cases h : a = 0
  · subst h
    have e1 : cleanP ⟨r, g, b, 0⟩ = ⟨0, 0, 0, 0⟩ := rfl
    rw [e1]; clear e1
    simp only [Px.v]
    go_enter Tryz.func71, Tryz.ntmps71
    go_wp2
    go_returns
    refine ⟨rfl, ?_⟩
    repeat' (first | (with_reducible exact Below.refl _ _) | (with_reducible assumption) | (with_reducible refine Below.setCell ?_ (by dsimp only; omega) _) | (with_reducible refine Below.alloc ?_ (by first | omega | (simp only [World.size_alloc, World.size_setCell, World.size_drew]; omega)) _) | (with_reducible refine Below.drew ?_))
  · have e1 : cleanP ⟨r, g, b, a⟩ = ⟨r, g, b, a⟩ := if_neg h
    have h' : (a == 0) = false := by simpa using h
    rw [e1]; clear e1 h
    simp only [Px.v]
    go_enter Tryz.func71, Tryz.ntmps71
    go_wp2
    go_returns
    refine ⟨rfl, ?_⟩
    repeat' (first | (with_reducible exact Below.refl _ _) | (with_reducible assumption) | (with_reducible refine Below.setCell ?_ (by dsimp only; omega) _) | (with_reducible refine Below.alloc ?_ (by first | omega | (simp only [World.size_alloc, World.size_setCell, World.size_drew]; omega)) _) | (with_reducible refine Below.drew ?_))

set_option maxHeartbeats 400000 in
theorem R_Clean (q : Px) (w : World) (hq : q.ok) :
    Calls Tryz.prog 53 #[Px.v q] w fun e w' => e = .returned (Px.v (cleanP q)) ∧ Below w.heap.size w w' := by
  obtain ⟨r, g, b, a⟩ := q
  obtain ⟨⟨p1, p2⟩, ⟨p3, p4⟩, ⟨p5, p6⟩, ⟨p7, p8⟩⟩ := hq
  simp only at p1 p2 p3 p4 p5 p6 p7 p8
  by_cases h : a = 0
  · subst h
    have e1 : cleanP ⟨r, g, b, 0⟩ = ⟨0, 0, 0, 0⟩ := rfl
    rw [e1]; clear e1
    simp only [Px.v]
    go_enter Tryz.func53, Tryz.ntmps53
    go_wp2
    go_returns
    refine ⟨rfl, ?_⟩
    repeat' (first | (with_reducible exact Below.refl _ _) | (with_reducible assumption) | (with_reducible refine Below.setCell ?_ (by dsimp only; omega) _) | (with_reducible refine Below.alloc ?_ (by first | omega | (simp only [World.size_alloc, World.size_setCell, World.size_drew]; omega)) _) | (with_reducible refine Below.drew ?_))
  · have e1 : cleanP ⟨r, g, b, a⟩ = ⟨r, g, b, a⟩ := if_neg h
    have h' : (a == 0) = false := by simpa using h
    rw [e1]; clear e1 h
    simp only [Px.v]
    go_enter Tryz.func53, Tryz.ntmps53
    go_wp2
    go_returns
    refine ⟨rfl, ?_⟩
    repeat' (first | (with_reducible exact Below.refl _ _) | (with_reducible assumption) | (with_reducible refine Below.setCell ?_ (by dsimp only; omega) _) | (with_reducible refine Below.alloc ?_ (by first | omega | (simp only [World.size_alloc, World.size_setCell, World.size_drew]; omega)) _) | (with_reducible refine Below.drew ?_))

end Go.Proofs.YtppccnjckiedlaaGreatDoor
/- Contracts of the reference's Blend, channel, Over, Mix. -/
namespace Go.Proofs.YtppccnjckiedlaaGreatDoor
open Go.RowKit Pl
set_option linter.unusedVariables false
set_option linter.unusedSimpArgs false

end Go.Proofs.YtppccnjckiedlaaGreatDoor
/- Contracts of the reference's channel, Over, Mix. -/
namespace Go.Proofs.YtppccnjckiedlaaGreatDoor
open Go.RowKit Pl
set_option linter.unusedVariables false
set_option linter.unusedSimpArgs false

end Go.Proofs.YtppccnjckiedlaaGreatDoor
/- Contracts of the reference's Mix and of Over and Mix of package pixel. -/
namespace Go.Proofs.YtppccnjckiedlaaGreatDoor
open Go.RowKit Pl
set_option linter.unusedVariables false
set_option linter.unusedSimpArgs false


end Go.Proofs.YtppccnjckiedlaaGreatDoor
/- Contracts of Over and Mix of package pixel. -/
namespace Go.Proofs.YtppccnjckiedlaaGreatDoor
open Go.RowKit Pl
set_option linter.unusedVariables false
set_option linter.unusedSimpArgs false

end Go.Proofs.YtppccnjckiedlaaGreatDoor
/- The contract of Over of package pixel. -/
namespace Go.Proofs.YtppccnjckiedlaaGreatDoor
open Go.RowKit Pl
set_option linter.unusedVariables false
set_option linter.unusedSimpArgs false

end Go.Proofs.YtppccnjckiedlaaGreatDoor
/- Quiet walks through regions that draw their order: tiles and pixels loaded. -/
namespace Go.Proofs.YtppccnjckiedlaaGreatDoor
open Go.RowKit Pl
set_option linter.unusedVariables false
set_option linter.unusedSimpArgs false
set_option maxRecDepth 20000

theorem ov_tile {w : World} {b : Nat} {f : Nat → Px} (h : TileAt w b f) : ∀ w', (∃ u, w' = ov w u) → TileAt w' b f := by
  rintro w' ⟨u, rfl⟩
  exact h.of_eq ((ov_below w u).block _ h.lt)
theorem ov_px {w : World} {b : Nat} {p : Px} (h : PixAt w b p) : ∀ w', (∃ u, w' = ov w u) → PixAt w' b p := by
  rintro w' ⟨u, rfl⟩
  exact h.of_eq ((ov_below w u).block _ h.lt)
section
variable {C : World → Prop} {a : Act} {o : Oper} {K : Act → Prop}
theorem quiet_loadT {f : Nat → Px} {x : Operand} (h : o.op = .load 37 x) (b' : Nat) (hx : a.eval x = .pointer (some ⟨b', 0, none⟩)) (ht : ∀ w, C w → TileAt w b' f) (hk : K (a.put o.dst (Tile.v f))) : o.quiet Tryz.prog a C K :=
  ⟨_, fun w hw => by unfold Oper.quietAt execOp; simp only [h, hx, run_load_tile (ht w hw), Sem.run_bind, Sem.run_pure, Result.andThen_ok]; exact ⟨rfl, rfl⟩, hk⟩
theorem quiet_loadPx {p : Px} {x : Operand} (h : o.op = .load 35 x) (b : Nat) (hx : a.eval x = .pointer (some ⟨b, 0, none⟩)) (ht : ∀ w, C w → PixAt w b p) (hk : K (a.put o.dst (Px.v p))) : o.quiet Tryz.prog a C K :=
  ⟨_, fun w hw => by unfold Oper.quietAt execOp; simp only [h, hx, run_load_px (ht w hw), Sem.run_bind, Sem.run_pure, Result.andThen_ok]; exact ⟨rfl, rfl⟩, hk⟩
theorem quiet_loadTp {f : Nat → Px} {x : Operand} {b : Nat} (h : o.op = .load 35 x) (j' : Nat) (hx : a.eval x = .pointer (some ⟨b, j', none⟩)) (ht : ∀ w, C w → TileAt w b f) (i : Nat) (hi : i < 64) (hj : j' = i * 4) (hk : K (a.put o.dst (Px.v (f i)))) : o.quiet Tryz.prog a C K :=
  ⟨_, fun w hw => by subst hj; unfold Oper.quietAt execOp; simp only [h, hx, run_load_tp (ht w hw) hi, Sem.run_bind, Sem.run_pure, Result.andThen_ok]; exact ⟨rfl, rfl⟩, hk⟩
end
@[go_sem] theorem guard_px (op : BinOp) (x y : Operand) (p q : Px) (w : World) : (eqGuard op 35 x y (Px.v p) (Px.v q)).run Tryz.prog w = .ok () w := run_eqGuard_agg w op 35 x y _ _ (by kernel_rfl)
@[go_sem] theorem guard_tile (op : BinOp) (x y : Operand) (p q : Nat → Px) (w : World) : (eqGuard op 37 x y (Tile.v p) (Tile.v q)).run Tryz.prog w = .ok () w := by
  unfold Tile.v
  exact run_eqGuard_agg w op 37 x y _ _ (by kernel_rfl)
end Go.Proofs.YtppccnjckiedlaaGreatDoor
