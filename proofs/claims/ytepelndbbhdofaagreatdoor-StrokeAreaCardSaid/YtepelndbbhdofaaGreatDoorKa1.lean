import Derived.WalkKit
import Derived.WalkSpells
import Derived.WalkLawsBesides
import Derived.Handy
import Derived.BigQuiet
import Derived.Deep.QuietTactic
import Derived.Lib.Hide
import Derived.StillTail
import Derived.OrdersHeld
import Derived.Shelf.Abstract
import Derived.Test.YtepelndbbhdofaaGreatDoorRows
import Derived.OwnWalkIn
import Derived.TacticsInMore
import Derived.Great.Ranges
import Derived.Lib.SlBytesRow
import Derived.Shelf.Strings.Builder1
import Derived.Shelf.Small.Strs
import Derived.Shelf.Strings.Repeat
import Derived.IntWalk
import Derived.RowKit
import Derived.Laws.EntriesVeiled
import Derived.Deep.RegionWith
import Derived.ProofKit
import Derived.OpenShut
import Derived.ShutString
import Derived.ChangeOld
import Derived.Below
import Derived.Carry
import Derived.Lib.SmallJoins
import Derived.RangeFuncNested
import Derived.RangeFuncBound
import Derived.RangeFuncCalls
import Derived.RangeFuncLeaves
import Derived.RangeFuncFrom
import Derived.LoopNIn
import Derived.LoopIn
import Derived.ChangeKeysEq
import Derived.Deep.RegionHeld3

namespace Go.Proofs.YtepelndbbhdofaaGreatDoor
theorem zo : (∀ (a : Act) (d : Tmp) (v : Value), a.put (some d) v = { a with tmps := a.tmps.setIfInBounds d v }) ∧ (∀ (a : Act) (v : Value), a.put none v = a) ∧ (∀ (α : Type) (l : List α) (i : Nat) (a : α), l.toArray.setIfInBounds i a = (l.set i a).toArray) ∧ (∀ (α : Type) (x a : α) (xs : List α), (x :: xs).set 0 a = a :: xs) ∧ (∀ (α : Type) (x a : α) (xs : List α) (n : Nat), (x :: xs).set (n + 1) a = x :: xs.set n a) :=
  ⟨fun _ _ _ => rfl, fun _ _ => rfl, fun _ _ _ _ => List.setIfInBounds_toArray _ _ _, fun _ _ _ _ => List.set_cons_zero, fun _ _ _ _ _ => List.set_cons_succ⟩
theorem jZ : (∀ (α : Type) (n : Nat) (x : α) (xs : List α), (x :: xs).take (n + 1) = x :: xs.take n) ∧ (∀ (α : Type) (xs : List α), xs.take 0 = []) ∧ (∀ (α : Type) (n : Nat) (x : α) (xs : List α), (x :: xs).drop (n + 1) = xs.drop n) ∧ (∀ (α : Type) (xs : List α), xs.drop 0 = xs) :=
  ⟨fun _ _ _ _ => List.take_succ_cons, fun _ _ => List.take_zero, fun _ _ _ _ => List.drop_succ_cons, fun _ _ => List.drop_zero⟩
theorem zM : (∀ (α : Type) (l : List α) (i : Nat) (h : i < l.toArray.size), l.toArray[i] = l[i]'(by simpa using h)) ∧ (∀ (α : Type) (a : α) (l : List α) (h : 0 < (a :: l).length), (a :: l)[0] = a) ∧ (∀ (α : Type) (a : α) (l : List α) (i : Nat) (h : i + 1 < (a :: l).length), (a :: l)[i + 1] = l[i]'(by simpa using h)) :=
  ⟨fun _ _ _ _ => List.getElem_toArray _, fun _ _ _ _ => List.getElem_cons_zero .., fun _ _ _ _ _ => List.getElem_cons_succ ..⟩
theorem qI : (∀ (α β : Type) (f : α → β) (l : List α), l.toArray.map f = (l.map f).toArray) ∧ (∀ (α β : Type) (f : α → β) (a : α) (l : List α), (a :: l).map f = f a :: l.map f) ∧ (∀ (α β : Type) (f : α → β), ([] : List α).map f = []) ∧ (∀ (α : Type) (xs : Array α) (i : Nat) (d : α), xs.getD i d = xs[i]?.getD d) ∧ (∀ (α : Type) (l : List α) (i : Nat), l.toArray[i]? = l[i]?) ∧ (∀ (α : Type) (a : α) (l : List α) (i : Nat), (a :: l)[i + 1]? = l[i]?) ∧ (∀ (α : Type) (a : α) (l : List α), (a :: l)[0]? = some a) ∧ (∀ (α : Type) (a d : α), (some a).getD d = a) :=
  ⟨fun _ _ _ _ => List.map_toArray .., fun _ _ _ _ _ => rfl, fun _ _ _ => rfl, fun _ _ _ _ => Array.getD_eq_getD_getElem? .., fun _ _ _ => List.getElem?_toArray .., fun _ _ _ _ => rfl, fun _ _ _ => rfl, fun _ _ _ => rfl⟩
end Go.Proofs.YtepelndbbhdofaaGreatDoor
/- General words of this seat's walks: worlds that have only grown ('Below'), a class of worlds for regions that draw their order. -/
namespace Go.Proofs.YtepelndbbhdofaaGreatDoor
open Go.RowKit
set_option linter.unusedVariables false
set_option linter.unusedSimpArgs false
theorem yT {B : Nat} {w w' : World} (h : Below B w.drew w') : Below B w w' := ⟨h.os, h.tape, h.output, h.size, h.block⟩
theorem Wo {W w1 : World} (hb : Below W.heap.size W w1) : (∀ b o, b < W.heap.size → w1.cell? ⟨b, o, none⟩ = W.cell? ⟨b, o, none⟩) ∧ (∀ b o, b < W.heap.size → w1.frozen? ⟨b, o, none⟩ = W.frozen? ⟨b, o, none⟩) :=
 ⟨fun b o h => hb.cell (p := ⟨b, o, none⟩) h, fun b o h => hb.frozen (p := ⟨b, o, none⟩) h⟩
open Classical in
/-- The world u, if it has only grown from w; else w. -/
noncomputable def ov (w u : World) : World := if Below w.heap.size w u then u else w
theorem qS (w u : World) : Below w.heap.size w (ov w u) := by
 unfold ov; split
 ·assumption
 ·exact Below.refl _ _
theorem zG {w u : World} (h : Below w.heap.size w u) : u = ov w u := by unfold ov; rw [if_pos h]
@[go_sem] theorem zgw (w u : World) (b o : Nat) (h : b < w.heap.size) : (ov w u).cell? ⟨b, o, none⟩ = w.cell? ⟨b, o, none⟩ := (qS w u).cell (p := ⟨b, o, none⟩) h
@[go_sem] theorem zfH (w u : World) (b o : Nat) (h : b < w.heap.size) : (ov w u).frozen? ⟨b, o, none⟩ = w.frozen? ⟨b, o, none⟩ := (qS w u).frozen (p := ⟨b, o, none⟩) h
theorem QK {B : Nat} {w W : World} (h : Below B w W) (hB : B ≤ W.heap.size) (u : World) : Below B w (ov W u) := h.trans ((qS W u).mono hB)
/-- A contract that says 'Below', met inside a region of the class '∃ u, w' = ov w u'. -/
theorem zC {P : Program} {f : FuncId} {args : Array Value} {w u : World} {v : Value}
  (h : Calls P f args (ov w u) fun e w' => e = .returned v ∧ Below (ov w u).heap.size (ov w u) w') : Calls P f args (ov w u) fun e w'' => e = .returned v ∧ ∃ u', w'' = ov w u' :=
 h.mono fun _ w2 ⟨he, hb⟩ => ⟨he, w2, zG ((qS w u).trans (hb.mono (qS w u).size))⟩
/-- A contract that leaves the world alone. -/
theorem xV {P : Program} {f : FuncId} {args : Array Value} {w u : World} {v : Value}
  (h : Calls P f args (ov w u) fun e w' => e = .returned v ∧ ov w u = w') : Calls P f args (ov w u) fun e w'' => e = .returned v ∧ ∃ u', w'' = ov w u' :=
 h.mono fun _ w2 ⟨he, hb⟩ => ⟨he, u, hb.symm⟩
/-- A region that draws its order, whose operations read old memory and whose callees only make new memory: one walk in the order of the text; behind it a world that has only grown. -/
theorem zA {P : Program} {id : Nat} {Q : Exit → Act → World → Prop} {a : Act} {w : World} {l : List Oper} (hm : P.follows .mixedOrders = true) (hB : Region.lexB .any l.toArray = true)
  (h : wpQuiet P l.toArray (fun w' => ∃ u, w' = ov w u) (fun a' => ∀ w', Below w.heap.size w w' → Q .normal a' w') l a) : (Code.region id l.toArray true).wp P Q a w := by
 refine wp_region_quiet (C := fun w' => ∃ u, w' = ov w u) hm hB ⟨w.drew, zG ((Below.refl _ _).drew)⟩ ?_
 have key : ∀ (l' : List Oper) (a : Act), wpQuiet P l.toArray (fun w' => ∃ u, w' = ov w u) (fun a' => ∀ w', Below w.heap.size w w' → Q .normal a' w') l' a →
   wpQuiet P l.toArray (fun w' => ∃ u, w' = ov w u) (fun a' => ∀ w', (∃ u, w' = ov w u) → Q .normal a' w') l' a := by
  intro l'
  induction l' with
  | nil =>
   intro a h; exact fun w' ⟨u, hu⟩ => h w' (hu ▸ qS w u)
  | cons o r ih =>
   intro a h; unfold wpQuiet at h ⊢; split
   ·rename_i hw
    rw [if_pos hw] at h; exact Oper.quiet_mono (fun a' h' => ih a' h') h
   ·rename_i hw
    rw [if_neg hw] at h; exact ih _ h
 exact key _ _ (by simpa using h)
/-! ### A quiet head, then a tail in a forced order: Derived/StillTail.lean's theorem for a class of worlds -/
section
variable {P : Program} {ops : Array Oper} {md : Region.Mode} {C : World → Prop}
/-- f of the first n operations come up, in whatever order; then L. -/
def wS (P : Program) (md : Region.Mode) (ops : Array Oper) (C : World → Prop) (n : Nat) (L : Array Bool → Act → Prop) : Nat → Array Bool → Act → Prop
 | 0, done, a => L done a
 | f + 1, done, a => Region.ready md ops done ≠ [] ∧ ∀ i ∈ Region.ready md ops done, i < n ∧ qOp P ops C i (wS P md ops C n L f (done.setIfInBounds i true)) a
theorem QF {n g : Nat} {L : Array Bool → Act → Prop} {Q' : Exit → Act → World → Prop} (hL : ∀ done a w, C w → L done a → wpAny P md ops Q' g done a w) :
  ∀ (f : Nat) (done : Array Bool) (a : Act) (w : World), C w → wS P md ops C n L f done a → wpAny P md ops Q' (f + g) done a w := by
 intro f
 induction f with
 | zero => intro done a w hw h; rw [Nat.zero_add]; exact hL _ _ _ hw h
 | succ f ih =>
  intro done a w hw h; rw [show f + 1 + g = (f + g) + 1 by omega]; exact ⟨fun h0 => absurd h0 h.1, fun i hi => wpOp_of_qOp hw (fun a' w' hw' h' => ih _ a' w' hw' h') (h.2 i hi).2⟩
/-- An operation of the head that may come up may be taken first. -/
theorem XL {n i : Nat} {oi : Oper} {v : Value} {L : Array Bool → Act → Prop} (hi : ops[i]? = some oi) (hsel : Region.noSelect ops = true)
  (hs : Region.sinkB md ops n = true) (hc : Region.chainB md ops n = true) (hn : n < ops.size) (hin : i < n) (hL : ∀ done a, L done a → ∀ j ∈ Region.ready md ops done, n ≤ j) :
  ∀ (f : Nat) (done : Array Bool) (a : Act), HeadInv md ops n done →
   (∀ j oj, ops[j]? = some oj → j ≠ i → done.getD j true = false → (∀ e ∈ oj.after, Region.binds md e = true → e.on ≠ i) → oi.apart ops oj = true) →
   i ∈ Region.ready md ops done → YieldsIn P ops C oi v a →
   wS P md ops C n L f (done.setIfInBounds i true) (a.put oi.dst v) → wS P md ops C n L (f + 1) done a := by
 have ns := Region.noSelect_spec hsel
 intro f
 induction f with
 | zero =>
  intro done a inv _ hr hy H; have hun := (mem_ready.1 hr).1; refine ⟨fun h => (by rw [h] at hr; cases hr), fun j hj => ?_⟩
  have hjn : j < n := Nat.lt_of_not_le fun h => tail_waits hs hc hn inv _ i rfl hin hun j h hj
  refine ⟨hjn, ?_⟩; by_cases hji : j = i
  ·rw [hji]; exact hy.qOp hi H
  ·exact absurd (hL _ _ H j (ready_mono hj hji)) (by omega)
 | succ f ih =>
  intro done a inv hfree hr hy H; have hun := (mem_ready.1 hr).1; refine ⟨fun h => (by rw [h] at hr; cases hr), fun j hj => ?_⟩
  have hjn : j < n := Nat.lt_of_not_le fun h => tail_waits hs hc hn inv _ i rfl hin hun j h hj
  refine ⟨hjn, ?_⟩; by_cases hji : j = i
  ·rw [hji]; exact hy.qOp hi H
  ·have h1 := (H.2 j (ready_mono hj hji)).2
   obtain ⟨hjun, oj, hoj, hall⟩ := mem_ready.1 hj; have hnot : ∀ e ∈ oj.after, Region.binds md e = true → e.on ≠ i := fun e he hb heq => by
    have h1 := hall e he hb; rw [heq, getD_both hun] at h1; cases h1
   have h2 := qOp_put hoj (hfree j oj hoj hji hjun hnot) (fun cs b => ns i oi cs b hi) (fun cs b => ns j oj cs b hoj) hy h1; refine qOp_mono (fun a' h3 => ih (done.setIfInBounds j true) a' (inv.set hj hjn) ?_ (ready_mono hr (Ne.symm hji)) h3.1 ?_) h2
   ·intro k ok hk hki hundone hno
    refine hfree k ok hk hki ?_ hno; by_cases hjk : j = k
    ·rw [← hjk]; exact hjun
    ·rw [getD_set_ne true hjk] at hundone; exact hundone
   ·rw [Array.setIfInBounds_comm _ _ hji]
    exact h3.2
theorem ZQ {n g : Nat} {Lq : Act → Prop} (hsel : Region.noSelect ops = true) (hs : Region.sinkB md ops n = true) (hc : Region.chainB md ops n = true) (hn : n < ops.size) :
  ∀ (l : List Oper) (k : Nat) (done : Array Bool) (a : Act), (∀ j, j < l.length → l[j]? = ops[k + j]?) → k + l.length = n → HeadInv md ops n done →
  Region.lexHead md ops g l.length k done = true → wpQuiet P ops C Lq l a →
  wS P md ops C n (fun d a' => Region.seqB md ops g n d = true ∧ Lq a') l.length done a := by
 intro l
 induction l with
 | nil =>
  intro k done a _ hk _ hB h; obtain rfl : k = n := by simpa using hk
  exact ⟨by simpa [Region.lexHead] using hB, h⟩
 | cons o l ih =>
  intro k done a hl hk inv hB h; have h0 : ops[k]? = some o := by simpa using (hl 0 (by simp)).symm
  simp only [List.length_cons, Region.lexHead, Bool.and_eq_true] at hB; obtain ⟨⟨hr, hf⟩, hB'⟩ := hB; have hkn : k < n := by simp only [List.length_cons] at hk; omega
  have hr' : k ∈ Region.ready md ops done := by simpa using hr
  have hst : qOp P ops C k (wpQuiet P ops C Lq l) a := by unfold qOp; simp only [h0]; exact h
  obtain ⟨v, hy, hK⟩ := yieldsIn_of_qOp h0 hst; refine XL h0 hsel hs hc hn hkn (fun d a' hL => seqB_ready hL.1) l.length done a inv (Region.free_spec h0 hf) hr' hy
   (ih (k + 1) _ _ (fun j hj => ?_) (by simp only [List.length_cons] at hk; omega) (inv.set hr' hkn) hB' hK)
  have := hl (j + 1) (by simp; omega)
  simpa [Nat.add_assoc, Nat.add_comm 1 j] using this
end
/-- The first n operations read old memory, or call what only makes new memory; the rest comes in the order of the text. -/
theorem qZ {P : Program} {id : Nat} {Q : Exit → Act → World → Prop} {a : Act} {w : World} {l : List Oper} (n : Nat) (hm : P.follows .mixedOrders = true) (hB : Region.lexTailB .any l.toArray n = true)
  (h : wpQuiet P l.toArray (fun w' => ∃ u, w' = ov w u) (fun a' => ∀ w', Below w.heap.size w w' → wpList P l.toArray Q (l.drop n) a' w') (l.take n) a) : (Code.region id l.toArray true).wp P Q a w := by
 simp only [Region.lexTailB, Bool.and_eq_true, decide_eq_true_eq] at hB
 obtain ⟨⟨⟨⟨hsel, hn⟩, hs⟩, hc⟩, hlex⟩ := hB
 have hn' : n < l.length := by simpa using hn
 have htl : (l.take n).length = n := by simp; omega
 have hdl : (l.drop n).length = l.toArray.size - n := by simp
 have inv0 : HeadInv .any l.toArray n (Array.replicate l.toArray.size false) :=
  ⟨by simp, fun j oj _ hl => (by rw [getD_replicate_false] at hl; cases hl), fun t _ ht => getD_in (by simpa using ht) (getD_replicate_false _ _)⟩
 have H := ZQ (md := .any) (g := l.toArray.size - n) hsel hs hc hn (l.take n) 0 _ a (fun j hj => by
  have hj' : j < n := by rw [htl] at hj; exact hj
  simp [hj']) (by simpa using htl) inv0 (by rw [htl]; exact hlex) h
 refine wp_region_any hm ?_
 have := QF (Q' := Q) (g := l.toArray.size - n) (fun d a' w' hw' hL => by
  obtain ⟨u, rfl⟩ := hw'; have := wpAny_of_seq (md := .any) (Q' := Q) (l.drop n) n d a' (ov w u) (fun j => by simp [List.getElem?_drop]) (by rw [hdl]; exact hL.1) (hL.2 _ (qS w u))
  rwa [hdl] at this) _ _ _ w.drew ⟨w.drew, zG ((Below.refl _ _).drew)⟩ H
 rw [htl, show n + (l.toArray.size - n) = l.toArray.size by omega] at this
 exact this
/- A region that draws its order: its first operation, a bare move, is taken first; then come reads of old memory and callees that only make memory; the rest comes in the order of the text. -/
def zg3 (md : Region.Mode) (ops : Array Oper) (n : Nat) : Bool :=
 (List.range n).all fun i => decide (i = 0) || (List.range (n + 1)).any fun j => decide (i < j) && Region.waitsFor md ops j i
section
variable {P : Program} {ops : Array Oper} {md : Region.Mode} {C : World → Prop}
end
def zfG (ops : Array Oper) : Array Bool := (Array.replicate ops.size false).setIfInBounds 0 true
/-- May the region be walked so: its first operation taken first, then n - 1 quiet ones, then the rest in the order of the text? -/
def zgj (md : Region.Mode) (ops : Array Oper) (n : Nat) : Bool :=
 Region.noSelect ops && decide (1 ≤ n) && decide (n < ops.size) && zg3 md ops n && Region.chainB md ops n && (Region.ready md ops (Array.replicate ops.size false)).contains 0 && Region.free md ops (Array.replicate ops.size false) 0 &&
 Region.lexHead md ops (ops.size - n) (n - 1) 1 (zfG ops)
/-- Q, but 'False' at a panic. -/
def zL (Q : Exit → Act → World → Prop) : Exit → Act → World → Prop
 | .panic _, _, _ => False
 | e, a, w => Q e a w
theorem zL.normal {Q : Exit → Act → World → Prop} {a : Act} {w : World} (h : Q .normal a w) : zL Q .normal a w := h
theorem zL.imp {Q : Exit → Act → World → Prop} : ∀ (e : Exit) (a : Act) (w : World), zL Q e a w → Q e a w := fun e a w h => by
 cases e <;> first | exact h | exact (h : False).elim
/- A region that draws its order: the first n operations read old memory, or call what only makes new memory, in whatever order; then the rest, operation by operation: one that must come next, or a pure one that may be taken first. -/
/-- Each operation behind the n-th waits for one from the n-th on that stands ahead of it. -/
def zg5 (md : Region.Mode) (ops : Array Oper) (n : Nat) : Bool :=
 (List.range ops.size).all fun t => decide (t ≤ n) || (List.range t).any fun s => decide (n ≤ s) && Region.waitsFor md ops t s
section
variable {P : Program} {ops : Array Oper} {md : Region.Mode} {C : World → Prop}
def Ke (md : Region.Mode) (ops : Array Oper) (n : Nat) (T : Array Bool) : Nat → Nat → Array Bool → Bool
 | 0, k, listed => decide (listed = T) && (Region.ready md ops T).all fun j => decide (n ≤ j)
 | f + 1, k, listed => (Region.ready md ops listed).contains k && Region.free md ops listed k && Ke md ops n T f (k + 1) (listed.setIfInBounds k true)
end
def zhc (md : Region.Mode) (ops : Array Oper) (n : Nat) (T : Array Bool) : Bool :=
 Region.noSelect ops && decide (n < ops.size) && Region.sinkB md ops n && zg5 md ops n && Ke md ops n T n 0 (Array.replicate ops.size false)
section
variable {P : Program} {ops : Array Oper} {md : Region.Mode} {Q : Exit → Act → World → Prop} {a : Act} {w : World} {T : Array Bool} {f : Nat}
end
/- A region that draws its order: its first n operations are pure or read memory that the operations ahead of the t0-th leave alone, and each from the t0-th on waits for all of them: they are taken first; the rest operation by operation. -/
def vOp (o : Oper) : Bool := o.guard.isNone && match o.op with
 | .move _ | .load .. | .binOp .. | .unOp .. | .convert .. | .fieldAddr .. | .indexAddr .. | .build .. | .slice .. | .extract .. => true
 | _ => false
theorem Xn {o : Oper} (h : vOp o = true) : o.guard = none := by
 unfold vOp at h
 simp only [Bool.and_eq_true, Option.isNone_iff_eq_none] at h
 exact h.1
theorem ze4 {P : Program} {o : Oper} (h : vOp o = true) (ρ : Operand → Value) : ∃ s : Sem Value, ∀ w, (execOp ρ o).run P w = (s.run P w).andThen fun v w' => .ok (.value v) w' := by
 unfold vOp at h
 simp only [Bool.and_eq_true] at h
 obtain ⟨_, h⟩ := h
 have hv : ∀ s : Sem Value, ∀ w, (do let x ← s; pure (Next.value x) : Sem Next).run P w = (s.run P w).andThen fun v w' => .ok (.value v) w' := fun s w => by
  simp only [Sem.run_bind, Sem.run_pure]
 unfold execOp
 cases ho : o.op <;> rw [ho] at h <;> first | (exact ⟨_, fun w => hv _ w⟩) | (cases h; done) | skip
 all_goals first | (exact ⟨pure _, fun w => rfl⟩) | (simp only [Sem.run_pure]; exact ⟨pure _, fun w => by simp only [Sem.run_pure, Result.andThen_ok]⟩)
section
variable {P : Program} {ops : Array Oper} {Q : Exit → Act → World → Prop} {md : Region.Mode} {S : World → Prop} {t0 : Nat}
theorem kU {o : Oper} {v : Value} {a : Act} (ho : vOp o = true) (h : ∀ w, S w → o.quietAt P a S w v) : YieldsIf P ops S o v a := by
 refine .inl ⟨by simp [Region.wanted, Xn ho], fun w hw => ?_⟩
 have h1 := h w hw
 unfold Oper.quietAt at h1
 obtain ⟨s, hs⟩ := ze4 (P := P) ho a.eval
 rw [hs w] at h1 ⊢
 cases hr : s.run P w with
 | ok x w' =>
  rw [hr] at h1; obtain ⟨e1, e2⟩ : w' = w ∧ x = v := h1; rw [e1, e2]; rfl
 | halt x w' =>
  rw [hr] at h1; exact (h1 : False).elim
/-- Whatever order is picked from here on; behind an operation ahead of the t0-th S holds. -/
def jP (P : Program) (md : Region.Mode) (ops : Array Oper) (Q : Exit → Act → World → Prop) (S : World → Prop) (t0 : Nat) : Nat → Array Bool → Act → World → Prop
 | 0, listed, a, w => Region.ready md ops listed = [] ∧ Q .normal a w
 | fuel + 1, listed, a, w =>
  (Region.ready md ops listed = [] → Q .normal a w) ∧
  ∀ i ∈ Region.ready md ops listed, wpOp P ops Q i (fun a' w' => (i < t0 → S w') ∧ jP P md ops Q S t0 fuel (listed.setIfInBounds i true) a' w') a w
theorem uL : ∀ (fuel : Nat) (listed : Array Bool) (a : Act) (w : World), jP P md ops Q S t0 fuel listed a w → wpAny P md ops Q fuel listed a w
 | 0, _, _, _, h => h
 | fuel + 1, _, _, _, h => ⟨h.1, fun i hi => wpOp_mono (fun a' w' h' => uL fuel _ a' w' h'.2) (h.2 i hi)⟩
/-- What has come up waits for nothing that has not. -/
def kJ (md : Region.Mode) (ops : Array Oper) (listed : Array Bool) : Prop := ∀ j oj, ops[j]? = some oj → listed.getD j false = true → ∀ e ∈ oj.after, Region.binds md e = true → listed.getD e.on false = true
theorem kJ.set {listed : Array Bool} (h : kJ md ops listed) {i : Nat} (hi : i ∈ Region.ready md ops listed) : kJ md ops (listed.setIfInBounds i true) := by
 intro j oj hj hl e he hb
 obtain ⟨hun, oi, hoi, hall⟩ := mem_ready.1 hi
 have key : listed.getD e.on false = true := by
  by_cases hij : i = j
  ·subst hij
   have : oi = oj := Option.some.inj (hoi.symm.trans hj); subst this; exact hall e he hb
  ·refine h j oj hj ?_ e he hb
   rw [Array.getD_eq_getD_getElem?, Array.getElem?_setIfInBounds, if_neg hij, ← Array.getD_eq_getD_getElem?] at hl; exact hl
 exact getD_set_true key
/-- t waits for i, through others perhaps. -/
def trB (md : Region.Mode) (ops : Array Oper) (i : Nat) : Nat → Nat → Bool
 | 0, t => Region.waitsFor md ops t i
 | f + 1, t => Region.waitsFor md ops t i || (List.range ops.size).any fun s => Region.waitsFor md ops t s && trB md ops i f s
theorem Jy {listed : Array Bool} (hc : kJ md ops listed) {i : Nat} (hun : listed.getD i true = false) : ∀ (f t : Nat), trB md ops i f t = true → listed.getD t false = false ∧ t ∉ Region.ready md ops listed := by
 have one : ∀ t s, Region.waitsFor md ops t s = true → listed.getD s false = false → listed.getD t false = false ∧ t ∉ Region.ready md ops listed := fun t s hw hs => by
  obtain ⟨o', ho', e, he, hb, hon⟩ := Region.waitsFor_spec hw
  constructor
  ·cases hl : listed.getD t false with
   | false => rfl
   | true =>
    have x := hc t o' ho' hl e he hb; rw [hon, hs] at x; cases x
  ·intro hr
   obtain ⟨_, ot, hot, hall⟩ := mem_ready.1 hr; have : o' = ot := Option.some.inj (ho'.symm.trans hot); subst this; have h2 := hall e he hb; rw [hon, hs] at h2; cases h2
 intro f
 induction f with
 | zero => intro t h; exact one t i h (getD_both hun)
 | succ f ih =>
  intro t h; simp only [trB, Bool.or_eq_true] at h; rcases h with h | h
  ·exact one t i h (getD_both hun)
  ·obtain ⟨s, _, hs⟩ := List.any_eq_true.1 h
   simp only [Bool.and_eq_true] at hs; exact one t s hs.1 (ih s hs.2).1
theorem QD {i : Nat} {oi : Oper} {v : Value} (hi : ops[i]? = some oi) (hsel : ∀ (j : Nat) (o : Oper) cs b, ops[j]? = some o → o.op ≠ .select cs b)
  (hQ : ∀ c a w, Q (.panic c) (a.put oi.dst v) w → Q (.panic c) a w) (hi0 : i < t0) (hwait : ∀ t, t0 ≤ t → t < ops.size → trB md ops i 8 t = true) :
  ∀ (fuel : Nat) (listed : Array Bool) (a : Act) (w : World), kJ md ops listed →
   (∀ j oj, ops[j]? = some oj → j ≠ i → listed.getD j true = false → (∀ e ∈ oj.after, Region.binds md e = true → e.on ≠ i) → oi.apart ops oj = true) →
   i ∈ Region.ready md ops listed → YieldsIf P ops S oi v a → S w →
   jP P md ops Q S t0 fuel (listed.setIfInBounds i true) (a.put oi.dst v) w → jP P md ops Q S t0 (fuel + 1) listed a w := by
 intro fuel
 induction fuel with
 | zero =>
  intro listed a w hcl _ hr hy hS H; refine ⟨fun h => (by rw [h] at hr; cases hr), fun j hj => ?_⟩
  by_cases hji : j = i
  ·subst hji; exact hy.wpOp hi hS ⟨fun _ => hS, H⟩
  ·have := ready_mono hj hji
   rw [H.1] at this; cases this
 | succ fuel ih =>
  intro listed a w hcl hfree hr hy hS H; refine ⟨fun h => (by rw [h] at hr; cases hr), fun j hj => ?_⟩
  by_cases hji : j = i
  ·subst hji; exact hy.wpOp hi hS ⟨fun _ => hS, H⟩
  ·have h1 := H.2 j (ready_mono hj hji)
   obtain ⟨hjun, oj, hoj, hall⟩ := mem_ready.1 hj; have hun := (mem_ready.1 hr).1; have hnot : ∀ e ∈ oj.after, Region.binds md e = true → e.on ≠ i := fun e he hb heq => by
    have h1 := hall e he hb; rw [heq, getD_both hun] at h1; cases h1
   have hjs : j < ops.size := (Array.getElem?_eq_some_iff.1 hoj).1; have hjt : j < t0 := Nat.lt_of_not_le fun zb => by
    exact (Jy hcl hun 8 j (hwait j zb hjs)).2 hj
   have h2 := wpOp_putIf hoj (hfree j oj hoj hji hjun hnot) (fun cs b => hsel i oi cs b hi) (fun cs b => hsel j oj cs b hoj) hQ hy h1; have hfree' : ∀ k ok, ops[k]? = some ok → k ≠ i → (listed.setIfInBounds j true).getD k true = false →
     (∀ e ∈ ok.after, Region.binds md e = true → e.on ≠ i) → oi.apart ops ok = true := fun k ok hk hki hun hno => by
    refine hfree k ok hk hki ?_ hno; by_cases hjk : j = k
    ·subst hjk; exact hjun
    ·rw [getD_set_ne true hjk] at hun; exact hun
   refine wpOp_mono (fun a' w' h3 => ⟨fun _ => h3.2.1 hjt, ih (listed.setIfInBounds j true) a' w' (hcl.set hj) hfree' (ready_mono hr (Ne.symm hji)) h3.1 (h3.2.1 hjt) ?_⟩) h2; rw [Array.setIfInBounds_comm _ _ hji]; exact h3.2.2
def Y9 (md : Region.Mode) (ops : Array Oper) (t0 : Nat) (T : Array Bool) : List Oper → Nat → Array Bool → Bool
 | [], _, listed => decide (listed = T)
 | o :: l, k, listed => vOp o && decide (k < t0) && ((List.range ops.size).all fun t => decide (t < t0) || trB md ops k 8 t) && (Region.ready md ops listed).contains k && Region.free md ops listed k && Y9 md ops t0 T l (k + 1) (listed.setIfInBounds k true)
theorem zas {T : Array Bool} {f : Nat} {w : World} (hsel : Region.noSelect ops = true) (hS : S w) : ∀ (l : List Oper) (k : Nat) (listed : Array Bool) (a : Act), kJ md ops listed → (∀ j, j < l.length → l[j]? = ops[k + j]?) →
  Y9 md ops t0 T l k listed = true → wpQuiet P ops S (fun a' => jP P md ops (zL Q) S t0 f T a' w) l a → jP P md ops (zL Q) S t0 (l.length + f) listed a w := by
 intro l
 induction l with
 | nil =>
  intro k listed a _ _ hB h; simp only [Y9, decide_eq_true_eq] at hB; rw [List.length_nil, Nat.zero_add, hB]; exact h
 | cons o l ih =>
  intro k listed a hcl hl hB h; have h0 : ops[k]? = some o := by simpa using (hl 0 (by simp)).symm
  simp only [Y9, Bool.and_eq_true, decide_eq_true_eq] at hB; obtain ⟨⟨⟨⟨⟨hv, hk⟩, hwt⟩, hr⟩, hf⟩, hB'⟩ := hB; have hw : Region.wanted o (yielded ops a.tmps) = true := by simp [Region.wanted, Xn hv]
  unfold wpQuiet at h; rw [if_pos hw] at h; obtain ⟨v, hy, hK⟩ := h; rw [show (o :: l).length + f = (l.length + f) + 1 by simp; omega]
  refine QD h0 (Region.noSelect_spec hsel) (fun _ _ _ h => h) hk (fun t ht hts => ?_) (l.length + f) listed a w hcl (Region.free_spec h0 hf) (by simpa using hr) (kU hv hy) hS
   (ih (k + 1) _ _ (hcl.set (by simpa using hr)) (fun j hj => ?_) hB' hK)
  ·have := List.all_eq_true.1 hwt t (List.mem_range.2 hts)
   simp only [Bool.or_eq_true, decide_eq_true_eq] at this; rcases this with h | h
   ·omega
   ·exact h
  ·have := hl (j + 1) (by simp; omega)
   simpa [Nat.add_assoc, Nat.add_comm 1 j] using this
/-- The one operation that must come next; ahead of the t0-th: it only makes memory. -/
theorem zR (i : Nat) {oi : Oper} {T : Array Bool} {f : Nat} {a : Act} {w : World} (hi : ops[i]? = some oi) (hr : Region.ready md ops T = [i]) (hg : oi.guard = none)
  (H : ∀ K : Act → World → Prop, (∀ a w, (i < t0 → S w) ∧ jP P md ops (zL Q) S t0 f (T.setIfInBounds i true) a w → K a w) → oi.wp P a w K (zL Q)) : jP P md ops (zL Q) S t0 (f + 1) T a w := by
 refine ⟨fun h => (by rw [hr] at h; cases h), fun j hj => ?_⟩
 rw [hr] at hj
 obtain rfl : j = i := by simpa using hj
 unfold wpOp
 rw [hi]
 simp only []
 rw [if_pos (by simp [Region.wanted, hg])]
 exact .inl (H _ fun _ _ h => h)
end
theorem ZM {P : Program} {ops : Array Oper} {Q : Exit → Act → World → Prop} {md : Region.Mode} {S : World → Prop} {t0 : Nat} : ∀ (f : Nat) (T : Array Bool) (a : Act) (w : World), (∀ i, i < t0 → T.getD i true = true) → wpAny P md ops Q f T a w → jP P md ops Q S t0 f T a w
 | 0, _, _, _, _, h => h
 | f + 1, T, a, w, hT, h => ⟨h.1, fun i hi => by
  have hun := (mem_ready.1 hi).1; have zd : ¬ i < t0 := fun zh => by rw [hT i zh] at hun; cases hun
  refine wpOp_mono (fun a' w' h' => ⟨fun zh => absurd zh zd, ZM f _ a' w' (fun j hj => ?_) h'⟩) (h.2 i hi); have hne : i ≠ j := fun e => zd (e ▸ hj)
  rw [getD_set_ne true hne]; exact hT j hj⟩
/-- The rest comes in the order of the text. -/
theorem qE {P : Program} {l : List Oper} {Q : Exit → Act → World → Prop} {md : Region.Mode} {S : World → Prop} {t0 : Nat} {T : Array Bool} {a : Act} {w : World} (h1 : ((List.range t0).all fun i => T.getD i true) = true) (h2 : Region.seqB md l.toArray (l.drop t0).length t0 T = true)
  (h : wpList P l.toArray Q (l.drop t0) a w) : jP P md l.toArray Q S t0 (l.length - t0) T a w := by
 refine ZM _ T a w (fun i hi => List.all_eq_true.1 h1 i (List.mem_range.2 hi)) ?_
 have := wpAny_of_seq (md := md) (Q' := Q) (l.drop t0) t0 T a w (fun j => by simp [List.getElem?_drop]) h2 h
 rwa [List.length_drop] at this
theorem wG {P : Program} {id : Nat} {Q : Exit → Act → World → Prop} {a : Act} {w : World} {l : List Oper} (n t0 : Nat) (T : Array Bool) (hm : P.follows .mixedOrders = true)
  (hB : (Region.noSelect l.toArray && decide (n < l.length) && Y9 .any l.toArray t0 T (l.take n) 0 (Array.replicate l.toArray.size false)) = true)
  (h : wpQuiet P l.toArray (fun w' => ∃ u, w' = ov w u) (fun a' => ∀ w', Below w.heap.size w w' → jP P .any l.toArray (zL Q) (fun w'' => ∃ u, w'' = ov w u) t0 (l.length - n) T a' w') (l.take n) a) : (Code.region id l.toArray true).wp P Q a w := by
 simp only [Bool.and_eq_true, decide_eq_true_eq] at hB
 obtain ⟨⟨hsel, hn⟩, hX⟩ := hB
 have htl : (l.take n).length = n := by simp; omega
 have key : ∀ (l' : List Oper) (a : Act), wpQuiet P l.toArray (fun w' => ∃ u, w' = ov w u) (fun a' => ∀ w', Below w.heap.size w w' → jP P .any l.toArray (zL Q) (fun w'' => ∃ u, w'' = ov w u) t0 (l.length - n) T a' w') l' a →
   wpQuiet P l.toArray (fun w' => ∃ u, w' = ov w u) (fun a' => jP P .any l.toArray (zL Q) (fun w'' => ∃ u, w'' = ov w u) t0 (l.length - n) T a' w.drew) l' a := by
  intro l'
  induction l' with
  | nil => intro a h; exact h _ ((Below.refl _ _).drew)
  | cons o r ih =>
   intro a h; unfold wpQuiet at h ⊢; split
   ·rename_i hw
    rw [if_pos hw] at h; exact Oper.quiet_mono (fun a' h' => ih a' h') h
   ·rename_i hw
    rw [if_neg hw] at h; exact ih _ h
 refine Code.wp_mono zL.imp (wp_region_any hm ?_)
 have := zas (md := .any) (t0 := t0) (T := T) (f := l.length - n) (w := w.drew) hsel ⟨w.drew, zG ((Below.refl _ _).drew)⟩ (l.take n) 0 _ a (fun j oj _ hl => by rw [getD_replicate_false] at hl; cases hl) (fun j hj => by
  have hj' : j < n := by rw [htl] at hj; exact hj
  simp [hj']) hX (key _ _ h)
 rw [htl, show n + (l.length - n) = l.toArray.size by simp; omega] at this
 exact uL _ _ _ _ this
/-! ### Operation by operation -/
def Wq (md : Region.Mode) (ops : Array Oper) (T : Array Bool) : Bool := (List.range ops.size).all fun j => !(T.getD j false) || match ops[j]? with
 | some oj => oj.after.all fun e => !(Region.binds md e) || T.getD e.on false
 | none => true
theorem XI {md : Region.Mode} {ops : Array Oper} {T : Array Bool} (h : Wq md ops T = true) : kJ md ops T := by
 intro j oj hj hl e he hb
 have h1 := List.all_eq_true.1 h j (List.mem_range.2 (Array.getElem?_eq_some_iff.1 hj).1)
 rw [hl, hj] at h1
 simp only [Bool.not_true, Bool.false_or] at h1
 have h2 := Array.all_eq_true'.1 h1 e he
 rw [hb] at h2
 simpa using h2
def zfk (md : Region.Mode) (ops : Array Oper) (t0 : Nat) (T : Array Bool) (i : Nat) : Bool :=
 (match ops[i]? with | some o => vOp o | none => false) && decide (i < t0) && ((List.range ops.size).all fun t => decide (t < t0) || trB md ops i 8 t) && (Region.ready md ops T).contains i && Region.free md ops T i && Wq md ops T && Region.noSelect ops
section
variable {P : Program} {ops : Array Oper} {md : Region.Mode} {Q : Exit → Act → World → Prop} {S : World → Prop} {t0 f : Nat} {a : Act} {w : World} {T : Array Bool}
/-- A pure operation, or a load that S knows, is taken first. -/
theorem z1 (i : Nat) {oi : Oper} (hi : ops[i]? = some oi) (hB : zfk md ops t0 T i = true) (hS : S w)
  (h : ∀ K : Act → Prop, (∀ a', jP P md ops (zL Q) S t0 f (T.setIfInBounds i true) a' w → K a') → oi.quiet P a S K) : jP P md ops (zL Q) S t0 (f + 1) T a w := by
 simp only [zfk, Bool.and_eq_true, decide_eq_true_eq] at hB
 obtain ⟨⟨⟨⟨⟨⟨hv, hk⟩, hwt⟩, hr⟩, hf⟩, hcl⟩, hsel⟩ := hB
 rw [hi] at hv
 obtain ⟨v, hy, hK⟩ := h _ (fun _ h => h)
 refine QD hi (Region.noSelect_spec hsel) (fun _ _ _ h => h) hk (fun t ht hts => ?_) f T a w (XI hcl) (Region.free_spec hi hf) (by simpa using hr) (kU hv hy) hS hK
 have := List.all_eq_true.1 hwt t (List.mem_range.2 hts)
 simp only [Bool.or_eq_true, decide_eq_true_eq] at this
 rcases this with h | h
 ·omega
 ·exact h
/-- One of two operations comes next. -/
theorem jK (i j : Nat) {oi oj : Oper} (hi : ops[i]? = some oi) (hj : ops[j]? = some oj) (hr : Region.ready md ops T = [i, j]) (hgi : oi.guard = none) (hgj : oj.guard = none)
  (Hi : ∀ K : Act → World → Prop, (∀ a w, (i < t0 → S w) ∧ jP P md ops (zL Q) S t0 f (T.setIfInBounds i true) a w → K a w) → oi.wp P a w K (zL Q))
  (Hj : ∀ K : Act → World → Prop, (∀ a w, (j < t0 → S w) ∧ jP P md ops (zL Q) S t0 f (T.setIfInBounds j true) a w → K a w) → oj.wp P a w K (zL Q)) : jP P md ops (zL Q) S t0 (f + 1) T a w := by
 refine ⟨fun h => (by rw [hr] at h; cases h), fun k hk => ?_⟩
 rw [hr] at hk
 have hk : k = i ∨ k = j := by simpa using hk
 rcases hk with rfl | rfl
 ·unfold wpOp
  rw [hi]; simp only []; rw [if_pos (by simp [Region.wanted, hgi])]; exact .inl (Hi _ fun _ _ h => h)
 ·unfold wpOp
  rw [hj]; simp only []; rw [if_pos (by simp [Region.wanted, hgj])]; exact .inl (Hj _ fun _ _ h => h)
end
theorem yG {P : Program} {id : Nat} {Q : Exit → Act → World → Prop} {a : Act} {w : World} {l : List Oper} (t0 : Nat) (T : Array Bool) (hm : P.follows .mixedOrders = true)
  (hB : T = Array.replicate l.toArray.size false)
  (h : ∀ w', Below w.heap.size w w' → jP P .any l.toArray (zL Q) (fun w'' => ∃ u, w'' = ov w u) t0 l.length T a w') : (Code.region id l.toArray true).wp P Q a w := by
 refine Code.wp_mono zL.imp (wp_region_any hm ?_)
 rw [← hB]
 have := uL _ _ _ _ (h w.drew ((Below.refl _ _).drew))
 rwa [show l.length = l.toArray.size by simp] at this
/- Regions that draw their order, some of whose operations hand back values that are known by a fact alone: one walk in the order of the text serves for all orders. -/
/-- What is known of an operation's value: its shape, a fact that lasts. -/
structure jQ where
 α : Type
 ne : Nonempty α
 f : α → Value
 F : α → World → Prop
 mono : ∀ x w w', Below w.heap.size w w' → F x w → F x w'
theorem Zb {a b : Act} {d : Option Tmp} {u v : Value} (hs : b.tmps.size = a.tmps.size) (h : a.put d u = a.put d v) : b.put d u = b.put d v := by
 cases d with
 | none => rfl
 | some d =>
  have h1 : a.tmps.setIfInBounds d u = a.tmps.setIfInBounds d v := congrArg Act.tmps h; show ({ b with tmps := b.tmps.setIfInBounds d u } : Act) = { b with tmps := b.tmps.setIfInBounds d v }
  by_cases hd : d < a.tmps.size
  ·have h2 := congrArg (fun t : Array Value => t[d]?) h1
   simp [hd] at h2
   rw [h2]
  ·have hd1 : a.tmps.size ≤ d := Nat.le_of_not_lt hd
   have hd2 : b.tmps.size ≤ d := hs ▸ hd1; rw [Array.setIfInBounds_eq_of_size_le hd2, Array.setIfInBounds_eq_of_size_le hd2]
theorem vt (a : Act) (d : Option Tmp) (v : Value) : (a.put d v).tmps.size = a.tmps.size := by
 cases d with
 | none => rfl
 | some d => show (a.tmps.setIfInBounds d v).size = _; simp
def vS (E : Nat → World → Prop) (k : Nat) (G : World → Prop) : Nat → World → Prop := fun j => if j = k then G else E j
theorem zaA (E : Nat → World → Prop) {k i : Nat} (h : k ≠ i) (A B : World → Prop) : vS (vS E k A) i B = vS (vS E i B) k A := by
 funext j
 unfold vS
 by_cases h1 : j = i
 ·rw [if_pos h1, if_neg (by omega), if_pos h1]
 ·rw [if_neg h1]
  by_cases h2 : j = k
  ·rw [if_pos h2, if_pos h2]
  ·rw [if_neg h2, if_neg h2, if_neg h1]
theorem XJ (E : Nat → World → Prop) {k j : Nat} (h : j ≠ k) (A : World → Prop) : vS E k A j = E j := if_neg h
section
variable {P : Program} {ops : Array Oper} {Q : Exit → Act → World → Prop} {md : Region.Mode} {C : World → Prop} {S : Nat → Option jQ} {L : (Nat → World → Prop) → Act → Prop}
/-- The operation number k hands back a value as its specification says, wherever those it waits for have come. -/
def KY (P : Program) (ops : Array Oper) (md : Region.Mode) (Q : Exit → Act → World → Prop) (C : World → Prop) (E : Nat → World → Prop) (k : Nat) (o : Oper) (a : Act) (s : jQ) : Prop :=
 ∀ w, C w → (∀ j, Region.waitsFor md ops k j = true → E j w) → o.wp P a w (fun a' w' => ∃ x, a' = a.put o.dst (s.f x) ∧ s.F x w' ∧ Below w.heap.size w w') (zL Q)
theorem zdD {E : Nat → World → Prop} {k : Nat} {o : Oper} {a : Act} {s : jQ}
  (h : ∀ w, C w → (∀ j, Region.waitsFor md ops k j = true → E j w) → ∀ K : Act → World → Prop, (∀ x w', s.F x w' → Below w.heap.size w w' → K (a.put o.dst (s.f x)) w') → o.wp P a w K (zL Q)) : KY P ops md Q C E k o a s :=
 fun w hC hE => h w hC hE _ fun x w' h1 h2 => ⟨x, rfl, h1, h2⟩
theorem yP {E E' : Nat → World → Prop} {k : Nat} {o : Oper} {a b : Act} {s : jQ} (he : execOp b.eval o = execOp a.eval o) (hs : b.tmps.size = a.tmps.size) (hE : ∀ j w, Region.waitsFor md ops k j = true → E' j w → E j w)
  (h : KY P ops md Q C E k o a s) : KY P ops md Q C E' k o b s := by
 intro w hC hE'
 have h1 := h w hC fun j hj => hE j w hj (hE' j hj)
 unfold Oper.wp at *
 rw [he]
 generalize (execOp a.eval o).run P w = r at *
 cases r with
 | ok n w' =>
  cases n <;> simp only [Oper.upon] at h1 ⊢
  case value u => obtain ⟨x, h2, h3⟩ := h1; exact ⟨x, Zb hs h2, h3⟩
  case skip => obtain ⟨x, h2, h3⟩ := h1; exact ⟨x, Zb hs h2, h3⟩
  case defer d =>
   obtain ⟨x, h2, h3⟩ := h1; have h4 := congrArg (fun y : Act => y.defers.length) h2; cases ho : o.dst <;> rw [ho] at h4 <;> simp [Act.put] at h4
  case enter f args =>
   refine Calls.mono h1 fun e w'' he => ?_
   cases e with
   | returned u => obtain ⟨x, h2, h3⟩ := he; exact ⟨x, Zb hs h2, h3⟩
   | panicked c => exact he
   | outgrown => exact he
  case row row args => exact Rows.mono h1 fun u w'' ⟨x, h2, h3⟩ => ⟨x, Zb hs h2, h3⟩
 | halt x w' =>
  cases x <;> simp only [Oper.upon] at h1 ⊢
  case panic u => exact h1
/-- The walk in the order of the text. -/
def vv (P : Program) (md : Region.Mode) (ops : Array Oper) (Q : Exit → Act → World → Prop) (C : World → Prop) (S : Nat → Option jQ) (L : (Nat → World → Prop) → Act → Prop) : List Nat → (Nat → World → Prop) → Act → Prop
 | [], E, a => L E a
 | k :: r, E, a => match ops[k]? with
  | none => False
  | some o =>
   if Region.wanted o (yielded ops a.tmps) = true then
    match S k with
    | none => ∃ v, (∀ w, C w → (execOp a.eval o).run P w = .ok (.value v) w) ∧ vv P md ops Q C S L r E (a.put o.dst v)
    | some s => KY P ops md Q C E k o a s ∧ ∀ x, vv P md ops Q C S L r (vS E k (s.F x)) (a.put o.dst (s.f x))
   else vv P md ops Q C S L r E (a.put o.dst undef)
theorem zdL {k i : Nat} {ok oi : Oper} {r : List Nat} (hk : ops[k]? = some ok) (hi : ops[i]? = some oi) (hap : ok.apart ops oi = true) (hsk : ∀ cs b, ok.op ≠ .select cs b) (hsi : ∀ cs b, oi.op ≠ .select cs b)
  (hne : k ≠ i) (hik : Region.waitsFor md ops i k = false) (hki : Region.waitsFor md ops k i = false) (hC : ∃ w, C w) {E : Nat → World → Prop} {a : Act}
  (h : vv P md ops Q C S L (k :: i :: r) E a) : vv P md ops Q C S L (i :: k :: r) E a := by
 obtain ⟨h1, h2, h3⟩ := Oper.apart_spec hap
 have ei : ∀ u, execOp (a.put ok.dst u).eval oi = execOp a.eval oi := fun u => execOp_put oi hsi a ok.dst u h1
 have ek : ∀ u, execOp (a.put oi.dst u).eval ok = execOp a.eval ok := fun u => execOp_put ok hsk a oi.dst u h3
 have wi : ∀ u, Region.wanted oi (yielded ops (a.put ok.dst u).tmps) = Region.wanted oi (yielded ops a.tmps) := fun u => wanted_put oi a ok.dst u h1
 have wk : ∀ u, Region.wanted ok (yielded ops (a.put oi.dst u).tmps) = Region.wanted ok (yielded ops a.tmps) := fun u => wanted_put ok a oi.dst u h3
 have pc : ∀ u v, (a.put ok.dst u).put oi.dst v = (a.put oi.dst v).put ok.dst u := fun u v => Act.put_comm a u v h2
 have Ek : ∀ (s : jQ) x j w, Region.waitsFor md ops i j = true → E j w → vS E k (s.F x) j w := fun s x j w hj he => by
  rw [XJ]; exact he
  intro e; rw [e, hik] at hj; cases hj
 have Ek' : ∀ (s : jQ) x j w, Region.waitsFor md ops i j = true → vS E k (s.F x) j w → E j w := fun s x j w hj he => by
  rw [XJ] at he; exact he
  intro e; rw [e, hik] at hj; cases hj
 have Ei' : ∀ (s : jQ) x j w, Region.waitsFor md ops k j = true → vS E i (s.F x) j w → E j w := fun s x j w hj he => by
  rw [XJ] at he; exact he
  intro e; rw [e, hki] at hj; cases hj
 unfold vv at h ⊢
 rw [hk] at h
 rw [hi]
 simp only at h ⊢
 -- the second's part of what the first leaves
 by_cases Wk : Region.wanted ok (yielded ops a.tmps) = true
 ·rw [if_pos Wk] at h
  cases Sk : S k with
  | none =>
   rw [Sk] at h; obtain ⟨v, hv, h⟩ := h; unfold vv at h; rw [hi] at h; simp only at h; rw [wi] at h; by_cases Wi : Region.wanted oi (yielded ops a.tmps) = true
   ·rw [if_pos Wi] at h ⊢
    cases Si : S i with
    | none =>
     rw [Si] at h; obtain ⟨u, hu, h⟩ := h; refine ⟨u, fun w hw => by rw [← ei v]; exact hu w hw, ?_⟩
     unfold vv; rw [hk]; simp only; rw [wk, if_pos Wk, Sk]; exact ⟨v, fun w hw => by rw [ek u]; exact hv w hw, by rw [← pc]; exact h⟩
    | some s =>
     rw [Si] at h; obtain ⟨hs, h⟩ := h; refine ⟨yP (ei v).symm (vt _ _ _).symm (fun _ _ _ he => he) hs, fun y => ?_⟩; unfold vv; rw [hk]; simp only; rw [wk, if_pos Wk, Sk]; exact ⟨v, fun w hw => by rw [ek]; exact hv w hw, by rw [← pc]; exact h y⟩
   ·rw [if_neg Wi] at h ⊢
    unfold vv; rw [hk]; simp only; rw [wk, if_pos Wk, Sk]; exact ⟨v, fun w hw => by rw [ek]; exact hv w hw, by rw [← pc]; exact h⟩
  | some s =>
   rw [Sk] at h; obtain ⟨hs, h⟩ := h; obtain ⟨x0⟩ := s.ne; by_cases Wi : Region.wanted oi (yielded ops a.tmps) = true
   ·rw [if_pos Wi]
    cases Si : S i with
    | none =>
     have hx : ∀ x, ∃ v, (∀ w, C w → (execOp a.eval oi).run P w = .ok (.value v) w) ∧ vv P md ops Q C S L r (vS E k (s.F x)) ((a.put ok.dst (s.f x)).put oi.dst v) := fun x => by
      have h := h x; unfold vv at h; rw [hi] at h; simp only at h; rw [wi, if_pos Wi, Si] at h; obtain ⟨v, hv, h⟩ := h; exact ⟨v, fun w hw => by rw [← ei (s.f x)]; exact hv w hw, h⟩
     obtain ⟨v, hv, _⟩ := hx x0; refine ⟨v, hv, ?_⟩; unfold vv; rw [hk]; simp only; rw [wk, if_pos Wk, Sk]; refine ⟨yP (ek v) (vt _ _ _) (fun _ _ _ he => he) hs, fun x => ?_⟩; obtain ⟨v', hv', h'⟩ := hx x; obtain ⟨w, hw⟩ := hC; have e := (hv w hw).symm.trans (hv' w hw)
     injection e with e _
     injection e with e
     rw [← pc, e]; exact h'
    | some t =>
     have hx : ∀ x, KY P ops md Q C (vS E k (s.F x)) i oi (a.put ok.dst (s.f x)) t ∧ ∀ y, vv P md ops Q C S L r (vS (vS E k (s.F x)) i (t.F y)) ((a.put ok.dst (s.f x)).put oi.dst (t.f y)) := fun x => by
      have h := h x; unfold vv at h; rw [hi] at h; simp only at h; rw [wi, if_pos Wi, Si] at h; exact h
     refine ⟨yP (ei (s.f x0)).symm (vt _ _ _).symm (Ek s x0) (hx x0).1, fun y => ?_⟩; unfold vv; rw [hk]; simp only; rw [wk, if_pos Wk, Sk]; refine ⟨yP (ek _) (vt _ _ _) (Ei' t y) hs, fun x => ?_⟩; rw [← pc, ← zaA E hne]; exact (hx x).2 y
   ·rw [if_neg Wi]
    unfold vv; rw [hk]; simp only; rw [wk, if_pos Wk, Sk]; refine ⟨yP (ek _) (vt _ _ _) (fun _ _ _ he => he) hs, fun x => ?_⟩; have h := h x; unfold vv at h; rw [hi] at h; simp only at h; rw [wi, if_neg Wi] at h; rw [← pc]; exact h
 ·rw [if_neg Wk] at h
  unfold vv at h; rw [hi] at h; simp only at h; rw [wi] at h; by_cases Wi : Region.wanted oi (yielded ops a.tmps) = true
  ·rw [if_pos Wi] at h ⊢
   cases Si : S i with
   | none =>
    rw [Si] at h; obtain ⟨u, hu, h⟩ := h; refine ⟨u, fun w hw => by rw [← ei undef]; exact hu w hw, ?_⟩
    unfold vv; rw [hk]; simp only; rw [wk, if_neg Wk, ← pc]; exact h
   | some s =>
    rw [Si] at h; obtain ⟨hs, h⟩ := h; refine ⟨yP (ei undef).symm (vt _ _ _).symm (fun _ _ _ he => he) hs, fun y => ?_⟩; unfold vv; rw [hk]; simp only; rw [wk, if_neg Wk, ← pc]; exact h y
  ·rw [if_neg Wi] at h ⊢
   unfold vv; rw [hk]; simp only; rw [wk, if_neg Wk, ← pc]; exact h
theorem zdK {k : Nat} {r r' : List Nat} {E : Nat → World → Prop} {a : Act} (hr : ∀ E a, vv P md ops Q C S L r E a → vv P md ops Q C S L r' E a) (h : vv P md ops Q C S L (k :: r) E a) : vv P md ops Q C S L (k :: r') E a := by
 unfold vv at h ⊢
 cases hk : ops[k]? with
 | none => rw [hk] at h; exact h
 | some o =>
  rw [hk] at h; simp only at h ⊢; split
  ·rename_i hw
   rw [if_pos hw] at h; cases hS : S k with
   | none => rw [hS] at h; obtain ⟨v, h1, h2⟩ := h; exact ⟨v, h1, hr _ _ h2⟩
   | some s => rw [hS] at h; exact ⟨h.1, fun x => hr _ _ (h.2 x)⟩
  ·rename_i hw
   rw [if_neg hw] at h; exact hr _ _ h
/-- Its value hangs on no world. -/
def u9 (o : Oper) : Bool := match o.op with
 | .move _ | .assign _ | .extract .. => true
 | _ => false
theorem za5 {o : Oper} {v : Value} {ρ : Operand → Value} {w0 : World} (h : u9 o = true) (hr : (execOp ρ o).run P w0 = .ok (.value v) w0) : ∀ w, (execOp ρ o).run P w = .ok (.value v) w := by
 intro w
 unfold u9 at h
 unfold execOp at hr ⊢
 cases ho : o.op <;> rw [ho] at h hr <;> first | (cases h; done) | skip
 all_goals simp only [Sem.run_bind, Sem.run_pure] at hr ⊢
 all_goals first
  | (injection hr with e _; rw [e])
  | skip
 rename_i t ix
 unfold Instr.extract at hr ⊢
 split at hr
 ·rename_i vs hv
  split at hr
  ·rename_i x hx
   simp only [Sem.run_pure, Result.andThen_ok] at hr
   injection hr with e _
   rw [← e]; simp only [Sem.run_pure, Result.andThen_ok]
  ·exact absurd hr (by simp [stuck, Result.andThen])
 ·exact absurd hr (by simp [stuck, Result.andThen])
/-- The text's order is one of the orders; two operations of the head wait for one another or are apart. -/
def X5 (md : Region.Mode) (ops : Array Oper) (hd : Nat → Bool) : Bool :=
 Region.noSelect ops && (List.range ops.size).all fun k => !hd k || match ops[k]? with
  | none => false
  | some ok => (ok.after.all fun e => !Region.binds md e || (decide (e.on < k) && hd e.on)) && (List.range k).all fun j => !hd j || match ops[j]? with
   | none => false
   | some oj => Region.waitsFor md ops k j || oj.apart ops ok
/-- What is not of the head waits for all of it that hangs on the world, and is apart from the rest. -/
def zad (md : Region.Mode) (ops : Array Oper) (hd : Nat → Bool) : Bool :=
 (List.range ops.size).all fun t => hd t || match ops[t]? with
  | none => false
  | some ot => (List.range ops.size).all fun k => !hd k || match ops[k]? with
   | none => false
   | some ok => bif u9 ok then Region.waitsFor md ops t k || ok.apart ops ot else trB md ops k 8 t
variable {hd : Nat → Bool}
theorem Qw {k : Nat} (h : X5 md ops hd = true) (hk : hd k = true) (hks : k < ops.size) : ∃ ok, ops[k]? = some ok ∧ (∀ e ∈ ok.after, Region.binds md e = true → e.on < k ∧ hd e.on = true) ∧ ∀ j, j < k → hd j = true → ∃ oj, ops[j]? = some oj ∧ (Region.waitsFor md ops k j = true ∨ oj.apart ops ok = true) := by
 simp only [X5, Bool.and_eq_true] at h
 have h1 := List.all_eq_true.1 h.2 k (List.mem_range.2 hks)
 rw [hk] at h1
 cases ho : ops[k]? with
 | none => rw [ho] at h1; cases h1
 | some ok =>
  rw [ho] at h1; simp only [Bool.not_true, Bool.false_or, Bool.and_eq_true] at h1; refine ⟨ok, rfl, fun e he hb => ?_, fun j hj hdj => ?_⟩
  ·have := Array.all_eq_true'.1 h1.1 e he
   rw [hb] at this
   simpa using this
  ·have h2 := List.all_eq_true.1 h1.2 j (List.mem_range.2 hj)
   rw [hdj] at h2; cases hj : ops[j]? with
   | none => rw [hj] at h2; cases h2
   | some oj =>
    rw [hj] at h2; simp only [Bool.not_true, Bool.false_or, Bool.or_eq_true] at h2; exact ⟨oj, rfl, h2⟩
theorem KH (h : X5 md ops hd = true) : Region.noSelect ops = true := by simp only [X5, Bool.and_eq_true] at h; exact h.1
theorem K3 {t k : Nat} {ot ok : Oper} (h : zad md ops hd = true) (ht : hd t = false) (hot : ops[t]? = some ot) (hk : hd k = true) (hok : ops[k]? = some ok) : (u9 ok = true → Region.waitsFor md ops t k = true ∨ ok.apart ops ot = true) ∧ (u9 ok = false → trB md ops k 8 t = true) := by
 have h1 := List.all_eq_true.1 h t (List.mem_range.2 (Array.getElem?_eq_some_iff.1 hot).1)
 rw [ht, hot] at h1
 simp only [Bool.false_or] at h1
 have h2 := List.all_eq_true.1 h1 k (List.mem_range.2 (Array.getElem?_eq_some_iff.1 hok).1)
 rw [hk, hok] at h2
 simp only [Bool.not_true, Bool.false_or] at h2
 refine ⟨fun hp => ?_, fun hp => ?_⟩
 ·rw [hp] at h2; simpa using h2
 ·rw [hp] at h2; simpa using h2
theorem Va {k j : Nat} (h : X5 md ops hd = true) (hk : hd k = true) (hw : Region.waitsFor md ops k j = true) : j < k := by
 obtain ⟨o, ho, e, he, hb, rfl⟩ := Region.waitsFor_spec hw
 obtain ⟨ok, hok, h1, _⟩ := Qw h hk (Array.getElem?_eq_some_iff.1 ho).1
 obtain rfl : o = ok := Option.some.inj (ho.symm.trans hok)
 exact (h1 e he hb).1
theorem KD {i k : Nat} {listed : Array Bool} (hi : i ∈ Region.ready md ops listed) (hk : listed.getD k true = false) : Region.waitsFor md ops i k = false := by
 cases h : Region.waitsFor md ops i k with
 | false => rfl
 | true =>
  obtain ⟨_, oi, hoi, hall⟩ := mem_ready.1 hi; obtain ⟨o, ho, e, he, hb, rfl⟩ := Region.waitsFor_spec h; obtain rfl : o = oi := Option.some.inj (ho.symm.trans hoi); have := hall e he hb; rw [getD_both hk] at this; cases this
theorem Xp {i : Nat} {listed : Array Bool} (hB : X5 md ops hd = true) (hi : i ∈ Region.ready md ops listed) (hin : hd i = true) (hC : ∃ w, C w) : ∀ (l1 l2 : List Nat) (E : Nat → World → Prop) (a : Act),
  (∀ k ∈ l1, k < i ∧ hd k = true ∧ listed.getD k true = false) → vv P md ops Q C S L (l1 ++ i :: l2) E a → vv P md ops Q C S L (i :: (l1 ++ l2)) E a
 | [], _, _, _, _, h => h
 | k :: l1, l2, E, a, hl, h => by
  have h1 : vv P md ops Q C S L (k :: i :: (l1 ++ l2)) E a := zdK (fun E a => Xp hB hi hin hC l1 l2 E a fun j hj => hl j (List.mem_cons_of_mem _ hj)) h; obtain ⟨hki, hkd, hun⟩ := hl k (List.mem_cons_self ..); have his : i < ops.size := by
   obtain ⟨_, oi, hoi, _⟩ := mem_ready.1 hi; exact (Array.getElem?_eq_some_iff.1 hoi).1
  obtain ⟨oi, hoi, _, hj⟩ := Qw hB hin his; obtain ⟨ok, hok, hap⟩ := hj k hki hkd; have hsel := Region.noSelect_spec (KH hB); have hik := KD hi hun; have hap : ok.apart ops oi = true := hap.resolve_left (by rw [hik]; simp)
  have hki' : Region.waitsFor md ops k i = false := by
   cases hw : Region.waitsFor md ops k i with
   | false => rfl
   | true => have := Va hB hkd hw; omega
  exact zdL hok hoi hap (fun cs b => hsel k ok cs b hok) (fun cs b => hsel i oi cs b hoi) (by omega) hik hki' hC h1
/-- Behind the head the tail comes. -/
theorem JC {g : Nat} (hB : X5 md ops hd = true) (htail : zad md ops hd = true) (hC : ∀ w w', C w → Below w.heap.size w w' → C w') (hS : ∀ k o, ops[k]? = some o → u9 o = true → S k = none)
  (hfin : ∀ listed a E w, listed.size = ops.size → (∀ k, k < ops.size → listed.getD k true = hd k) → L E a → C w → (∀ j, E j w) → wpAny P md ops (zL Q) g listed a w) :
  ∀ (m : Nat) (rem : List Nat) (listed : Array Bool) (a : Act) (E : Nat → World → Prop) (w : World), rem.length = m → rem.Pairwise (· < ·) → listed.size = ops.size → (∀ k, k ∈ rem ↔ k < ops.size ∧ hd k = true ∧ listed.getD k true = false) → (∀ t, t < ops.size → hd t = false → listed.getD t true = false) → kJ md ops listed →
   C w → (∀ j, E j w) → (∀ j w w', Below w.heap.size w w' → E j w → E j w') → vv P md ops Q C S L rem E a → wpAny P md ops (zL Q) (m + g) listed a w := by
 have hsel := Region.noSelect_spec (KH hB)
 intro m
 induction m with
 | zero =>
  intro rem listed a E w hm _ zf hrem htl _ hw hE _ h; obtain rfl := List.eq_nil_of_length_eq_zero hm; rw [Nat.zero_add]; refine hfin listed a E w zf (fun k hks => ?_) h hw hE; cases hk : hd k with
  | false => exact htl k hks hk
  | true =>
   cases hh : listed.getD k true with
   | true => rfl
   | false => have := (hrem k).2 ⟨hks, hk, hh⟩; cases this
 | succ m ih =>
  intro rem listed a E w hm hp zf hrem htl hcl hw hE hmono h; rw [show m + 1 + g = (m + g) + 1 by omega]; obtain ⟨k0, r0, rfl⟩ : ∃ k r, rem = k :: r := by
   cases rem with
   | nil => cases hm
   | cons k r => exact ⟨k, r, rfl⟩
  have hk0 := (hrem k0).1 (List.mem_cons_self ..); obtain ⟨ok, hok, hk1, _⟩ := Qw hB hk0.2.1 hk0.1; have hready : k0 ∈ Region.ready md ops listed := by
   refine mem_ready.2 ⟨hk0.2.2, ok, hok, fun e he hb => ?_⟩; have zh := hk1 e he hb; cases hh : listed.getD e.on false with
   | true => rfl
   | false =>
    have hm' := (hrem e.on).2 ⟨by omega, zh.2, getD_in (by omega) hh⟩; rcases List.mem_cons.1 hm' with e' | hm'
    ·omega
    ·have := (List.pairwise_cons.1 hp).1 _ hm'
     omega
  -- the state behind an operation of the head
  have after : ∀ i l1 l2, i < ops.size → hd i = true → i ∈ Region.ready md ops listed → k0 :: r0 = l1 ++ i :: l2 → ∀ (a' : Act) (E' : Nat → World → Prop) (w' : World), C w' → (∀ j, E' j w') → (∀ j w w', Below w.heap.size w w' → E' j w → E' j w') → vv P md ops Q C S L (l1 ++ l2) E' a' → wpAny P md ops (zL Q) (m + g) (listed.setIfInBounds i true) a' w' := by
   intro i l1 l2 his hin hi hsp a' E' w'; rw [hsp] at hp hm; have hlt1 : ∀ k ∈ l1, k < i := fun k hk => (List.pairwise_append.1 hp).2.2 k hk i (List.mem_cons_self ..)
   have hp' : (l1 ++ l2).Pairwise (· < ·) := hp.sublist (List.Sublist.append (List.Sublist.refl l1) (List.sublist_cons_self i l2)); have hlen : (l1 ++ l2).length = m := by rw [List.length_append] at hm ⊢; rw [List.length_cons] at hm; omega
   have hnot : i ∉ l1 ++ l2 := fun hh => by
    rw [List.pairwise_append] at hp; rcases List.mem_append.1 hh with hh | hh
    ·exact absurd (hlt1 i hh) (Nat.lt_irrefl _)
    ·exact absurd ((List.pairwise_cons.1 hp.2.1).1 i hh) (Nat.lt_irrefl _)
   have hrem' : ∀ k, k ∈ l1 ++ l2 ↔ k < ops.size ∧ hd k = true ∧ (listed.setIfInBounds i true).getD k true = false := fun k => by
    by_cases hki : k = i
    ·subst hki
     refine ⟨fun hh => absurd hh hnot, fun hh => ?_⟩; have hks : k < listed.size := by omega
     simp [hks] at hh
    ·rw [getD_set_ne true (Ne.symm hki), ← hrem k, hsp]
     simp only [List.mem_append, List.mem_cons]
     constructor
     ·rintro (hh | hh)
      ·exact .inl hh
      ·exact .inr (.inr hh)
     ·rintro (hh | hh | hh)
      ·exact .inl hh
      ·exact absurd hh hki
      ·exact .inr hh
   have htl' : ∀ t, t < ops.size → hd t = false → (listed.setIfInBounds i true).getD t true = false := fun t hts ht => by
    rw [getD_set_ne true (fun e => by rw [e, ht] at hin; cases hin)]; exact htl t hts ht
   exact ih (l1 ++ l2) (listed.setIfInBounds i true) a' E' w' hlen hp' (by simp; exact zf) hrem' htl' (hcl.set hi)
  cases hpu : u9 ok with
  | true =>
   have h2 := h; unfold vv at h2; rw [hok] at h2; simp only at h2; obtain ⟨v, hy, h3⟩ : ∃ v, Yields P ops ok v a ∧ vv P md ops Q C S L r0 E (a.put ok.dst v) := by
    by_cases Wi : Region.wanted ok (yielded ops a.tmps) = true
    ·rw [if_pos Wi, hS k0 ok hok hpu] at h2
     obtain ⟨v, hv, h2⟩ := h2; exact ⟨v, .inl ⟨Wi, za5 hpu (hv w hw)⟩, h2⟩
    ·rw [if_neg Wi] at h2
     exact ⟨undef, .inr ⟨by simpa using Wi, rfl⟩, h2⟩
   refine wpAny_first hok hsel (fun _ _ _ h => h) (m + g) listed a w (fun j oj hj hne hun hno => ?_) hready hy (after k0 [] r0 hk0.1 hk0.2.1 hready rfl _ E w hw hE hmono h3); have hjs : j < ops.size := (Array.getElem?_eq_some_iff.1 hj).1; have hnw : Region.waitsFor md ops j k0 = false := by
    cases hw' : Region.waitsFor md ops j k0 with
    | false => rfl
    | true =>
     obtain ⟨o, ho, e, he, hb, heq⟩ := Region.waitsFor_spec hw'; obtain rfl : o = oj := Option.some.inj (ho.symm.trans hj); exact absurd heq (hno e he hb)
   cases hdj : hd j with
   | true =>
    have hmem := (hrem j).2 ⟨hjs, hdj, hun⟩; have zh : k0 < j := by
     rcases List.mem_cons.1 hmem with e | hmem
     ·exact absurd e hne
     ·exact (List.pairwise_cons.1 hp).1 _ hmem
    obtain ⟨oj', hoj', _, hap⟩ := Qw hB hdj hjs; obtain rfl : oj' = oj := Option.some.inj (hoj'.symm.trans hj); obtain ⟨ok', hok', hap⟩ := hap k0 zh hk0.2.1; obtain rfl : ok' = ok := Option.some.inj (hok'.symm.trans hok); exact hap.resolve_left (by rw [hnw]; simp)
   | false =>
    exact ((K3 htail hdj hj hk0.2.1 hok).1 hpu).resolve_left (by rw [hnw]; simp)
  | false =>
   refine ⟨fun h0 => (by rw [h0] at hready; cases hready), fun i hi => ?_⟩
   have hun := (mem_ready.1 hi).1; obtain ⟨_, oi, hoi, _⟩ := mem_ready.1 hi; have his : i < ops.size := (Array.getElem?_eq_some_iff.1 hoi).1; have hin : hd i = true := by
    cases hdi : hd i with
    | true => rfl
    | false =>
     exact absurd hi (Jy hcl hk0.2.2 8 i ((K3 htail hdi hoi hk0.2.1 hok).2 hpu)).2
   have hmem : i ∈ k0 :: r0 := (hrem i).2 ⟨his, hin, hun⟩; obtain ⟨l1, l2, hsp⟩ := List.append_of_mem hmem; have hlt1 : ∀ k ∈ l1, k < i ∧ hd k = true ∧ listed.getD k true = false := fun k hk => by
    have hpp := hp; rw [hsp] at hpp; have hm2 : k ∈ k0 :: r0 := by rw [hsp]; exact List.mem_append_left _ hk
    exact ⟨(List.pairwise_append.1 hpp).2.2 k hk i (List.mem_cons_self ..), ((hrem k).1 hm2).2⟩
   have h2 := h; rw [hsp] at h2; have h2 := Xp hB hi hin ⟨w, hw⟩ l1 l2 E a hlt1 h2; have key := after i l1 l2 his hin hi hsp; unfold vv at h2; rw [hoi] at h2; simp only at h2; unfold wpOp; rw [hoi]; simp only; by_cases Wi : Region.wanted oi (yielded ops a.tmps) = true
   ·rw [if_pos Wi] at h2 ⊢
    cases Si : S i with
    | none =>
     rw [Si] at h2; obtain ⟨v, hv, h2⟩ := h2
     left
     unfold Oper.wp; rw [hv w hw]; exact key _ _ _ hw hE hmono h2
    | some s =>
     rw [Si] at h2; obtain ⟨hs, h2⟩ := h2
     left
     refine Oper.wp_mono ?_ (hs w hw fun j _ => hE j); rintro a' w' ⟨x, rfl, hF, hb⟩; refine key _ _ _ (hC _ _ hw hb) (fun j => ?_) (fun j w1 w2 hb' he => ?_) (h2 x)
     ·unfold vS
      split
      ·exact hF
      ·exact hmono j _ _ hb (hE j)
     ·unfold vS at he ⊢
      split
      ·rename_i hj
       rw [if_pos hj] at he; exact s.mono x _ _ hb' he
      ·rename_i hj
       rw [if_neg hj] at he; exact hmono j _ _ hb' he
   ·rw [if_neg Wi] at h2 ⊢
    exact key _ _ _ hw hE hmono h2
end
/-- No pure operation among those with a specification. -/
def zfg (ops : Array Oper) (S : Nat → Option jQ) : Prop := ∀ k o, ops[k]? = some o → u9 o = true → S k = none
def Xg (l : List (Nat × jQ)) (k : Nat) : Option jQ := (l.find? fun x => x.1 == k).map (·.2)
def V4 (ops : Array Oper) (l : List Nat) : Bool := l.all fun k => match ops[k]? with
 | none => true
 | some o => !u9 o
theorem Jq {ops : Array Oper} {l : List (Nat × jQ)} (h : V4 ops (l.map (·.1)) = true) : zfg ops (Xg l) := by
 intro k o hk hp
 unfold Xg
 cases hf : l.find? (fun x => x.1 == k) with
 | none => rfl
 | some x =>
  have h1 := List.find?_some hf; have h2 := List.mem_of_find?_eq_some hf; have h3 := List.all_eq_true.1 h x.1 (List.mem_map.2 ⟨x, h2, rfl⟩); have e : x.1 = k := by simpa using h1
  rw [e, hk] at h3; simp only [hp] at h3; cases h3
def kC (md : Region.Mode) (ops : Array Oper) (n : Nat) : Bool :=
 decide (n ≤ ops.size) && X5 md ops (fun k => decide (k < n)) && zad md ops (fun k => decide (k < n)) && Region.seqB md ops (ops.size - n) n (Array.replicate n true ++ Array.replicate (ops.size - n) false)
theorem Vh {P : Program} {id : Nat} {Q : Exit → Act → World → Prop} {a : Act} {w : World} {l : List Oper} (n : Nat) (S : Nat → Option jQ) (hm : P.follows .mixedOrders = true) (hB : kC .any l.toArray n = true) (hS : zfg l.toArray S)
  (h : vv P .any l.toArray Q (fun w' => ∃ u, w' = ov w u) S (fun E a' => ∀ w', Below w.heap.size w w' → (∀ j, E j w') → wpList P l.toArray (zL Q) (l.drop n) a' w') (List.range n) (fun _ _ => True) a) : (Code.region id l.toArray true).wp P Q a w := by
 simp only [kC, Bool.and_eq_true, decide_eq_true_eq] at hB
 obtain ⟨⟨⟨hn, hR⟩, htl⟩, hseq⟩ := hB
 refine Code.wp_mono zL.imp (wp_region_any hm ?_)
 have hdl : (l.drop n).length = l.toArray.size - n := by simp
 have := JC (P := P) (Q := Q) (md := .any) (C := fun w' => ∃ u, w' = ov w u) (S := S) (g := (l.drop n).length) hR htl (fun w1 w2 ⟨u, hu⟩ hb => by
   subst hu; exact ⟨w2, zG ((qS w u).trans (hb.mono (qS w u).size))⟩) hS
  (L := fun E a' => ∀ w', Below w.heap.size w w' → (∀ j, E j w') → wpList P l.toArray (zL Q) (l.drop n) a' w')
  (fun listed a' E w' zf hall hL ⟨u, hu⟩ hE => by
   have hT : listed = Array.replicate n true ++ Array.replicate (l.toArray.size - n) false := by
    apply Array.ext_getElem?
    intro j; rw [Array.getElem?_append, Array.size_replicate]; by_cases hjs : j < l.toArray.size
    ·have hjl : j < listed.size := by omega
     have h1 := hall j hjs; rw [Array.getD_eq_getD_getElem?, Array.getElem?_eq_getElem hjl, Option.getD_some] at h1; rw [Array.getElem?_eq_getElem hjl, h1]; by_cases hj : j < n
     ·rw [if_pos hj, Array.getElem?_replicate, if_pos hj, decide_eq_true hj]
     ·rw [if_neg hj, Array.getElem?_replicate, if_pos (by omega), decide_eq_false hj]
    ·rw [Array.getElem?_eq_none (by omega), if_neg (by omega), Array.getElem?_replicate, if_neg (by omega)]
   rw [hT]; refine wpAny_of_seq (l.drop n) n _ a' w' (fun j => by simp [List.getElem?_drop]) (by rw [hdl]; exact hseq) ?_
   subst hu; exact hL _ (qS w u) hE)
  n (List.range n) (Array.replicate l.toArray.size false) a (fun _ _ => True) w.drew (by simp) List.pairwise_lt_range (by simp) (fun k => by
   rw [List.mem_range, decide_eq_true_eq]; refine ⟨fun hk => ⟨by omega, hk, getD_in (by rw [Array.size_replicate]; omega) (getD_replicate_false _ _)⟩, fun hk => hk.2.1⟩)
  (fun t hts _ => getD_in (by rw [Array.size_replicate]; exact hts) (getD_replicate_false _ _)) (fun j oj _ hl => (by rw [getD_replicate_false] at hl; cases hl))
  ⟨w.drew, zG ((Below.refl _ _).drew)⟩ (fun _ => trivial) (fun _ _ _ _ _ => trivial) h
 rw [hdl, show n + (l.toArray.size - n) = l.toArray.size by omega] at this
 exact this
/-- One operation (a store) comes behind all that hangs on the world; what hangs on none may come behind it. -/
def zhz (md : Region.Mode) (ops : Array Oper) (t : Nat) : Bool :=
 decide (t < ops.size) && X5 md ops (fun k => !(k == t)) && zad md ops (fun k => !(k == t)) && decide (Region.ready md ops ((Array.replicate ops.size true).setIfInBounds t false) = [t]) && (Region.ready md ops (Array.replicate ops.size true)).isEmpty
/-! ### The walk over the operations themselves -/
def rOp (o : Oper) : Bool := match o.op with
 | .move _ | .load .. | .binOp .. | .unOp .. | .convert .. | .fieldAddr .. | .field .. | .indexAddr .. | .index .. | .build .. | .slice .. | .extract .. | .assign .. | .pick .. => true
 | _ => false
theorem zeU {P : Program} {o : Oper} (h : rOp o = true) (ρ : Operand → Value) : ∃ s : Sem Value, ∀ w, (execOp ρ o).run P w = (s.run P w).andThen fun v w' => .ok (.value v) w' := by
 unfold rOp at h
 have hv : ∀ s : Sem Value, ∀ w, (do let x ← s; pure (Next.value x) : Sem Next).run P w = (s.run P w).andThen fun v w' => .ok (.value v) w' := fun s w => by
  simp only [Sem.run_bind, Sem.run_pure]
 unfold execOp
 cases ho : o.op <;> rw [ho] at h <;> first | (exact ⟨_, fun w => hv _ w⟩) | (cases h; done) | skip
 rotate_right
 ·rename_i c x y
  refine ⟨do let b ← asBool (ρ c); pure (if b = true then ρ x else ρ y), fun w => ?_⟩
  simp only [Sem.run_bind, Sem.run_pure]; cases (asBool (ρ c)).run P w <;> rfl
 all_goals first | (exact ⟨pure _, fun w => rfl⟩) | (simp only [Sem.run_pure]; exact ⟨pure _, fun w => by simp only [Sem.run_pure, Result.andThen_ok]⟩)
section
variable {P : Program} {ops : Array Oper} {Q : Exit → Act → World → Prop} {md : Region.Mode} {C : World → Prop} {S : Nat → Option jQ} {L : (Nat → World → Prop) → Act → Prop}
theorem Zi {o : Oper} {v : Value} {a : Act} (ho : rOp o = true) (h : ∀ w, C w → o.quietAt P a C w v) : ∀ w, C w → (execOp a.eval o).run P w = .ok (.value v) w := fun w hw => by
 have h1 := h w hw
 unfold Oper.quietAt at h1
 obtain ⟨s, hs⟩ := zeU (P := P) ho a.eval
 rw [hs w] at h1 ⊢
 cases hr : s.run P w with
 | ok x w' =>
  rw [hr] at h1; obtain ⟨e1, e2⟩ : w' = w ∧ x = v := h1; rw [e1, e2]; rfl
 | halt x w' =>
  rw [hr] at h1; exact (h1 : False).elim
def vY (P : Program) (md : Region.Mode) (ops : Array Oper) (Q : Exit → Act → World → Prop) (C : World → Prop) (S : Nat → Option jQ) (L : (Nat → World → Prop) → Act → Prop) (l : List Oper) (k : Nat) (E : Nat → World → Prop) (a : Act) : Prop :=
 (∀ j, j < l.length → l[j]? = ops[k + j]?) → vv P md ops Q C S L (List.range' k l.length) E a
theorem qi {k : Nat} {E : Nat → World → Prop} {a : Act} (h : L E a) : vY P md ops Q C S L [] k E a := fun _ => h
theorem JG (m : Nat) {l : List Oper} {k : Nat} {E : Nat → World → Prop} {a : Act} (hB : ((l.take m).all rOp && (List.range' k m).all fun i => (S i).isNone) = true)
  (h : wpQuiet P ops C (fun a' => vY P md ops Q C S L (l.drop m) (k + m) E a') (l.take m) a) : vY P md ops Q C S L l k E a := by
 induction m generalizing l k a with
 | zero =>
  have h' : vY P md ops Q C S L (l.drop 0) (k + 0) E a := h
  simpa using h'
 | succ m ih =>
  cases l with
  | nil =>
   intro _; have h' : vY P md ops Q C S L [] (k + (m + 1)) E a := h; exact h' (fun j hj => absurd hj (by simp))
  | cons o r =>
   intro hl; simp only [List.take_succ_cons, List.all_cons, Bool.and_eq_true, List.range'_succ, List.drop_succ_cons] at hB h; obtain ⟨⟨ho, hr⟩, hk, hS⟩ := hB; have h0 : ops[k]? = some o := by simpa using (hl 0 (by simp)).symm
   have hSk : S k = none := by simpa using hk
   rw [List.length_cons, List.range'_succ]; have hl' : ∀ j, j < r.length → r[j]? = ops[k + 1 + j]? := fun j hj => by
    have := hl (j + 1) (by simp; omega)
    simpa [Nat.add_assoc, Nat.add_comm 1 j] using this
   have go : ∀ a', wpQuiet P ops C (fun a' => vY P md ops Q C S L (r.drop m) (k + (m + 1)) E a') (r.take m) a' → vv P md ops Q C S L (List.range' (k + 1) r.length) E a' := fun a' h' =>
    ih (by simp only [Bool.and_eq_true]; exact ⟨hr, hS⟩) (by rw [show k + 1 + m = k + (m + 1) by omega]; exact h') hl'
   unfold vv; rw [h0]; simp only; unfold wpQuiet at h; by_cases hw : Region.wanted o (yielded ops a.tmps) = true
   ·rw [if_pos hw] at h ⊢
    rw [hSk]; obtain ⟨v, hv, hK⟩ := h; exact ⟨v, Zi ho hv, go _ hK⟩
   ·rw [if_neg hw] at h ⊢
    exact go _ h
theorem w9 {o : Oper} {r : List Oper} {k : Nat} {E : Nat → World → Prop} {a : Act} (hw : Region.wanted o (yielded ops a.tmps) = false) (h : vY P md ops Q C S L r (k + 1) E (a.put o.dst undef)) : vY P md ops Q C S L (o :: r) k E a := by
 intro hl
 have h0 : ops[k]? = some o := by simpa using (hl 0 (by simp)).symm
 rw [List.length_cons, List.range'_succ]
 unfold vv
 rw [h0]
 simp only
 rw [if_neg (by rw [hw]; decide)]
 exact h fun j hj => by
  have := hl (j + 1) (by simp; omega)
  simpa [Nat.add_assoc, Nat.add_comm 1 j] using this
theorem zbl {o : Oper} {r : List Oper} {k : Nat} {E : Nat → World → Prop} {a : Act} {s : jQ} (hS : S k = some s) (hw : Region.wanted o (yielded ops a.tmps) = true)
  (hstep : ∀ w, C w → (∀ j, Region.waitsFor md ops k j = true → E j w) → ∀ K : Act → World → Prop, (∀ x w', s.F x w' → Below w.heap.size w w' → K (a.put o.dst (s.f x)) w') → o.wp P a w K (zL Q))
  (h : ∀ x, vY P md ops Q C S L r (k + 1) (vS E k (s.F x)) (a.put o.dst (s.f x))) : vY P md ops Q C S L (o :: r) k E a := by
 intro hl
 have h0 : ops[k]? = some o := by simpa using (hl 0 (by simp)).symm
 rw [List.length_cons, List.range'_succ]
 unfold vv
 rw [h0]
 simp only
 rw [if_pos hw, hS]
 refine ⟨zdD hstep, fun x => h x fun j hj => ?_⟩
 have := hl (j + 1) (by simp; omega)
 simpa [Nat.add_assoc, Nat.add_comm 1 j] using this
end
theorem zD {P : Program} {ops : Array Oper} {Q : Exit → Act → World → Prop} {md : Region.Mode} {w0 : World} {S : Nat → Option jQ} {L : (Nat → World → Prop) → Act → Prop} {o : Oper} {r : List Oper} {k : Nat} {E : Nat → World → Prop} {a : Act} {s : jQ} (hS : S k = some s) (hw : Region.wanted o (yielded ops a.tmps) = true)
  (hstep : ∀ w, Below w0.heap.size w0 w → (∀ j, Region.waitsFor md ops k j = true → E j w) → ∀ K : Act → World → Prop, (∀ x w', s.F x w' → Below w.heap.size w w' → K (a.put o.dst (s.f x)) w') → o.wp P a w K (zL Q))
  (h : ∀ x, vY P md ops Q (fun w' => ∃ u, w' = ov w0 u) S L r (k + 1) (vS E k (s.F x)) (a.put o.dst (s.f x))) : vY P md ops Q (fun w' => ∃ u, w' = ov w0 u) S L (o :: r) k E a :=
 zbl hS hw (fun w ⟨u, hu⟩ hE => hstep w (by rw [hu]; exact qS _ _) hE) h
def zN (v : Value) : jQ := ⟨Unit, ⟨()⟩, fun _ => v, fun _ _ => True, fun _ _ _ _ h => h⟩
theorem zJ {P : Program} {id : Nat} {Q : Exit → Act → World → Prop} {a : Act} {w : World} {l : List Oper} (n : Nat) (S : List (Nat × jQ)) (hm : P.follows .mixedOrders = true) (hB : kC .any l.toArray n = true) (hS : V4 l.toArray (S.map (·.1)) = true)
  (h : vY P .any l.toArray Q (fun w' => ∃ u, w' = ov w u) (Xg S) (fun E a' => ∀ w', Below w.heap.size w w' → (∀ j, E j w') → wpList P l.toArray (zL Q) (l.drop n) a' w') (l.take n) 0 (fun _ _ => True) a) : (Code.region id l.toArray true).wp P Q a w := by
 have hn : n ≤ l.length := by
  have hB' := hB; simp only [kC, Bool.and_eq_true, decide_eq_true_eq] at hB'
  simpa using hB'.1.1.1
 have hlen : (l.take n).length = n := by simp; omega
 have h' := h fun j hj => by
  rw [hlen] at hj; simp [hj]
 rw [hlen, ← List.range_eq_range'] at h'
 exact Vh n (Xg S) hm hB (Jq hS) h'
/-! ### A call, its act left as it is -/
theorem zP {P : Program} {g : FuncId} {xs : Array Operand} {ats : Array TypeId} {o : Oper} {a : Act} {w : World} {K : Act → World → Prop} {Q : Exit → Act → World → Prop} {vals : Array Value} (ho : o.op = .call { callee := .value (.func g), args := xs, argTypes := ats }) (eg : Go.Proofs.Enters P g) (hv : xs.map a.eval = vals)
  (h : Calls P g vals w fun e w' => ∃ v, e = .returned v ∧ K (a.put o.dst v) w') : o.wp P a w K Q := by
 subst hv
 obtain ⟨dst, op, ty, pos, after, guard⟩ := o
 simp only at ho
 subst ho
 unfold Oper.wp
 rw [execOp_call_go, show (#[] ++ xs.map a.eval ++ #[] : Array Value) = xs.map a.eval by simp, eg]
 exact Calls.mono h fun e w' ⟨v, he, hk⟩ => by subst he; exact hk
theorem Zl {P : Program} {x : Operand} {t e : TypeId} {o : Oper} {a : Act} {w : World} {K : Act → World → Prop} {Q : Exit → Act → World → Prop} {ad : Option Addr} {n c : Nat} (ho : o.op = .call { callee := .builtin .len, args := #[x], argTypes := #[t] }) (ht : P.underlying t = some (.slice e)) (hx : a.eval x = .slice ad n c)
  (h : K (a.put o.dst (.int .i64 n)) w) : o.wp P a w K Q := by
 obtain ⟨dst, op, ty, pos, after, guard⟩ := o
 simp only at ho
 subst ho
 unfold Oper.wp
 have hu := run_underlying ht w
 have key : ∀ ρ : Operand → Value, ρ x = .slice ad n c → (execOp ρ { dst, op := .call { callee := .builtin .len, args := #[x], argTypes := #[t] }, type := ty, pos, after, guard : Oper }).run P w = .ok (.value (.int .i64 n)) w := fun ρ hρ => by
  have hl : (Builtin.len_ #[t] ty #[.slice ad n c]).run P w = .ok (goInt n) w := by simp [Builtin.len_, hu]
  simp [go_sem, hρ, hl]
 have := key a.eval hx
 rw [this]
 exact h
/-! ### A region in the order of its text, operation by operation -/
section
variable {P : Program} {ops : Array Oper} {Q : Exit → Act → World → Prop} {w : World}
theorem vJ (m : Nat) {l : List Oper} {a : Act} (hB : (l.take m).all rOp = true)
  (h : wpQuiet P ops (fun w' => ∃ u, w' = ov w u) (fun a' => wpList P ops Q (l.drop m) a' w) (l.take m) a) : wpList P ops Q l a w := by
 induction m generalizing l a with
 | zero => exact h
 | succ m ih =>
  cases l with
  | nil => exact h
  | cons o r =>
   simp only [List.take_succ_cons, List.all_cons, Bool.and_eq_true, List.drop_succ_cons] at hB h; unfold wpQuiet at h; unfold wpList; by_cases hw : Region.wanted o (yielded ops a.tmps) = true
   ·rw [if_pos hw] at h ⊢
    obtain ⟨v, hv, hK⟩ := h
    left
    unfold Oper.wp; rw [Zi hB.1 hv w ⟨w, zG (Below.refl _ _)⟩]; exact ih hB.2 hK
   ·rw [if_neg hw] at h ⊢
    exact ih hB.2 h
theorem Yp {g : FuncId} {xs : Array Operand} {ats : Array TypeId} {o : Oper} {r : List Oper} {a : Act} {vals : Array Value} (hw : Region.wanted o (yielded ops a.tmps) = true) (ho : o.op = .call { callee := .value (.func g), args := xs, argTypes := ats }) (eg : Go.Proofs.Enters P g) (hv : xs.map a.eval = vals)
  (h : Calls P g vals w fun e w' => ∃ v, e = .returned v ∧ wpList P ops Q r (a.put o.dst v) w') : wpList P ops Q (o :: r) a w := by
 unfold wpList
 rw [if_pos hw]
 exact .inl (zP ho eg hv h)
theorem zw {x : Operand} {t e : TypeId} {o : Oper} {r : List Oper} {a : Act} {ad : Option Addr} {n c : Nat} (hw : Region.wanted o (yielded ops a.tmps) = true) (ho : o.op = .call { callee := .builtin .len, args := #[x], argTypes := #[t] }) (ht : P.underlying t = some (.slice e)) (hx : a.eval x = .slice ad n c)
  (h : wpList P ops Q r (a.put o.dst (.int .i64 n)) w) : wpList P ops Q (o :: r) a w := by
 unfold wpList
 rw [if_pos hw]
 exact .inl (Zl ho ht hx h)
theorem qP {o : Oper} {r : List Oper} {a : Act} (hw : Region.wanted o (yielded ops a.tmps) = false) (h : wpList P ops Q r (a.put o.dst undef) w) : wpList P ops Q (o :: r) a w := by
 unfold wpList
 rw [if_neg (by rw [hw]; decide)]
 exact h
end
/- More small words on worlds: whole blocks. -/
theorem zO (w : World) (o : Obj) (i : Nat) : (w.alloc o).heap[i]? = if i = w.heap.size then some o else w.heap[i]? := by
 show (w.heap.push o)[i]? = _
 rw [Array.getElem?_push]
theorem ql {w : World} {b : Nat} {cs : Array Value} {t : TypeId} (h : w.heap[b]? = some (.cells cs t (0, 0))) :
  (∀ j, w.cell? ⟨b, j, none⟩ = cs[j]?) ∧ (∀ j, w.frozen? ⟨b, j, none⟩ = false) :=
 ⟨fun j => cell_of_row w b j cs t (0, 0) h, fun j => frozen_of_row w b j cs t h⟩
/- General laws of the walk, of no type: worlds in which one block may have been written; loads and stores by any law of a run. -/
/-- Block b aside, what was there is as it was. -/
structure qV (b : Nat) (w w' : World) : Prop where
 os : w'.os = w.os
 tape : w'.tape = w.tape
 output : w'.output = w.output
 size : w.heap.size ≤ w'.heap.size
 block : ∀ k, k < w.heap.size → k ≠ b → w'.heap[k]? = w.heap[k]?
theorem qV.refl (b : Nat) (w : World) : qV b w w := ⟨rfl, rfl, rfl, Nat.le_refl _, fun _ _ _ => rfl⟩
theorem qV.trans {b : Nat} {w1 w2 w3 : World} (h : qV b w1 w2) (k : qV b w2 w3) : qV b w1 w3 :=
 ⟨k.os.trans h.os, k.tape.trans h.tape, k.output.trans h.output, Nat.le_trans h.size k.size, fun i hi hb => (k.block i (Nat.lt_of_lt_of_le hi h.size) hb).trans (h.block i hi hb)⟩
theorem qV.of_below {b : Nat} {w w' : World} (h : Below w.heap.size w w') : qV b w w' := ⟨h.os, h.tape, h.output, h.size, fun k hk _ => h.block k hk⟩
theorem qV.setCell {b i : Nat} {w w' : World} (h : qV b w w') (v : Value) : qV b w (w'.setCell ⟨b, i, none⟩ v) :=
 ⟨h.os, h.tape, h.output, by rw [World.size_setCell]; exact h.size, fun k hk hb => (heap_setCell_other _ _ _ _ hb).trans (h.block k hk hb)⟩
theorem qV.alloc {b : Nat} {w w' : World} (h : qV b w w') (o : Obj) : qV b w (w'.alloc o) :=
 ⟨h.os, h.tape, h.output, Nat.le_trans h.size (by rw [World.size_alloc]; omega), fun k hk hb => by rw [zO, if_neg (by have := h.size; omega)]; exact h.block k hk hb⟩
/-- A change of a block that was made since: nothing below has turned. -/
theorem qV.below {b B : Nat} {w w1 w2 : World} (h : Below B w w1) (k : qV b w1 w2) (hB : B ≤ b) (hw : B ≤ w1.heap.size) : Below B w w2 :=
 h.trans ⟨k.os, k.tape, k.output, k.size, fun i hi => k.block i (by omega) (by omega)⟩
theorem qV.setRow {b : Nat} {w w' : World} (h : qV b w w') (cs : Array Value) : qV b w (w'.setRow b cs) :=
 ⟨h.os, h.tape, h.output, by rw [size_setRow]; exact h.size, fun k hk hb => (setRow_other _ _ _ _ hb).trans (h.block k hk hb)⟩
theorem wD {w : World} {b j : Nat} {v : Value} (h : w.cell? ⟨b, j, none⟩ = some v) : (Instr.loadAt 5 (.pointer (some ⟨b, j, none⟩))).run Tryz.prog w = .ok v w := by
 simp [go_sem, h]
theorem zu {w : World} {b j : Nat} {v : Value} (h : w.cell? ⟨b, j, none⟩ = some v) : (Instr.loadAt 3 (.pointer (some ⟨b, j, none⟩))).run Tryz.prog w = .ok v w := by
 simp [go_sem, h]
theorem ul {w : World} {b off : Nat} {bcs cs : Array Value} {bt t : TypeId} (h : w.heap[b]? = some (.cells bcs bt (0, 0))) (hagg : ∀ w : World, (isAgg t).run Tryz.prog w = .ok true w)
  (zf : (Tryz.prog.info? t).map (·.size) = some cs.size) (hc : ∀ j, j < cs.size → bcs[off + j]? = cs[j]?) : (Instr.loadAt t (.pointer (some ⟨b, off, none⟩))).run Tryz.prog w = .ok (.agg cs) w := by
 simp only [Instr.loadAt, Instr.sureAddr, Sem.run_bind, Sem.run_pure, Result.andThen_ok]
 have hl : (loadCells ⟨b, off, none⟩ cs.toList.length).run Tryz.prog w = .ok cs.toList.toArray w :=
  run_loadCells_list (P := Tryz.prog) w ⟨b, off, none⟩ cs.toList (fun j v hv => by
   have hadd : (⟨b, off, none⟩ : Addr).add j = ⟨b, off + j, none⟩ := by unfold Addr.add; split <;> simp_all
   have hj : j < cs.size := by
    have := (List.getElem?_eq_some_iff.1 hv).1; rw [Array.length_toList] at this; exact this
   rw [hadd, cell_of_row w b _ bcs _ (0, 0) h, hc j hj]
   simpa using hv)
 cases hq : Tryz.prog.info? t with
 | none => rw [hq] at zf; cases zf
 | some i =>
  have he : i.size = cs.size := by rw [hq] at zf; simpa using zf
  rw [Array.length_toList] at hl; simp only [Array.toArray_toList] at hl; simp only [loadVar, Sem.run_bind, hagg w, sizeOf, typeInfo, hq, he, hl, run_program, Result.andThen_ok, if_true, Sem.run_pure]
section
variable {ops : Array Oper} {rest : List Oper} {o : Oper} {a : Act} {w : World} {Q : Exit → Act → World → Prop}
theorem zp {t : TypeId} {v : Value} (hg : o.guard = none) (x : Operand) (ho : o.op = .load t x) (b j j' : Nat) (hx : a.eval x = .pointer (some ⟨b, j', none⟩)) (hr : (Instr.loadAt t (.pointer (some ⟨b, j, none⟩))).run Tryz.prog w = .ok v w) (hj : j' = j)
  (h : wpList Tryz.prog ops Q rest (a.put o.dst v) w) : wpList Tryz.prog ops Q (o :: rest) a w :=
 wpList_plain hg fun K hK => by
  subst hj; unfold Oper.wp execOp; simp only [ho, hx, hr, Sem.run_bind, Sem.run_pure, Result.andThen_ok]; exact hK _ _ h
theorem qk {t : TypeId} (hg : o.guard = none) (x y : Operand) (ho : o.op = .store t x y) (w' : World) (hrun : (Instr.storeAt t (a.eval x) (a.eval y)).run Tryz.prog w = .ok () w')
  (h : wpList Tryz.prog ops Q rest (a.put o.dst undef) w') : wpList Tryz.prog ops Q (o :: rest) a w :=
 wpList_plain hg fun K hK => by
  unfold Oper.wp execOp; simp only [ho, hrun, Sem.run_bind, Sem.run_pure, Result.andThen_ok]; exact hK _ _ h
end
section
variable {C : World → Prop} {a : Act} {o : Oper} {K : Act → Prop}
theorem zn {t : TypeId} {v : Value} {x : Operand} (h : o.op = .load t x) (b j j' : Nat) (hx : a.eval x = .pointer (some ⟨b, j', none⟩)) (hr : ∀ w, C w → (Instr.loadAt t (.pointer (some ⟨b, j, none⟩))).run Tryz.prog w = .ok v w) (hj : j' = j) (hk : K (a.put o.dst v)) : o.quiet Tryz.prog a C K :=
 ⟨_, fun w hw => by subst hj; unfold Oper.quietAt execOp; simp only [h, hx, hr w hw, Sem.run_bind, Sem.run_pure, Result.andThen_ok]; exact ⟨rfl, rfl⟩, hk⟩
end
end Go.Proofs.YtepelndbbhdofaaGreatDoor
/- Blocks known whole, of whatever type: laws of the walk. -/
namespace Go.Proofs.YtepelndbbhdofaaGreatDoor
open Go.RowKit
set_option linter.unusedVariables false
set_option linter.unusedSimpArgs false
set_option maxRecDepth 20000
/-- The block b holds the cells cs. -/
def zK (t : TypeId) (w : World) (b : Nat) (cs : Array Value) : Prop := w.heap[b]? = some (.cells cs t (0, 0))
section
variable {t : TypeId} {w : World} {b : Nat} {cs cs' : Array Value}
theorem zK.of_eq {w' : World} (h : zK t w b cs) (e : w'.heap[b]? = w.heap[b]?) : zK t w' b cs := e.trans h
theorem zK.lt (h : zK t w b cs) : b < w.heap.size := (Array.getElem?_eq_some_iff.1 h).1
theorem zK.below {t : TypeId} {w w' : World} {b : Nat} {cs : Array Value} (h : zK t w b cs) (e : Below w.heap.size w w') : zK t w' b cs := h.of_eq (e.block _ h.lt)
theorem zK.cell (h : zK t w b cs) (i : Nat) {v : Value} (hv : cs[i]? = some v) : w.cell? ⟨b, i, none⟩ = some v := ((ql h).1 i).trans hv
theorem zK.frozen (h : zK t w b cs) (i : Nat) : w.frozen? ⟨b, i, none⟩ = false := (ql h).2 i
theorem zK.setRow (h : zK t w b cs) (cs' : Array Value) : zK t (w.setRow b cs') b cs' := setRow_heap w b _ _ _ _ h
theorem zB (h : zK t w b cs) : ∀ w', (∃ u, w' = ov w u) → zK t w' b cs := by
 rintro w' ⟨u, rfl⟩
 exact h.of_eq ((qS w u).block _ h.lt)
/-- Loaded whole. -/
theorem zv (h : zK t w b cs) (hagg : ∀ w : World, (isAgg t).run Tryz.prog w = .ok true w) (zf : (Tryz.prog.info? t).map (·.size) = some cs.size) : (Instr.loadAt t (.pointer (some ⟨b, 0, none⟩))).run Tryz.prog w = .ok (.agg cs) w :=
 ul (off := 0) h hagg zf (fun j _ => by rw [Nat.zero_add])
/-- A part loaded. -/
theorem wB {t' : TypeId} (h : zK t w b cs) (off : Nat) (hagg : ∀ w : World, (isAgg t').run Tryz.prog w = .ok true w) (zf : (Tryz.prog.info? t').map (·.size) = some cs'.size) (hc : ∀ j, j < cs'.size → cs[off + j]? = cs'[j]?) : (Instr.loadAt t' (.pointer (some ⟨b, off, none⟩))).run Tryz.prog w = .ok (.agg cs') w :=
 ul h hagg zf hc
theorem Z0 (h : zK t w b cs) (zf : (Tryz.prog.info? t).map (·.size) = some cs'.size) (hss : cs'.size = cs.size) (hone : cs'.all (·.oneCell') = true) : (Instr.storeAt t (.pointer (some ⟨b, 0, none⟩)) (.agg cs')).run Tryz.prog w = .ok () (w.setRow b cs') := by
 simp only [Instr.storeAt, Instr.sureAddr, Sem.run_bind, Sem.run_pure, Result.andThen_ok]
 exact run_storeVar_row w b _ t _ _ h zf hss.symm hone
end
section
variable {t : TypeId} {ops : Array Oper} {rest : List Oper} {o : Oper} {a : Act} {w : World} {Q : Exit → Act → World → Prop}
theorem zt (hg : o.guard = none) (x : Operand) (ho : o.op = .box t x) (cs : Array Value) (hx : a.eval x = .agg cs)
  (h : ∀ b w', w.heap.size ≤ b → b ≤ w.heap.size → zK t w' b cs → Below b w w' → w'.heap.size = b + 1 → wpList Tryz.prog ops Q rest (a.put o.dst (.pointer (some ⟨b, 0, none⟩))) w') : wpList Tryz.prog ops Q (o :: rest) a w :=
 wpList_plain hg fun K hK => by
  have e : (a.eval x).cells = cs := by rw [hx]; simp only [Value.cells]
  unfold Oper.wp execOp; simp only [ho, Sem.run_bind, Instr.box, newVar, newRow, run_newObj_alloc, Sem.run_pure, Result.andThen_ok, e]; exact hK _ _ (h _ _ (Nat.le_refl _) (Nat.le_refl _) (by unfold zK; rw [zO, if_pos rfl]) ((Below.refl _ _).alloc (Nat.le_refl _) _) (World.size_alloc _ _))
/-- A value of one cell boxed. -/
theorem Vb (hg : o.guard = none) (x : Operand) (ho : o.op = .box t x) (v : Value) (hx : a.eval x = v) (hv : v.cells = #[v])
  (h : ∀ b w', w.heap.size ≤ b → b ≤ w.heap.size → zK t w' b #[v] → Below b w w' → w'.heap.size = b + 1 → wpList Tryz.prog ops Q rest (a.put o.dst (.pointer (some ⟨b, 0, none⟩))) w') : wpList Tryz.prog ops Q (o :: rest) a w :=
 wpList_plain hg fun K hK => by
  have e : (a.eval x).cells = #[v] := by rw [hx]; exact hv
  unfold Oper.wp execOp; simp only [ho, Sem.run_bind, Instr.box, newVar, newRow, run_newObj_alloc, Sem.run_pure, Result.andThen_ok, e]; exact hK _ _ (h _ _ (Nat.le_refl _) (Nat.le_refl _) (by unfold zK; rw [zO, if_pos rfl]) ((Below.refl _ _).alloc (Nat.le_refl _) _) (World.size_alloc _ _))
theorem zq {cs : Array Value} (hg : o.guard = none) (x y : Operand) (ho : o.op = .store t x y) (b : Nat) (hx : a.eval x = .pointer (some ⟨b, 0, none⟩)) (cs' : Array Value) (hy : a.eval y = .agg cs') (ht : zK t w b cs) (zf : (Tryz.prog.info? t).map (·.size) = some cs'.size) (hss : cs'.size = cs.size) (hone : cs'.all (·.oneCell') = true)
  (h : ∀ w', zK t w' b cs' → qV b w w' → w'.heap.size = w.heap.size → wpList Tryz.prog ops Q rest (a.put o.dst undef) w') : wpList Tryz.prog ops Q (o :: rest) a w := by
 refine qk hg x y ho _ ?_ (h _ (ht.setRow cs') ((qV.refl b w).setRow _) (size_setRow _ _ _))
 rw [hx, hy]
 exact Z0 ht zf hss hone
theorem zr (hg : o.guard = none) (cs : Array Value) (hrun : ∀ ev, (execOp ev o).run Tryz.prog w = .ok (.value (.pointer (some ⟨w.heap.size, 0, none⟩))) (w.alloc (.cells cs t)))
  (h : ∀ b w', w.heap.size ≤ b → b ≤ w.heap.size → zK t w' b cs → Below b w w' → w'.heap.size = b + 1 → wpList Tryz.prog ops Q rest (a.put o.dst (.pointer (some ⟨b, 0, none⟩))) w') : wpList Tryz.prog ops Q (o :: rest) a w :=
 wpList_plain hg fun K hK => by
  unfold Oper.wp; rw [hrun]; exact hK _ _ (h _ _ (Nat.le_refl _) (Nat.le_refl _) (by unfold zK; rw [zO, if_pos rfl]) ((Below.refl _ _).alloc (Nat.le_refl _) _) (World.size_alloc _ _))
end
/-- A block for a result. -/
theorem zz {t : TypeId} {fn : Func} {p : Tmp} (h : fn.results = #[.cell p t]) (tmps : Array Value) (w : World) (b : Nat) (hp : tmps.getD p undef = .pointer (some ⟨b, 0, none⟩)) {cs : Array Value} (ht : zK t w b cs) (hagg : ∀ w : World, (isAgg t).run Tryz.prog w = .ok true w) (zf : (Tryz.prog.info? t).map (·.size) = some cs.size) :
  (results fn tmps).run Tryz.prog w = .ok (.agg cs) w := by
 have hl := zv ht hagg zf
 simp only [Instr.loadAt, Instr.sureAddr, Sem.run_bind, Sem.run_pure, Result.andThen_ok] at hl
 unfold results
 rw [h]
 have hp' : tmps[p]?.getD undef = .pointer (some ⟨b, 0, none⟩) := by simpa using hp
 simp [hp', Instr.sureAddr, asAddr, hl, Sem.run_bind, Sem.run_pure, Result.andThen_ok]
/-- A block and a slot for results. -/
theorem zV {t : TypeId} {fn : Func} {p q : Tmp} (h : fn.results = #[.cell p t, .tmp q]) (tmps : Array Value) (w : World) (b : Nat) (hp : tmps.getD p undef = .pointer (some ⟨b, 0, none⟩)) {cs : Array Value} (v : Value) (hq : tmps.getD q undef = v) (ht : zK t w b cs) (hagg : ∀ w : World, (isAgg t).run Tryz.prog w = .ok true w) (zf : (Tryz.prog.info? t).map (·.size) = some cs.size) :
  (results fn tmps).run Tryz.prog w = .ok (.tuple #[.agg cs, v]) w := by
 have hl := zv ht hagg zf
 simp only [Instr.loadAt, Instr.sureAddr, Sem.run_bind, Sem.run_pure, Result.andThen_ok] at hl
 unfold results
 rw [h]
 have hp' : tmps[p]?.getD undef = .pointer (some ⟨b, 0, none⟩) := by simpa using hp
 have hq' : tmps[q]?.getD undef = v := by simpa using hq
 simp [hp', hq', Instr.sureAddr, asAddr, hl, Sem.run_bind, Sem.run_pure, Result.andThen_ok]
end Go.Proofs.YtepelndbbhdofaaGreatDoor
/- Short forms: stretches of quiet operations, loads, stores and allocs in one step each. -/
namespace Go.Proofs.YtepelndbbhdofaaGreatDoor
open Go Go.RowKit Go.Shelf
set_option linter.unusedVariables false
set_option linter.unusedSimpArgs false
set_option maxRecDepth 20000
def zfB (P : Program) (t : TypeId) : Bool := match P.underlying t with
 | some (.struct _) => true
 | some (.array _ _) => true
 | _ => false
def zeO (P : Program) (t : TypeId) : Bool := match P.underlying t with
 | some (.struct _) => false
 | some (.array _ _) => false
 | some _ => true
 | none => false
theorem zec {t : TypeId} (h : zfB Tryz.prog t = true) (w : World) : (isAgg t).run Tryz.prog w = .ok true w := by
 unfold zfB at h
 cases hu : Tryz.prog.underlying t with
 | none => rw [hu] at h; cases h
 | some u =>
  have hr := run_underlying hu w; rw [hu] at h; unfold isAgg; simp only [Sem.run_bind, hr, Result.andThen_ok]; cases u <;> first | rfl | cases h
theorem zfC {t : TypeId} (h : zeO Tryz.prog t = true) (w : World) : (isAgg t).run Tryz.prog w = .ok false w := by
 unfold zeO at h
 cases hu : Tryz.prog.underlying t with
 | none => rw [hu] at h; cases h
 | some u =>
  have hr := run_underlying hu w; rw [hu] at h; unfold isAgg; simp only [Sem.run_bind, hr, Result.andThen_ok]; cases u <;> first | rfl | cases h
theorem Yf {t : TypeId} (hg : zeO Tryz.prog t = true) {w : World} {b j : Nat} {v : Value} (h : w.cell? ⟨b, j, none⟩ = some v) : (Instr.loadAt t (.pointer (some ⟨b, j, none⟩))).run Tryz.prog w = .ok v w := by
 have ha := zfC hg w
 simp [go_sem, h]
 rw [ha]
 simp [h]
section
variable {o : Oper} {a : Act} {K : Act → Prop} {w : World} {b : Nat} {cs : Array Value} {t : TypeId} {p : Operand}
/-- A block loaded whole. -/
theorem qB (hk : K (a.put o.dst (.agg cs))) (ho : o.op = .load t p := by rfl) (he : a.eval p = .pointer (some ⟨b, 0, none⟩) := by rfl) (h : zK t w b cs := by assumption) (hg : zfB Tryz.prog t = true := by decide +kernel) (hs : (Tryz.prog.info? t).map (·.size) = some cs.size := by kernel_rfl) : o.quiet Tryz.prog a (fun w' => ∃ u, w' = ov w u) K :=
 zn ho _ _ _ he (fun w' hw => zv (zB h w' hw) (zec hg) hs) rfl hk
/-- A cell of a block loaded. -/
theorem qC {t0 : TypeId} {i : Nat} {v : Value} {l : List Value} (hk : K (a.put o.dst v)) (ho : o.op = .load t p := by rfl) (he : a.eval p = .pointer (some ⟨b, i, none⟩) := by rfl) (h : zK t0 w b cs := by assumption) (hg : zeO Tryz.prog t = true := by decide +kernel) (hc : cs = l.toArray := by rfl) (hv : l[i]? = some v := by rfl) : o.quiet Tryz.prog a (fun w' => ∃ u, w' = ov w u) K :=
 zn ho _ _ _ he (fun w' hw => Yf hg ((zB h w' hw).cell i (by rw [hc, List.getElem?_toArray]; exact hv))) rfl hk
end
section
variable {P : Program} {ops : Array Oper} {Q : Exit → Act → World → Prop} {w : World}
theorem kq {C : World → Prop} {R R' : Act → Prop} (hR : ∀ a, R a → R' a) : ∀ (l : List Oper) (a : Act), wpQuiet P ops C R l a → wpQuiet P ops C R' l a
 | [], a, h => hR a h
 | o :: r, a, h => by
  unfold wpQuiet at h ⊢; split
  ·rename_i hw
   rw [if_pos hw] at h; obtain ⟨v, h1, h2⟩ := h; exact ⟨v, h1, kq hR r _ h2⟩
  ·rename_i hw
   rw [if_neg hw] at h; exact kq hR r _ h
/-- A stretch of m quiet operations: no fact but those on blocks is wanted. -/
theorem zy (m : Nat) {l l1 l2 : List Oper} {a a' : Act} (h : wpList P ops Q l2 a' w) (hB : (l.take m).all rOp = true := by kernel_rfl) (h1 : l.take m = l1 := by (simp only [jZ, Nat.reduceAdd]; rfl)) (h2 : l.drop m = l2 := by (simp only [jZ, Nat.reduceAdd]; rfl))
  (hq : wpQuiet P ops (fun w' => ∃ u, w' = ov w u) (fun x => x = a') l1 a := by ((repeat (first | go_big_quiet_skip | (go_big_quiet_want; first | ((first | refine qB ?_ | refine qC ?_); simp only [zo]; go_big_quiet_on) | (go_big_quiet_op; go_big_quiet_on)))); exact wpQuiet_nil rfl)) : wpList P ops Q l a w := by
 refine vJ m hB ?_
 rw [h1, h2]
 exact kq (fun x e => by subst e; exact h) _ _ hq
/-- As wpList_chunk, what is taken and what is left written out. -/
theorem j4 (m : Nat) {l l1 l2 : List Oper} {a : Act} (h : wpQuiet P ops (fun w' => ∃ u, w' = ov w u) (fun a' => wpList P ops Q l2 a' w) l1 a) (hB : (l.take m).all rOp = true := by kernel_rfl) (h1 : l.take m = l1 := by (simp only [jZ, Nat.reduceAdd]; rfl)) (h2 : l.drop m = l2 := by (simp only [jZ, Nat.reduceAdd]; rfl)) : wpList P ops Q l a w := by
 refine vJ m hB ?_
 rw [h1, h2]
 exact h
theorem je {g : FuncId} {xs : Array Operand} {ats : Array TypeId} {o : Oper} {r : List Oper} {a : Act} {vals : Array Value} {post : Ending → World → Prop} (eg : Go.Proofs.Enters P g) (ho : o.op = .call { callee := .value (.func g), args := xs, argTypes := ats } := by rfl) (hw : Region.wanted o (yielded ops a.tmps) = true := by first | rfl | simp [Region.wanted, yielded]) (hv : xs.map a.eval = vals := by (simp only [Act.eval, qI] <;> rfl))
  (c : Calls P g vals w post) (h : ∀ e w', post e w' → ∃ v, e = .returned v ∧ wpList P ops Q r (a.put o.dst v) w') : wpList P ops Q (o :: r) a w :=
 Yp hw ho eg hv (c.mono h)
/-- Behind a store: the running fact. -/
theorem qG {w0 w : World} {b : Nat} {F G : World → Prop} (B : Below w0.heap.size w0 w) (hb : w0.heap.size ≤ b) (h : ∀ w', F w' → qV b w w' → w0.heap.size ≤ w.heap.size → w.heap.size ≤ w'.heap.size → Below w0.heap.size w0 w' → G w') : ∀ w', F w' → qV b w w' → w'.heap.size = w.heap.size → G w' :=
 fun w' f c e => h w' f c B.size (Nat.le_of_eq e.symm) (qV.below B c hb B.size)
/-- Behind an alloc: the running fact. -/
theorem zY {w0 w : World} {F G : Nat → World → Prop} (B : Below w0.heap.size w0 w) (h : ∀ b w', w.heap.size ≤ b → b ≤ w.heap.size → F b w' → Below b w w' → w0.heap.size ≤ w.heap.size → b < w'.heap.size → Below w0.heap.size w0 w' → G b w') : ∀ b w', w.heap.size ≤ b → b ≤ w.heap.size → F b w' → Below b w w' → w'.heap.size = b + 1 → G b w' :=
 fun b w' h1 h2 f c e => h b w' h1 h2 f c B.size (Nat.lt_of_lt_of_eq (Nat.lt_succ_self _) e.symm) (B.trans (c.mono (Nat.le_trans B.size h1)))
end
section
variable {P : Program} {md : Region.Mode} {ops : Array Oper} {Q : Exit → Act → World → Prop} {w : World} {S : Nat → Option jQ} {L : (Nat → World → Prop) → Act → Prop}
theorem ub (m : Nat) {l l1 l2 : List Oper} {k k2 : Nat} {E : Nat → World → Prop} {a : Act} (h : wpQuiet P ops (fun w' => ∃ u, w' = ov w u) (fun a' => vY P md ops Q (fun w' => ∃ u, w' = ov w u) S L l2 k2 E a') l1 a) (hB : ((l.take m).all rOp && (List.range' k m).all fun i => (S i).isNone) = true := by kernel_rfl) (h1 : l.take m = l1 := by (simp only [jZ, Nat.reduceAdd]; rfl)) (h2 : l.drop m = l2 := by (simp only [jZ, Nat.reduceAdd]; rfl)) (h3 : k + m = k2 := by (simp only [Nat.reduceAdd]; rfl)) : vY P md ops Q (fun w' => ∃ u, w' = ov w u) S L l k E a := by
 refine JG m hB ?_
 rw [h1, h2, h3]
 exact h
theorem kX (m : Nat) {l l1 l2 : List Oper} {k k2 : Nat} {E : Nat → World → Prop} {a a' : Act} (h : vY P md ops Q (fun w' => ∃ u, w' = ov w u) S L l2 k2 E a') (hB : ((l.take m).all rOp && (List.range' k m).all fun i => (S i).isNone) = true := by kernel_rfl) (h1 : l.take m = l1 := by (simp only [jZ, Nat.reduceAdd]; rfl)) (h2 : l.drop m = l2 := by (simp only [jZ, Nat.reduceAdd]; rfl)) (h3 : k + m = k2 := by (simp only [Nat.reduceAdd]; rfl))
  (hq : wpQuiet P ops (fun w' => ∃ u, w' = ov w u) (fun x => x = a') l1 a := by ((repeat (first | go_big_quiet_skip | (go_big_quiet_want; first | ((first | refine qB ?_ | refine qC ?_); simp only [zo]; go_big_quiet_on) | (go_big_quiet_op; go_big_quiet_on)))); exact wpQuiet_nil rfl)) : vY P md ops Q (fun w' => ∃ u, w' = ov w u) S L l k E a := by
 refine JG m hB ?_
 rw [h1, h2, h3]
 exact kq (fun x e => by subst e; exact h) _ _ hq
end
/- Short forms, second part: calls, stores, allocs, loads, returns with the running fact. -/
section
variable {P : Program} {ops : Array Oper} {Q : Exit → Act → World → Prop} {w : World} {l l1 l2 : List Oper} {a a' : Act} {id : Nat}
end
section
variable {ops : Array Oper} {rest l : List Oper} {o : Oper} {a a2 : Act} {w w0 : World} {Q : Exit → Act → World → Prop} {t t0 : TypeId} {cs cs' : Array Value} {b i : Nat} {x y p : Operand} {v : Value} {vl : List Value}
end
end Go.Proofs.YtepelndbbhdofaaGreatDoor
/- Plain: SHA-256 over words of 32 bits, with no program in sight. -/
namespace Go.Proofs.YtepelndbbhdofaaGreatDoor
namespace Sha
set_option linter.unusedVariables false
set_option linter.unusedSimpArgs false
abbrev yH := BitVec 32
def Jk (x : yH) (n : Nat) : yH := (x >>> n) ||| (x <<< (32 - n))
def s0 (x : yH) : yH := Jk x 7 ^^^ Jk x 18 ^^^ x >>> 3
def s1 (x : yH) : yH := Jk x 17 ^^^ Jk x 19 ^^^ x >>> 10
def S0 (x : yH) : yH := Jk x 2 ^^^ Jk x 13 ^^^ Jk x 22
def S1 (x : yH) : yH := Jk x 6 ^^^ Jk x 11 ^^^ Jk x 25
def ch (e f g : yH) : yH := (e &&& f) ^^^ (~~~e &&& g)
def maj (a b c : yH) : yH := (a &&& b) ^^^ (a &&& c) ^^^ (b &&& c)
/-- A word out of four bytes. -/
def be (a b c d : UInt8) : yH := BitVec.ofNat 32 (a.toNat * 16777216 + b.toNat * 65536 + c.toNat * 256 + d.toNat)
def wb (a : UInt8) : yH := BitVec.ofNat 32 a.toNat
/-- A function with one value replaced. -/
def ze3 (f : Nat → yH) (i : Nat) (x : yH) : Nat → yH := fun j => if j = i then x else f j
/-- The first sixteen words, read off a block. -/
def first (m : Nat → yH) (k : Nat) : Nat → yH := fun j => if j < k then m j else 0
/-- The message schedule after k more words. -/
def sch (m : Nat → yH) : Nat → Nat → yH
 | 0 => first m 16
 | k + 1 => ze3 (sch m k) (16 + k) (sch m k k + s0 (sch m k (k + 1)) + sch m k (k + 9) + s1 (sch m k (k + 14)))
/-- The message schedule. -/
def wrd (m : Nat → yH) : Nat → yH := sch m 48
structure St where
 a : yH
 b : yH
 c : yH
 d : yH
 e : yH
 f : yH
 g : yH
 h : yH
deriving DecidableEq
def St.at (s : St) (i : Nat) : yH := if i = 0 then s.a else if i = 1 then s.b else if i = 2 then s.c else if i = 3 then s.d else if i = 4 then s.e else if i = 5 then s.f else if i = 6 then s.g else s.h
/-- One round, with the round's constant and word. -/
def rnd (k w : yH) (s : St) : St :=
 { a := s.h + S1 s.e + ch s.e s.f s.g + k + w + (S0 s.a + maj s.a s.b s.c), b := s.a, c := s.b, d := s.c, e := s.d + (s.h + S1 s.e + ch s.e s.f s.g + k + w), f := s.e, g := s.f, h := s.g }
def X6 (K W : Nat → yH) (s : St) : Nat → St
 | 0 => s
 | i + 1 => rnd (K i) (W i) (X6 K W s i)
def zgu (s t : St) : St := ⟨s.a + t.a, s.b + t.b, s.c + t.c, s.d + t.d, s.e + t.e, s.f + t.f, s.g + t.g, s.h + t.h⟩
/-- The round constants. -/
def zgR : List Nat := [1116352408, 1899447441, 3049323471, 3921009573, 961987163, 1508970993, 2453635748, 2870763221, 3624381080, 310598401, 607225278, 1426881987, 1925078388, 2162078206, 2614888103, 3248222580, 3835390401, 4022224774, 264347078, 604807628, 770255983, 1249150122, 1555081692, 1996064986, 2554220882, 2821834349, 2952996808, 3210313671, 3336571891, 3584528711, 113926993, 338241895, 666307205, 773529912, 1294757372, 1396182291, 1695183700, 1986661051, 2177026350, 2456956037, 2730485921, 2820302411, 3259730800, 3345764771, 3516065817, 3600352804, 4094571909, 275423344, 430227734, 506948616, 659060556, 883997877, 958139571, 1322822218, 1537002063, 1747873779, 1955562222, 2024104815, 2227730452, 2361852424, 2428436474, 2756734187, 3204031479, 3329325298]
def kW (i : Nat) : yH := BitVec.ofNat 32 (zgR.getD i 0)
def Jr : St := ⟨1779033703#32, 3144134277#32, 1013904242#32, 2773480762#32, 1359893119#32, 2600822924#32, 528734635#32, 1541459225#32⟩
/-- The words of a block of bytes. -/
def msg (p : List UInt8) (j : Nat) : yH := be (p.getD (4 * j) 0) (p.getD (4 * j + 1) 0) (p.getD (4 * j + 2) 0) (p.getD (4 * j + 3) 0)
/-- One block taken in. -/
def zgz (s : St) (p : List UInt8) : St := zgu (X6 kW (wrd (msg p)) s 64) s
/-- The first n blocks of p taken in. -/
def xR (s : St) (p : List UInt8) : Nat → St
 | 0 => s
 | n + 1 => zgz (xR s p n) ((p.drop (64 * n)).take 64)
/-- n big endian in k bytes. -/
def jr (n : Nat) : Nat → List UInt8
 | 0 => []
 | k + 1 => jr (n / 256) k ++ [UInt8.ofNat n]
/-- How many zero bytes are padded. -/
def zg7 (n : Nat) : Nat := (119 - n % 64) % 64
def pad (s : List UInt8) : List UInt8 := s ++ 128 :: (List.replicate (zg7 s.length) 0 ++ jr (8 * s.length) 8)
def zhx (s : St) : List UInt8 := jr s.a.toNat 4 ++ jr s.b.toNat 4 ++ jr s.c.toNat 4 ++ jr s.d.toNat 4 ++ jr s.e.toNat 4 ++ jr s.f.toNat 4 ++ jr s.g.toNat 4 ++ jr s.h.toNat 4
/-- The digest. -/
def ofB (s : List UInt8) : List UInt8 := zhx (xR Jr (pad s) ((pad s).length / 64))
theorem zH (n k : Nat) : (jr n k).length = k := by
 induction k generalizing n with
 | zero => rfl
 | succ k ih => simp [jr, ih]
/-- The schedule while it is being filled from the left. -/
def zhR (m : Nat → yH) (k : Nat) : Nat → yH := if k ≤ 16 then first m k else sch m (k - 16)
/-- The first k words are those of g. -/
def zh4 (f g : Nat → yH) (k : Nat) : Nat → yH := fun j => if j < k then g j else f j
/- The words below are shut for the walks. -/
attribute [irreducible] sch s0 s1 first St.at rnd X6 zgz kW Jk
end Sha
end Go.Proofs.YtepelndbbhdofaaGreatDoor
/- Words of 32 bits as values, rows of words, and the laws of the walk for them. -/
namespace Go.Proofs.YtepelndbbhdofaaGreatDoor
open Go.RowKit Sha
set_option linter.unusedVariables false
set_option linter.unusedSimpArgs false
/-- A word as a value. -/
def U (x : yH) : Value := .int .u32 (x.toNat : Int)
/-- A byte as a value. -/
def Y (b : UInt8) : Value := .int .u8 (b.toNat : Int)
/-- The bytes of a string. -/
def bytes (s : ByteArray) : List UInt8 := s.data.toList
def Zu (s : ByteArray) (i : Nat) : UInt8 := (bytes s).getD i 0
theorem QM (s : ByteArray) (i : Nat) (h : i < s.size) : s[i] = Zu s i := by
 unfold Zu bytes
 have h2 : i < s.data.size := h
 rw [List.getD_eq_getElem?_getD, Array.getElem?_toList, Array.getElem?_eq_getElem h2]
 rfl
theorem XH (s : ByteArray) : (bytes s).length = s.size := by unfold bytes; rw [Array.length_toList]; rfl
theorem XC (n : Int) : U (BitVec.ofInt 32 n) = .int .u32 (IntKind.u32.wrap n) := by
 unfold U
 congr 1
 simp [BitVec.toNat_ofInt, IntKind.wrap, IntKind.bits, IntKind.signed]
 omega
theorem xe (x : yH) : BitVec.ofInt 32 (x.toNat : Int) = x := by
 apply BitVec.eq_of_toNat_eq
 simp [BitVec.toNat_ofInt]
theorem Qk (x : yH) : U x = .int .u32 (IntKind.u32.wrap (x.toNat : Int)) := by rw [← XC, xe]
section
variable (w : World) (x y : yH)
@[go_sem] theorem zhF : (binOp .add 153 (U x) (U y)).run Tryz.prog w = .ok (U (x + y)) w := by
 have e : U (x + y) = .int .u32 (IntKind.u32.wrap ((x.toNat : Int) + (y.toNat : Int))) := by
  rw [← XC]
  congr 1
 rw [e]; unfold U; simp [go_sem]
@[go_sem] theorem zgt : (binOp .sub 153 (U x) (U y)).run Tryz.prog w = .ok (U (x - y)) w := by
 have e : U (x - y) = .int .u32 (IntKind.u32.wrap ((x.toNat : Int) - (y.toNat : Int))) := by
  rw [← XC]
  congr 1
  apply BitVec.eq_of_toNat_eq
  simp [BitVec.toNat_ofInt, BitVec.toNat_sub]
  have := x.isLt; have := y.isLt; omega
 rw [e]; unfold U; simp [go_sem]
@[go_sem] theorem zhG : (binOp .and 153 (U x) (U y)).run Tryz.prog w = .ok (U (x &&& y)) w := by
 have e : (binOp .and 153 (U x) (U y)).run Tryz.prog w = .ok (.int .u32 (IntKind.u32.wrap ((BitVec.ofInt 32 (x.toNat : Int) &&& BitVec.ofInt 32 (y.toNat : Int)).toNat : Int))) w := by kernel_rfl
 rw [e, xe, xe, ← Qk]
@[go_sem] theorem zh6 : (binOp .or 153 (U x) (U y)).run Tryz.prog w = .ok (U (x ||| y)) w := by
 have e : (binOp .or 153 (U x) (U y)).run Tryz.prog w = .ok (.int .u32 (IntKind.u32.wrap ((BitVec.ofInt 32 (x.toNat : Int) ||| BitVec.ofInt 32 (y.toNat : Int)).toNat : Int))) w := by kernel_rfl
 rw [e, xe, xe, ← Qk]
@[go_sem] theorem zhK : (binOp .xor 153 (U x) (U y)).run Tryz.prog w = .ok (U (x ^^^ y)) w := by
 have e : (binOp .xor 153 (U x) (U y)).run Tryz.prog w = .ok (.int .u32 (IntKind.u32.wrap ((BitVec.ofInt 32 (x.toNat : Int) ^^^ BitVec.ofInt 32 (y.toNat : Int)).toNat : Int))) w := by kernel_rfl
 rw [e, xe, xe, ← Qk]
@[go_sem] theorem zhH : (Op.unary .xor (U x)).run Tryz.prog w = .ok (U (~~~x)) w := by
 have e : (Op.unary .xor (U x)).run Tryz.prog w = .ok (.int .u32 (IntKind.u32.wrap ((BitVec.ofInt 32 4294967295 ^^^ BitVec.ofInt 32 (x.toNat : Int)).toNat : Int))) w := by kernel_rfl
 rw [e, xe, ← Qk]
 congr 2
@[go_sem] theorem zhI (k : IntKind) (n : Int) (h0 : 0 ≤ n) (h1 : n < 32) : (binOp .shl 153 (U x) (.int k n)).run Tryz.prog w = .ok (U (x <<< n.toNat)) w := by
 obtain ⟨m, rfl⟩ := Int.eq_ofNat_of_zero_le h0
 have e : (binOp .shl 153 (U x) (.int k (m : Int))).run Tryz.prog w = .ok (.int .u32 (IntKind.u32.wrap ((x.toNat : Int) * 2 ^ (min m 32)))) w := by
  rw [Nat.min_eq_left (by omega)]; unfold U; simp [go_sem, IntKind.bits]
 rw [e, ← XC, Nat.min_eq_left (by omega)]
 congr 2
 apply BitVec.eq_of_toNat_eq
 rw [BitVec.toNat_ofInt, BitVec.toNat_shiftLeft, Nat.shiftLeft_eq]
 have h6 : ((2 ^ 32 : Nat) : Int) = ((4294967296 : Nat) : Int) := by decide
 have h7 : (x.toNat : Int) * 2 ^ m = ((x.toNat * 2 ^ m : Nat) : Int) := by simp
 rw [h6, h7, ← Int.natCast_emod, Int.toNat_natCast, Int.toNat_natCast]
@[go_sem] theorem zhJ (k : IntKind) (n : Int) (h0 : 0 ≤ n) (h1 : n < 32) : (binOp .shr 153 (U x) (.int k n)).run Tryz.prog w = .ok (U (x >>> n.toNat)) w := by
 obtain ⟨m, rfl⟩ := Int.eq_ofNat_of_zero_le h0
 have e : (binOp .shr 153 (U x) (.int k (m : Int))).run Tryz.prog w = .ok (.int .u32 ((x.toNat : Int).fdiv (2 ^ (min m 32)))) w := by
  rw [Nat.min_eq_left (by omega), Int.fdiv_eq_ediv_of_nonneg _ (by exact Int.le_of_lt (Int.pow_pos (by decide)))]; unfold U; simp [go_sem, IntKind.bits]
 rw [e, Nat.min_eq_left (by omega)]
 unfold U
 congr 3
 rw [Int.toNat_natCast, BitVec.toNat_ushiftRight, Nat.shiftRight_eq_div_pow, Int.fdiv_eq_ediv_of_nonneg _ (by exact Int.le_of_lt (Int.pow_pos (by decide)))]
 simp
/-- A byte as a word; a word as an int, as a uint64. -/
@[go_sem] theorem zhb (b : UInt8) : (convert 5 153 (Y b)).run Tryz.prog w = .ok (U (wb b)) w := by
 have e : U (wb b) = .int .u32 (b.toNat : Int) := by
  unfold U wb; have := b.toNat_lt
  congr 2
  rw [BitVec.toNat_ofNat]; omega
 rw [e]
 unfold Y
 have := b.toNat_lt
 simp [go_sem]
 simp [IntKind.wrap, IntKind.bits, IntKind.signed]
 omega
@[go_sem] theorem zg9 : (convert 153 3 (U x)).run Tryz.prog w = .ok (.int .i64 (x.toNat : Int)) w := by
 unfold U
 have := x.isLt
 simp [go_sem]
 simp [IntKind.wrap, IntKind.bits, IntKind.signed]
 omega
@[go_sem] theorem zha : (convert 153 177 (U x)).run Tryz.prog w = .ok (.int .u64 (x.toNat : Int)) w := by
 unfold U
 have := x.isLt
 simp [go_sem]
 simp [IntKind.wrap, IntKind.bits, IntKind.signed]
 omega
@[go_sem] theorem zga : (binOp .sub 153 (.int .u32 4294967295) (U x)).run Tryz.prog w = .ok (U (4294967295#32 - x)) w := by
 have h := zgt w (4294967295#32) x
 exact h
@[go_sem] theorem zdN (t : TypeId) (p q : Operand) (v : Value) : (eqGuard .sub t p q v (U x)).run Tryz.prog w = .ok () w := by
 unfold U; simp [go_sem]
@[go_sem] theorem zgc (t : TypeId) (p q : Operand) (v : Value) : (eqGuard .add t p q (U x) v).run Tryz.prog w = .ok () w := by
 unfold U; simp [go_sem]
@[go_sem] theorem zgh (t : TypeId) (p q : Operand) (v : Value) : (eqGuard .sub t p q (U x) v).run Tryz.prog w = .ok () w := by
 unfold U; simp [go_sem]
@[go_sem] theorem zgd (t : TypeId) (p q : Operand) (v : Value) : (eqGuard .and t p q (U x) v).run Tryz.prog w = .ok () w := by
 unfold U; simp [go_sem]
@[go_sem] theorem zgL (t : TypeId) (p q : Operand) (v : Value) : (eqGuard .or t p q (U x) v).run Tryz.prog w = .ok () w := by
 unfold U; simp [go_sem]
@[go_sem] theorem zgi (t : TypeId) (p q : Operand) (v : Value) : (eqGuard .xor t p q (U x) v).run Tryz.prog w = .ok () w := by
 unfold U; simp [go_sem]
@[go_sem] theorem zgf (t : TypeId) (p q : Operand) (v : Value) : (eqGuard .shl t p q (U x) v).run Tryz.prog w = .ok () w := by
 unfold U; simp [go_sem]
@[go_sem] theorem zgg (t : TypeId) (p q : Operand) (v : Value) : (eqGuard .shr t p q (U x) v).run Tryz.prog w = .ok () w := by
 unfold U; simp [go_sem]
end
/-- A row of n words. -/
def wC (n : Nat) (f : Nat → yH) : Array Value := Array.ofFn (n := n) fun k => U (f k.val)
def Wd.v (n : Nat) (f : Nat → yH) : Value := .agg (wC n f)
theorem zeZ (n : Nat) (f : Nat → yH) : (wC n f).size = n := by unfold wC; simp
theorem zcv (n : Nat) (f : Nat → yH) (k : Nat) : (wC n f)[k]? = if k < n then some (U (f k)) else none := by
 unfold wC
 rw [Array.getElem?_ofFn]
 split <;> rfl
theorem zf4 (n : Nat) (f : Nat → yH) (i : Nat) (x : yH) (hi : i < n) : (wC n f).setIfInBounds i (U x) = wC n (ze3 f i x) := by
 apply Array.ext_getElem?
 intro k
 simp only [Array.getElem?_setIfInBounds, zeZ, zcv, ze3]
 by_cases h : i = k
 ·subst h; simp [hi]
 ·rw [if_neg h]
  simp only [if_neg (fun e : k = i => h e.symm)]
attribute [irreducible] wC
/-- A type of rows of n words. -/
structure WT (t : TypeId) (n : Nat) (e : TypeId) : Prop where
 und : Tryz.prog.underlying t = some (.array n e)
 size : (Tryz.prog.info? t).map (·.size) = some n
/-- The block b holds a row of words. -/
def JS (t n : Nat) (w : World) (b : Nat) (f : Nat → yH) : Prop := w.heap[b]? = some (.cells (wC n f) t (0, 0))
section
variable {t n e : Nat} {w : World} {b : Nat} {f g : Nat → yH}
theorem JS.of_eq {w' : World} (h : JS t n w b f) (e : w'.heap[b]? = w.heap[b]?) : JS t n w' b f := e.trans h
theorem JS.lt (h : JS t n w b f) : b < w.heap.size := (Array.getElem?_eq_some_iff.1 h).1
theorem JS.congr (h : JS t n w b f) (e : wC n f = wC n g) : JS t n w b g := by unfold JS at h ⊢; rw [← e]; exact h
theorem JS.cell (h : JS t n w b f) {i : Nat} (hi : i < n) : w.cell? ⟨b, i, none⟩ = some (U (f i)) := ((ql h).1 i).trans (by rw [zcv, if_pos hi])
theorem JS.frozen (h : JS t n w b f) (j : Nat) : w.frozen? ⟨b, j, none⟩ = false := (ql h).2 j
theorem JS.set (h : JS t n w b f) {i : Nat} (hi : i < n) (x : yH) : JS t n (w.setCell ⟨b, i, none⟩ (U x)) b (ze3 f i x) := by
 unfold JS
 rw [← zf4 n f i x hi]
 exact heap_setCell_same _ _ _ _ _ _ h
theorem JS.drew (h : JS t n w b f) : JS t n w.drew b f := h
end
section
variable {t n e : Nat} {ops : Array Oper} {rest : List Oper} {o : Oper} {a : Act} {w : World} {Q : Exit → Act → World → Prop}
end
/-- A package-level table of words. -/
def GAt (g n : Nat) (w : World) (f : Nat → yH) : Prop := g < w.heap.size ∧ ∀ i, i < n → w.cell? ⟨g, i, none⟩ = some (U (f i))
section
variable {g n : Nat} {w : World} {f : Nat → yH}
theorem GAt.lt (h : GAt g n w f) : g < w.heap.size := h.1
theorem GAt.of_eq {w' : World} (h : GAt g n w f) (e : w'.heap[g]? = w.heap[g]?) : GAt g n w' f := by
 refine ⟨?_, fun i hi => ?_⟩
 ·have := h.1
  rcases Nat.lt_or_ge g w'.heap.size with k | k
  ·exact k
  ·rw [Array.getElem?_eq_none k, Array.getElem?_eq_getElem this] at e
   cases e
 ·rw [World.cell?_of_block (w := w) e]
  exact h.2 i hi
theorem GAt.drew (h : GAt g n w f) : GAt g n w.drew f := h
end
section
variable {ops : Array Oper} {rest : List Oper} {o : Oper} {a : Act} {w : World} {Q : Exit → Act → World → Prop}
end
/-- How long a string is. -/
def zhD : Value → Nat
 | .string s => s.size
 | _ => 0
/- Contracts: rotations; the message schedule of package digest. -/
theorem V2 (t : TypeId) (ht : Tryz.prog.underlying t = some .string) (s : ByteArray) (m : Nat) (hm : m < s.size) (w : World) : (Instr.index t (.string s) (.int .i64 (m : Int))).run Tryz.prog w = .ok (Y (Zu s m)) w := by
 rw [run_index_string w t s .i64 (m : Int) ht, dif_pos ⟨by omega, by omega⟩]
 simp only [Int.toNat_natCast]
 rw [QM s m hm]
 rfl
section
variable {C : World → Prop} {a : Act} {o : Oper} {K : Act → Prop}
theorem X0 {t : TypeId} {x i : Operand} (h : o.op = .index t x i) (s : ByteArray) (hx : a.eval x = .string s) (j : Int) (hi : a.eval i = .int .i64 j) (m : Nat) (hm : m < s.size) (hj : j = m) (hk : K (a.put o.dst (Y (Zu s m)))) (ht : Tryz.prog.underlying t = some .string := by kernel_rfl) : o.quiet Tryz.prog a C K :=
 ⟨_, fun w hw => by subst hj; unfold Oper.quietAt execOp; simp only [h, hx, hi, V2 t ht s m hm w, Sem.run_bind, Sem.run_pure, Result.andThen_ok]; exact ⟨rfl, rfl⟩, hk⟩
end
/- Contract: compress of package digest. -/
/- Contract: compress of the reference. -/
/- Rows of bytes, numbers big endian: the contracts of octet.Put and of the reference's Big. -/
/-- A string of the bytes l. -/
def yw (l : List UInt8) : ByteArray := ⟨l.toArray⟩
theorem Zv (l : List UInt8) : bytes (yw l) = l := rfl
theorem J7 (s : ByteArray) : yw (bytes s) = s := rfl
theorem jD (l : List UInt8) : (yw l).size = l.length := by rw [← XH, Zv]
theorem XG (m : Nat) : ∀ (n k : Nat), k < m → (jr n m)[k]? = some (UInt8.ofNat (n / 256 ^ (m - 1 - k))) := by
 induction m with
 | zero => intro n k h; omega
 | succ m ih =>
  intro n k h; unfold jr; by_cases hk : k < m
  ·rw [List.getElem?_append_left (by rw [zH]; exact hk), ih _ _ hk, Nat.div_div_eq_div_mul, ← Nat.pow_succ', show (m - 1 - k).succ = m + 1 - 1 - k by omega]
  ·obtain rfl : k = m := by omega
   rw [List.getElem?_append_right (by rw [zH]; omega), zH]
   simp
def bC (n : Nat) (f : Nat → UInt8) : Array Value := Array.ofFn (n := n) fun k => Y (f k.val)
def zbj (f : Nat → UInt8) (i : Nat) (x : UInt8) : Nat → UInt8 := fun j => if j = i then x else f j
theorem zeY (n : Nat) (f : Nat → UInt8) : (bC n f).size = n := by unfold bC; simp
theorem VC (n : Nat) (f : Nat → UInt8) (k : Nat) : (bC n f)[k]? = if k < n then some (Y (f k)) else none := by
 unfold bC
 rw [Array.getElem?_ofFn]
 split <;> rfl
theorem zf3 (n : Nat) (f : Nat → UInt8) (i : Nat) (x : UInt8) (hi : i < n) : (bC n f).setIfInBounds i (Y x) = bC n (zbj f i x) := by
 apply Array.ext_getElem?
 intro k
 simp only [Array.getElem?_setIfInBounds, zeY, VC, zbj]
 by_cases h : i = k
 ·subst h; simp [hi]
 ·rw [if_neg h]
  simp only [if_neg (fun e : k = i => h e.symm)]
attribute [irreducible] bC
/-- The block b holds a row of n bytes. -/
def Zn (t n : Nat) (w : World) (b : Nat) (f : Nat → UInt8) : Prop := w.heap[b]? = some (.cells (bC n f) t (0, 0))
section
variable {t n : Nat} {w : World} {b : Nat} {f : Nat → UInt8}
theorem Zn.of_eq {w' : World} (h : Zn t n w b f) (e : w'.heap[b]? = w.heap[b]?) : Zn t n w' b f := e.trans h
theorem Zn.lt (h : Zn t n w b f) : b < w.heap.size := (Array.getElem?_eq_some_iff.1 h).1
theorem Zn.cell (h : Zn t n w b f) {i : Nat} (hi : i < n) : w.cell? ⟨b, i, none⟩ = some (Y (f i)) := ((ql h).1 i).trans (by rw [VC, if_pos hi])
theorem Zn.frozen (h : Zn t n w b f) (j : Nat) : w.frozen? ⟨b, j, none⟩ = false := (ql h).2 j
theorem Zn.set (h : Zn t n w b f) {i : Nat} (hi : i < n) (x : UInt8) : Zn t n (w.setCell ⟨b, i, none⟩ (Y x)) b (zbj f i x) := by
 unfold Zn
 rw [← zf3 n f i x hi]
 exact heap_setCell_same _ _ _ _ _ _ h
/-- A window of it as a string. -/
theorem yA (h : Zn t n w b f) (l : List UInt8) (o cap : Nat) (ho : o + l.length ≤ n) (hl : ∀ i, i < l.length → l[i]? = some (f (o + i))) :
  (convert 75 9 (.slice (some ⟨b, o, none⟩) l.length cap)).run Tryz.prog w = .ok (.string (yw l)) w := by
 have hb : Lib.Bytes w b o (yw l) := fun i hi => by
  rw [jD] at hi; rw [h.cell (by omega)]; have e := hl i hi; have e2 : (yw l)[i]'(by rw [jD]; exact hi) = f (o + i) := by
   have := QM (yw l) i (by rw [jD]; exact hi)
   rw [this]; unfold Zu; rw [Zv, List.getD_eq_getElem?_getD, e]
   rfl
  rw [e2]
  rfl
 have := Lib.run_convert_whole (P := Tryz.prog) w 75 5 9 Tryz.underlying75 Tryz.underlying5 Tryz.underlying9 b o (yw l) hb cap
 rw [jD] at this
 exact this
end
theorem Yc (w : World) (o : Oper) (ho : o.op = .alloc 176) (ev : Operand → Value) : (execOp ev o).run Tryz.prog w = .ok (.value (.pointer (some ⟨w.heap.size, 0, none⟩))) (w.alloc (.cells (bC 8 fun _ => 0) 176)) := by
 obtain ⟨d, p, t, ps, af, gd⟩ := o
 simp only at ho
 subst ho
 kernel_rfl
section
variable {ops : Array Oper} {rest : List Oper} {o : Oper} {a : Act} {w : World} {Q : Exit → Act → World → Prop}
theorem kE (hg : o.guard = none) (ho : o.op = .alloc 176)
  (h : ∀ b w', w.heap.size ≤ b → b ≤ w.heap.size → Zn 176 8 w' b (fun _ => 0) → Below b w w' → w'.heap.size = b + 1 → wpList Tryz.prog ops Q rest (a.put o.dst (.pointer (some ⟨b, 0, none⟩))) w') : wpList Tryz.prog ops Q (o :: rest) a w :=
 wpList_plain hg fun K hK => by
  unfold Oper.wp; rw [Yc w o ho]; exact hK _ _ (h _ _ (Nat.le_refl _) (Nat.le_refl _) (by unfold Zn; rw [zO, if_pos rfl]) ((Below.refl _ _).alloc (Nat.le_refl _) _) (World.size_alloc _ _))
theorem yS {t n : Nat} (hg : o.guard = none) (x y : Operand) (ho : o.op = .store 5 x y) (b j : Nat) (hx : a.eval x = .pointer (some ⟨b, j, none⟩)) (z : Int) (hy : a.eval y = .int .u8 z) (v : UInt8) (hv : z = (v.toNat : Int)) {f : Nat → UInt8} (ht : Zn t n w b f) (i : Nat) (hi : i < n) (hj : j = i)
  (h : ∀ w', Zn t n w' b (zbj f i v) → qV b w w' → w'.heap.size = w.heap.size → wpList Tryz.prog ops Q rest (a.put o.dst undef) w') : wpList Tryz.prog ops Q (o :: rest) a w := by
 subst hj
 refine qk hg x y ho _ ?_ (h _ (ht.set hi v) ((qV.refl b w).setCell _) (by simp only [World.size_setCell]))
 rw [hx, hy, hv]
 have c0 := ht.cell hi
 have f0 := ht.frozen j
 unfold Y at c0 ⊢
 simp [go_sem, c0, f0]
theorem yF {s d : TypeId} {v u : Value} (hg : o.guard = none) (x : Operand) (ho : o.op = .convert s d x) (hx : a.eval x = u) (hr : (convert s d u).run Tryz.prog w = .ok v w)
  (h : wpList Tryz.prog ops Q rest (a.put o.dst v) w) : wpList Tryz.prog ops Q (o :: rest) a w :=
 wpList_plain hg fun K hK => by
  unfold Oper.wp execOp; simp only [ho, hx, hr, Sem.run_bind, Sem.run_pure, Result.andThen_ok]; exact hK _ _ h
end
/- The contracts of octet.Put and of the reference's Big. -/
/-- The bytes from the k-th on (of m) are those of n. -/
def zhQ (n m k : Nat) : Nat → UInt8 := fun j => if k ≤ j then UInt8.ofNat (n / 256 ^ (m - 1 - j)) else 0
theorem Zn.congr {t n : Nat} {w : World} {b : Nat} {f g : Nat → UInt8} (h : Zn t n w b f) (e : bC n f = bC n g) : Zn t n w b g := by unfold Zn at h ⊢; rw [← e]; exact h
/-- The first k bytes (of m) are those of n. -/
def ur (n m k : Nat) : Nat → UInt8 := fun j => if j < k then UInt8.ofNat (n / 256 ^ (m - 1 - j)) else 0
theorem uI (n m k : Nat) : zbj (ur n m k) k (UInt8.ofNat (n / 256 ^ (m - 1 - k))) = ur n m (k + 1) := by
 funext j
 unfold zbj ur
 by_cases h : j = k
 ·subst h; simp
 ·rw [if_neg h]
  by_cases h2 : j < k
  ·rw [if_pos h2, if_pos (by omega)]
  ·rw [if_neg h2, if_neg (by omega)]
theorem uJ (n m : Nat) : bC m (fun _ => 0) = bC m (ur n m 0) := by
 congr 1
end Go.Proofs.YtepelndbbhdofaaGreatDoor
/- Contracts of Go's library, out of the kit's shelf, in this seat's own numbers: strings.Builder, strings.Repeat, strings.IndexByte. -/
namespace Go.Proofs.YtepelndbbhdofaaGreatDoor
open Go.Shelf
def ren : Go.Shelf.Ren := ⟨fun | 166 => 83 | 169 => 85 | 240 => 137 | 276 => 166 | n => n, fun | 9 => 9 | 3 => 3 | 4 => 4 | 20 => 20 | 0 => 0 | 46 => 181 | 5 => 5 | 72 => 131 | 76 => 134 | 51 => 153 | 53 => 177 | 70 => 129 | 37 => 75 | 75 => 133 | 127 => 178 | 164 => 196 | 80 => 138 | n => n, fun | n => n⟩
theorem WN : Go.Proofs.Lays.n166 Tryz.prog ren := {
 mixed := by kernel_rfl
 f166 := Tryz.func83.trans (congrArg some (by kernel_rfl))
 f240 := Tryz.func137.trans (congrArg some (by kernel_rfl))
 f276 := Tryz.func166.trans (congrArg some (by kernel_rfl))
 t0 := Tryz.underlying0
 a0 := Tryz.isAgg0
 z0 := Tryz.sizeOf0
 v0 := Tryz.zeroValue0
 t3 := Tryz.underlying3
 a3 := Tryz.isAgg3
 z3 := Tryz.sizeOf3
 v3 := Tryz.zeroValue3
 t4 := Tryz.underlying4
 a4 := Tryz.isAgg4
 z4 := Tryz.sizeOf4
 v4 := Tryz.zeroValue4
 t9 := Tryz.underlying9
 a9 := Tryz.isAgg9
 z9 := Tryz.sizeOf9
 v9 := Tryz.zeroValue9
 t20 := Tryz.underlying20
 a20 := Tryz.isAgg20
 z20 := Tryz.sizeOf20
 v20 := Tryz.zeroValue20
 t37 := Tryz.underlying75
 a37 := Tryz.isAgg75
 z37 := Tryz.sizeOf75
 v37 := Tryz.zeroValue75
 t70 := Tryz.underlying129
 a70 := Tryz.isAgg129
 z70 := Tryz.sizeOf129
 v70 := Tryz.zeroValue129
 t72 := Tryz.underlying131
 a72 := Tryz.isAgg131
 z72 := Tryz.sizeOf131
 v72 := Tryz.zeroValue131
 t75 := Tryz.underlying133
 a75 := Tryz.isAgg133
 z75 := Tryz.sizeOf133
 v75 := Tryz.zeroValue133
 t164 := Tryz.underlying196
 a164 := Tryz.isAgg196
 z164 := Tryz.sizeOf196
 v164 := Tryz.zeroValue196 }
theorem zew : Go.Proofs.Lays.n169 Tryz.prog ren := {
 mixed := by kernel_rfl
 f169 := Tryz.func85.trans (congrArg some (by kernel_rfl))
 t0 := Tryz.underlying0
 a0 := Tryz.isAgg0
 z0 := Tryz.sizeOf0
 v0 := Tryz.zeroValue0
 t3 := Tryz.underlying3
 a3 := Tryz.isAgg3
 z3 := Tryz.sizeOf3
 v3 := Tryz.zeroValue3
 t9 := Tryz.underlying9
 a9 := Tryz.isAgg9
 z9 := Tryz.sizeOf9
 v9 := Tryz.zeroValue9
 t37 := Tryz.underlying75
 a37 := Tryz.isAgg75
 z37 := Tryz.sizeOf75
 v37 := Tryz.zeroValue75
 t70 := Tryz.underlying129
 a70 := Tryz.isAgg129
 z70 := Tryz.sizeOf129
 v70 := Tryz.zeroValue129
 t72 := Tryz.underlying131
 a72 := Tryz.isAgg131
 z72 := Tryz.sizeOf131
 v72 := Tryz.zeroValue131
 t127 := Tryz.underlying178
 a127 := Tryz.isAgg178
 z127 := Tryz.sizeOf178
 v127 := Tryz.zeroValue178 }
theorem Y6 : Builder.Extra Tryz.prog ren := {
 sizeBuilder := by kernel_rfl
 liesBuilder := by kernel_rfl
 t5 := Tryz.underlying5
 a5 := Tryz.isAgg5
 z5 := Tryz.sizeOf5
 v5 := Tryz.zeroValue5
 infoByte := by kernel_rfl
 cellsByte := by kernel_rfl
 sizeByte := by kernel_rfl
 neB5 := by decide }
open Go.RowKit Go.Lib
/-- A builder that holds the bytes l. -/
def yl (B b : Nat) (l : List UInt8) (w : World) : Prop := Lib.IsBuilder 131 5 B b (Lib.byteCells l) w
theorem yl.lt {B b : Nat} {l : List UInt8} {w : World} (h : yl B b l w) : b < w.heap.size := h.elim (fun x => x.lt) (fun x => x.lt)
theorem yl.below {B b : Nat} {l : List UInt8} {w w' : World} (h : yl B b l w) (hb : Below w.heap.size w w') : yl B b l w' := by
 have step : ∀ p, Lib.BuilderAt 131 5 B b p (Lib.byteCells l) w → Lib.BuilderAt 131 5 B b p (Lib.byteCells l) w' := fun p h => by
  have zh := h.lt; obtain ⟨hB, v, hv, hown, hne⟩ := h; exact ⟨hB, v, (hb.block b zh).trans hv, hown.kept (row := none) ⟨hb.os, hb.tape, hb.output, hb.size, fun k hk _ => hb.block k hk⟩ (Classical.em _), hne⟩
 exact h.elim (fun x => .inl (step _ x)) (fun x => .inr (step _ x))
theorem yl.fresh (w : World) : yl w.heap.size w.heap.size [] (w.alloc (.cells #[.pointer none, .slice none 0 0] 131)) := Lib.fresh_isBuilder _ _ w
theorem Zf (w : World) (o : Oper) (ho : o.op = .alloc 131) (ev : Operand → Value) : (execOp ev o).run Tryz.prog w = .ok (.value (.pointer (some ⟨w.heap.size, 0, none⟩))) (w.alloc (.cells #[.pointer none, .slice none 0 0] 131)) := by
 obtain ⟨d, p, t, ps, af, gd⟩ := o
 simp only at ho
 subst ho
 kernel_rfl
theorem JO {ops : Array Oper} {rest : List Oper} {o : Oper} {a : Act} {w : World} {Q : Exit → Act → World → Prop} (hg : o.guard = none) (ho : o.op = .alloc 131)
  (h : ∀ b w', w.heap.size ≤ b → b ≤ w.heap.size → yl b b [] w' → Below b w w' → w'.heap.size = b + 1 → wpList Tryz.prog ops Q rest (a.put o.dst (.pointer (some ⟨b, 0, none⟩))) w') : wpList Tryz.prog ops Q (o :: rest) a w :=
 wpList_plain hg fun K hK => by
  unfold Oper.wp; rw [Zf w o ho]; exact hK _ _ (h _ _ (Nat.le_refl _) (Nat.le_refl _) (yl.fresh w) ((Below.refl _ _).alloc (Nat.le_refl _) _) (World.size_alloc _ _))
theorem JU (l k : List UInt8) : Lib.byteCells (l ++ k) = Lib.byteCells l ++ Lib.byteCells k := by simp [Lib.byteCells]
theorem Yt (B b : Nat) (l : List UInt8) (w : World) (h : yl B b l w) (hBw : B ≤ w.heap.size) :
 Calls Tryz.prog 85 #[.pointer (some ⟨b, 0, none⟩)] w fun e w' => e = .returned (.string (yw l)) ∧ Below B w w' := Any.Builder_String_any zew Y6 B b l w h hBw
end Go.Proofs.YtepelndbbhdofaaGreatDoor
/- Contracts of Put of package octet and of its reference, at the sizes that strokes use; rows of one byte, of four, of five. -/
namespace Go.Proofs.YtepelndbbhdofaaGreatDoor
open Go.RowKit Sha
set_option linter.unusedVariables false
set_option linter.unusedSimpArgs false
set_option maxRecDepth 20000
theorem zed (l : List UInt8) (f : Nat → UInt8) (h : ∀ i, i < l.length → l[i]? = some (f i)) : bC l.length f = (l.map Y).toArray := by
 apply Array.ext_getElem?
 intro k
 rw [VC, List.getElem?_toArray, List.getElem?_map]
 by_cases hk : k < l.length
 ·rw [if_pos hk, h k hk]; rfl
 ·rw [if_neg hk, List.getElem?_eq_none (by omega)]; rfl
theorem Wg (w : World) : Calls Tryz.prog 138 #[.int .i64 1] w fun e w' => e = .returned (.int .i64 1) ∧ w = w' := by
 go_enter Tryz.func138, Tryz.ntmps138
 go_wp2
 go_ret
 exact ⟨rfl, rfl⟩
theorem Wh (w : World) : Calls Tryz.prog 138 #[.int .i64 2] w fun e w' => e = .returned (.int .i64 2) ∧ w = w' := by
 go_enter Tryz.func138, Tryz.ntmps138
 go_wp2
 go_ret
 exact ⟨rfl, rfl⟩
theorem Wj (w : World) : Calls Tryz.prog 138 #[.int .i64 3] w fun e w' => e = .returned (.int .i64 3) ∧ w = w' := by
 go_enter Tryz.func138, Tryz.ntmps138
 go_wp2
 go_ret
 exact ⟨rfl, rfl⟩
set_option maxHeartbeats 1000000 in
theorem zbQ (n : Nat) (hn : n < 9223372036854775808) (w : World) : Calls Tryz.prog 84 #[.int .i64 (n : Int), .int .i64 1] w fun e w' => e = .returned (.string (yw (jr n 1))) ∧ Below w.heap.size w w' := by
 have B := Below.refl w.heap.size w
 go_enter Tryz.func84, Tryz.ntmps84
 go_wp2_with (first | (refine kE rfl rfl (zY B ?_); clear B; intro b_b1 wn zb zd b1 za zf zk B; (try have zh := b1.lt); (try replace b1 := b1.below (za.mono zb)); simp only [zo]))
 go_loopw [6, 7] (fun _ i wr => ∃ k : Nat, k ≤ 8 ∧ i = .int .i64 k ∧ Below w.heap.size w wr ∧ Zn 176 8 wr b_b1 (ur n 8 k)) (fun _ i _ => (8 - intOf i).toNat)
 case atStart => exact ⟨0, by omega, rfl, B, b1.congr (uJ _ _)⟩
 case round =>
  clear B b1; obtain ⟨k, hk, rfl, B, b1⟩ := hrel; by_cases zh : k < 8
  ·have hp : (2 : Int) ^ ((56 : Int) - 8 * k).toNat = ((256 ^ (8 - 1 - k) : Nat) : Int) := by
    have hc : k = 0 ∨ k = 1 ∨ k = 2 ∨ k = 3 ∨ k = 4 ∨ k = 5 ∨ k = 6 ∨ k = 7 := by omega
    rcases hc with rfl | rfl | rfl | rfl | rfl | rfl | rfl | rfl <;> rfl
   go_wp2_with (first | (refine yS rfl _ _ rfl _ _ rfl _ rfl (UInt8.ofNat (n / 256 ^ (8 - 1 - k))) (by rw [show 8 - 1 - k = 7 - k by omega]; simp) b1 (k) (by omega) (by first | rfl | omega) (qG B (by omega) ?_); clear b1 B; intro wn b1 ze zf zg B; simp only [zo]))
   rw [uI] at b1; go_roundw
   case rel => exact ⟨k + 1, by omega, by go_num, B, b1⟩
   case measure => simp [intOf]; omega
  ·obtain rfl : k = 8 := by omega
   simp only [show ((8 : Nat) : Int) = 8 from rfl]; go_wp2_with (first | (refine yF (s := 75) (d := 9) rfl _ rfl rfl (yA b1 (jr n 1) (7) _ (by simp [zH]) (fun i hi => by rw [zH] at hi; rw [XG _ _ _ hi]; unfold ur; rw [if_pos (by omega)]; congr 4; omega)) ?_; simp only [zo]) | (go_at_call 138; refine (Wg _).mono ?_; rintro e wq ⟨rfl, rfl⟩))
   go_ret; exact ⟨rfl, B⟩
set_option maxHeartbeats 1000000 in
theorem zfr (n : Nat) (hn : n < 9223372036854775808) (w : World) : Calls Tryz.prog 84 #[.int .i64 (n : Int), .int .i64 2] w fun e w' => e = .returned (.string (yw (jr n 2))) ∧ Below w.heap.size w w' := by
 have B := Below.refl w.heap.size w
 go_enter Tryz.func84, Tryz.ntmps84
 go_wp2_with (first | (refine kE rfl rfl (zY B ?_); clear B; intro b_b1 wn zb zd b1 za zf zk B; (try have zh := b1.lt); (try replace b1 := b1.below (za.mono zb)); simp only [zo]))
 go_loopw [6, 7] (fun _ i wr => ∃ k : Nat, k ≤ 8 ∧ i = .int .i64 k ∧ Below w.heap.size w wr ∧ Zn 176 8 wr b_b1 (ur n 8 k)) (fun _ i _ => (8 - intOf i).toNat)
 case atStart => exact ⟨0, by omega, rfl, B, b1.congr (uJ _ _)⟩
 case round =>
  clear B b1; obtain ⟨k, hk, rfl, B, b1⟩ := hrel; by_cases zh : k < 8
  ·have hp : (2 : Int) ^ ((56 : Int) - 8 * k).toNat = ((256 ^ (8 - 1 - k) : Nat) : Int) := by
    have hc : k = 0 ∨ k = 1 ∨ k = 2 ∨ k = 3 ∨ k = 4 ∨ k = 5 ∨ k = 6 ∨ k = 7 := by omega
    rcases hc with rfl | rfl | rfl | rfl | rfl | rfl | rfl | rfl <;> rfl
   go_wp2_with (first | (refine yS rfl _ _ rfl _ _ rfl _ rfl (UInt8.ofNat (n / 256 ^ (8 - 1 - k))) (by rw [show 8 - 1 - k = 7 - k by omega]; simp) b1 (k) (by omega) (by first | rfl | omega) (qG B (by omega) ?_); clear b1 B; intro wn b1 ze zf zg B; simp only [zo]))
   rw [uI] at b1; go_roundw
   case rel => exact ⟨k + 1, by omega, by go_num, B, b1⟩
   case measure => simp [intOf]; omega
  ·obtain rfl : k = 8 := by omega
   simp only [show ((8 : Nat) : Int) = 8 from rfl]; go_wp2_with (first | (refine yF (s := 75) (d := 9) rfl _ rfl rfl (yA b1 (jr n 2) (6) _ (by simp [zH]) (fun i hi => by rw [zH] at hi; rw [XG _ _ _ hi]; unfold ur; rw [if_pos (by omega)]; congr 4; omega)) ?_; simp only [zo]) | (go_at_call 138; refine (Wh _).mono ?_; rintro e wq ⟨rfl, rfl⟩))
   go_ret; exact ⟨rfl, B⟩
set_option maxHeartbeats 1000000 in
theorem zfs (n : Nat) (hn : n < 9223372036854775808) (w : World) : Calls Tryz.prog 84 #[.int .i64 (n : Int), .int .i64 3] w fun e w' => e = .returned (.string (yw (jr n 3))) ∧ Below w.heap.size w w' := by
 have B := Below.refl w.heap.size w
 go_enter Tryz.func84, Tryz.ntmps84
 go_wp2_with (first | (refine kE rfl rfl (zY B ?_); clear B; intro b_b1 wn zb zd b1 za zf zk B; (try have zh := b1.lt); (try replace b1 := b1.below (za.mono zb)); simp only [zo]))
 go_loopw [6, 7] (fun _ i wr => ∃ k : Nat, k ≤ 8 ∧ i = .int .i64 k ∧ Below w.heap.size w wr ∧ Zn 176 8 wr b_b1 (ur n 8 k)) (fun _ i _ => (8 - intOf i).toNat)
 case atStart => exact ⟨0, by omega, rfl, B, b1.congr (uJ _ _)⟩
 case round =>
  clear B b1; obtain ⟨k, hk, rfl, B, b1⟩ := hrel; by_cases zh : k < 8
  ·have hp : (2 : Int) ^ ((56 : Int) - 8 * k).toNat = ((256 ^ (8 - 1 - k) : Nat) : Int) := by
    have hc : k = 0 ∨ k = 1 ∨ k = 2 ∨ k = 3 ∨ k = 4 ∨ k = 5 ∨ k = 6 ∨ k = 7 := by omega
    rcases hc with rfl | rfl | rfl | rfl | rfl | rfl | rfl | rfl <;> rfl
   go_wp2_with (first | (refine yS rfl _ _ rfl _ _ rfl _ rfl (UInt8.ofNat (n / 256 ^ (8 - 1 - k))) (by rw [show 8 - 1 - k = 7 - k by omega]; simp) b1 (k) (by omega) (by first | rfl | omega) (qG B (by omega) ?_); clear b1 B; intro wn b1 ze zf zg B; simp only [zo]))
   rw [uI] at b1; go_roundw
   case rel => exact ⟨k + 1, by omega, by go_num, B, b1⟩
   case measure => simp [intOf]; omega
  ·obtain rfl : k = 8 := by omega
   simp only [show ((8 : Nat) : Int) = 8 from rfl]; go_wp2_with (first | (refine yF (s := 75) (d := 9) rfl _ rfl rfl (yA b1 (jr n 3) (5) _ (by simp [zH]) (fun i hi => by rw [zH] at hi; rw [XG _ _ _ hi]; unfold ur; rw [if_pos (by omega)]; congr 4; omega)) ?_; simp only [zo]) | (go_at_call 138; refine (Wj _).mono ?_; rintro e wq ⟨rfl, rfl⟩))
   go_ret; exact ⟨rfl, B⟩
/-! ### Four and five bytes -/
def bt (x : Int) : UInt8 := UInt8.ofNat x.toNat
theorem QL {x : Int} (h : 0 ≤ x ∧ x ≤ 255) : x = ((bt x).toNat : Int) := by
 unfold bt
 rw [UInt8.toNat_ofNat']
 omega
theorem zdl (w : World) (o : Oper) (x y z u : Operand) (ho : o.op = .buildSlice 75 4 #[(0, x), (1, y), (2, z), (3, u)]) (ev : Operand → Value) (a b c d : UInt8) (hx : ev x = Y a) (hy : ev y = Y b) (hz : ev z = Y c) (hu : ev u = Y d) : (execOp ev o).run Tryz.prog w = .ok (.value (.slice (some ⟨w.heap.size, 0, none⟩) 4 4)) (w.alloc (.cells #[Y a, Y b, Y c, Y d] 5)) := by
 obtain ⟨d, p, t, ps, af, gd⟩ := o
 simp only at ho
 subst ho
 unfold execOp
 simp only [List.map_toArray, List.map_cons, List.map_nil, hx, hy, hz, hu]
 kernel_rfl
theorem Ve {ops : Array Oper} {rest : List Oper} {o : Oper} {a : Act} {w : World} {Q : Exit → Act → World → Prop} (hg : o.guard = none) (x y z u : Operand) (ho : o.op = .buildSlice 75 4 #[(0, x), (1, y), (2, z), (3, u)]) (p q r s : Int) (hp : 0 ≤ p ∧ p ≤ 255) (hq : 0 ≤ q ∧ q ≤ 255) (hr : 0 ≤ r ∧ r ≤ 255) (hs : 0 ≤ s ∧ s ≤ 255) (hx : a.eval x = .int .u8 p) (hy : a.eval y = .int .u8 q) (hz : a.eval z = .int .u8 r) (hu : a.eval u = .int .u8 s)
  (h : ∀ b w', w.heap.size ≤ b → b ≤ w.heap.size → Zn 5 4 w' b (fun i => [bt p, bt q, bt r, bt s].getD i 0) → Below b w w' → w'.heap.size = b + 1 → wpList Tryz.prog ops Q rest (a.put o.dst (.slice (some ⟨b, 0, none⟩) 4 4)) w') : wpList Tryz.prog ops Q (o :: rest) a w :=
 wpList_plain hg fun K hK => by
  unfold Oper.wp; rw [zdl w o x y z u ho _ (bt p) (bt q) (bt r) (bt s) (by rw [hx]; unfold Y; rw [← QL hp]) (by rw [hy]; unfold Y; rw [← QL hq]) (by rw [hz]; unfold Y; rw [← QL hr]) (by rw [hu]; unfold Y; rw [← QL hs])]
  exact hK _ _ (h _ _ (Nat.le_refl _) (Nat.le_refl _) (by
   unfold Zn; rw [show bC 4 (fun i => [bt p, bt q, bt r, bt s].getD i 0) = #[Y (bt p), Y (bt q), Y (bt r), Y (bt s)] from zed [bt p, bt q, bt r, bt s] _ (fun i hi => by rw [List.getD_eq_getElem?_getD, List.getElem?_eq_getElem hi]; rfl), zO, if_pos rfl]) ((Below.refl _ _).alloc (Nat.le_refl _) _) (World.size_alloc _ _))
end Go.Proofs.YtepelndbbhdofaaGreatDoor
/- Plain arithmetic of 8-bit compositing, in Int: what package pixel and its reference compute. -/
namespace Go.Proofs.YtepelndbbhdofaaGreatDoor.Pl
def jg (n : Int) : Int := max 0 (min n 255)
def qm (n d : Int) : Int := (2 * n + d) / (2 * d)
def jp (a b : Int) : Int := qm (jg a * jg b) 255
def Jp (b s : Int) : Int := b + s - jp b s
def uX (b s : Int) : Int := if s < 128 then jp b (2 * s) else Jp b (2 * s - 255)
def vy (b s : Int) : Int := if b = 0 then 0 else if s = 255 then 255 else min 255 (255 * b / (255 - s))
def uR (b s : Int) : Int := if b = 255 then 255 else if s = 0 then 0 else 255 - min 255 (255 * (255 - b) / s)
def Xf (b s : Int) : Int := min 255 (jp (255 - b) (jp b s) + jp b (Jp b s))
def zh7 (x : Int) : Int := max x (-x)
theorem zI (n : Int) : 0 ≤ jg n ∧ jg n ≤ 255 := by unfold jg; omega
theorem vh {n : Int} (h0 : 0 ≤ n) (h1 : n ≤ 255) : jg n = n := by unfold jg; omega
theorem yh {n d m : Int} (h0 : 0 ≤ n) (h1 : n ≤ m * d) (hd : 1 ≤ d) : 0 ≤ qm n d ∧ qm n d ≤ m := by
 unfold qm
 refine ⟨Int.ediv_nonneg (by omega) (by omega), ?_⟩
 have : (2 * n + d) / (2 * d) < m + 1 := by
  apply Int.ediv_lt_of_lt_mul (by omega)
  have e1 : (m + 1) * (2 * d) = 2 * (m * d) + 2 * d := by rw [Int.add_mul, Int.one_mul, Int.mul_left_comm]
  omega
 omega
theorem j5 {a b : Int} {m k : Int} (ha : 0 ≤ a) (ha' : a ≤ m) (hb : 0 ≤ b) (hb' : b ≤ k) : 0 ≤ a * b ∧ a * b ≤ m * k :=
 ⟨Int.mul_nonneg ha hb, Int.mul_le_mul ha' hb' hb (by omega)⟩
theorem x5 (a b : Int) : 0 ≤ jp a b ∧ jp a b ≤ 255 := by
 have h1 := zI a
 have h2 := zI b
 have h3 := j5 h1.1 h1.2 h2.1 h2.2
 exact yh h3.1 (by omega) (by omega)
theorem zaQ (a b : Int) : jp a b = jp b a := by unfold jp; rw [Int.mul_comm]
/-- The sixteen modes; all others are Normal. -/
def J6 (m b s : Int) : Int :=
 if m = 1 then jp b s else if m = 2 then Jp b s else if m = 3 then uX s b else if m = 4 then min b s else if m = 5 then max b s
 else if m = 6 then vy b s else if m = 7 then uR b s else if m = 8 then uX b s else if m = 9 then Xf b s else if m = 10 then max (b - s) (s - b)
 else if m = 11 then max 0 (b + s - 2 * jp b s) else if m = 12 then min 255 (b + s) else if m = 13 then max 0 (b - s) else if m = 14 then (b + s + 1) / 2
 else if m = 15 then 255 - max (255 - b - s) (s - (255 - b)) else s
def jo (m b s : Int) : Int := J6 m (jg b) (jg s)
theorem WS {b s : Int} (h0 : 0 ≤ b) (h1 : b ≤ 255) : jp b s ≤ b := by
 have h2 := zI s
 unfold jp
 rw [vh h0 h1]
 have h3 := j5 h0 (Int.le_refl b) h2.1 h2.2
 exact (yh h3.1 (by omega) (by omega)).2
theorem Yj {b s : Int} (hb0 : 0 ≤ b) (hb1 : b ≤ 255) (hs0 : 0 ≤ s) (hs1 : s ≤ 255) : max b s ≤ Jp b s ∧ Jp b s ≤ 255 := by
 have h1 := WS (s := s) hb0 hb1
 have h2 := WS (s := b) hs0 hs1
 rw [zaQ] at h2
 refine ⟨by unfold Jp; omega, ?_⟩
 -- b + s - 255 ≤ mul
 have h3 : b + s - 255 ≤ jp b s := by
  unfold jp qm; rw [vh hb0 hb1, vh hs0 hs1]; have h4 : 0 ≤ (255 - b) * (255 - s) := Int.mul_nonneg (by omega) (by omega); have h5 : (255 - b) * (255 - s) = 65025 - 255 * b - 255 * s + b * s := by
   rw [Int.sub_mul, Int.mul_sub, Int.mul_sub]; omega
  apply Int.le_ediv_of_mul_le (by omega)
  omega
 unfold Jp; omega
theorem Y8 {b s : Int} (hb0 : 0 ≤ b) (hb1 : b ≤ 255) (hs0 : 0 ≤ s) (hs1 : s ≤ 255) : 0 ≤ uX b s ∧ uX b s ≤ 255 := by
 unfold uX
 split
 ·exact x5 _ _
 ·have := Yj hb0 hb1 (s := 2 * s - 255) (by omega) (by omega)
  omega
theorem zen {b s : Int} (hb0 : 0 ≤ b) (hb1 : b ≤ 255) (hs0 : 0 ≤ s) (hs1 : s ≤ 255) : b + s - 2 * jp b s ≤ 255 := by
 unfold jp qm
 rw [vh hb0 hb1, vh hs0 hs1]
 have h4 : 0 ≤ (255 - b) * (255 - s) := Int.mul_nonneg (by omega) (by omega)
 have h5 : (255 - b) * (255 - s) = 65025 - 255 * b - 255 * s + b * s := by
  rw [Int.sub_mul, Int.mul_sub, Int.mul_sub]; omega
 have h6 : 0 ≤ b * s := Int.mul_nonneg hb0 hs0
 generalize b * s = x at *
 omega
theorem zcQ {m b s : Int} (hb0 : 0 ≤ b) (hb1 : b ≤ 255) (hs0 : 0 ≤ s) (hs1 : s ≤ 255) : 0 ≤ J6 m b s ∧ J6 m b s ≤ 255 := by
 have h1 := x5 b s
 have h2 := Yj hb0 hb1 hs0 hs1
 have h8 := zen hb0 hb1 hs0 hs1
 have h3 := Y8 hb0 hb1 hs0 hs1
 have h4 := Y8 hs0 hs1 hb0 hb1
 have h5 : 0 ≤ vy b s ∧ vy b s ≤ 255 := by
  unfold vy; split
  ·omega
  ·split
   ·omega
   ·have : 0 ≤ 255 * b / (255 - s) := Int.ediv_nonneg (by omega) (by omega)
    omega
 have h6 : 0 ≤ uR b s ∧ uR b s ≤ 255 := by
  unfold uR; split
  ·omega
  ·split
   ·omega
   ·have : 0 ≤ 255 * (255 - b) / s := Int.ediv_nonneg (by omega) (by omega)
    omega
 have h7 : 0 ≤ Xf b s ∧ Xf b s ≤ 255 := by
  unfold Xf; have := x5 (255 - b) (jp b s); have := x5 b (Jp b s); omega
 unfold J6
 repeat' split
 all_goals omega
theorem JW (m b s : Int) : 0 ≤ jo m b s ∧ jo m b s ≤ 255 :=
 zcQ (zI b).1 (zI b).2 (zI s).1 (zI s).2
/-! ### Pixels -/
structure Px where
 r : Int
 g : Int
 b : Int
 a : Int
/-- Every channel is a byte. -/
def Px.ok (p : Px) : Prop := (0 ≤ p.r ∧ p.r ≤ 255) ∧ (0 ≤ p.g ∧ p.g ≤ 255) ∧ (0 ≤ p.b ∧ p.b ≤ 255) ∧ (0 ≤ p.a ∧ p.a ≤ 255)
def Px.zero : Px := ⟨0, 0, 0, 0⟩
theorem Px.zero_ok : Px.zero.ok := by unfold Px.ok Px.zero; simp
def jj (p : Px) : Px := if p.a = 0 then Px.zero else p
theorem wO {p : Px} (h : p.ok) : (jj p).ok := by unfold jj; split; exact Px.zero_ok; exact h
def ZP (p : Px) (c : Int) : Px := jj { p with a := jp p.a c }
theorem zco {p : Px} (h : p.ok) (c : Int) : (ZP p c).ok := by
 unfold ZP
 apply wO
 have := x5 p.a c
 exact ⟨h.1, h.2.1, h.2.2.1, this⟩
/-! Over -/
def yx (u v : Int) : Int := 255 * u + 255 * v - u * v
def WY (m u v b s : Int) : Int := u * (255 - v) * s + u * v * jo m b s + (255 - u) * v * b
def kR (m u v b s : Int) : Int := qm (WY m u v b s) (yx u v)
def u0 (q p : Px) (m c : Int) : Px :=
 if yx (jp p.a c) q.a = 0 then Px.zero else
  ⟨kR m (jp p.a c) q.a q.r p.r, kR m (jp p.a c) q.a q.g p.g, kR m (jp p.a c) q.a q.b p.b, qm (yx (jp p.a c) q.a) 255⟩
theorem Ko (u v : Int) : yx u v = u * (255 - v) + u * v + (255 - u) * v := by
 unfold yx; rw [Int.mul_sub, Int.sub_mul]; omega
theorem u4 {u v : Int} (hu0 : 0 ≤ u) (hu1 : u ≤ 255) (hv0 : 0 ≤ v) (hv1 : v ≤ 255) : 0 ≤ yx u v ∧ yx u v ≤ 65025 := by
 have h1 : 0 ≤ (255 - u) * (255 - v) := Int.mul_nonneg (by omega) (by omega)
 have h2 : (255 - u) * (255 - v) = 65025 - yx u v := by
  unfold yx; rw [Int.sub_mul, Int.mul_sub, Int.mul_sub]; omega
 have h3 : 0 ≤ u * (255 - v) := Int.mul_nonneg hu0 (by omega)
 have h4 : u * (255 - v) = 255 * u - u * v := by rw [Int.mul_sub]; omega
 constructor
 ·unfold yx; omega
 ·omega
/-- A weighted sum of three numbers of at most 255 is at most 255 times the weights. -/
theorem zcW {m u v b s : Int} (hu0 : 0 ≤ u) (hu1 : u ≤ 255) (hv0 : 0 ≤ v) (hv1 : v ≤ 255) (hb0 : 0 ≤ b) (hb1 : b ≤ 255) (hs0 : 0 ≤ s) (hs1 : s ≤ 255) :
  0 ≤ WY m u v b s ∧ WY m u v b s ≤ 255 * yx u v := by
 have hx := JW m b s
 have w1 : 0 ≤ u * (255 - v) := Int.mul_nonneg hu0 (by omega)
 have w2 : 0 ≤ u * v := Int.mul_nonneg hu0 hv0
 have w3 : 0 ≤ (255 - u) * v := Int.mul_nonneg (by omega) hv0
 have a1 := Int.mul_nonneg w1 hs0
 have a2 := Int.mul_nonneg w2 hx.1
 have a3 := Int.mul_nonneg w3 hb0
 have b1 := Int.mul_le_mul_of_nonneg_left hs1 w1
 have b2 := Int.mul_le_mul_of_nonneg_left hx.2 w2
 have b3 := Int.mul_le_mul_of_nonneg_left hb1 w3
 have e := Ko u v
 unfold WY
 omega
theorem uZ {m u v b s : Int} (hu0 : 0 ≤ u) (hu1 : u ≤ 255) (hv0 : 0 ≤ v) (hv1 : v ≤ 255) (hb0 : 0 ≤ b) (hb1 : b ≤ 255) (hs0 : 0 ≤ s) (hs1 : s ≤ 255) (hw : yx u v ≠ 0) :
  0 ≤ kR m u v b s ∧ kR m u v b s ≤ 255 := by
 have h := zcW (m := m) hu0 hu1 hv0 hv1 hb0 hb1 hs0 hs1
 have k := u4 hu0 hu1 hv0 hv1
 exact yh h.1 h.2 (by omega)
theorem zcX {q p : Px} (hq : q.ok) (hp : p.ok) (m c : Int) : (u0 q p m c).ok := by
 have hu := x5 p.a c
 unfold u0
 split
 ·exact Px.zero_ok
 ·rename_i hw
  obtain ⟨⟨q1, q2⟩, ⟨q3, q4⟩, ⟨q5, q6⟩, ⟨q7, q8⟩⟩ := hq; obtain ⟨⟨p1, p2⟩, ⟨p3, p4⟩, ⟨p5, p6⟩, ⟨p7, p8⟩⟩ := hp; have k := u4 hu.1 hu.2 q7 q8; exact ⟨uZ hu.1 hu.2 q7 q8 q1 q2 p1 p2 hw, uZ hu.1 hu.2 q7 q8 q3 q4 p3 p4 hw, uZ hu.1 hu.2 q7 q8 q5 q6 p5 p6 hw, yh k.1 (by omega) (by omega)⟩
/-! Mix -/
def zfN (p q x y : Int) : Int := qm (p * x + q * y) (p + q)
def zit (a b : Px) (t : Int) : Px :=
 if qm (a.a * (255 - jg t) + b.a * jg t) 255 = 0 then Px.zero else
  ⟨zfN (a.a * (255 - jg t)) (b.a * jg t) a.r b.r, zfN (a.a * (255 - jg t)) (b.a * jg t) a.g b.g, zfN (a.a * (255 - jg t)) (b.a * jg t) a.b b.b, qm (a.a * (255 - jg t) + b.a * jg t) 255⟩
end Go.Proofs.YtepelndbbhdofaaGreatDoor.Pl
/- Contracts of the arithmetic functions of package pixel and of its reference: each returns what the plain function of the same name says, and leaves the world alone. -/
namespace Go.Proofs.YtepelndbbhdofaaGreatDoor
open Go.RowKit Pl
set_option linter.unusedVariables false
set_option linter.unusedSimpArgs false
theorem js {k : IntKind} {a b : Int} (h : a = b) : Ending.returned (.int k a) = .returned (.int k b) := by rw [h]
set_option maxHeartbeats 400000 in
theorem Qi (n d : Int) (w : World) (h0 : 0 ≤ n) (h1 : n ≤ 1000000000000000) (h2 : 1 ≤ d) (h3 : d ≤ 1000000000000000) :
  Calls Tryz.prog 120 #[.int .i64 n, .int .i64 d] w fun e w' => e = .returned (.int .i64 (qm n d)) ∧ w = w' := by
 have h4 : ¬ (2 * d = 0) := by omega
 go_enter Tryz.func120, Tryz.ntmps120
 go_wp2
 go_ret
 exact ⟨rfl, rfl⟩
set_option maxHeartbeats 400000 in
theorem uM (n : Int) (w : World) :
  Calls Tryz.prog 159 #[.int .i64 n] w fun e w' => e = .returned (.int .i64 (jg n)) ∧ w = w' := by
 go_enter Tryz.func159, Tryz.ntmps159
 go_wp2
 all_goals (go_ret; exact ⟨js (by unfold jg; omega), rfl⟩)
set_option maxHeartbeats 400000 in
theorem y8 (a b : Int) (w : World) :
  Calls Tryz.prog 118 #[.int .i64 a, .int .i64 b] w fun e w' => e = .returned (.int .i64 (jp a b)) ∧ w = w' := by
 have h1 := zI a
 have h2 := zI b
 have h3 := j5 h1.1 h1.2 h2.1 h2.2
 go_enter Tryz.func118, Tryz.ntmps118
 go_wp2_with (first | (go_at_call 159; refine (uM _ _).mono ?_; rintro e w' ⟨rfl, rfl⟩) | (go_at_call 120; refine (Qi _ _ _ (by omega) (by omega) (by omega) (by omega)).mono ?_; rintro e w' ⟨rfl, rfl⟩))
 go_ret
 exact ⟨rfl, rfl⟩
/- Contracts of the blend functions of package pixel (each closure and function of 'functions') and of the reference's: each returns what the plain function says, and leaves the world alone. -/
set_option maxHeartbeats 400000 in
theorem vK (b s : Int) (w : World) (hb0 : 0 ≤ b) (hb1 : b ≤ 255) (hs0 : 0 ≤ s) (hs1 : s ≤ 255) :
  Calls Tryz.prog 176 #[.int .i64 b, .int .i64 s] w fun e w' => e = .returned (.int .i64 (Jp b s)) ∧ w = w' := by
 have m1 := x5 b s
 go_enter Tryz.func176, Tryz.ntmps176
 go_wp2_with (first | (go_at_call 118; refine (y8 _ _ _).mono ?_; rintro e w' ⟨rfl, rfl⟩))
 go_ret
 exact ⟨rfl, rfl⟩
set_option maxHeartbeats 400000 in
theorem kV (b s : Int) (w : World) (hb0 : 0 ≤ b) (hb1 : b ≤ 255) (hs0 : 0 ≤ s) (hs1 : s ≤ 255) :
  Calls Tryz.prog 178 #[.int .i64 b, .int .i64 s] w fun e w' => e = .returned (.int .i64 (uX b s)) ∧ w = w' := by
 by_cases h : s < 128
 ·have e1 : uX b s = jp b (2 * s) := if_pos h
  rw [e1]; clear e1; go_enter Tryz.func178, Tryz.ntmps178
  go_wp2_with (first | (go_at_call 118; refine (y8 _ _ _).mono ?_; rintro e w' ⟨rfl, rfl⟩) | (go_at_call 176; refine (vK _ _ _ (by omega) (by omega) (by omega) (by omega)).mono ?_; rintro e w' ⟨rfl, rfl⟩))
  go_ret; exact ⟨rfl, rfl⟩
 ·have e1 : uX b s = Jp b (2 * s - 255) := if_neg h
  rw [e1]; clear e1; go_enter Tryz.func178, Tryz.ntmps178
  go_wp2_with (first | (go_at_call 118; refine (y8 _ _ _).mono ?_; rintro e w' ⟨rfl, rfl⟩) | (go_at_call 176; refine (vK _ _ _ (by omega) (by omega) (by omega) (by omega)).mono ?_; rintro e w' ⟨rfl, rfl⟩))
  go_ret; exact ⟨rfl, rfl⟩
set_option maxHeartbeats 400000 in
theorem zd1 (b s : Int) (w : World) (hb0 : 0 ≤ b) (hb1 : b ≤ 255) (hs0 : 0 ≤ s) (hs1 : s ≤ 255) :
  Calls Tryz.prog 181 #[.int .i64 b, .int .i64 s] w fun e w' => e = .returned (.int .i64 (vy b s)) ∧ w = w' := by
 by_cases h : b = 0
 ·subst h
  go_enter Tryz.func181, Tryz.ntmps181
  go_wp2; go_ret; exact ⟨rfl, rfl⟩
 ·have h' : (b == 0) = false := by simpa using h
  by_cases k : s = 255
  ·subst k
   have e1 : vy b 255 = 255 := by unfold vy; rw [if_neg h]; rfl
   rw [e1]; clear e1 h; go_enter Tryz.func181, Tryz.ntmps181
   go_wp2; go_ret; exact ⟨rfl, rfl⟩
  ·have k' : (s == 255) = false := by simpa using k
   have e1 : vy b s = min 255 (255 * b / (255 - s)) := by unfold vy; rw [if_neg h, if_neg k]
   have k2 : ¬ (255 - s = 0) := by omega
   have k3 : 0 ≤ 255 * b / (255 - s) ∧ 255 * b / (255 - s) ≤ 65025 := ⟨Int.ediv_nonneg (by omega) (by omega), Int.le_trans (Int.ediv_le_self _ (by omega)) (by omega)⟩; rw [e1]; clear e1 h k; go_enter Tryz.func181, Tryz.ntmps181
   go_wp2
   all_goals (go_ret; exact ⟨js (by omega), rfl⟩)
set_option maxHeartbeats 400000 in
theorem zfu (b s : Int) (w : World) (hb0 : 0 ≤ b) (hb1 : b ≤ 255) (hs0 : 0 ≤ s) (hs1 : s ≤ 255) :
  Calls Tryz.prog 182 #[.int .i64 b, .int .i64 s] w fun e w' => e = .returned (.int .i64 (uR b s)) ∧ w = w' := by
 by_cases h : b = 255
 ·subst h
  go_enter Tryz.func182, Tryz.ntmps182
  go_wp2; go_ret; exact ⟨rfl, rfl⟩
 ·have h' : (b == 255) = false := by simpa using h
  by_cases k : s = 0
  ·subst k
   have e1 : uR b 0 = 0 := by unfold uR; rw [if_neg h]; rfl
   rw [e1]; clear e1 h; go_enter Tryz.func182, Tryz.ntmps182
   go_wp2; go_ret; exact ⟨rfl, rfl⟩
  ·have k' : (s == 0) = false := by simpa using k
   have e1 : uR b s = 255 - min 255 (255 * (255 - b) / s) := by unfold uR; rw [if_neg h, if_neg k]
   have k3 : 0 ≤ 255 * (255 - b) / s ∧ 255 * (255 - b) / s ≤ 65025 := ⟨Int.ediv_nonneg (by omega) (by omega), Int.le_trans (Int.ediv_le_self _ (by omega)) (by omega)⟩; rw [e1]; clear e1 h; go_enter Tryz.func182, Tryz.ntmps182
   go_wp2
   all_goals (go_ret; exact ⟨js (by omega), rfl⟩)
set_option maxHeartbeats 400000 in
theorem zbT (b s : Int) (w : World) (hb0 : -255 ≤ b) (hb1 : b ≤ 255) (hs0 : -255 ≤ s) (hs1 : s ≤ 255) :
  Calls Tryz.prog 174 #[.int .i64 b, .int .i64 s] w fun e w' => e = .returned (.int .i64 (max (b - s) (s - b))) ∧ w = w' := by
 go_enter Tryz.func174, Tryz.ntmps174
 go_wp2
 all_goals (go_ret; exact ⟨js (by omega), rfl⟩)
set_option maxHeartbeats 400000 in
theorem Xz (b s : Int) (w : World) (hb0 : 0 ≤ b) (hb1 : b ≤ 255) (hs0 : 0 ≤ s) (hs1 : s ≤ 255) :
  Calls Tryz.prog 175 #[.int .i64 b, .int .i64 s] w fun e w' => e = .returned (.int .i64 (s)) ∧ w = w' := by
 go_enter Tryz.func175, Tryz.ntmps175
 go_wp2_with (first | (go_at_call 118; refine (y8 _ _ _).mono ?_; rintro e w' ⟨rfl, rfl⟩) | (go_at_call 176; refine (vK _ _ _ (by omega) (by omega) (by omega) (by omega)).mono ?_; rintro e w' ⟨rfl, rfl⟩) | (go_at_call 178; refine (kV _ _ _ (by omega) (by omega) (by omega) (by omega)).mono ?_; rintro e w' ⟨rfl, rfl⟩))
 all_goals (go_ret; exact ⟨js (by omega), rfl⟩)
set_option maxHeartbeats 400000 in
theorem zd2 (b s : Int) (w : World) (hb0 : 0 ≤ b) (hb1 : b ≤ 255) (hs0 : 0 ≤ s) (hs1 : s ≤ 255) :
  Calls Tryz.prog 177 #[.int .i64 b, .int .i64 s] w fun e w' => e = .returned (.int .i64 (uX s b)) ∧ w = w' := by
 go_enter Tryz.func177, Tryz.ntmps177
 go_wp2_with (first | (go_at_call 118; refine (y8 _ _ _).mono ?_; rintro e w' ⟨rfl, rfl⟩) | (go_at_call 176; refine (vK _ _ _ (by omega) (by omega) (by omega) (by omega)).mono ?_; rintro e w' ⟨rfl, rfl⟩) | (go_at_call 178; refine (kV _ _ _ (by omega) (by omega) (by omega) (by omega)).mono ?_; rintro e w' ⟨rfl, rfl⟩))
 all_goals (go_ret; exact ⟨js (by omega), rfl⟩)
set_option maxHeartbeats 400000 in
theorem zd3 (b s : Int) (w : World) (hb0 : 0 ≤ b) (hb1 : b ≤ 255) (hs0 : 0 ≤ s) (hs1 : s ≤ 255) :
  Calls Tryz.prog 179 #[.int .i64 b, .int .i64 s] w fun e w' => e = .returned (.int .i64 (min b s)) ∧ w = w' := by
 go_enter Tryz.func179, Tryz.ntmps179
 go_wp2_with (first | (go_at_call 118; refine (y8 _ _ _).mono ?_; rintro e w' ⟨rfl, rfl⟩) | (go_at_call 176; refine (vK _ _ _ (by omega) (by omega) (by omega) (by omega)).mono ?_; rintro e w' ⟨rfl, rfl⟩) | (go_at_call 178; refine (kV _ _ _ (by omega) (by omega) (by omega) (by omega)).mono ?_; rintro e w' ⟨rfl, rfl⟩))
 all_goals (go_ret; exact ⟨js (by omega), rfl⟩)
set_option maxHeartbeats 400000 in
theorem zd4 (b s : Int) (w : World) (hb0 : 0 ≤ b) (hb1 : b ≤ 255) (hs0 : 0 ≤ s) (hs1 : s ≤ 255) :
  Calls Tryz.prog 180 #[.int .i64 b, .int .i64 s] w fun e w' => e = .returned (.int .i64 (max b s)) ∧ w = w' := by
 go_enter Tryz.func180, Tryz.ntmps180
 go_wp2_with (first | (go_at_call 118; refine (y8 _ _ _).mono ?_; rintro e w' ⟨rfl, rfl⟩) | (go_at_call 176; refine (vK _ _ _ (by omega) (by omega) (by omega) (by omega)).mono ?_; rintro e w' ⟨rfl, rfl⟩) | (go_at_call 178; refine (kV _ _ _ (by omega) (by omega) (by omega) (by omega)).mono ?_; rintro e w' ⟨rfl, rfl⟩))
 all_goals (go_ret; exact ⟨js (by omega), rfl⟩)
set_option maxHeartbeats 400000 in
theorem zd5 (b s : Int) (w : World) (hb0 : 0 ≤ b) (hb1 : b ≤ 255) (hs0 : 0 ≤ s) (hs1 : s ≤ 255) :
  Calls Tryz.prog 183 #[.int .i64 b, .int .i64 s] w fun e w' => e = .returned (.int .i64 (Xf b s)) ∧ w = w' := by
 have m2 := x5 (255 - b) (jp b s)
 have m3 := Yj hb0 hb1 hs0 hs1
 have m4 := x5 b (Jp b s)
 go_enter Tryz.func183, Tryz.ntmps183
 go_wp2_with (first | (go_at_call 118; refine (y8 _ _ _).mono ?_; rintro e w' ⟨rfl, rfl⟩) | (go_at_call 176; refine (vK _ _ _ (by omega) (by omega) (by omega) (by omega)).mono ?_; rintro e w' ⟨rfl, rfl⟩) | (go_at_call 178; refine (kV _ _ _ (by omega) (by omega) (by omega) (by omega)).mono ?_; rintro e w' ⟨rfl, rfl⟩))
 all_goals (go_ret; exact ⟨js (by unfold Xf; omega), rfl⟩)
set_option maxHeartbeats 400000 in
theorem zbX (b s : Int) (w : World) (hb0 : 0 ≤ b) (hb1 : b ≤ 255) (hs0 : 0 ≤ s) (hs1 : s ≤ 255) :
  Calls Tryz.prog 184 #[.int .i64 b, .int .i64 s] w fun e w' => e = .returned (.int .i64 (max 0 (b + s - 2 * jp b s))) ∧ w = w' := by
 have m2 := x5 b s
 go_enter Tryz.func184, Tryz.ntmps184
 go_wp2_with (first | (go_at_call 118; refine (y8 _ _ _).mono ?_; rintro e w' ⟨rfl, rfl⟩) | (go_at_call 176; refine (vK _ _ _ (by omega) (by omega) (by omega) (by omega)).mono ?_; rintro e w' ⟨rfl, rfl⟩) | (go_at_call 178; refine (kV _ _ _ (by omega) (by omega) (by omega) (by omega)).mono ?_; rintro e w' ⟨rfl, rfl⟩))
 all_goals (go_ret; exact ⟨js (by omega), rfl⟩)
set_option maxHeartbeats 400000 in
theorem zbY (b s : Int) (w : World) (hb0 : 0 ≤ b) (hb1 : b ≤ 255) (hs0 : 0 ≤ s) (hs1 : s ≤ 255) :
  Calls Tryz.prog 185 #[.int .i64 b, .int .i64 s] w fun e w' => e = .returned (.int .i64 (min 255 (b + s))) ∧ w = w' := by
 go_enter Tryz.func185, Tryz.ntmps185
 go_wp2_with (first | (go_at_call 118; refine (y8 _ _ _).mono ?_; rintro e w' ⟨rfl, rfl⟩) | (go_at_call 176; refine (vK _ _ _ (by omega) (by omega) (by omega) (by omega)).mono ?_; rintro e w' ⟨rfl, rfl⟩) | (go_at_call 178; refine (kV _ _ _ (by omega) (by omega) (by omega) (by omega)).mono ?_; rintro e w' ⟨rfl, rfl⟩))
 all_goals (go_ret; exact ⟨js (by omega), rfl⟩)
set_option maxHeartbeats 400000 in
theorem zbZ (b s : Int) (w : World) (hb0 : 0 ≤ b) (hb1 : b ≤ 255) (hs0 : 0 ≤ s) (hs1 : s ≤ 255) :
  Calls Tryz.prog 186 #[.int .i64 b, .int .i64 s] w fun e w' => e = .returned (.int .i64 (max 0 (b - s))) ∧ w = w' := by
 go_enter Tryz.func186, Tryz.ntmps186
 go_wp2_with (first | (go_at_call 118; refine (y8 _ _ _).mono ?_; rintro e w' ⟨rfl, rfl⟩) | (go_at_call 176; refine (vK _ _ _ (by omega) (by omega) (by omega) (by omega)).mono ?_; rintro e w' ⟨rfl, rfl⟩) | (go_at_call 178; refine (kV _ _ _ (by omega) (by omega) (by omega) (by omega)).mono ?_; rintro e w' ⟨rfl, rfl⟩))
 all_goals (go_ret; exact ⟨js (by omega), rfl⟩)
set_option maxHeartbeats 400000 in
theorem zb0 (b s : Int) (w : World) (hb0 : 0 ≤ b) (hb1 : b ≤ 255) (hs0 : 0 ≤ s) (hs1 : s ≤ 255) :
  Calls Tryz.prog 187 #[.int .i64 b, .int .i64 s] w fun e w' => e = .returned (.int .i64 ((b + s + 1) / 2)) ∧ w = w' := by
 go_enter Tryz.func187, Tryz.ntmps187
 go_wp2_with (first | (go_at_call 118; refine (y8 _ _ _).mono ?_; rintro e w' ⟨rfl, rfl⟩) | (go_at_call 176; refine (vK _ _ _ (by omega) (by omega) (by omega) (by omega)).mono ?_; rintro e w' ⟨rfl, rfl⟩) | (go_at_call 178; refine (kV _ _ _ (by omega) (by omega) (by omega) (by omega)).mono ?_; rintro e w' ⟨rfl, rfl⟩))
 all_goals (go_ret; exact ⟨js (by omega), rfl⟩)
set_option maxHeartbeats 400000 in
theorem zb1 (b s : Int) (a : Addr) (w : World) (hb0 : 0 ≤ b) (hb1 : b ≤ 255) (hs0 : 0 ≤ s) (hs1 : s ≤ 255) (hc : w.cell? a = some (.func (.func 174) #[] #[])) :
  Calls Tryz.prog 188 #[.int .i64 b, .int .i64 s, .pointer (some a)] w fun e w' => e = .returned (.int .i64 (255 - max (255 - b - s) (s - (255 - b)))) ∧ w = w' := by
 go_enter Tryz.func188, Tryz.ntmps188
 go_wp2_with (first | (go_at_call 174; refine (zbT _ _ _ (by omega) (by omega) (by omega) (by omega)).mono ?_; rintro e w' ⟨rfl, rfl⟩))
 all_goals (go_ret; exact ⟨js (by omega), rfl⟩)
/- Contracts of 'functions' and 'Blend' of package pixel and of the reference's Blend. -/
/-- What 'functions' hands back: the function values, the sixteenth one holding a pointer to the closure 'distance'. -/
def vU (b : Nat) : Value := .agg #[.func (.func 175) #[] #[], .func (.func 118) #[] #[], .func (.func 176) #[] #[], .func (.func 177) #[] #[],
 .func (.func 179) #[] #[], .func (.func 180) #[] #[], .func (.func 181) #[] #[], .func (.func 182) #[] #[],
 .func (.func 178) #[] #[], .func (.func 183) #[] #[], .func (.func 174) #[] #[], .func (.func 184) #[] #[],
 .func (.func 185) #[] #[], .func (.func 186) #[] #[], .func (.func 187) #[] #[], .func (.func 188) #[] #[.pointer (some ⟨b, 0, none⟩)]]
set_option maxHeartbeats 400000 in
theorem kK (w : World) :
  Calls Tryz.prog 161 #[] w fun e w' => e = .returned (vU (w.heap.size + 1)) ∧ w'.cell? ⟨w.heap.size + 1, 0, none⟩ = some (.func (.func 174) #[] #[]) ∧ Below w.heap.size w w' := by
 go_enter Tryz.func161, Tryz.ntmps161
 go_wp2
 go_returns
 exact ⟨rfl, by simp [go_sem], by go_grown⟩
/- Contracts of Blend of package pixel. -/
theorem ja (b : Nat) (w : World) :
  (Instr.index 191 (vU b) (.int .i64 0)).run Tryz.prog w = .ok (.func (.func 175) #[] #[]) w
  ∧ (Instr.index 191 (vU b) (.int .i64 1)).run Tryz.prog w = .ok (.func (.func 118) #[] #[]) w
  ∧ (Instr.index 191 (vU b) (.int .i64 2)).run Tryz.prog w = .ok (.func (.func 176) #[] #[]) w
  ∧ (Instr.index 191 (vU b) (.int .i64 3)).run Tryz.prog w = .ok (.func (.func 177) #[] #[]) w
  ∧ (Instr.index 191 (vU b) (.int .i64 4)).run Tryz.prog w = .ok (.func (.func 179) #[] #[]) w
  ∧ (Instr.index 191 (vU b) (.int .i64 5)).run Tryz.prog w = .ok (.func (.func 180) #[] #[]) w
  ∧ (Instr.index 191 (vU b) (.int .i64 6)).run Tryz.prog w = .ok (.func (.func 181) #[] #[]) w
  ∧ (Instr.index 191 (vU b) (.int .i64 7)).run Tryz.prog w = .ok (.func (.func 182) #[] #[]) w
  ∧ (Instr.index 191 (vU b) (.int .i64 8)).run Tryz.prog w = .ok (.func (.func 178) #[] #[]) w
  ∧ (Instr.index 191 (vU b) (.int .i64 9)).run Tryz.prog w = .ok (.func (.func 183) #[] #[]) w
  ∧ (Instr.index 191 (vU b) (.int .i64 10)).run Tryz.prog w = .ok (.func (.func 174) #[] #[]) w
  ∧ (Instr.index 191 (vU b) (.int .i64 11)).run Tryz.prog w = .ok (.func (.func 184) #[] #[]) w
  ∧ (Instr.index 191 (vU b) (.int .i64 12)).run Tryz.prog w = .ok (.func (.func 185) #[] #[]) w
  ∧ (Instr.index 191 (vU b) (.int .i64 13)).run Tryz.prog w = .ok (.func (.func 186) #[] #[]) w
  ∧ (Instr.index 191 (vU b) (.int .i64 14)).run Tryz.prog w = .ok (.func (.func 187) #[] #[]) w
  ∧ (Instr.index 191 (vU b) (.int .i64 15)).run Tryz.prog w = .ok (.func (.func 188) #[] #[.pointer (some ⟨b, 0, none⟩)]) w
  := by
 refine ⟨?_, ?_, ?_, ?_, ?_, ?_, ?_, ?_, ?_, ?_, ?_, ?_, ?_, ?_, ?_, ?_⟩ <;> kernel_rfl
set_option maxHeartbeats 1000000 in
/-- All modes but the last: whatever function of no captured variables the table holds. -/
theorem jf (m b s v : Int) (F : Nat) (w : World) (hm : ¬ m < 0) (hm' : m < 16)
  (hix : ∀ wx, (Instr.index 191 (vU (w.heap.size + 1)) (.int .i64 m)).run Tryz.prog wx = .ok (.func (.func F) #[] #[]) wx)
  (hcf : ∀ (args : Array Value) (wx : World), (callFunc F args).run Tryz.prog wx = .ok (.enter F args) wx)
  (hF : ∀ wx, Calls Tryz.prog F #[.int .i64 (jg b), .int .i64 (jg s)] wx fun e w' => e = .returned (.int .i64 v) ∧ wx = w') :
  Calls Tryz.prog 122 #[.int .i64 m, .int .i64 b, .int .i64 s] w fun e w' => e = .returned (.int .i64 v) ∧ Below w.heap.size w w' := by
 have h1 := zI b
 have h2 := zI s
 have HF := Lib.hid hF
 clear hF
 go_enter Tryz.func122, Tryz.ntmps122
 go_wp2
 go_region_with (first | (go_at_call 159; refine (uM _ _).mono ?_; rintro e w' ⟨rfl, rfl⟩) | (go_at_call 161; refine (kK _).mono ?_; rintro e w1 ⟨rfl, hc1, hb1⟩) | (refine (HF.out _).mono ?_; rintro e w' ⟨rfl, rfl⟩))
 all_goals (go_wp2; go_ret; exact ⟨rfl, yT hb1⟩)
theorem zbv (b s : Int) (w : World) :
  Calls Tryz.prog 122 #[.int .i64 0, .int .i64 b, .int .i64 s] w fun e w' => e = .returned (.int .i64 (jo 0 b s)) ∧ Below w.heap.size w w' := by
 have h1 := zI b
 have h2 := zI s
 exact jf 0 b s _ 175 w (by omega) (by omega) (fun wx => (ja (w.heap.size + 1) wx).1) (fun _ _ => by kernel_rfl) (fun wx => Xz _ _ _ (by omega) (by omega) (by omega) (by omega))
theorem zbw (b s : Int) (w : World) :
  Calls Tryz.prog 122 #[.int .i64 1, .int .i64 b, .int .i64 s] w fun e w' => e = .returned (.int .i64 (jo 1 b s)) ∧ Below w.heap.size w w' := by
 have h1 := zI b
 have h2 := zI s
 exact jf 1 b s _ 118 w (by omega) (by omega) (fun wx => (ja (w.heap.size + 1) wx).2.1) (fun _ _ => by kernel_rfl) (fun wx => y8 _ _ _)
theorem zbx (b s : Int) (w : World) :
  Calls Tryz.prog 122 #[.int .i64 2, .int .i64 b, .int .i64 s] w fun e w' => e = .returned (.int .i64 (jo 2 b s)) ∧ Below w.heap.size w w' := by
 have h1 := zI b
 have h2 := zI s
 exact jf 2 b s _ 176 w (by omega) (by omega) (fun wx => (ja (w.heap.size + 1) wx).2.2.1) (fun _ _ => by kernel_rfl) (fun wx => vK _ _ _ (by omega) (by omega) (by omega) (by omega))
theorem zby (b s : Int) (w : World) :
  Calls Tryz.prog 122 #[.int .i64 3, .int .i64 b, .int .i64 s] w fun e w' => e = .returned (.int .i64 (jo 3 b s)) ∧ Below w.heap.size w w' := by
 have h1 := zI b
 have h2 := zI s
 exact jf 3 b s _ 177 w (by omega) (by omega) (fun wx => (ja (w.heap.size + 1) wx).2.2.2.1) (fun _ _ => by kernel_rfl) (fun wx => zd2 _ _ _ (by omega) (by omega) (by omega) (by omega))
theorem zbz (b s : Int) (w : World) :
  Calls Tryz.prog 122 #[.int .i64 4, .int .i64 b, .int .i64 s] w fun e w' => e = .returned (.int .i64 (jo 4 b s)) ∧ Below w.heap.size w w' := by
 have h1 := zI b
 have h2 := zI s
 exact jf 4 b s _ 179 w (by omega) (by omega) (fun wx => (ja (w.heap.size + 1) wx).2.2.2.2.1) (fun _ _ => by kernel_rfl) (fun wx => zd3 _ _ _ (by omega) (by omega) (by omega) (by omega))
theorem zbA (b s : Int) (w : World) :
  Calls Tryz.prog 122 #[.int .i64 5, .int .i64 b, .int .i64 s] w fun e w' => e = .returned (.int .i64 (jo 5 b s)) ∧ Below w.heap.size w w' := by
 have h1 := zI b
 have h2 := zI s
 exact jf 5 b s _ 180 w (by omega) (by omega) (fun wx => (ja (w.heap.size + 1) wx).2.2.2.2.2.1) (fun _ _ => by kernel_rfl) (fun wx => zd4 _ _ _ (by omega) (by omega) (by omega) (by omega))
theorem zbB (b s : Int) (w : World) :
  Calls Tryz.prog 122 #[.int .i64 6, .int .i64 b, .int .i64 s] w fun e w' => e = .returned (.int .i64 (jo 6 b s)) ∧ Below w.heap.size w w' := by
 have h1 := zI b
 have h2 := zI s
 exact jf 6 b s _ 181 w (by omega) (by omega) (fun wx => (ja (w.heap.size + 1) wx).2.2.2.2.2.2.1) (fun _ _ => by kernel_rfl) (fun wx => zd1 _ _ _ (by omega) (by omega) (by omega) (by omega))
theorem zbC (b s : Int) (w : World) :
  Calls Tryz.prog 122 #[.int .i64 7, .int .i64 b, .int .i64 s] w fun e w' => e = .returned (.int .i64 (jo 7 b s)) ∧ Below w.heap.size w w' := by
 have h1 := zI b
 have h2 := zI s
 exact jf 7 b s _ 182 w (by omega) (by omega) (fun wx => (ja (w.heap.size + 1) wx).2.2.2.2.2.2.2.1) (fun _ _ => by kernel_rfl) (fun wx => zfu _ _ _ (by omega) (by omega) (by omega) (by omega))
theorem zbD (b s : Int) (w : World) :
  Calls Tryz.prog 122 #[.int .i64 8, .int .i64 b, .int .i64 s] w fun e w' => e = .returned (.int .i64 (jo 8 b s)) ∧ Below w.heap.size w w' := by
 have h1 := zI b
 have h2 := zI s
 exact jf 8 b s _ 178 w (by omega) (by omega) (fun wx => (ja (w.heap.size + 1) wx).2.2.2.2.2.2.2.2.1) (fun _ _ => by kernel_rfl) (fun wx => kV _ _ _ (by omega) (by omega) (by omega) (by omega))
theorem zbE (b s : Int) (w : World) :
  Calls Tryz.prog 122 #[.int .i64 9, .int .i64 b, .int .i64 s] w fun e w' => e = .returned (.int .i64 (jo 9 b s)) ∧ Below w.heap.size w w' := by
 have h1 := zI b
 have h2 := zI s
 exact jf 9 b s _ 183 w (by omega) (by omega) (fun wx => (ja (w.heap.size + 1) wx).2.2.2.2.2.2.2.2.2.1) (fun _ _ => by kernel_rfl) (fun wx => zd5 _ _ _ (by omega) (by omega) (by omega) (by omega))
theorem zah (b s : Int) (w : World) :
  Calls Tryz.prog 122 #[.int .i64 10, .int .i64 b, .int .i64 s] w fun e w' => e = .returned (.int .i64 (jo 10 b s)) ∧ Below w.heap.size w w' := by
 have h1 := zI b
 have h2 := zI s
 exact jf 10 b s _ 174 w (by omega) (by omega) (fun wx => (ja (w.heap.size + 1) wx).2.2.2.2.2.2.2.2.2.2.1) (fun _ _ => by kernel_rfl) (fun wx => zbT _ _ _ (by omega) (by omega) (by omega) (by omega))
theorem zai (b s : Int) (w : World) :
  Calls Tryz.prog 122 #[.int .i64 11, .int .i64 b, .int .i64 s] w fun e w' => e = .returned (.int .i64 (jo 11 b s)) ∧ Below w.heap.size w w' := by
 have h1 := zI b
 have h2 := zI s
 exact jf 11 b s _ 184 w (by omega) (by omega) (fun wx => (ja (w.heap.size + 1) wx).2.2.2.2.2.2.2.2.2.2.2.1) (fun _ _ => by kernel_rfl) (fun wx => zbX _ _ _ (by omega) (by omega) (by omega) (by omega))
theorem zaj (b s : Int) (w : World) :
  Calls Tryz.prog 122 #[.int .i64 12, .int .i64 b, .int .i64 s] w fun e w' => e = .returned (.int .i64 (jo 12 b s)) ∧ Below w.heap.size w w' := by
 have h1 := zI b
 have h2 := zI s
 exact jf 12 b s _ 185 w (by omega) (by omega) (fun wx => (ja (w.heap.size + 1) wx).2.2.2.2.2.2.2.2.2.2.2.2.1) (fun _ _ => by kernel_rfl) (fun wx => zbY _ _ _ (by omega) (by omega) (by omega) (by omega))
theorem zak (b s : Int) (w : World) :
  Calls Tryz.prog 122 #[.int .i64 13, .int .i64 b, .int .i64 s] w fun e w' => e = .returned (.int .i64 (jo 13 b s)) ∧ Below w.heap.size w w' := by
 have h1 := zI b
 have h2 := zI s
 exact jf 13 b s _ 186 w (by omega) (by omega) (fun wx => (ja (w.heap.size + 1) wx).2.2.2.2.2.2.2.2.2.2.2.2.2.1) (fun _ _ => by kernel_rfl) (fun wx => zbZ _ _ _ (by omega) (by omega) (by omega) (by omega))
theorem zal (b s : Int) (w : World) :
  Calls Tryz.prog 122 #[.int .i64 14, .int .i64 b, .int .i64 s] w fun e w' => e = .returned (.int .i64 (jo 14 b s)) ∧ Below w.heap.size w w' := by
 have h1 := zI b
 have h2 := zI s
 exact jf 14 b s _ 187 w (by omega) (by omega) (fun wx => (ja (w.heap.size + 1) wx).2.2.2.2.2.2.2.2.2.2.2.2.2.2.1) (fun _ _ => by kernel_rfl) (fun wx => zb0 _ _ _ (by omega) (by omega) (by omega) (by omega))
set_option maxHeartbeats 400000 in
theorem zam (b s : Int) (w : World) :
  Calls Tryz.prog 122 #[.int .i64 15, .int .i64 b, .int .i64 s] w fun e w' => e = .returned (.int .i64 (jo 15 b s)) ∧ Below w.heap.size w w' := by
 have h1 := zI b
 have h2 := zI s
 have hix := fun wx => (ja (w.heap.size + 1) wx).2.2.2.2.2.2.2.2.2.2.2.2.2.2.2
 go_enter Tryz.func122, Tryz.ntmps122
 go_wp2
 go_region_with (first | (go_at_call 159; refine (uM _ _).mono ?_; rintro e w' ⟨rfl, rfl⟩) | (go_at_call 161; refine (kK _).mono ?_; rintro e w1 ⟨rfl, hc1, hb1⟩) | (go_at_call 188; refine (zb1 _ _ _ _ (by omega) (by omega) (by omega) (by omega) (by assumption)).mono ?_; rintro e w' ⟨rfl, rfl⟩))
 all_goals (go_wp2; go_ret; exact ⟨rfl, yT hb1⟩)
set_option maxHeartbeats 1000000 in
theorem Xs (m b s : Int) (w : World) (hm : m < 0) :
  Calls Tryz.prog 122 #[.int .i64 m, .int .i64 b, .int .i64 s] w fun e w' => e = .returned (.int .i64 (jo m b s)) ∧ Below w.heap.size w w' := by
 have h1 := zI b
 have h2 := zI s
 have e1 : jo m b s = jg s := by
  unfold jo J6; repeat (rw [if_neg (by omega)])
 rw [e1]; clear e1
 have hix := fun wx => (ja (w.heap.size + 1) wx).1
 have hF : ∀ wx, Calls Tryz.prog 175 #[.int .i64 (jg b), .int .i64 (jg s)] wx fun e w' => e = .returned (.int .i64 (jg s)) ∧ wx = w' := fun wx => Xz _ _ _ (by omega) (by omega) (by omega) (by omega)
 have HF := Lib.hid hF
 clear hF
 go_enter Tryz.func122, Tryz.ntmps122
 go_wp2
 go_region_with (first | (go_at_call 159; refine (uM _ _).mono ?_; rintro e w' ⟨rfl, rfl⟩) | (go_at_call 161; refine (kK _).mono ?_; rintro e w1 ⟨rfl, hc1, hb1⟩) | (refine (HF.out _).mono ?_; rintro e w' ⟨rfl, rfl⟩))
 all_goals (go_wp2; go_ret; exact ⟨rfl, yT hb1⟩)
set_option maxHeartbeats 1000000 in
theorem Xt (m b s : Int) (w : World) (hm : 16 ≤ m) :
  Calls Tryz.prog 122 #[.int .i64 m, .int .i64 b, .int .i64 s] w fun e w' => e = .returned (.int .i64 (jo m b s)) ∧ Below w.heap.size w w' := by
 have h1 := zI b
 have h2 := zI s
 have e1 : jo m b s = jg s := by
  unfold jo J6; repeat (rw [if_neg (by omega)])
 rw [e1]; clear e1
 have hix := fun wx => (ja (w.heap.size + 1) wx).1
 have hF : ∀ wx, Calls Tryz.prog 175 #[.int .i64 (jg b), .int .i64 (jg s)] wx fun e w' => e = .returned (.int .i64 (jg s)) ∧ wx = w' := fun wx => Xz _ _ _ (by omega) (by omega) (by omega) (by omega)
 have HF := Lib.hid hF
 clear hF
 have hm2 : ¬ m < 0 := by omega
 go_enter Tryz.func122, Tryz.ntmps122
 go_wp2
 go_region_with (first | (go_at_call 159; refine (uM _ _).mono ?_; rintro e w' ⟨rfl, rfl⟩) | (go_at_call 161; refine (kK _).mono ?_; rintro e w1 ⟨rfl, hc1, hb1⟩) | (refine (HF.out _).mono ?_; rintro e w' ⟨rfl, rfl⟩))
 all_goals (go_wp2; go_ret; exact ⟨rfl, yT hb1⟩)
theorem zdP (m b s : Int) (w : World) :
  Calls Tryz.prog 122 #[.int .i64 m, .int .i64 b, .int .i64 s] w fun e w' => e = .returned (.int .i64 (jo m b s)) ∧ Below w.heap.size w w' := by
 by_cases hm : m < 0 ∨ 16 ≤ m
 ·rcases hm with hm | hm
  ·exact Xs m b s w hm
  ·exact Xt m b s w hm
 ·have hc : m = 0 ∨ m = 1 ∨ m = 2 ∨ m = 3 ∨ m = 4 ∨ m = 5 ∨ m = 6 ∨ m = 7 ∨ m = 8 ∨ m = 9 ∨ m = 10 ∨ m = 11 ∨ m = 12 ∨ m = 13 ∨ m = 14 ∨ m = 15 := by omega
  rcases hc with rfl | rfl | rfl | rfl | rfl | rfl | rfl | rfl | rfl | rfl | rfl | rfl | rfl | rfl | rfl | rfl
  ·exact zbv b s w
  ·exact zbw b s w
  ·exact zbx b s w
  ·exact zby b s w
  ·exact zbz b s w
  ·exact zbA b s w
  ·exact zbB b s w
  ·exact zbC b s w
  ·exact zbD b s w
  ·exact zbE b s w
  ·exact zah b s w
  ·exact zai b s w
  ·exact zaj b s w
  ·exact zak b s w
  ·exact zal b s w
  ·exact zam b s w
/- Contracts of the closures of package pixel, of 'channels', Clean, Fade, and of the reference's. -/
def Px.v (p : Px) : Value := .agg #[.int .u8 p.r, .int .u8 p.g, .int .u8 p.b, .int .u8 p.a]
/-- A function value of two ints: what it does from the world w0 on. -/
def Clo (F : Nat) (caps : Array Value) (φ : Int → Int → Int) (w0 : World) : Prop :=
 ∀ (x y : Int) (wx : World), Below w0.heap.size w0 wx → 0 ≤ x → x ≤ 255 → 0 ≤ y → y ≤ 255 →
  Calls Tryz.prog F (#[.int .i64 x, .int .i64 y] ++ caps) wx fun e w' => e = .returned (.int .i64 (φ x y)) ∧ Below wx.heap.size wx w'
set_option maxHeartbeats 400000 in
theorem zdS (m u v W b s : Int) (au av am aw : Nat) (w : World) (hu0 : 0 ≤ u) (hu1 : u ≤ 255) (hv0 : 0 ≤ v) (hv1 : v ≤ 255) (hb0 : 0 ≤ b) (hb1 : b ≤ 255) (hs0 : 0 ≤ s) (hs1 : s ≤ 255)
  (hW0 : W = yx u v) (hW1 : 1 ≤ W) (lu : au < w.heap.size) (lv : av < w.heap.size) (lm : am < w.heap.size) (lw : aw < w.heap.size)
  (cu : w.cell? ⟨au, 0, none⟩ = some (.int .i64 u)) (cv : w.cell? ⟨av, 0, none⟩ = some (.int .i64 v)) (cm : w.cell? ⟨am, 0, none⟩ = some (.int .i64 m)) (cw : w.cell? ⟨aw, 0, none⟩ = some (.int .i64 W)) :
  Calls Tryz.prog 121 #[.int .i64 b, .int .i64 s, .pointer (some ⟨au, 0, none⟩), .pointer (some ⟨av, 0, none⟩), .pointer (some ⟨am, 0, none⟩), .pointer (some ⟨aw, 0, none⟩)] w
   fun e w' => e = .returned (.int .i64 (kR m u v b s)) ∧ Below w.heap.size w w' := by
 have hx := JW m b s
 have w1 : 0 ≤ u * (255 - v) := Int.mul_nonneg hu0 (by omega)
 have w2 : 0 ≤ u * v := Int.mul_nonneg hu0 hv0
 have w3 : 0 ≤ (255 - u) * v := Int.mul_nonneg (by omega) hv0
 have a1 := Int.mul_nonneg w1 hs0
 have a2 := Int.mul_nonneg w2 hx.1
 have a3 := Int.mul_nonneg w3 hb0
 have d1 := Int.mul_le_mul_of_nonneg_left hs1 w1
 have d2 := Int.mul_le_mul_of_nonneg_left hx.2 w2
 have d3 := Int.mul_le_mul_of_nonneg_left hb1 w3
 have e := Ko u v
 have k := u4 hu0 hu1 hv0 hv1
 have hfin : qm (u * (255 - v) * s + u * v * jo m b s + (255 - u) * v * b) W = kR m u v b s := by rw [hW0]; rfl
 have Hfin := Lib.hid hfin
 have k2 : W ≤ 65025 := by omega
 have k3 : u * (255 - v) ≤ 65025 := by omega
 have k4 : u * v ≤ 65025 := by omega
 have k5 : (255 - u) * v ≤ 65025 := by omega
 clear hfin e hW0
 go_enter Tryz.func121, Tryz.ntmps121
 go_wp2
 refine zA (by kernel_rfl) (by kernel_rfl) ?_
 repeat (go_big_quiet_step ((first | (go_at_call 122; exact zC (zdP _ _ _ _)) | (go_at_call 120; exact xV (Qi _ _ _ (by omega) (by omega) (by omega) (by omega))))))
 refine wpQuiet_nil ?_
 intro w1 hb1
 obtain ⟨hc1, hf1⟩ := Wo hb1
 have hs1 := hb1.size
 try simp only [World.size_alloc, World.size_setCell, World.size_drew] at hs1
 have hbb1 := hb1.mono (B' := w.heap.size) (by first | omega | (simp only [World.size_alloc, World.size_setCell, World.size_drew]; omega))
 go_wp2
 go_ret
 exact ⟨js Hfin.out, hb1⟩
set_option maxHeartbeats 400000 in
/-- The closure of 'channels': the function of two bytes made of a function of two ints. -/
theorem zdZ (x y z : Int) (F a : Nat) (caps : Array Value) (w : World) (hx0 : 0 ≤ x) (hx1 : x ≤ 255) (hy0 : 0 ≤ y) (hy1 : y ≤ 255) (hz0 : 0 ≤ z) (hz1 : z ≤ 255)
  (hcf : ∀ (args : Array Value) (wx : World), (callFunc F args).run Tryz.prog wx = .ok (.enter F args) wx)
  (hF : Calls Tryz.prog F (#[.int .i64 x, .int .i64 y] ++ caps) w fun e w' => e = .returned (.int .i64 z) ∧ Below w.heap.size w w')
  (hc : w.cell? ⟨a, 0, none⟩ = some (.func (.func F) #[] caps)) :
  Calls Tryz.prog 160 #[.int .u8 x, .int .u8 y, .pointer (some ⟨a, 0, none⟩)] w fun e w' => e = .returned (.int .u8 z) ∧ Below w.heap.size w w' := by
 have HF := Lib.hid hF
 clear hF
 go_enter Tryz.func160, Tryz.ntmps160
 go_wp2_with (first | (refine HF.out.mono ?_; rintro e w1 ⟨rfl, hb1⟩))
 go_ret
 exact ⟨rfl, hb1⟩
end Go.Proofs.YtepelndbbhdofaaGreatDoor
/- How this seat's arguments are opened: pixels, pairs of integers. -/
namespace Go.Proofs.YtepelndbbhdofaaGreatDoor
open Go.ChangeShapes Go.WideShapes Go.ChangeAt Go.RowKit Pl
set_option linter.unusedVariables false
set_option linter.unusedSimpArgs false
set_option maxRecDepth 20000
theorem own : ownKnob Tryz.prog.godebug = none := by kernel_rfl
theorem XQ : laidOutB Tryz.prog = true := by kernel_rfl
section
variable {H : Type} {enc : TypeId × Value → H} {w : World} {base : Nat} {spare : Nat → Bool} {held : Bool}
theorem XY {P : Program} {r : Reach} {t e : TypeId} {n b0 : Nat} {v : Value} (ht : P.underlying t = some (.array n e)) (h : Value.okWide P w r b0 t v) : ∃ cs, v = .agg cs ∧ cs.size = P.cellsOf t := by
 simp only [Value.okWide, ht] at h
 obtain ⟨cs, h1, h2, _⟩ := h
 exact ⟨cs, h1, h2⟩
theorem zaT {r : Reach} {b0 : Nat} {v : Value} {d : DataW H} {p : List MemPlace} (hv : Value.okWide Tryz.prog w r b0 61 v)
  (h : DataW.Trod enc Tryz.prog w base spare held 61 v d p) : ∃ x y : Int, v = .agg #[.int .i64 x, .int .i64 y] ∧ (Lit.int .i64 x).wf = true ∧ (Lit.int .i64 y).wf = true := by
 obtain ⟨cs, rfl, zf⟩ := XY Tryz.underlying61 hv
 obtain ⟨fuel, hf⟩ := h
 have hC : Tryz.prog.cellsOf 3 = 1 := by kernel_rfl
 have hC2 : Tryz.prog.cellsOf 61 = 2 := by kernel_rfl
 rw [hC2] at zf
 obtain ⟨xs, m, _, _, _, _, hx⟩ := DataW.trod_array Tryz.underlying61 hf
 obtain ⟨l, rfl⟩ : ∃ l : List Value, cs = l.toArray := ⟨cs.toList, by simp⟩
 match l, (by simpa using zf : l.length = 2) with
 | [c0, c1], _ =>
  have h0 := hx 0 (by omega); have h1 := hx 1 (by omega); simp only [hC, Value.cells] at h0 h1
  match xs, h0, h1 with
  | [x0, x1], h0, h1 =>
   obtain ⟨a, ea, _, wa⟩ := DataW.trod_int Tryz.underlying3 (x := x0) (by simpa using h0); obtain ⟨b, eb, _, wb⟩ := DataW.trod_int Tryz.underlying3 (x := x1) (by simpa using h1); simp at ea eb
   exact ⟨a, b, by rw [ea, eb], wa, wb⟩
end
end Go.Proofs.YtepelndbbhdofaaGreatDoor
/- Plain: tiles as functions from indexes to pixels, and their cells. -/
namespace Go.Proofs.YtepelndbbhdofaaGreatDoor
open Go.RowKit Pl
set_option linter.unusedVariables false
set_option linter.unusedSimpArgs false
set_option maxRecDepth 20000
/-- The cell number j (0 to 3) of a pixel. -/
def pxC (p : Px) (j : Nat) : Value := if j = 0 then .int .u8 p.r else if j = 1 then .int .u8 p.g else if j = 2 then .int .u8 p.b else .int .u8 p.a
/-- The 256 cells of a tile. -/
def qT (f : Nat → Px) : Array Value := Array.ofFn (n := 256) fun k => pxC (f (k.val / 4)) (k.val % 4)
def Tile.v (f : Nat → Px) : Value := .agg (qT f)
def Qc (f : Nat → Px) (i : Nat) (p : Px) : Nat → Px := fun j => if j = i then p else f j
theorem jN (f : Nat → Px) : (qT f).size = 256 := by unfold qT; simp
theorem yN (f : Nat → Px) (k : Nat) : (qT f)[k]? = if k < 256 then some (pxC (f (k / 4)) (k % 4)) else none := by
 unfold qT
 rw [Array.getElem?_ofFn]
 split <;> rfl
theorem xY (f : Nat → Px) (i j : Nat) (hi : i < 64) (hj : j < 4) : (qT f)[i * 4 + j]? = some (pxC (f i) j) := by
 rw [yN, if_pos (by omega), show (i * 4 + j) / 4 = i by omega, show (i * 4 + j) % 4 = j by omega]
theorem Z4 {f g : Nat → Px} (h : ∀ i, i < 64 → f i = g i) : qT f = qT g := by
 apply Array.ext_getElem?
 intro k
 rw [yN, yN]
 split
 ·rw [h _ (by omega)]
 ·rfl
theorem zbg {f g : Nat → Px} (h : qT f = qT g) : ∀ i, i < 64 → f i = g i := by
 intro i hi
 have k : ∀ j, j < 4 → pxC (f i) j = pxC (g i) j := fun j hj => by
  have := congrArg (fun a : Array Value => a[i * 4 + j]?) h; simp only [xY _ i j hi hj] at this; exact Option.some.inj this
 have k0 := k 0 (by omega)
 have k1 := k 1 (by omega)
 have k2 := k 2 (by omega)
 have k3 := k 3 (by omega)
 simp [pxC] at k0 k1 k2 k3
 cases hf : f i
 cases hg : g i
 rw [hf, hg] at k0 k1 k2 k3
 simp at k0 k1 k2 k3
 rw [k0, k1, k2, k3]
/-- Four cells written: one pixel replaced. -/
theorem Xd (f : Nat → Px) (i : Nat) (p : Px) (hi : i < 64) :
  ((((qT f).setIfInBounds (i * 4) (.int .u8 p.r)).setIfInBounds (i * 4 + 1) (.int .u8 p.g)).setIfInBounds (i * 4 + 2) (.int .u8 p.b)).setIfInBounds (i * 4 + 3) (.int .u8 p.a) = qT (Qc f i p) := by
 apply Array.ext_getElem?
 intro k
 simp only [Array.getElem?_setIfInBounds, Array.size_setIfInBounds, jN, yN]
 by_cases hk : k < 256
 ·simp only [hk, if_true]
  by_cases h : k / 4 = i
  ·have hm : k = i * 4 + k % 4 := by omega
   have h4 : k % 4 < 4 := by omega
   have hu : Qc f i p (k / 4) = p := by unfold Qc; rw [if_pos h]
   rw [hu]; have hc : k % 4 = 0 ∨ k % 4 = 1 ∨ k % 4 = 2 ∨ k % 4 = 3 := by omega
   rcases hc with hc | hc | hc | hc
   ·rw [if_neg (by omega), if_neg (by omega), if_neg (by omega), if_pos (by omega), if_pos (by omega), hc]; rfl
   ·rw [if_neg (by omega), if_neg (by omega), if_pos (by omega), if_pos (by omega), hc]; rfl
   ·rw [if_neg (by omega), if_pos (by omega), if_pos (by omega), hc]; rfl
   ·rw [if_pos (by omega), if_pos (by omega), hc]; rfl
  ·have hu : Qc f i p (k / 4) = f (k / 4) := by unfold Qc; rw [if_neg h]
   rw [hu, if_neg (by omega), if_neg (by omega), if_neg (by omega), if_neg (by omega)]
 ·rw [if_neg (by omega), if_neg (by omega), if_neg (by omega), if_neg (by omega), if_neg hk, if_neg hk]
theorem uw (f : Nat → Px) : (Tile.v f).cells = qT f := by simp only [Tile.v, Value.cells]
attribute [irreducible] qT
/-- The block b holds a tile. -/
def zX (w : World) (b : Nat) (f : Nat → Px) : Prop := w.heap[b]? = some (.cells (qT f) 123 (0, 0))
theorem zX.of_eq {w w' : World} {b : Nat} {f : Nat → Px} (h : zX w b f) (e : w'.heap[b]? = w.heap[b]?) : zX w' b f := e.trans h
theorem zX.lt {w : World} {b : Nat} {f : Nat → Px} (h : zX w b f) : b < w.heap.size := (Array.getElem?_eq_some_iff.1 h).1
theorem zX.below {w w' : World} {b : Nat} {f : Nat → Px} (h : zX w b f) (e : Below w.heap.size w w') : zX w' b f := h.of_eq (e.block _ h.lt)
theorem zX.cg {w w' : World} {b : Nat} {f : Nat → Px} (h : zX w b f) {zc : Nat} (e : qV zc w w') (hn : b ≠ zc := by omega) : zX w' b f := h.of_eq (e.block _ h.lt hn)
/-- Its cells. -/
theorem zX.cells {w : World} {b : Nat} {f : Nat → Px} (h : zX w b f) {i : Nat} (hi : i < 64) :
  w.cell? ⟨b, i * 4, none⟩ = some (.int .u8 (f i).r) ∧ w.cell? ⟨b, i * 4 + 1, none⟩ = some (.int .u8 (f i).g) ∧ w.cell? ⟨b, i * 4 + 2, none⟩ = some (.int .u8 (f i).b) ∧ w.cell? ⟨b, i * 4 + 3, none⟩ = some (.int .u8 (f i).a) := by
 obtain ⟨hc, _⟩ := ql h
 refine ⟨?_, ?_, ?_, ?_⟩
 ·have := (hc (i * 4 + 0)).trans (xY f i 0 hi (by omega)); exact this
 ·exact (hc _).trans (xY f i 1 hi (by omega))
 ·exact (hc _).trans (xY f i 2 hi (by omega))
 ·exact (hc _).trans (xY f i 3 hi (by omega))
theorem zX.frozen {w : World} {b : Nat} {f : Nat → Px} (h : zX w b f) (j : Nat) : w.frozen? ⟨b, j, none⟩ = false := (ql h).2 j
/-- A pixel stored. -/
theorem zX.set {w : World} {b : Nat} {f : Nat → Px} (h : zX w b f) {i : Nat} (hi : i < 64) (p : Px) :
  zX ((((w.setCell ⟨b, i * 4, none⟩ (.int .u8 p.r)).setCell ⟨b, i * 4 + 1, none⟩ (.int .u8 p.g)).setCell ⟨b, i * 4 + 2, none⟩ (.int .u8 p.b)).setCell ⟨b, i * 4 + 3, none⟩ (.int .u8 p.a)) b (Qc f i p) := by
 unfold zX
 rw [← Xd f i p hi]
 exact heap_setCell_same _ _ _ _ _ _ (heap_setCell_same _ _ _ _ _ _ (heap_setCell_same _ _ _ _ _ _ (heap_setCell_same _ _ _ _ _ _ h)))
/-- Every pixel's channels are bytes. -/
def Zr (f : Nat → Px) : Prop := ∀ i, i < 64 → (f i).ok
section
variable {H : Type} {enc : TypeId × Value → H} {w : World} {base : Nat} {spare : Nat → Bool} {held : Bool}
end
end Go.Proofs.YtepelndbbhdofaaGreatDoor
/- The iterator over the positions of a tile, and 'rearrange'. -/
namespace Go.Proofs.YtepelndbbhdofaaGreatDoor
open Go.RowKit Pl
attribute [local go_sem] Oper.semAt_some
set_option linter.unusedVariables false
set_option linter.unusedSimpArgs false
set_option maxRecDepth 20000
/-- Position number i: column and row. -/
abbrev ziD (i : Fin 64) : Array Value := #[.int .i64 ((i.val : Int) % 8), .int .i64 ((i.val : Int) / 8)]
/-- The first k positions. -/
def ziL (k : Nat) : List (Fin 64) := (List.finRange 64).take k
end Go.Proofs.YtepelndbbhdofaaGreatDoor
/- Plain laws of compositing: the ends and the symmetry of Mix, the identities and bounds of Over, the symmetries of the blend modes. -/
namespace Go.Proofs.YtepelndbbhdofaaGreatDoor.Pl
set_option linter.unusedVariables false
/-! Over -/
/-! The blend modes -/
end Go.Proofs.YtepelndbbhdofaaGreatDoor.Pl
/- Plain: what a Mean holds, and its mean; words on worlds in which one block may have been written. -/
namespace Go.Proofs.YtepelndbbhdofaaGreatDoor
open Go.RowKit
set_option linter.unusedVariables false
set_option linter.unusedSimpArgs false
namespace Pl
/-- The sums of A, of A times each channel, and the number of pixels. -/
structure Acc where
 a : Int
 r : Int
 g : Int
 b : Int
 n : Int
def Acc.zero : Acc := ⟨0, 0, 0, 0, 0⟩
def zhg (s : Acc) (p : Px) (n : Int) : Acc :=
 if n < 1 then s else ⟨s.a + min n 65536 * p.a, s.r + min n 65536 * p.a * p.r, s.g + min n 65536 * p.a * p.g, s.b + min n 65536 * p.a * p.b, s.n + min n 65536⟩
/-- What holds of the sums: M bounds the number of pixels. -/
def Acc.ok (s : Acc) (M : Int) : Prop := (0 ≤ s.n ∧ s.n ≤ M) ∧ (0 ≤ s.a ∧ s.a ≤ 255 * s.n) ∧ (0 ≤ s.r ∧ s.r ≤ 255 * s.a) ∧ (0 ≤ s.g ∧ s.g ≤ 255 * s.a) ∧ (0 ≤ s.b ∧ s.b ≤ 255 * s.a)
theorem Acc.zero_ok : Acc.zero.ok 0 := by unfold Acc.ok Acc.zero; simp
def zhV (s : Acc) : Px :=
 if s.n = 0 then Px.zero else if qm s.a s.n = 0 then Px.zero else ⟨qm s.r s.a, qm s.g s.a, qm s.b s.a, qm s.a s.n⟩
end Pl
end Go.Proofs.YtepelndbbhdofaaGreatDoor
/- Laws of the walk for whole tiles: a tile loaded, stored, boxed, made; outside and inside a fence. The worlds behind are variables: what is known of them are their blocks. -/
namespace Go.Proofs.YtepelndbbhdofaaGreatDoor
open Go.RowKit Pl
set_option linter.unusedVariables false
set_option linter.unusedSimpArgs false
set_option maxRecDepth 20000
theorem vu (f : Nat → Px) : (Tryz.prog.info? 123).map (·.size) = some (qT f).size := by
 rw [jN]; kernel_rfl
theorem Yn (f : Nat → Px) : (qT f).all (·.oneCell') = true := by
 rw [Array.all_eq_true]
 intro i hi
 have h : (qT f)[i]? = some (qT f)[i] := Array.getElem?_eq_getElem hi
 rw [jN] at hi
 rw [yN, if_pos hi] at h
 rw [← Option.some.inj h]
 unfold pxC
 repeat' split
 all_goals rfl
theorem uo {w : World} {b : Nat} {f : Nat → Px} (h : zX w b f) : (Instr.loadAt 123 (.pointer (some ⟨b, 0, none⟩))).run Tryz.prog w = .ok (Tile.v f) w := by
 simp only [Instr.loadAt, Instr.sureAddr, Sem.run_bind, Sem.run_pure, Result.andThen_ok]
 exact run_loadVar_row w b _ 123 _ _ _ h Tryz.underlying123 rfl (vu f)
theorem Jo {w : World} {b : Nat} {f g : Nat → Px} (h : zX w b f) : (Instr.storeAt 123 (.pointer (some ⟨b, 0, none⟩)) (Tile.v g)).run Tryz.prog w = .ok () (w.setRow b (qT g)) := by
 simp only [Instr.storeAt, Instr.sureAddr, Sem.run_bind, Sem.run_pure, Result.andThen_ok]
 exact run_storeVar_row w b _ 123 _ _ h (vu g) (by rw [jN, jN]) (Yn g)
theorem zX.setRow {w : World} {b : Nat} {f : Nat → Px} (h : zX w b f) (g : Nat → Px) : zX (w.setRow b (qT g)) b g := setRow_heap w b _ _ _ _ h
theorem zdp {w : World} {b i : Nat} (v0 v1 v2 v3 : Value) : qV b w ((((w.setCell ⟨b, i, none⟩ v0).setCell ⟨b, i + 1, none⟩ v1).setCell ⟨b, i + 2, none⟩ v2).setCell ⟨b, i + 3, none⟩ v3) :=
 ((((qV.refl b w).setCell v0).setCell v1).setCell v2).setCell v3
section
variable {ops : Array Oper} {rest : List Oper} {o : Oper} {a : Act} {w : World} {Q : Exit → Act → World → Prop}
theorem qM (hg : o.guard = none) (x : Operand) (ho : o.op = .load 123 x) (b : Nat) (hx : a.eval x = .pointer (some ⟨b, 0, none⟩)) {f : Nat → Px} (ht : zX w b f)
  (h : wpList Tryz.prog ops Q rest (a.put o.dst (Tile.v f)) w) : wpList Tryz.prog ops Q (o :: rest) a w :=
 wpList_plain hg fun K hK => by
  unfold Oper.wp execOp; simp only [ho, hx, uo ht, Sem.run_bind, Sem.run_pure, Result.andThen_ok]; exact hK _ _ h
theorem qH (hg : o.guard = none) (x y : Operand) (ho : o.op = .store 123 x y) (b : Nat) (hx : a.eval x = .pointer (some ⟨b, 0, none⟩)) (g : Nat → Px) (hy : a.eval y = Tile.v g) {f : Nat → Px} (ht : zX w b f)
  (h : ∀ w', zX w' b g → qV b w w' → w'.heap.size = w.heap.size → wpList Tryz.prog ops Q rest (a.put o.dst undef) w') : wpList Tryz.prog ops Q (o :: rest) a w :=
 wpList_plain hg fun K hK => by
  unfold Oper.wp execOp; simp only [ho, hx, hy, Jo ht, Sem.run_bind, Sem.run_pure, Result.andThen_ok]; exact hK _ _ (h _ (ht.setRow g) ((qV.refl b w).setRow _) (size_setRow _ _ _))
theorem jx (hg : o.guard = none) (x : Operand) (ho : o.op = .box 123 x) (f : Nat → Px) (hx : a.eval x = Tile.v f)
  (h : ∀ w', zX w' w.heap.size f → Below w.heap.size w w' → w'.heap.size = w.heap.size + 1 → wpList Tryz.prog ops Q rest (a.put o.dst (.pointer (some ⟨w.heap.size, 0, none⟩))) w') : wpList Tryz.prog ops Q (o :: rest) a w :=
 Great.wpList_boxTo hg _ x ho _ rfl _ rfl (qT f) (by rw [hx]; exact uw f) (h _ (by unfold zX; rw [zO, if_pos rfl]) ((Below.refl _ _).alloc (Nat.le_refl _) _) (World.size_alloc _ _))
theorem wA (w : World) (o : Oper) (ho : o.op = .alloc 123) (ev : Operand → Value) : (execOp ev o).run Tryz.prog w = .ok (.value (.pointer (some ⟨w.heap.size, 0, none⟩))) (w.alloc (.cells (qT fun _ => Px.zero) 123)) := by
 obtain ⟨d, p, t, ps, af, gd⟩ := o
 simp only at ho
 subst ho
 kernel_rfl
theorem xZ (hg : o.guard = none) (ho : o.op = .alloc 123)
  (h : ∀ w', zX w' w.heap.size (fun _ => Px.zero) → Below w.heap.size w w' → w'.heap.size = w.heap.size + 1 → wpList Tryz.prog ops Q rest (a.put o.dst (.pointer (some ⟨w.heap.size, 0, none⟩))) w') : wpList Tryz.prog ops Q (o :: rest) a w :=
 wpList_plain hg fun K hK => by
  unfold Oper.wp; rw [wA w o ho]; exact hK _ _ (h _ (by unfold zX; rw [zO, if_pos rfl]) ((Below.refl _ _).alloc (Nat.le_refl _) _) (World.size_alloc _ _))
variable {F : Fence} {n : Nat}
end
/-- A tile for a result. -/
theorem jW {fn : Func} {p : Tmp} (h : fn.results = #[.cell p 123]) (tmps : Array Value) (w : World) (b : Nat) (hp : tmps.getD p undef = .pointer (some ⟨b, 0, none⟩)) {f : Nat → Px} (ht : zX w b f) :
  (results fn tmps).run Tryz.prog w = .ok (Tile.v f) w :=
 results_cell_row h tmps w b _ _ _ _ hp ht Tryz.underlying123 rfl (vu f)
end Go.Proofs.YtepelndbbhdofaaGreatDoor
/- 'rearrange', Flip and Turn of package tile. -/
namespace Go.Proofs.YtepelndbbhdofaaGreatDoor
open Go.RowKit Pl
attribute [local go_sem] Oper.semAt_some
set_option linter.unusedVariables false
set_option linter.unusedSimpArgs false
set_option maxRecDepth 20000
/-- A tile filled position by position. -/
def part (g : Fin 64 → Px) (pre : List (Fin 64)) : Nat → Px := pre.foldl (fun f i => Qc f i.val (g i)) (fun _ => Px.zero)
end Go.Proofs.YtepelndbbhdofaaGreatDoor
/- Contracts of Flip, Turn, inside, Get, Set, Fill of package tile. -/
namespace Go.Proofs.YtepelndbbhdofaaGreatDoor
open Go.RowKit Pl
set_option linter.unusedVariables false
set_option linter.unusedSimpArgs false
set_option maxRecDepth 20000
def zhP (t : Nat → Px) : Nat → Px := fun j => t (8 * (j / 8) + (7 - j % 8))
def zh5 (t : Nat → Px) : Nat → Px := fun j => t (8 * (7 - j % 8) + j / 8)
/- Tiles: an index into a tile as a value, '==' of tiles, tiles filled from the left. -/
deriving instance DecidableEq for Px
/-- Two tiles are equal. -/
def kO (f g : Nat → Px) : Bool := decide (∀ i ∈ List.range 64, f i = g i)
theorem zek (f g : Nat → Px) : kO f g = true ↔ qT f = qT g := by
 unfold kO
 simp only [decide_eq_true_eq, List.mem_range]
 exact ⟨fun h => Z4 h, fun h => zbg h⟩
theorem YZ (f : Nat → Px) : kO f f = true := (zek f f).2 rfl
theorem XK (f : Nat → Px) (k : Nat) (hk : k < 64) : (qT f).extract (k * 4) (k * 4 + 4) = #[.int .u8 (f k).r, .int .u8 (f k).g, .int .u8 (f k).b, .int .u8 (f k).a] := by
 apply Array.ext_getElem?
 intro j
 rw [Array.getElem?_extract]
 simp only [jN]
 by_cases hj : j < 4
 ·rw [if_pos (by omega), xY f k j hk hj]
  have hc : j = 0 ∨ j = 1 ∨ j = 2 ∨ j = 3 := by omega
  rcases hc with rfl | rfl | rfl | rfl <;> rfl
 ·rw [if_neg (by omega)]
  exact (Array.getElem?_eq_none (by simp; omega)).symm
theorem Px.v_def (p : Px) : Px.v p = .agg #[.int .u8 p.r, .int .u8 p.g, .int .u8 p.b, .int .u8 p.a] := rfl
theorem zcI (w : World) : (isAgg 28).run Tryz.prog w = .ok true w := by kernel_rfl
theorem Xe (w : World) : (sizeOf 28).run Tryz.prog w = .ok 4 w := by kernel_rfl
theorem Vy : Tryz.prog.cellsOf 28 = 4 := by kernel_rfl
theorem ZF (f : Nat → Px) (k : Nat) (hk : k < 64) (w : World) : (Go.part 28 (qT f) (k * 4)).run Tryz.prog w = .ok (Px.v (f k)) w := by
 unfold Go.part
 simp only [Sem.run_bind, zcI, Result.andThen_ok, if_true, Xe, Sem.run_pure, XK f k hk, Px.v_def]
theorem QZ (f : Nat → Px) (k : Nat) (hk : k < 64) (w : World) : (Instr.index 123 (Tile.v f) (.int .i64 k)).run Tryz.prog w = .ok (Px.v (f k)) w := by
 unfold Instr.index Tile.v
 have e : (0 : Int) ≤ (k : Int) ∧ (k : Int) < 64 := by omega
 simp only [asIntOf, Sem.run_bind, Sem.run_pure, Result.andThen_ok, run_underlying Tryz.underlying123]
 rw [if_pos (by simpa using e)]
 simp only [Sem.run_bind, Xe, Result.andThen_ok, Int.toNat_natCast]
 exact ZF f k hk w
/-- '==' of pixels, below. -/
theorem QU (d : Nat) (p q : Px) (w : World) : (Op.equalIn (d + 2) 28 (Px.v p) (Px.v q)).run Tryz.prog w = .ok (decide (p = q)) w := by
 have h : (Op.equalIn (d + 2) 28 (Px.v p) (Px.v q)).run Tryz.prog w = .ok (p.r == q.r && (p.g == q.g && (p.b == q.b && p.a == q.a))) w := by
  obtain ⟨r, g, b, a⟩ := p; obtain ⟨r', g', b', a'⟩ := q; simp only [Px.v]; by_cases h1 : r = r' <;> by_cases h2 : g = g' <;> by_cases h3 : b = b' <;> by_cases h4 : a = a' <;> simp [go_sem, h1, h2, h3, h4]
 rw [h]
 congr 1
 obtain ⟨a, b, c, d⟩ := p
 obtain ⟨a', b', c', d'⟩ := q
 rw [Bool.eq_iff_iff]
 simp
theorem uU (f g : Nat → Px) (w : World) : ∀ is : List Nat, (∀ i ∈ is, i < 64) → (Op.eqItems 9999 28 4 (qT f) (qT g) is).run Tryz.prog w = .ok (decide (∀ i ∈ is, f i = g i)) w
 | [], _ => by simp [Op.eqItems]
 | i :: is, h => by
  have hi : i < 64 := h i (by simp); simp only [Op.eqItems, Sem.run_bind, ZF f i hi, ZF g i hi, Result.andThen_ok, QU 9997]; by_cases e : f i = g i
  ·simp [e, uU f g w is (fun j hj => h j (by simp [hj]))]
  ·simp [e]
theorem uW (f g : Nat → Px) (w : World) : (Op.equalIn 10000 123 (Tile.v f) (Tile.v g)).run Tryz.prog w = .ok (kO f g) w := by
 obtain ⟨i, hi⟩ : ∃ i, Tryz.prog.info? 28 = some i := by
  cases h : Tryz.prog.info? 28 with
  | some i => exact ⟨i, rfl⟩
  | none =>
   have e : (Tryz.prog.info? 28).isSome = true := by kernel_rfl
   rw [h] at e; cases e
 unfold Tile.v
 refine (run_equalIn_array w 9999 (qT f) (qT g) Tryz.underlying123 hi).trans ?_
 rw [Vy, uU f g w _ (fun i hi => List.mem_range.1 hi)]
 rfl
/-- '==' of tiles. -/
theorem zcn (f g : Nat → Px) (w : World) : (binOp .eql 123 (Tile.v f) (Tile.v g)).run Tryz.prog w = .ok (.bool (kO f g)) w := by
 have h := run_eql_struct (P := Tryz.prog) w 123 (qT f) (qT g)
 have e := uW f g w
 unfold Tile.v at e ⊢
 rw [h, e]; rfl
theorem Q7 (f g : Nat → Px) (w : World) : (binOp .neq 123 (Tile.v f) (Tile.v g)).run Tryz.prog w = .ok (.bool (!kO f g)) w := by
 have h := run_neq_struct (P := Tryz.prog) w 123 (qT f) (qT g)
 have e := uW f g w
 unfold Tile.v at e ⊢
 rw [h, e]; rfl
theorem zbm : Tile.v (fun _ => Px.zero) = .agg (Array.replicate 256 (.int .u8 0)) := by
 unfold Tile.v
 congr 1
 apply Array.ext_getElem?
 intro k
 rw [yN, Array.getElem?_replicate]
 have hc : k % 4 = 0 ∨ k % 4 = 1 ∨ k % 4 = 2 ∨ k % 4 = 3 := by omega
 rcases hc with h | h | h | h <;> simp [h, pxC, Px.zero]
theorem Jn (w : World) (o : Oper) (ho : o.op = .build 123 #[]) (ev : Operand → Value) : (execOp ev o).run Tryz.prog w = .ok (.value (Tile.v fun _ => Px.zero)) w := by
 rw [zbm]
 obtain ⟨d, p, t, ps, af, gd⟩ := o
 simp only at ho
 subst ho
 kernel_rfl
theorem vd {ops : Array Oper} {rest : List Oper} {o : Oper} {a : Act} {w : World} {Q : Exit → Act → World → Prop} (hg : o.guard = none) (ho : o.op = .build 123 #[])
  (h : wpList Tryz.prog ops Q rest (a.put o.dst (Tile.v fun _ => Px.zero)) w) : wpList Tryz.prog ops Q (o :: rest) a w :=
 wpList_plain hg fun K hK => by
  unfold Oper.wp; rw [Jn w o ho]; exact hK _ _ h
theorem XX (p q : Px) (w : World) : (binOp .neq 28 (Px.v p) (Px.v q)).run Tryz.prog w = .ok (.bool (!decide (p = q))) w := by
 have h := run_neq_struct (P := Tryz.prog) w 28 #[.int .u8 p.r, .int .u8 p.g, .int .u8 p.b, .int .u8 p.a] #[.int .u8 q.r, .int .u8 q.g, .int .u8 q.b, .int .u8 q.a]
 have e := QU 9998 p q w
 rw [Px.v_def, Px.v_def] at e ⊢
 rw [h, e]; rfl
/-- The first k pixels are those of g, the others those of f. -/
def vN (f g : Nat → Px) (k : Nat) : Nat → Px := fun j => if j < k then g j else f j
theorem Jt (f g : Nat → Px) : vN f g 0 = f := by funext j; simp [vN]
theorem Js (f g : Nat → Px) (k : Nat) : Qc (vN f g k) k (g k) = vN f g (k + 1) := by
 funext j
 unfold Qc vN
 by_cases h : j = k
 ·subst h; simp
 ·rw [if_neg h]
  by_cases h2 : j < k
  ·rw [if_pos h2, if_pos (by omega)]
  ·rw [if_neg h2, if_neg (by omega)]
theorem KZ (f g : Nat → Px) (k : Nat) : vN f g k k = f k := by simp [vN]
theorem Xi (f g : Nat → Px) : qT (vN f g 64) = qT g := Z4 fun i hi => by simp [vN, hi]
theorem zX.congr {w : World} {b : Nat} {f g : Nat → Px} (h : zX w b f) (e : qT f = qT g) : zX w b g := by unfold zX at h ⊢; rw [← e]; exact h
/- Laws of the walk for pixels: a pixel of a tile loaded and stored, a pixel boxed, made, loaded, stored. The worlds behind are variables. -/
def pxA (p : Px) : Array Value := #[.int .u8 p.r, .int .u8 p.g, .int .u8 p.b, .int .u8 p.a]
/-- The block b holds a pixel. -/
def jF (w : World) (b : Nat) (p : Px) : Prop := w.heap[b]? = some (.cells (pxA p) 28 (0, 0))
theorem jF.of_eq {w w' : World} {b : Nat} {p : Px} (h : jF w b p) (e : w'.heap[b]? = w.heap[b]?) : jF w' b p := e.trans h
theorem jF.lt {w : World} {b : Nat} {p : Px} (h : jF w b p) : b < w.heap.size := (Array.getElem?_eq_some_iff.1 h).1
theorem jF.below {w w' : World} {b : Nat} {p : Px} (h : jF w b p) (e : Below w.heap.size w w') : jF w' b p := h.of_eq (e.block _ h.lt)
theorem jF.cg {w w' : World} {b : Nat} {p : Px} (h : jF w b p) {zc : Nat} (e : qV zc w w') (hn : b ≠ zc := by omega) : jF w' b p := h.of_eq (e.block _ h.lt hn)
theorem Jg (p : Px) : (Tryz.prog.info? 28).map (·.size) = some (pxA p).size := by
 show _ = some 4
 kernel_rfl
theorem KC (p : Px) : (pxA p).all (·.oneCell') = true := by simp [pxA, Value.oneCell']
theorem ZY {w : World} {b : Nat} {p : Px} (h : jF w b p) : (Instr.loadAt 28 (.pointer (some ⟨b, 0, none⟩))).run Tryz.prog w = .ok (Px.v p) w := by
 simp only [Instr.loadAt, Instr.sureAddr, Sem.run_bind, Sem.run_pure, Result.andThen_ok]
 exact run_loadVar_row w b _ 28 _ _ _ h Tryz.underlying28 rfl (Jg p)
theorem Yh {w : World} {b : Nat} {p : Px} (h : jF w b p) (q : Px) : (Instr.storeAt 28 (.pointer (some ⟨b, 0, none⟩)) (Px.v q)).run Tryz.prog w = .ok () (w.setRow b (pxA q)) := by
 simp only [Instr.storeAt, Instr.sureAddr, Sem.run_bind, Sem.run_pure, Result.andThen_ok]
 exact run_storeVar_row w b _ 28 _ _ h (Jg q) rfl (KC q)
theorem ZZ {w : World} {b i : Nat} {f : Nat → Px} (h : zX w b f) (hi : i < 64) : (Instr.loadAt 28 (.pointer (some ⟨b, i * 4, none⟩))).run Tryz.prog w = .ok (Px.v (f i)) w := by
 obtain ⟨c0, c1, c2, c3⟩ := h.cells hi
 simp [go_sem, c0, c1, c2, c3, Px.v]
theorem Yi {w : World} {b i : Nat} {f : Nat → Px} (h : zX w b f) (hi : i < 64) (p : Px) : (Instr.storeAt 28 (.pointer (some ⟨b, i * 4, none⟩)) (Px.v p)).run Tryz.prog w =
  .ok () ((((w.setCell ⟨b, i * 4, none⟩ (.int .u8 p.r)).setCell ⟨b, i * 4 + 1, none⟩ (.int .u8 p.g)).setCell ⟨b, i * 4 + 2, none⟩ (.int .u8 p.b)).setCell ⟨b, i * 4 + 3, none⟩ (.int .u8 p.a)) := by
 obtain ⟨c0, c1, c2, c3⟩ := h.cells hi
 have hf := h.frozen
 simp [go_sem, c0, c1, c2, c3, hf, Px.v]
theorem Yd (w : World) (o : Oper) (ho : o.op = .alloc 28) (ev : Operand → Value) : (execOp ev o).run Tryz.prog w = .ok (.value (.pointer (some ⟨w.heap.size, 0, none⟩))) (w.alloc (.cells (pxA Px.zero) 28)) := by
 obtain ⟨d, p, t, ps, af, gd⟩ := o
 simp only at ho
 subst ho
 kernel_rfl
theorem zbb {w : World} {b i : Nat} (v0 v1 v2 v3 : Value) : ((((w.setCell ⟨b, i, none⟩ v0).setCell ⟨b, i + 1, none⟩ v1).setCell ⟨b, i + 2, none⟩ v2).setCell ⟨b, i + 3, none⟩ v3).heap.size = w.heap.size := by
 simp only [World.size_setCell]
section
variable {ops : Array Oper} {rest : List Oper} {o : Oper} {a : Act} {w : World} {Q : Exit → Act → World → Prop}
theorem jI (hg : o.guard = none) (x : Operand) (ho : o.op = .load 28 x) (b : Nat) (hx : a.eval x = .pointer (some ⟨b, 0, none⟩)) {p : Px} (ht : jF w b p)
  (h : wpList Tryz.prog ops Q rest (a.put o.dst (Px.v p)) w) : wpList Tryz.prog ops Q (o :: rest) a w :=
 wpList_plain hg fun K hK => by
  unfold Oper.wp execOp; simp only [ho, hx, ZY ht, Sem.run_bind, Sem.run_pure, Result.andThen_ok]; exact hK _ _ h
theorem qf (hg : o.guard = none) (x y : Operand) (ho : o.op = .store 28 x y) (b : Nat) (hx : a.eval x = .pointer (some ⟨b, 0, none⟩)) (q : Px) (hy : a.eval y = Px.v q) {p : Px} (ht : jF w b p)
  (h : ∀ w', jF w' b q → qV b w w' → w'.heap.size = w.heap.size → wpList Tryz.prog ops Q rest (a.put o.dst undef) w') : wpList Tryz.prog ops Q (o :: rest) a w :=
 wpList_plain hg fun K hK => by
  unfold Oper.wp execOp; simp only [ho, hx, hy, Yh ht q, Sem.run_bind, Sem.run_pure, Result.andThen_ok]; exact hK _ _ (h _ (setRow_heap w b _ _ _ _ ht) ((qV.refl b w).setRow _) (size_setRow _ _ _))
theorem ut (hg : o.guard = none) (x : Operand) (ho : o.op = .load 28 x) (b j : Nat) (hx : a.eval x = .pointer (some ⟨b, j, none⟩)) {f : Nat → Px} (ht : zX w b f) (i : Nat) (hi : i < 64) (hj : j = i * 4)
  (h : wpList Tryz.prog ops Q rest (a.put o.dst (Px.v (f i))) w) : wpList Tryz.prog ops Q (o :: rest) a w :=
 wpList_plain hg fun K hK => by
  subst hj; unfold Oper.wp execOp; simp only [ho, hx, ZZ ht hi, Sem.run_bind, Sem.run_pure, Result.andThen_ok]; exact hK _ _ h
theorem kG (hg : o.guard = none) (x y : Operand) (ho : o.op = .store 28 x y) (b j : Nat) (hx : a.eval x = .pointer (some ⟨b, j, none⟩)) (q : Px) (hy : a.eval y = Px.v q) {f : Nat → Px} (ht : zX w b f) (i : Nat) (hi : i < 64) (hj : j = i * 4)
  (h : ∀ w', zX w' b (Qc f i q) → qV b w w' → w'.heap.size = w.heap.size → wpList Tryz.prog ops Q rest (a.put o.dst undef) w') : wpList Tryz.prog ops Q (o :: rest) a w :=
 wpList_plain hg fun K hK => by
  subst hj; unfold Oper.wp execOp; simp only [ho, hx, hy, Yi ht hi q, Sem.run_bind, Sem.run_pure, Result.andThen_ok]; exact hK _ _ (h _ (ht.set hi q) (zdp _ _ _ _) (zbb _ _ _ _))
theorem vI (hg : o.guard = none) (x : Operand) (ho : o.op = .box 28 x) (p : Px) (hx : a.eval x = Px.v p)
  (h : ∀ w', jF w' w.heap.size p → Below w.heap.size w w' → w'.heap.size = w.heap.size + 1 → wpList Tryz.prog ops Q rest (a.put o.dst (.pointer (some ⟨w.heap.size, 0, none⟩))) w') : wpList Tryz.prog ops Q (o :: rest) a w :=
 Great.wpList_boxTo hg _ x ho _ rfl _ rfl (pxA p) (by rw [hx]; rfl) (h _ (by unfold jF; rw [zO, if_pos rfl]) ((Below.refl _ _).alloc (Nat.le_refl _) _) (World.size_alloc _ _))
theorem JF (hg : o.guard = none) (ho : o.op = .build 28 #[])
  (h : wpList Tryz.prog ops Q rest (a.put o.dst (Px.v Px.zero)) w) : wpList Tryz.prog ops Q (o :: rest) a w :=
 wpList_plain hg fun K hK => by
  have e : (execOp a.eval o).run Tryz.prog w = .ok (.value (Px.v Px.zero)) w := by
   obtain ⟨d, p, t, ps, af, gd⟩ := o; simp only at ho; subst ho
   kernel_rfl
  unfold Oper.wp; rw [e]; exact hK _ _ h
theorem yE (hg : o.guard = none) (ho : o.op = .alloc 28)
  (h : ∀ w', jF w' w.heap.size Px.zero → Below w.heap.size w w' → w'.heap.size = w.heap.size + 1 → wpList Tryz.prog ops Q rest (a.put o.dst (.pointer (some ⟨w.heap.size, 0, none⟩))) w') : wpList Tryz.prog ops Q (o :: rest) a w :=
 wpList_plain hg fun K hK => by
  unfold Oper.wp; rw [Yd w o ho]; exact hK _ _ (h _ (by unfold jF; rw [zO, if_pos rfl]) ((Below.refl _ _).alloc (Nat.le_refl _) _) (World.size_alloc _ _))
end
/-- A pixel for a result. -/
theorem jY {fn : Func} {p : Tmp} (h : fn.results = #[.cell p 28]) (tmps : Array Value) (w : World) (b : Nat) (hp : tmps.getD p undef = .pointer (some ⟨b, 0, none⟩)) {q : Px} (ht : jF w b q) :
  (results fn tmps).run Tryz.prog w = .ok (Px.v q) w :=
 results_cell_row h tmps w b _ _ _ _ hp ht Tryz.underlying28 rfl (Jg q)
/- Contracts of inside, Get, Set, Fill of package tile and of the reference. -/
def yu (x y : Int) : Bool := decide (0 ≤ x ∧ x < 8 ∧ 0 ≤ y ∧ y < 8)
def posI (x y : Int) : Nat := (8 * y + x).toNat
def VB (t : Nat → Px) (x y : Int) : Px := if yu x y = true then t (posI x y) else Px.zero
def ZI (t : Nat → Px) (x y : Int) (p : Px) : Nat → Px := if yu x y = true then Qc t (posI x y) p else t
theorem J0 {x y : Int} (h : yu x y = true) : 0 ≤ x ∧ x < 8 ∧ 0 ≤ y ∧ y < 8 ∧ posI x y < 64 ∧ ((posI x y : Nat) : Int) = 8 * y + x := by
 unfold yu at h
 have h := of_decide_eq_true h
 unfold posI
 omega
theorem YI (x y : Int) (w : World) : Calls Tryz.prog 134 #[.int .i64 x, .int .i64 y] w fun e w' => e = .returned (.bool (yu x y)) ∧ w = w' := by
 by_cases h0 : 0 ≤ x
 rotate_left
 ·have e1 : yu x y = false := by unfold yu; exact decide_eq_false (by omega)
  have d1 : decide (0 ≤ x) = false := decide_eq_false (by omega); rw [e1]; clear e1; go_enter Tryz.func134, Tryz.ntmps134
  go_wp2; go_ret; exact ⟨rfl, rfl⟩
 by_cases h1 : x < 8
 rotate_left
 ·have e1 : yu x y = false := by unfold yu; exact decide_eq_false (by omega)
  have d1 : decide (x < 8) = false := decide_eq_false (by omega); rw [e1]; clear e1; go_enter Tryz.func134, Tryz.ntmps134
  go_wp2; go_ret; exact ⟨rfl, rfl⟩
 by_cases h2 : 0 ≤ y
 rotate_left
 ·have e1 : yu x y = false := by unfold yu; exact decide_eq_false (by omega)
  have d1 : decide (0 ≤ y) = false := decide_eq_false (by omega); rw [e1]; clear e1; go_enter Tryz.func134, Tryz.ntmps134
  go_wp2; go_ret; exact ⟨rfl, rfl⟩
 by_cases h3 : y < 8
 rotate_left
 ·have e1 : yu x y = false := by unfold yu; exact decide_eq_false (by omega)
  have d1 : decide (y < 8) = false := decide_eq_false (by omega); rw [e1]; clear e1; go_enter Tryz.func134, Tryz.ntmps134
  go_wp2; go_ret; exact ⟨rfl, rfl⟩
 have e1 : yu x y = true := by unfold yu; exact decide_eq_true (by omega)
 rw [e1]; clear e1
 go_enter Tryz.func134, Tryz.ntmps134
 go_wp2
 go_ret
 exact ⟨rfl, rfl⟩
theorem YO (x y : Int) (w : World) : Calls Tryz.prog 158 #[.int .i64 x, .int .i64 y] w fun e w' => e = .returned (.bool (yu x y)) ∧ w = w' := by
 by_cases h0 : 0 ≤ x
 rotate_left
 ·have e1 : yu x y = false := by unfold yu; exact decide_eq_false (by omega)
  have d1 : decide (0 ≤ x) = false := decide_eq_false (by omega); rw [e1]; clear e1; go_enter Tryz.func158, Tryz.ntmps158
  go_wp2; go_ret; exact ⟨rfl, rfl⟩
 by_cases h1 : x < 8
 rotate_left
 ·have e1 : yu x y = false := by unfold yu; exact decide_eq_false (by omega)
  have d1 : decide (x < 8) = false := decide_eq_false (by omega); rw [e1]; clear e1; go_enter Tryz.func158, Tryz.ntmps158
  go_wp2; go_ret; exact ⟨rfl, rfl⟩
 by_cases h2 : 0 ≤ y
 rotate_left
 ·have e1 : yu x y = false := by unfold yu; exact decide_eq_false (by omega)
  have d1 : decide (0 ≤ y) = false := decide_eq_false (by omega); rw [e1]; clear e1; go_enter Tryz.func158, Tryz.ntmps158
  go_wp2; go_ret; exact ⟨rfl, rfl⟩
 by_cases h3 : y < 8
 rotate_left
 ·have e1 : yu x y = false := by unfold yu; exact decide_eq_false (by omega)
  have d1 : decide (y < 8) = false := decide_eq_false (by omega); rw [e1]; clear e1; go_enter Tryz.func158, Tryz.ntmps158
  go_wp2; go_ret; exact ⟨rfl, rfl⟩
 have e1 : yu x y = true := by unfold yu; exact decide_eq_true (by omega)
 rw [e1]; clear e1
 go_enter Tryz.func158, Tryz.ntmps158
 go_wp2
 go_ret
 exact ⟨rfl, rfl⟩
set_option maxHeartbeats 1000000 in
set_option maxRecDepth 20000 in
theorem zgo (t : Nat → Px) (x y : Int) (w : World) : Calls Tryz.prog 79 #[Tile.v t, .int .i64 x, .int .i64 y] w fun e w' => e = .returned (Px.v (VB t x y)) ∧ Below w.heap.size w w' := by
 cases hi : yu x y with
 | false =>
  have e1 : VB t x y = Px.zero := by unfold VB; rw [hi]; rfl
  rw [e1]; clear e1; go_enter Tryz.func79, Tryz.ntmps79
  go_wp2_with (first | (refine qf rfl _ _ rfl _ rfl _ rfl h2 ?_; clear h2; intro w3 h2 hc3 hz3; replace hz3 := Nat.le_of_eq hz3.symm; replace h1 := h1.of_eq (hc3.block _ h1.lt (by omega)); simp only [zo]) | (refine JF rfl rfl ?_; simp only [zo]) | (refine yE rfl rfl ?_; intro w2 h2 hb2 hz2; have l2 := Nat.lt_of_lt_of_eq (Nat.lt_succ_self _) hz2.symm; clear hz2; replace h1 := h1.of_eq (hb2.block _ h1.lt); simp only [zo]) | (refine jx rfl _ rfl _ rfl ?_; intro w1 h1 hb1 hz1; have l1 := Nat.lt_of_lt_of_eq (Nat.lt_succ_self _) hz1.symm; clear hz1; simp only [zo]) | (go_at_call 134; refine (YI _ _ _).mono ?_; rintro e w' ⟨rfl, rfl⟩))
  refine bodyPost_ret (jY rfl _ _ (w1.heap.size) rfl h2) rfl ?_; refine ⟨rfl, ?_⟩; repeat' (first | (with_reducible exact Below.refl _ _) | (with_reducible assumption) | (with_reducible refine Below.trans ?_ (hb1.mono (by omega))) | (with_reducible refine Below.trans ?_ (hb2.mono (by omega))) | (with_reducible refine qV.below ?_ hc3 (by omega) (by omega)))
 | true =>
  have e1 : VB t x y = t (posI x y) := by unfold VB; rw [hi]; rfl
  rw [e1]; clear e1; obtain ⟨h1, h2, h3, h4, h5, h6⟩ := J0 hi; have n1 : 0 ≤ 8 * y + x := by omega
  have n2 : 8 * y + x < 64 := by omega
  have e7 : (8 * y + x).toNat = posI x y := rfl; go_enter Tryz.func79, Tryz.ntmps79
  go_wp2_with (first | (refine qf rfl _ _ rfl _ rfl _ rfl t2 ?_; clear t2; intro w3 t2 hc3 hz3; replace hz3 := Nat.le_of_eq hz3.symm; replace t1 := t1.of_eq (hc3.block _ t1.lt (by omega)); simp only [zo]) | (refine ut rfl _ rfl _ _ rfl t1 (posI x y) (by assumption) (by first | rfl | omega) ?_; simp only [zo]) | (refine yE rfl rfl ?_; intro w2 t2 hb2 hz2; have l2 := Nat.lt_of_lt_of_eq (Nat.lt_succ_self _) hz2.symm; clear hz2; replace t1 := t1.of_eq (hb2.block _ t1.lt); simp only [zo]) | (refine jx rfl _ rfl _ rfl ?_; intro w1 t1 hb1 hz1; have l1 := Nat.lt_of_lt_of_eq (Nat.lt_succ_self _) hz1.symm; clear hz1; simp only [zo]) | (go_at_call 134; refine (YI _ _ _).mono ?_; rintro e w' ⟨rfl, rfl⟩))
  refine bodyPost_ret (jY rfl _ _ (w1.heap.size) rfl t2) rfl ?_; refine ⟨rfl, ?_⟩; repeat' (first | (with_reducible exact Below.refl _ _) | (with_reducible assumption) | (with_reducible refine Below.trans ?_ (hb1.mono (by omega))) | (with_reducible refine Below.trans ?_ (hb2.mono (by omega))) | (with_reducible refine qV.below ?_ hc3 (by omega) (by omega)))
set_option maxHeartbeats 1000000 in
set_option maxRecDepth 20000 in
theorem zgr (t : Nat → Px) (x y : Int) (p : Px) (w : World) : Calls Tryz.prog 117 #[Tile.v t, .int .i64 x, .int .i64 y, Px.v p] w fun e w' => e = .returned (Tile.v (ZI t x y p)) ∧ Below w.heap.size w w' := by
 cases hi : yu x y with
 | false =>
  have e1 : ZI t x y p = t := by unfold ZI; rw [hi]; rfl
  rw [e1]; clear e1; go_enter Tryz.func117, Tryz.ntmps117
  go_wp2_with (first | (refine qH rfl _ _ rfl _ rfl _ rfl t3 ?_; clear t3; intro w4 t3 hc4 hz4; replace hz4 := Nat.le_of_eq hz4.symm; replace t1 := t1.of_eq (hc4.block _ t1.lt (by omega)); simp only [zo]) | (refine qM rfl _ rfl _ rfl t1 ?_; simp only [zo]) | (refine xZ rfl rfl ?_; intro w3 t3 hb3 hz3; have l3 := Nat.lt_of_lt_of_eq (Nat.lt_succ_self _) hz3.symm; clear hz3; replace t1 := t1.of_eq (hb3.block _ t1.lt); replace t2 := t2.of_eq (hb3.block _ t2.lt); simp only [zo]) | (refine vI rfl _ rfl _ rfl ?_; intro w2 t2 hb2 hz2; have l2 := Nat.lt_of_lt_of_eq (Nat.lt_succ_self _) hz2.symm; clear hz2; replace t1 := t1.of_eq (hb2.block _ t1.lt); simp only [zo]) | (refine jx rfl _ rfl _ rfl ?_; intro w1 t1 hb1 hz1; have l1 := Nat.lt_of_lt_of_eq (Nat.lt_succ_self _) hz1.symm; clear hz1; simp only [zo]) | (go_at_call 158; refine (YO _ _ _).mono ?_; rintro e w' ⟨rfl, rfl⟩))
  refine bodyPost_ret (jW rfl _ _ (w2.heap.size) rfl t3) rfl ?_; refine ⟨rfl, ?_⟩; repeat' (first | (with_reducible exact Below.refl _ _) | (with_reducible assumption) | (with_reducible refine Below.trans ?_ (hb1.mono (by omega))) | (with_reducible refine Below.trans ?_ (hb2.mono (by omega))) | (with_reducible refine Below.trans ?_ (hb3.mono (by omega))) | (with_reducible refine qV.below ?_ hc4 (by omega) (by omega)))
 | true =>
  have e1 : ZI t x y p = Qc t (posI x y) p := by unfold ZI; rw [hi]; rfl
  rw [e1]; clear e1; obtain ⟨h1, h2, h3, h4, h5, h6⟩ := J0 hi; have n1 : 0 ≤ 8 * y + x := by omega
  have n2 : 8 * y + x < 64 := by omega
  have e7 : (8 * y + x).toNat = posI x y := rfl; go_enter Tryz.func117, Tryz.ntmps117
  go_wp2_with (first | (refine qH rfl _ _ rfl _ rfl _ rfl t3 ?_; clear t3; intro w5 t3 hc5 hz5; replace hz5 := Nat.le_of_eq hz5.symm; replace t1 := t1.of_eq (hc5.block _ t1.lt (by omega)); simp only [zo]) | (refine qM rfl _ rfl _ rfl t1 ?_; simp only [zo]) | (refine kG rfl _ _ rfl _ _ rfl _ rfl t1 (posI x y) (by assumption) (by first | rfl | omega) ?_; clear t1; intro w4 t1 hc4 hz4; replace hz4 := Nat.le_of_eq hz4.symm; replace t2 := t2.of_eq (hc4.block _ t2.lt (by omega)); replace t3 := t3.of_eq (hc4.block _ t3.lt (by omega)); simp only [zo]) | (refine jI rfl _ rfl _ rfl t2 ?_; simp only [zo]) | (refine xZ rfl rfl ?_; intro w3 t3 hb3 hz3; have l3 := Nat.lt_of_lt_of_eq (Nat.lt_succ_self _) hz3.symm; clear hz3; replace t1 := t1.of_eq (hb3.block _ t1.lt); replace t2 := t2.of_eq (hb3.block _ t2.lt); simp only [zo]) | (refine vI rfl _ rfl _ rfl ?_; intro w2 t2 hb2 hz2; have l2 := Nat.lt_of_lt_of_eq (Nat.lt_succ_self _) hz2.symm; clear hz2; replace t1 := t1.of_eq (hb2.block _ t1.lt); simp only [zo]) | (refine jx rfl _ rfl _ rfl ?_; intro w1 t1 hb1 hz1; have l1 := Nat.lt_of_lt_of_eq (Nat.lt_succ_self _) hz1.symm; clear hz1; simp only [zo]) | (go_at_call 158; refine (YO _ _ _).mono ?_; rintro e w' ⟨rfl, rfl⟩))
  refine bodyPost_ret (jW rfl _ _ (w2.heap.size) rfl t3) rfl ?_; refine ⟨rfl, ?_⟩; repeat' (first | (with_reducible exact Below.refl _ _) | (with_reducible assumption) | (with_reducible refine Below.trans ?_ (hb1.mono (by omega))) | (with_reducible refine Below.trans ?_ (hb2.mono (by omega))) | (with_reducible refine Below.trans ?_ (hb3.mono (by omega))) | (with_reducible refine qV.below ?_ hc4 (by omega) (by omega)) | (with_reducible refine qV.below ?_ hc5 (by omega) (by omega)))
/- Contracts of Fill and Clean of package tile and of the reference. -/
def zfc (p : Px) : Nat → Px := fun _ => p
def qF (t : Nat → Px) : Nat → Px := fun i => jj (t i)
def zfn : Nat → Px := fun _ => Px.zero
end Go.Proofs.YtepelndbbhdofaaGreatDoor
/- Contracts of 'channels', Clean, Fade, of package pixel and of the reference's. -/
namespace Go.Proofs.YtepelndbbhdofaaGreatDoor
open Go.RowKit Pl
set_option linter.unusedVariables false
set_option linter.unusedSimpArgs false
set_option maxHeartbeats 400000 in
theorem Vr (p q : Px) (al : Int) (F : Nat) (caps : Array Value) (φ : Int → Int → Int) (w : World) (hp : p.ok) (hq : q.ok) (ha0 : 0 ≤ al) (ha1 : al ≤ 255)
  (hφ : ∀ x y, 0 ≤ x → x ≤ 255 → 0 ≤ y → y ≤ 255 → 0 ≤ φ x y ∧ φ x y ≤ 255)
  (hcf : ∀ (args : Array Value) (wx : World), (callFunc F args).run Tryz.prog wx = .ok (.enter F args) wx)
  (hF : Clo F caps φ w) :
  Calls Tryz.prog 119 #[Px.v p, Px.v q, .int .i64 al, .func (.func F) #[] caps] w
   fun e w' => e = .returned (Px.v ⟨φ p.r q.r, φ p.g q.g, φ p.b q.b, al⟩) ∧ Below w.heap.size w w' := by
 obtain ⟨pr, pg, pb, pa⟩ := p
 obtain ⟨qr, qg, qb, qa⟩ := q
 obtain ⟨⟨p1, p2⟩, ⟨p3, p4⟩, ⟨p5, p6⟩, ⟨p7, p8⟩⟩ := hp
 obtain ⟨⟨q1, q2⟩, ⟨q3, q4⟩, ⟨q5, q6⟩, ⟨q7, q8⟩⟩ := hq
 simp only at p1 p2 p3 p4 p5 p6 p7 p8 q1 q2 q3 q4 q5 q6 q7 q8
 simp only [Px.v]
 have b1 := hφ pr qr p1 p2 q1 q2
 have b2 := hφ pg qg p3 p4 q3 q4
 have b3 := hφ pb qb p5 p6 q5 q6
 have HF := Lib.hid hF
 have Hφ := Lib.hid hφ
 have Hcf := Lib.hid hcf
 clear hF hφ hcf
 go_enter Tryz.func119, Tryz.ntmps119
 go_wp2
 refine qZ 21 (by kernel_rfl) (by kernel_rfl) ?_
 simp only [List.take_succ_cons, List.take_zero, List.drop_succ_cons, List.drop_zero]
 repeat (go_big_quiet_step ((first | (go_at_call 160; exact zC (zdZ _ _ (φ _ _) F _ caps _ (by omega) (by omega) (by omega) (by omega) (by omega) (by omega) Hcf.out (HF.out _ _ _ (QK (by go_grown) (by simp; omega) _) (by omega) (by omega) (by omega) (by omega)) (by simp [go_sem]))))))
 refine wpQuiet_nil ?_
 intro w1 hb1
 obtain ⟨hc1, hf1⟩ := Wo hb1
 have hs1 := hb1.size
 try simp only [World.size_alloc, World.size_setCell, World.size_drew] at hs1
 have hbb1 := hb1.mono (B' := w.heap.size) (by first | omega | (simp only [World.size_alloc, World.size_setCell, World.size_drew]; omega))
 obtain ⟨hk1, hz1⟩ := ql (show w1.heap[w.heap.size + 1 + 1 + 1]? = some (.cells #[.int .u8 0, .int .u8 0, .int .u8 0, .int .u8 0] 28 (0, 0)) from by rw [hb1.block _ (by simp)]; simp only [zO, World.size_alloc]; simp)
 go_wp2
 refine bodyPost_ret (by simp [results, Tryz.results119, go_sem, hk1]; try rfl) rfl ?_
 refine ⟨rfl, ?_⟩
 repeat' (first | (with_reducible exact Below.refl _ _) | (with_reducible assumption) | (with_reducible refine Below.setCell ?_ (by dsimp only; omega) _) | (with_reducible refine Below.alloc ?_ (by first | omega | (simp only [World.size_alloc, World.size_setCell, World.size_drew]; omega)) _) | (with_reducible refine Below.drew ?_) | (with_reducible refine Below.trans ?_ hbb1))
/- Contracts of Clean, Fade of package pixel and of the reference, and of the reference's Blend, Over, Mix. -/
set_option maxHeartbeats 400000 in
theorem Xu (q : Px) (w : World) (hq : q.ok) :
  Calls Tryz.prog 123 #[Px.v q] w fun e w' => e = .returned (Px.v (jj q)) ∧ Below w.heap.size w w' := by
 obtain ⟨r, g, b, a⟩ := q
 obtain ⟨⟨p1, p2⟩, ⟨p3, p4⟩, ⟨p5, p6⟩, ⟨p7, p8⟩⟩ := hq
 simp only at p1 p2 p3 p4 p5 p6 p7 p8
 by_cases h : a = 0
 ·subst h
  have e1 : jj ⟨r, g, b, 0⟩ = ⟨0, 0, 0, 0⟩ := rfl; rw [e1]; clear e1; simp only [Px.v]; go_enter Tryz.func123, Tryz.ntmps123
  go_wp2; go_returns
  refine ⟨rfl, ?_⟩; repeat' (first | (with_reducible exact Below.refl _ _) | (with_reducible assumption) | (with_reducible refine Below.setCell ?_ (by dsimp only; omega) _) | (with_reducible refine Below.alloc ?_ (by first | omega | (simp only [World.size_alloc, World.size_setCell, World.size_drew]; omega)) _) | (with_reducible refine Below.drew ?_))
 ·have e1 : jj ⟨r, g, b, a⟩ = ⟨r, g, b, a⟩ := if_neg h
  have h' : (a == 0) = false := by simpa using h
  rw [e1]; clear e1 h; simp only [Px.v]; go_enter Tryz.func123, Tryz.ntmps123
  go_wp2; go_returns
  refine ⟨rfl, ?_⟩; repeat' (first | (with_reducible exact Below.refl _ _) | (with_reducible assumption) | (with_reducible refine Below.setCell ?_ (by dsimp only; omega) _) | (with_reducible refine Below.alloc ?_ (by first | omega | (simp only [World.size_alloc, World.size_setCell, World.size_drew]; omega)) _) | (with_reducible refine Below.drew ?_))
set_option maxHeartbeats 400000 in
theorem zd7 (q : Px) (w : World) (hq : q.ok) :
  Calls Tryz.prog 32 #[Px.v q] w fun e w' => e = .returned (Px.v (jj q)) ∧ Below w.heap.size w w' := by
 obtain ⟨r, g, b, a⟩ := q
 obtain ⟨⟨p1, p2⟩, ⟨p3, p4⟩, ⟨p5, p6⟩, ⟨p7, p8⟩⟩ := hq
 simp only at p1 p2 p3 p4 p5 p6 p7 p8
 by_cases h : a = 0
 ·subst h
  have e1 : jj ⟨r, g, b, 0⟩ = ⟨0, 0, 0, 0⟩ := rfl; rw [e1]; clear e1; simp only [Px.v]; go_enter Tryz.func32, Tryz.ntmps32
  go_wp2; go_returns
  refine ⟨rfl, ?_⟩; repeat' (first | (with_reducible exact Below.refl _ _) | (with_reducible assumption) | (with_reducible refine Below.setCell ?_ (by dsimp only; omega) _) | (with_reducible refine Below.alloc ?_ (by first | omega | (simp only [World.size_alloc, World.size_setCell, World.size_drew]; omega)) _) | (with_reducible refine Below.drew ?_))
 ·have e1 : jj ⟨r, g, b, a⟩ = ⟨r, g, b, a⟩ := if_neg h
  have h' : (a == 0) = false := by simpa using h
  rw [e1]; clear e1 h; simp only [Px.v]; go_enter Tryz.func32, Tryz.ntmps32
  go_wp2; go_returns
  refine ⟨rfl, ?_⟩; repeat' (first | (with_reducible exact Below.refl _ _) | (with_reducible assumption) | (with_reducible refine Below.setCell ?_ (by dsimp only; omega) _) | (with_reducible refine Below.alloc ?_ (by first | omega | (simp only [World.size_alloc, World.size_setCell, World.size_drew]; omega)) _) | (with_reducible refine Below.drew ?_))
set_option maxHeartbeats 400000 in
theorem zfp (q : Px) (c : Int) (w : World) (hq : q.ok) :
  Calls Tryz.prog 75 #[Px.v q, .int .i64 c] w fun e w' => e = .returned (Px.v (ZP q c)) ∧ Below w.heap.size w w' := by
 obtain ⟨r, g, b, a⟩ := q
 obtain ⟨⟨p1, p2⟩, ⟨p3, p4⟩, ⟨p5, p6⟩, ⟨p7, p8⟩⟩ := hq
 simp only at p1 p2 p3 p4 p5 p6 p7 p8
 have m1 := x5 a c
 have hk : Px.ok ⟨r, g, b, jp a c⟩ := ⟨⟨p1, p2⟩, ⟨p3, p4⟩, ⟨p5, p6⟩, m1⟩
 simp only [ZP, Px.v]
 go_enter Tryz.func75, Tryz.ntmps75
 go_wp2_with (first | (go_at_call 118; refine (y8 _ _ _).mono ?_; rintro e w' ⟨rfl, rfl⟩))
 refine (Xu ⟨_, _, _, _⟩ _ hk).mono ?_
 rintro e w1 ⟨rfl, hb1⟩
 obtain ⟨hc1, hf1⟩ := Wo hb1
 have hs1 := hb1.size
 try simp only [World.size_alloc, World.size_setCell, World.size_drew] at hs1
 have hbb1 := hb1.mono (B' := w.heap.size) (by first | omega | (simp only [World.size_alloc, World.size_setCell, World.size_drew]; omega))
 simp only [Px.v]
 obtain ⟨hk1, hz1⟩ := ql (show w1.heap[w.heap.size + 1]? = some (.cells #[.int .u8 0, .int .u8 0, .int .u8 0, .int .u8 0] 28 (0, 0)) from by rw [hb1.block _ (by simp)]; simp only [zO, World.size_alloc]; simp)
 go_wp2
 refine bodyPost_ret (by simp [results, Tryz.results75, go_sem, hk1]; try rfl) rfl ?_
 refine ⟨rfl, ?_⟩
 repeat' (first | (with_reducible exact Below.refl _ _) | (with_reducible assumption) | (with_reducible refine Below.setCell ?_ (by dsimp only; omega) _) | (with_reducible refine Below.alloc ?_ (by first | omega | (simp only [World.size_alloc, World.size_setCell, World.size_drew]; omega)) _) | (with_reducible refine Below.drew ?_) | (with_reducible refine Below.trans ?_ hbb1))
/- Contracts of the reference's Blend, channel, Over, Mix. -/
/- Contracts of the reference's channel, Over, Mix. -/
theorem zaV (u v : Int) : 255 * u + 255 * v - u * v = yx u v := rfl
/- Contracts of the reference's Mix and of Over and Mix of package pixel. -/
/- Contracts of Over and Mix of package pixel. -/
theorem zcd (args : Array Value) (w : World) : (callFunc 121 args).run Tryz.prog w = .ok (.enter 121 args) w := by kernel_rfl
theorem zbs (m u v W : Int) (au av am aw : Nat) (w : World) (hu0 : 0 ≤ u) (hu1 : u ≤ 255) (hv0 : 0 ≤ v) (hv1 : v ≤ 255) (hW0 : W = yx u v) (hW1 : 1 ≤ W)
  (cu : w.cell? ⟨au, 0, none⟩ = some (.int .i64 u)) (cv : w.cell? ⟨av, 0, none⟩ = some (.int .i64 v)) (cm : w.cell? ⟨am, 0, none⟩ = some (.int .i64 m)) (cw : w.cell? ⟨aw, 0, none⟩ = some (.int .i64 W)) :
  Clo 121 #[.pointer (some ⟨au, 0, none⟩), .pointer (some ⟨av, 0, none⟩), .pointer (some ⟨am, 0, none⟩), .pointer (some ⟨aw, 0, none⟩)] (kR m u v) w := by
 intro x y wx hb hx0 hx1 hy0 hy1
 have lu := World.block_lt_of_cell? w _ cu
 have lv := World.block_lt_of_cell? w _ cv
 have lm := World.block_lt_of_cell? w _ cm
 have lw := World.block_lt_of_cell? w _ cw
 exact zdS m u v W x y au av am aw wx hu0 hu1 hv0 hv1 hx0 hx1 hy0 hy1 hW0 hW1 (Nat.lt_of_lt_of_le lu hb.size) (Nat.lt_of_lt_of_le lv hb.size) (Nat.lt_of_lt_of_le lm hb.size) (Nat.lt_of_lt_of_le lw hb.size)
  ((hb.cell lu).trans cu) ((hb.cell lv).trans cv) ((hb.cell lm).trans cm) ((hb.cell lw).trans cw)
/- The contract of Over of package pixel. -/
set_option maxHeartbeats 1000000 in
theorem zfq (q p : Px) (m c : Int) (w : World) (hq : q.ok) (hp : p.ok) :
  Calls Tryz.prog 73 #[Px.v q, Px.v p, .int .i64 m, .int .i64 c] w fun e w' => e = .returned (Px.v (u0 q p m c)) ∧ Below w.heap.size w w' := by
 obtain ⟨qr, qg, qb, qa⟩ := q
 obtain ⟨pr, pg, pb, pa⟩ := p
 have hka := Lib.hid hq
 have hkb := Lib.hid hp
 obtain ⟨⟨q1, q2⟩, ⟨q3, q4⟩, ⟨q5, q6⟩, ⟨q7, q8⟩⟩ := hq
 obtain ⟨⟨p1, p2⟩, ⟨p3, p4⟩, ⟨p5, p6⟩, ⟨p7, p8⟩⟩ := hp
 simp only at p1 p2 p3 p4 p5 p6 p7 p8 q1 q2 q3 q4 q5 q6 q7 q8
 have m1 := x5 pa c
 have k := u4 m1.1 m1.2 q7 q8
 have kk : 0 ≤ 255 * jp pa c + 255 * qa - jp pa c * qa ∧ 255 * jp pa c + 255 * qa - jp pa c * qa ≤ 65025 := k
 have k1 : 0 ≤ jp pa c * qa ∧ jp pa c * qa ≤ 255 * 255 := j5 m1.1 m1.2 q7 q8
 by_cases h : yx (jp pa c) qa = 0
 ·have e1 : u0 ⟨qr, qg, qb, qa⟩ ⟨pr, pg, pb, pa⟩ m c = ⟨0, 0, 0, 0⟩ := if_pos h
  have h' : (255 * jp pa c + 255 * qa - jp pa c * qa == 0) = true := by simpa [yx] using h
  rw [e1]; clear e1 h k; simp only [Px.v]; go_enter Tryz.func73, Tryz.ntmps73
  go_wp2; go_region_held3 (fun wx => wx.cell? ⟨w.heap.size, 3, none⟩ = some (.int .u8 qa) ∧ wx.cell? ⟨w.heap.size + 1, 3, none⟩ = some (.int .u8 pa)) (simp [go_sem]) (first | (go_at_call 118; refine (y8 _ _ _).mono ?_; rintro e w' ⟨rfl, rfl⟩))
  all_goals (
   go_wp2_with (first | (go_at_call 120; refine (Qi _ _ _ (by omega) (by omega) (by omega) (by omega)).mono ?_; rintro e w' ⟨rfl, rfl⟩))
   go_returns
   refine ⟨rfl, ?_⟩; repeat' (first | (with_reducible exact Below.refl _ _) | (with_reducible assumption) | (with_reducible refine Below.setCell ?_ (by dsimp only; omega) _) | (with_reducible refine Below.alloc ?_ (by first | omega | (simp only [World.size_alloc, World.size_setCell, World.size_drew]; omega)) _) | (with_reducible refine Below.drew ?_)))
 ·have e1 : u0 ⟨qr, qg, qb, qa⟩ ⟨pr, pg, pb, pa⟩ m c = ⟨kR m (jp pa c) qa qr pr, kR m (jp pa c) qa qg pg, kR m (jp pa c) qa qb pb, qm (255 * jp pa c + 255 * qa - jp pa c * qa) 255⟩ := if_neg h
  have h' : (255 * jp pa c + 255 * qa - jp pa c * qa == 0) = false := by simpa [yx] using h
  have k3 : 1 ≤ 255 * jp pa c + 255 * qa - jp pa c * qa := by unfold yx at h k; omega
  have kr : 0 ≤ qm (255 * jp pa c + 255 * qa - jp pa c * qa) 255 ∧ qm (255 * jp pa c + 255 * qa - jp pa c * qa) 255 ≤ 255 := yh kk.1 (by omega) (by omega); have hφ : ∀ x y, 0 ≤ x → x ≤ 255 → 0 ≤ y → y ≤ 255 → 0 ≤ kR m (jp pa c) qa x y ∧ kR m (jp pa c) qa x y ≤ 255 :=
   fun x y h1 h2 h3 h4 => uZ m1.1 m1.2 q7 q8 h1 h2 h3 h4 h
  have Hφ := Lib.hid hφ; rw [e1]; clear e1 h hφ k; simp only [Px.v]; go_enter Tryz.func73, Tryz.ntmps73
  go_wp2; go_region_held3 (fun wx => wx.cell? ⟨w.heap.size, 3, none⟩ = some (.int .u8 qa) ∧ wx.cell? ⟨w.heap.size + 1, 3, none⟩ = some (.int .u8 pa)) (simp [go_sem]) (first | (go_at_call 118; refine (y8 _ _ _).mono ?_; rintro e w' ⟨rfl, rfl⟩))
  all_goals (
   go_wp2; refine qZ 6 (by kernel_rfl) (by kernel_rfl) ?_; simp only [List.take_succ_cons, List.take_zero, List.drop_succ_cons, List.drop_zero]; repeat (go_big_quiet_step ((first | (go_at_call 120; exact xV (Qi _ _ _ (by omega) (by omega) (by omega) (by omega))) | (go_at_call 119; exact zC (Vr ⟨_, _, _, _⟩ ⟨_, _, _, _⟩ _ 121 _ (kR m (jp pa c) qa) _ hka.out hkb.out (by omega) (by omega) Hφ.out zcd (zbs _ _ _ _ _ _ _ _ _ (by omega) (by omega) (by omega) (by omega) (zaV _ _) (by omega) (by simp [go_sem]) (by simp [go_sem]) (by simp [go_sem]) (by simp [go_sem])))))))
   refine wpQuiet_nil ?_; intro w1 hb1; obtain ⟨hc1, hf1⟩ := Wo hb1; have hs1 := hb1.size; try simp only [World.size_alloc, World.size_setCell, World.size_drew] at hs1
   have hbb1 := hb1.mono (B' := w.heap.size) (by first | omega | (simp only [World.size_alloc, World.size_setCell, World.size_drew]; omega))
   have l1_0 : w.heap.size < w1.heap.size := by omega
   have l1_1 : w.heap.size + 1 < w1.heap.size := by omega
   have l1_2 : w.heap.size + 1 + 1 < w1.heap.size := by omega
   have l1_3 : w.heap.size + 1 + 1 + 1 < w1.heap.size := by omega
   have l1_4 : w.heap.size + 1 + 1 + 1 + 1 < w1.heap.size := by omega
   have l1_5 : w.heap.size + 1 + 1 + 1 + 1 + 1 < w1.heap.size := by omega
   have l1_6 : w.heap.size + 1 + 1 + 1 + 1 + 1 + 1 < w1.heap.size := by omega
   simp only [Px.v]; go_wp2; refine bodyPost_ret (by simp [results, Tryz.results73, go_sem, hc1, l1_0, l1_1, l1_2, l1_3, l1_4, l1_5, l1_6]; try rfl) rfl ?_
   refine ⟨rfl, ?_⟩; repeat' (first | (with_reducible exact Below.refl _ _) | (with_reducible assumption) | (with_reducible refine Below.setCell ?_ (by dsimp only; omega) _) | (with_reducible refine Below.alloc ?_ (by first | omega | (simp only [World.size_alloc, World.size_setCell, World.size_drew]; omega)) _) | (with_reducible refine Below.drew ?_) | (with_reducible refine Below.trans ?_ hbb1)))
end Go.Proofs.YtepelndbbhdofaaGreatDoor
/- Quiet walks through regions that draw their order: tiles and pixels loaded. -/
namespace Go.Proofs.YtepelndbbhdofaaGreatDoor
open Go.RowKit Pl
set_option linter.unusedVariables false
set_option linter.unusedSimpArgs false
set_option maxRecDepth 20000
theorem xO {w : World} {b : Nat} {f : Nat → Px} (h : zX w b f) : ∀ w', (∃ u, w' = ov w u) → zX w' b f := by
 rintro w' ⟨u, rfl⟩
 exact h.of_eq ((qS w u).block _ h.lt)
theorem ky {w : World} {b : Nat} {p : Px} (h : jF w b p) : ∀ w', (∃ u, w' = ov w u) → jF w' b p := by
 rintro w' ⟨u, rfl⟩
 exact h.of_eq ((qS w u).block _ h.lt)
section
variable {C : World → Prop} {a : Act} {o : Oper} {K : Act → Prop}
theorem jU {f : Nat → Px} {x : Operand} (h : o.op = .load 123 x) (b' : Nat) (hx : a.eval x = .pointer (some ⟨b', 0, none⟩)) (ht : ∀ w, C w → zX w b' f) (hk : K (a.put o.dst (Tile.v f))) : o.quiet Tryz.prog a C K :=
 ⟨_, fun w hw => by unfold Oper.quietAt execOp; simp only [h, hx, uo (ht w hw), Sem.run_bind, Sem.run_pure, Result.andThen_ok]; exact ⟨rfl, rfl⟩, hk⟩
theorem qJ {p : Px} {x : Operand} (h : o.op = .load 28 x) (b : Nat) (hx : a.eval x = .pointer (some ⟨b, 0, none⟩)) (ht : ∀ w, C w → jF w b p) (hk : K (a.put o.dst (Px.v p))) : o.quiet Tryz.prog a C K :=
 ⟨_, fun w hw => by unfold Oper.quietAt execOp; simp only [h, hx, ZY (ht w hw), Sem.run_bind, Sem.run_pure, Result.andThen_ok]; exact ⟨rfl, rfl⟩, hk⟩
theorem kj {f : Nat → Px} {x : Operand} {b : Nat} (h : o.op = .load 28 x) (j' : Nat) (hx : a.eval x = .pointer (some ⟨b, j', none⟩)) (ht : ∀ w, C w → zX w b f) (i : Nat) (hi : i < 64) (hj : j' = i * 4) (hk : K (a.put o.dst (Px.v (f i)))) : o.quiet Tryz.prog a C K :=
 ⟨_, fun w hw => by subst hj; unfold Oper.quietAt execOp; simp only [h, hx, ZZ (ht w hw) hi, Sem.run_bind, Sem.run_pure, Result.andThen_ok]; exact ⟨rfl, rfl⟩, hk⟩
end
@[go_sem] theorem zgM (op : BinOp) (x y : Operand) (p q : Px) (w : World) : (eqGuard op 28 x y (Px.v p) (Px.v q)).run Tryz.prog w = .ok () w := run_eqGuard_agg w op 28 x y _ _ (by kernel_rfl)
@[go_sem] theorem zfJ (op : BinOp) (x y : Operand) (p q : Nat → Px) (w : World) : (eqGuard op 123 x y (Tile.v p) (Tile.v q)).run Tryz.prog w = .ok () w := by
 unfold Tile.v
 exact run_eqGuard_agg w op 123 x y _ _ (by kernel_rfl)
/- Contracts of Fill (reference), Clean, Same, Zero, Solid. -/
set_option maxHeartbeats 1000000 in
set_option maxRecDepth 20000 in
theorem yJ (t : Nat → Px) (w : World) (ht : Zr t) : Calls Tryz.prog 101 #[Tile.v t] w fun e w' => e = .returned (Tile.v (qF t)) ∧ Below w.heap.size w w' := by
 go_enter Tryz.func101, Tryz.ntmps101
 go_wp2_with (first | (refine qM rfl _ rfl _ rfl t1 ?_; simp only [zo]) | (refine xZ rfl rfl ?_; intro w2 t2 hb2 hz2; have l2 := Nat.lt_of_lt_of_eq (Nat.lt_succ_self _) hz2.symm; clear hz2; replace t1 := t1.of_eq (hb2.block _ t1.lt); simp only [zo]) | (refine jx rfl _ rfl _ rfl ?_; intro w1 t1 hb1 hz1; have l1 := Nat.lt_of_lt_of_eq (Nat.lt_succ_self _) hz1.symm; clear hz1; simp only [zo]))
 have B2 : Below w.heap.size w w2 := by
  repeat' (first | (with_reducible exact Below.refl _ _) | (with_reducible assumption) | (with_reducible refine Below.trans ?_ (hb1.mono (by omega))) | (with_reducible refine Below.trans ?_ (hb2.mono (by omega))))
 go_loopw [3, 4, 6] (fun _ _ i wr => ∃ k : Nat, k ≤ 64 ∧ i = .int .i64 k ∧ Below w.heap.size w wr ∧ w2.heap.size ≤ wr.heap.size ∧ zX wr w.heap.size (vN t (qF t) k) ∧ zX wr w1.heap.size zfn) (fun _ _ i _ => (64 - intOf i).toNat)
 case atStart => exact ⟨0, by omega, rfl, B2, Nat.le_refl _, by rw [Jt]; exact t1, t2⟩
 case round =>
  obtain ⟨k, hk, rfl, Br, hr, t4, t5⟩ := hrel; clear t1 t2; by_cases zh : k < 64
  ·have hix := QZ t k zh
   have hok := ht k zh; go_wp2_with (first | (go_at_call 123; refine (Xu _ _ hok).mono ?_; rintro e w5 ⟨rfl, hb5⟩; have hz5 := hb5.size; replace t4 := t4.of_eq (hb5.block _ t4.lt); replace t5 := t5.of_eq (hb5.block _ t5.lt); replace t3 := t3.of_eq (hb5.block _ t3.lt)) | (refine kG rfl _ _ rfl _ _ rfl _ rfl t4 (k) (by omega) (by first | rfl | omega) ?_; clear t4; intro w6 t4 hc6 hz6; replace hz6 := Nat.le_of_eq hz6.symm; replace t5 := t5.of_eq (hc6.block _ t5.lt (by omega)); simp only [zo]) | (refine jI rfl _ rfl _ rfl t3 ?_; simp only [zo]) | (refine qf rfl _ _ rfl _ rfl _ rfl t3 ?_; clear t3; intro w4 t3 hc4 hz4; replace hz4 := Nat.le_of_eq hz4.symm; replace t4 := t4.of_eq (hc4.block _ t4.lt (by omega)); replace t5 := t5.of_eq (hc4.block _ t5.lt (by omega)); simp only [zo]) | (refine yE rfl rfl ?_; intro w3 t3 hb3 hz3; have l3 := Nat.lt_of_lt_of_eq (Nat.lt_succ_self _) hz3.symm; clear hz3; replace t4 := t4.of_eq (hb3.block _ t4.lt); replace t5 := t5.of_eq (hb3.block _ t5.lt); simp only [zo]))
   go_roundw
   case rel => exact ⟨k + 1, by omega, by go_num, by repeat' (first | (with_reducible exact Below.refl _ _) | (with_reducible assumption) | (with_reducible refine Below.trans ?_ (hb3.mono (by omega))) | (with_reducible refine Below.trans ?_ (hb5.mono (by omega))) | (with_reducible refine qV.below ?_ hc4 (by omega) (by omega)) | (with_reducible refine qV.below ?_ hc6 (by omega) (by omega))), by omega, by rw [← Js]; exact t4, t5⟩
   case measure => simp [intOf]; omega
  ·obtain rfl : k = 64 := by omega
   replace t4 := t4.congr (Xi _ _); go_wp2_with (first | (refine qH rfl _ _ rfl _ rfl _ rfl t5 ?_; clear t5; intro w3 t5 hc3 hz3; replace hz3 := Nat.le_of_eq hz3.symm; simp only [zo]) | (refine qM rfl _ rfl _ rfl t4 ?_; simp only [zo]))
   refine bodyPost_ret (jW rfl _ _ (w1.heap.size) rfl t5) rfl ?_; refine ⟨rfl, ?_⟩; repeat' (first | (with_reducible exact Below.refl _ _) | (with_reducible assumption) | (with_reducible refine qV.below ?_ hc3 (by omega) (by omega)))
set_option maxHeartbeats 1000000 in
set_option maxRecDepth 20000 in
theorem yK (t : Nat → Px) (w : World) (ht : Zr t) : Calls Tryz.prog 169 #[Tile.v t] w fun e w' => e = .returned (Tile.v (qF t)) ∧ Below w.heap.size w w' := by
 go_enter Tryz.func169, Tryz.ntmps169
 go_wp2_with (first | (refine xZ rfl rfl ?_; intro w2 t2 hb2 hz2; have l2 := Nat.lt_of_lt_of_eq (Nat.lt_succ_self _) hz2.symm; clear hz2; replace t1 := t1.of_eq (hb2.block _ t1.lt); simp only [zo]) | (refine jx rfl _ rfl _ rfl ?_; intro w1 t1 hb1 hz1; have l1 := Nat.lt_of_lt_of_eq (Nat.lt_succ_self _) hz1.symm; clear hz1; simp only [zo]))
 have B2 : Below w.heap.size w w2 := by
  repeat' (first | (with_reducible exact Below.refl _ _) | (with_reducible assumption) | (with_reducible refine Below.trans ?_ (hb1.mono (by omega))) | (with_reducible refine Below.trans ?_ (hb2.mono (by omega))))
 go_loopw [3] (fun i wr => ∃ k : Nat, k ≤ 64 ∧ i = .int .i64 k ∧ Below w.heap.size w wr ∧ w2.heap.size ≤ wr.heap.size ∧ zX wr w.heap.size (vN t (qF t) k) ∧ zX wr w1.heap.size zfn) (fun i _ => (64 - intOf i).toNat)
 case atStart => exact ⟨0, by omega, rfl, B2, Nat.le_refl _, by rw [Jt]; exact t1, t2⟩
 case round =>
  obtain ⟨k, hk, rfl, Br, hr, t4, t5⟩ := hrel; clear t1 t2; by_cases zh : k < 64
  ·have hok : (vN t (qF t) k k).ok := by rw [KZ]; exact ht k zh
   go_wp2_with (first | (go_at_call 32; go_loud (refine (zd7 _ _ hok).mono ?_; rintro e w5 ⟨rfl, hb5⟩; have hz5 := hb5.size; replace t4 := t4.of_eq (hb5.block _ t4.lt); replace t5 := t5.of_eq (hb5.block _ t5.lt))) | (refine kG rfl _ _ rfl _ _ rfl _ rfl t4 (k) (by omega) (by first | rfl | omega) ?_; clear t4; intro w6 t4 hc6 hz6; replace hz6 := Nat.le_of_eq hz6.symm; replace t5 := t5.of_eq (hc6.block _ t5.lt (by omega)); simp only [zo]) | (refine ut rfl _ rfl _ _ rfl t4 (k) (by omega) (by first | rfl | omega) ?_; simp only [zo]))
   rw [KZ] at t4; go_roundw
   case rel => exact ⟨k + 1, by omega, by go_num, by repeat' (first | (with_reducible exact Below.refl _ _) | (with_reducible assumption) | (with_reducible refine Below.trans ?_ (hb5.mono (by omega))) | (with_reducible refine qV.below ?_ hc6 (by omega) (by omega))), by omega, by rw [← Js]; exact t4, t5⟩
   case measure => simp [intOf]; omega
  ·obtain rfl : k = 64 := by omega
   replace t4 := t4.congr (Xi _ _); go_wp2_with (first | (refine qH rfl _ _ rfl _ rfl _ rfl t5 ?_; clear t5; intro w3 t5 hc3 hz3; replace hz3 := Nat.le_of_eq hz3.symm; simp only [zo]) | (refine qM rfl _ rfl _ rfl t4 ?_; simp only [zo]))
   refine bodyPost_ret (jW rfl _ _ (w1.heap.size) rfl t5) rfl ?_; refine ⟨rfl, ?_⟩; repeat' (first | (with_reducible exact Below.refl _ _) | (with_reducible assumption) | (with_reducible refine qV.below ?_ hc3 (by omega) (by omega)))
theorem wh {a b : Nat → Px} (h : ∀ j, j < 64 → a j = b j) : kO a b = true := by unfold kO; exact decide_eq_true fun i hi => h i (List.mem_range.1 hi)
theorem zaB {a b : Nat → Px} {k : Nat} (hk : k < 64) (h : a k ≠ b k) : kO a b = false := by unfold kO; exact decide_eq_false fun e => h (e k (List.mem_range.2 hk))
set_option maxHeartbeats 1000000 in
set_option maxRecDepth 20000 in
theorem Zp (a b : Nat → Px) (w : World) : Calls Tryz.prog 168 #[Tile.v a, Tile.v b] w fun e w' => e = .returned (.bool (kO a b)) ∧ Below w.heap.size w w' := by
 go_enter Tryz.func168, Tryz.ntmps168
 go_wp2_with (first | (refine jx rfl _ rfl _ rfl ?_; intro w2 t2 hb2 hz2; have l2 := Nat.lt_of_lt_of_eq (Nat.lt_succ_self _) hz2.symm; clear hz2; replace t1 := t1.of_eq (hb2.block _ t1.lt); simp only [zo]) | (refine jx rfl _ rfl _ rfl ?_; intro w1 t1 hb1 hz1; have l1 := Nat.lt_of_lt_of_eq (Nat.lt_succ_self _) hz1.symm; clear hz1; simp only [zo]))
 have B2 : Below w.heap.size w w2 := by
  repeat' (first | (with_reducible exact Below.refl _ _) | (with_reducible assumption) | (with_reducible refine Below.trans ?_ (hb1.mono (by omega))) | (with_reducible refine Below.trans ?_ (hb2.mono (by omega))))
 go_loopw [5] (fun i wr => ∃ k : Nat, k ≤ 64 ∧ i = .int .i64 k ∧ Below w.heap.size w wr ∧ w2.heap.size ≤ wr.heap.size ∧ zX wr w.heap.size a ∧ zX wr w1.heap.size b ∧ ∀ j, j < k → a j = b j) (fun i _ => (64 - intOf i).toNat)
 case atStart => exact ⟨0, by omega, rfl, B2, Nat.le_refl _, t1, t2, fun j hj => by omega⟩
 case round =>
  obtain ⟨k, hk, rfl, Br, hr, t4, t5, heq⟩ := hrel; have Heq := Lib.hid heq; clear t1 t2 heq; by_cases zh : k < 64
  ·by_cases hne : a k = b k
   ·have hcmp : ∀ w, (binOp .neq 28 (Px.v (a k)) (Px.v (b k))).run Tryz.prog w = .ok (.bool false) w := fun w => by rw [XX]; simp [hne]
    have Hne := Lib.hid hne; clear hne; go_wp2; refine zA (by kernel_rfl) (by kernel_rfl) ?_; repeat (first | go_big_quiet_skip | (go_big_quiet_want; first | (refine kj rfl _ rfl (xO t4) (k) (by omega) (by first | rfl | omega) ?_; simp only [zo]; go_big_quiet_on) | (refine kj rfl _ rfl (xO t5) (k) (by omega) (by first | rfl | omega) ?_; simp only [zo]; go_big_quiet_on) | (go_big_quiet_op; first | go_big_quiet_on | go_big_quiet_call ((fail)))))
    refine wpQuiet_nil ?_; intro w3 hb3; have hz3 := hb3.size; replace t4 := t4.of_eq (hb3.block _ t4.lt); replace t5 := t5.of_eq (hb3.block _ t5.lt); go_wp2; go_roundw
    case rel => exact ⟨k + 1, by omega, by go_num, by repeat' (first | (with_reducible exact Below.refl _ _) | (with_reducible assumption) | (with_reducible refine Below.trans ?_ (hb3.mono (by omega)))), by omega, t4, t5, fun j hj => by
     by_cases e : j = k
     ·rw [e]; exact Hne.out
     ·exact Heq.out j (by omega)⟩
    case measure => simp [intOf]; omega
   ·have hcmp : ∀ w, (binOp .neq 28 (Px.v (a k)) (Px.v (b k))).run Tryz.prog w = .ok (.bool true) w := fun w => by rw [XX]; simp [hne]
    have e1 := Lib.hid (zaB zh hne); clear hne; go_wp2; refine zA (by kernel_rfl) (by kernel_rfl) ?_; repeat (first | go_big_quiet_skip | (go_big_quiet_want; first | (refine kj rfl _ rfl (xO t4) (k) (by omega) (by first | rfl | omega) ?_; simp only [zo]; go_big_quiet_on) | (refine kj rfl _ rfl (xO t5) (k) (by omega) (by first | rfl | omega) ?_; simp only [zo]; go_big_quiet_on) | (go_big_quiet_op; first | go_big_quiet_on | go_big_quiet_call ((fail)))))
    refine wpQuiet_nil ?_; intro w3 hb3; have hz3 := hb3.size; replace t4 := t4.of_eq (hb3.block _ t4.lt); replace t5 := t5.of_eq (hb3.block _ t5.lt); go_wp2; go_ret; refine ⟨by rw [e1.out]; rfl, ?_⟩
    repeat' (first | (with_reducible exact Below.refl _ _) | (with_reducible assumption) | (with_reducible refine Below.trans ?_ (hb3.mono (by omega))))
  ·obtain rfl : k = 64 := by omega
   have e1 := Lib.hid (wh Heq.out); go_wp2; go_ret; refine ⟨by rw [e1.out]; rfl, ?_⟩
   repeat' (first | (with_reducible exact Below.refl _ _) | (with_reducible assumption))
/- Contracts of Zero, Solid, and of the reference's Flip and Turn. -/
/-- The pixels in d are those of g, the others those of f. -/
def ziu (d : Nat → Bool) (f g : Nat → Px) : Nat → Px := fun j => if d j = true then g j else f j
def zgE (y x j : Nat) : Bool := decide (j < 8 * y + x)
def zgF (y x j : Nat) : Bool := decide (7 - j % 8 < y ∨ (7 - j % 8 = y ∧ j / 8 < x))
def jh (t : Nat → Px) : Bool := decide (∀ i ∈ List.range 64, (t i).a = 0)
theorem ze5 (t : Nat → Px) : kO (qF t) (fun _ => Px.zero) = jh t := by
 unfold kO jh
 rw [Bool.eq_iff_iff]
 simp only [decide_eq_true_eq]
 refine ⟨fun h i hi => ?_, fun h i hi => ?_⟩
 ·have := h i hi
  unfold qF jj at this; split at this
  ·assumption
  ·rw [this]; rfl
 ·unfold qF jj
  rw [if_pos (h i hi)]
theorem zaC (t : Nat → Px) (w : World) : (binOp .eql 123 (Tile.v (qF t)) (Tile.v fun _ => Px.zero)).run Tryz.prog w = .ok (.bool (jh t)) w := by
 rw [zcn, ze5]
set_option maxHeartbeats 1000000 in
set_option maxRecDepth 20000 in
theorem yn (t : Nat → Px) (w : World) (ht : Zr t) : Calls Tryz.prog 100 #[Tile.v t] w fun e w' => e = .returned (.bool (jh t)) ∧ Below w.heap.size w w' := by
 have hcmp := zaC t
 go_enter Tryz.func100, Tryz.ntmps100
 go_wp2_with (first | (go_at_call 101; refine (yJ _ _ ht).mono ?_; rintro e w2 ⟨rfl, hb2⟩; have hz2 := hb2.size; replace t1 := t1.of_eq (hb2.block _ t1.lt)) | (refine qM rfl _ rfl _ rfl t1 ?_; simp only [zo]) | (refine vd rfl rfl ?_; simp only [zo]) | (refine jx rfl _ rfl _ rfl ?_; intro w1 t1 hb1 hz1; have l1 := Nat.lt_of_lt_of_eq (Nat.lt_succ_self _) hz1.symm; clear hz1; simp only [zo]))
 go_ret
 refine ⟨rfl, ?_⟩
 repeat' (first | (with_reducible exact Below.refl _ _) | (with_reducible assumption) | (with_reducible refine Below.trans ?_ (hb1.mono (by omega))) | (with_reducible refine Below.trans ?_ (hb2.mono (by omega))))
set_option maxHeartbeats 1000000 in
set_option maxRecDepth 20000 in
theorem uv (t : Nat → Px) (w : World) : Calls Tryz.prog 167 #[Tile.v t] w fun e w' => e = .returned (.bool (jh t)) ∧ Below w.heap.size w w' := by
 go_enter Tryz.func167, Tryz.ntmps167
 go_wp2_with (first | (refine jx rfl _ rfl _ rfl ?_; intro w1 t1 hb1 hz1; have l1 := Nat.lt_of_lt_of_eq (Nat.lt_succ_self _) hz1.symm; clear hz1; simp only [zo]))
 go_loopw [3] (fun i wr => ∃ k : Nat, k ≤ 64 ∧ i = .int .i64 k ∧ Below w.heap.size w wr ∧ w1.heap.size ≤ wr.heap.size ∧ zX wr w.heap.size t ∧ ∀ j, j < k → (t j).a = 0) (fun i _ => (64 - intOf i).toNat)
 case atStart => exact ⟨0, by omega, rfl, hb1, Nat.le_refl _, t1, fun j hj => by omega⟩
 case round =>
  obtain ⟨k, hk, rfl, Br, hr, t4, heq⟩ := hrel; have Heq := Lib.hid heq; clear t1 heq; by_cases zh : k < 64
  ·obtain ⟨c0, c1, c2, c3⟩ := t4.cells zh
   cases hne : ((t k).a == 0) with
   | true =>
    have Hne : Hid ((t k).a = 0) := Lib.hid (by simpa using hne); go_wp2; go_roundw
    case rel => exact ⟨k + 1, by omega, by go_num, Br, hr, t4, fun j hj => by
     by_cases e : j = k
     ·rw [e]; exact Hne.out
     ·exact Heq.out j (by omega)⟩
    case measure => simp [intOf]; omega
   | false =>
    have e1 : Hid (jh t = false) := Lib.hid (by unfold jh; exact decide_eq_false fun e => by simp [e k (List.mem_range.2 zh)] at hne)
    go_wp2; go_ret; exact ⟨by rw [e1.out]; rfl, Br⟩
  ·obtain rfl : k = 64 := by omega
   have e1 : Hid (jh t = true) := Lib.hid (by unfold jh; exact decide_eq_true fun i hi => Heq.out i (List.mem_range.1 hi))
   go_wp2; go_ret; exact ⟨by rw [e1.out]; rfl, Br⟩
def zf5 (t : Nat → Px) : Bool := kO t (zfc (t 0))
def zhC (t : Nat → Px) : Px := if zf5 t = true then t 0 else Px.zero
theorem jF.cells {w : World} {b : Nat} {p : Px} (h : jF w b p) : w.cell? ⟨b, 0, none⟩ = some (.int .u8 p.r) ∧ w.cell? ⟨b, 1, none⟩ = some (.int .u8 p.g) ∧ w.cell? ⟨b, 2, none⟩ = some (.int .u8 p.b) ∧ w.cell? ⟨b, 3, none⟩ = some (.int .u8 p.a) := by
 obtain ⟨hc, _⟩ := ql h
 exact ⟨hc 0, hc 1, hc 2, hc 3⟩
/- Plain: rectangles; rasters as lists of tiles at positions; what package raster computes. -/
/-! ### Rectangles -/
structure Rc where
 x0 : Int
 y0 : Int
 x1 : Int
 y1 : Int
def Rc.zero : Rc := ⟨0, 0, 0, 0⟩
def Rc.v (r : Rc) : Value := .agg #[.int .i64 r.x0, .int .i64 r.y0, .int .i64 r.x1, .int .i64 r.y1]
def qn (r : Rc) : Bool := decide (r.x1 ≤ r.x0 ∨ r.y1 ≤ r.y0)
def qU (r : Rc) (x y : Int) : Bool := decide (r.x0 ≤ x ∧ x < r.x1 ∧ r.y0 ≤ y ∧ y < r.y1)
def uY (r : Rc) : Bool := decide (-65536 ≤ r.x0 ∧ -65536 ≤ r.y0 ∧ r.x1 ≤ 65536 ∧ r.y1 ≤ 65536)
def j9 (r : Rc) : Bool := !qn r && uY r
def kQ (r : Rc) : Rc := if qn r = true then Rc.zero else r
def yf (a b : Rc) : Rc := kQ ⟨max a.x0 b.x0, max a.y0 b.y0, min a.x1 b.x1, min a.y1 b.y1⟩
def j0 (a b : Rc) : Rc := if qn a = true then kQ b else if qn b = true then a else ⟨min a.x0 b.x0, min a.y0 b.y0, max a.x1 b.x1, max a.y1 b.y1⟩
def vL (r : Rc) : Int := if qn r = true then 0 else (r.x1 - r.x0) * (r.y1 - r.y0)
/-! ### Positions, tiles at positions -/
def qQ (ax ay bx bv : Int) : Bool := decide (ay < bv ∨ (ay = bv ∧ ax < bx))
def xT (ax ay bx bv : Int) : Bool := decide (ax = bx ∧ ay = bv)
def z8 (x y : Int) : Bool := decide (-8192 ≤ x ∧ x ≤ 8191 ∧ -8192 ≤ y ∧ y ≤ 8191)
structure TA where
 x : Int
 y : Int
 t : Nat → Px
def TA.none : TA := ⟨0, 0, fun _ => Px.zero⟩
def aT (ls : List TA) (k : Nat) : TA := ls.getD k TA.none
theorem kN {ls : List TA} {k : Nat} (h : k < ls.length) : ls[k]? = some (aT ls k) := by
 unfold aT
 rw [List.getD_eq_getElem?_getD, List.getElem?_eq_getElem h]
 rfl
theorem zeb (ls : List TA) (i k : Nat) : aT (ls.drop i) k = aT ls (i + k) := by
 unfold aT
 rw [List.getD_eq_getElem?_getD, List.getD_eq_getElem?_getD, List.getElem?_drop]
theorem Ql (e : TA) (r : List TA) (k : Nat) : aT (e :: r) (k + 1) = aT r k := rfl
theorem zej {ls : List TA} {k : Nat} (h : k < ls.length) : ls.drop k = aT ls k :: ls.drop (k + 1) := by
 rw [List.drop_eq_getElem_cons h]
 have := kN h
 rw [List.getElem?_eq_getElem h] at this
 rw [Option.some.inj this]
def yr (a b : TA) : Bool := qQ a.x a.y b.x b.y
def ka (e : TA) : Bool := z8 e.x e.y && (!jh e.t && kO (qF e.t) e.t)
def yB (ls : List TA) (j : Nat) : Bool := ka (aT ls j) && (decide (j = 0) || yr (aT ls (j - 1)) (aT ls j))
def z2 (ls : List TA) : Bool := decide (ls.length ≤ 1024) && decide (∀ j ∈ List.range ls.length, yB ls j = true)
def qc (ls : List TA) : List TA := if z2 ls = true then ls else []
def qN (ls : List TA) : Prop := ∀ e ∈ ls, Zr e.t
theorem qN.at {ls : List TA} (h : qN ls) {k : Nat} (hk : k < ls.length) : Zr (aT ls k).t := h _ (List.mem_iff_getElem?.2 ⟨k, kN hk⟩)
theorem qN.nil : qN [] := fun e h => by cases h
theorem qN.append {a b : List TA} (h : qN a) (k : qN b) : qN (a ++ b) := fun e he => by
 rcases List.mem_append.1 he with he | he
 ·exact h e he
 ·exact k e he
theorem qN.take {a : List TA} (h : qN a) (n : Nat) : qN (a.take n) := fun e he => h e (List.mem_of_mem_take he)
theorem qN.drop {a : List TA} (h : qN a) (n : Nat) : qN (a.drop n) := fun e he => h e (List.mem_of_mem_drop he)
theorem Jz {ls : List TA} (h : 1024 < ls.length) : z2 ls = false := by
 unfold z2; rw [decide_eq_false (by omega)]; rfl
theorem yj {ls : List TA} {j : Nat} (hj : j < ls.length) (h : yB ls j = false) : z2 ls = false := by
 unfold z2
 rw [Bool.and_eq_false_iff]
 right
 exact decide_eq_false fun e => by rw [e j (List.mem_range.2 hj)] at h; cases h
theorem kD {ls : List TA} (h : ls.length ≤ 1024) (k : ∀ j, j < ls.length → yB ls j = true) : z2 ls = true := by
 unfold z2
 rw [decide_eq_true h, Bool.true_and]
 exact decide_eq_true fun j hj => k j (List.mem_range.1 hj)
theorem j1 {ls : List TA} : z2 ls = true ↔ ls.length ≤ 1024 ∧ ∀ j, j < ls.length → yB ls j = true := by
 constructor
 ·intro h
  unfold z2 at h; obtain ⟨h1, h2⟩ := Bool.and_eq_true_iff.1 h; exact ⟨of_decide_eq_true h1, fun j hj => of_decide_eq_true h2 j (List.mem_range.2 hj)⟩
 ·rintro ⟨h1, h2⟩; exact kD h1 h2
theorem jO : z2 [] = true := kD (by simp) (fun j hj => absurd hj (Nat.not_lt_zero _))
theorem xy {ls : List TA} (h : z2 ls = true) : qc ls = ls := by unfold qc; rw [if_pos h]
theorem QV {ls : List TA} (h : z2 ls = false) : qc ls = [] := by unfold qc; rw [h]; rfl
theorem jG (ls : List TA) : z2 (qc ls) = true := by
 by_cases h : z2 ls = true
 ·rw [xy h]; exact h
 ·rw [QV (by simpa using h)]; exact jO
theorem yL {ls : List TA} (h : qN ls) : qN (qc ls) := by
 unfold qc; split
 ·exact h
 ·exact qN.nil
theorem yt (ls : List TA) : (qc ls).length ≤ 1024 := (j1.1 (jG ls)).1
theorem zcs (ls : List TA) : (qc ls).length ≤ ls.length := by
 unfold qc; split
 ·exact Nat.le_refl _
 ·exact Nat.zero_le _
/-- In increasing order. -/
def uO (ls : List TA) : Prop := ls.Pairwise fun a b => yr a b = true
theorem XF {a b c : TA} (h : yr a b = true) (k : yr b c = true) : yr a c = true := by
 unfold yr qQ at *
 have h := of_decide_eq_true h
 have k := of_decide_eq_true k
 exact decide_eq_true (by omega)
theorem zdC : ∀ (ls : List TA), (∀ j, 0 < j → j < ls.length → yr (aT ls (j - 1)) (aT ls j) = true) → uO ls
 | [], _ => List.Pairwise.nil
 | [a], _ => List.pairwise_singleton _ _
 | a :: b :: r, h => by
  have ih := zdC (b :: r) (fun j hj hl => by
   have := h (j + 1) (by omega) (by simp at hl ⊢; omega)
   rw [Nat.add_sub_cancel] at this; rw [show j = (j - 1) + 1 by omega, Ql] at this; rw [show j - 1 + 1 = j by omega] at this; exact this)
  have hab : yr a b = true := h 1 (by omega) (by simp); refine List.Pairwise.cons (fun e he => ?_) ih; rcases List.mem_cons.1 he with rfl | he
  ·exact hab
  ·exact XF hab ((List.pairwise_cons.1 ih).1 e he)
theorem jC {ls : List TA} (h : z2 ls = true) : uO ls :=
 zdC ls fun j h0 hj => by
  have := (j1.1 h).2 j hj; unfold yB at this; obtain ⟨_, h2⟩ := Bool.and_eq_true_iff.1 this; rw [decide_eq_false (by omega), Bool.false_or] at h2; exact h2
theorem xG {ls : List TA} (h : z2 ls = true) : ∀ e ∈ ls, ka e = true := fun e he => by
 obtain ⟨j, hj, rfl⟩ := List.mem_iff_getElem.1 he
 have := (j1.1 h).2 j hj
 unfold yB at this
 have g := (Bool.and_eq_true_iff.1 this).1
 have a := kN hj
 rw [List.getElem?_eq_getElem hj] at a
 rw [Option.some.inj a]
 exact g
theorem Xo {ls : List TA} (h : ls.length ≤ 1024) (hg : ∀ e ∈ ls, ka e = true) (hs : uO ls) : z2 ls = true :=
 kD h fun j hj => by
  unfold yB; rw [hg _ (List.mem_iff_getElem?.2 ⟨j, kN hj⟩), Bool.true_and]; by_cases h0 : j = 0
  ·rw [decide_eq_true h0]; rfl
  ·rw [decide_eq_false h0, Bool.false_or]
   have := List.pairwise_iff_getElem.1 hs (j - 1) j (by omega) hj (by omega); have a := kN hj; have b := kN (show j - 1 < ls.length by omega); rw [List.getElem?_eq_getElem hj] at a; rw [List.getElem?_eq_getElem (show j - 1 < ls.length by omega)] at b; rw [← Option.some.inj a, ← Option.some.inj b]; exact this
/-! ### What stands at a position -/
def zT : Nat → Px := fun _ => Px.zero
def zU : List TA → Int → Int → (Nat → Px)
 | [], _, _ => zT
 | e :: r, x, y => if xT e.x e.y x y = true then e.t else zU r x y
/-- The first place at which it stands; the length where it does not. -/
def idxL : List TA → Int → Int → Nat
 | [], _, _ => 0
 | e :: r, x, y => if xT e.x e.y x y = true then 0 else idxL r x y + 1
theorem kt {ls : List TA} (h : qN ls) (x y : Int) : Zr (zU ls x y) := by
 induction ls with
 | nil => intro i hi; exact Px.zero_ok
 | cons e r ih =>
  unfold zU; split
  ·exact h e (List.mem_cons_self ..)
  ·exact ih (fun e he => h e (List.mem_cons_of_mem _ he))
def xm (ls : List TA) (x y : Int) : Px := zU ls (x / 8) (y / 8) (8 * (y % 8) + x % 8).toNat
/-! ### A tile replaced -/
def jm (x y : Int) (t : Nat → Px) : List TA := if jh t = true then [] else [⟨x, y, t⟩]
def xS : List TA → Int → Int → (Nat → Px) → List TA
 | [], x, y, t => jm x y t
 | e :: r, x, y, t => if qQ e.x e.y x y = true then e :: xS r x y t else if xT e.x e.y x y = true then jm x y t ++ r else jm x y t ++ e :: r
/-- How many stand before the position. -/
def cutL : List TA → Int → Int → Nat
 | [], _, _ => 0
 | e :: r, x, y => if qQ e.x e.y x y = true then cutL r x y + 1 else 0
def y6 (ls : List TA) (x y : Int) : Bool := decide (cutL ls x y < ls.length) && xT (aT ls (cutL ls x y)).x (aT ls (cutL ls x y)).y x y
theorem uT (ls : List TA) (x y : Int) : cutL ls x y ≤ ls.length := by
 induction ls with
 | nil => exact Nat.le_refl _
 | cons e r ih => unfold cutL; split <;> simp; omega
theorem Wu {ls : List TA} {x y : Int} : ∀ {j : Nat}, j < cutL ls x y → qQ (aT ls j).x (aT ls j).y x y = true := by
 induction ls with
 | nil => intro j h; exact absurd h (Nat.not_lt_zero _)
 | cons e r ih =>
  intro j h; unfold cutL at h; split at h
  ·rename_i hl
   cases j with
   | zero => exact hl
   | succ j => exact ih (by omega)
  ·exact absurd h (Nat.not_lt_zero _)
theorem Wt {ls : List TA} {x y : Int} (h : cutL ls x y < ls.length) : qQ (aT ls (cutL ls x y)).x (aT ls (cutL ls x y)).y x y = false := by
 induction ls with
 | nil => exact absurd h (Nat.not_lt_zero _)
 | cons e r ih =>
  by_cases hl : qQ e.x e.y x y = true
  ·have hc : cutL (e :: r) x y = cutL r x y + 1 := by show (if _ then _ else _) = _; rw [if_pos hl]
   rw [hc] at h ⊢; exact ih (by simpa using h)
  ·have hc : cutL (e :: r) x y = 0 := by show (if _ then _ else _) = _; rw [if_neg hl]
   rw [hc]; show qQ e.x e.y x y = false
   simpa using hl
theorem vr (ls : List TA) (x y : Int) (t : Nat → Px) : xS ls x y t = ls.take (cutL ls x y) ++ jm x y t ++ ls.drop (if y6 ls x y = true then cutL ls x y + 1 else cutL ls x y) := by
 induction ls with
 | nil => simp [xS, cutL, y6]
 | cons e r ih =>
  by_cases hl : qQ e.x e.y x y = true
  ·have hc : cutL (e :: r) x y = cutL r x y + 1 := by show (if _ then _ else _) = _; rw [if_pos hl]
   have hh : y6 (e :: r) x y = y6 r x y := by
    unfold y6; rw [hc, Ql]; simp
   have hp : xS (e :: r) x y t = e :: xS r x y t := by show (if _ then _ else _) = _; rw [if_pos hl]
   rw [hp, hh, hc, ih, List.take_succ_cons]; by_cases h : y6 r x y = true
   ·rw [if_pos h, if_pos h, List.drop_succ_cons]; rfl
   ·rw [if_neg h, if_neg h, List.drop_succ_cons]; rfl
  ·have hc : cutL (e :: r) x y = 0 := by show (if _ then _ else _) = _; rw [if_neg hl]
   have hh : y6 (e :: r) x y = xT e.x e.y x y := by
    unfold y6; rw [hc]; show (decide (0 < r.length + 1) && xT e.x e.y x y) = _
    rw [decide_eq_true (Nat.succ_pos _), Bool.true_and]
   have hp : xS (e :: r) x y t = if xT e.x e.y x y = true then jm x y t ++ r else jm x y t ++ e :: r := by show (if _ then _ else _) = _; rw [if_neg hl]
   rw [hp, hh, hc]; by_cases h : xT e.x e.y x y = true
   ·rw [if_pos h, if_pos h]; simp
   ·rw [if_neg h, if_neg h]; simp
theorem ZU (x y : Int) (t : Nat → Px) : (jm x y t).length ≤ 1 := by unfold jm; split <;> simp
theorem wu (ls : List TA) (x y : Int) (t : Nat → Px) : (xS ls x y t).length ≤ ls.length + 1 := by
 have h := ZU x y t
 rw [vr, List.length_append, List.length_append, List.length_take, List.length_drop]
 have := uT ls x y
 split <;> omega
theorem zcT {x y : Int} {t : Nat → Px} (h : Zr t) : qN (jm x y t) := by
 unfold jm; split
 ·exact qN.nil
 ·intro e he
  rw [List.mem_singleton] at he; rw [he]; exact h
theorem KA {ls : List TA} {x y : Int} {t : Nat → Px} (h : qN ls) (ht : Zr t) : qN (xS ls x y t) := by
 rw [vr]
 exact ((h.take _).append (zcT ht)).append (h.drop _)
/-- What the reference's put makes of the rest of a list, its tile laid or not. -/
def yy (x y : Int) (t : Nat → Px) : Bool → List TA → List TA
 | d, [] => if d = true then [] else [⟨x, y, t⟩]
 | d, e :: r => if (!d && qQ x y e.x e.y) = true then ⟨x, y, t⟩ :: (if xT e.x e.y x y = true then yy x y t true r else e :: yy x y t true r)
  else if xT e.x e.y x y = true then yy x y t d r else e :: yy x y t d r
theorem ZH (x y : Int) (t : Nat → Px) : ∀ (ls : List TA), (∀ e ∈ ls, xT e.x e.y x y = false) → yy x y t true ls = ls
 | [], _ => rfl
 | e :: r, h => by
  unfold yy; rw [h e (List.mem_cons_self ..)]; simp
  exact ZH x y t r fun e he => h e (List.mem_cons_of_mem _ he)
theorem Jm (x y : Int) (t : Nat → Px) (ls : List TA) (h : ∀ e ∈ ls, qQ x y e.x e.y = true) : yy x y t (jh t) ls = jm x y t ++ ls := by
 have hne : ∀ e ∈ ls, xT e.x e.y x y = false := fun e he => by
  have := of_decide_eq_true (h e he); exact decide_eq_false (by omega)
 by_cases hz : jh t = true
 ·rw [hz, ZH x y t ls hne]; unfold jm; rw [if_pos hz]; rfl
 ·have hz' : jh t = false := by simpa using hz
  unfold jm; rw [hz', if_neg (by simp)]; cases ls with
  | nil => rfl
  | cons e r =>
   unfold yy; rw [h e (List.mem_cons_self ..), hne e (List.mem_cons_self ..)]; simp
   exact ZH x y t r fun e he => hne e (List.mem_cons_of_mem _ he)
theorem KL (x y : Int) (t : Nat → Px) : ∀ (ls : List TA), uO ls → yy x y t (jh t) ls = xS ls x y t
 | [], _ => by unfold yy xS jm; rfl
 | e :: r, h => by
  obtain ⟨h1, h2⟩ := List.pairwise_cons.1 h; have ih := KL x y t r h2; unfold xS; by_cases hl : qQ e.x e.y x y = true
  ·have l' := of_decide_eq_true hl
   have a1 : qQ x y e.x e.y = false := decide_eq_false (by omega); have a2 : xT e.x e.y x y = false := decide_eq_false (by omega); rw [if_pos hl]; unfold yy; rw [a1, a2, Bool.and_false]; simp [ih]
  ·rw [if_neg hl]
   have l' := of_decide_eq_false (show qQ e.x e.y x y = false by simpa using hl); by_cases he : xT e.x e.y x y = true
   ·have e' := of_decide_eq_true he
    rw [if_pos he]; have a1 : qQ x y e.x e.y = false := decide_eq_false (by omega); unfold yy; rw [a1, he, Bool.and_false]; simp
    exact Jm x y t r fun f hf => by
     have := of_decide_eq_true (h1 f hf); exact decide_eq_true (by omega)
   ·rw [if_neg he]
    have e' := of_decide_eq_false (show xT e.x e.y x y = false by simpa using he); exact Jm x y t (e :: r) fun f hf => by
     rcases List.mem_cons.1 hf with rfl | hf
     ·exact decide_eq_true (by omega)
     ·have := of_decide_eq_true (h1 f hf)
      exact decide_eq_true (by omega)
/-- What put returns, and its error. -/
def xQ (ls : List TA) : List TA := if ls.length ≤ 1024 then ls else []
def kx (ls : List TA) : Int := if ls.length ≤ 1024 then 0 else 2
def ud (ls : List TA) (x y : Int) (t : Nat → Px) : List TA := if z8 x y = true then xQ (xS (qc ls) x y (qF t)) else []
def XZ (ls : List TA) (x y : Int) (t : Nat → Px) : Int := if z8 x y = true then kx (xS (qc ls) x y (qF t)) else 1
def zf2 (ls : List TA) (x y : Int) (p : Px) : Nat → Px := ZI (zU (qc ls) (x / 8) (y / 8)) (x % 8) (y % 8) p
def KU (ls : List TA) (x y : Int) (p : Px) : List TA := ud ls (x / 8) (y / 8) (zf2 ls x y p)
def zdq (ls : List TA) (x y : Int) (p : Px) : Int := XZ ls (x / 8) (y / 8) (zf2 ls x y p)
end Go.Proofs.YtepelndbbhdofaaGreatDoor
