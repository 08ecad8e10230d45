import Derived.WalkKit
import Derived.WalkSpells
import Derived.WalkLawsBesides
import Derived.Handy
import Derived.BigQuiet
import Derived.Deep.QuietTactic
import Derived.Lib.Hide
import Derived.StillTail
import Derived.OrdersHeld
import Derived.Shelf.Abstract
import Derived.Test.YtepelndbbhdofaaGreatDoorRows
import Derived.OwnWalkIn
import Derived.TacticsInMore
import Derived.Great.Ranges
import Derived.Lib.SlBytesRow
import Derived.Shelf.Strings.Builder1
import Derived.Shelf.Small.Strs
import Derived.Shelf.Strings.Repeat
import Derived.IntWalk
import Derived.RowKit
import Derived.Laws.EntriesVeiled
import Derived.Deep.RegionWith
import Derived.ProofKit
import Derived.OpenShut
import Derived.ShutString
import Derived.ChangeOld
import Derived.Below
import Derived.Carry
import Derived.Lib.SmallJoins
import Derived.RangeFuncNested
import Derived.RangeFuncBound
import Derived.RangeFuncCalls
import Derived.RangeFuncLeaves
import Derived.RangeFuncFrom
import Derived.LoopNIn
import Derived.LoopIn
import Derived.ChangeKeysEq
import Derived.Deep.RegionHeld3

namespace Go.Proofs.YtepelndbbhdofaaGreatDoor.Pl
end Go.Proofs.YtepelndbbhdofaaGreatDoor.Pl
namespace Go.Proofs.YtepelndbbhdofaaGreatDoor.Sha
end Go.Proofs.YtepelndbbhdofaaGreatDoor.Sha
namespace Go.Proofs.YtepelndbbhdofaaGreatDoor
open Go.RowKit Go.Shelf Pl Sha Go.Proofs.Tryz
set_option linter.unusedVariables false
set_option linter.unusedSimpArgs false
set_option maxRecDepth 20000
set_option maxHeartbeats 8000000
theorem zn : (∀ (a : Act) (d : Tmp) (v : Value), a.put (some d) v = { a with tmps := a.tmps.setIfInBounds d v }) ∧ (∀ (a : Act) (v : Value), a.put none v = a) ∧ (∀ (α : Type) (l : List α) (i : Nat) (a : α), l.toArray.setIfInBounds i a = (l.set i a).toArray) ∧ (∀ (α : Type) (x a : α) (xs : List α), (x :: xs).set 0 a = a :: xs) ∧ (∀ (α : Type) (x a : α) (xs : List α) (n : Nat), (x :: xs).set (n + 1) a = x :: xs.set n a) :=
  ⟨fun _ _ _ => rfl, fun _ _ => rfl, fun _ _ _ _ => List.setIfInBounds_toArray _ _ _, fun _ _ _ _ => List.set_cons_zero, fun _ _ _ _ _ => List.set_cons_succ⟩
theorem jS : (∀ (α : Type) (n : Nat) (x : α) (xs : List α), (x :: xs).take (n + 1) = x :: xs.take n) ∧ (∀ (α : Type) (xs : List α), xs.take 0 = []) ∧ (∀ (α : Type) (n : Nat) (x : α) (xs : List α), (x :: xs).drop (n + 1) = xs.drop n) ∧ (∀ (α : Type) (xs : List α), xs.drop 0 = xs) :=
  ⟨fun _ _ _ _ => List.take_succ_cons, fun _ _ => List.take_zero, fun _ _ _ _ => List.drop_succ_cons, fun _ _ => List.drop_zero⟩
theorem zR : (∀ (α : Type) (l : List α) (i : Nat) (h : i < l.toArray.size), l.toArray[i] = l[i]'(by simpa using h)) ∧ (∀ (α : Type) (a : α) (l : List α) (h : 0 < (a :: l).length), (a :: l)[0] = a) ∧ (∀ (α : Type) (a : α) (l : List α) (i : Nat) (h : i + 1 < (a :: l).length), (a :: l)[i + 1] = l[i]'(by simpa using h)) :=
  ⟨fun _ _ _ _ => List.getElem_toArray _, fun _ _ _ _ => List.getElem_cons_zero .., fun _ _ _ _ _ => List.getElem_cons_succ ..⟩
theorem yj : (∀ (α β : Type) (f : α → β) (l : List α), l.toArray.map f = (l.map f).toArray) ∧ (∀ (α β : Type) (f : α → β) (a : α) (l : List α), (a :: l).map f = f a :: l.map f) ∧ (∀ (α β : Type) (f : α → β), ([] : List α).map f = []) ∧ (∀ (α : Type) (xs : Array α) (i : Nat) (d : α), xs.getD i d = xs[i]?.getD d) ∧ (∀ (α : Type) (l : List α) (i : Nat), l.toArray[i]? = l[i]?) ∧ (∀ (α : Type) (a : α) (l : List α) (i : Nat), (a :: l)[i + 1]? = l[i]?) ∧ (∀ (α : Type) (a : α) (l : List α), (a :: l)[0]? = some a) ∧ (∀ (α : Type) (a d : α), (some a).getD d = a) :=
  ⟨fun _ _ _ _ => List.map_toArray .., fun _ _ _ _ _ => rfl, fun _ _ _ => rfl, fun _ _ _ _ => Array.getD_eq_getD_getElem? .., fun _ _ _ => List.getElem?_toArray .., fun _ _ _ _ => rfl, fun _ _ _ => rfl, fun _ _ _ => rfl⟩
theorem kJ {B : Nat} {w w' : World} (h : Below B w.drew w') : Below B w w' := ⟨h.os, h.tape, h.output, h.size, h.block⟩
theorem KY {W w1 : World} (hb : Below W.heap.size W w1) : (∀ b o, b < W.heap.size → w1.cell? ⟨b, o, none⟩ = W.cell? ⟨b, o, none⟩) ∧ (∀ b o, b < W.heap.size → w1.frozen? ⟨b, o, none⟩ = W.frozen? ⟨b, o, none⟩) :=
 ⟨fun b o h => hb.cell (p := ⟨b, o, none⟩) h, fun b o h => hb.frozen (p := ⟨b, o, none⟩) h⟩
open Classical in
noncomputable def ov (w u : World) : World := if Below w.heap.size w u then u else w
theorem ji (w u : World) : Below w.heap.size w (ov w u) := by
 unfold ov; split
 ·assumption
 ·exact Below.refl _ _
theorem zC {w u : World} (h : Below w.heap.size w u) : u = ov w u := by unfold ov; rw [if_pos h]
@[go_sem] theorem zir (w u : World) (b o : Nat) (h : b < w.heap.size) : (ov w u).cell? ⟨b, o, none⟩ = w.cell? ⟨b, o, none⟩ := (ji w u).cell (p := ⟨b, o, none⟩) h
@[go_sem] theorem zhs (w u : World) (b o : Nat) (h : b < w.heap.size) : (ov w u).frozen? ⟨b, o, none⟩ = w.frozen? ⟨b, o, none⟩ := (ji w u).frozen (p := ⟨b, o, none⟩) h
theorem vv {B : Nat} {w W : World} (h : Below B w W) (hB : B ≤ W.heap.size) (u : World) : Below B w (ov W u) := h.trans ((ji W u).mono hB)
theorem zv {P : Program} {f : FuncId} {args : Array Value} {w u : World} {v : Value}
  (h : Calls P f args (ov w u) fun e w' => e = .returned v ∧ Below (ov w u).heap.size (ov w u) w') : Calls P f args (ov w u) fun e w'' => e = .returned v ∧ ∃ u', w'' = ov w u' :=
 h.mono fun _ w2 ⟨he, hb⟩ => ⟨he, w2, zC ((ji w u).trans (hb.mono (ji w u).size))⟩
theorem yy {P : Program} {f : FuncId} {args : Array Value} {w u : World} {v : Value}
  (h : Calls P f args (ov w u) fun e w' => e = .returned v ∧ ov w u = w') : Calls P f args (ov w u) fun e w'' => e = .returned v ∧ ∃ u', w'' = ov w u' :=
 h.mono fun _ w2 ⟨he, hb⟩ => ⟨he, u, hb.symm⟩
theorem zt {P : Program} {id : Nat} {Q : Exit → Act → World → Prop} {a : Act} {w : World} {l : List Oper} (hm : P.follows .mixedOrders = true) (hB : Region.lexB .any l.toArray = true)
  (h : wpQuiet P l.toArray (fun w' => ∃ u, w' = ov w u) (fun a' => ∀ w', Below w.heap.size w w' → Q .normal a' w') l a) : (Code.region id l.toArray true).wp P Q a w := by
 refine wp_region_quiet (C := fun w' => ∃ u, w' = ov w u) hm hB ⟨w.drew, zC ((Below.refl _ _).drew)⟩ ?_
 have key : ∀ (l' : List Oper) (a : Act), wpQuiet P l.toArray (fun w' => ∃ u, w' = ov w u) (fun a' => ∀ w', Below w.heap.size w w' → Q .normal a' w') l' a →
   wpQuiet P l.toArray (fun w' => ∃ u, w' = ov w u) (fun a' => ∀ w', (∃ u, w' = ov w u) → Q .normal a' w') l' a := by
  intro l'
  induction l' with
  | nil =>
   intro a h; exact fun w' ⟨u, hu⟩ => h w' (hu ▸ ji w u)
  | cons o r ih =>
   intro a h; unfold wpQuiet at h ⊢; split
   ·rename_i hw
    rw [if_pos hw] at h; exact Oper.quiet_mono (fun a' h' => ih a' h') h
   ·rename_i hw
    rw [if_neg hw] at h; exact ih _ h
 exact key _ _ (by simpa using h)
section
variable {P : Program} {ops : Array Oper} {md : Region.Mode} {C : World → Prop}
def u7 (P : Program) (md : Region.Mode) (ops : Array Oper) (C : World → Prop) (n : Nat) (L : Array Bool → Act → Prop) : Nat → Array Bool → Act → Prop
 | 0, done, a => L done a
 | f + 1, done, a => Region.ready md ops done ≠ [] ∧ ∀ i ∈ Region.ready md ops done, i < n ∧ qOp P ops C i (u7 P md ops C n L f (done.setIfInBounds i true)) a
theorem JC {n g : Nat} {L : Array Bool → Act → Prop} {Q' : Exit → Act → World → Prop} (hL : ∀ done a w, C w → L done a → wpAny P md ops Q' g done a w) :
  ∀ (f : Nat) (done : Array Bool) (a : Act) (w : World), C w → u7 P md ops C n L f done a → wpAny P md ops Q' (f + g) done a w := by
 intro f
 induction f with
 | zero => intro done a w hw h; rw [Nat.zero_add]; exact hL _ _ _ hw h
 | succ f ih =>
  intro done a w hw h; rw [show f + 1 + g = (f + g) + 1 by omega]; exact ⟨fun h0 => absurd h0 h.1, fun i hi => wpOp_of_qOp hw (fun a' w' hw' h' => ih _ a' w' hw' h') (h.2 i hi).2⟩
theorem YK {n i : Nat} {oi : Oper} {v : Value} {L : Array Bool → Act → Prop} (hi : ops[i]? = some oi) (hsel : Region.noSelect ops = true)
  (hs : Region.sinkB md ops n = true) (hc : Region.chainB md ops n = true) (hn : n < ops.size) (hin : i < n) (hL : ∀ done a, L done a → ∀ j ∈ Region.ready md ops done, n ≤ j) :
  ∀ (f : Nat) (done : Array Bool) (a : Act), HeadInv md ops n done →
   (∀ j oj, ops[j]? = some oj → j ≠ i → done.getD j true = false → (∀ e ∈ oj.after, Region.binds md e = true → e.on ≠ i) → oi.apart ops oj = true) →
   i ∈ Region.ready md ops done → YieldsIn P ops C oi v a →
   u7 P md ops C n L f (done.setIfInBounds i true) (a.put oi.dst v) → u7 P md ops C n L (f + 1) done a := by
 have ns := Region.noSelect_spec hsel
 intro f
 induction f with
 | zero =>
  intro done a inv _ hr hy H; have hun := (mem_ready.1 hr).1; refine ⟨fun h => (by rw [h] at hr; cases hr), fun j hj => ?_⟩
  have hjn : j < n := Nat.lt_of_not_le fun h => tail_waits hs hc hn inv _ i rfl hin hun j h hj
  refine ⟨hjn, ?_⟩; by_cases hji : j = i
  ·rw [hji]; exact hy.qOp hi H
  ·exact absurd (hL _ _ H j (ready_mono hj hji)) (by omega)
 | succ f ih =>
  intro done a inv hfree hr hy H; have hun := (mem_ready.1 hr).1; refine ⟨fun h => (by rw [h] at hr; cases hr), fun j hj => ?_⟩
  have hjn : j < n := Nat.lt_of_not_le fun h => tail_waits hs hc hn inv _ i rfl hin hun j h hj
  refine ⟨hjn, ?_⟩; by_cases hji : j = i
  ·rw [hji]; exact hy.qOp hi H
  ·have h1 := (H.2 j (ready_mono hj hji)).2
   obtain ⟨hjun, oj, hoj, hall⟩ := mem_ready.1 hj; have hnot : ∀ e ∈ oj.after, Region.binds md e = true → e.on ≠ i := fun e he hb heq => by
    have h1 := hall e he hb; rw [heq, getD_both hun] at h1; cases h1
   have h2 := qOp_put hoj (hfree j oj hoj hji hjun hnot) (fun cs b => ns i oi cs b hi) (fun cs b => ns j oj cs b hoj) hy h1; refine qOp_mono (fun a' h3 => ih (done.setIfInBounds j true) a' (inv.set hj hjn) ?_ (ready_mono hr (Ne.symm hji)) h3.1 ?_) h2
   ·intro k ok hk hki hundone hno
    refine hfree k ok hk hki ?_ hno; by_cases hjk : j = k
    ·rw [← hjk]; exact hjun
    ·rw [getD_set_ne true hjk] at hundone; exact hundone
   ·rw [Array.setIfInBounds_comm _ _ hji]
    exact h3.2
theorem QM {n g : Nat} {Lq : Act → Prop} (hsel : Region.noSelect ops = true) (hs : Region.sinkB md ops n = true) (hc : Region.chainB md ops n = true) (hn : n < ops.size) :
  ∀ (l : List Oper) (k : Nat) (done : Array Bool) (a : Act), (∀ j, j < l.length → l[j]? = ops[k + j]?) → k + l.length = n → HeadInv md ops n done →
  Region.lexHead md ops g l.length k done = true → wpQuiet P ops C Lq l a →
  u7 P md ops C n (fun d a' => Region.seqB md ops g n d = true ∧ Lq a') l.length done a := by
 intro l
 induction l with
 | nil =>
  intro k done a _ hk _ hB h; obtain rfl : k = n := by simpa using hk
  exact ⟨by simpa [Region.lexHead] using hB, h⟩
 | cons o l ih =>
  intro k done a hl hk inv hB h; have h0 : ops[k]? = some o := by simpa using (hl 0 (by simp)).symm
  simp only [List.length_cons, Region.lexHead, Bool.and_eq_true] at hB; obtain ⟨⟨hr, hf⟩, hB'⟩ := hB; have hkn : k < n := by simp only [List.length_cons] at hk; omega
  have hr' : k ∈ Region.ready md ops done := by simpa using hr
  have hst : qOp P ops C k (wpQuiet P ops C Lq l) a := by unfold qOp; simp only [h0]; exact h
  obtain ⟨v, hy, hK⟩ := yieldsIn_of_qOp h0 hst; refine YK h0 hsel hs hc hn hkn (fun d a' hL => seqB_ready hL.1) l.length done a inv (Region.free_spec h0 hf) hr' hy
   (ih (k + 1) _ _ (fun j hj => ?_) (by simp only [List.length_cons] at hk; omega) (inv.set hr' hkn) hB' hK)
  have := hl (j + 1) (by simp; omega)
  simpa [Nat.add_assoc, Nat.add_comm 1 j] using this
end
theorem jm {P : Program} {id : Nat} {Q : Exit → Act → World → Prop} {a : Act} {w : World} {l : List Oper} (n : Nat) (hm : P.follows .mixedOrders = true) (hB : Region.lexTailB .any l.toArray n = true)
  (h : wpQuiet P l.toArray (fun w' => ∃ u, w' = ov w u) (fun a' => ∀ w', Below w.heap.size w w' → wpList P l.toArray Q (l.drop n) a' w') (l.take n) a) : (Code.region id l.toArray true).wp P Q a w := by
 simp only [Region.lexTailB, Bool.and_eq_true, decide_eq_true_eq] at hB
 obtain ⟨⟨⟨⟨hsel, hn⟩, hs⟩, hc⟩, hlex⟩ := hB
 have hn' : n < l.length := by simpa using hn
 have htl : (l.take n).length = n := by simp; omega
 have hdl : (l.drop n).length = l.toArray.size - n := by simp
 have inv0 : HeadInv .any l.toArray n (Array.replicate l.toArray.size false) :=
  ⟨by simp, fun j oj _ hl => (by rw [getD_replicate_false] at hl; cases hl), fun t _ ht => getD_in (by simpa using ht) (getD_replicate_false _ _)⟩
 have H := QM (md := .any) (g := l.toArray.size - n) hsel hs hc hn (l.take n) 0 _ a (fun j hj => by
  have hj' : j < n := by rw [htl] at hj; exact hj
  simp [hj']) (by simpa using htl) inv0 (by rw [htl]; exact hlex) h
 refine wp_region_any hm ?_
 have := JC (Q' := Q) (g := l.toArray.size - n) (fun d a' w' hw' hL => by
  obtain ⟨u, rfl⟩ := hw'; have := wpAny_of_seq (md := .any) (Q' := Q) (l.drop n) n d a' (ov w u) (fun j => by simp [List.getElem?_drop]) (by rw [hdl]; exact hL.1) (hL.2 _ (ji w u))
  rwa [hdl] at this) _ _ _ w.drew ⟨w.drew, zC ((Below.refl _ _).drew)⟩ H
 rw [htl, show n + (l.toArray.size - n) = l.toArray.size by omega] at this
 exact this
def ziZ (md : Region.Mode) (ops : Array Oper) (n : Nat) : Bool :=
 (List.range n).all fun i => decide (i = 0) || (List.range (n + 1)).any fun j => decide (i < j) && Region.waitsFor md ops j i
section
variable {P : Program} {ops : Array Oper} {md : Region.Mode} {C : World → Prop}
end
def zhr (ops : Array Oper) : Array Bool := (Array.replicate ops.size false).setIfInBounds 0 true
def zh9 (md : Region.Mode) (ops : Array Oper) (n : Nat) : Bool :=
 Region.noSelect ops && decide (1 ≤ n) && decide (n < ops.size) && ziZ md ops n && Region.chainB md ops n && (Region.ready md ops (Array.replicate ops.size false)).contains 0 && Region.free md ops (Array.replicate ops.size false) 0 &&
 Region.lexHead md ops (ops.size - n) (n - 1) 1 (zhr ops)
def zI (Q : Exit → Act → World → Prop) : Exit → Act → World → Prop
 | .panic _, _, _ => False
 | e, a, w => Q e a w
theorem zI.normal {Q : Exit → Act → World → Prop} {a : Act} {w : World} (h : Q .normal a w) : zI Q .normal a w := h
theorem zI.imp {Q : Exit → Act → World → Prop} : ∀ (e : Exit) (a : Act) (w : World), zI Q e a w → Q e a w := fun e a w h => by
 cases e <;> first | exact h | exact (h : False).elim
def zi1 (md : Region.Mode) (ops : Array Oper) (n : Nat) : Bool :=
 (List.range ops.size).all fun t => decide (t ≤ n) || (List.range t).any fun s => decide (n ≤ s) && Region.waitsFor md ops t s
section
variable {P : Program} {ops : Array Oper} {md : Region.Mode} {C : World → Prop}
def Vk (md : Region.Mode) (ops : Array Oper) (n : Nat) (T : Array Bool) : Nat → Nat → Array Bool → Bool
 | 0, k, listed => decide (listed = T) && (Region.ready md ops T).all fun j => decide (n ≤ j)
 | f + 1, k, listed => (Region.ready md ops listed).contains k && Region.free md ops listed k && Vk md ops n T f (k + 1) (listed.setIfInBounds k true)
end
def zi8 (md : Region.Mode) (ops : Array Oper) (n : Nat) (T : Array Bool) : Bool :=
 Region.noSelect ops && decide (n < ops.size) && Region.sinkB md ops n && zi1 md ops n && Vk md ops n T n 0 (Array.replicate ops.size false)
section
variable {P : Program} {ops : Array Oper} {md : Region.Mode} {Q : Exit → Act → World → Prop} {a : Act} {w : World} {T : Array Bool} {f : Nat}
end
def vOp (o : Oper) : Bool := o.guard.isNone && match o.op with
 | .move _ | .load .. | .binOp .. | .unOp .. | .convert .. | .fieldAddr .. | .indexAddr .. | .build .. | .slice .. | .extract .. => true
 | _ => false
theorem Yl {o : Oper} (h : vOp o = true) : o.guard = none := by
 unfold vOp at h
 simp only [Bool.and_eq_true, Option.isNone_iff_eq_none] at h
 exact h.1
theorem zgI {P : Program} {o : Oper} (h : vOp o = true) (ρ : Operand → Value) : ∃ s : Sem Value, ∀ w, (execOp ρ o).run P w = (s.run P w).andThen fun v w' => .ok (.value v) w' := by
 unfold vOp at h
 simp only [Bool.and_eq_true] at h
 obtain ⟨_, h⟩ := h
 have hv : ∀ s : Sem Value, ∀ w, (do let x ← s; pure (Next.value x) : Sem Next).run P w = (s.run P w).andThen fun v w' => .ok (.value v) w' := fun s w => by
  simp only [Sem.run_bind, Sem.run_pure]
 unfold execOp
 cases ho : o.op <;> rw [ho] at h <;> first | (exact ⟨_, fun w => hv _ w⟩) | (cases h; done) | skip
 all_goals first | (exact ⟨pure _, fun w => rfl⟩) | (simp only [Sem.run_pure]; exact ⟨pure _, fun w => by simp only [Sem.run_pure, Result.andThen_ok]⟩)
section
variable {P : Program} {ops : Array Oper} {Q : Exit → Act → World → Prop} {md : Region.Mode} {S : World → Prop} {t0 : Nat}
theorem vT {o : Oper} {v : Value} {a : Act} (ho : vOp o = true) (h : ∀ w, S w → o.quietAt P a S w v) : YieldsIf P ops S o v a := by
 refine .inl ⟨by simp [Region.wanted, Yl ho], fun w hw => ?_⟩
 have h1 := h w hw
 unfold Oper.quietAt at h1
 obtain ⟨s, hs⟩ := zgI (P := P) ho a.eval
 rw [hs w] at h1 ⊢
 cases hr : s.run P w with
 | ok x w' =>
  rw [hr] at h1; obtain ⟨e1, e2⟩ : w' = w ∧ x = v := h1; rw [e1, e2]; rfl
 | halt x w' =>
  rw [hr] at h1; exact (h1 : False).elim
def xg (P : Program) (md : Region.Mode) (ops : Array Oper) (Q : Exit → Act → World → Prop) (S : World → Prop) (t0 : Nat) : Nat → Array Bool → Act → World → Prop
 | 0, listed, a, w => Region.ready md ops listed = [] ∧ Q .normal a w
 | fuel + 1, listed, a, w =>
  (Region.ready md ops listed = [] → Q .normal a w) ∧
  ∀ i ∈ Region.ready md ops listed, wpOp P ops Q i (fun a' w' => (i < t0 → S w') ∧ xg P md ops Q S t0 fuel (listed.setIfInBounds i true) a' w') a w
theorem ZQ : ∀ (fuel : Nat) (listed : Array Bool) (a : Act) (w : World), xg P md ops Q S t0 fuel listed a w → wpAny P md ops Q fuel listed a w
 | 0, _, _, _, h => h
 | fuel + 1, _, _, _, h => ⟨h.1, fun i hi => wpOp_mono (fun a' w' h' => ZQ fuel _ a' w' h'.2) (h.2 i hi)⟩
def vI (md : Region.Mode) (ops : Array Oper) (listed : Array Bool) : Prop := ∀ j oj, ops[j]? = some oj → listed.getD j false = true → ∀ e ∈ oj.after, Region.binds md e = true → listed.getD e.on false = true
theorem vI.set {listed : Array Bool} (h : vI md ops listed) {i : Nat} (hi : i ∈ Region.ready md ops listed) : vI md ops (listed.setIfInBounds i true) := by
 intro j oj hj hl e he hb
 obtain ⟨hun, oi, hoi, hall⟩ := mem_ready.1 hi
 have key : listed.getD e.on false = true := by
  by_cases hij : i = j
  ·subst hij
   have : oi = oj := Option.some.inj (hoi.symm.trans hj); subst this; exact hall e he hb
  ·refine h j oj hj ?_ e he hb
   rw [Array.getD_eq_getD_getElem?, Array.getElem?_setIfInBounds, if_neg hij, ← Array.getD_eq_getD_getElem?] at hl; exact hl
 exact getD_set_true key
def trB (md : Region.Mode) (ops : Array Oper) (i : Nat) : Nat → Nat → Bool
 | 0, t => Region.waitsFor md ops t i
 | f + 1, t => Region.waitsFor md ops t i || (List.range ops.size).any fun s => Region.waitsFor md ops t s && trB md ops i f s
theorem Xr {listed : Array Bool} (hc : vI md ops listed) {i : Nat} (hun : listed.getD i true = false) : ∀ (f t : Nat), trB md ops i f t = true → listed.getD t false = false ∧ t ∉ Region.ready md ops listed := by
 have one : ∀ t s, Region.waitsFor md ops t s = true → listed.getD s false = false → listed.getD t false = false ∧ t ∉ Region.ready md ops listed := fun t s hw hs => by
  obtain ⟨o', ho', e, he, hb, hon⟩ := Region.waitsFor_spec hw
  constructor
  ·cases hl : listed.getD t false with
   | false => rfl
   | true =>
    have x := hc t o' ho' hl e he hb; rw [hon, hs] at x; cases x
  ·intro hr
   obtain ⟨_, ot, hot, hall⟩ := mem_ready.1 hr; have : o' = ot := Option.some.inj (ho'.symm.trans hot); subst this; have h2 := hall e he hb; rw [hon, hs] at h2; cases h2
 intro f
 induction f with
 | zero => intro t h; exact one t i h (getD_both hun)
 | succ f ih =>
  intro t h; simp only [trB, Bool.or_eq_true] at h; rcases h with h | h
  ·exact one t i h (getD_both hun)
  ·obtain ⟨s, _, hs⟩ := List.any_eq_true.1 h
   simp only [Bool.and_eq_true] at hs; exact one t s hs.1 (ih s hs.2).1
theorem JA {i : Nat} {oi : Oper} {v : Value} (hi : ops[i]? = some oi) (hsel : ∀ (j : Nat) (o : Oper) cs b, ops[j]? = some o → o.op ≠ .select cs b)
  (hQ : ∀ c a w, Q (.panic c) (a.put oi.dst v) w → Q (.panic c) a w) (hi0 : i < t0) (hwait : ∀ t, t0 ≤ t → t < ops.size → trB md ops i 8 t = true) :
  ∀ (fuel : Nat) (listed : Array Bool) (a : Act) (w : World), vI md ops listed →
   (∀ j oj, ops[j]? = some oj → j ≠ i → listed.getD j true = false → (∀ e ∈ oj.after, Region.binds md e = true → e.on ≠ i) → oi.apart ops oj = true) →
   i ∈ Region.ready md ops listed → YieldsIf P ops S oi v a → S w →
   xg P md ops Q S t0 fuel (listed.setIfInBounds i true) (a.put oi.dst v) w → xg P md ops Q S t0 (fuel + 1) listed a w := by
 intro fuel
 induction fuel with
 | zero =>
  intro listed a w hcl _ hr hy hS H; refine ⟨fun h => (by rw [h] at hr; cases hr), fun j hj => ?_⟩
  by_cases hji : j = i
  ·subst hji; exact hy.wpOp hi hS ⟨fun _ => hS, H⟩
  ·have := ready_mono hj hji
   rw [H.1] at this; cases this
 | succ fuel ih =>
  intro listed a w hcl hfree hr hy hS H; refine ⟨fun h => (by rw [h] at hr; cases hr), fun j hj => ?_⟩
  by_cases hji : j = i
  ·subst hji; exact hy.wpOp hi hS ⟨fun _ => hS, H⟩
  ·have h1 := H.2 j (ready_mono hj hji)
   obtain ⟨hjun, oj, hoj, hall⟩ := mem_ready.1 hj; have hun := (mem_ready.1 hr).1; have hnot : ∀ e ∈ oj.after, Region.binds md e = true → e.on ≠ i := fun e he hb heq => by
    have h1 := hall e he hb; rw [heq, getD_both hun] at h1; cases h1
   have hjs : j < ops.size := (Array.getElem?_eq_some_iff.1 hoj).1; have hjt : j < t0 := Nat.lt_of_not_le fun zb => by
    exact (Xr hcl hun 8 j (hwait j zb hjs)).2 hj
   have h2 := wpOp_putIf hoj (hfree j oj hoj hji hjun hnot) (fun cs b => hsel i oi cs b hi) (fun cs b => hsel j oj cs b hoj) hQ hy h1; have hfree' : ∀ k ok, ops[k]? = some ok → k ≠ i → (listed.setIfInBounds j true).getD k true = false →
     (∀ e ∈ ok.after, Region.binds md e = true → e.on ≠ i) → oi.apart ops ok = true := fun k ok hk hki hun hno => by
    refine hfree k ok hk hki ?_ hno; by_cases hjk : j = k
    ·subst hjk; exact hjun
    ·rw [getD_set_ne true hjk] at hun; exact hun
   refine wpOp_mono (fun a' w' h3 => ⟨fun _ => h3.2.1 hjt, ih (listed.setIfInBounds j true) a' w' (hcl.set hj) hfree' (ready_mono hr (Ne.symm hji)) h3.1 (h3.2.1 hjt) ?_⟩) h2; rw [Array.setIfInBounds_comm _ _ hji]; exact h3.2.2
def Vf (md : Region.Mode) (ops : Array Oper) (t0 : Nat) (T : Array Bool) : List Oper → Nat → Array Bool → Bool
 | [], _, listed => decide (listed = T)
 | o :: l, k, listed => vOp o && decide (k < t0) && ((List.range ops.size).all fun t => decide (t < t0) || trB md ops k 8 t) && (Region.ready md ops listed).contains k && Region.free md ops listed k && Vf md ops t0 T l (k + 1) (listed.setIfInBounds k true)
theorem zbG {T : Array Bool} {f : Nat} {w : World} (hsel : Region.noSelect ops = true) (hS : S w) : ∀ (l : List Oper) (k : Nat) (listed : Array Bool) (a : Act), vI md ops listed → (∀ j, j < l.length → l[j]? = ops[k + j]?) →
  Vf md ops t0 T l k listed = true → wpQuiet P ops S (fun a' => xg P md ops (zI Q) S t0 f T a' w) l a → xg P md ops (zI Q) S t0 (l.length + f) listed a w := by
 intro l
 induction l with
 | nil =>
  intro k listed a _ _ hB h; simp only [Vf, decide_eq_true_eq] at hB; rw [List.length_nil, Nat.zero_add, hB]; exact h
 | cons o l ih =>
  intro k listed a hcl hl hB h; have h0 : ops[k]? = some o := by simpa using (hl 0 (by simp)).symm
  simp only [Vf, Bool.and_eq_true, decide_eq_true_eq] at hB; obtain ⟨⟨⟨⟨⟨hv, hk⟩, hwt⟩, hr⟩, hf⟩, hB'⟩ := hB; have hw : Region.wanted o (yielded ops a.tmps) = true := by simp [Region.wanted, Yl hv]
  unfold wpQuiet at h; rw [if_pos hw] at h; obtain ⟨v, hy, hK⟩ := h; rw [show (o :: l).length + f = (l.length + f) + 1 by simp; omega]
  refine JA h0 (Region.noSelect_spec hsel) (fun _ _ _ h => h) hk (fun t ht hts => ?_) (l.length + f) listed a w hcl (Region.free_spec h0 hf) (by simpa using hr) (vT hv hy) hS
   (ih (k + 1) _ _ (hcl.set (by simpa using hr)) (fun j hj => ?_) hB' hK)
  ·have := List.all_eq_true.1 hwt t (List.mem_range.2 hts)
   simp only [Bool.or_eq_true, decide_eq_true_eq] at this; rcases this with h | h
   ·omega
   ·exact h
  ·have := hl (j + 1) (by simp; omega)
   simpa [Nat.add_assoc, Nat.add_comm 1 j] using this
theorem zU (i : Nat) {oi : Oper} {T : Array Bool} {f : Nat} {a : Act} {w : World} (hi : ops[i]? = some oi) (hr : Region.ready md ops T = [i]) (hg : oi.guard = none)
  (H : ∀ K : Act → World → Prop, (∀ a w, (i < t0 → S w) ∧ xg P md ops (zI Q) S t0 f (T.setIfInBounds i true) a w → K a w) → oi.wp P a w K (zI Q)) : xg P md ops (zI Q) S t0 (f + 1) T a w := by
 refine ⟨fun h => (by rw [hr] at h; cases h), fun j hj => ?_⟩
 rw [hr] at hj
 obtain rfl : j = i := by simpa using hj
 unfold wpOp
 rw [hi]
 simp only []
 rw [if_pos (by simp [Region.wanted, hg])]
 exact .inl (H _ fun _ _ h => h)
end
theorem QK {P : Program} {ops : Array Oper} {Q : Exit → Act → World → Prop} {md : Region.Mode} {S : World → Prop} {t0 : Nat} : ∀ (f : Nat) (T : Array Bool) (a : Act) (w : World), (∀ i, i < t0 → T.getD i true = true) → wpAny P md ops Q f T a w → xg P md ops Q S t0 f T a w
 | 0, _, _, _, _, h => h
 | f + 1, T, a, w, hT, h => ⟨h.1, fun i hi => by
  have hun := (mem_ready.1 hi).1; have zd : ¬ i < t0 := fun zh => by rw [hT i zh] at hun; cases hun
  refine wpOp_mono (fun a' w' h' => ⟨fun zh => absurd zh zd, QK f _ a' w' (fun j hj => ?_) h'⟩) (h.2 i hi); have hne : i ≠ j := fun e => zd (e ▸ hj)
  rw [getD_set_ne true hne]; exact hT j hj⟩
theorem qT {P : Program} {l : List Oper} {Q : Exit → Act → World → Prop} {md : Region.Mode} {S : World → Prop} {t0 : Nat} {T : Array Bool} {a : Act} {w : World} (h1 : ((List.range t0).all fun i => T.getD i true) = true) (h2 : Region.seqB md l.toArray (l.drop t0).length t0 T = true)
  (h : wpList P l.toArray Q (l.drop t0) a w) : xg P md l.toArray Q S t0 (l.length - t0) T a w := by
 refine QK _ T a w (fun i hi => List.all_eq_true.1 h1 i (List.mem_range.2 hi)) ?_
 have := wpAny_of_seq (md := md) (Q' := Q) (l.drop t0) t0 T a w (fun j => by simp [List.getElem?_drop]) h2 h
 rwa [List.length_drop] at this
theorem uX {P : Program} {id : Nat} {Q : Exit → Act → World → Prop} {a : Act} {w : World} {l : List Oper} (n t0 : Nat) (T : Array Bool) (hm : P.follows .mixedOrders = true)
  (hB : (Region.noSelect l.toArray && decide (n < l.length) && Vf .any l.toArray t0 T (l.take n) 0 (Array.replicate l.toArray.size false)) = true)
  (h : wpQuiet P l.toArray (fun w' => ∃ u, w' = ov w u) (fun a' => ∀ w', Below w.heap.size w w' → xg P .any l.toArray (zI Q) (fun w'' => ∃ u, w'' = ov w u) t0 (l.length - n) T a' w') (l.take n) a) : (Code.region id l.toArray true).wp P Q a w := by
 simp only [Bool.and_eq_true, decide_eq_true_eq] at hB
 obtain ⟨⟨hsel, hn⟩, hX⟩ := hB
 have htl : (l.take n).length = n := by simp; omega
 have key : ∀ (l' : List Oper) (a : Act), wpQuiet P l.toArray (fun w' => ∃ u, w' = ov w u) (fun a' => ∀ w', Below w.heap.size w w' → xg P .any l.toArray (zI Q) (fun w'' => ∃ u, w'' = ov w u) t0 (l.length - n) T a' w') l' a →
   wpQuiet P l.toArray (fun w' => ∃ u, w' = ov w u) (fun a' => xg P .any l.toArray (zI Q) (fun w'' => ∃ u, w'' = ov w u) t0 (l.length - n) T a' w.drew) l' a := by
  intro l'
  induction l' with
  | nil => intro a h; exact h _ ((Below.refl _ _).drew)
  | cons o r ih =>
   intro a h; unfold wpQuiet at h ⊢; split
   ·rename_i hw
    rw [if_pos hw] at h; exact Oper.quiet_mono (fun a' h' => ih a' h') h
   ·rename_i hw
    rw [if_neg hw] at h; exact ih _ h
 refine Code.wp_mono zI.imp (wp_region_any hm ?_)
 have := zbG (md := .any) (t0 := t0) (T := T) (f := l.length - n) (w := w.drew) hsel ⟨w.drew, zC ((Below.refl _ _).drew)⟩ (l.take n) 0 _ a (fun j oj _ hl => by rw [getD_replicate_false] at hl; cases hl) (fun j hj => by
  have hj' : j < n := by rw [htl] at hj; exact hj
  simp [hj']) hX (key _ _ h)
 rw [htl, show n + (l.length - n) = l.toArray.size by simp; omega] at this
 exact ZQ _ _ _ _ this
def zaz (md : Region.Mode) (ops : Array Oper) (T : Array Bool) : Bool := (List.range ops.size).all fun j => !(T.getD j false) || match ops[j]? with
 | some oj => oj.after.all fun e => !(Region.binds md e) || T.getD e.on false
 | none => true
theorem YH {md : Region.Mode} {ops : Array Oper} {T : Array Bool} (h : zaz md ops T = true) : vI md ops T := by
 intro j oj hj hl e he hb
 have h1 := List.all_eq_true.1 h j (List.mem_range.2 (Array.getElem?_eq_some_iff.1 hj).1)
 rw [hl, hj] at h1
 simp only [Bool.not_true, Bool.false_or] at h1
 have h2 := Array.all_eq_true'.1 h1 e he
 rw [hb] at h2
 simpa using h2
def zgY (md : Region.Mode) (ops : Array Oper) (t0 : Nat) (T : Array Bool) (i : Nat) : Bool :=
 (match ops[i]? with | some o => vOp o | none => false) && decide (i < t0) && ((List.range ops.size).all fun t => decide (t < t0) || trB md ops i 8 t) && (Region.ready md ops T).contains i && Region.free md ops T i && zaz md ops T && Region.noSelect ops
section
variable {P : Program} {ops : Array Oper} {md : Region.Mode} {Q : Exit → Act → World → Prop} {S : World → Prop} {t0 f : Nat} {a : Act} {w : World} {T : Array Bool}
theorem z6 (i : Nat) {oi : Oper} (hi : ops[i]? = some oi) (hB : zgY md ops t0 T i = true) (hS : S w)
  (h : ∀ K : Act → Prop, (∀ a', xg P md ops (zI Q) S t0 f (T.setIfInBounds i true) a' w → K a') → oi.quiet P a S K) : xg P md ops (zI Q) S t0 (f + 1) T a w := by
 simp only [zgY, Bool.and_eq_true, decide_eq_true_eq] at hB
 obtain ⟨⟨⟨⟨⟨⟨hv, hk⟩, hwt⟩, hr⟩, hf⟩, hcl⟩, hsel⟩ := hB
 rw [hi] at hv
 obtain ⟨v, hy, hK⟩ := h _ (fun _ h => h)
 refine JA hi (Region.noSelect_spec hsel) (fun _ _ _ h => h) hk (fun t ht hts => ?_) f T a w (YH hcl) (Region.free_spec hi hf) (by simpa using hr) (vT hv hy) hS hK
 have := List.all_eq_true.1 hwt t (List.mem_range.2 hts)
 simp only [Bool.or_eq_true, decide_eq_true_eq] at this
 rcases this with h | h
 ·omega
 ·exact h
theorem j9 (i j : Nat) {oi oj : Oper} (hi : ops[i]? = some oi) (hj : ops[j]? = some oj) (hr : Region.ready md ops T = [i, j]) (hgi : oi.guard = none) (hgj : oj.guard = none)
  (Hi : ∀ K : Act → World → Prop, (∀ a w, (i < t0 → S w) ∧ xg P md ops (zI Q) S t0 f (T.setIfInBounds i true) a w → K a w) → oi.wp P a w K (zI Q))
  (Hj : ∀ K : Act → World → Prop, (∀ a w, (j < t0 → S w) ∧ xg P md ops (zI Q) S t0 f (T.setIfInBounds j true) a w → K a w) → oj.wp P a w K (zI Q)) : xg P md ops (zI Q) S t0 (f + 1) T a w := by
 refine ⟨fun h => (by rw [hr] at h; cases h), fun k hk => ?_⟩
 rw [hr] at hk
 have hk : k = i ∨ k = j := by simpa using hk
 rcases hk with rfl | rfl
 ·unfold wpOp
  rw [hi]; simp only []; rw [if_pos (by simp [Region.wanted, hgi])]; exact .inl (Hi _ fun _ _ h => h)
 ·unfold wpOp
  rw [hj]; simp only []; rw [if_pos (by simp [Region.wanted, hgj])]; exact .inl (Hj _ fun _ _ h => h)
end
theorem kl {P : Program} {id : Nat} {Q : Exit → Act → World → Prop} {a : Act} {w : World} {l : List Oper} (t0 : Nat) (T : Array Bool) (hm : P.follows .mixedOrders = true)
  (hB : T = Array.replicate l.toArray.size false)
  (h : ∀ w', Below w.heap.size w w' → xg P .any l.toArray (zI Q) (fun w'' => ∃ u, w'' = ov w u) t0 l.length T a w') : (Code.region id l.toArray true).wp P Q a w := by
 refine Code.wp_mono zI.imp (wp_region_any hm ?_)
 rw [← hB]
 have := ZQ _ _ _ _ (h w.drew ((Below.refl _ _).drew))
 rwa [show l.length = l.toArray.size by simp] at this
structure j2 where
 α : Type
 ne : Nonempty α
 f : α → Value
 F : α → World → Prop
 mono : ∀ x w w', Below w.heap.size w w' → F x w → F x w'
theorem Qa {a b : Act} {d : Option Tmp} {u v : Value} (hs : b.tmps.size = a.tmps.size) (h : a.put d u = a.put d v) : b.put d u = b.put d v := by
 cases d with
 | none => rfl
 | some d =>
  have h1 : a.tmps.setIfInBounds d u = a.tmps.setIfInBounds d v := congrArg Act.tmps h; show ({ b with tmps := b.tmps.setIfInBounds d u } : Act) = { b with tmps := b.tmps.setIfInBounds d v }
  by_cases hd : d < a.tmps.size
  ·have h2 := congrArg (fun t : Array Value => t[d]?) h1
   simp [hd] at h2
   rw [h2]
  ·have hd1 : a.tmps.size ≤ d := Nat.le_of_not_lt hd
   have hd2 : b.tmps.size ≤ d := hs ▸ hd1; rw [Array.setIfInBounds_eq_of_size_le hd2, Array.setIfInBounds_eq_of_size_le hd2]
theorem wI (a : Act) (d : Option Tmp) (v : Value) : (a.put d v).tmps.size = a.tmps.size := by
 cases d with
 | none => rfl
 | some d => show (a.tmps.setIfInBounds d v).size = _; simp
def uu (E : Nat → World → Prop) (k : Nat) (G : World → Prop) : Nat → World → Prop := fun j => if j = k then G else E j
theorem zbQ (E : Nat → World → Prop) {k i : Nat} (h : k ≠ i) (A B : World → Prop) : uu (uu E k A) i B = uu (uu E i B) k A := by
 funext j
 unfold uu
 by_cases h1 : j = i
 ·rw [if_pos h1, if_neg (by omega), if_pos h1]
 ·rw [if_neg h1]
  by_cases h2 : j = k
  ·rw [if_pos h2, if_pos h2]
  ·rw [if_neg h2, if_neg h2, if_neg h1]
theorem YI (E : Nat → World → Prop) {k j : Nat} (h : j ≠ k) (A : World → Prop) : uu E k A j = E j := if_neg h
section
variable {P : Program} {ops : Array Oper} {Q : Exit → Act → World → Prop} {md : Region.Mode} {C : World → Prop} {S : Nat → Option j2} {L : (Nat → World → Prop) → Act → Prop}
def VV (P : Program) (ops : Array Oper) (md : Region.Mode) (Q : Exit → Act → World → Prop) (C : World → Prop) (E : Nat → World → Prop) (k : Nat) (o : Oper) (a : Act) (s : j2) : Prop :=
 ∀ w, C w → (∀ j, Region.waitsFor md ops k j = true → E j w) → o.wp P a w (fun a' w' => ∃ x, a' = a.put o.dst (s.f x) ∧ s.F x w' ∧ Below w.heap.size w w') (zI Q)
theorem ze6 {E : Nat → World → Prop} {k : Nat} {o : Oper} {a : Act} {s : j2}
  (h : ∀ w, C w → (∀ j, Region.waitsFor md ops k j = true → E j w) → ∀ K : Act → World → Prop, (∀ x w', s.F x w' → Below w.heap.size w w' → K (a.put o.dst (s.f x)) w') → o.wp P a w K (zI Q)) : VV P ops md Q C E k o a s :=
 fun w hC hE => h w hC hE _ fun x w' h1 h2 => ⟨x, rfl, h1, h2⟩
theorem kF {E E' : Nat → World → Prop} {k : Nat} {o : Oper} {a b : Act} {s : j2} (he : execOp b.eval o = execOp a.eval o) (hs : b.tmps.size = a.tmps.size) (hE : ∀ j w, Region.waitsFor md ops k j = true → E' j w → E j w)
  (h : VV P ops md Q C E k o a s) : VV P ops md Q C E' k o b s := by
 intro w hC hE'
 have h1 := h w hC fun j hj => hE j w hj (hE' j hj)
 unfold Oper.wp at *
 rw [he]
 generalize (execOp a.eval o).run P w = r at *
 cases r with
 | ok n w' =>
  cases n <;> simp only [Oper.upon] at h1 ⊢
  case value u => obtain ⟨x, h2, h3⟩ := h1; exact ⟨x, Qa hs h2, h3⟩
  case skip => obtain ⟨x, h2, h3⟩ := h1; exact ⟨x, Qa hs h2, h3⟩
  case defer d =>
   obtain ⟨x, h2, h3⟩ := h1; have h4 := congrArg (fun y : Act => y.defers.length) h2; cases ho : o.dst <;> rw [ho] at h4 <;> simp [Act.put] at h4
  case enter f args =>
   refine Calls.mono h1 fun e w'' he => ?_
   cases e with
   | returned u => obtain ⟨x, h2, h3⟩ := he; exact ⟨x, Qa hs h2, h3⟩
   | panicked c => exact he
   | outgrown => exact he
  case row row args => exact Rows.mono h1 fun u w'' ⟨x, h2, h3⟩ => ⟨x, Qa hs h2, h3⟩
 | halt x w' =>
  cases x <;> simp only [Oper.upon] at h1 ⊢
  case panic u => exact h1
def wN (P : Program) (md : Region.Mode) (ops : Array Oper) (Q : Exit → Act → World → Prop) (C : World → Prop) (S : Nat → Option j2) (L : (Nat → World → Prop) → Act → Prop) : List Nat → (Nat → World → Prop) → Act → Prop
 | [], E, a => L E a
 | k :: r, E, a => match ops[k]? with
  | none => False
  | some o =>
   if Region.wanted o (yielded ops a.tmps) = true then
    match S k with
    | none => ∃ v, (∀ w, C w → (execOp a.eval o).run P w = .ok (.value v) w) ∧ wN P md ops Q C S L r E (a.put o.dst v)
    | some s => VV P ops md Q C E k o a s ∧ ∀ x, wN P md ops Q C S L r (uu E k (s.F x)) (a.put o.dst (s.f x))
   else wN P md ops Q C S L r E (a.put o.dst undef)
theorem zfe {k i : Nat} {ok oi : Oper} {r : List Nat} (hk : ops[k]? = some ok) (hi : ops[i]? = some oi) (hap : ok.apart ops oi = true) (hsk : ∀ cs b, ok.op ≠ .select cs b) (hsi : ∀ cs b, oi.op ≠ .select cs b)
  (hne : k ≠ i) (hik : Region.waitsFor md ops i k = false) (hki : Region.waitsFor md ops k i = false) (hC : ∃ w, C w) {E : Nat → World → Prop} {a : Act}
  (h : wN P md ops Q C S L (k :: i :: r) E a) : wN P md ops Q C S L (i :: k :: r) E a := by
 obtain ⟨h1, h2, h3⟩ := Oper.apart_spec hap
 have ei : ∀ u, execOp (a.put ok.dst u).eval oi = execOp a.eval oi := fun u => execOp_put oi hsi a ok.dst u h1
 have ek : ∀ u, execOp (a.put oi.dst u).eval ok = execOp a.eval ok := fun u => execOp_put ok hsk a oi.dst u h3
 have wi : ∀ u, Region.wanted oi (yielded ops (a.put ok.dst u).tmps) = Region.wanted oi (yielded ops a.tmps) := fun u => wanted_put oi a ok.dst u h1
 have wk : ∀ u, Region.wanted ok (yielded ops (a.put oi.dst u).tmps) = Region.wanted ok (yielded ops a.tmps) := fun u => wanted_put ok a oi.dst u h3
 have pc : ∀ u v, (a.put ok.dst u).put oi.dst v = (a.put oi.dst v).put ok.dst u := fun u v => Act.put_comm a u v h2
 have Ek : ∀ (s : j2) x j w, Region.waitsFor md ops i j = true → E j w → uu E k (s.F x) j w := fun s x j w hj he => by
  rw [YI]; exact he
  intro e; rw [e, hik] at hj; cases hj
 have Ek' : ∀ (s : j2) x j w, Region.waitsFor md ops i j = true → uu E k (s.F x) j w → E j w := fun s x j w hj he => by
  rw [YI] at he; exact he
  intro e; rw [e, hik] at hj; cases hj
 have Ei' : ∀ (s : j2) x j w, Region.waitsFor md ops k j = true → uu E i (s.F x) j w → E j w := fun s x j w hj he => by
  rw [YI] at he; exact he
  intro e; rw [e, hki] at hj; cases hj
 unfold wN at h ⊢
 rw [hk] at h
 rw [hi]
 simp only at h ⊢
 -- the second's part of what the first leaves
 by_cases Wk : Region.wanted ok (yielded ops a.tmps) = true
 ·rw [if_pos Wk] at h
  cases Sk : S k with
  | none =>
   rw [Sk] at h; obtain ⟨v, hv, h⟩ := h; unfold wN at h; rw [hi] at h; simp only at h; rw [wi] at h; by_cases Wi : Region.wanted oi (yielded ops a.tmps) = true
   ·rw [if_pos Wi] at h ⊢
    cases Si : S i with
    | none =>
     rw [Si] at h; obtain ⟨u, hu, h⟩ := h; refine ⟨u, fun w hw => by rw [← ei v]; exact hu w hw, ?_⟩
     unfold wN; rw [hk]; simp only; rw [wk, if_pos Wk, Sk]; exact ⟨v, fun w hw => by rw [ek u]; exact hv w hw, by rw [← pc]; exact h⟩
    | some s =>
     rw [Si] at h; obtain ⟨hs, h⟩ := h; refine ⟨kF (ei v).symm (wI _ _ _).symm (fun _ _ _ he => he) hs, fun y => ?_⟩; unfold wN; rw [hk]; simp only; rw [wk, if_pos Wk, Sk]; exact ⟨v, fun w hw => by rw [ek]; exact hv w hw, by rw [← pc]; exact h y⟩
   ·rw [if_neg Wi] at h ⊢
    unfold wN; rw [hk]; simp only; rw [wk, if_pos Wk, Sk]; exact ⟨v, fun w hw => by rw [ek]; exact hv w hw, by rw [← pc]; exact h⟩
  | some s =>
   rw [Sk] at h; obtain ⟨hs, h⟩ := h; obtain ⟨x0⟩ := s.ne; by_cases Wi : Region.wanted oi (yielded ops a.tmps) = true
   ·rw [if_pos Wi]
    cases Si : S i with
    | none =>
     have hx : ∀ x, ∃ v, (∀ w, C w → (execOp a.eval oi).run P w = .ok (.value v) w) ∧ wN P md ops Q C S L r (uu E k (s.F x)) ((a.put ok.dst (s.f x)).put oi.dst v) := fun x => by
      have h := h x; unfold wN at h; rw [hi] at h; simp only at h; rw [wi, if_pos Wi, Si] at h; obtain ⟨v, hv, h⟩ := h; exact ⟨v, fun w hw => by rw [← ei (s.f x)]; exact hv w hw, h⟩
     obtain ⟨v, hv, _⟩ := hx x0; refine ⟨v, hv, ?_⟩; unfold wN; rw [hk]; simp only; rw [wk, if_pos Wk, Sk]; refine ⟨kF (ek v) (wI _ _ _) (fun _ _ _ he => he) hs, fun x => ?_⟩; obtain ⟨v', hv', h'⟩ := hx x; obtain ⟨w, hw⟩ := hC; have e := (hv w hw).symm.trans (hv' w hw)
     injection e with e _
     injection e with e
     rw [← pc, e]; exact h'
    | some t =>
     have hx : ∀ x, VV P ops md Q C (uu E k (s.F x)) i oi (a.put ok.dst (s.f x)) t ∧ ∀ y, wN P md ops Q C S L r (uu (uu E k (s.F x)) i (t.F y)) ((a.put ok.dst (s.f x)).put oi.dst (t.f y)) := fun x => by
      have h := h x; unfold wN at h; rw [hi] at h; simp only at h; rw [wi, if_pos Wi, Si] at h; exact h
     refine ⟨kF (ei (s.f x0)).symm (wI _ _ _).symm (Ek s x0) (hx x0).1, fun y => ?_⟩; unfold wN; rw [hk]; simp only; rw [wk, if_pos Wk, Sk]; refine ⟨kF (ek _) (wI _ _ _) (Ei' t y) hs, fun x => ?_⟩; rw [← pc, ← zbQ E hne]; exact (hx x).2 y
   ·rw [if_neg Wi]
    unfold wN; rw [hk]; simp only; rw [wk, if_pos Wk, Sk]; refine ⟨kF (ek _) (wI _ _ _) (fun _ _ _ he => he) hs, fun x => ?_⟩; have h := h x; unfold wN at h; rw [hi] at h; simp only at h; rw [wi, if_neg Wi] at h; rw [← pc]; exact h
 ·rw [if_neg Wk] at h
  unfold wN at h; rw [hi] at h; simp only at h; rw [wi] at h; by_cases Wi : Region.wanted oi (yielded ops a.tmps) = true
  ·rw [if_pos Wi] at h ⊢
   cases Si : S i with
   | none =>
    rw [Si] at h; obtain ⟨u, hu, h⟩ := h; refine ⟨u, fun w hw => by rw [← ei undef]; exact hu w hw, ?_⟩
    unfold wN; rw [hk]; simp only; rw [wk, if_neg Wk, ← pc]; exact h
   | some s =>
    rw [Si] at h; obtain ⟨hs, h⟩ := h; refine ⟨kF (ei undef).symm (wI _ _ _).symm (fun _ _ _ he => he) hs, fun y => ?_⟩; unfold wN; rw [hk]; simp only; rw [wk, if_neg Wk, ← pc]; exact h y
  ·rw [if_neg Wi] at h ⊢
   unfold wN; rw [hk]; simp only; rw [wk, if_neg Wk, ← pc]; exact h
theorem zfd {k : Nat} {r r' : List Nat} {E : Nat → World → Prop} {a : Act} (hr : ∀ E a, wN P md ops Q C S L r E a → wN P md ops Q C S L r' E a) (h : wN P md ops Q C S L (k :: r) E a) : wN P md ops Q C S L (k :: r') E a := by
 unfold wN at h ⊢
 cases hk : ops[k]? with
 | none => rw [hk] at h; exact h
 | some o =>
  rw [hk] at h; simp only at h ⊢; split
  ·rename_i hw
   rw [if_pos hw] at h; cases hS : S k with
   | none => rw [hS] at h; obtain ⟨v, h1, h2⟩ := h; exact ⟨v, h1, hr _ _ h2⟩
   | some s => rw [hS] at h; exact ⟨h.1, fun x => hr _ _ (h.2 x)⟩
  ·rename_i hw
   rw [if_neg hw] at h; exact hr _ _ h
def Z7 (o : Oper) : Bool := match o.op with
 | .move _ | .assign _ | .extract .. => true
 | _ => false
theorem zci {o : Oper} {v : Value} {ρ : Operand → Value} {w0 : World} (h : Z7 o = true) (hr : (execOp ρ o).run P w0 = .ok (.value v) w0) : ∀ w, (execOp ρ o).run P w = .ok (.value v) w := by
 intro w
 unfold Z7 at h
 unfold execOp at hr ⊢
 cases ho : o.op <;> rw [ho] at h hr <;> first | (cases h; done) | skip
 all_goals simp only [Sem.run_bind, Sem.run_pure] at hr ⊢
 all_goals first
  | (injection hr with e _; rw [e])
  | skip
 rename_i t ix
 unfold Instr.extract at hr ⊢
 split at hr
 ·rename_i vs hv
  split at hr
  ·rename_i x hx
   simp only [Sem.run_pure, Result.andThen_ok] at hr
   injection hr with e _
   rw [← e]; simp only [Sem.run_pure, Result.andThen_ok]
  ·exact absurd hr (by simp [stuck, Result.andThen])
 ·exact absurd hr (by simp [stuck, Result.andThen])
def Y6 (md : Region.Mode) (ops : Array Oper) (hd : Nat → Bool) : Bool :=
 Region.noSelect ops && (List.range ops.size).all fun k => !hd k || match ops[k]? with
  | none => false
  | some ok => (ok.after.all fun e => !Region.binds md e || (decide (e.on < k) && hd e.on)) && (List.range k).all fun j => !hd j || match ops[j]? with
   | none => false
   | some oj => Region.waitsFor md ops k j || oj.apart ops ok
def zbg (md : Region.Mode) (ops : Array Oper) (hd : Nat → Bool) : Bool :=
 (List.range ops.size).all fun t => hd t || match ops[t]? with
  | none => false
  | some ot => (List.range ops.size).all fun k => !hd k || match ops[k]? with
   | none => false
   | some ok => bif Z7 ok then Region.waitsFor md ops t k || ok.apart ops ot else trB md ops k 8 t
variable {hd : Nat → Bool}
theorem Jk {k : Nat} (h : Y6 md ops hd = true) (hk : hd k = true) (hks : k < ops.size) : ∃ ok, ops[k]? = some ok ∧ (∀ e ∈ ok.after, Region.binds md e = true → e.on < k ∧ hd e.on = true) ∧ ∀ j, j < k → hd j = true → ∃ oj, ops[j]? = some oj ∧ (Region.waitsFor md ops k j = true ∨ oj.apart ops ok = true) := by
 simp only [Y6, Bool.and_eq_true] at h
 have h1 := List.all_eq_true.1 h.2 k (List.mem_range.2 hks)
 rw [hk] at h1
 cases ho : ops[k]? with
 | none => rw [ho] at h1; cases h1
 | some ok =>
  rw [ho] at h1; simp only [Bool.not_true, Bool.false_or, Bool.and_eq_true] at h1; refine ⟨ok, rfl, fun e he hb => ?_, fun j hj hdj => ?_⟩
  ·have := Array.all_eq_true'.1 h1.1 e he
   rw [hb] at this
   simpa using this
  ·have h2 := List.all_eq_true.1 h1.2 j (List.mem_range.2 hj)
   rw [hdj] at h2; cases hj : ops[j]? with
   | none => rw [hj] at h2; cases h2
   | some oj =>
    rw [hj] at h2; simp only [Bool.not_true, Bool.false_or, Bool.or_eq_true] at h2; exact ⟨oj, rfl, h2⟩
theorem VG (h : Y6 md ops hd = true) : Region.noSelect ops = true := by simp only [Y6, Bool.and_eq_true] at h; exact h.1
theorem VZ {t k : Nat} {ot ok : Oper} (h : zbg md ops hd = true) (ht : hd t = false) (hot : ops[t]? = some ot) (hk : hd k = true) (hok : ops[k]? = some ok) : (Z7 ok = true → Region.waitsFor md ops t k = true ∨ ok.apart ops ot = true) ∧ (Z7 ok = false → trB md ops k 8 t = true) := by
 have h1 := List.all_eq_true.1 h t (List.mem_range.2 (Array.getElem?_eq_some_iff.1 hot).1)
 rw [ht, hot] at h1
 simp only [Bool.false_or] at h1
 have h2 := List.all_eq_true.1 h1 k (List.mem_range.2 (Array.getElem?_eq_some_iff.1 hok).1)
 rw [hk, hok] at h2
 simp only [Bool.not_true, Bool.false_or] at h2
 refine ⟨fun hp => ?_, fun hp => ?_⟩
 ·rw [hp] at h2; simpa using h2
 ·rw [hp] at h2; simpa using h2
theorem V3 {k j : Nat} (h : Y6 md ops hd = true) (hk : hd k = true) (hw : Region.waitsFor md ops k j = true) : j < k := by
 obtain ⟨o, ho, e, he, hb, rfl⟩ := Region.waitsFor_spec hw
 obtain ⟨ok, hok, h1, _⟩ := Jk h hk (Array.getElem?_eq_some_iff.1 ho).1
 obtain rfl : o = ok := Option.some.inj (ho.symm.trans hok)
 exact (h1 e he hb).1
theorem VE {i k : Nat} {listed : Array Bool} (hi : i ∈ Region.ready md ops listed) (hk : listed.getD k true = false) : Region.waitsFor md ops i k = false := by
 cases h : Region.waitsFor md ops i k with
 | false => rfl
 | true =>
  obtain ⟨_, oi, hoi, hall⟩ := mem_ready.1 hi; obtain ⟨o, ho, e, he, hb, rfl⟩ := Region.waitsFor_spec h; obtain rfl : o = oi := Option.some.inj (ho.symm.trans hoi); have := hall e he hb; rw [getD_both hk] at this; cases this
theorem Yn {i : Nat} {listed : Array Bool} (hB : Y6 md ops hd = true) (hi : i ∈ Region.ready md ops listed) (hin : hd i = true) (hC : ∃ w, C w) : ∀ (l1 l2 : List Nat) (E : Nat → World → Prop) (a : Act),
  (∀ k ∈ l1, k < i ∧ hd k = true ∧ listed.getD k true = false) → wN P md ops Q C S L (l1 ++ i :: l2) E a → wN P md ops Q C S L (i :: (l1 ++ l2)) E a
 | [], _, _, _, _, h => h
 | k :: l1, l2, E, a, hl, h => by
  have h1 : wN P md ops Q C S L (k :: i :: (l1 ++ l2)) E a := zfd (fun E a => Yn hB hi hin hC l1 l2 E a fun j hj => hl j (List.mem_cons_of_mem _ hj)) h; obtain ⟨hki, hkd, hun⟩ := hl k (List.mem_cons_self ..); have his : i < ops.size := by
   obtain ⟨_, oi, hoi, _⟩ := mem_ready.1 hi; exact (Array.getElem?_eq_some_iff.1 hoi).1
  obtain ⟨oi, hoi, _, hj⟩ := Jk hB hin his; obtain ⟨ok, hok, hap⟩ := hj k hki hkd; have hsel := Region.noSelect_spec (VG hB); have hik := VE hi hun; have hap : ok.apart ops oi = true := hap.resolve_left (by rw [hik]; simp)
  have hki' : Region.waitsFor md ops k i = false := by
   cases hw : Region.waitsFor md ops k i with
   | false => rfl
   | true => have := V3 hB hkd hw; omega
  exact zfe hok hoi hap (fun cs b => hsel k ok cs b hok) (fun cs b => hsel i oi cs b hoi) (by omega) hik hki' hC h1
theorem Xv {g : Nat} (hB : Y6 md ops hd = true) (htail : zbg md ops hd = true) (hC : ∀ w w', C w → Below w.heap.size w w' → C w') (hS : ∀ k o, ops[k]? = some o → Z7 o = true → S k = none)
  (hfin : ∀ listed a E w, listed.size = ops.size → (∀ k, k < ops.size → listed.getD k true = hd k) → L E a → C w → (∀ j, E j w) → wpAny P md ops (zI Q) g listed a w) :
  ∀ (m : Nat) (rem : List Nat) (listed : Array Bool) (a : Act) (E : Nat → World → Prop) (w : World), rem.length = m → rem.Pairwise (· < ·) → listed.size = ops.size → (∀ k, k ∈ rem ↔ k < ops.size ∧ hd k = true ∧ listed.getD k true = false) → (∀ t, t < ops.size → hd t = false → listed.getD t true = false) → vI md ops listed →
   C w → (∀ j, E j w) → (∀ j w w', Below w.heap.size w w' → E j w → E j w') → wN P md ops Q C S L rem E a → wpAny P md ops (zI Q) (m + g) listed a w := by
 have hsel := Region.noSelect_spec (VG hB)
 intro m
 induction m with
 | zero =>
  intro rem listed a E w hm _ zf hrem htl _ hw hE _ h; obtain rfl := List.eq_nil_of_length_eq_zero hm; rw [Nat.zero_add]; refine hfin listed a E w zf (fun k hks => ?_) h hw hE; cases hk : hd k with
  | false => exact htl k hks hk
  | true =>
   cases hh : listed.getD k true with
   | true => rfl
   | false => have := (hrem k).2 ⟨hks, hk, hh⟩; cases this
 | succ m ih =>
  intro rem listed a E w hm hp zf hrem htl hcl hw hE hmono h; rw [show m + 1 + g = (m + g) + 1 by omega]; obtain ⟨k0, r0, rfl⟩ : ∃ k r, rem = k :: r := by
   cases rem with
   | nil => cases hm
   | cons k r => exact ⟨k, r, rfl⟩
  have hk0 := (hrem k0).1 (List.mem_cons_self ..); obtain ⟨ok, hok, hk1, _⟩ := Jk hB hk0.2.1 hk0.1; have hready : k0 ∈ Region.ready md ops listed := by
   refine mem_ready.2 ⟨hk0.2.2, ok, hok, fun e he hb => ?_⟩; have zh := hk1 e he hb; cases hh : listed.getD e.on false with
   | true => rfl
   | false =>
    have hm' := (hrem e.on).2 ⟨by omega, zh.2, getD_in (by omega) hh⟩; rcases List.mem_cons.1 hm' with e' | hm'
    ·omega
    ·have := (List.pairwise_cons.1 hp).1 _ hm'
     omega
  -- the state behind an operation of the head
  have after : ∀ i l1 l2, i < ops.size → hd i = true → i ∈ Region.ready md ops listed → k0 :: r0 = l1 ++ i :: l2 → ∀ (a' : Act) (E' : Nat → World → Prop) (w' : World), C w' → (∀ j, E' j w') → (∀ j w w', Below w.heap.size w w' → E' j w → E' j w') → wN P md ops Q C S L (l1 ++ l2) E' a' → wpAny P md ops (zI Q) (m + g) (listed.setIfInBounds i true) a' w' := by
   intro i l1 l2 his hin hi hsp a' E' w'; rw [hsp] at hp hm; have hlt1 : ∀ k ∈ l1, k < i := fun k hk => (List.pairwise_append.1 hp).2.2 k hk i (List.mem_cons_self ..)
   have hp' : (l1 ++ l2).Pairwise (· < ·) := hp.sublist (List.Sublist.append (List.Sublist.refl l1) (List.sublist_cons_self i l2)); have hlen : (l1 ++ l2).length = m := by rw [List.length_append] at hm ⊢; rw [List.length_cons] at hm; omega
   have hnot : i ∉ l1 ++ l2 := fun hh => by
    rw [List.pairwise_append] at hp; rcases List.mem_append.1 hh with hh | hh
    ·exact absurd (hlt1 i hh) (Nat.lt_irrefl _)
    ·exact absurd ((List.pairwise_cons.1 hp.2.1).1 i hh) (Nat.lt_irrefl _)
   have hrem' : ∀ k, k ∈ l1 ++ l2 ↔ k < ops.size ∧ hd k = true ∧ (listed.setIfInBounds i true).getD k true = false := fun k => by
    by_cases hki : k = i
    ·subst hki
     refine ⟨fun hh => absurd hh hnot, fun hh => ?_⟩; have hks : k < listed.size := by omega
     simp [hks] at hh
    ·rw [getD_set_ne true (Ne.symm hki), ← hrem k, hsp]
     simp only [List.mem_append, List.mem_cons]
     constructor
     ·rintro (hh | hh)
      ·exact .inl hh
      ·exact .inr (.inr hh)
     ·rintro (hh | hh | hh)
      ·exact .inl hh
      ·exact absurd hh hki
      ·exact .inr hh
   have htl' : ∀ t, t < ops.size → hd t = false → (listed.setIfInBounds i true).getD t true = false := fun t hts ht => by
    rw [getD_set_ne true (fun e => by rw [e, ht] at hin; cases hin)]; exact htl t hts ht
   exact ih (l1 ++ l2) (listed.setIfInBounds i true) a' E' w' hlen hp' (by simp; exact zf) hrem' htl' (hcl.set hi)
  cases hpu : Z7 ok with
  | true =>
   have h2 := h; unfold wN at h2; rw [hok] at h2; simp only at h2; obtain ⟨v, hy, h3⟩ : ∃ v, Yields P ops ok v a ∧ wN P md ops Q C S L r0 E (a.put ok.dst v) := by
    by_cases Wi : Region.wanted ok (yielded ops a.tmps) = true
    ·rw [if_pos Wi, hS k0 ok hok hpu] at h2
     obtain ⟨v, hv, h2⟩ := h2; exact ⟨v, .inl ⟨Wi, zci hpu (hv w hw)⟩, h2⟩
    ·rw [if_neg Wi] at h2
     exact ⟨undef, .inr ⟨by simpa using Wi, rfl⟩, h2⟩
   refine wpAny_first hok hsel (fun _ _ _ h => h) (m + g) listed a w (fun j oj hj hne hun hno => ?_) hready hy (after k0 [] r0 hk0.1 hk0.2.1 hready rfl _ E w hw hE hmono h3); have hjs : j < ops.size := (Array.getElem?_eq_some_iff.1 hj).1; have hnw : Region.waitsFor md ops j k0 = false := by
    cases hw' : Region.waitsFor md ops j k0 with
    | false => rfl
    | true =>
     obtain ⟨o, ho, e, he, hb, heq⟩ := Region.waitsFor_spec hw'; obtain rfl : o = oj := Option.some.inj (ho.symm.trans hj); exact absurd heq (hno e he hb)
   cases hdj : hd j with
   | true =>
    have hmem := (hrem j).2 ⟨hjs, hdj, hun⟩; have zh : k0 < j := by
     rcases List.mem_cons.1 hmem with e | hmem
     ·exact absurd e hne
     ·exact (List.pairwise_cons.1 hp).1 _ hmem
    obtain ⟨oj', hoj', _, hap⟩ := Jk hB hdj hjs; obtain rfl : oj' = oj := Option.some.inj (hoj'.symm.trans hj); obtain ⟨ok', hok', hap⟩ := hap k0 zh hk0.2.1; obtain rfl : ok' = ok := Option.some.inj (hok'.symm.trans hok); exact hap.resolve_left (by rw [hnw]; simp)
   | false =>
    exact ((VZ htail hdj hj hk0.2.1 hok).1 hpu).resolve_left (by rw [hnw]; simp)
  | false =>
   refine ⟨fun h0 => (by rw [h0] at hready; cases hready), fun i hi => ?_⟩
   have hun := (mem_ready.1 hi).1; obtain ⟨_, oi, hoi, _⟩ := mem_ready.1 hi; have his : i < ops.size := (Array.getElem?_eq_some_iff.1 hoi).1; have hin : hd i = true := by
    cases hdi : hd i with
    | true => rfl
    | false =>
     exact absurd hi (Xr hcl hk0.2.2 8 i ((VZ htail hdi hoi hk0.2.1 hok).2 hpu)).2
   have hmem : i ∈ k0 :: r0 := (hrem i).2 ⟨his, hin, hun⟩; obtain ⟨l1, l2, hsp⟩ := List.append_of_mem hmem; have hlt1 : ∀ k ∈ l1, k < i ∧ hd k = true ∧ listed.getD k true = false := fun k hk => by
    have hpp := hp; rw [hsp] at hpp; have hm2 : k ∈ k0 :: r0 := by rw [hsp]; exact List.mem_append_left _ hk
    exact ⟨(List.pairwise_append.1 hpp).2.2 k hk i (List.mem_cons_self ..), ((hrem k).1 hm2).2⟩
   have h2 := h; rw [hsp] at h2; have h2 := Yn hB hi hin ⟨w, hw⟩ l1 l2 E a hlt1 h2; have key := after i l1 l2 his hin hi hsp; unfold wN at h2; rw [hoi] at h2; simp only at h2; unfold wpOp; rw [hoi]; simp only; by_cases Wi : Region.wanted oi (yielded ops a.tmps) = true
   ·rw [if_pos Wi] at h2 ⊢
    cases Si : S i with
    | none =>
     rw [Si] at h2; obtain ⟨v, hv, h2⟩ := h2
     left
     unfold Oper.wp; rw [hv w hw]; exact key _ _ _ hw hE hmono h2
    | some s =>
     rw [Si] at h2; obtain ⟨hs, h2⟩ := h2
     left
     refine Oper.wp_mono ?_ (hs w hw fun j _ => hE j); rintro a' w' ⟨x, rfl, hF, hb⟩; refine key _ _ _ (hC _ _ hw hb) (fun j => ?_) (fun j w1 w2 hb' he => ?_) (h2 x)
     ·unfold uu
      split
      ·exact hF
      ·exact hmono j _ _ hb (hE j)
     ·unfold uu at he ⊢
      split
      ·rename_i hj
       rw [if_pos hj] at he; exact s.mono x _ _ hb' he
      ·rename_i hj
       rw [if_neg hj] at he; exact hmono j _ _ hb' he
   ·rw [if_neg Wi] at h2 ⊢
    exact key _ _ _ hw hE hmono h2
end
def zgU (ops : Array Oper) (S : Nat → Option j2) : Prop := ∀ k o, ops[k]? = some o → Z7 o = true → S k = none
def Yb (l : List (Nat × j2)) (k : Nat) : Option j2 := (l.find? fun x => x.1 == k).map (·.2)
def zac (ops : Array Oper) (l : List Nat) : Bool := l.all fun k => match ops[k]? with
 | none => true
 | some o => !Z7 o
theorem Xk {ops : Array Oper} {l : List (Nat × j2)} (h : zac ops (l.map (·.1)) = true) : zgU ops (Yb l) := by
 intro k o hk hp
 unfold Yb
 cases hf : l.find? (fun x => x.1 == k) with
 | none => rfl
 | some x =>
  have h1 := List.find?_some hf; have h2 := List.mem_of_find?_eq_some hf; have h3 := List.all_eq_true.1 h x.1 (List.mem_map.2 ⟨x, h2, rfl⟩); have e : x.1 = k := by simpa using h1
  rw [e, hk] at h3; simp only [hp] at h3; cases h3
def vB (md : Region.Mode) (ops : Array Oper) (n : Nat) : Bool :=
 decide (n ≤ ops.size) && Y6 md ops (fun k => decide (k < n)) && zbg md ops (fun k => decide (k < n)) && Region.seqB md ops (ops.size - n) n (Array.replicate n true ++ Array.replicate (ops.size - n) false)
theorem Wb {P : Program} {id : Nat} {Q : Exit → Act → World → Prop} {a : Act} {w : World} {l : List Oper} (n : Nat) (S : Nat → Option j2) (hm : P.follows .mixedOrders = true) (hB : vB .any l.toArray n = true) (hS : zgU l.toArray S)
  (h : wN P .any l.toArray Q (fun w' => ∃ u, w' = ov w u) S (fun E a' => ∀ w', Below w.heap.size w w' → (∀ j, E j w') → wpList P l.toArray (zI Q) (l.drop n) a' w') (List.range n) (fun _ _ => True) a) : (Code.region id l.toArray true).wp P Q a w := by
 simp only [vB, Bool.and_eq_true, decide_eq_true_eq] at hB
 obtain ⟨⟨⟨hn, hR⟩, htl⟩, hseq⟩ := hB
 refine Code.wp_mono zI.imp (wp_region_any hm ?_)
 have hdl : (l.drop n).length = l.toArray.size - n := by simp
 have := Xv (P := P) (Q := Q) (md := .any) (C := fun w' => ∃ u, w' = ov w u) (S := S) (g := (l.drop n).length) hR htl (fun w1 w2 ⟨u, hu⟩ hb => by
   subst hu; exact ⟨w2, zC ((ji w u).trans (hb.mono (ji w u).size))⟩) hS
  (L := fun E a' => ∀ w', Below w.heap.size w w' → (∀ j, E j w') → wpList P l.toArray (zI Q) (l.drop n) a' w')
  (fun listed a' E w' zf hall hL ⟨u, hu⟩ hE => by
   have hT : listed = Array.replicate n true ++ Array.replicate (l.toArray.size - n) false := by
    apply Array.ext_getElem?
    intro j; rw [Array.getElem?_append, Array.size_replicate]; by_cases hjs : j < l.toArray.size
    ·have hjl : j < listed.size := by omega
     have h1 := hall j hjs; rw [Array.getD_eq_getD_getElem?, Array.getElem?_eq_getElem hjl, Option.getD_some] at h1; rw [Array.getElem?_eq_getElem hjl, h1]; by_cases hj : j < n
     ·rw [if_pos hj, Array.getElem?_replicate, if_pos hj, decide_eq_true hj]
     ·rw [if_neg hj, Array.getElem?_replicate, if_pos (by omega), decide_eq_false hj]
    ·rw [Array.getElem?_eq_none (by omega), if_neg (by omega), Array.getElem?_replicate, if_neg (by omega)]
   rw [hT]; refine wpAny_of_seq (l.drop n) n _ a' w' (fun j => by simp [List.getElem?_drop]) (by rw [hdl]; exact hseq) ?_
   subst hu; exact hL _ (ji w u) hE)
  n (List.range n) (Array.replicate l.toArray.size false) a (fun _ _ => True) w.drew (by simp) List.pairwise_lt_range (by simp) (fun k => by
   rw [List.mem_range, decide_eq_true_eq]; refine ⟨fun hk => ⟨by omega, hk, getD_in (by rw [Array.size_replicate]; omega) (getD_replicate_false _ _)⟩, fun hk => hk.2.1⟩)
  (fun t hts _ => getD_in (by rw [Array.size_replicate]; exact hts) (getD_replicate_false _ _)) (fun j oj _ hl => (by rw [getD_replicate_false] at hl; cases hl))
  ⟨w.drew, zC ((Below.refl _ _).drew)⟩ (fun _ => trivial) (fun _ _ _ _ _ => trivial) h
 rw [hdl, show n + (l.toArray.size - n) = l.toArray.size by omega] at this
 exact this
def zjv (md : Region.Mode) (ops : Array Oper) (t : Nat) : Bool :=
 decide (t < ops.size) && Y6 md ops (fun k => !(k == t)) && zbg md ops (fun k => !(k == t)) && decide (Region.ready md ops ((Array.replicate ops.size true).setIfInBounds t false) = [t]) && (Region.ready md ops (Array.replicate ops.size true)).isEmpty
def rOp (o : Oper) : Bool := match o.op with
 | .move _ | .load .. | .binOp .. | .unOp .. | .convert .. | .fieldAddr .. | .field .. | .indexAddr .. | .index .. | .build .. | .slice .. | .extract .. | .assign .. | .pick .. => true
 | _ => false
theorem zgw {P : Program} {o : Oper} (h : rOp o = true) (ρ : Operand → Value) : ∃ s : Sem Value, ∀ w, (execOp ρ o).run P w = (s.run P w).andThen fun v w' => .ok (.value v) w' := by
 unfold rOp at h
 have hv : ∀ s : Sem Value, ∀ w, (do let x ← s; pure (Next.value x) : Sem Next).run P w = (s.run P w).andThen fun v w' => .ok (.value v) w' := fun s w => by
  simp only [Sem.run_bind, Sem.run_pure]
 unfold execOp
 cases ho : o.op <;> rw [ho] at h <;> first | (exact ⟨_, fun w => hv _ w⟩) | (cases h; done) | skip
 rotate_right
 ·rename_i c x y
  refine ⟨do let b ← asBool (ρ c); pure (if b = true then ρ x else ρ y), fun w => ?_⟩
  simp only [Sem.run_bind, Sem.run_pure]; cases (asBool (ρ c)).run P w <;> rfl
 all_goals first | (exact ⟨pure _, fun w => rfl⟩) | (simp only [Sem.run_pure]; exact ⟨pure _, fun w => by simp only [Sem.run_pure, Result.andThen_ok]⟩)
section
variable {P : Program} {ops : Array Oper} {Q : Exit → Act → World → Prop} {md : Region.Mode} {C : World → Prop} {S : Nat → Option j2} {L : (Nat → World → Prop) → Act → Prop}
theorem Qh {o : Oper} {v : Value} {a : Act} (ho : rOp o = true) (h : ∀ w, C w → o.quietAt P a C w v) : ∀ w, C w → (execOp a.eval o).run P w = .ok (.value v) w := fun w hw => by
 have h1 := h w hw
 unfold Oper.quietAt at h1
 obtain ⟨s, hs⟩ := zgw (P := P) ho a.eval
 rw [hs w] at h1 ⊢
 cases hr : s.run P w with
 | ok x w' =>
  rw [hr] at h1; obtain ⟨e1, e2⟩ : w' = w ∧ x = v := h1; rw [e1, e2]; rfl
 | halt x w' =>
  rw [hr] at h1; exact (h1 : False).elim
def uz (P : Program) (md : Region.Mode) (ops : Array Oper) (Q : Exit → Act → World → Prop) (C : World → Prop) (S : Nat → Option j2) (L : (Nat → World → Prop) → Act → Prop) (l : List Oper) (k : Nat) (E : Nat → World → Prop) (a : Act) : Prop :=
 (∀ j, j < l.length → l[j]? = ops[k + j]?) → wN P md ops Q C S L (List.range' k l.length) E a
theorem qi {k : Nat} {E : Nat → World → Prop} {a : Act} (h : L E a) : uz P md ops Q C S L [] k E a := fun _ => h
theorem Xx (m : Nat) {l : List Oper} {k : Nat} {E : Nat → World → Prop} {a : Act} (hB : ((l.take m).all rOp && (List.range' k m).all fun i => (S i).isNone) = true)
  (h : wpQuiet P ops C (fun a' => uz P md ops Q C S L (l.drop m) (k + m) E a') (l.take m) a) : uz P md ops Q C S L l k E a := by
 induction m generalizing l k a with
 | zero =>
  have h' : uz P md ops Q C S L (l.drop 0) (k + 0) E a := h
  simpa using h'
 | succ m ih =>
  cases l with
  | nil =>
   intro _; have h' : uz P md ops Q C S L [] (k + (m + 1)) E a := h; exact h' (fun j hj => absurd hj (by simp))
  | cons o r =>
   intro hl; simp only [List.take_succ_cons, List.all_cons, Bool.and_eq_true, List.range'_succ, List.drop_succ_cons] at hB h; obtain ⟨⟨ho, hr⟩, hk, hS⟩ := hB; have h0 : ops[k]? = some o := by simpa using (hl 0 (by simp)).symm
   have hSk : S k = none := by simpa using hk
   rw [List.length_cons, List.range'_succ]; have hl' : ∀ j, j < r.length → r[j]? = ops[k + 1 + j]? := fun j hj => by
    have := hl (j + 1) (by simp; omega)
    simpa [Nat.add_assoc, Nat.add_comm 1 j] using this
   have go : ∀ a', wpQuiet P ops C (fun a' => uz P md ops Q C S L (r.drop m) (k + (m + 1)) E a') (r.take m) a' → wN P md ops Q C S L (List.range' (k + 1) r.length) E a' := fun a' h' =>
    ih (by simp only [Bool.and_eq_true]; exact ⟨hr, hS⟩) (by rw [show k + 1 + m = k + (m + 1) by omega]; exact h') hl'
   unfold wN; rw [h0]; simp only; unfold wpQuiet at h; by_cases hw : Region.wanted o (yielded ops a.tmps) = true
   ·rw [if_pos hw] at h ⊢
    rw [hSk]; obtain ⟨v, hv, hK⟩ := h; exact ⟨v, Qh ho hv, go _ hK⟩
   ·rw [if_neg hw] at h ⊢
    exact go _ h
theorem wO {o : Oper} {r : List Oper} {k : Nat} {E : Nat → World → Prop} {a : Act} (hw : Region.wanted o (yielded ops a.tmps) = false) (h : uz P md ops Q C S L r (k + 1) E (a.put o.dst undef)) : uz P md ops Q C S L (o :: r) k E a := by
 intro hl
 have h0 : ops[k]? = some o := by simpa using (hl 0 (by simp)).symm
 rw [List.length_cons, List.range'_succ]
 unfold wN
 rw [h0]
 simp only
 rw [if_neg (by rw [hw]; decide)]
 exact h fun j hj => by
  have := hl (j + 1) (by simp; omega)
  simpa [Nat.add_assoc, Nat.add_comm 1 j] using this
theorem zcy {o : Oper} {r : List Oper} {k : Nat} {E : Nat → World → Prop} {a : Act} {s : j2} (hS : S k = some s) (hw : Region.wanted o (yielded ops a.tmps) = true)
  (hstep : ∀ w, C w → (∀ j, Region.waitsFor md ops k j = true → E j w) → ∀ K : Act → World → Prop, (∀ x w', s.F x w' → Below w.heap.size w w' → K (a.put o.dst (s.f x)) w') → o.wp P a w K (zI Q))
  (h : ∀ x, uz P md ops Q C S L r (k + 1) (uu E k (s.F x)) (a.put o.dst (s.f x))) : uz P md ops Q C S L (o :: r) k E a := by
 intro hl
 have h0 : ops[k]? = some o := by simpa using (hl 0 (by simp)).symm
 rw [List.length_cons, List.range'_succ]
 unfold wN
 rw [h0]
 simp only
 rw [if_pos hw, hS]
 refine ⟨ze6 hstep, fun x => h x fun j hj => ?_⟩
 have := hl (j + 1) (by simp; omega)
 simpa [Nat.add_assoc, Nat.add_comm 1 j] using this
end
theorem qv {P : Program} {ops : Array Oper} {Q : Exit → Act → World → Prop} {md : Region.Mode} {w0 : World} {S : Nat → Option j2} {L : (Nat → World → Prop) → Act → Prop} {o : Oper} {r : List Oper} {k : Nat} {E : Nat → World → Prop} {a : Act} {s : j2} (hS : S k = some s) (hw : Region.wanted o (yielded ops a.tmps) = true)
  (hstep : ∀ w, Below w0.heap.size w0 w → (∀ j, Region.waitsFor md ops k j = true → E j w) → ∀ K : Act → World → Prop, (∀ x w', s.F x w' → Below w.heap.size w w' → K (a.put o.dst (s.f x)) w') → o.wp P a w K (zI Q))
  (h : ∀ x, uz P md ops Q (fun w' => ∃ u, w' = ov w0 u) S L r (k + 1) (uu E k (s.F x)) (a.put o.dst (s.f x))) : uz P md ops Q (fun w' => ∃ u, w' = ov w0 u) S L (o :: r) k E a :=
 zcy hS hw (fun w ⟨u, hu⟩ hE => hstep w (by rw [hu]; exact ji _ _) hE) h
def zF (v : Value) : j2 := ⟨Unit, ⟨()⟩, fun _ => v, fun _ _ => True, fun _ _ _ _ h => h⟩
theorem zA {P : Program} {id : Nat} {Q : Exit → Act → World → Prop} {a : Act} {w : World} {l : List Oper} (n : Nat) (S : List (Nat × j2)) (hm : P.follows .mixedOrders = true) (hB : vB .any l.toArray n = true) (hS : zac l.toArray (S.map (·.1)) = true)
  (h : uz P .any l.toArray Q (fun w' => ∃ u, w' = ov w u) (Yb S) (fun E a' => ∀ w', Below w.heap.size w w' → (∀ j, E j w') → wpList P l.toArray (zI Q) (l.drop n) a' w') (l.take n) 0 (fun _ _ => True) a) : (Code.region id l.toArray true).wp P Q a w := by
 have hn : n ≤ l.length := by
  have hB' := hB; simp only [vB, Bool.and_eq_true, decide_eq_true_eq] at hB'
  simpa using hB'.1.1.1
 have hlen : (l.take n).length = n := by simp; omega
 have h' := h fun j hj => by
  rw [hlen] at hj; simp [hj]
 rw [hlen, ← List.range_eq_range'] at h'
 exact Wb n (Yb S) hm hB (Xk hS) h'
theorem zff {P : Program} {g : FuncId} {xs : Array Operand} {ats : Array TypeId} {o : Oper} {a : Act} {w : World} {K : Act → World → Prop} {Q : Exit → Act → World → Prop} {vals : Array Value} (ho : o.op = .call { callee := .value (.func g), args := xs, argTypes := ats }) (eg : Go.Proofs.Enters P g) (hv : xs.map a.eval = vals)
  (h : Calls P g vals w fun e w' => ∃ v, e = .returned v ∧ K (a.put o.dst v) w') : o.wp P a w K Q := by
 subst hv
 obtain ⟨dst, op, ty, pos, after, guard⟩ := o
 simp only at ho
 subst ho
 unfold Oper.wp
 rw [execOp_call_go, show (#[] ++ xs.map a.eval ++ #[] : Array Value) = xs.map a.eval by simp, eg]
 exact Calls.mono h fun e w' ⟨v, he, hk⟩ => by subst he; exact hk
theorem kK {P : Program} {x : Operand} {t e : TypeId} {o : Oper} {a : Act} {w : World} {K : Act → World → Prop} {Q : Exit → Act → World → Prop} {ad : Option Addr} {n c : Nat} (ho : o.op = .call { callee := .builtin .len, args := #[x], argTypes := #[t] }) (ht : P.underlying t = some (.slice e)) (hx : a.eval x = .slice ad n c)
  (h : K (a.put o.dst (.int .i64 n)) w) : o.wp P a w K Q := by
 obtain ⟨dst, op, ty, pos, after, guard⟩ := o
 simp only at ho
 subst ho
 unfold Oper.wp
 have hu := run_underlying ht w
 have key : ∀ ρ : Operand → Value, ρ x = .slice ad n c → (execOp ρ { dst, op := .call { callee := .builtin .len, args := #[x], argTypes := #[t] }, type := ty, pos, after, guard : Oper }).run P w = .ok (.value (.int .i64 n)) w := fun ρ hρ => by
  have hl : (Builtin.len_ #[t] ty #[.slice ad n c]).run P w = .ok (goInt n) w := by simp [Builtin.len_, hu]
  simp [go_sem, hρ, hl]
 have := key a.eval hx
 rw [this]
 exact h
section
variable {P : Program} {ops : Array Oper} {Q : Exit → Act → World → Prop} {w : World}
theorem ug (m : Nat) {l : List Oper} {a : Act} (hB : (l.take m).all rOp = true)
  (h : wpQuiet P ops (fun w' => ∃ u, w' = ov w u) (fun a' => wpList P ops Q (l.drop m) a' w) (l.take m) a) : wpList P ops Q l a w := by
 induction m generalizing l a with
 | zero => exact h
 | succ m ih =>
  cases l with
  | nil => exact h
  | cons o r =>
   simp only [List.take_succ_cons, List.all_cons, Bool.and_eq_true, List.drop_succ_cons] at hB h; unfold wpQuiet at h; unfold wpList; by_cases hw : Region.wanted o (yielded ops a.tmps) = true
   ·rw [if_pos hw] at h ⊢
    obtain ⟨v, hv, hK⟩ := h
    left
    unfold Oper.wp; rw [Qh hB.1 hv w ⟨w, zC (Below.refl _ _)⟩]; exact ih hB.2 hK
   ·rw [if_neg hw] at h ⊢
    exact ih hB.2 h
theorem Ql {g : FuncId} {xs : Array Operand} {ats : Array TypeId} {o : Oper} {r : List Oper} {a : Act} {vals : Array Value} (hw : Region.wanted o (yielded ops a.tmps) = true) (ho : o.op = .call { callee := .value (.func g), args := xs, argTypes := ats }) (eg : Go.Proofs.Enters P g) (hv : xs.map a.eval = vals)
  (h : Calls P g vals w fun e w' => ∃ v, e = .returned v ∧ wpList P ops Q r (a.put o.dst v) w') : wpList P ops Q (o :: r) a w := by
 unfold wpList
 rw [if_pos hw]
 exact .inl (zff ho eg hv h)
theorem V8 {x : Operand} {t e : TypeId} {o : Oper} {r : List Oper} {a : Act} {ad : Option Addr} {n c : Nat} (hw : Region.wanted o (yielded ops a.tmps) = true) (ho : o.op = .call { callee := .builtin .len, args := #[x], argTypes := #[t] }) (ht : P.underlying t = some (.slice e)) (hx : a.eval x = .slice ad n c)
  (h : wpList P ops Q r (a.put o.dst (.int .i64 n)) w) : wpList P ops Q (o :: r) a w := by
 unfold wpList
 rw [if_pos hw]
 exact .inl (kK ho ht hx h)
theorem qm {o : Oper} {r : List Oper} {a : Act} (hw : Region.wanted o (yielded ops a.tmps) = false) (h : wpList P ops Q r (a.put o.dst undef) w) : wpList P ops Q (o :: r) a w := by
 unfold wpList
 rw [if_neg (by rw [hw]; decide)]
 exact h
end
theorem zJ (w : World) (o : Obj) (i : Nat) : (w.alloc o).heap[i]? = if i = w.heap.size then some o else w.heap[i]? := by
 show (w.heap.push o)[i]? = _
 rw [Array.getElem?_push]
theorem qf {w : World} {b : Nat} {cs : Array Value} {t : TypeId} (h : w.heap[b]? = some (.cells cs t (0, 0))) :
  (∀ j, w.cell? ⟨b, j, none⟩ = cs[j]?) ∧ (∀ j, w.frozen? ⟨b, j, none⟩ = false) :=
 ⟨fun j => cell_of_row w b j cs t (0, 0) h, fun j => frozen_of_row w b j cs t h⟩
structure qY (b : Nat) (w w' : World) : Prop where
 os : w'.os = w.os
 tape : w'.tape = w.tape
 output : w'.output = w.output
 size : w.heap.size ≤ w'.heap.size
 block : ∀ k, k < w.heap.size → k ≠ b → w'.heap[k]? = w.heap[k]?
theorem qY.refl (b : Nat) (w : World) : qY b w w := ⟨rfl, rfl, rfl, Nat.le_refl _, fun _ _ _ => rfl⟩
theorem qY.trans {b : Nat} {w1 w2 w3 : World} (h : qY b w1 w2) (k : qY b w2 w3) : qY b w1 w3 :=
 ⟨k.os.trans h.os, k.tape.trans h.tape, k.output.trans h.output, Nat.le_trans h.size k.size, fun i hi hb => (k.block i (Nat.lt_of_lt_of_le hi h.size) hb).trans (h.block i hi hb)⟩
theorem qY.of_below {b : Nat} {w w' : World} (h : Below w.heap.size w w') : qY b w w' := ⟨h.os, h.tape, h.output, h.size, fun k hk _ => h.block k hk⟩
theorem qY.setCell {b i : Nat} {w w' : World} (h : qY b w w') (v : Value) : qY b w (w'.setCell ⟨b, i, none⟩ v) :=
 ⟨h.os, h.tape, h.output, by rw [World.size_setCell]; exact h.size, fun k hk hb => (heap_setCell_other _ _ _ _ hb).trans (h.block k hk hb)⟩
theorem qY.alloc {b : Nat} {w w' : World} (h : qY b w w') (o : Obj) : qY b w (w'.alloc o) :=
 ⟨h.os, h.tape, h.output, Nat.le_trans h.size (by rw [World.size_alloc]; omega), fun k hk hb => by rw [zJ, if_neg (by have := h.size; omega)]; exact h.block k hk hb⟩
theorem qY.be {b B : Nat} {w w1 w2 : World} (h : Below B w w1) (k : qY b w1 w2) (hB : B ≤ b) (hw : B ≤ w1.heap.size) : Below B w w2 :=
 h.trans ⟨k.os, k.tape, k.output, k.size, fun i hi => k.block i (by omega) (by omega)⟩
theorem qY.setRow {b : Nat} {w w' : World} (h : qY b w w') (cs : Array Value) : qY b w (w'.setRow b cs) :=
 ⟨h.os, h.tape, h.output, by rw [size_setRow]; exact h.size, fun k hk hb => (setRow_other _ _ _ _ hb).trans (h.block k hk hb)⟩
theorem uQ {w : World} {b j : Nat} {v : Value} (h : w.cell? ⟨b, j, none⟩ = some v) : (Instr.loadAt 5 (.pointer (some ⟨b, j, none⟩))).run Tryz.prog w = .ok v w := by
 simp [go_sem, h]
theorem qt {w : World} {b j : Nat} {v : Value} (h : w.cell? ⟨b, j, none⟩ = some v) : (Instr.loadAt 3 (.pointer (some ⟨b, j, none⟩))).run Tryz.prog w = .ok v w := by
 simp [go_sem, h]
theorem Zq {w : World} {b off : Nat} {bcs cs : Array Value} {bt t : TypeId} (h : w.heap[b]? = some (.cells bcs bt (0, 0))) (hagg : ∀ w : World, (isAgg t).run Tryz.prog w = .ok true w)
  (zf : (Tryz.prog.info? t).map (·.size) = some cs.size) (hc : ∀ j, j < cs.size → bcs[off + j]? = cs[j]?) : (Instr.loadAt t (.pointer (some ⟨b, off, none⟩))).run Tryz.prog w = .ok (.agg cs) w := by
 simp only [Instr.loadAt, Instr.sureAddr, Sem.run_bind, Sem.run_pure, Result.andThen_ok]
 have hl : (loadCells ⟨b, off, none⟩ cs.toList.length).run Tryz.prog w = .ok cs.toList.toArray w :=
  run_loadCells_list (P := Tryz.prog) w ⟨b, off, none⟩ cs.toList (fun j v hv => by
   have hadd : (⟨b, off, none⟩ : Addr).add j = ⟨b, off + j, none⟩ := by unfold Addr.add; split <;> simp_all
   have hj : j < cs.size := by
    have := (List.getElem?_eq_some_iff.1 hv).1; rw [Array.length_toList] at this; exact this
   rw [hadd, cell_of_row w b _ bcs _ (0, 0) h, hc j hj]
   simpa using hv)
 cases hq : Tryz.prog.info? t with
 | none => rw [hq] at zf; cases zf
 | some i =>
  have he : i.size = cs.size := by rw [hq] at zf; simpa using zf
  rw [Array.length_toList] at hl; simp only [Array.toArray_toList] at hl; simp only [loadVar, Sem.run_bind, hagg w, sizeOf, typeInfo, hq, he, hl, run_program, Result.andThen_ok, if_true, Sem.run_pure]
section
variable {ops : Array Oper} {rest : List Oper} {o : Oper} {a : Act} {w : World} {Q : Exit → Act → World → Prop}
theorem zp {t : TypeId} {v : Value} (hg : o.guard = none) (x : Operand) (ho : o.op = .load t x) (b j j' : Nat) (hx : a.eval x = .pointer (some ⟨b, j', none⟩)) (hr : (Instr.loadAt t (.pointer (some ⟨b, j, none⟩))).run Tryz.prog w = .ok v w) (hj : j' = j)
  (h : wpList Tryz.prog ops Q rest (a.put o.dst v) w) : wpList Tryz.prog ops Q (o :: rest) a w :=
 wpList_plain hg fun K hK => by
  subst hj; unfold Oper.wp execOp; simp only [ho, hx, hr, Sem.run_bind, Sem.run_pure, Result.andThen_ok]; exact hK _ _ h
theorem qj {t : TypeId} (hg : o.guard = none) (x y : Operand) (ho : o.op = .store t x y) (w' : World) (hrun : (Instr.storeAt t (a.eval x) (a.eval y)).run Tryz.prog w = .ok () w')
  (h : wpList Tryz.prog ops Q rest (a.put o.dst undef) w') : wpList Tryz.prog ops Q (o :: rest) a w :=
 wpList_plain hg fun K hK => by
  unfold Oper.wp execOp; simp only [ho, hrun, Sem.run_bind, Sem.run_pure, Result.andThen_ok]; exact hK _ _ h
end
section
variable {C : World → Prop} {a : Act} {o : Oper} {K : Act → Prop}
theorem Zm {t : TypeId} {v : Value} {x : Operand} (h : o.op = .load t x) (b j j' : Nat) (hx : a.eval x = .pointer (some ⟨b, j', none⟩)) (hr : ∀ w, C w → (Instr.loadAt t (.pointer (some ⟨b, j, none⟩))).run Tryz.prog w = .ok v w) (hj : j' = j) (hk : K (a.put o.dst v)) : o.quiet Tryz.prog a C K :=
 ⟨_, fun w hw => by subst hj; unfold Oper.quietAt execOp; simp only [h, hx, hr w hw, Sem.run_bind, Sem.run_pure, Result.andThen_ok]; exact ⟨rfl, rfl⟩, hk⟩
end
def zw (t : TypeId) (w : World) (b : Nat) (cs : Array Value) : Prop := w.heap[b]? = some (.cells cs t (0, 0))
section
variable {t : TypeId} {w : World} {b : Nat} {cs cs' : Array Value}
theorem zw.of_eq {w' : World} (h : zw t w b cs) (e : w'.heap[b]? = w.heap[b]?) : zw t w' b cs := e.trans h
theorem zw.lt (h : zw t w b cs) : b < w.heap.size := (Array.getElem?_eq_some_iff.1 h).1
theorem zw.be {t : TypeId} {w w' : World} {b : Nat} {cs : Array Value} (h : zw t w b cs) (e : Below w.heap.size w w') : zw t w' b cs := h.of_eq (e.block _ h.lt)
theorem zw.cell (h : zw t w b cs) (i : Nat) {v : Value} (hv : cs[i]? = some v) : w.cell? ⟨b, i, none⟩ = some v := ((qf h).1 i).trans hv
theorem zw.frozen (h : zw t w b cs) (i : Nat) : w.frozen? ⟨b, i, none⟩ = false := (qf h).2 i
theorem zw.setRow (h : zw t w b cs) (cs' : Array Value) : zw t (w.setRow b cs') b cs' := setRow_heap w b _ _ _ _ h
theorem zY (h : zw t w b cs) : ∀ w', (∃ u, w' = ov w u) → zw t w' b cs := by
 rintro w' ⟨u, rfl⟩
 exact h.of_eq ((ji w u).block _ h.lt)
theorem qE (h : zw t w b cs) (hagg : ∀ w : World, (isAgg t).run Tryz.prog w = .ok true w) (zf : (Tryz.prog.info? t).map (·.size) = some cs.size) : (Instr.loadAt t (.pointer (some ⟨b, 0, none⟩))).run Tryz.prog w = .ok (.agg cs) w :=
 Zq (off := 0) h hagg zf (fun j _ => by rw [Nat.zero_add])
theorem uP {t' : TypeId} (h : zw t w b cs) (off : Nat) (hagg : ∀ w : World, (isAgg t').run Tryz.prog w = .ok true w) (zf : (Tryz.prog.info? t').map (·.size) = some cs'.size) (hc : ∀ j, j < cs'.size → cs[off + j]? = cs'[j]?) : (Instr.loadAt t' (.pointer (some ⟨b, off, none⟩))).run Tryz.prog w = .ok (.agg cs') w :=
 Zq h hagg zf hc
theorem QW (h : zw t w b cs) (zf : (Tryz.prog.info? t).map (·.size) = some cs'.size) (hss : cs'.size = cs.size) (hone : cs'.all (·.oneCell') = true) : (Instr.storeAt t (.pointer (some ⟨b, 0, none⟩)) (.agg cs')).run Tryz.prog w = .ok () (w.setRow b cs') := by
 simp only [Instr.storeAt, Instr.sureAddr, Sem.run_bind, Sem.run_pure, Result.andThen_ok]
 exact run_storeVar_row w b _ t _ _ h zf hss.symm hone
end
section
variable {t : TypeId} {ops : Array Oper} {rest : List Oper} {o : Oper} {a : Act} {w : World} {Q : Exit → Act → World → Prop}
theorem zL (hg : o.guard = none) (x : Operand) (ho : o.op = .box t x) (cs : Array Value) (hx : a.eval x = .agg cs)
  (h : ∀ b w', w.heap.size ≤ b → b ≤ w.heap.size → zw t w' b cs → Below b w w' → w'.heap.size = b + 1 → wpList Tryz.prog ops Q rest (a.put o.dst (.pointer (some ⟨b, 0, none⟩))) w') : wpList Tryz.prog ops Q (o :: rest) a w :=
 wpList_plain hg fun K hK => by
  have e : (a.eval x).cells = cs := by rw [hx]; simp only [Value.cells]
  unfold Oper.wp execOp; simp only [ho, Sem.run_bind, Instr.box, newVar, newRow, run_newObj_alloc, Sem.run_pure, Result.andThen_ok, e]; exact hK _ _ (h _ _ (Nat.le_refl _) (Nat.le_refl _) (by unfold zw; rw [zJ, if_pos rfl]) ((Below.refl _ _).alloc (Nat.le_refl _) _) (World.size_alloc _ _))
theorem V4 (hg : o.guard = none) (x : Operand) (ho : o.op = .box t x) (v : Value) (hx : a.eval x = v) (hv : v.cells = #[v])
  (h : ∀ b w', w.heap.size ≤ b → b ≤ w.heap.size → zw t w' b #[v] → Below b w w' → w'.heap.size = b + 1 → wpList Tryz.prog ops Q rest (a.put o.dst (.pointer (some ⟨b, 0, none⟩))) w') : wpList Tryz.prog ops Q (o :: rest) a w :=
 wpList_plain hg fun K hK => by
  have e : (a.eval x).cells = #[v] := by rw [hx]; exact hv
  unfold Oper.wp execOp; simp only [ho, Sem.run_bind, Instr.box, newVar, newRow, run_newObj_alloc, Sem.run_pure, Result.andThen_ok, e]; exact hK _ _ (h _ _ (Nat.le_refl _) (Nat.le_refl _) (by unfold zw; rw [zJ, if_pos rfl]) ((Below.refl _ _).alloc (Nat.le_refl _) _) (World.size_alloc _ _))
theorem zZ {cs : Array Value} (hg : o.guard = none) (x y : Operand) (ho : o.op = .store t x y) (b : Nat) (hx : a.eval x = .pointer (some ⟨b, 0, none⟩)) (cs' : Array Value) (hy : a.eval y = .agg cs') (ht : zw t w b cs) (zf : (Tryz.prog.info? t).map (·.size) = some cs'.size) (hss : cs'.size = cs.size) (hone : cs'.all (·.oneCell') = true)
  (h : ∀ w', zw t w' b cs' → qY b w w' → w'.heap.size = w.heap.size → wpList Tryz.prog ops Q rest (a.put o.dst undef) w') : wpList Tryz.prog ops Q (o :: rest) a w := by
 refine qj hg x y ho _ ?_ (h _ (ht.setRow cs') ((qY.refl b w).setRow _) (size_setRow _ _ _))
 rw [hx, hy]
 exact QW ht zf hss hone
theorem jp (hg : o.guard = none) (cs : Array Value) (hrun : ∀ ev, (execOp ev o).run Tryz.prog w = .ok (.value (.pointer (some ⟨w.heap.size, 0, none⟩))) (w.alloc (.cells cs t)))
  (h : ∀ b w', w.heap.size ≤ b → b ≤ w.heap.size → zw t w' b cs → Below b w w' → w'.heap.size = b + 1 → wpList Tryz.prog ops Q rest (a.put o.dst (.pointer (some ⟨b, 0, none⟩))) w') : wpList Tryz.prog ops Q (o :: rest) a w :=
 wpList_plain hg fun K hK => by
  unfold Oper.wp; rw [hrun]; exact hK _ _ (h _ _ (Nat.le_refl _) (Nat.le_refl _) (by unfold zw; rw [zJ, if_pos rfl]) ((Below.refl _ _).alloc (Nat.le_refl _) _) (World.size_alloc _ _))
end
theorem zcl {t : TypeId} {fn : Func} {p : Tmp} (h : fn.results = #[.cell p t]) (tmps : Array Value) (w : World) (b : Nat) (hp : tmps.getD p undef = .pointer (some ⟨b, 0, none⟩)) {cs : Array Value} (ht : zw t w b cs) (hagg : ∀ w : World, (isAgg t).run Tryz.prog w = .ok true w) (zf : (Tryz.prog.info? t).map (·.size) = some cs.size) :
  (results fn tmps).run Tryz.prog w = .ok (.agg cs) w := by
 have hl := qE ht hagg zf
 simp only [Instr.loadAt, Instr.sureAddr, Sem.run_bind, Sem.run_pure, Result.andThen_ok] at hl
 unfold results
 rw [h]
 have hp' : tmps[p]?.getD undef = .pointer (some ⟨b, 0, none⟩) := by simpa using hp
 simp [hp', Instr.sureAddr, asAddr, hl, Sem.run_bind, Sem.run_pure, Result.andThen_ok]
theorem ZJ {t : TypeId} {fn : Func} {p q : Tmp} (h : fn.results = #[.cell p t, .tmp q]) (tmps : Array Value) (w : World) (b : Nat) (hp : tmps.getD p undef = .pointer (some ⟨b, 0, none⟩)) {cs : Array Value} (v : Value) (hq : tmps.getD q undef = v) (ht : zw t w b cs) (hagg : ∀ w : World, (isAgg t).run Tryz.prog w = .ok true w) (zf : (Tryz.prog.info? t).map (·.size) = some cs.size) :
  (results fn tmps).run Tryz.prog w = .ok (.tuple #[.agg cs, v]) w := by
 have hl := qE ht hagg zf
 simp only [Instr.loadAt, Instr.sureAddr, Sem.run_bind, Sem.run_pure, Result.andThen_ok] at hl
 unfold results
 rw [h]
 have hp' : tmps[p]?.getD undef = .pointer (some ⟨b, 0, none⟩) := by simpa using hp
 have hq' : tmps[q]?.getD undef = v := by simpa using hq
 simp [hp', hq', Instr.sureAddr, asAddr, hl, Sem.run_bind, Sem.run_pure, Result.andThen_ok]
def zbF (P : Program) (t : TypeId) : Bool := match P.underlying t with
 | some (.struct _) => true
 | some (.array _ _) => true
 | _ => false
def zeo (P : Program) (t : TypeId) : Bool := match P.underlying t with
 | some (.struct _) => false
 | some (.array _ _) => false
 | some _ => true
 | none => false
theorem Jd {t : TypeId} (h : zbF Tryz.prog t = true) (w : World) : (isAgg t).run Tryz.prog w = .ok true w := by
 unfold zbF at h
 cases hu : Tryz.prog.underlying t with
 | none => rw [hu] at h; cases h
 | some u =>
  have hr := run_underlying hu w; rw [hu] at h; unfold isAgg; simp only [Sem.run_bind, hr, Result.andThen_ok]; cases u <;> first | rfl | cases h
theorem zhn {t : TypeId} (h : zeo Tryz.prog t = true) (w : World) : (isAgg t).run Tryz.prog w = .ok false w := by
 unfold zeo at h
 cases hu : Tryz.prog.underlying t with
 | none => rw [hu] at h; cases h
 | some u =>
  have hr := run_underlying hu w; rw [hu] at h; unfold isAgg; simp only [Sem.run_bind, hr, Result.andThen_ok]; cases u <;> first | rfl | cases h
theorem Qg {t : TypeId} (hg : zeo Tryz.prog t = true) {w : World} {b j : Nat} {v : Value} (h : w.cell? ⟨b, j, none⟩ = some v) : (Instr.loadAt t (.pointer (some ⟨b, j, none⟩))).run Tryz.prog w = .ok v w := by
 have ha := zhn hg w
 simp [go_sem, h]
 rw [ha]
 simp [h]
section
variable {o : Oper} {a : Act} {K : Act → Prop} {w : World} {b : Nat} {cs : Array Value} {t : TypeId} {p : Operand}
theorem qB (hk : K (a.put o.dst (.agg cs))) (ho : o.op = .load t p := by rfl) (he : a.eval p = .pointer (some ⟨b, 0, none⟩) := by rfl) (h : zw t w b cs := by assumption) (hg : zbF Tryz.prog t = true := by decide +kernel) (hs : (Tryz.prog.info? t).map (·.size) = some cs.size := by kernel_rfl) : o.quiet Tryz.prog a (fun w' => ∃ u, w' = ov w u) K :=
 Zm ho _ _ _ he (fun w' hw => qE (zY h w' hw) (Jd hg) hs) rfl hk
theorem qC {t0 : TypeId} {i : Nat} {v : Value} {l : List Value} (hk : K (a.put o.dst v)) (ho : o.op = .load t p := by rfl) (he : a.eval p = .pointer (some ⟨b, i, none⟩) := by rfl) (h : zw t0 w b cs := by assumption) (hg : zeo Tryz.prog t = true := by decide +kernel) (hc : cs = l.toArray := by rfl) (hv : l[i]? = some v := by rfl) : o.quiet Tryz.prog a (fun w' => ∃ u, w' = ov w u) K :=
 Zm ho _ _ _ he (fun w' hw => Qg hg ((zY h w' hw).cell i (by rw [hc, List.getElem?_toArray]; exact hv))) rfl hk
end
section
variable {P : Program} {ops : Array Oper} {Q : Exit → Act → World → Prop} {w : World}
theorem vr {C : World → Prop} {R R' : Act → Prop} (hR : ∀ a, R a → R' a) : ∀ (l : List Oper) (a : Act), wpQuiet P ops C R l a → wpQuiet P ops C R' l a
 | [], a, h => hR a h
 | o :: r, a, h => by
  unfold wpQuiet at h ⊢; split
  ·rename_i hw
   rw [if_pos hw] at h; obtain ⟨v, h1, h2⟩ := h; exact ⟨v, h1, vr hR r _ h2⟩
  ·rename_i hw
   rw [if_neg hw] at h; exact vr hR r _ h
theorem jL (m : Nat) {l l1 l2 : List Oper} {a a' : Act} (h : wpList P ops Q l2 a' w) (hB : (l.take m).all rOp = true := by kernel_rfl) (h1 : l.take m = l1 := by (simp only [jS, Nat.reduceAdd]; rfl)) (h2 : l.drop m = l2 := by (simp only [jS, Nat.reduceAdd]; rfl))
  (hq : wpQuiet P ops (fun w' => ∃ u, w' = ov w u) (fun x => x = a') l1 a := by ((repeat (first | go_big_quiet_skip | (go_big_quiet_want; first | ((first | refine qB ?_ | refine qC ?_); simp only [zn]; go_big_quiet_on) | (go_big_quiet_op; go_big_quiet_on)))); exact wpQuiet_nil rfl)) : wpList P ops Q l a w := by
 refine ug m hB ?_
 rw [h1, h2]
 exact vr (fun x e => by subst e; exact h) _ _ hq
theorem jD (m : Nat) {l l1 l2 : List Oper} {a : Act} (h : wpQuiet P ops (fun w' => ∃ u, w' = ov w u) (fun a' => wpList P ops Q l2 a' w) l1 a) (hB : (l.take m).all rOp = true := by kernel_rfl) (h1 : l.take m = l1 := by (simp only [jS, Nat.reduceAdd]; rfl)) (h2 : l.drop m = l2 := by (simp only [jS, Nat.reduceAdd]; rfl)) : wpList P ops Q l a w := by
 refine ug m hB ?_
 rw [h1, h2]
 exact h
theorem xz {g : FuncId} {xs : Array Operand} {ats : Array TypeId} {o : Oper} {r : List Oper} {a : Act} {vals : Array Value} {post : Ending → World → Prop} (eg : Go.Proofs.Enters P g) (ho : o.op = .call { callee := .value (.func g), args := xs, argTypes := ats } := by rfl) (hw : Region.wanted o (yielded ops a.tmps) = true := by first | rfl | simp [Region.wanted, yielded]) (hv : xs.map a.eval = vals := by (simp only [Act.eval, yj] <;> rfl))
  (c : Calls P g vals w post) (h : ∀ e w', post e w' → ∃ v, e = .returned v ∧ wpList P ops Q r (a.put o.dst v) w') : wpList P ops Q (o :: r) a w :=
 Ql hw ho eg hv (c.mono h)
theorem xV {w0 w : World} {b : Nat} {F G : World → Prop} (B : Below w0.heap.size w0 w) (hb : w0.heap.size ≤ b) (h : ∀ w', F w' → qY b w w' → w0.heap.size ≤ w.heap.size → w.heap.size ≤ w'.heap.size → Below w0.heap.size w0 w' → G w') : ∀ w', F w' → qY b w w' → w'.heap.size = w.heap.size → G w' :=
 fun w' f c e => h w' f c B.size (Nat.le_of_eq e.symm) (qY.be B c hb B.size)
theorem kn {w0 w : World} {F G : Nat → World → Prop} (B : Below w0.heap.size w0 w) (h : ∀ b w', w.heap.size ≤ b → b ≤ w.heap.size → F b w' → Below b w w' → w0.heap.size ≤ w.heap.size → b < w'.heap.size → Below w0.heap.size w0 w' → G b w') : ∀ b w', w.heap.size ≤ b → b ≤ w.heap.size → F b w' → Below b w w' → w'.heap.size = b + 1 → G b w' :=
 fun b w' h1 h2 f c e => h b w' h1 h2 f c B.size (Nat.lt_of_lt_of_eq (Nat.lt_succ_self _) e.symm) (B.trans (c.mono (Nat.le_trans B.size h1)))
end
section
variable {P : Program} {md : Region.Mode} {ops : Array Oper} {Q : Exit → Act → World → Prop} {w : World} {S : Nat → Option j2} {L : (Nat → World → Prop) → Act → Prop}
theorem vV (m : Nat) {l l1 l2 : List Oper} {k k2 : Nat} {E : Nat → World → Prop} {a : Act} (h : wpQuiet P ops (fun w' => ∃ u, w' = ov w u) (fun a' => uz P md ops Q (fun w' => ∃ u, w' = ov w u) S L l2 k2 E a') l1 a) (hB : ((l.take m).all rOp && (List.range' k m).all fun i => (S i).isNone) = true := by kernel_rfl) (h1 : l.take m = l1 := by (simp only [jS, Nat.reduceAdd]; rfl)) (h2 : l.drop m = l2 := by (simp only [jS, Nat.reduceAdd]; rfl)) (h3 : k + m = k2 := by (simp only [Nat.reduceAdd]; rfl)) : uz P md ops Q (fun w' => ∃ u, w' = ov w u) S L l k E a := by
 refine Xx m hB ?_
 rw [h1, h2, h3]
 exact h
theorem vi (m : Nat) {l l1 l2 : List Oper} {k k2 : Nat} {E : Nat → World → Prop} {a a' : Act} (h : uz P md ops Q (fun w' => ∃ u, w' = ov w u) S L l2 k2 E a') (hB : ((l.take m).all rOp && (List.range' k m).all fun i => (S i).isNone) = true := by kernel_rfl) (h1 : l.take m = l1 := by (simp only [jS, Nat.reduceAdd]; rfl)) (h2 : l.drop m = l2 := by (simp only [jS, Nat.reduceAdd]; rfl)) (h3 : k + m = k2 := by (simp only [Nat.reduceAdd]; rfl))
  (hq : wpQuiet P ops (fun w' => ∃ u, w' = ov w u) (fun x => x = a') l1 a := by ((repeat (first | go_big_quiet_skip | (go_big_quiet_want; first | ((first | refine qB ?_ | refine qC ?_); simp only [zn]; go_big_quiet_on) | (go_big_quiet_op; go_big_quiet_on)))); exact wpQuiet_nil rfl)) : uz P md ops Q (fun w' => ∃ u, w' = ov w u) S L l k E a := by
 refine Xx m hB ?_
 rw [h1, h2, h3]
 exact vr (fun x e => by subst e; exact h) _ _ hq
end
section
variable {P : Program} {ops : Array Oper} {Q : Exit → Act → World → Prop} {w : World} {l l1 l2 : List Oper} {a a' : Act} {id : Nat}
theorem qz (m : Nat) (h : wpList P l.toArray Q l2 a' w) (hB : (l.take m).all rOp = true := by kernel_rfl) (h1 : l.take m = l1 := by (simp only [jS, Nat.reduceAdd]; rfl)) (h2 : l.drop m = l2 := by (simp only [jS, Nat.reduceAdd]; rfl)) (hq : wpQuiet P l.toArray (fun w' => ∃ u, w' = ov w u) (fun x => x = a') l1 a := by ((repeat (first | go_big_quiet_skip | (go_big_quiet_want; first | ((first | refine qB ?_ | refine qC ?_); simp only [zn]; go_big_quiet_on) | (go_big_quiet_op; go_big_quiet_on)))); exact wpQuiet_nil rfl)) : (Code.region id l.toArray false).wp P Q a w :=
 wp_region_lit (jL m h hB h1 h2 hq)
theorem zS (m : Nat) (h : Q .normal a' w) (hB : (l.take m).all rOp = true := by kernel_rfl) (h1 : l.take m = l1 := by (simp only [jS, Nat.reduceAdd]; rfl)) (h2 : l.drop m = [] := by (simp only [jS, Nat.reduceAdd] <;> rfl)) (hq : wpQuiet P l.toArray (fun w' => ∃ u, w' = ov w u) (fun x => x = a') l1 a := by ((repeat (first | go_big_quiet_skip | (go_big_quiet_want; first | ((first | refine qB ?_ | refine qC ?_); simp only [zn]; go_big_quiet_on) | (go_big_quiet_op; go_big_quiet_on)))); exact wpQuiet_nil rfl)) : (Code.region id l.toArray false).wp P Q a w :=
 wp_region_lit (jL m (wpList_nil h) hB h1 h2 hq)
theorem z7 (m : Nat) (h : Q .normal a' w) (hB : (l.take m).all rOp = true := by kernel_rfl) (h1 : l.take m = l1 := by (simp only [jS, Nat.reduceAdd]; rfl)) (h2 : l.drop m = [] := by (simp only [jS, Nat.reduceAdd] <;> rfl)) (hq : wpQuiet P ops (fun w' => ∃ u, w' = ov w u) (fun x => x = a') l1 a := by ((repeat (first | go_big_quiet_skip | (go_big_quiet_want; first | ((first | refine qB ?_ | refine qC ?_); simp only [zn]; go_big_quiet_on) | (go_big_quiet_op; go_big_quiet_on)))); exact wpQuiet_nil rfl)) : wpList P ops Q l a w :=
 jL m (wpList_nil h) hB h1 h2 hq
theorem zM {w0 w w' : World} (B : Below w0.heap.size w0 w) (h : Below w.heap.size w w') : w0.heap.size ≤ w.heap.size ∧ w.heap.size ≤ w'.heap.size ∧ Below w0.heap.size w0 w' := ⟨B.size, h.size, B.trans (h.mono B.size)⟩
theorem qe {w0 : World} {g : FuncId} {xs : Array Operand} {ats : Array TypeId} {o : Oper} {r : List Oper} {a a2 : Act} {vals : Array Value} {v : Value} (B : Below w0.heap.size w0 w) (eg : Go.Proofs.Enters P g) (c : Calls P g vals w fun e w' => e = .returned v ∧ Below w.heap.size w w')
  (h : ∀ w', Below w.heap.size w w' → w0.heap.size ≤ w.heap.size → w.heap.size ≤ w'.heap.size → Below w0.heap.size w0 w' → wpList P ops Q r a2 w')
  (ho : o.op = .call { callee := .value (.func g), args := xs, argTypes := ats } := by rfl) (hw : Region.wanted o (yielded ops a.tmps) = true := by first | rfl | simp [Region.wanted, yielded]) (hv : xs.map a.eval = vals := by (simp only [Act.eval, yj] <;> rfl)) (hp : a.put o.dst v = a2 := by (simp only [zn]; rfl)) : wpList P ops Q (o :: r) a w :=
 Ql hw ho eg hv (c.mono fun e w' ⟨h1, h2⟩ => ⟨v, h1, hp ▸ h w' h2 B.size h2.size (B.trans (h2.mono B.size))⟩)
theorem j1 {x : Operand} {t e : TypeId} {o : Oper} {r : List Oper} {a a2 : Act} {ad : Option Addr} {n c : Nat} (ht : P.underlying t = some (.slice e)) (h : wpList P ops Q r a2 w) (ho : o.op = .call { callee := .builtin .len, args := #[x], argTypes := #[t] } := by rfl) (hx : a.eval x = .slice ad n c := by rfl) (hw : Region.wanted o (yielded ops a.tmps) = true := by first | rfl | simp [Region.wanted, yielded]) (hp : a.put o.dst (.int .i64 n) = a2 := by (simp only [zn]; rfl)) : wpList P ops Q (o :: r) a w :=
 V8 hw ho ht hx (hp ▸ h)
end
section
variable {ops : Array Oper} {rest l : List Oper} {o : Oper} {a a2 : Act} {w w0 : World} {Q : Exit → Act → World → Prop} {t t0 : TypeId} {cs cs' : Array Value} {b i : Nat} {x y p : Operand} {v : Value} {vl : List Value}
theorem qZ (ht : zw t w b cs) (B : Below w0.heap.size w0 w)
  (h : ∀ w', zw t w' b cs' → qY b w w' → w0.heap.size ≤ w.heap.size → w.heap.size ≤ w'.heap.size → Below w0.heap.size w0 w' → wpList Tryz.prog ops Q rest a2 w')
  (hg : o.guard = none := by rfl) (ho : o.op = .store t x y := by rfl) (hx : a.eval x = .pointer (some ⟨b, 0, none⟩) := by rfl) (hy : a.eval y = .agg cs' := by rfl) (zf : (Tryz.prog.info? t).map (·.size) = some cs'.size := by kernel_rfl) (hss : cs'.size = cs.size := by rfl) (hone : cs'.all (·.oneCell') = true := by simp [Value.oneCell']) (hb : w0.heap.size ≤ b := by omega) (hp : a.put o.dst undef = a2 := by (simp only [zn]; rfl)) : wpList Tryz.prog ops Q (o :: rest) a w :=
 zZ hg x y ho b hx cs' hy ht zf hss hone (xV B hb (hp ▸ h))
theorem jd {A2 : Nat → Act} (B : Below w0.heap.size w0 w)
  (h : ∀ b w', w.heap.size ≤ b → b ≤ w.heap.size → zw t w' b cs → Below w.heap.size w w' → w0.heap.size ≤ w.heap.size → b < w'.heap.size → Below w0.heap.size w0 w' → wpList Tryz.prog ops Q rest (A2 b) w')
  (hg : o.guard = none := by rfl) (ho : o.op = .box t x := by rfl) (hx : a.eval x = .agg cs := by rfl) (hp : ∀ b, a.put o.dst (.pointer (some ⟨b, 0, none⟩)) = A2 b := by (intro b; simp only [zn]; rfl)) : wpList Tryz.prog ops Q (o :: rest) a w :=
 zL hg x ho cs hx (kn B fun b w' h1 h2 h3 h4 h5 h6 h7 => (hp b).symm ▸ h b w' h1 h2 h3 (h4.mono h1) h5 h6 h7)
theorem jH {A2 : Nat → Act} (hrun : ∀ ev, (execOp ev o).run Tryz.prog w = .ok (.value (.pointer (some ⟨w.heap.size, 0, none⟩))) (w.alloc (.cells cs t))) (B : Below w0.heap.size w0 w)
  (h : ∀ b w', w.heap.size ≤ b → b ≤ w.heap.size → zw t w' b cs → Below w.heap.size w w' → w0.heap.size ≤ w.heap.size → b < w'.heap.size → Below w0.heap.size w0 w' → wpList Tryz.prog ops Q rest (A2 b) w')
  (hg : o.guard = none := by rfl) (hp : ∀ b, a.put o.dst (.pointer (some ⟨b, 0, none⟩)) = A2 b := by (intro b; simp only [zn]; rfl)) : wpList Tryz.prog ops Q (o :: rest) a w :=
 jp hg cs hrun (kn B fun b w' h1 h2 h3 h4 h5 h6 h7 => (hp b).symm ▸ h b w' h1 h2 h3 (h4.mono h1) h5 h6 h7)
theorem yN (hk : wpList Tryz.prog ops Q rest a2 w) (hg : o.guard = none := by rfl) (ho : o.op = .load t p := by rfl) (he : a.eval p = .pointer (some ⟨b, 0, none⟩) := by rfl) (h : zw t w b cs := by assumption) (hq : zbF Tryz.prog t = true := by decide +kernel) (hs : (Tryz.prog.info? t).map (·.size) = some cs.size := by kernel_rfl) (hp : a.put o.dst (.agg cs) = a2 := by (simp only [zn]; rfl)) : wpList Tryz.prog ops Q (o :: rest) a w :=
 zp hg p ho b 0 0 he (qE h (Jd hq) hs) rfl (hp.symm ▸ hk)
theorem yO (hk : wpList Tryz.prog ops Q rest a2 w) (hg : o.guard = none := by rfl) (ho : o.op = .load t p := by rfl) (he : a.eval p = .pointer (some ⟨b, i, none⟩) := by rfl) (h : zw t0 w b cs := by assumption) (hq : zeo Tryz.prog t = true := by decide +kernel) (hc : cs = vl.toArray := by rfl) (hv : vl[i]? = some v := by rfl) (hp : a.put o.dst v = a2 := by (simp only [zn]; rfl)) : wpList Tryz.prog ops Q (o :: rest) a w :=
 zp hg p ho b i i he (Qg hq (h.cell i (by rw [hc, List.getElem?_toArray]; exact hv))) rfl (hp.symm ▸ hk)
theorem qO {fn : Func} {q : Tmp} {R : Ending → World → Prop} (ht : zw t w b cs) (hR : R (.returned (.agg cs)) w) (h : fn.results = #[.cell q t] := by rfl) (hp : a.tmps.getD q undef = .pointer (some ⟨b, 0, none⟩) := by rfl) (hg : zbF Tryz.prog t = true := by decide +kernel) (hs : (Tryz.prog.info? t).map (·.size) = some cs.size := by kernel_rfl) (hd : a.defers = [] := by rfl) : bodyPost Tryz.prog fn R .ret a w :=
 bodyPost_ret (zcl h _ _ b hp ht (Jd hg) hs) hd hR
end
theorem yP {t : TypeId} {w : World} {cs : Array Value} {b : Nat} {a : Act} {fn : Func} {q q2 : Tmp} {v : Value} {R : Ending → World → Prop} (ht : zw t w b cs) (hR : R (.returned (.tuple #[.agg cs, v])) w) (h : fn.results = #[.cell q t, .tmp q2] := by rfl) (hp : a.tmps.getD q undef = .pointer (some ⟨b, 0, none⟩) := by rfl) (hq : a.tmps.getD q2 undef = v := by rfl) (hg : zbF Tryz.prog t = true := by decide +kernel) (hs : (Tryz.prog.info? t).map (·.size) = some cs.size := by kernel_rfl) (hd : a.defers = [] := by rfl) : bodyPost Tryz.prog fn R .ret a w :=
 bodyPost_ret (ZJ h _ _ b hp v hq ht (Jd hg) hs) hd hR
theorem zw.cg {t : TypeId} {w w' : World} {b c : Nat} {cs : Array Value} (h : zw t w b cs) (e : qY c w w') (hn : b ≠ c := by omega) : zw t w' b cs := h.of_eq (e.block _ h.lt hn)
theorem zE {P : Program} {f : FuncId} {fn : Func} {c : Code} (hf : P.funcs[f]? = some fn) (hname : (fn.name == "runtime.NumGoroutine") = false := by kernel_rfl) (hb : fn.body = some c := by rfl) : Go.Proofs.Enters P f := enters_of hf hname hb
theorem zcF {P : Program} {g : FuncId} {fn : Func} {c : Code} {xs : Array Operand} {ats : Array TypeId} {o : Oper} {a : Act} {w : World} {K : Act → World → Prop} {Q : Exit → Act → World → Prop} {vals : Array Value} (hf : P.funcs[g]? = some fn) (h : Calls P g vals w fun e w' => ∃ v, e = .returned v ∧ K (a.put o.dst v) w') (hname : (fn.name == "runtime.NumGoroutine") = false := by kernel_rfl) (hb : fn.body = some c := by rfl) (ho : o.op = .call { callee := .value (.func g), args := xs, argTypes := ats } := by rfl)
  (hv : xs.map a.eval = vals := by (simp only [Act.eval, yj] <;> rfl)) : o.wp P a w K Q :=
 zff ho (enters_of hf hname hb) hv h
theorem zcB {P : Program} {ops : Array Oper} {Q : Exit → Act → World → Prop} {md : Region.Mode} {w0 : World} {S : Nat → Option j2} {L : (Nat → World → Prop) → Act → Prop} {o : Oper} {r : List Oper} {k : Nat} {E : Nat → World → Prop} {a : Act} {s : j2}
  (hstep : ∀ w, Below w0.heap.size w0 w → (∀ j, Region.waitsFor md ops k j = true → E j w) → ∀ K : Act → World → Prop, (∀ x w', s.F x w' → Below w.heap.size w w' → K (a.put o.dst (s.f x)) w') → o.wp P a w K (zI Q))
  (h : ∀ x, uz P md ops Q (fun w' => ∃ u, w' = ov w0 u) S L r (k + 1) (uu E k (s.F x)) (a.put o.dst (s.f x))) (hS : S k = some s := by rfl) (hw : Region.wanted o (yielded ops a.tmps) = true := by first | rfl | simp [Region.wanted, yielded]) : uz P md ops Q (fun w' => ∃ u, w' = ov w0 u) S L (o :: r) k E a :=
 qv hS hw hstep h
theorem zln {b n : Nat} (h : n = b + 1) : b < n := Nat.lt_of_lt_of_eq (Nat.lt_succ_self _) h.symm
theorem zq {o : Oper} {a : Act} {C : World → Prop} {K : Act → Prop} {t : TypeId} {v : Value} {x : Operand} {b j j' : Nat} (hr : ∀ w, C w → (Instr.loadAt t (.pointer (some ⟨b, j, none⟩))).run Tryz.prog w = .ok v w) (hk : K (a.put o.dst v)) (h : o.op = .load t x := by rfl) (hx : a.eval x = .pointer (some ⟨b, j', none⟩) := by rfl) (hj : j' = j := by first | rfl | omega) : o.quiet Tryz.prog a C K :=
 Zm h b j j' hx hr hj hk
theorem zQ {p : Prop} [h : Decidable p] : p → decide p = true := decide_eq_true
theorem zB {p : Prop} [h : Decidable p] : ¬p → decide p = false := decide_eq_false
theorem zo {p : Prop} (h : p) : Hid p := Lib.hid h
end Go.Proofs.YtepelndbbhdofaaGreatDoor
namespace Go.Proofs.YtepelndbbhdofaaGreatDoor
namespace Sha
set_option linter.unusedVariables false
set_option linter.unusedSimpArgs false
abbrev km := BitVec 32
def Xe (x : km) (n : Nat) : km := (x >>> n) ||| (x <<< (32 - n))
def s0 (x : km) : km := Xe x 7 ^^^ Xe x 18 ^^^ x >>> 3
def s1 (x : km) : km := Xe x 17 ^^^ Xe x 19 ^^^ x >>> 10
def S0 (x : km) : km := Xe x 2 ^^^ Xe x 13 ^^^ Xe x 22
def S1 (x : km) : km := Xe x 6 ^^^ Xe x 11 ^^^ Xe x 25
def ch (e f g : km) : km := (e &&& f) ^^^ (~~~e &&& g)
def maj (a b c : km) : km := (a &&& b) ^^^ (a &&& c) ^^^ (b &&& c)
def be (a b c d : UInt8) : km := BitVec.ofNat 32 (a.toNat * 16777216 + b.toNat * 65536 + c.toNat * 256 + d.toNat)
def wb (a : UInt8) : km := BitVec.ofNat 32 a.toNat
def zgH (f : Nat → km) (i : Nat) (x : km) : Nat → km := fun j => if j = i then x else f j
def first (m : Nat → km) (k : Nat) : Nat → km := fun j => if j < k then m j else 0
def sch (m : Nat → km) : Nat → Nat → km
 | 0 => first m 16
 | k + 1 => zgH (sch m k) (16 + k) (sch m k k + s0 (sch m k (k + 1)) + sch m k (k + 9) + s1 (sch m k (k + 14)))
def wrd (m : Nat → km) : Nat → km := sch m 48
structure St where
 a : km
 b : km
 c : km
 d : km
 e : km
 f : km
 g : km
 h : km
deriving DecidableEq
def St.at (s : St) (i : Nat) : km := if i = 0 then s.a else if i = 1 then s.b else if i = 2 then s.c else if i = 3 then s.d else if i = 4 then s.e else if i = 5 then s.f else if i = 6 then s.g else s.h
def rnd (k w : km) (s : St) : St :=
 { a := s.h + S1 s.e + ch s.e s.f s.g + k + w + (S0 s.a + maj s.a s.b s.c), b := s.a, c := s.b, d := s.c, e := s.d + (s.h + S1 s.e + ch s.e s.f s.g + k + w), f := s.e, g := s.f, h := s.g }
def Y7 (K W : Nat → km) (s : St) : Nat → St
 | 0 => s
 | i + 1 => rnd (K i) (W i) (Y7 K W s i)
def zio (s t : St) : St := ⟨s.a + t.a, s.b + t.b, s.c + t.c, s.d + t.d, s.e + t.e, s.f + t.f, s.g + t.g, s.h + t.h⟩
def ziL : List Nat := [1116352408, 1899447441, 3049323471, 3921009573, 961987163, 1508970993, 2453635748, 2870763221, 3624381080, 310598401, 607225278, 1426881987, 1925078388, 2162078206, 2614888103, 3248222580, 3835390401, 4022224774, 264347078, 604807628, 770255983, 1249150122, 1555081692, 1996064986, 2554220882, 2821834349, 2952996808, 3210313671, 3336571891, 3584528711, 113926993, 338241895, 666307205, 773529912, 1294757372, 1396182291, 1695183700, 1986661051, 2177026350, 2456956037, 2730485921, 2820302411, 3259730800, 3345764771, 3516065817, 3600352804, 4094571909, 275423344, 430227734, 506948616, 659060556, 883997877, 958139571, 1322822218, 1537002063, 1747873779, 1955562222, 2024104815, 2227730452, 2361852424, 2428436474, 2756734187, 3204031479, 3329325298]
def kW (i : Nat) : km := BitVec.ofNat 32 (ziL.getD i 0)
def Xl : St := ⟨1779033703#32, 3144134277#32, 1013904242#32, 2773480762#32, 1359893119#32, 2600822924#32, 528734635#32, 1541459225#32⟩
def msg (p : List UInt8) (j : Nat) : km := be (p.getD (4 * j) 0) (p.getD (4 * j + 1) 0) (p.getD (4 * j + 2) 0) (p.getD (4 * j + 3) 0)
def ziu (s : St) (p : List UInt8) : St := zio (Y7 kW (wrd (msg p)) s 64) s
def yt (s : St) (p : List UInt8) : Nat → St
 | 0 => s
 | n + 1 => ziu (yt s p n) ((p.drop (64 * n)).take 64)
def jO (n : Nat) : Nat → List UInt8
 | 0 => []
 | k + 1 => jO (n / 256) k ++ [UInt8.ofNat n]
def zi3 (n : Nat) : Nat := (119 - n % 64) % 64
def pad (s : List UInt8) : List UInt8 := s ++ 128 :: (List.replicate (zi3 s.length) 0 ++ jO (8 * s.length) 8)
def zjt (s : St) : List UInt8 := jO s.a.toNat 4 ++ jO s.b.toNat 4 ++ jO s.c.toNat 4 ++ jO s.d.toNat 4 ++ jO s.e.toNat 4 ++ jO s.f.toNat 4 ++ jO s.g.toNat 4 ++ jO s.h.toNat 4
def ofB (s : List UInt8) : List UInt8 := zjt (yt Xl (pad s) ((pad s).length / 64))
theorem zD (n k : Nat) : (jO n k).length = k := by
 induction k generalizing n with
 | zero => rfl
 | succ k ih => simp [jO, ih]
def zjN (m : Nat → km) (k : Nat) : Nat → km := if k ≤ 16 then first m k else sch m (k - 16)
def zj0 (f g : Nat → km) (k : Nat) : Nat → km := fun j => if j < k then g j else f j
attribute [irreducible] sch s0 s1 first St.at rnd Y7 ziu kW Xe
end Sha
end Go.Proofs.YtepelndbbhdofaaGreatDoor
namespace Go.Proofs.YtepelndbbhdofaaGreatDoor
open Go.RowKit Go.Shelf Pl Sha Go.Proofs.Tryz
set_option linter.unusedVariables false
set_option linter.unusedSimpArgs false
set_option maxRecDepth 20000
set_option maxHeartbeats 8000000
def U (x : km) : Value := .int .u32 (x.toNat : Int)
def Y (b : UInt8) : Value := .int .u8 (b.toNat : Int)
def bytes (s : ByteArray) : List UInt8 := s.data.toList
def Qs (s : ByteArray) (i : Nat) : UInt8 := (bytes s).getD i 0
theorem JI (s : ByteArray) (i : Nat) (h : i < s.size) : s[i] = Qs s i := by
 unfold Qs bytes
 have h2 : i < s.data.size := h
 rw [List.getD_eq_getElem?_getD, Array.getElem?_toList, Array.getElem?_eq_getElem h2]
 rfl
theorem YG (s : ByteArray) : (bytes s).length = s.size := by unfold bytes; rw [Array.length_toList]; rfl
theorem YB (n : Int) : U (BitVec.ofInt 32 n) = .int .u32 (IntKind.u32.wrap n) := by
 unfold U
 congr 1
 simp [BitVec.toNat_ofInt, IntKind.wrap, IntKind.bits, IntKind.signed]
 omega
theorem xG (x : km) : BitVec.ofInt 32 (x.toNat : Int) = x := by
 apply BitVec.eq_of_toNat_eq
 simp [BitVec.toNat_ofInt]
theorem Jb (x : km) : U x = .int .u32 (IntKind.u32.wrap (x.toNat : Int)) := by rw [← YB, xG]
section
variable (w : World) (x y : km)
@[go_sem] theorem zjC : (binOp .add 153 (U x) (U y)).run Tryz.prog w = .ok (U (x + y)) w := by
 have e : U (x + y) = .int .u32 (IntKind.u32.wrap ((x.toNat : Int) + (y.toNat : Int))) := by
  rw [← YB]
  congr 1
 rw [e]; unfold U; simp [go_sem]
@[go_sem] theorem zin : (binOp .sub 153 (U x) (U y)).run Tryz.prog w = .ok (U (x - y)) w := by
 have e : U (x - y) = .int .u32 (IntKind.u32.wrap ((x.toNat : Int) - (y.toNat : Int))) := by
  rw [← YB]
  congr 1
  apply BitVec.eq_of_toNat_eq
  simp [BitVec.toNat_ofInt, BitVec.toNat_sub]
  have := x.isLt; have := y.isLt; omega
 rw [e]; unfold U; simp [go_sem]
@[go_sem] theorem zjD : (binOp .and 153 (U x) (U y)).run Tryz.prog w = .ok (U (x &&& y)) w := by
 have e : (binOp .and 153 (U x) (U y)).run Tryz.prog w = .ok (.int .u32 (IntKind.u32.wrap ((BitVec.ofInt 32 (x.toNat : Int) &&& BitVec.ofInt 32 (y.toNat : Int)).toNat : Int))) w := by kernel_rfl
 rw [e, xG, xG, ← Jb]
@[go_sem] theorem zj3 : (binOp .or 153 (U x) (U y)).run Tryz.prog w = .ok (U (x ||| y)) w := by
 have e : (binOp .or 153 (U x) (U y)).run Tryz.prog w = .ok (.int .u32 (IntKind.u32.wrap ((BitVec.ofInt 32 (x.toNat : Int) ||| BitVec.ofInt 32 (y.toNat : Int)).toNat : Int))) w := by kernel_rfl
 rw [e, xG, xG, ← Jb]
@[go_sem] theorem zjH : (binOp .xor 153 (U x) (U y)).run Tryz.prog w = .ok (U (x ^^^ y)) w := by
 have e : (binOp .xor 153 (U x) (U y)).run Tryz.prog w = .ok (.int .u32 (IntKind.u32.wrap ((BitVec.ofInt 32 (x.toNat : Int) ^^^ BitVec.ofInt 32 (y.toNat : Int)).toNat : Int))) w := by kernel_rfl
 rw [e, xG, xG, ← Jb]
@[go_sem] theorem zjE : (Op.unary .xor (U x)).run Tryz.prog w = .ok (U (~~~x)) w := by
 have e : (Op.unary .xor (U x)).run Tryz.prog w = .ok (.int .u32 (IntKind.u32.wrap ((BitVec.ofInt 32 4294967295 ^^^ BitVec.ofInt 32 (x.toNat : Int)).toNat : Int))) w := by kernel_rfl
 rw [e, xG, ← Jb]
 congr 2
@[go_sem] theorem zjF (k : IntKind) (n : Int) (h0 : 0 ≤ n) (h1 : n < 32) : (binOp .shl 153 (U x) (.int k n)).run Tryz.prog w = .ok (U (x <<< n.toNat)) w := by
 obtain ⟨m, rfl⟩ := Int.eq_ofNat_of_zero_le h0
 have e : (binOp .shl 153 (U x) (.int k (m : Int))).run Tryz.prog w = .ok (.int .u32 (IntKind.u32.wrap ((x.toNat : Int) * 2 ^ (min m 32)))) w := by
  rw [Nat.min_eq_left (by omega)]; unfold U; simp [go_sem, IntKind.bits]
 rw [e, ← YB, Nat.min_eq_left (by omega)]
 congr 2
 apply BitVec.eq_of_toNat_eq
 rw [BitVec.toNat_ofInt, BitVec.toNat_shiftLeft, Nat.shiftLeft_eq]
 have h6 : ((2 ^ 32 : Nat) : Int) = ((4294967296 : Nat) : Int) := by decide
 have h7 : (x.toNat : Int) * 2 ^ m = ((x.toNat * 2 ^ m : Nat) : Int) := by simp
 rw [h6, h7, ← Int.natCast_emod, Int.toNat_natCast, Int.toNat_natCast]
@[go_sem] theorem zjG (k : IntKind) (n : Int) (h0 : 0 ≤ n) (h1 : n < 32) : (binOp .shr 153 (U x) (.int k n)).run Tryz.prog w = .ok (U (x >>> n.toNat)) w := by
 obtain ⟨m, rfl⟩ := Int.eq_ofNat_of_zero_le h0
 have e : (binOp .shr 153 (U x) (.int k (m : Int))).run Tryz.prog w = .ok (.int .u32 ((x.toNat : Int).fdiv (2 ^ (min m 32)))) w := by
  rw [Nat.min_eq_left (by omega), Int.fdiv_eq_ediv_of_nonneg _ (by exact Int.le_of_lt (Int.pow_pos (by decide)))]; unfold U; simp [go_sem, IntKind.bits]
 rw [e, Nat.min_eq_left (by omega)]
 unfold U
 congr 3
 rw [Int.toNat_natCast, BitVec.toNat_ushiftRight, Nat.shiftRight_eq_div_pow, Int.fdiv_eq_ediv_of_nonneg _ (by exact Int.le_of_lt (Int.pow_pos (by decide)))]
 simp
@[go_sem] theorem zi7 (b : UInt8) : (convert 5 153 (Y b)).run Tryz.prog w = .ok (U (wb b)) w := by
 have e : U (wb b) = .int .u32 (b.toNat : Int) := by
  unfold U wb; have := b.toNat_lt
  congr 2
  rw [BitVec.toNat_ofNat]; omega
 rw [e]
 unfold Y
 have := b.toNat_lt
 simp [go_sem]
 simp [IntKind.wrap, IntKind.bits, IntKind.signed]
 omega
@[go_sem] theorem zi5 : (convert 153 3 (U x)).run Tryz.prog w = .ok (.int .i64 (x.toNat : Int)) w := by
 unfold U
 have := x.isLt
 simp [go_sem]
 simp [IntKind.wrap, IntKind.bits, IntKind.signed]
 omega
@[go_sem] theorem zi6 : (convert 153 177 (U x)).run Tryz.prog w = .ok (.int .u64 (x.toNat : Int)) w := by
 unfold U
 have := x.isLt
 simp [go_sem]
 simp [IntKind.wrap, IntKind.bits, IntKind.signed]
 omega
@[go_sem] theorem zhZ : (binOp .sub 153 (.int .u32 4294967295) (U x)).run Tryz.prog w = .ok (U (4294967295#32 - x)) w := by
 have h := zin w (4294967295#32) x
 exact h
@[go_sem] theorem zfi (t : TypeId) (p q : Operand) (v : Value) : (eqGuard .sub t p q v (U x)).run Tryz.prog w = .ok () w := by
 unfold U; simp [go_sem]
@[go_sem] theorem zh2 (t : TypeId) (p q : Operand) (v : Value) : (eqGuard .add t p q (U x) v).run Tryz.prog w = .ok () w := by
 unfold U; simp [go_sem]
@[go_sem] theorem zh7 (t : TypeId) (p q : Operand) (v : Value) : (eqGuard .sub t p q (U x) v).run Tryz.prog w = .ok () w := by
 unfold U; simp [go_sem]
@[go_sem] theorem zh3 (t : TypeId) (p q : Operand) (v : Value) : (eqGuard .and t p q (U x) v).run Tryz.prog w = .ok () w := by
 unfold U; simp [go_sem]
@[go_sem] theorem ziF (t : TypeId) (p q : Operand) (v : Value) : (eqGuard .or t p q (U x) v).run Tryz.prog w = .ok () w := by
 unfold U; simp [go_sem]
@[go_sem] theorem zh8 (t : TypeId) (p q : Operand) (v : Value) : (eqGuard .xor t p q (U x) v).run Tryz.prog w = .ok () w := by
 unfold U; simp [go_sem]
@[go_sem] theorem zh5 (t : TypeId) (p q : Operand) (v : Value) : (eqGuard .shl t p q (U x) v).run Tryz.prog w = .ok () w := by
 unfold U; simp [go_sem]
@[go_sem] theorem zh6 (t : TypeId) (p q : Operand) (v : Value) : (eqGuard .shr t p q (U x) v).run Tryz.prog w = .ok () w := by
 unfold U; simp [go_sem]
end
def wC (n : Nat) (f : Nat → km) : Array Value := Array.ofFn (n := n) fun k => U (f k.val)
def Wd.v (n : Nat) (f : Nat → km) : Value := .agg (wC n f)
theorem zgD (n : Nat) (f : Nat → km) : (wC n f).size = n := by unfold wC; simp
theorem zd1 (n : Nat) (f : Nat → km) (k : Nat) : (wC n f)[k]? = if k < n then some (U (f k)) else none := by
 unfold wC
 rw [Array.getElem?_ofFn]
 split <;> rfl
theorem zhP (n : Nat) (f : Nat → km) (i : Nat) (x : km) (hi : i < n) : (wC n f).setIfInBounds i (U x) = wC n (zgH f i x) := by
 apply Array.ext_getElem?
 intro k
 simp only [Array.getElem?_setIfInBounds, zgD, zd1, zgH]
 by_cases h : i = k
 ·subst h; simp [hi]
 ·rw [if_neg h]
  simp only [if_neg (fun e : k = i => h e.symm)]
attribute [irreducible] wC
structure WT (t : TypeId) (n : Nat) (e : TypeId) : Prop where
 und : Tryz.prog.underlying t = some (.array n e)
 size : (Tryz.prog.info? t).map (·.size) = some n
def XN (t n : Nat) (w : World) (b : Nat) (f : Nat → km) : Prop := w.heap[b]? = some (.cells (wC n f) t (0, 0))
section
variable {t n e : Nat} {w : World} {b : Nat} {f g : Nat → km}
theorem XN.of_eq {w' : World} (h : XN t n w b f) (e : w'.heap[b]? = w.heap[b]?) : XN t n w' b f := e.trans h
theorem XN.lt (h : XN t n w b f) : b < w.heap.size := (Array.getElem?_eq_some_iff.1 h).1
theorem XN.congr (h : XN t n w b f) (e : wC n f = wC n g) : XN t n w b g := by unfold XN at h ⊢; rw [← e]; exact h
theorem XN.cell (h : XN t n w b f) {i : Nat} (hi : i < n) : w.cell? ⟨b, i, none⟩ = some (U (f i)) := ((qf h).1 i).trans (by rw [zd1, if_pos hi])
theorem XN.frozen (h : XN t n w b f) (j : Nat) : w.frozen? ⟨b, j, none⟩ = false := (qf h).2 j
theorem XN.set (h : XN t n w b f) {i : Nat} (hi : i < n) (x : km) : XN t n (w.setCell ⟨b, i, none⟩ (U x)) b (zgH f i x) := by
 unfold XN
 rw [← zhP n f i x hi]
 exact heap_setCell_same _ _ _ _ _ _ h
theorem XN.drew (h : XN t n w b f) : XN t n w.drew b f := h
end
section
variable {t n e : Nat} {ops : Array Oper} {rest : List Oper} {o : Oper} {a : Act} {w : World} {Q : Exit → Act → World → Prop}
end
def GAt (g n : Nat) (w : World) (f : Nat → km) : Prop := g < w.heap.size ∧ ∀ i, i < n → w.cell? ⟨g, i, none⟩ = some (U (f i))
section
variable {g n : Nat} {w : World} {f : Nat → km}
theorem GAt.lt (h : GAt g n w f) : g < w.heap.size := h.1
theorem GAt.of_eq {w' : World} (h : GAt g n w f) (e : w'.heap[g]? = w.heap[g]?) : GAt g n w' f := by
 refine ⟨?_, fun i hi => ?_⟩
 ·have := h.1
  rcases Nat.lt_or_ge g w'.heap.size with k | k
  ·exact k
  ·rw [Array.getElem?_eq_none k, Array.getElem?_eq_getElem this] at e
   cases e
 ·rw [World.cell?_of_block (w := w) e]
  exact h.2 i hi
theorem GAt.drew (h : GAt g n w f) : GAt g n w.drew f := h
end
section
variable {ops : Array Oper} {rest : List Oper} {o : Oper} {a : Act} {w : World} {Q : Exit → Act → World → Prop}
end
def zjA : Value → Nat
 | .string s => s.size
 | _ => 0
theorem W9 (t : TypeId) (ht : Tryz.prog.underlying t = some .string) (s : ByteArray) (m : Nat) (hm : m < s.size) (w : World) : (Instr.index t (.string s) (.int .i64 (m : Int))).run Tryz.prog w = .ok (Y (Qs s m)) w := by
 rw [run_index_string w t s .i64 (m : Int) ht, dif_pos ⟨by omega, by omega⟩]
 simp only [Int.toNat_natCast]
 rw [JI s m hm]
 rfl
section
variable {C : World → Prop} {a : Act} {o : Oper} {K : Act → Prop}
theorem YZ {t : TypeId} {x i : Operand} (h : o.op = .index t x i) (s : ByteArray) (hx : a.eval x = .string s) (j : Int) (hi : a.eval i = .int .i64 j) (m : Nat) (hm : m < s.size) (hj : j = m) (hk : K (a.put o.dst (Y (Qs s m)))) (ht : Tryz.prog.underlying t = some .string := by kernel_rfl) : o.quiet Tryz.prog a C K :=
 ⟨_, fun w hw => by subst hj; unfold Oper.quietAt execOp; simp only [h, hx, hi, W9 t ht s m hm w, Sem.run_bind, Sem.run_pure, Result.andThen_ok]; exact ⟨rfl, rfl⟩, hk⟩
end
def y5 (l : List UInt8) : ByteArray := ⟨l.toArray⟩
theorem Qt (l : List UInt8) : bytes (y5 l) = l := rfl
theorem XW (s : ByteArray) : y5 (bytes s) = s := rfl
theorem jZ (l : List UInt8) : (y5 l).size = l.length := by rw [← YG, Qt]
theorem YF (m : Nat) : ∀ (n k : Nat), k < m → (jO n m)[k]? = some (UInt8.ofNat (n / 256 ^ (m - 1 - k))) := by
 induction m with
 | zero => intro n k h; omega
 | succ m ih =>
  intro n k h; unfold jO; by_cases hk : k < m
  ·rw [List.getElem?_append_left (by rw [zD]; exact hk), ih _ _ hk, Nat.div_div_eq_div_mul, ← Nat.pow_succ', show (m - 1 - k).succ = m + 1 - 1 - k by omega]
  ·obtain rfl : k = m := by omega
   rw [List.getElem?_append_right (by rw [zD]; omega), zD]
   simp
def bC (n : Nat) (f : Nat → UInt8) : Array Value := Array.ofFn (n := n) fun k => Y (f k.val)
def zcw (f : Nat → UInt8) (i : Nat) (x : UInt8) : Nat → UInt8 := fun j => if j = i then x else f j
theorem zgC (n : Nat) (f : Nat → UInt8) : (bC n f).size = n := by unfold bC; simp
theorem WD (n : Nat) (f : Nat → UInt8) (k : Nat) : (bC n f)[k]? = if k < n then some (Y (f k)) else none := by
 unfold bC
 rw [Array.getElem?_ofFn]
 split <;> rfl
theorem zhO (n : Nat) (f : Nat → UInt8) (i : Nat) (x : UInt8) (hi : i < n) : (bC n f).setIfInBounds i (Y x) = bC n (zcw f i x) := by
 apply Array.ext_getElem?
 intro k
 simp only [Array.getElem?_setIfInBounds, zgC, WD, zcw]
 by_cases h : i = k
 ·subst h; simp [hi]
 ·rw [if_neg h]
  simp only [if_neg (fun e : k = i => h e.symm)]
attribute [irreducible] bC
def Qm (t n : Nat) (w : World) (b : Nat) (f : Nat → UInt8) : Prop := w.heap[b]? = some (.cells (bC n f) t (0, 0))
section
variable {t n : Nat} {w : World} {b : Nat} {f : Nat → UInt8}
theorem Qm.of_eq {w' : World} (h : Qm t n w b f) (e : w'.heap[b]? = w.heap[b]?) : Qm t n w' b f := e.trans h
theorem Qm.lt (h : Qm t n w b f) : b < w.heap.size := (Array.getElem?_eq_some_iff.1 h).1
theorem Qm.cell (h : Qm t n w b f) {i : Nat} (hi : i < n) : w.cell? ⟨b, i, none⟩ = some (Y (f i)) := ((qf h).1 i).trans (by rw [WD, if_pos hi])
theorem Qm.frozen (h : Qm t n w b f) (j : Nat) : w.frozen? ⟨b, j, none⟩ = false := (qf h).2 j
theorem Qm.set (h : Qm t n w b f) {i : Nat} (hi : i < n) (x : UInt8) : Qm t n (w.setCell ⟨b, i, none⟩ (Y x)) b (zcw f i x) := by
 unfold Qm
 rw [← zhO n f i x hi]
 exact heap_setCell_same _ _ _ _ _ _ h
theorem ka (h : Qm t n w b f) (l : List UInt8) (o cap : Nat) (ho : o + l.length ≤ n) (hl : ∀ i, i < l.length → l[i]? = some (f (o + i))) :
  (convert 75 9 (.slice (some ⟨b, o, none⟩) l.length cap)).run Tryz.prog w = .ok (.string (y5 l)) w := by
 have hb : Lib.Bytes w b o (y5 l) := fun i hi => by
  rw [jZ] at hi; rw [h.cell (by omega)]; have e := hl i hi; have e2 : (y5 l)[i]'(by rw [jZ]; exact hi) = f (o + i) := by
   have := JI (y5 l) i (by rw [jZ]; exact hi)
   rw [this]; unfold Qs; rw [Qt, List.getD_eq_getElem?_getD, e]
   rfl
  rw [e2]
  rfl
 have := Lib.run_convert_whole (P := Tryz.prog) w 75 5 9 underlying75 underlying5 underlying9 b o (y5 l) hb cap
 rw [jZ] at this
 exact this
end
theorem Kb (w : World) (o : Oper) (ho : o.op = .alloc 176) (ev : Operand → Value) : (execOp ev o).run Tryz.prog w = .ok (.value (.pointer (some ⟨w.heap.size, 0, none⟩))) (w.alloc (.cells (bC 8 fun _ => 0) 176)) := by
 obtain ⟨d, p, t, ps, af, gd⟩ := o
 simp only at ho
 subst ho
 kernel_rfl
section
variable {ops : Array Oper} {rest : List Oper} {o : Oper} {a : Act} {w : World} {Q : Exit → Act → World → Prop}
theorem vF (hg : o.guard = none) (ho : o.op = .alloc 176)
  (h : ∀ b w', w.heap.size ≤ b → b ≤ w.heap.size → Qm 176 8 w' b (fun _ => 0) → Below b w w' → w'.heap.size = b + 1 → wpList Tryz.prog ops Q rest (a.put o.dst (.pointer (some ⟨b, 0, none⟩))) w') : wpList Tryz.prog ops Q (o :: rest) a w :=
 wpList_plain hg fun K hK => by
  unfold Oper.wp; rw [Kb w o ho]; exact hK _ _ (h _ _ (Nat.le_refl _) (Nat.le_refl _) (by unfold Qm; rw [zJ, if_pos rfl]) ((Below.refl _ _).alloc (Nat.le_refl _) _) (World.size_alloc _ _))
theorem kH {t n : Nat} (hg : o.guard = none) (x y : Operand) (ho : o.op = .store 5 x y) (b j : Nat) (hx : a.eval x = .pointer (some ⟨b, j, none⟩)) (z : Int) (hy : a.eval y = .int .u8 z) (v : UInt8) (hv : z = (v.toNat : Int)) {f : Nat → UInt8} (ht : Qm t n w b f) (i : Nat) (hi : i < n) (hj : j = i)
  (h : ∀ w', Qm t n w' b (zcw f i v) → qY b w w' → w'.heap.size = w.heap.size → wpList Tryz.prog ops Q rest (a.put o.dst undef) w') : wpList Tryz.prog ops Q (o :: rest) a w := by
 subst hj
 refine qj hg x y ho _ ?_ (h _ (ht.set hi v) ((qY.refl b w).setCell _) (by simp only [World.size_setCell]))
 rw [hx, hy, hv]
 have c0 := ht.cell hi
 have f0 := ht.frozen j
 unfold Y at c0 ⊢
 simp [go_sem, c0, f0]
theorem kh {s d : TypeId} {v u : Value} (hg : o.guard = none) (x : Operand) (ho : o.op = .convert s d x) (hx : a.eval x = u) (hr : (convert s d u).run Tryz.prog w = .ok v w)
  (h : wpList Tryz.prog ops Q rest (a.put o.dst v) w) : wpList Tryz.prog ops Q (o :: rest) a w :=
 wpList_plain hg fun K hK => by
  unfold Oper.wp execOp; simp only [ho, hx, hr, Sem.run_bind, Sem.run_pure, Result.andThen_ok]; exact hK _ _ h
end
def zjM (n m k : Nat) : Nat → UInt8 := fun j => if k ≤ j then UInt8.ofNat (n / 256 ^ (m - 1 - j)) else 0
theorem Qm.congr {t n : Nat} {w : World} {b : Nat} {f g : Nat → UInt8} (h : Qm t n w b f) (e : bC n f = bC n g) : Qm t n w b g := by unfold Qm at h ⊢; rw [← e]; exact h
def Zw (n m k : Nat) : Nat → UInt8 := fun j => if j < k then UInt8.ofNat (n / 256 ^ (m - 1 - j)) else 0
theorem ZL (n m k : Nat) : zcw (Zw n m k) k (UInt8.ofNat (n / 256 ^ (m - 1 - k))) = Zw n m (k + 1) := by
 funext j
 unfold zcw Zw
 by_cases h : j = k
 ·subst h; simp
 ·rw [if_neg h]
  by_cases h2 : j < k
  ·rw [if_pos h2, if_pos (by omega)]
  ·rw [if_neg h2, if_neg (by omega)]
theorem ZM (n m : Nat) : bC m (fun _ => 0) = bC m (Zw n m 0) := by
 congr 1
def ren : Go.Shelf.Ren := ⟨fun | 166 => 83 | 169 => 85 | 240 => 137 | 276 => 166 | n => n, fun | 9 => 9 | 3 => 3 | 4 => 4 | 20 => 20 | 0 => 0 | 46 => 181 | 5 => 5 | 72 => 131 | 76 => 134 | 51 => 153 | 53 => 177 | 70 => 129 | 37 => 75 | 75 => 133 | 127 => 178 | 164 => 196 | 80 => 138 | n => n, fun | n => n⟩
theorem zaU : Go.Proofs.Lays.n166 Tryz.prog ren := {
 mixed := by kernel_rfl
 f166 := Tryz.func83.trans (congrArg some (by kernel_rfl))
 f240 := Tryz.func137.trans (congrArg some (by kernel_rfl))
 f276 := Tryz.func166.trans (congrArg some (by kernel_rfl))
 t0 := underlying0
 a0 := isAgg0
 z0 := sizeOf0
 v0 := zeroValue0
 t3 := underlying3
 a3 := isAgg3
 z3 := sizeOf3
 v3 := zeroValue3
 t4 := underlying4
 a4 := isAgg4
 z4 := sizeOf4
 v4 := zeroValue4
 t9 := underlying9
 a9 := isAgg9
 z9 := sizeOf9
 v9 := zeroValue9
 t20 := underlying20
 a20 := isAgg20
 z20 := sizeOf20
 v20 := zeroValue20
 t37 := underlying75
 a37 := isAgg75
 z37 := sizeOf75
 v37 := zeroValue75
 t70 := underlying129
 a70 := isAgg129
 z70 := sizeOf129
 v70 := zeroValue129
 t72 := underlying131
 a72 := isAgg131
 z72 := sizeOf131
 v72 := zeroValue131
 t75 := underlying133
 a75 := isAgg133
 z75 := sizeOf133
 v75 := zeroValue133
 t164 := underlying196
 a164 := isAgg196
 z164 := sizeOf196
 v164 := zeroValue196 }
theorem zgb : Go.Proofs.Lays.n169 Tryz.prog ren := {
 mixed := by kernel_rfl
 f169 := Tryz.func85.trans (congrArg some (by kernel_rfl))
 t0 := underlying0
 a0 := isAgg0
 z0 := sizeOf0
 v0 := zeroValue0
 t3 := underlying3
 a3 := isAgg3
 z3 := sizeOf3
 v3 := zeroValue3
 t9 := underlying9
 a9 := isAgg9
 z9 := sizeOf9
 v9 := zeroValue9
 t37 := underlying75
 a37 := isAgg75
 z37 := sizeOf75
 v37 := zeroValue75
 t70 := underlying129
 a70 := isAgg129
 z70 := sizeOf129
 v70 := zeroValue129
 t72 := underlying131
 a72 := isAgg131
 z72 := sizeOf131
 v72 := zeroValue131
 t127 := underlying178
 a127 := isAgg178
 z127 := sizeOf178
 v127 := zeroValue178 }
theorem Vc : Builder.Extra Tryz.prog ren := {
 sizeBuilder := by kernel_rfl
 liesBuilder := by kernel_rfl
 t5 := underlying5
 a5 := isAgg5
 z5 := sizeOf5
 v5 := zeroValue5
 infoByte := by kernel_rfl
 cellsByte := by kernel_rfl
 sizeByte := by kernel_rfl
 neB5 := by decide }
open Go.RowKit Go.Lib
def yQ (B b : Nat) (l : List UInt8) (w : World) : Prop := Lib.IsBuilder 131 5 B b (Lib.byteCells l) w
theorem yQ.lt {B b : Nat} {l : List UInt8} {w : World} (h : yQ B b l w) : b < w.heap.size := h.elim (fun x => x.lt) (fun x => x.lt)
theorem yQ.be {B b : Nat} {l : List UInt8} {w w' : World} (h : yQ B b l w) (hb : Below w.heap.size w w') : yQ B b l w' := by
 have step : ∀ p, Lib.BuilderAt 131 5 B b p (Lib.byteCells l) w → Lib.BuilderAt 131 5 B b p (Lib.byteCells l) w' := fun p h => by
  have zh := h.lt; obtain ⟨hB, v, hv, hown, hne⟩ := h; exact ⟨hB, v, (hb.block b zh).trans hv, hown.kept (row := none) ⟨hb.os, hb.tape, hb.output, hb.size, fun k hk _ => hb.block k hk⟩ (Classical.em _), hne⟩
 exact h.elim (fun x => .inl (step _ x)) (fun x => .inr (step _ x))
theorem yQ.fresh (w : World) : yQ w.heap.size w.heap.size [] (w.alloc (.cells #[.pointer none, .slice none 0 0] 131)) := Lib.fresh_isBuilder _ _ w
theorem Qe (w : World) (o : Oper) (ho : o.op = .alloc 131) (ev : Operand → Value) : (execOp ev o).run Tryz.prog w = .ok (.value (.pointer (some ⟨w.heap.size, 0, none⟩))) (w.alloc (.cells #[.pointer none, .slice none 0 0] 131)) := by
 obtain ⟨d, p, t, ps, af, gd⟩ := o
 simp only at ho
 subst ho
 kernel_rfl
theorem XH {ops : Array Oper} {rest : List Oper} {o : Oper} {a : Act} {w : World} {Q : Exit → Act → World → Prop} (hg : o.guard = none) (ho : o.op = .alloc 131)
  (h : ∀ b w', w.heap.size ≤ b → b ≤ w.heap.size → yQ b b [] w' → Below b w w' → w'.heap.size = b + 1 → wpList Tryz.prog ops Q rest (a.put o.dst (.pointer (some ⟨b, 0, none⟩))) w') : wpList Tryz.prog ops Q (o :: rest) a w :=
 wpList_plain hg fun K hK => by
  unfold Oper.wp; rw [Qe w o ho]; exact hK _ _ (h _ _ (Nat.le_refl _) (Nat.le_refl _) (yQ.fresh w) ((Below.refl _ _).alloc (Nat.le_refl _) _) (World.size_alloc _ _))
theorem XO (l k : List UInt8) : Lib.byteCells (l ++ k) = Lib.byteCells l ++ Lib.byteCells k := by simp [Lib.byteCells]
theorem Kr (B b : Nat) (l : List UInt8) (w : World) (h : yQ B b l w) (hBw : B ≤ w.heap.size) :
 Calls Tryz.prog 85 #[.pointer (some ⟨b, 0, none⟩)] w fun e w' => e = .returned (.string (y5 l)) ∧ Below B w w' := Any.Builder_String_any zgb Vc B b l w h hBw
end Go.Proofs.YtepelndbbhdofaaGreatDoor
namespace Go.Proofs.YtepelndbbhdofaaGreatDoor
open Go.RowKit Go.Shelf Pl Sha Go.Proofs.Tryz
set_option linter.unusedVariables false
set_option linter.unusedSimpArgs false
set_option maxRecDepth 20000
set_option maxHeartbeats 8000000
theorem zfQ (l : List UInt8) (f : Nat → UInt8) (h : ∀ i, i < l.length → l[i]? = some (f i)) : bC l.length f = (l.map Y).toArray := by
 apply Array.ext_getElem?
 intro k
 rw [WD, List.getElem?_toArray, List.getElem?_map]
 by_cases hk : k < l.length
 ·rw [if_pos hk, h k hk]; rfl
 ·rw [if_neg hk, List.getElem?_eq_none (by omega)]; rfl
theorem zap (w : World) : Calls Tryz.prog 138 #[.int .i64 1] w fun e w' => e = .returned (.int .i64 1) ∧ w = w' := by
 go_enter func138, ntmps138
 go_wp2
 go_ret
 exact ⟨rfl, rfl⟩
theorem zaq (w : World) : Calls Tryz.prog 138 #[.int .i64 2] w fun e w' => e = .returned (.int .i64 2) ∧ w = w' := by
 go_enter func138, ntmps138
 go_wp2
 go_ret
 exact ⟨rfl, rfl⟩
theorem zar (w : World) : Calls Tryz.prog 138 #[.int .i64 3] w fun e w' => e = .returned (.int .i64 3) ∧ w = w' := by
 go_enter func138, ntmps138
 go_wp2
 go_ret
 exact ⟨rfl, rfl⟩
theorem zc3 (n : Nat) (hn : n < 9223372036854775808) (w : World) : Calls Tryz.prog 84 #[.int .i64 (n : Int), .int .i64 1] w fun e w' => e = .returned (.string (y5 (jO n 1))) ∧ Below w.heap.size w w' := by
 have B := Below.refl w.heap.size w
 go_enter func84, ntmps84
 go_wp2_with (first | (refine vF rfl rfl (kn B ?_); clear B; intro b_b1 wn zb zd b1 za zf zk B; simp only [zn]))
 go_loopw [6, 7] (fun _ i wr => ∃ k : Nat, k ≤ 8 ∧ i = .int .i64 k ∧ Below w.heap.size w wr ∧ Qm 176 8 wr b_b1 (Zw n 8 k)) (fun _ i _ => (8 - intOf i).toNat)
 case atStart => exact ⟨0, by omega, rfl, B, b1.congr (ZM _ _)⟩
 case round =>
  clear B b1; obtain ⟨k, hk, rfl, B, b1⟩ := hrel; by_cases zh : k < 8
  ·have hp : (2 : Int) ^ ((56 : Int) - 8 * k).toNat = ((256 ^ (8 - 1 - k) : Nat) : Int) := by
    have hc : k = 0 ∨ k = 1 ∨ k = 2 ∨ k = 3 ∨ k = 4 ∨ k = 5 ∨ k = 6 ∨ k = 7 := by omega
    rcases hc with rfl | rfl | rfl | rfl | rfl | rfl | rfl | rfl <;> rfl
   go_wp2_with (first | (refine kH rfl _ _ rfl _ _ rfl _ rfl (UInt8.ofNat (n / 256 ^ (8 - 1 - k))) (by rw [show 8 - 1 - k = 7 - k by omega]; simp) b1 (k) (by omega) (by first | rfl | omega) (xV B (by omega) ?_); clear b1 B; intro wn b1 ze zf zg B; simp only [zn]))
   rw [ZL] at b1; go_roundw
   case rel => exact ⟨k + 1, by omega, by go_num, B, b1⟩
   case measure => simp [intOf]; omega
  ·obtain rfl : k = 8 := by omega
   simp only [show ((8 : Nat) : Int) = 8 from rfl]; go_wp2_with (first | (refine kh (s := 75) (d := 9) rfl _ rfl rfl (ka b1 (jO n 1) (7) _ (by simp [zD]) (fun i hi => by rw [zD] at hi; rw [YF _ _ _ hi]; unfold Zw; rw [if_pos (by omega)]; congr 4; omega)) ?_; simp only [zn]) | (go_at_call 138; refine (zap _).mono ?_; rintro e wq ⟨rfl, rfl⟩))
   go_ret; exact ⟨rfl, B⟩
theorem zg6 (n : Nat) (hn : n < 9223372036854775808) (w : World) : Calls Tryz.prog 84 #[.int .i64 (n : Int), .int .i64 2] w fun e w' => e = .returned (.string (y5 (jO n 2))) ∧ Below w.heap.size w w' := by
 have B := Below.refl w.heap.size w
 go_enter func84, ntmps84
 go_wp2_with (first | (refine vF rfl rfl (kn B ?_); clear B; intro b_b1 wn zb zd b1 za zf zk B; simp only [zn]))
 go_loopw [6, 7] (fun _ i wr => ∃ k : Nat, k ≤ 8 ∧ i = .int .i64 k ∧ Below w.heap.size w wr ∧ Qm 176 8 wr b_b1 (Zw n 8 k)) (fun _ i _ => (8 - intOf i).toNat)
 case atStart => exact ⟨0, by omega, rfl, B, b1.congr (ZM _ _)⟩
 case round =>
  clear B b1; obtain ⟨k, hk, rfl, B, b1⟩ := hrel; by_cases zh : k < 8
  ·have hp : (2 : Int) ^ ((56 : Int) - 8 * k).toNat = ((256 ^ (8 - 1 - k) : Nat) : Int) := by
    have hc : k = 0 ∨ k = 1 ∨ k = 2 ∨ k = 3 ∨ k = 4 ∨ k = 5 ∨ k = 6 ∨ k = 7 := by omega
    rcases hc with rfl | rfl | rfl | rfl | rfl | rfl | rfl | rfl <;> rfl
   go_wp2_with (first | (refine kH rfl _ _ rfl _ _ rfl _ rfl (UInt8.ofNat (n / 256 ^ (8 - 1 - k))) (by rw [show 8 - 1 - k = 7 - k by omega]; simp) b1 (k) (by omega) (by first | rfl | omega) (xV B (by omega) ?_); clear b1 B; intro wn b1 ze zf zg B; simp only [zn]))
   rw [ZL] at b1; go_roundw
   case rel => exact ⟨k + 1, by omega, by go_num, B, b1⟩
   case measure => simp [intOf]; omega
  ·obtain rfl : k = 8 := by omega
   simp only [show ((8 : Nat) : Int) = 8 from rfl]; go_wp2_with (first | (refine kh (s := 75) (d := 9) rfl _ rfl rfl (ka b1 (jO n 2) (6) _ (by simp [zD]) (fun i hi => by rw [zD] at hi; rw [YF _ _ _ hi]; unfold Zw; rw [if_pos (by omega)]; congr 4; omega)) ?_; simp only [zn]) | (go_at_call 138; refine (zaq _).mono ?_; rintro e wq ⟨rfl, rfl⟩))
   go_ret; exact ⟨rfl, B⟩
theorem zg7 (n : Nat) (hn : n < 9223372036854775808) (w : World) : Calls Tryz.prog 84 #[.int .i64 (n : Int), .int .i64 3] w fun e w' => e = .returned (.string (y5 (jO n 3))) ∧ Below w.heap.size w w' := by
 have B := Below.refl w.heap.size w
 go_enter func84, ntmps84
 go_wp2_with (first | (refine vF rfl rfl (kn B ?_); clear B; intro b_b1 wn zb zd b1 za zf zk B; simp only [zn]))
 go_loopw [6, 7] (fun _ i wr => ∃ k : Nat, k ≤ 8 ∧ i = .int .i64 k ∧ Below w.heap.size w wr ∧ Qm 176 8 wr b_b1 (Zw n 8 k)) (fun _ i _ => (8 - intOf i).toNat)
 case atStart => exact ⟨0, by omega, rfl, B, b1.congr (ZM _ _)⟩
 case round =>
  clear B b1; obtain ⟨k, hk, rfl, B, b1⟩ := hrel; by_cases zh : k < 8
  ·have hp : (2 : Int) ^ ((56 : Int) - 8 * k).toNat = ((256 ^ (8 - 1 - k) : Nat) : Int) := by
    have hc : k = 0 ∨ k = 1 ∨ k = 2 ∨ k = 3 ∨ k = 4 ∨ k = 5 ∨ k = 6 ∨ k = 7 := by omega
    rcases hc with rfl | rfl | rfl | rfl | rfl | rfl | rfl | rfl <;> rfl
   go_wp2_with (first | (refine kH rfl _ _ rfl _ _ rfl _ rfl (UInt8.ofNat (n / 256 ^ (8 - 1 - k))) (by rw [show 8 - 1 - k = 7 - k by omega]; simp) b1 (k) (by omega) (by first | rfl | omega) (xV B (by omega) ?_); clear b1 B; intro wn b1 ze zf zg B; simp only [zn]))
   rw [ZL] at b1; go_roundw
   case rel => exact ⟨k + 1, by omega, by go_num, B, b1⟩
   case measure => simp [intOf]; omega
  ·obtain rfl : k = 8 := by omega
   simp only [show ((8 : Nat) : Int) = 8 from rfl]; go_wp2_with (first | (refine kh (s := 75) (d := 9) rfl _ rfl rfl (ka b1 (jO n 3) (5) _ (by simp [zD]) (fun i hi => by rw [zD] at hi; rw [YF _ _ _ hi]; unfold Zw; rw [if_pos (by omega)]; congr 4; omega)) ?_; simp only [zn]) | (go_at_call 138; refine (zar _).mono ?_; rintro e wq ⟨rfl, rfl⟩))
   go_ret; exact ⟨rfl, B⟩
def bt (x : Int) : UInt8 := UInt8.ofNat x.toNat
theorem JH {x : Int} (h : 0 ≤ x ∧ x ≤ 255) : x = ((bt x).toNat : Int) := by
 unfold bt
 rw [UInt8.toNat_ofNat']
 omega
theorem zeN (w : World) (o : Oper) (x y z u : Operand) (ho : o.op = .buildSlice 75 4 #[(0, x), (1, y), (2, z), (3, u)]) (ev : Operand → Value) (a b c d : UInt8) (hx : ev x = Y a) (hy : ev y = Y b) (hz : ev z = Y c) (hu : ev u = Y d) : (execOp ev o).run Tryz.prog w = .ok (.value (.slice (some ⟨w.heap.size, 0, none⟩) 4 4)) (w.alloc (.cells #[Y a, Y b, Y c, Y d] 5)) := by
 obtain ⟨d, p, t, ps, af, gd⟩ := o
 simp only at ho
 subst ho
 unfold execOp
 simp only [List.map_toArray, List.map_cons, List.map_nil, hx, hy, hz, hu]
 kernel_rfl
theorem V7 {ops : Array Oper} {rest : List Oper} {o : Oper} {a : Act} {w : World} {Q : Exit → Act → World → Prop} (hg : o.guard = none) (x y z u : Operand) (ho : o.op = .buildSlice 75 4 #[(0, x), (1, y), (2, z), (3, u)]) (p q r s : Int) (hp : 0 ≤ p ∧ p ≤ 255) (hq : 0 ≤ q ∧ q ≤ 255) (hr : 0 ≤ r ∧ r ≤ 255) (hs : 0 ≤ s ∧ s ≤ 255) (hx : a.eval x = .int .u8 p) (hy : a.eval y = .int .u8 q) (hz : a.eval z = .int .u8 r) (hu : a.eval u = .int .u8 s)
  (h : ∀ b w', w.heap.size ≤ b → b ≤ w.heap.size → Qm 5 4 w' b (fun i => [bt p, bt q, bt r, bt s].getD i 0) → Below b w w' → w'.heap.size = b + 1 → wpList Tryz.prog ops Q rest (a.put o.dst (.slice (some ⟨b, 0, none⟩) 4 4)) w') : wpList Tryz.prog ops Q (o :: rest) a w :=
 wpList_plain hg fun K hK => by
  unfold Oper.wp; rw [zeN w o x y z u ho _ (bt p) (bt q) (bt r) (bt s) (by rw [hx]; unfold Y; rw [← JH hp]) (by rw [hy]; unfold Y; rw [← JH hq]) (by rw [hz]; unfold Y; rw [← JH hr]) (by rw [hu]; unfold Y; rw [← JH hs])]
  exact hK _ _ (h _ _ (Nat.le_refl _) (Nat.le_refl _) (by
   unfold Qm; rw [show bC 4 (fun i => [bt p, bt q, bt r, bt s].getD i 0) = #[Y (bt p), Y (bt q), Y (bt r), Y (bt s)] from zfQ [bt p, bt q, bt r, bt s] _ (fun i hi => by rw [List.getD_eq_getElem?_getD, List.getElem?_eq_getElem hi]; rfl), zJ, if_pos rfl]) ((Below.refl _ _).alloc (Nat.le_refl _) _) (World.size_alloc _ _))
end Go.Proofs.YtepelndbbhdofaaGreatDoor
namespace Go.Proofs.YtepelndbbhdofaaGreatDoor.Pl
def zz (n : Int) : Int := max 0 (min n 255)
def zG (n d : Int) : Int := (2 * n + d) / (2 * d)
def qR (a b : Int) : Int := zG (zz a * zz b) 255
def Qi (b s : Int) : Int := b + s - qR b s
def uk (b s : Int) : Int := if s < 128 then qR b (2 * s) else Qi b (2 * s - 255)
def yZ (b s : Int) : Int := if b = 0 then 0 else if s = 255 then 255 else min 255 (255 * b / (255 - s))
def vM (b s : Int) : Int := if b = 255 then 255 else if s = 0 then 0 else 255 - min 255 (255 * (255 - b) / s)
def yA (b s : Int) : Int := min 255 (qR (255 - b) (qR b s) + qR b (Qi b s))
def wt (x : Int) : Int := max x (-x)
theorem zr (n : Int) : 0 ≤ zz n ∧ zz n ≤ 255 := by unfold zz; omega
theorem ww {n : Int} (h0 : 0 ≤ n) (h1 : n ≤ 255) : zz n = n := by unfold zz; omega
theorem yH {n d m : Int} (h0 : 0 ≤ n) (h1 : n ≤ m * d) (hd : 1 ≤ d) : 0 ≤ zG n d ∧ zG n d ≤ m := by
 unfold zG
 refine ⟨Int.ediv_nonneg (by omega) (by omega), ?_⟩
 have : (2 * n + d) / (2 * d) < m + 1 := by
  apply Int.ediv_lt_of_lt_mul (by omega)
  have e1 : (m + 1) * (2 * d) = 2 * (m * d) + 2 * d := by rw [Int.add_mul, Int.one_mul, Int.mul_left_comm]
  omega
 omega
theorem jX {a b : Int} {m k : Int} (ha : 0 ≤ a) (ha' : a ≤ m) (hb : 0 ≤ b) (hb' : b ≤ k) : 0 ≤ a * b ∧ a * b ≤ m * k :=
 ⟨Int.mul_nonneg ha hb, Int.mul_le_mul ha' hb' hb (by omega)⟩
theorem qV (a b : Int) : 0 ≤ qR a b ∧ qR a b ≤ 255 := by
 have h1 := zr a
 have h2 := zr b
 have h3 := jX h1.1 h1.2 h2.1 h2.2
 exact yH h3.1 (by omega) (by omega)
theorem zb8 (a b : Int) : qR a b = qR b a := by unfold qR; rw [Int.mul_comm]
def jI (m b s : Int) : Int :=
 if m = 1 then qR b s else if m = 2 then Qi b s else if m = 3 then uk s b else if m = 4 then min b s else if m = 5 then max b s
 else if m = 6 then yZ b s else if m = 7 then vM b s else if m = 8 then uk b s else if m = 9 then yA b s else if m = 10 then max (b - s) (s - b)
 else if m = 11 then max 0 (b + s - 2 * qR b s) else if m = 12 then min 255 (b + s) else if m = 13 then max 0 (b - s) else if m = 14 then (b + s + 1) / 2
 else if m = 15 then 255 - max (255 - b - s) (s - (255 - b)) else s
def zW (m b s : Int) : Int := jI m (zz b) (zz s)
theorem zaZ {b s : Int} (h0 : 0 ≤ b) (h1 : b ≤ 255) : qR b s ≤ b := by
 have h2 := zr s
 unfold qR
 rw [ww h0 h1]
 have h3 := jX h0 (Int.le_refl b) h2.1 h2.2
 exact (yH h3.1 (by omega) (by omega)).2
theorem Jm {b s : Int} (hb0 : 0 ≤ b) (hb1 : b ≤ 255) (hs0 : 0 ≤ s) (hs1 : s ≤ 255) : max b s ≤ Qi b s ∧ Qi b s ≤ 255 := by
 have h1 := zaZ (s := s) hb0 hb1
 have h2 := zaZ (s := b) hs0 hs1
 rw [zb8] at h2
 refine ⟨by unfold Qi; omega, ?_⟩
 -- b + s - 255 ≤ mul
 have h3 : b + s - 255 ≤ qR b s := by
  unfold qR zG; rw [ww hb0 hb1, ww hs0 hs1]; have h4 : 0 ≤ (255 - b) * (255 - s) := Int.mul_nonneg (by omega) (by omega); have h5 : (255 - b) * (255 - s) = 65025 - 255 * b - 255 * s + b * s := by
   rw [Int.sub_mul, Int.mul_sub, Int.mul_sub]; omega
  apply Int.le_ediv_of_mul_le (by omega)
  omega
 unfold Qi; omega
theorem Ve {b s : Int} (hb0 : 0 ≤ b) (hb1 : b ≤ 255) (hs0 : 0 ≤ s) (hs1 : s ≤ 255) : 0 ≤ uk b s ∧ uk b s ≤ 255 := by
 unfold uk
 split
 ·exact qV _ _
 ·have := Jm hb0 hb1 (s := 2 * s - 255) (by omega) (by omega)
  omega
theorem zf0 {b s : Int} (hb0 : 0 ≤ b) (hb1 : b ≤ 255) (hs0 : 0 ≤ s) (hs1 : s ≤ 255) : b + s - 2 * qR b s ≤ 255 := by
 unfold qR zG
 rw [ww hb0 hb1, ww hs0 hs1]
 have h4 : 0 ≤ (255 - b) * (255 - s) := Int.mul_nonneg (by omega) (by omega)
 have h5 : (255 - b) * (255 - s) = 65025 - 255 * b - 255 * s + b * s := by
  rw [Int.sub_mul, Int.mul_sub, Int.mul_sub]; omega
 have h6 : 0 ≤ b * s := Int.mul_nonneg hb0 hs0
 generalize b * s = x at *
 omega
theorem zel {m b s : Int} (hb0 : 0 ≤ b) (hb1 : b ≤ 255) (hs0 : 0 ≤ s) (hs1 : s ≤ 255) : 0 ≤ jI m b s ∧ jI m b s ≤ 255 := by
 have h1 := qV b s
 have h2 := Jm hb0 hb1 hs0 hs1
 have h8 := zf0 hb0 hb1 hs0 hs1
 have h3 := Ve hb0 hb1 hs0 hs1
 have h4 := Ve hs0 hs1 hb0 hb1
 have h5 : 0 ≤ yZ b s ∧ yZ b s ≤ 255 := by
  unfold yZ; split
  ·omega
  ·split
   ·omega
   ·have : 0 ≤ 255 * b / (255 - s) := Int.ediv_nonneg (by omega) (by omega)
    omega
 have h6 : 0 ≤ vM b s ∧ vM b s ≤ 255 := by
  unfold vM; split
  ·omega
  ·split
   ·omega
   ·have : 0 ≤ 255 * (255 - b) / s := Int.ediv_nonneg (by omega) (by omega)
    omega
 have h7 : 0 ≤ yA b s ∧ yA b s ≤ 255 := by
  unfold yA; have := qV (255 - b) (qR b s); have := qV b (Qi b s); omega
 unfold jI
 repeat' split
 all_goals omega
theorem Qr (m b s : Int) : 0 ≤ zW m b s ∧ zW m b s ≤ 255 :=
 zel (zr b).1 (zr b).2 (zr s).1 (zr s).2
structure Px where
 r : Int
 g : Int
 b : Int
 a : Int
def Px.ok (p : Px) : Prop := (0 ≤ p.r ∧ p.r ≤ 255) ∧ (0 ≤ p.g ∧ p.g ≤ 255) ∧ (0 ≤ p.b ∧ p.b ≤ 255) ∧ (0 ≤ p.a ∧ p.a ≤ 255)
def Px.zero : Px := ⟨0, 0, 0, 0⟩
theorem Px.zero_ok : Px.zero.ok := by unfold Px.ok Px.zero; simp
def jo (p : Px) : Px := if p.a = 0 then Px.zero else p
theorem u5 {p : Px} (h : p.ok) : (jo p).ok := by unfold jo; split; exact Px.zero_ok; exact h
def uj (p : Px) (c : Int) : Px := jo { p with a := qR p.a c }
theorem zdV {p : Px} (h : p.ok) (c : Int) : (uj p c).ok := by
 unfold uj
 apply u5
 have := qV p.a c
 exact ⟨h.1, h.2.1, h.2.2.1, this⟩
def xH (u v : Int) : Int := 255 * u + 255 * v - u * v
def za4 (m u v b s : Int) : Int := u * (255 - v) * s + u * v * zW m b s + (255 - u) * v * b
def y6 (m u v b s : Int) : Int := zG (za4 m u v b s) (xH u v)
def vP (q p : Px) (m c : Int) : Px :=
 if xH (qR p.a c) q.a = 0 then Px.zero else
  ⟨y6 m (qR p.a c) q.a q.r p.r, y6 m (qR p.a c) q.a q.g p.g, y6 m (qR p.a c) q.a q.b p.b, zG (xH (qR p.a c) q.a) 255⟩
theorem J1 (u v : Int) : xH u v = u * (255 - v) + u * v + (255 - u) * v := by
 unfold xH; rw [Int.mul_sub, Int.sub_mul]; omega
theorem wF {u v : Int} (hu0 : 0 ≤ u) (hu1 : u ≤ 255) (hv0 : 0 ≤ v) (hv1 : v ≤ 255) : 0 ≤ xH u v ∧ xH u v ≤ 65025 := by
 have h1 : 0 ≤ (255 - u) * (255 - v) := Int.mul_nonneg (by omega) (by omega)
 have h2 : (255 - u) * (255 - v) = 65025 - xH u v := by
  unfold xH; rw [Int.sub_mul, Int.mul_sub, Int.mul_sub]; omega
 have h3 : 0 ≤ u * (255 - v) := Int.mul_nonneg hu0 (by omega)
 have h4 : u * (255 - v) = 255 * u - u * v := by rw [Int.mul_sub]; omega
 constructor
 ·unfold xH; omega
 ·omega
theorem zeq {m u v b s : Int} (hu0 : 0 ≤ u) (hu1 : u ≤ 255) (hv0 : 0 ≤ v) (hv1 : v ≤ 255) (hb0 : 0 ≤ b) (hb1 : b ≤ 255) (hs0 : 0 ≤ s) (hs1 : s ≤ 255) :
  0 ≤ za4 m u v b s ∧ za4 m u v b s ≤ 255 * xH u v := by
 have hx := Qr m b s
 have w1 : 0 ≤ u * (255 - v) := Int.mul_nonneg hu0 (by omega)
 have w2 : 0 ≤ u * v := Int.mul_nonneg hu0 hv0
 have w3 : 0 ≤ (255 - u) * v := Int.mul_nonneg (by omega) hv0
 have a1 := Int.mul_nonneg w1 hs0
 have a2 := Int.mul_nonneg w2 hx.1
 have a3 := Int.mul_nonneg w3 hb0
 have b1 := Int.mul_le_mul_of_nonneg_left hs1 w1
 have b2 := Int.mul_le_mul_of_nonneg_left hx.2 w2
 have b3 := Int.mul_le_mul_of_nonneg_left hb1 w3
 have e := J1 u v
 unfold za4
 omega
theorem uL {m u v b s : Int} (hu0 : 0 ≤ u) (hu1 : u ≤ 255) (hv0 : 0 ≤ v) (hv1 : v ≤ 255) (hb0 : 0 ≤ b) (hb1 : b ≤ 255) (hs0 : 0 ≤ s) (hs1 : s ≤ 255) (hw : xH u v ≠ 0) :
  0 ≤ y6 m u v b s ∧ y6 m u v b s ≤ 255 := by
 have h := zeq (m := m) hu0 hu1 hv0 hv1 hb0 hb1 hs0 hs1
 have k := wF hu0 hu1 hv0 hv1
 exact yH h.1 h.2 (by omega)
theorem zes {q p : Px} (hq : q.ok) (hp : p.ok) (m c : Int) : (vP q p m c).ok := by
 have hu := qV p.a c
 unfold vP
 split
 ·exact Px.zero_ok
 ·rename_i hw
  obtain ⟨⟨q1, q2⟩, ⟨q3, q4⟩, ⟨q5, q6⟩, ⟨q7, q8⟩⟩ := hq; obtain ⟨⟨p1, p2⟩, ⟨p3, p4⟩, ⟨p5, p6⟩, ⟨p7, p8⟩⟩ := hp; have k := wF hu.1 hu.2 q7 q8; exact ⟨uL hu.1 hu.2 q7 q8 q1 q2 p1 p2 hw, uL hu.1 hu.2 q7 q8 q3 q4 p3 p4 hw, uL hu.1 hu.2 q7 q8 q5 q6 p5 p6 hw, yH k.1 (by omega) (by omega)⟩
def zhA (p q x y : Int) : Int := zG (p * x + q * y) (p + q)
def zkp (a b : Px) (t : Int) : Px :=
 if zG (a.a * (255 - zz t) + b.a * zz t) 255 = 0 then Px.zero else
  ⟨zhA (a.a * (255 - zz t)) (b.a * zz t) a.r b.r, zhA (a.a * (255 - zz t)) (b.a * zz t) a.g b.g, zhA (a.a * (255 - zz t)) (b.a * zz t) a.b b.b, zG (a.a * (255 - zz t) + b.a * zz t) 255⟩
end Go.Proofs.YtepelndbbhdofaaGreatDoor.Pl
namespace Go.Proofs.YtepelndbbhdofaaGreatDoor
open Go.RowKit Go.Shelf Pl Sha Go.Proofs.Tryz
set_option linter.unusedVariables false
set_option linter.unusedSimpArgs false
set_option maxRecDepth 20000
set_option maxHeartbeats 8000000
theorem qk {k : IntKind} {a b : Int} (h : a = b) : Ending.returned (.int k a) = .returned (.int k b) := by rw [h]
theorem Ja (n d : Int) (w : World) (h0 : 0 ≤ n) (h1 : n ≤ 1000000000000000) (h2 : 1 ≤ d) (h3 : d ≤ 1000000000000000) :
  Calls Tryz.prog 120 #[.int .i64 n, .int .i64 d] w fun e w' => e = .returned (.int .i64 (zG n d)) ∧ w = w' := by
 have h4 : ¬ (2 * d = 0) := by omega
 go_enter func120, ntmps120
 go_wp2
 go_ret
 exact ⟨rfl, rfl⟩
theorem ZR (n : Int) (w : World) :
  Calls Tryz.prog 159 #[.int .i64 n] w fun e w' => e = .returned (.int .i64 (zz n)) ∧ w = w' := by
 go_enter func159, ntmps159
 go_wp2
 all_goals (go_ret; exact ⟨qk (by unfold zz; omega), rfl⟩)
theorem vd (a b : Int) (w : World) :
  Calls Tryz.prog 118 #[.int .i64 a, .int .i64 b] w fun e w' => e = .returned (.int .i64 (qR a b)) ∧ w = w' := by
 have h1 := zr a
 have h2 := zr b
 have h3 := jX h1.1 h1.2 h2.1 h2.2
 go_enter func118, ntmps118
 go_wp2_with (first | (go_at_call 159; refine (ZR _ _).mono ?_; rintro e w' ⟨rfl, rfl⟩) | (go_at_call 120; refine (Ja _ _ _ (by omega) (by omega) (by omega) (by omega)).mono ?_; rintro e w' ⟨rfl, rfl⟩))
 go_ret
 exact ⟨rfl, rfl⟩
theorem jV (n d : Int) (w : World) (h0 : 0 ≤ n) (h1 : n ≤ 1000000000000000) (h2 : 1 ≤ d) (h3 : d ≤ 1000000000000000) :
  Calls Tryz.prog 145 #[.int .i64 n, .int .i64 d] w fun e w' => e = .returned (.int .i64 (zG n d)) ∧ w = w' := by
 have h4 : ¬ (2 * d = 0) := by omega
 go_enter func145, ntmps145
 go_wp2
 go_ret
 exact ⟨rfl, rfl⟩
theorem z1 (n : Int) (w : World) :
  Calls Tryz.prog 171 #[.int .i64 n] w fun e w' => e = .returned (.int .i64 (zz n)) ∧ w = w' := by
 go_enter func171, ntmps171
 go_wp2
 all_goals (go_ret; exact ⟨qk (by unfold zz; omega), rfl⟩)
theorem yo (a b : Int) (w : World) :
  Calls Tryz.prog 143 #[.int .i64 a, .int .i64 b] w fun e w' => e = .returned (.int .i64 (qR a b)) ∧ w = w' := by
 have h1 := zr a
 have h2 := zr b
 have h3 := jX h1.1 h1.2 h2.1 h2.2
 go_enter func143, ntmps143
 go_wp2_with (first | (go_at_call 171; refine (z1 _ _).mono ?_; rintro e w' ⟨rfl, rfl⟩) | (go_at_call 145; refine (jV _ _ _ (by omega) (by omega) (by omega) (by omega)).mono ?_; rintro e w' ⟨rfl, rfl⟩))
 go_ret
 exact ⟨rfl, rfl⟩
theorem uh (b s : Int) (w : World) (hb0 : 0 ≤ b) (hb1 : b ≤ 255) (hs0 : 0 ≤ s) (hs1 : s ≤ 255) :
  Calls Tryz.prog 176 #[.int .i64 b, .int .i64 s] w fun e w' => e = .returned (.int .i64 (Qi b s)) ∧ w = w' := by
 have m1 := qV b s
 go_enter func176, ntmps176
 go_wp2_with (first | (go_at_call 118; refine (vd _ _ _).mono ?_; rintro e w' ⟨rfl, rfl⟩))
 go_ret
 exact ⟨rfl, rfl⟩
theorem ku (b s : Int) (w : World) (hb0 : 0 ≤ b) (hb1 : b ≤ 255) (hs0 : 0 ≤ s) (hs1 : s ≤ 255) :
  Calls Tryz.prog 189 #[.int .i64 b, .int .i64 s] w fun e w' => e = .returned (.int .i64 (Qi b s)) ∧ w = w' := by
 have m1 := qV b s
 go_enter func189, ntmps189
 go_wp2_with (first | (go_at_call 143; refine (yo _ _ _).mono ?_; rintro e w' ⟨rfl, rfl⟩))
 go_ret
 exact ⟨rfl, rfl⟩
theorem vU (b s : Int) (w : World) (hb0 : 0 ≤ b) (hb1 : b ≤ 255) (hs0 : 0 ≤ s) (hs1 : s ≤ 255) :
  Calls Tryz.prog 178 #[.int .i64 b, .int .i64 s] w fun e w' => e = .returned (.int .i64 (uk b s)) ∧ w = w' := by
 by_cases h : s < 128
 ·have e1 : uk b s = qR b (2 * s) := if_pos h
  rw [e1]; clear e1; go_enter func178, ntmps178
  go_wp2_with (first | (go_at_call 118; refine (vd _ _ _).mono ?_; rintro e w' ⟨rfl, rfl⟩) | (go_at_call 176; refine (uh _ _ _ (by omega) (by omega) (by omega) (by omega)).mono ?_; rintro e w' ⟨rfl, rfl⟩))
  go_ret; exact ⟨rfl, rfl⟩
 ·have e1 : uk b s = Qi b (2 * s - 255) := if_neg h
  rw [e1]; clear e1; go_enter func178, ntmps178
  go_wp2_with (first | (go_at_call 118; refine (vd _ _ _).mono ?_; rintro e w' ⟨rfl, rfl⟩) | (go_at_call 176; refine (uh _ _ _ (by omega) (by omega) (by omega) (by omega)).mono ?_; rintro e w' ⟨rfl, rfl⟩))
  go_ret; exact ⟨rfl, rfl⟩
theorem ys (b s : Int) (w : World) (hb0 : 0 ≤ b) (hb1 : b ≤ 255) (hs0 : 0 ≤ s) (hs1 : s ≤ 255) :
  Calls Tryz.prog 190 #[.int .i64 b, .int .i64 s] w fun e w' => e = .returned (.int .i64 (uk b s)) ∧ w = w' := by
 by_cases h : s < 128
 ·have e1 : uk b s = qR b (2 * s) := if_pos h
  rw [e1]; clear e1; go_enter func190, ntmps190
  go_wp2_with (first | (go_at_call 143; refine (yo _ _ _).mono ?_; rintro e w' ⟨rfl, rfl⟩) | (go_at_call 189; refine (ku _ _ _ (by omega) (by omega) (by omega) (by omega)).mono ?_; rintro e w' ⟨rfl, rfl⟩))
  go_ret; exact ⟨rfl, rfl⟩
 ·have e1 : uk b s = Qi b (2 * s - 255) := if_neg h
  rw [e1]; clear e1; go_enter func190, ntmps190
  go_wp2_with (first | (go_at_call 143; refine (yo _ _ _).mono ?_; rintro e w' ⟨rfl, rfl⟩) | (go_at_call 189; refine (ku _ _ _ (by omega) (by omega) (by omega) (by omega)).mono ?_; rintro e w' ⟨rfl, rfl⟩))
  go_ret; exact ⟨rfl, rfl⟩
theorem zfy (b s : Int) (w : World) (hb0 : 0 ≤ b) (hb1 : b ≤ 255) (hs0 : 0 ≤ s) (hs1 : s ≤ 255) :
  Calls Tryz.prog 181 #[.int .i64 b, .int .i64 s] w fun e w' => e = .returned (.int .i64 (yZ b s)) ∧ w = w' := by
 by_cases h : b = 0
 ·subst h
  go_enter func181, ntmps181
  go_wp2; go_ret; exact ⟨rfl, rfl⟩
 ·have h' : (b == 0) = false := by simpa using h
  by_cases k : s = 255
  ·subst k
   have e1 : yZ b 255 = 255 := by unfold yZ; rw [if_neg h]; rfl
   rw [e1]; clear e1 h; go_enter func181, ntmps181
   go_wp2; go_ret; exact ⟨rfl, rfl⟩
  ·have k' : (s == 255) = false := by simpa using k
   have e1 : yZ b s = min 255 (255 * b / (255 - s)) := by unfold yZ; rw [if_neg h, if_neg k]
   have k2 : ¬ (255 - s = 0) := by omega
   have k3 : 0 ≤ 255 * b / (255 - s) ∧ 255 * b / (255 - s) ≤ 65025 := ⟨Int.ediv_nonneg (by omega) (by omega), Int.le_trans (Int.ediv_le_self _ (by omega)) (by omega)⟩; rw [e1]; clear e1 h k; go_enter func181, ntmps181
   go_wp2
   all_goals (go_ret; exact ⟨qk (by omega), rfl⟩)
theorem xx (b s : Int) (w : World) (hb0 : 0 ≤ b) (hb1 : b ≤ 255) (hs0 : 0 ≤ s) (hs1 : s ≤ 255) :
  Calls Tryz.prog 191 #[.int .i64 b, .int .i64 s] w fun e w' => e = .returned (.int .i64 (yZ b s)) ∧ w = w' := by
 by_cases h : b = 0
 ·subst h
  go_enter func191, ntmps191
  go_wp2; go_ret; exact ⟨rfl, rfl⟩
 ·have h' : (b == 0) = false := by simpa using h
  by_cases k : s = 255
  ·subst k
   have e1 : yZ b 255 = 255 := by unfold yZ; rw [if_neg h]; rfl
   rw [e1]; clear e1 h; go_enter func191, ntmps191
   go_wp2; go_ret; exact ⟨rfl, rfl⟩
  ·have k' : (s == 255) = false := by simpa using k
   have e1 : yZ b s = min 255 (255 * b / (255 - s)) := by unfold yZ; rw [if_neg h, if_neg k]
   have k2 : ¬ (255 - s = 0) := by omega
   have k3 : 0 ≤ 255 * b / (255 - s) ∧ 255 * b / (255 - s) ≤ 65025 := ⟨Int.ediv_nonneg (by omega) (by omega), Int.le_trans (Int.ediv_le_self _ (by omega)) (by omega)⟩; rw [e1]; clear e1 h k; go_enter func191, ntmps191
   go_wp2
   all_goals (go_ret; exact ⟨qk (by omega), rfl⟩)
theorem zg9 (b s : Int) (w : World) (hb0 : 0 ≤ b) (hb1 : b ≤ 255) (hs0 : 0 ≤ s) (hs1 : s ≤ 255) :
  Calls Tryz.prog 182 #[.int .i64 b, .int .i64 s] w fun e w' => e = .returned (.int .i64 (vM b s)) ∧ w = w' := by
 by_cases h : b = 255
 ·subst h
  go_enter func182, ntmps182
  go_wp2; go_ret; exact ⟨rfl, rfl⟩
 ·have h' : (b == 255) = false := by simpa using h
  by_cases k : s = 0
  ·subst k
   have e1 : vM b 0 = 0 := by unfold vM; rw [if_neg h]; rfl
   rw [e1]; clear e1 h; go_enter func182, ntmps182
   go_wp2; go_ret; exact ⟨rfl, rfl⟩
  ·have k' : (s == 0) = false := by simpa using k
   have e1 : vM b s = 255 - min 255 (255 * (255 - b) / s) := by unfold vM; rw [if_neg h, if_neg k]
   have k3 : 0 ≤ 255 * (255 - b) / s ∧ 255 * (255 - b) / s ≤ 65025 := ⟨Int.ediv_nonneg (by omega) (by omega), Int.le_trans (Int.ediv_le_self _ (by omega)) (by omega)⟩; rw [e1]; clear e1 h; go_enter func182, ntmps182
   go_wp2
   all_goals (go_ret; exact ⟨qk (by omega), rfl⟩)
theorem yr (b s : Int) (w : World) (hb0 : 0 ≤ b) (hb1 : b ≤ 255) (hs0 : 0 ≤ s) (hs1 : s ≤ 255) :
  Calls Tryz.prog 192 #[.int .i64 b, .int .i64 s] w fun e w' => e = .returned (.int .i64 (vM b s)) ∧ w = w' := by
 by_cases h : b = 255
 ·subst h
  go_enter func192, ntmps192
  go_wp2; go_ret; exact ⟨rfl, rfl⟩
 ·have h' : (b == 255) = false := by simpa using h
  by_cases k : s = 0
  ·subst k
   have e1 : vM b 0 = 0 := by unfold vM; rw [if_neg h]; rfl
   rw [e1]; clear e1 h; go_enter func192, ntmps192
   go_wp2; go_ret; exact ⟨rfl, rfl⟩
  ·have k' : (s == 0) = false := by simpa using k
   have e1 : vM b s = 255 - min 255 (255 * (255 - b) / s) := by unfold vM; rw [if_neg h, if_neg k]
   have k3 : 0 ≤ 255 * (255 - b) / s ∧ 255 * (255 - b) / s ≤ 65025 := ⟨Int.ediv_nonneg (by omega) (by omega), Int.le_trans (Int.ediv_le_self _ (by omega)) (by omega)⟩; rw [e1]; clear e1 h; go_enter func192, ntmps192
   go_wp2
   all_goals (go_ret; exact ⟨qk (by omega), rfl⟩)
theorem zc6 (b s : Int) (w : World) (hb0 : -255 ≤ b) (hb1 : b ≤ 255) (hs0 : -255 ≤ s) (hs1 : s ≤ 255) :
  Calls Tryz.prog 174 #[.int .i64 b, .int .i64 s] w fun e w' => e = .returned (.int .i64 (max (b - s) (s - b))) ∧ w = w' := by
 go_enter func174, ntmps174
 go_wp2
 all_goals (go_ret; exact ⟨qk (by omega), rfl⟩)
theorem ve (x : Int) (w : World) (hb0 : -1000 ≤ x) (hb1 : x ≤ 1000) :
  Calls Tryz.prog 193 #[.int .i64 x] w fun e w' => e = .returned (.int .i64 (wt x)) ∧ w = w' := by
 go_enter func193, ntmps193
 go_wp2
 all_goals (go_ret; exact ⟨qk (by unfold wt; omega), rfl⟩)
theorem Yw (b s : Int) (w : World) (hb0 : 0 ≤ b) (hb1 : b ≤ 255) (hs0 : 0 ≤ s) (hs1 : s ≤ 255) :
  Calls Tryz.prog 175 #[.int .i64 b, .int .i64 s] w fun e w' => e = .returned (.int .i64 (s)) ∧ w = w' := by
 go_enter func175, ntmps175
 go_wp2_with (first | (go_at_call 118; refine (vd _ _ _).mono ?_; rintro e w' ⟨rfl, rfl⟩) | (go_at_call 176; refine (uh _ _ _ (by omega) (by omega) (by omega) (by omega)).mono ?_; rintro e w' ⟨rfl, rfl⟩) | (go_at_call 178; refine (vU _ _ _ (by omega) (by omega) (by omega) (by omega)).mono ?_; rintro e w' ⟨rfl, rfl⟩))
 all_goals (go_ret; exact ⟨qk (by omega), rfl⟩)
theorem zfz (b s : Int) (w : World) (hb0 : 0 ≤ b) (hb1 : b ≤ 255) (hs0 : 0 ≤ s) (hs1 : s ≤ 255) :
  Calls Tryz.prog 177 #[.int .i64 b, .int .i64 s] w fun e w' => e = .returned (.int .i64 (uk s b)) ∧ w = w' := by
 go_enter func177, ntmps177
 go_wp2_with (first | (go_at_call 118; refine (vd _ _ _).mono ?_; rintro e w' ⟨rfl, rfl⟩) | (go_at_call 176; refine (uh _ _ _ (by omega) (by omega) (by omega) (by omega)).mono ?_; rintro e w' ⟨rfl, rfl⟩) | (go_at_call 178; refine (vU _ _ _ (by omega) (by omega) (by omega) (by omega)).mono ?_; rintro e w' ⟨rfl, rfl⟩))
 all_goals (go_ret; exact ⟨qk (by omega), rfl⟩)
theorem zfA (b s : Int) (w : World) (hb0 : 0 ≤ b) (hb1 : b ≤ 255) (hs0 : 0 ≤ s) (hs1 : s ≤ 255) :
  Calls Tryz.prog 179 #[.int .i64 b, .int .i64 s] w fun e w' => e = .returned (.int .i64 (min b s)) ∧ w = w' := by
 go_enter func179, ntmps179
 go_wp2_with (first | (go_at_call 118; refine (vd _ _ _).mono ?_; rintro e w' ⟨rfl, rfl⟩) | (go_at_call 176; refine (uh _ _ _ (by omega) (by omega) (by omega) (by omega)).mono ?_; rintro e w' ⟨rfl, rfl⟩) | (go_at_call 178; refine (vU _ _ _ (by omega) (by omega) (by omega) (by omega)).mono ?_; rintro e w' ⟨rfl, rfl⟩))
 all_goals (go_ret; exact ⟨qk (by omega), rfl⟩)
theorem zfB (b s : Int) (w : World) (hb0 : 0 ≤ b) (hb1 : b ≤ 255) (hs0 : 0 ≤ s) (hs1 : s ≤ 255) :
  Calls Tryz.prog 180 #[.int .i64 b, .int .i64 s] w fun e w' => e = .returned (.int .i64 (max b s)) ∧ w = w' := by
 go_enter func180, ntmps180
 go_wp2_with (first | (go_at_call 118; refine (vd _ _ _).mono ?_; rintro e w' ⟨rfl, rfl⟩) | (go_at_call 176; refine (uh _ _ _ (by omega) (by omega) (by omega) (by omega)).mono ?_; rintro e w' ⟨rfl, rfl⟩) | (go_at_call 178; refine (vU _ _ _ (by omega) (by omega) (by omega) (by omega)).mono ?_; rintro e w' ⟨rfl, rfl⟩))
 all_goals (go_ret; exact ⟨qk (by omega), rfl⟩)
theorem zfC (b s : Int) (w : World) (hb0 : 0 ≤ b) (hb1 : b ≤ 255) (hs0 : 0 ≤ s) (hs1 : s ≤ 255) :
  Calls Tryz.prog 183 #[.int .i64 b, .int .i64 s] w fun e w' => e = .returned (.int .i64 (yA b s)) ∧ w = w' := by
 have m2 := qV (255 - b) (qR b s)
 have m3 := Jm hb0 hb1 hs0 hs1
 have m4 := qV b (Qi b s)
 go_enter func183, ntmps183
 go_wp2_with (first | (go_at_call 118; refine (vd _ _ _).mono ?_; rintro e w' ⟨rfl, rfl⟩) | (go_at_call 176; refine (uh _ _ _ (by omega) (by omega) (by omega) (by omega)).mono ?_; rintro e w' ⟨rfl, rfl⟩) | (go_at_call 178; refine (vU _ _ _ (by omega) (by omega) (by omega) (by omega)).mono ?_; rintro e w' ⟨rfl, rfl⟩))
 all_goals (go_ret; exact ⟨qk (by unfold yA; omega), rfl⟩)
theorem zda (b s : Int) (w : World) (hb0 : 0 ≤ b) (hb1 : b ≤ 255) (hs0 : 0 ≤ s) (hs1 : s ≤ 255) :
  Calls Tryz.prog 184 #[.int .i64 b, .int .i64 s] w fun e w' => e = .returned (.int .i64 (max 0 (b + s - 2 * qR b s))) ∧ w = w' := by
 have m2 := qV b s
 go_enter func184, ntmps184
 go_wp2_with (first | (go_at_call 118; refine (vd _ _ _).mono ?_; rintro e w' ⟨rfl, rfl⟩) | (go_at_call 176; refine (uh _ _ _ (by omega) (by omega) (by omega) (by omega)).mono ?_; rintro e w' ⟨rfl, rfl⟩) | (go_at_call 178; refine (vU _ _ _ (by omega) (by omega) (by omega) (by omega)).mono ?_; rintro e w' ⟨rfl, rfl⟩))
 all_goals (go_ret; exact ⟨qk (by omega), rfl⟩)
theorem zdb (b s : Int) (w : World) (hb0 : 0 ≤ b) (hb1 : b ≤ 255) (hs0 : 0 ≤ s) (hs1 : s ≤ 255) :
  Calls Tryz.prog 185 #[.int .i64 b, .int .i64 s] w fun e w' => e = .returned (.int .i64 (min 255 (b + s))) ∧ w = w' := by
 go_enter func185, ntmps185
 go_wp2_with (first | (go_at_call 118; refine (vd _ _ _).mono ?_; rintro e w' ⟨rfl, rfl⟩) | (go_at_call 176; refine (uh _ _ _ (by omega) (by omega) (by omega) (by omega)).mono ?_; rintro e w' ⟨rfl, rfl⟩) | (go_at_call 178; refine (vU _ _ _ (by omega) (by omega) (by omega) (by omega)).mono ?_; rintro e w' ⟨rfl, rfl⟩))
 all_goals (go_ret; exact ⟨qk (by omega), rfl⟩)
theorem zdc (b s : Int) (w : World) (hb0 : 0 ≤ b) (hb1 : b ≤ 255) (hs0 : 0 ≤ s) (hs1 : s ≤ 255) :
  Calls Tryz.prog 186 #[.int .i64 b, .int .i64 s] w fun e w' => e = .returned (.int .i64 (max 0 (b - s))) ∧ w = w' := by
 go_enter func186, ntmps186
 go_wp2_with (first | (go_at_call 118; refine (vd _ _ _).mono ?_; rintro e w' ⟨rfl, rfl⟩) | (go_at_call 176; refine (uh _ _ _ (by omega) (by omega) (by omega) (by omega)).mono ?_; rintro e w' ⟨rfl, rfl⟩) | (go_at_call 178; refine (vU _ _ _ (by omega) (by omega) (by omega) (by omega)).mono ?_; rintro e w' ⟨rfl, rfl⟩))
 all_goals (go_ret; exact ⟨qk (by omega), rfl⟩)
theorem zdd (b s : Int) (w : World) (hb0 : 0 ≤ b) (hb1 : b ≤ 255) (hs0 : 0 ≤ s) (hs1 : s ≤ 255) :
  Calls Tryz.prog 187 #[.int .i64 b, .int .i64 s] w fun e w' => e = .returned (.int .i64 ((b + s + 1) / 2)) ∧ w = w' := by
 go_enter func187, ntmps187
 go_wp2_with (first | (go_at_call 118; refine (vd _ _ _).mono ?_; rintro e w' ⟨rfl, rfl⟩) | (go_at_call 176; refine (uh _ _ _ (by omega) (by omega) (by omega) (by omega)).mono ?_; rintro e w' ⟨rfl, rfl⟩) | (go_at_call 178; refine (vU _ _ _ (by omega) (by omega) (by omega) (by omega)).mono ?_; rintro e w' ⟨rfl, rfl⟩))
 all_goals (go_ret; exact ⟨qk (by omega), rfl⟩)
theorem zde (b s : Int) (a : Addr) (w : World) (hb0 : 0 ≤ b) (hb1 : b ≤ 255) (hs0 : 0 ≤ s) (hs1 : s ≤ 255) (hc : w.cell? a = some (.func (.func 174) #[] #[])) :
  Calls Tryz.prog 188 #[.int .i64 b, .int .i64 s, .pointer (some a)] w fun e w' => e = .returned (.int .i64 (255 - max (255 - b - s) (s - (255 - b)))) ∧ w = w' := by
 go_enter func188, ntmps188
 go_wp2_with (first | (go_at_call 174; refine (zc6 _ _ _ (by omega) (by omega) (by omega) (by omega)).mono ?_; rintro e w' ⟨rfl, rfl⟩))
 all_goals (go_ret; exact ⟨qk (by omega), rfl⟩)
def uw (b : Nat) : Value := .agg #[.func (.func 175) #[] #[], .func (.func 118) #[] #[], .func (.func 176) #[] #[], .func (.func 177) #[] #[],
 .func (.func 179) #[] #[], .func (.func 180) #[] #[], .func (.func 181) #[] #[], .func (.func 182) #[] #[],
 .func (.func 178) #[] #[], .func (.func 183) #[] #[], .func (.func 174) #[] #[], .func (.func 184) #[] #[],
 .func (.func 185) #[] #[], .func (.func 186) #[] #[], .func (.func 187) #[] #[], .func (.func 188) #[] #[.pointer (some ⟨b, 0, none⟩)]]
theorem vJ (w : World) :
  Calls Tryz.prog 161 #[] w fun e w' => e = .returned (uw (w.heap.size + 1)) ∧ w'.cell? ⟨w.heap.size + 1, 0, none⟩ = some (.func (.func 174) #[] #[]) ∧ Below w.heap.size w w' := by
 go_enter func161, ntmps161
 go_wp2
 go_returns
 exact ⟨rfl, by simp [go_sem], by go_grown⟩
theorem jn (b : Nat) (w : World) :
  (Instr.index 191 (uw b) (.int .i64 0)).run Tryz.prog w = .ok (.func (.func 175) #[] #[]) w
  ∧ (Instr.index 191 (uw b) (.int .i64 1)).run Tryz.prog w = .ok (.func (.func 118) #[] #[]) w
  ∧ (Instr.index 191 (uw b) (.int .i64 2)).run Tryz.prog w = .ok (.func (.func 176) #[] #[]) w
  ∧ (Instr.index 191 (uw b) (.int .i64 3)).run Tryz.prog w = .ok (.func (.func 177) #[] #[]) w
  ∧ (Instr.index 191 (uw b) (.int .i64 4)).run Tryz.prog w = .ok (.func (.func 179) #[] #[]) w
  ∧ (Instr.index 191 (uw b) (.int .i64 5)).run Tryz.prog w = .ok (.func (.func 180) #[] #[]) w
  ∧ (Instr.index 191 (uw b) (.int .i64 6)).run Tryz.prog w = .ok (.func (.func 181) #[] #[]) w
  ∧ (Instr.index 191 (uw b) (.int .i64 7)).run Tryz.prog w = .ok (.func (.func 182) #[] #[]) w
  ∧ (Instr.index 191 (uw b) (.int .i64 8)).run Tryz.prog w = .ok (.func (.func 178) #[] #[]) w
  ∧ (Instr.index 191 (uw b) (.int .i64 9)).run Tryz.prog w = .ok (.func (.func 183) #[] #[]) w
  ∧ (Instr.index 191 (uw b) (.int .i64 10)).run Tryz.prog w = .ok (.func (.func 174) #[] #[]) w
  ∧ (Instr.index 191 (uw b) (.int .i64 11)).run Tryz.prog w = .ok (.func (.func 184) #[] #[]) w
  ∧ (Instr.index 191 (uw b) (.int .i64 12)).run Tryz.prog w = .ok (.func (.func 185) #[] #[]) w
  ∧ (Instr.index 191 (uw b) (.int .i64 13)).run Tryz.prog w = .ok (.func (.func 186) #[] #[]) w
  ∧ (Instr.index 191 (uw b) (.int .i64 14)).run Tryz.prog w = .ok (.func (.func 187) #[] #[]) w
  ∧ (Instr.index 191 (uw b) (.int .i64 15)).run Tryz.prog w = .ok (.func (.func 188) #[] #[.pointer (some ⟨b, 0, none⟩)]) w
  := by
 refine ⟨?_, ?_, ?_, ?_, ?_, ?_, ?_, ?_, ?_, ?_, ?_, ?_, ?_, ?_, ?_, ?_⟩ <;> kernel_rfl
theorem jq (m b s v : Int) (F : Nat) (w : World) (hm : ¬ m < 0) (hm' : m < 16)
  (hix : ∀ wx, (Instr.index 191 (uw (w.heap.size + 1)) (.int .i64 m)).run Tryz.prog wx = .ok (.func (.func F) #[] #[]) wx)
  (hcf : ∀ (args : Array Value) (wx : World), (callFunc F args).run Tryz.prog wx = .ok (.enter F args) wx)
  (hF : ∀ wx, Calls Tryz.prog F #[.int .i64 (zz b), .int .i64 (zz s)] wx fun e w' => e = .returned (.int .i64 v) ∧ wx = w') :
  Calls Tryz.prog 122 #[.int .i64 m, .int .i64 b, .int .i64 s] w fun e w' => e = .returned (.int .i64 v) ∧ Below w.heap.size w w' := by
 have h1 := zr b
 have h2 := zr s
 have HF := zo hF
 clear hF
 go_enter func122, ntmps122
 go_wp2
 go_region_with (first | (go_at_call 159; refine (ZR _ _).mono ?_; rintro e w' ⟨rfl, rfl⟩) | (go_at_call 161; refine (vJ _).mono ?_; rintro e w1 ⟨rfl, hc1, hb1⟩) | (refine (HF.out _).mono ?_; rintro e w' ⟨rfl, rfl⟩))
 all_goals (go_wp2; go_ret; exact ⟨rfl, kJ hb1⟩)
theorem zcK (b s : Int) (w : World) :
  Calls Tryz.prog 122 #[.int .i64 0, .int .i64 b, .int .i64 s] w fun e w' => e = .returned (.int .i64 (zW 0 b s)) ∧ Below w.heap.size w w' := by
 have h1 := zr b
 have h2 := zr s
 exact jq 0 b s _ 175 w (by omega) (by omega) (fun wx => (jn (w.heap.size + 1) wx).1) (fun _ _ => by kernel_rfl) (fun wx => Yw _ _ _ (by omega) (by omega) (by omega) (by omega))
theorem zcL (b s : Int) (w : World) :
  Calls Tryz.prog 122 #[.int .i64 1, .int .i64 b, .int .i64 s] w fun e w' => e = .returned (.int .i64 (zW 1 b s)) ∧ Below w.heap.size w w' := by
 have h1 := zr b
 have h2 := zr s
 exact jq 1 b s _ 118 w (by omega) (by omega) (fun wx => (jn (w.heap.size + 1) wx).2.1) (fun _ _ => by kernel_rfl) (fun wx => vd _ _ _)
theorem zcM (b s : Int) (w : World) :
  Calls Tryz.prog 122 #[.int .i64 2, .int .i64 b, .int .i64 s] w fun e w' => e = .returned (.int .i64 (zW 2 b s)) ∧ Below w.heap.size w w' := by
 have h1 := zr b
 have h2 := zr s
 exact jq 2 b s _ 176 w (by omega) (by omega) (fun wx => (jn (w.heap.size + 1) wx).2.2.1) (fun _ _ => by kernel_rfl) (fun wx => uh _ _ _ (by omega) (by omega) (by omega) (by omega))
theorem zcN (b s : Int) (w : World) :
  Calls Tryz.prog 122 #[.int .i64 3, .int .i64 b, .int .i64 s] w fun e w' => e = .returned (.int .i64 (zW 3 b s)) ∧ Below w.heap.size w w' := by
 have h1 := zr b
 have h2 := zr s
 exact jq 3 b s _ 177 w (by omega) (by omega) (fun wx => (jn (w.heap.size + 1) wx).2.2.2.1) (fun _ _ => by kernel_rfl) (fun wx => zfz _ _ _ (by omega) (by omega) (by omega) (by omega))
theorem zcO (b s : Int) (w : World) :
  Calls Tryz.prog 122 #[.int .i64 4, .int .i64 b, .int .i64 s] w fun e w' => e = .returned (.int .i64 (zW 4 b s)) ∧ Below w.heap.size w w' := by
 have h1 := zr b
 have h2 := zr s
 exact jq 4 b s _ 179 w (by omega) (by omega) (fun wx => (jn (w.heap.size + 1) wx).2.2.2.2.1) (fun _ _ => by kernel_rfl) (fun wx => zfA _ _ _ (by omega) (by omega) (by omega) (by omega))
theorem zcP (b s : Int) (w : World) :
  Calls Tryz.prog 122 #[.int .i64 5, .int .i64 b, .int .i64 s] w fun e w' => e = .returned (.int .i64 (zW 5 b s)) ∧ Below w.heap.size w w' := by
 have h1 := zr b
 have h2 := zr s
 exact jq 5 b s _ 180 w (by omega) (by omega) (fun wx => (jn (w.heap.size + 1) wx).2.2.2.2.2.1) (fun _ _ => by kernel_rfl) (fun wx => zfB _ _ _ (by omega) (by omega) (by omega) (by omega))
theorem zcQ (b s : Int) (w : World) :
  Calls Tryz.prog 122 #[.int .i64 6, .int .i64 b, .int .i64 s] w fun e w' => e = .returned (.int .i64 (zW 6 b s)) ∧ Below w.heap.size w w' := by
 have h1 := zr b
 have h2 := zr s
 exact jq 6 b s _ 181 w (by omega) (by omega) (fun wx => (jn (w.heap.size + 1) wx).2.2.2.2.2.2.1) (fun _ _ => by kernel_rfl) (fun wx => zfy _ _ _ (by omega) (by omega) (by omega) (by omega))
theorem zcR (b s : Int) (w : World) :
  Calls Tryz.prog 122 #[.int .i64 7, .int .i64 b, .int .i64 s] w fun e w' => e = .returned (.int .i64 (zW 7 b s)) ∧ Below w.heap.size w w' := by
 have h1 := zr b
 have h2 := zr s
 exact jq 7 b s _ 182 w (by omega) (by omega) (fun wx => (jn (w.heap.size + 1) wx).2.2.2.2.2.2.2.1) (fun _ _ => by kernel_rfl) (fun wx => zg9 _ _ _ (by omega) (by omega) (by omega) (by omega))
theorem zcS (b s : Int) (w : World) :
  Calls Tryz.prog 122 #[.int .i64 8, .int .i64 b, .int .i64 s] w fun e w' => e = .returned (.int .i64 (zW 8 b s)) ∧ Below w.heap.size w w' := by
 have h1 := zr b
 have h2 := zr s
 exact jq 8 b s _ 178 w (by omega) (by omega) (fun wx => (jn (w.heap.size + 1) wx).2.2.2.2.2.2.2.2.1) (fun _ _ => by kernel_rfl) (fun wx => vU _ _ _ (by omega) (by omega) (by omega) (by omega))
theorem zcT (b s : Int) (w : World) :
  Calls Tryz.prog 122 #[.int .i64 9, .int .i64 b, .int .i64 s] w fun e w' => e = .returned (.int .i64 (zW 9 b s)) ∧ Below w.heap.size w w' := by
 have h1 := zr b
 have h2 := zr s
 exact jq 9 b s _ 183 w (by omega) (by omega) (fun wx => (jn (w.heap.size + 1) wx).2.2.2.2.2.2.2.2.2.1) (fun _ _ => by kernel_rfl) (fun wx => zfC _ _ _ (by omega) (by omega) (by omega) (by omega))
theorem zbl (b s : Int) (w : World) :
  Calls Tryz.prog 122 #[.int .i64 10, .int .i64 b, .int .i64 s] w fun e w' => e = .returned (.int .i64 (zW 10 b s)) ∧ Below w.heap.size w w' := by
 have h1 := zr b
 have h2 := zr s
 exact jq 10 b s _ 174 w (by omega) (by omega) (fun wx => (jn (w.heap.size + 1) wx).2.2.2.2.2.2.2.2.2.2.1) (fun _ _ => by kernel_rfl) (fun wx => zc6 _ _ _ (by omega) (by omega) (by omega) (by omega))
theorem zbm (b s : Int) (w : World) :
  Calls Tryz.prog 122 #[.int .i64 11, .int .i64 b, .int .i64 s] w fun e w' => e = .returned (.int .i64 (zW 11 b s)) ∧ Below w.heap.size w w' := by
 have h1 := zr b
 have h2 := zr s
 exact jq 11 b s _ 184 w (by omega) (by omega) (fun wx => (jn (w.heap.size + 1) wx).2.2.2.2.2.2.2.2.2.2.2.1) (fun _ _ => by kernel_rfl) (fun wx => zda _ _ _ (by omega) (by omega) (by omega) (by omega))
theorem zbn (b s : Int) (w : World) :
  Calls Tryz.prog 122 #[.int .i64 12, .int .i64 b, .int .i64 s] w fun e w' => e = .returned (.int .i64 (zW 12 b s)) ∧ Below w.heap.size w w' := by
 have h1 := zr b
 have h2 := zr s
 exact jq 12 b s _ 185 w (by omega) (by omega) (fun wx => (jn (w.heap.size + 1) wx).2.2.2.2.2.2.2.2.2.2.2.2.1) (fun _ _ => by kernel_rfl) (fun wx => zdb _ _ _ (by omega) (by omega) (by omega) (by omega))
theorem zbo (b s : Int) (w : World) :
  Calls Tryz.prog 122 #[.int .i64 13, .int .i64 b, .int .i64 s] w fun e w' => e = .returned (.int .i64 (zW 13 b s)) ∧ Below w.heap.size w w' := by
 have h1 := zr b
 have h2 := zr s
 exact jq 13 b s _ 186 w (by omega) (by omega) (fun wx => (jn (w.heap.size + 1) wx).2.2.2.2.2.2.2.2.2.2.2.2.2.1) (fun _ _ => by kernel_rfl) (fun wx => zdc _ _ _ (by omega) (by omega) (by omega) (by omega))
theorem zbp (b s : Int) (w : World) :
  Calls Tryz.prog 122 #[.int .i64 14, .int .i64 b, .int .i64 s] w fun e w' => e = .returned (.int .i64 (zW 14 b s)) ∧ Below w.heap.size w w' := by
 have h1 := zr b
 have h2 := zr s
 exact jq 14 b s _ 187 w (by omega) (by omega) (fun wx => (jn (w.heap.size + 1) wx).2.2.2.2.2.2.2.2.2.2.2.2.2.2.1) (fun _ _ => by kernel_rfl) (fun wx => zdd _ _ _ (by omega) (by omega) (by omega) (by omega))
theorem zbq (b s : Int) (w : World) :
  Calls Tryz.prog 122 #[.int .i64 15, .int .i64 b, .int .i64 s] w fun e w' => e = .returned (.int .i64 (zW 15 b s)) ∧ Below w.heap.size w w' := by
 have h1 := zr b
 have h2 := zr s
 have hix := fun wx => (jn (w.heap.size + 1) wx).2.2.2.2.2.2.2.2.2.2.2.2.2.2.2
 go_enter func122, ntmps122
 go_wp2
 go_region_with (first | (go_at_call 159; refine (ZR _ _).mono ?_; rintro e w' ⟨rfl, rfl⟩) | (go_at_call 161; refine (vJ _).mono ?_; rintro e w1 ⟨rfl, hc1, hb1⟩) | (go_at_call 188; refine (zde _ _ _ _ (by omega) (by omega) (by omega) (by omega) (by assumption)).mono ?_; rintro e w' ⟨rfl, rfl⟩))
 all_goals (go_wp2; go_ret; exact ⟨rfl, kJ hb1⟩)
theorem Yp (m b s : Int) (w : World) (hm : m < 0) :
  Calls Tryz.prog 122 #[.int .i64 m, .int .i64 b, .int .i64 s] w fun e w' => e = .returned (.int .i64 (zW m b s)) ∧ Below w.heap.size w w' := by
 have h1 := zr b
 have h2 := zr s
 have e1 : zW m b s = zz s := by
  unfold zW jI; repeat (rw [if_neg (by omega)])
 rw [e1]; clear e1
 have hix := fun wx => (jn (w.heap.size + 1) wx).1
 have hF : ∀ wx, Calls Tryz.prog 175 #[.int .i64 (zz b), .int .i64 (zz s)] wx fun e w' => e = .returned (.int .i64 (zz s)) ∧ wx = w' := fun wx => Yw _ _ _ (by omega) (by omega) (by omega) (by omega)
 have HF := zo hF
 clear hF
 go_enter func122, ntmps122
 go_wp2
 go_region_with (first | (go_at_call 159; refine (ZR _ _).mono ?_; rintro e w' ⟨rfl, rfl⟩) | (go_at_call 161; refine (vJ _).mono ?_; rintro e w1 ⟨rfl, hc1, hb1⟩) | (refine (HF.out _).mono ?_; rintro e w' ⟨rfl, rfl⟩))
 all_goals (go_wp2; go_ret; exact ⟨rfl, kJ hb1⟩)
theorem Yq (m b s : Int) (w : World) (hm : 16 ≤ m) :
  Calls Tryz.prog 122 #[.int .i64 m, .int .i64 b, .int .i64 s] w fun e w' => e = .returned (.int .i64 (zW m b s)) ∧ Below w.heap.size w w' := by
 have h1 := zr b
 have h2 := zr s
 have e1 : zW m b s = zz s := by
  unfold zW jI; repeat (rw [if_neg (by omega)])
 rw [e1]; clear e1
 have hix := fun wx => (jn (w.heap.size + 1) wx).1
 have hF : ∀ wx, Calls Tryz.prog 175 #[.int .i64 (zz b), .int .i64 (zz s)] wx fun e w' => e = .returned (.int .i64 (zz s)) ∧ wx = w' := fun wx => Yw _ _ _ (by omega) (by omega) (by omega) (by omega)
 have HF := zo hF
 clear hF
 have hm2 : ¬ m < 0 := by omega
 go_enter func122, ntmps122
 go_wp2
 go_region_with (first | (go_at_call 159; refine (ZR _ _).mono ?_; rintro e w' ⟨rfl, rfl⟩) | (go_at_call 161; refine (vJ _).mono ?_; rintro e w1 ⟨rfl, hc1, hb1⟩) | (refine (HF.out _).mono ?_; rintro e w' ⟨rfl, rfl⟩))
 all_goals (go_wp2; go_ret; exact ⟨rfl, kJ hb1⟩)
theorem zfm (m b s : Int) (w : World) :
  Calls Tryz.prog 122 #[.int .i64 m, .int .i64 b, .int .i64 s] w fun e w' => e = .returned (.int .i64 (zW m b s)) ∧ Below w.heap.size w w' := by
 by_cases hm : m < 0 ∨ 16 ≤ m
 ·rcases hm with hm | hm
  ·exact Yp m b s w hm
  ·exact Yq m b s w hm
 ·have hc : m = 0 ∨ m = 1 ∨ m = 2 ∨ m = 3 ∨ m = 4 ∨ m = 5 ∨ m = 6 ∨ m = 7 ∨ m = 8 ∨ m = 9 ∨ m = 10 ∨ m = 11 ∨ m = 12 ∨ m = 13 ∨ m = 14 ∨ m = 15 := by omega
  rcases hc with rfl | rfl | rfl | rfl | rfl | rfl | rfl | rfl | rfl | rfl | rfl | rfl | rfl | rfl | rfl | rfl
  ·exact zcK b s w
  ·exact zcL b s w
  ·exact zcM b s w
  ·exact zcN b s w
  ·exact zcO b s w
  ·exact zcP b s w
  ·exact zcQ b s w
  ·exact zcR b s w
  ·exact zcS b s w
  ·exact zcT b s w
  ·exact zbl b s w
  ·exact zbm b s w
  ·exact zbn b s w
  ·exact zbo b s w
  ·exact zbp b s w
  ·exact zbq b s w
def Px.v (p : Px) : Value := .agg #[.int .u8 p.r, .int .u8 p.g, .int .u8 p.b, .int .u8 p.a]
def Clo (F : Nat) (caps : Array Value) (φ : Int → Int → Int) (w0 : World) : Prop :=
 ∀ (x y : Int) (wx : World), Below w0.heap.size w0 wx → 0 ≤ x → x ≤ 255 → 0 ≤ y → y ≤ 255 →
  Calls Tryz.prog F (#[.int .i64 x, .int .i64 y] ++ caps) wx fun e w' => e = .returned (.int .i64 (φ x y)) ∧ Below wx.heap.size wx w'
theorem zfp (m u v W b s : Int) (au av am aw : Nat) (w : World) (hu0 : 0 ≤ u) (hu1 : u ≤ 255) (hv0 : 0 ≤ v) (hv1 : v ≤ 255) (hb0 : 0 ≤ b) (hb1 : b ≤ 255) (hs0 : 0 ≤ s) (hs1 : s ≤ 255)
  (hW0 : W = xH u v) (hW1 : 1 ≤ W) (lu : au < w.heap.size) (lv : av < w.heap.size) (lm : am < w.heap.size) (lw : aw < w.heap.size)
  (cu : w.cell? ⟨au, 0, none⟩ = some (.int .i64 u)) (cv : w.cell? ⟨av, 0, none⟩ = some (.int .i64 v)) (cm : w.cell? ⟨am, 0, none⟩ = some (.int .i64 m)) (cw : w.cell? ⟨aw, 0, none⟩ = some (.int .i64 W)) :
  Calls Tryz.prog 121 #[.int .i64 b, .int .i64 s, .pointer (some ⟨au, 0, none⟩), .pointer (some ⟨av, 0, none⟩), .pointer (some ⟨am, 0, none⟩), .pointer (some ⟨aw, 0, none⟩)] w
   fun e w' => e = .returned (.int .i64 (y6 m u v b s)) ∧ Below w.heap.size w w' := by
 have hx := Qr m b s
 have w1 : 0 ≤ u * (255 - v) := Int.mul_nonneg hu0 (by omega)
 have w2 : 0 ≤ u * v := Int.mul_nonneg hu0 hv0
 have w3 : 0 ≤ (255 - u) * v := Int.mul_nonneg (by omega) hv0
 have a1 := Int.mul_nonneg w1 hs0
 have a2 := Int.mul_nonneg w2 hx.1
 have a3 := Int.mul_nonneg w3 hb0
 have d1 := Int.mul_le_mul_of_nonneg_left hs1 w1
 have d2 := Int.mul_le_mul_of_nonneg_left hx.2 w2
 have d3 := Int.mul_le_mul_of_nonneg_left hb1 w3
 have e := J1 u v
 have k := wF hu0 hu1 hv0 hv1
 have hfin : zG (u * (255 - v) * s + u * v * zW m b s + (255 - u) * v * b) W = y6 m u v b s := by rw [hW0]; rfl
 have Hfin := zo hfin
 have k2 : W ≤ 65025 := by omega
 have k3 : u * (255 - v) ≤ 65025 := by omega
 have k4 : u * v ≤ 65025 := by omega
 have k5 : (255 - u) * v ≤ 65025 := by omega
 clear hfin e hW0
 go_enter func121, ntmps121
 go_wp2
 refine zt (by kernel_rfl) (by kernel_rfl) ?_
 repeat (go_big_quiet_step ((first | (go_at_call 122; exact zv (zfm _ _ _ _)) | (go_at_call 120; exact yy (Ja _ _ _ (by omega) (by omega) (by omega) (by omega))))))
 refine wpQuiet_nil ?_
 intro w1 hb1
 obtain ⟨hc1, hf1⟩ := KY hb1
 have hs1 := hb1.size
 try simp only [World.size_alloc, World.size_setCell, World.size_drew] at hs1
 have hbb1 := hb1.mono (B' := w.heap.size) (by first | omega | (simp only [World.size_alloc, World.size_setCell, World.size_drew]; omega))
 go_wp2
 go_ret
 exact ⟨qk Hfin.out, hb1⟩
theorem zfw (x y z : Int) (F a : Nat) (caps : Array Value) (w : World) (hx0 : 0 ≤ x) (hx1 : x ≤ 255) (hy0 : 0 ≤ y) (hy1 : y ≤ 255) (hz0 : 0 ≤ z) (hz1 : z ≤ 255)
  (hcf : ∀ (args : Array Value) (wx : World), (callFunc F args).run Tryz.prog wx = .ok (.enter F args) wx)
  (hF : Calls Tryz.prog F (#[.int .i64 x, .int .i64 y] ++ caps) w fun e w' => e = .returned (.int .i64 z) ∧ Below w.heap.size w w')
  (hc : w.cell? ⟨a, 0, none⟩ = some (.func (.func F) #[] caps)) :
  Calls Tryz.prog 160 #[.int .u8 x, .int .u8 y, .pointer (some ⟨a, 0, none⟩)] w fun e w' => e = .returned (.int .u8 z) ∧ Below w.heap.size w w' := by
 have HF := zo hF
 clear hF
 go_enter func160, ntmps160
 go_wp2_with (first | (refine HF.out.mono ?_; rintro e w1 ⟨rfl, hb1⟩))
 go_ret
 exact ⟨rfl, hb1⟩
end Go.Proofs.YtepelndbbhdofaaGreatDoor
namespace Go.Proofs.YtepelndbbhdofaaGreatDoor
open Go.ChangeShapes Go.WideShapes Go.ChangeAt Go.RowKit Pl
set_option linter.unusedVariables false
set_option linter.unusedSimpArgs false
set_option maxRecDepth 20000
theorem own : ownKnob Tryz.prog.godebug = none := by kernel_rfl
theorem YQ : laidOutB Tryz.prog = true := by kernel_rfl
section
variable {H : Type} {enc : TypeId × Value → H} {w : World} {base : Nat} {spare : Nat → Bool} {held : Bool}
end
end Go.Proofs.YtepelndbbhdofaaGreatDoor
namespace Go.Proofs.YtepelndbbhdofaaGreatDoor
open Go.RowKit Go.Shelf Pl Sha Go.Proofs.Tryz
set_option linter.unusedVariables false
set_option linter.unusedSimpArgs false
set_option maxRecDepth 20000
set_option maxHeartbeats 8000000
def pxC (p : Px) (j : Nat) : Value := if j = 0 then .int .u8 p.r else if j = 1 then .int .u8 p.g else if j = 2 then .int .u8 p.b else .int .u8 p.a
def qU (f : Nat → Px) : Array Value := Array.ofFn (n := 256) fun k => pxC (f (k.val / 4)) (k.val % 4)
def Tile.v (f : Nat → Px) : Value := .agg (qU f)
def ZP (f : Nat → Px) (i : Nat) (p : Px) : Nat → Px := fun j => if j = i then p else f j
theorem jN (f : Nat → Px) : (qU f).size = 256 := by unfold qU; simp
theorem kC (f : Nat → Px) (k : Nat) : (qU f)[k]? = if k < 256 then some (pxC (f (k / 4)) (k % 4)) else none := by
 unfold qU
 rw [Array.getElem?_ofFn]
 split <;> rfl
theorem yB (f : Nat → Px) (i j : Nat) (hi : i < 64) (hj : j < 4) : (qU f)[i * 4 + j]? = some (pxC (f i) j) := by
 rw [kC, if_pos (by omega), show (i * 4 + j) / 4 = i by omega, show (i * 4 + j) % 4 = j by omega]
theorem uR {f g : Nat → Px} (h : ∀ i, i < 64 → f i = g i) : qU f = qU g := by
 apply Array.ext_getElem?
 intro k
 rw [kC, kC]
 split
 ·rw [h _ (by omega)]
 ·rfl
theorem zcu {f g : Nat → Px} (h : qU f = qU g) : ∀ i, i < 64 → f i = g i := by
 intro i hi
 have k : ∀ j, j < 4 → pxC (f i) j = pxC (g i) j := fun j hj => by
  have := congrArg (fun a : Array Value => a[i * 4 + j]?) h; simp only [yB _ i j hi hj] at this; exact Option.some.inj this
 have k0 := k 0 (by omega)
 have k1 := k 1 (by omega)
 have k2 := k 2 (by omega)
 have k3 := k 3 (by omega)
 simp [pxC] at k0 k1 k2 k3
 cases hf : f i
 cases hg : g i
 rw [hf, hg] at k0 k1 k2 k3
 simp at k0 k1 k2 k3
 rw [k0, k1, k2, k3]
theorem X9 (f : Nat → Px) (i : Nat) (p : Px) (hi : i < 64) :
  ((((qU f).setIfInBounds (i * 4) (.int .u8 p.r)).setIfInBounds (i * 4 + 1) (.int .u8 p.g)).setIfInBounds (i * 4 + 2) (.int .u8 p.b)).setIfInBounds (i * 4 + 3) (.int .u8 p.a) = qU (ZP f i p) := by
 apply Array.ext_getElem?
 intro k
 simp only [Array.getElem?_setIfInBounds, Array.size_setIfInBounds, jN, kC]
 by_cases hk : k < 256
 ·simp only [hk, if_true]
  by_cases h : k / 4 = i
  ·have hm : k = i * 4 + k % 4 := by omega
   have h4 : k % 4 < 4 := by omega
   have hu : ZP f i p (k / 4) = p := by unfold ZP; rw [if_pos h]
   rw [hu]; have hc : k % 4 = 0 ∨ k % 4 = 1 ∨ k % 4 = 2 ∨ k % 4 = 3 := by omega
   rcases hc with hc | hc | hc | hc
   ·rw [if_neg (by omega), if_neg (by omega), if_neg (by omega), if_pos (by omega), if_pos (by omega), hc]; rfl
   ·rw [if_neg (by omega), if_neg (by omega), if_pos (by omega), if_pos (by omega), hc]; rfl
   ·rw [if_neg (by omega), if_pos (by omega), if_pos (by omega), hc]; rfl
   ·rw [if_pos (by omega), if_pos (by omega), hc]; rfl
  ·have hu : ZP f i p (k / 4) = f (k / 4) := by unfold ZP; rw [if_neg h]
   rw [hu, if_neg (by omega), if_neg (by omega), if_neg (by omega), if_neg (by omega)]
 ·rw [if_neg (by omega), if_neg (by omega), if_neg (by omega), if_neg (by omega), if_neg hk, if_neg hk]
theorem ZA (f : Nat → Px) : (Tile.v f).cells = qU f := by simp only [Tile.v, Value.cells]
attribute [irreducible] qU
def zV (w : World) (b : Nat) (f : Nat → Px) : Prop := w.heap[b]? = some (.cells (qU f) 123 (0, 0))
theorem zV.of_eq {w w' : World} {b : Nat} {f : Nat → Px} (h : zV w b f) (e : w'.heap[b]? = w.heap[b]?) : zV w' b f := e.trans h
theorem zV.lt {w : World} {b : Nat} {f : Nat → Px} (h : zV w b f) : b < w.heap.size := (Array.getElem?_eq_some_iff.1 h).1
theorem zV.be {w w' : World} {b : Nat} {f : Nat → Px} (h : zV w b f) (e : Below w.heap.size w w') : zV w' b f := h.of_eq (e.block _ h.lt)
theorem zV.cg {w w' : World} {b : Nat} {f : Nat → Px} (h : zV w b f) {zc : Nat} (e : qY zc w w') (hn : b ≠ zc := by omega) : zV w' b f := h.of_eq (e.block _ h.lt hn)
theorem zV.cells {w : World} {b : Nat} {f : Nat → Px} (h : zV w b f) {i : Nat} (hi : i < 64) :
  w.cell? ⟨b, i * 4, none⟩ = some (.int .u8 (f i).r) ∧ w.cell? ⟨b, i * 4 + 1, none⟩ = some (.int .u8 (f i).g) ∧ w.cell? ⟨b, i * 4 + 2, none⟩ = some (.int .u8 (f i).b) ∧ w.cell? ⟨b, i * 4 + 3, none⟩ = some (.int .u8 (f i).a) := by
 obtain ⟨hc, _⟩ := qf h
 refine ⟨?_, ?_, ?_, ?_⟩
 ·have := (hc (i * 4 + 0)).trans (yB f i 0 hi (by omega)); exact this
 ·exact (hc _).trans (yB f i 1 hi (by omega))
 ·exact (hc _).trans (yB f i 2 hi (by omega))
 ·exact (hc _).trans (yB f i 3 hi (by omega))
theorem zV.frozen {w : World} {b : Nat} {f : Nat → Px} (h : zV w b f) (j : Nat) : w.frozen? ⟨b, j, none⟩ = false := (qf h).2 j
theorem zV.set {w : World} {b : Nat} {f : Nat → Px} (h : zV w b f) {i : Nat} (hi : i < 64) (p : Px) :
  zV ((((w.setCell ⟨b, i * 4, none⟩ (.int .u8 p.r)).setCell ⟨b, i * 4 + 1, none⟩ (.int .u8 p.g)).setCell ⟨b, i * 4 + 2, none⟩ (.int .u8 p.b)).setCell ⟨b, i * 4 + 3, none⟩ (.int .u8 p.a)) b (ZP f i p) := by
 unfold zV
 rw [← X9 f i p hi]
 exact heap_setCell_same _ _ _ _ _ _ (heap_setCell_same _ _ _ _ _ _ (heap_setCell_same _ _ _ _ _ _ (heap_setCell_same _ _ _ _ _ _ h)))
def Qq (f : Nat → Px) : Prop := ∀ i, i < 64 → (f i).ok
section
variable {H : Type} {enc : TypeId × Value → H} {w : World} {base : Nat} {spare : Nat → Bool} {held : Bool}
end
attribute [local go_sem] Oper.semAt_some
set_option linter.unusedVariables false
set_option linter.unusedSimpArgs false
set_option maxRecDepth 20000
abbrev zkx (i : Fin 64) : Array Value := #[.int .i64 ((i.val : Int) % 8), .int .i64 ((i.val : Int) / 8)]
def zkF (k : Nat) : List (Fin 64) := (List.finRange 64).take k
end Go.Proofs.YtepelndbbhdofaaGreatDoor
namespace Go.Proofs.YtepelndbbhdofaaGreatDoor.Pl
set_option linter.unusedVariables false
end Go.Proofs.YtepelndbbhdofaaGreatDoor.Pl
namespace Go.Proofs.YtepelndbbhdofaaGreatDoor
open Go.RowKit
set_option linter.unusedVariables false
set_option linter.unusedSimpArgs false
namespace Pl
structure Acc where
 a : Int
 r : Int
 g : Int
 b : Int
 n : Int
def Acc.zero : Acc := ⟨0, 0, 0, 0, 0⟩
def zjb (s : Acc) (p : Px) (n : Int) : Acc :=
 if n < 1 then s else ⟨s.a + min n 65536 * p.a, s.r + min n 65536 * p.a * p.r, s.g + min n 65536 * p.a * p.g, s.b + min n 65536 * p.a * p.b, s.n + min n 65536⟩
def Acc.ok (s : Acc) (M : Int) : Prop := (0 ≤ s.n ∧ s.n ≤ M) ∧ (0 ≤ s.a ∧ s.a ≤ 255 * s.n) ∧ (0 ≤ s.r ∧ s.r ≤ 255 * s.a) ∧ (0 ≤ s.g ∧ s.g ≤ 255 * s.a) ∧ (0 ≤ s.b ∧ s.b ≤ 255 * s.a)
theorem Acc.zero_ok : Acc.zero.ok 0 := by unfold Acc.ok Acc.zero; simp
def zjS (s : Acc) : Px :=
 if s.n = 0 then Px.zero else if zG s.a s.n = 0 then Px.zero else ⟨zG s.r s.a, zG s.g s.a, zG s.b s.a, zG s.a s.n⟩
end Pl
end Go.Proofs.YtepelndbbhdofaaGreatDoor
namespace Go.Proofs.YtepelndbbhdofaaGreatDoor
open Go.RowKit Go.Shelf Pl Sha Go.Proofs.Tryz
set_option linter.unusedVariables false
set_option linter.unusedSimpArgs false
set_option maxRecDepth 20000
set_option maxHeartbeats 8000000
theorem wL (f : Nat → Px) : (Tryz.prog.info? 123).map (·.size) = some (qU f).size := by
 rw [jN]; kernel_rfl
theorem Kk (f : Nat → Px) : (qU f).all (·.oneCell') = true := by
 rw [Array.all_eq_true]
 intro i hi
 have h : (qU f)[i]? = some (qU f)[i] := Array.getElem?_eq_getElem hi
 rw [jN] at hi
 rw [kC, if_pos hi] at h
 rw [← Option.some.inj h]
 unfold pxC
 repeat' split
 all_goals rfl
theorem Zt {w : World} {b : Nat} {f : Nat → Px} (h : zV w b f) : (Instr.loadAt 123 (.pointer (some ⟨b, 0, none⟩))).run Tryz.prog w = .ok (Tile.v f) w := by
 simp only [Instr.loadAt, Instr.sureAddr, Sem.run_bind, Sem.run_pure, Result.andThen_ok]
 exact run_loadVar_row w b _ 123 _ _ _ h underlying123 rfl (wL f)
theorem Xj {w : World} {b : Nat} {f g : Nat → Px} (h : zV w b f) : (Instr.storeAt 123 (.pointer (some ⟨b, 0, none⟩)) (Tile.v g)).run Tryz.prog w = .ok () (w.setRow b (qU g)) := by
 simp only [Instr.storeAt, Instr.sureAddr, Sem.run_bind, Sem.run_pure, Result.andThen_ok]
 exact run_storeVar_row w b _ 123 _ _ h (wL g) (by rw [jN, jN]) (Kk g)
theorem zV.setRow {w : World} {b : Nat} {f : Nat → Px} (h : zV w b f) (g : Nat → Px) : zV (w.setRow b (qU g)) b g := setRow_heap w b _ _ _ _ h
theorem zeR {w : World} {b i : Nat} (v0 v1 v2 v3 : Value) : qY b w ((((w.setCell ⟨b, i, none⟩ v0).setCell ⟨b, i + 1, none⟩ v1).setCell ⟨b, i + 2, none⟩ v2).setCell ⟨b, i + 3, none⟩ v3) :=
 ((((qY.refl b w).setCell v0).setCell v1).setCell v2).setCell v3
section
variable {ops : Array Oper} {rest : List Oper} {o : Oper} {a : Act} {w : World} {Q : Exit → Act → World → Prop}
theorem qS (hg : o.guard = none) (x : Operand) (ho : o.op = .load 123 x) (b : Nat) (hx : a.eval x = .pointer (some ⟨b, 0, none⟩)) {f : Nat → Px} (ht : zV w b f)
  (h : wpList Tryz.prog ops Q rest (a.put o.dst (Tile.v f)) w) : wpList Tryz.prog ops Q (o :: rest) a w :=
 wpList_plain hg fun K hK => by
  unfold Oper.wp execOp; simp only [ho, hx, Zt ht, Sem.run_bind, Sem.run_pure, Result.andThen_ok]; exact hK _ _ h
theorem qF (hg : o.guard = none) (x y : Operand) (ho : o.op = .store 123 x y) (b : Nat) (hx : a.eval x = .pointer (some ⟨b, 0, none⟩)) (g : Nat → Px) (hy : a.eval y = Tile.v g) {f : Nat → Px} (ht : zV w b f)
  (h : ∀ w', zV w' b g → qY b w w' → w'.heap.size = w.heap.size → wpList Tryz.prog ops Q rest (a.put o.dst undef) w') : wpList Tryz.prog ops Q (o :: rest) a w :=
 wpList_plain hg fun K hK => by
  unfold Oper.wp execOp; simp only [ho, hx, hy, Xj ht, Sem.run_bind, Sem.run_pure, Result.andThen_ok]; exact hK _ _ (h _ (ht.setRow g) ((qY.refl b w).setRow _) (size_setRow _ _ _))
theorem jt (hg : o.guard = none) (x : Operand) (ho : o.op = .box 123 x) (f : Nat → Px) (hx : a.eval x = Tile.v f)
  (h : ∀ w', zV w' w.heap.size f → Below w.heap.size w w' → w'.heap.size = w.heap.size + 1 → wpList Tryz.prog ops Q rest (a.put o.dst (.pointer (some ⟨w.heap.size, 0, none⟩))) w') : wpList Tryz.prog ops Q (o :: rest) a w :=
 Great.wpList_boxTo hg _ x ho _ rfl _ rfl (qU f) (by rw [hx]; exact ZA f) (h _ (by unfold zV; rw [zJ, if_pos rfl]) ((Below.refl _ _).alloc (Nat.le_refl _) _) (World.size_alloc _ _))
theorem vD (w : World) (o : Oper) (ho : o.op = .alloc 123) (ev : Operand → Value) : (execOp ev o).run Tryz.prog w = .ok (.value (.pointer (some ⟨w.heap.size, 0, none⟩))) (w.alloc (.cells (qU fun _ => Px.zero) 123)) := by
 obtain ⟨d, p, t, ps, af, gd⟩ := o
 simp only at ho
 subst ho
 kernel_rfl
theorem yC (hg : o.guard = none) (ho : o.op = .alloc 123)
  (h : ∀ w', zV w' w.heap.size (fun _ => Px.zero) → Below w.heap.size w w' → w'.heap.size = w.heap.size + 1 → wpList Tryz.prog ops Q rest (a.put o.dst (.pointer (some ⟨w.heap.size, 0, none⟩))) w') : wpList Tryz.prog ops Q (o :: rest) a w :=
 wpList_plain hg fun K hK => by
  unfold Oper.wp; rw [vD w o ho]; exact hK _ _ (h _ (by unfold zV; rw [zJ, if_pos rfl]) ((Below.refl _ _).alloc (Nat.le_refl _) _) (World.size_alloc _ _))
variable {F : Fence} {n : Nat}
end
theorem xm {fn : Func} {p : Tmp} (h : fn.results = #[.cell p 123]) (tmps : Array Value) (w : World) (b : Nat) (hp : tmps.getD p undef = .pointer (some ⟨b, 0, none⟩)) {f : Nat → Px} (ht : zV w b f) :
  (results fn tmps).run Tryz.prog w = .ok (Tile.v f) w :=
 results_cell_row h tmps w b _ _ _ _ hp ht underlying123 rfl (wL f)
attribute [local go_sem] Oper.semAt_some
set_option linter.unusedVariables false
set_option linter.unusedSimpArgs false
set_option maxRecDepth 20000
def part (g : Fin 64 → Px) (pre : List (Fin 64)) : Nat → Px := pre.foldl (fun f i => ZP f i.val (g i)) (fun _ => Px.zero)
def zjL (t : Nat → Px) : Nat → Px := fun j => t (8 * (j / 8) + (7 - j % 8))
def zj1 (t : Nat → Px) : Nat → Px := fun j => t (8 * (7 - j % 8) + j / 8)
deriving instance DecidableEq for Px
def wV (f g : Nat → Px) : Bool := decide (∀ i ∈ List.range 64, f i = g i)
theorem zfX (f g : Nat → Px) : wV f g = true ↔ qU f = qU g := by
 unfold wV
 simp only [decide_eq_true_eq, List.mem_range]
 exact ⟨fun h => uR h, fun h => zcu h⟩
theorem zdT (f : Nat → Px) : wV f f = true := (zfX f f).2 rfl
theorem YJ (f : Nat → Px) (k : Nat) (hk : k < 64) : (qU f).extract (k * 4) (k * 4 + 4) = #[.int .u8 (f k).r, .int .u8 (f k).g, .int .u8 (f k).b, .int .u8 (f k).a] := by
 apply Array.ext_getElem?
 intro j
 rw [Array.getElem?_extract]
 simp only [jN]
 by_cases hj : j < 4
 ·rw [if_pos (by omega), yB f k j hk hj]
  have hc : j = 0 ∨ j = 1 ∨ j = 2 ∨ j = 3 := by omega
  rcases hc with rfl | rfl | rfl | rfl <;> rfl
 ·rw [if_neg (by omega)]
  exact (Array.getElem?_eq_none (by simp; omega)).symm
theorem Px.v_def (p : Px) : Px.v p = .agg #[.int .u8 p.r, .int .u8 p.g, .int .u8 p.b, .int .u8 p.a] := rfl
theorem zef (w : World) : (isAgg 28).run Tryz.prog w = .ok true w := by kernel_rfl
theorem Ya (w : World) : (sizeOf 28).run Tryz.prog w = .ok 4 w := by kernel_rfl
theorem JM : Tryz.prog.cellsOf 28 = 4 := by kernel_rfl
theorem wG (f : Nat → Px) (k : Nat) (hk : k < 64) (w : World) : (Go.part 28 (qU f) (k * 4)).run Tryz.prog w = .ok (Px.v (f k)) w := by
 unfold Go.part
 simp only [Sem.run_bind, zef, Result.andThen_ok, if_true, Ya, Sem.run_pure, YJ f k hk, Px.v_def]
theorem JU (f : Nat → Px) (k : Nat) (hk : k < 64) (w : World) : (Instr.index 123 (Tile.v f) (.int .i64 k)).run Tryz.prog w = .ok (Px.v (f k)) w := by
 unfold Instr.index Tile.v
 have e : (0 : Int) ≤ (k : Int) ∧ (k : Int) < 64 := by omega
 simp only [asIntOf, Sem.run_bind, Sem.run_pure, Result.andThen_ok, run_underlying underlying123]
 rw [if_pos (by simpa using e)]
 simp only [Sem.run_bind, Ya, Result.andThen_ok, Int.toNat_natCast]
 exact wG f k hk w
theorem ZD (d : Nat) (p q : Px) (w : World) : (Op.equalIn (d + 2) 28 (Px.v p) (Px.v q)).run Tryz.prog w = .ok (decide (p = q)) w := by
 have h : (Op.equalIn (d + 2) 28 (Px.v p) (Px.v q)).run Tryz.prog w = .ok (p.r == q.r && (p.g == q.g && (p.b == q.b && p.a == q.a))) w := by
  obtain ⟨r, g, b, a⟩ := p; obtain ⟨r', g', b', a'⟩ := q; simp only [Px.v]; by_cases h1 : r = r' <;> by_cases h2 : g = g' <;> by_cases h3 : b = b' <;> by_cases h4 : a = a' <;> simp [go_sem, h1, h2, h3, h4]
 rw [h]
 congr 1
 obtain ⟨a, b, c, d⟩ := p
 obtain ⟨a', b', c', d'⟩ := q
 rw [Bool.eq_iff_iff]
 simp
theorem ZZ (f g : Nat → Px) (w : World) : ∀ is : List Nat, (∀ i ∈ is, i < 64) → (Op.eqItems 9999 28 4 (qU f) (qU g) is).run Tryz.prog w = .ok (decide (∀ i ∈ is, f i = g i)) w
 | [], _ => by simp [Op.eqItems]
 | i :: is, h => by
  have hi : i < 64 := h i (by simp); simp only [Op.eqItems, Sem.run_bind, wG f i hi, wG g i hi, Result.andThen_ok, ZD 9997]; by_cases e : f i = g i
  ·simp [e, ZZ f g w is (fun j hj => h j (by simp [hj]))]
  ·simp [e]
theorem Z0 (f g : Nat → Px) (w : World) : (Op.equalIn 10000 123 (Tile.v f) (Tile.v g)).run Tryz.prog w = .ok (wV f g) w := by
 obtain ⟨i, hi⟩ : ∃ i, Tryz.prog.info? 28 = some i := by
  cases h : Tryz.prog.info? 28 with
  | some i => exact ⟨i, rfl⟩
  | none =>
   have e : (Tryz.prog.info? 28).isSome = true := by kernel_rfl
   rw [h] at e; cases e
 unfold Tile.v
 refine (run_equalIn_array w 9999 (qU f) (qU g) underlying123 hi).trans ?_
 rw [JM, ZZ f g w _ (fun i hi => List.mem_range.1 hi)]
 rfl
theorem zdU (f g : Nat → Px) (w : World) : (binOp .eql 123 (Tile.v f) (Tile.v g)).run Tryz.prog w = .ok (.bool (wV f g)) w := by
 have h := run_eql_struct (P := Tryz.prog) w 123 (qU f) (qU g)
 have e := Z0 f g w
 unfold Tile.v at e ⊢
 rw [h, e]; rfl
theorem Vq (f g : Nat → Px) (w : World) : (binOp .neq 123 (Tile.v f) (Tile.v g)).run Tryz.prog w = .ok (.bool (!wV f g)) w := by
 have h := run_neq_struct (P := Tryz.prog) w 123 (qU f) (qU g)
 have e := Z0 f g w
 unfold Tile.v at e ⊢
 rw [h, e]; rfl
theorem zcz : Tile.v (fun _ => Px.zero) = .agg (Array.replicate 256 (.int .u8 0)) := by
 unfold Tile.v
 congr 1
 apply Array.ext_getElem?
 intro k
 rw [kC, Array.getElem?_replicate]
 have hc : k % 4 = 0 ∨ k % 4 = 1 ∨ k % 4 = 2 ∨ k % 4 = 3 := by omega
 rcases hc with h | h | h | h <;> simp [h, pxC, Px.zero]
theorem Xi (w : World) (o : Oper) (ho : o.op = .build 123 #[]) (ev : Operand → Value) : (execOp ev o).run Tryz.prog w = .ok (.value (Tile.v fun _ => Px.zero)) w := by
 rw [zcz]
 obtain ⟨d, p, t, ps, af, gd⟩ := o
 simp only at ho
 subst ho
 kernel_rfl
theorem v7 {ops : Array Oper} {rest : List Oper} {o : Oper} {a : Act} {w : World} {Q : Exit → Act → World → Prop} (hg : o.guard = none) (ho : o.op = .build 123 #[])
  (h : wpList Tryz.prog ops Q rest (a.put o.dst (Tile.v fun _ => Px.zero)) w) : wpList Tryz.prog ops Q (o :: rest) a w :=
 wpList_plain hg fun K hK => by
  unfold Oper.wp; rw [Xi w o ho]; exact hK _ _ h
theorem WJ (p q : Px) (w : World) : (binOp .neq 28 (Px.v p) (Px.v q)).run Tryz.prog w = .ok (.bool (!decide (p = q))) w := by
 have h := run_neq_struct (P := Tryz.prog) w 28 #[.int .u8 p.r, .int .u8 p.g, .int .u8 p.b, .int .u8 p.a] #[.int .u8 q.r, .int .u8 q.g, .int .u8 q.b, .int .u8 q.a]
 have e := ZD 9998 p q w
 rw [Px.v_def, Px.v_def] at e ⊢
 rw [h, e]; rfl
def uo (f g : Nat → Px) (k : Nat) : Nat → Px := fun j => if j < k then g j else f j
theorem Xn (f g : Nat → Px) : uo f g 0 = f := by funext j; simp [uo]
theorem Xm (f g : Nat → Px) (k : Nat) : ZP (uo f g k) k (g k) = uo f g (k + 1) := by
 funext j
 unfold ZP uo
 by_cases h : j = k
 ·subst h; simp
 ·rw [if_neg h]
  by_cases h2 : j < k
  ·rw [if_pos h2, if_pos (by omega)]
  ·rw [if_neg h2, if_neg (by omega)]
theorem VW (f g : Nat → Px) (k : Nat) : uo f g k k = f k := by simp [uo]
theorem Yd (f g : Nat → Px) : qU (uo f g 64) = qU g := uR fun i hi => by simp [uo, hi]
theorem zV.congr {w : World} {b : Nat} {f g : Nat → Px} (h : zV w b f) (e : qU f = qU g) : zV w b g := by unfold zV at h ⊢; rw [← e]; exact h
def WY (p : Px) : Array Value := #[.int .u8 p.r, .int .u8 p.g, .int .u8 p.b, .int .u8 p.a]
def j3 (w : World) (b : Nat) (p : Px) : Prop := w.heap[b]? = some (.cells (WY p) 28 (0, 0))
theorem j3.of_eq {w w' : World} {b : Nat} {p : Px} (h : j3 w b p) (e : w'.heap[b]? = w.heap[b]?) : j3 w' b p := e.trans h
theorem j3.lt {w : World} {b : Nat} {p : Px} (h : j3 w b p) : b < w.heap.size := (Array.getElem?_eq_some_iff.1 h).1
theorem j3.be {w w' : World} {b : Nat} {p : Px} (h : j3 w b p) (e : Below w.heap.size w w') : j3 w' b p := h.of_eq (e.block _ h.lt)
theorem j3.cg {w w' : World} {b : Nat} {p : Px} (h : j3 w b p) {zc : Nat} (e : qY zc w w') (hn : b ≠ zc := by omega) : j3 w' b p := h.of_eq (e.block _ h.lt hn)
theorem Xa (p : Px) : (Tryz.prog.info? 28).map (·.size) = some (WY p).size := by
 show _ = some 4
 kernel_rfl
theorem VD (p : Px) : (WY p).all (·.oneCell') = true := by simp [WY, Value.oneCell']
theorem QU {w : World} {b : Nat} {p : Px} (h : j3 w b p) : (Instr.loadAt 28 (.pointer (some ⟨b, 0, none⟩))).run Tryz.prog w = .ok (Px.v p) w := by
 simp only [Instr.loadAt, Instr.sureAddr, Sem.run_bind, Sem.run_pure, Result.andThen_ok]
 exact run_loadVar_row w b _ 28 _ _ _ h underlying28 rfl (Xa p)
theorem Kf {w : World} {b : Nat} {p : Px} (h : j3 w b p) (q : Px) : (Instr.storeAt 28 (.pointer (some ⟨b, 0, none⟩)) (Px.v q)).run Tryz.prog w = .ok () (w.setRow b (WY q)) := by
 simp only [Instr.storeAt, Instr.sureAddr, Sem.run_bind, Sem.run_pure, Result.andThen_ok]
 exact run_storeVar_row w b _ 28 _ _ h (Xa q) rfl (VD q)
theorem QV {w : World} {b i : Nat} {f : Nat → Px} (h : zV w b f) (hi : i < 64) : (Instr.loadAt 28 (.pointer (some ⟨b, i * 4, none⟩))).run Tryz.prog w = .ok (Px.v (f i)) w := by
 obtain ⟨c0, c1, c2, c3⟩ := h.cells hi
 simp [go_sem, c0, c1, c2, c3, Px.v]
theorem Kg {w : World} {b i : Nat} {f : Nat → Px} (h : zV w b f) (hi : i < 64) (p : Px) : (Instr.storeAt 28 (.pointer (some ⟨b, i * 4, none⟩)) (Px.v p)).run Tryz.prog w =
  .ok () ((((w.setCell ⟨b, i * 4, none⟩ (.int .u8 p.r)).setCell ⟨b, i * 4 + 1, none⟩ (.int .u8 p.g)).setCell ⟨b, i * 4 + 2, none⟩ (.int .u8 p.b)).setCell ⟨b, i * 4 + 3, none⟩ (.int .u8 p.a)) := by
 obtain ⟨c0, c1, c2, c3⟩ := h.cells hi
 have hf := h.frozen
 simp [go_sem, c0, c1, c2, c3, hf, Px.v]
theorem Kc (w : World) (o : Oper) (ho : o.op = .alloc 28) (ev : Operand → Value) : (execOp ev o).run Tryz.prog w = .ok (.value (.pointer (some ⟨w.heap.size, 0, none⟩))) (w.alloc (.cells (WY Px.zero) 28)) := by
 obtain ⟨d, p, t, ps, af, gd⟩ := o
 simp only at ho
 subst ho
 kernel_rfl
theorem zcp {w : World} {b i : Nat} (v0 v1 v2 v3 : Value) : ((((w.setCell ⟨b, i, none⟩ v0).setCell ⟨b, i + 1, none⟩ v1).setCell ⟨b, i + 2, none⟩ v2).setCell ⟨b, i + 3, none⟩ v3).heap.size = w.heap.size := by
 simp only [World.size_setCell]
section
variable {ops : Array Oper} {rest : List Oper} {o : Oper} {a : Act} {w : World} {Q : Exit → Act → World → Prop}
theorem j5 (hg : o.guard = none) (x : Operand) (ho : o.op = .load 28 x) (b : Nat) (hx : a.eval x = .pointer (some ⟨b, 0, none⟩)) {p : Px} (ht : j3 w b p)
  (h : wpList Tryz.prog ops Q rest (a.put o.dst (Px.v p)) w) : wpList Tryz.prog ops Q (o :: rest) a w :=
 wpList_plain hg fun K hK => by
  unfold Oper.wp execOp; simp only [ho, hx, QU ht, Sem.run_bind, Sem.run_pure, Result.andThen_ok]; exact hK _ _ h
theorem z2 (hg : o.guard = none) (x y : Operand) (ho : o.op = .store 28 x y) (b : Nat) (hx : a.eval x = .pointer (some ⟨b, 0, none⟩)) (q : Px) (hy : a.eval y = Px.v q) {p : Px} (ht : j3 w b p)
  (h : ∀ w', j3 w' b q → qY b w w' → w'.heap.size = w.heap.size → wpList Tryz.prog ops Q rest (a.put o.dst undef) w') : wpList Tryz.prog ops Q (o :: rest) a w :=
 wpList_plain hg fun K hK => by
  unfold Oper.wp execOp; simp only [ho, hx, hy, Kf ht q, Sem.run_bind, Sem.run_pure, Result.andThen_ok]; exact hK _ _ (h _ (setRow_heap w b _ _ _ _ ht) ((qY.refl b w).setRow _) (size_setRow _ _ _))
theorem wd (hg : o.guard = none) (x : Operand) (ho : o.op = .load 28 x) (b j : Nat) (hx : a.eval x = .pointer (some ⟨b, j, none⟩)) {f : Nat → Px} (ht : zV w b f) (i : Nat) (hi : i < 64) (hj : j = i * 4)
  (h : wpList Tryz.prog ops Q rest (a.put o.dst (Px.v (f i))) w) : wpList Tryz.prog ops Q (o :: rest) a w :=
 wpList_plain hg fun K hK => by
  subst hj; unfold Oper.wp execOp; simp only [ho, hx, QV ht hi, Sem.run_bind, Sem.run_pure, Result.andThen_ok]; exact hK _ _ h
theorem kj (hg : o.guard = none) (x y : Operand) (ho : o.op = .store 28 x y) (b j : Nat) (hx : a.eval x = .pointer (some ⟨b, j, none⟩)) (q : Px) (hy : a.eval y = Px.v q) {f : Nat → Px} (ht : zV w b f) (i : Nat) (hi : i < 64) (hj : j = i * 4)
  (h : ∀ w', zV w' b (ZP f i q) → qY b w w' → w'.heap.size = w.heap.size → wpList Tryz.prog ops Q rest (a.put o.dst undef) w') : wpList Tryz.prog ops Q (o :: rest) a w :=
 wpList_plain hg fun K hK => by
  subst hj; unfold Oper.wp execOp; simp only [ho, hx, hy, Kg ht hi q, Sem.run_bind, Sem.run_pure, Result.andThen_ok]; exact hK _ _ (h _ (ht.set hi q) (zeR _ _ _ _) (zcp _ _ _ _))
theorem uf (hg : o.guard = none) (x : Operand) (ho : o.op = .box 28 x) (p : Px) (hx : a.eval x = Px.v p)
  (h : ∀ w', j3 w' w.heap.size p → Below w.heap.size w w' → w'.heap.size = w.heap.size + 1 → wpList Tryz.prog ops Q rest (a.put o.dst (.pointer (some ⟨w.heap.size, 0, none⟩))) w') : wpList Tryz.prog ops Q (o :: rest) a w :=
 Great.wpList_boxTo hg _ x ho _ rfl _ rfl (WY p) (by rw [hx]; rfl) (h _ (by unfold j3; rw [zJ, if_pos rfl]) ((Below.refl _ _).alloc (Nat.le_refl _) _) (World.size_alloc _ _))
theorem uU (hg : o.guard = none) (ho : o.op = .build 28 #[])
  (h : wpList Tryz.prog ops Q rest (a.put o.dst (Px.v Px.zero)) w) : wpList Tryz.prog ops Q (o :: rest) a w :=
 wpList_plain hg fun K hK => by
  have e : (execOp a.eval o).run Tryz.prog w = .ok (.value (Px.v Px.zero)) w := by
   obtain ⟨d, p, t, ps, af, gd⟩ := o; simp only at ho; subst ho
   kernel_rfl
  unfold Oper.wp; rw [e]; exact hK _ _ h
theorem xC (hg : o.guard = none) (ho : o.op = .alloc 28)
  (h : ∀ w', j3 w' w.heap.size Px.zero → Below w.heap.size w w' → w'.heap.size = w.heap.size + 1 → wpList Tryz.prog ops Q rest (a.put o.dst (.pointer (some ⟨w.heap.size, 0, none⟩))) w') : wpList Tryz.prog ops Q (o :: rest) a w :=
 wpList_plain hg fun K hK => by
  unfold Oper.wp; rw [Kc w o ho]; exact hK _ _ (h _ (by unfold j3; rw [zJ, if_pos rfl]) ((Below.refl _ _).alloc (Nat.le_refl _) _) (World.size_alloc _ _))
end
theorem jM {fn : Func} {p : Tmp} (h : fn.results = #[.cell p 28]) (tmps : Array Value) (w : World) (b : Nat) (hp : tmps.getD p undef = .pointer (some ⟨b, 0, none⟩)) {q : Px} (ht : j3 w b q) :
  (results fn tmps).run Tryz.prog w = .ok (Px.v q) w :=
 results_cell_row h tmps w b _ _ _ _ hp ht underlying28 rfl (Xa q)
def yL (x y : Int) : Bool := decide (0 ≤ x ∧ x < 8 ∧ 0 ≤ y ∧ y < 8)
def posI (x y : Int) : Nat := (8 * y + x).toNat
def Q4 (t : Nat → Px) (x y : Int) : Px := if yL x y = true then t (posI x y) else Px.zero
def QF (t : Nat → Px) (x y : Int) (p : Px) : Nat → Px := if yL x y = true then ZP t (posI x y) p else t
theorem Qz {x y : Int} (h : yL x y = true) : 0 ≤ x ∧ x < 8 ∧ 0 ≤ y ∧ y < 8 ∧ posI x y < 64 ∧ ((posI x y : Nat) : Int) = 8 * y + x := by
 unfold yL at h
 have h := of_decide_eq_true h
 unfold posI
 omega
theorem KI (x y : Int) (w : World) : Calls Tryz.prog 134 #[.int .i64 x, .int .i64 y] w fun e w' => e = .returned (.bool (yL x y)) ∧ w = w' := by
 by_cases h0 : 0 ≤ x
 rotate_left
 ·have e1 : yL x y = false := by unfold yL; exact zB (by omega)
  have d1 : decide (0 ≤ x) = false := zB (by omega); rw [e1]; clear e1; go_enter func134, ntmps134
  go_wp2; go_ret; exact ⟨rfl, rfl⟩
 by_cases h1 : x < 8
 rotate_left
 ·have e1 : yL x y = false := by unfold yL; exact zB (by omega)
  have d1 : decide (x < 8) = false := zB (by omega); rw [e1]; clear e1; go_enter func134, ntmps134
  go_wp2; go_ret; exact ⟨rfl, rfl⟩
 by_cases h2 : 0 ≤ y
 rotate_left
 ·have e1 : yL x y = false := by unfold yL; exact zB (by omega)
  have d1 : decide (0 ≤ y) = false := zB (by omega); rw [e1]; clear e1; go_enter func134, ntmps134
  go_wp2; go_ret; exact ⟨rfl, rfl⟩
 by_cases h3 : y < 8
 rotate_left
 ·have e1 : yL x y = false := by unfold yL; exact zB (by omega)
  have d1 : decide (y < 8) = false := zB (by omega); rw [e1]; clear e1; go_enter func134, ntmps134
  go_wp2; go_ret; exact ⟨rfl, rfl⟩
 have e1 : yL x y = true := by unfold yL; exact zQ (by omega)
 rw [e1]; clear e1
 go_enter func134, ntmps134
 go_wp2
 go_ret
 exact ⟨rfl, rfl⟩
theorem ZT (x y : Int) (w : World) : Calls Tryz.prog 158 #[.int .i64 x, .int .i64 y] w fun e w' => e = .returned (.bool (yL x y)) ∧ w = w' := by
 by_cases h0 : 0 ≤ x
 rotate_left
 ·have e1 : yL x y = false := by unfold yL; exact zB (by omega)
  have d1 : decide (0 ≤ x) = false := zB (by omega); rw [e1]; clear e1; go_enter func158, ntmps158
  go_wp2; go_ret; exact ⟨rfl, rfl⟩
 by_cases h1 : x < 8
 rotate_left
 ·have e1 : yL x y = false := by unfold yL; exact zB (by omega)
  have d1 : decide (x < 8) = false := zB (by omega); rw [e1]; clear e1; go_enter func158, ntmps158
  go_wp2; go_ret; exact ⟨rfl, rfl⟩
 by_cases h2 : 0 ≤ y
 rotate_left
 ·have e1 : yL x y = false := by unfold yL; exact zB (by omega)
  have d1 : decide (0 ≤ y) = false := zB (by omega); rw [e1]; clear e1; go_enter func158, ntmps158
  go_wp2; go_ret; exact ⟨rfl, rfl⟩
 by_cases h3 : y < 8
 rotate_left
 ·have e1 : yL x y = false := by unfold yL; exact zB (by omega)
  have d1 : decide (y < 8) = false := zB (by omega); rw [e1]; clear e1; go_enter func158, ntmps158
  go_wp2; go_ret; exact ⟨rfl, rfl⟩
 have e1 : yL x y = true := by unfold yL; exact zQ (by omega)
 rw [e1]; clear e1
 go_enter func158, ntmps158
 go_wp2
 go_ret
 exact ⟨rfl, rfl⟩
set_option maxRecDepth 20000 in
theorem zig (t : Nat → Px) (x y : Int) (w : World) : Calls Tryz.prog 79 #[Tile.v t, .int .i64 x, .int .i64 y] w fun e w' => e = .returned (Px.v (Q4 t x y)) ∧ Below w.heap.size w w' := by
 cases hi : yL x y with
 | false =>
  have e1 : Q4 t x y = Px.zero := by unfold Q4; rw [hi]; rfl
  rw [e1]; clear e1; go_enter func79, ntmps79
  go_wp2_with (first | (refine z2 rfl _ _ rfl _ rfl _ rfl h2 ?_; clear h2; intro w3 h2 hc3 hz3; replace hz3 := Nat.le_of_eq hz3.symm; replace h1 := h1.of_eq (hc3.block _ h1.lt (by omega)); simp only [zn]) | (refine uU rfl rfl ?_; simp only [zn]) | (refine xC rfl rfl ?_; intro w2 h2 hb2 hz2; have l2 := Nat.lt_of_lt_of_eq (Nat.lt_succ_self _) hz2.symm; clear hz2; replace h1 := h1.of_eq (hb2.block _ h1.lt); simp only [zn]) | (refine jt rfl _ rfl _ rfl ?_; intro w1 h1 hb1 hz1; have l1 := Nat.lt_of_lt_of_eq (Nat.lt_succ_self _) hz1.symm; clear hz1; simp only [zn]) | (go_at_call 134; refine (KI _ _ _).mono ?_; rintro e w' ⟨rfl, rfl⟩))
  refine bodyPost_ret (jM rfl _ _ (w1.heap.size) rfl h2) rfl ?_; refine ⟨rfl, ?_⟩; repeat' (first | (with_reducible exact Below.refl _ _) | (with_reducible assumption) | (with_reducible refine Below.trans ?_ (hb1.mono (by omega))) | (with_reducible refine Below.trans ?_ (hb2.mono (by omega))) | (with_reducible refine qY.be ?_ hc3 (by omega) (by omega)))
 | true =>
  have e1 : Q4 t x y = t (posI x y) := by unfold Q4; rw [hi]; rfl
  rw [e1]; clear e1; obtain ⟨h1, h2, h3, h4, h5, h6⟩ := Qz hi; have n1 : 0 ≤ 8 * y + x := by omega
  have n2 : 8 * y + x < 64 := by omega
  have e7 : (8 * y + x).toNat = posI x y := rfl; go_enter func79, ntmps79
  go_wp2_with (first | (refine z2 rfl _ _ rfl _ rfl _ rfl t2 ?_; clear t2; intro w3 t2 hc3 hz3; replace hz3 := Nat.le_of_eq hz3.symm; replace t1 := t1.of_eq (hc3.block _ t1.lt (by omega)); simp only [zn]) | (refine wd rfl _ rfl _ _ rfl t1 (posI x y) (by assumption) (by first | rfl | omega) ?_; simp only [zn]) | (refine xC rfl rfl ?_; intro w2 t2 hb2 hz2; have l2 := Nat.lt_of_lt_of_eq (Nat.lt_succ_self _) hz2.symm; clear hz2; replace t1 := t1.of_eq (hb2.block _ t1.lt); simp only [zn]) | (refine jt rfl _ rfl _ rfl ?_; intro w1 t1 hb1 hz1; have l1 := Nat.lt_of_lt_of_eq (Nat.lt_succ_self _) hz1.symm; clear hz1; simp only [zn]) | (go_at_call 134; refine (KI _ _ _).mono ?_; rintro e w' ⟨rfl, rfl⟩))
  refine bodyPost_ret (jM rfl _ _ (w1.heap.size) rfl t2) rfl ?_; refine ⟨rfl, ?_⟩; repeat' (first | (with_reducible exact Below.refl _ _) | (with_reducible assumption) | (with_reducible refine Below.trans ?_ (hb1.mono (by omega))) | (with_reducible refine Below.trans ?_ (hb2.mono (by omega))) | (with_reducible refine qY.be ?_ hc3 (by omega) (by omega)))
set_option maxRecDepth 20000 in
theorem zii (t : Nat → Px) (x y : Int) (w : World) : Calls Tryz.prog 142 #[Tile.v t, .int .i64 x, .int .i64 y] w fun e w' => e = .returned (Px.v (Q4 t x y)) ∧ Below w.heap.size w w' := by
 cases hi : yL x y with
 | false =>
  have e1 : Q4 t x y = Px.zero := by unfold Q4; rw [hi]; rfl
  rw [e1]; clear e1; go_enter func142, ntmps142
  go_wp2_with (first | (refine z2 rfl _ _ rfl _ rfl _ rfl h2 ?_; clear h2; intro w3 h2 hc3 hz3; replace hz3 := Nat.le_of_eq hz3.symm; replace h1 := h1.of_eq (hc3.block _ h1.lt (by omega)); simp only [zn]) | (refine uU rfl rfl ?_; simp only [zn]) | (refine xC rfl rfl ?_; intro w2 h2 hb2 hz2; have l2 := Nat.lt_of_lt_of_eq (Nat.lt_succ_self _) hz2.symm; clear hz2; replace h1 := h1.of_eq (hb2.block _ h1.lt); simp only [zn]) | (refine jt rfl _ rfl _ rfl ?_; intro w1 h1 hb1 hz1; have l1 := Nat.lt_of_lt_of_eq (Nat.lt_succ_self _) hz1.symm; clear hz1; simp only [zn]) | (go_at_call 158; refine (ZT _ _ _).mono ?_; rintro e w' ⟨rfl, rfl⟩))
  refine bodyPost_ret (jM rfl _ _ (w1.heap.size) rfl h2) rfl ?_; refine ⟨rfl, ?_⟩; repeat' (first | (with_reducible exact Below.refl _ _) | (with_reducible assumption) | (with_reducible refine Below.trans ?_ (hb1.mono (by omega))) | (with_reducible refine Below.trans ?_ (hb2.mono (by omega))) | (with_reducible refine qY.be ?_ hc3 (by omega) (by omega)))
 | true =>
  have e1 : Q4 t x y = t (posI x y) := by unfold Q4; rw [hi]; rfl
  rw [e1]; clear e1; obtain ⟨h1, h2, h3, h4, h5, h6⟩ := Qz hi; have n1 : 0 ≤ 8 * y + x := by omega
  have n2 : 8 * y + x < 64 := by omega
  have e7 : (8 * y + x).toNat = posI x y := rfl; go_enter func142, ntmps142
  go_wp2_with (first | (refine z2 rfl _ _ rfl _ rfl _ rfl t2 ?_; clear t2; intro w3 t2 hc3 hz3; replace hz3 := Nat.le_of_eq hz3.symm; replace t1 := t1.of_eq (hc3.block _ t1.lt (by omega)); simp only [zn]) | (refine wd rfl _ rfl _ _ rfl t1 (posI x y) (by assumption) (by first | rfl | omega) ?_; simp only [zn]) | (refine xC rfl rfl ?_; intro w2 t2 hb2 hz2; have l2 := Nat.lt_of_lt_of_eq (Nat.lt_succ_self _) hz2.symm; clear hz2; replace t1 := t1.of_eq (hb2.block _ t1.lt); simp only [zn]) | (refine jt rfl _ rfl _ rfl ?_; intro w1 t1 hb1 hz1; have l1 := Nat.lt_of_lt_of_eq (Nat.lt_succ_self _) hz1.symm; clear hz1; simp only [zn]) | (go_at_call 158; refine (ZT _ _ _).mono ?_; rintro e w' ⟨rfl, rfl⟩))
  refine bodyPost_ret (jM rfl _ _ (w1.heap.size) rfl t2) rfl ?_; refine ⟨rfl, ?_⟩; repeat' (first | (with_reducible exact Below.refl _ _) | (with_reducible assumption) | (with_reducible refine Below.trans ?_ (hb1.mono (by omega))) | (with_reducible refine Below.trans ?_ (hb2.mono (by omega))) | (with_reducible refine qY.be ?_ hc3 (by omega) (by omega)))
set_option maxRecDepth 20000 in
theorem zil (t : Nat → Px) (x y : Int) (p : Px) (w : World) : Calls Tryz.prog 117 #[Tile.v t, .int .i64 x, .int .i64 y, Px.v p] w fun e w' => e = .returned (Tile.v (QF t x y p)) ∧ Below w.heap.size w w' := by
 cases hi : yL x y with
 | false =>
  have e1 : QF t x y p = t := by unfold QF; rw [hi]; rfl
  rw [e1]; clear e1; go_enter func117, ntmps117
  go_wp2_with (first | (refine qF rfl _ _ rfl _ rfl _ rfl t3 ?_; clear t3; intro w4 t3 hc4 hz4; replace hz4 := Nat.le_of_eq hz4.symm; replace t1 := t1.of_eq (hc4.block _ t1.lt (by omega)); simp only [zn]) | (refine qS rfl _ rfl _ rfl t1 ?_; simp only [zn]) | (refine yC rfl rfl ?_; intro w3 t3 hb3 hz3; have l3 := Nat.lt_of_lt_of_eq (Nat.lt_succ_self _) hz3.symm; clear hz3; replace t1 := t1.of_eq (hb3.block _ t1.lt); replace t2 := t2.of_eq (hb3.block _ t2.lt); simp only [zn]) | (refine uf rfl _ rfl _ rfl ?_; intro w2 t2 hb2 hz2; have l2 := Nat.lt_of_lt_of_eq (Nat.lt_succ_self _) hz2.symm; clear hz2; replace t1 := t1.of_eq (hb2.block _ t1.lt); simp only [zn]) | (refine jt rfl _ rfl _ rfl ?_; intro w1 t1 hb1 hz1; have l1 := Nat.lt_of_lt_of_eq (Nat.lt_succ_self _) hz1.symm; clear hz1; simp only [zn]) | (go_at_call 158; refine (ZT _ _ _).mono ?_; rintro e w' ⟨rfl, rfl⟩))
  refine bodyPost_ret (xm rfl _ _ (w2.heap.size) rfl t3) rfl ?_; refine ⟨rfl, ?_⟩; repeat' (first | (with_reducible exact Below.refl _ _) | (with_reducible assumption) | (with_reducible refine Below.trans ?_ (hb1.mono (by omega))) | (with_reducible refine Below.trans ?_ (hb2.mono (by omega))) | (with_reducible refine Below.trans ?_ (hb3.mono (by omega))) | (with_reducible refine qY.be ?_ hc4 (by omega) (by omega)))
 | true =>
  have e1 : QF t x y p = ZP t (posI x y) p := by unfold QF; rw [hi]; rfl
  rw [e1]; clear e1; obtain ⟨h1, h2, h3, h4, h5, h6⟩ := Qz hi; have n1 : 0 ≤ 8 * y + x := by omega
  have n2 : 8 * y + x < 64 := by omega
  have e7 : (8 * y + x).toNat = posI x y := rfl; go_enter func117, ntmps117
  go_wp2_with (first | (refine qF rfl _ _ rfl _ rfl _ rfl t3 ?_; clear t3; intro w5 t3 hc5 hz5; replace hz5 := Nat.le_of_eq hz5.symm; replace t1 := t1.of_eq (hc5.block _ t1.lt (by omega)); simp only [zn]) | (refine qS rfl _ rfl _ rfl t1 ?_; simp only [zn]) | (refine kj rfl _ _ rfl _ _ rfl _ rfl t1 (posI x y) (by assumption) (by first | rfl | omega) ?_; clear t1; intro w4 t1 hc4 hz4; replace hz4 := Nat.le_of_eq hz4.symm; replace t2 := t2.of_eq (hc4.block _ t2.lt (by omega)); replace t3 := t3.of_eq (hc4.block _ t3.lt (by omega)); simp only [zn]) | (refine j5 rfl _ rfl _ rfl t2 ?_; simp only [zn]) | (refine yC rfl rfl ?_; intro w3 t3 hb3 hz3; have l3 := Nat.lt_of_lt_of_eq (Nat.lt_succ_self _) hz3.symm; clear hz3; replace t1 := t1.of_eq (hb3.block _ t1.lt); replace t2 := t2.of_eq (hb3.block _ t2.lt); simp only [zn]) | (refine uf rfl _ rfl _ rfl ?_; intro w2 t2 hb2 hz2; have l2 := Nat.lt_of_lt_of_eq (Nat.lt_succ_self _) hz2.symm; clear hz2; replace t1 := t1.of_eq (hb2.block _ t1.lt); simp only [zn]) | (refine jt rfl _ rfl _ rfl ?_; intro w1 t1 hb1 hz1; have l1 := Nat.lt_of_lt_of_eq (Nat.lt_succ_self _) hz1.symm; clear hz1; simp only [zn]) | (go_at_call 158; refine (ZT _ _ _).mono ?_; rintro e w' ⟨rfl, rfl⟩))
  refine bodyPost_ret (xm rfl _ _ (w2.heap.size) rfl t3) rfl ?_; refine ⟨rfl, ?_⟩; repeat' (first | (with_reducible exact Below.refl _ _) | (with_reducible assumption) | (with_reducible refine Below.trans ?_ (hb1.mono (by omega))) | (with_reducible refine Below.trans ?_ (hb2.mono (by omega))) | (with_reducible refine Below.trans ?_ (hb3.mono (by omega))) | (with_reducible refine qY.be ?_ hc4 (by omega) (by omega)) | (with_reducible refine qY.be ?_ hc5 (by omega) (by omega)))
def zgQ (p : Px) : Nat → Px := fun _ => p
def qI (t : Nat → Px) : Nat → Px := fun i => jo (t i)
def zg0 : Nat → Px := fun _ => Px.zero
theorem Wo (p q : Px) (al : Int) (F : Nat) (caps : Array Value) (φ : Int → Int → Int) (w : World) (hp : p.ok) (hq : q.ok) (ha0 : 0 ≤ al) (ha1 : al ≤ 255)
  (hφ : ∀ x y, 0 ≤ x → x ≤ 255 → 0 ≤ y → y ≤ 255 → 0 ≤ φ x y ∧ φ x y ≤ 255)
  (hcf : ∀ (args : Array Value) (wx : World), (callFunc F args).run Tryz.prog wx = .ok (.enter F args) wx)
  (hF : Clo F caps φ w) :
  Calls Tryz.prog 119 #[Px.v p, Px.v q, .int .i64 al, .func (.func F) #[] caps] w
   fun e w' => e = .returned (Px.v ⟨φ p.r q.r, φ p.g q.g, φ p.b q.b, al⟩) ∧ Below w.heap.size w w' := by
 obtain ⟨pr, pg, pb, pa⟩ := p
 obtain ⟨qr, qg, qb, qa⟩ := q
 obtain ⟨⟨p1, p2⟩, ⟨p3, p4⟩, ⟨p5, p6⟩, ⟨p7, p8⟩⟩ := hp
 obtain ⟨⟨q1, q2⟩, ⟨q3, q4⟩, ⟨q5, q6⟩, ⟨q7, q8⟩⟩ := hq
 simp only at p1 p2 p3 p4 p5 p6 p7 p8 q1 q2 q3 q4 q5 q6 q7 q8
 simp only [Px.v]
 have b1 := hφ pr qr p1 p2 q1 q2
 have b2 := hφ pg qg p3 p4 q3 q4
 have b3 := hφ pb qb p5 p6 q5 q6
 have HF := zo hF
 have Hφ := zo hφ
 have Hcf := zo hcf
 clear hF hφ hcf
 go_enter func119, ntmps119
 go_wp2
 refine jm 21 (by kernel_rfl) (by kernel_rfl) ?_
 simp only [List.take_succ_cons, List.take_zero, List.drop_succ_cons, List.drop_zero]
 repeat (go_big_quiet_step ((first | (go_at_call 160; exact zv (zfw _ _ (φ _ _) F _ caps _ (by omega) (by omega) (by omega) (by omega) (by omega) (by omega) Hcf.out (HF.out _ _ _ (vv (by go_grown) (by simp; omega) _) (by omega) (by omega) (by omega) (by omega)) (by simp [go_sem]))))))
 refine wpQuiet_nil ?_
 intro w1 hb1
 obtain ⟨hc1, hf1⟩ := KY hb1
 have hs1 := hb1.size
 try simp only [World.size_alloc, World.size_setCell, World.size_drew] at hs1
 have hbb1 := hb1.mono (B' := w.heap.size) (by first | omega | (simp only [World.size_alloc, World.size_setCell, World.size_drew]; omega))
 obtain ⟨hk1, hz1⟩ := qf (show w1.heap[w.heap.size + 1 + 1 + 1]? = some (.cells #[.int .u8 0, .int .u8 0, .int .u8 0, .int .u8 0] 28 (0, 0)) from by rw [hb1.block _ (by simp)]; simp only [zJ, World.size_alloc]; simp)
 go_wp2
 refine bodyPost_ret (by simp [results, Tryz.results119, go_sem, hk1]; try rfl) rfl ?_
 refine ⟨rfl, ?_⟩
 repeat' (first | (with_reducible exact Below.refl _ _) | (with_reducible assumption) | (with_reducible refine Below.setCell ?_ (by dsimp only; omega) _) | (with_reducible refine Below.alloc ?_ (by first | omega | (simp only [World.size_alloc, World.size_setCell, World.size_drew]; omega)) _) | (with_reducible refine Below.drew ?_) | (with_reducible refine Below.trans ?_ hbb1))
theorem Yr (q : Px) (w : World) (hq : q.ok) :
  Calls Tryz.prog 123 #[Px.v q] w fun e w' => e = .returned (Px.v (jo q)) ∧ Below w.heap.size w w' := by
 obtain ⟨r, g, b, a⟩ := q
 obtain ⟨⟨p1, p2⟩, ⟨p3, p4⟩, ⟨p5, p6⟩, ⟨p7, p8⟩⟩ := hq
 simp only at p1 p2 p3 p4 p5 p6 p7 p8
 by_cases h : a = 0
 ·subst h
  have e1 : jo ⟨r, g, b, 0⟩ = ⟨0, 0, 0, 0⟩ := rfl; rw [e1]; clear e1; simp only [Px.v]; go_enter func123, ntmps123
  go_wp2; go_returns
  refine ⟨rfl, ?_⟩; repeat' (first | (with_reducible exact Below.refl _ _) | (with_reducible assumption) | (with_reducible refine Below.setCell ?_ (by dsimp only; omega) _) | (with_reducible refine Below.alloc ?_ (by first | omega | (simp only [World.size_alloc, World.size_setCell, World.size_drew]; omega)) _) | (with_reducible refine Below.drew ?_))
 ·have e1 : jo ⟨r, g, b, a⟩ = ⟨r, g, b, a⟩ := if_neg h
  have h' : (a == 0) = false := by simpa using h
  rw [e1]; clear e1 h; simp only [Px.v]; go_enter func123, ntmps123
  go_wp2; go_returns
  refine ⟨rfl, ?_⟩; repeat' (first | (with_reducible exact Below.refl _ _) | (with_reducible assumption) | (with_reducible refine Below.setCell ?_ (by dsimp only; omega) _) | (with_reducible refine Below.alloc ?_ (by first | omega | (simp only [World.size_alloc, World.size_setCell, World.size_drew]; omega)) _) | (with_reducible refine Below.drew ?_))
theorem Yy (q : Px) (w : World) (hq : q.ok) :
  Calls Tryz.prog 32 #[Px.v q] w fun e w' => e = .returned (Px.v (jo q)) ∧ Below w.heap.size w w' := by
 obtain ⟨r, g, b, a⟩ := q
 obtain ⟨⟨p1, p2⟩, ⟨p3, p4⟩, ⟨p5, p6⟩, ⟨p7, p8⟩⟩ := hq
 simp only at p1 p2 p3 p4 p5 p6 p7 p8
 by_cases h : a = 0
 ·subst h
  have e1 : jo ⟨r, g, b, 0⟩ = ⟨0, 0, 0, 0⟩ := rfl; rw [e1]; clear e1; simp only [Px.v]; go_enter func32, ntmps32
  go_wp2; go_returns
  refine ⟨rfl, ?_⟩; repeat' (first | (with_reducible exact Below.refl _ _) | (with_reducible assumption) | (with_reducible refine Below.setCell ?_ (by dsimp only; omega) _) | (with_reducible refine Below.alloc ?_ (by first | omega | (simp only [World.size_alloc, World.size_setCell, World.size_drew]; omega)) _) | (with_reducible refine Below.drew ?_))
 ·have e1 : jo ⟨r, g, b, a⟩ = ⟨r, g, b, a⟩ := if_neg h
  have h' : (a == 0) = false := by simpa using h
  rw [e1]; clear e1 h; simp only [Px.v]; go_enter func32, ntmps32
  go_wp2; go_returns
  refine ⟨rfl, ?_⟩; repeat' (first | (with_reducible exact Below.refl _ _) | (with_reducible assumption) | (with_reducible refine Below.setCell ?_ (by dsimp only; omega) _) | (with_reducible refine Below.alloc ?_ (by first | omega | (simp only [World.size_alloc, World.size_setCell, World.size_drew]; omega)) _) | (with_reducible refine Below.drew ?_))
theorem zg3 (q : Px) (c : Int) (w : World) (hq : q.ok) :
  Calls Tryz.prog 75 #[Px.v q, .int .i64 c] w fun e w' => e = .returned (Px.v (uj q c)) ∧ Below w.heap.size w w' := by
 obtain ⟨r, g, b, a⟩ := q
 obtain ⟨⟨p1, p2⟩, ⟨p3, p4⟩, ⟨p5, p6⟩, ⟨p7, p8⟩⟩ := hq
 simp only at p1 p2 p3 p4 p5 p6 p7 p8
 have m1 := qV a c
 have hk : Px.ok ⟨r, g, b, qR a c⟩ := ⟨⟨p1, p2⟩, ⟨p3, p4⟩, ⟨p5, p6⟩, m1⟩
 simp only [uj, Px.v]
 go_enter func75, ntmps75
 go_wp2_with (first | (go_at_call 118; refine (vd _ _ _).mono ?_; rintro e w' ⟨rfl, rfl⟩))
 refine (Yr ⟨_, _, _, _⟩ _ hk).mono ?_
 rintro e w1 ⟨rfl, hb1⟩
 obtain ⟨hc1, hf1⟩ := KY hb1
 have hs1 := hb1.size
 try simp only [World.size_alloc, World.size_setCell, World.size_drew] at hs1
 have hbb1 := hb1.mono (B' := w.heap.size) (by first | omega | (simp only [World.size_alloc, World.size_setCell, World.size_drew]; omega))
 simp only [Px.v]
 obtain ⟨hk1, hz1⟩ := qf (show w1.heap[w.heap.size + 1]? = some (.cells #[.int .u8 0, .int .u8 0, .int .u8 0, .int .u8 0] 28 (0, 0)) from by rw [hb1.block _ (by simp)]; simp only [zJ, World.size_alloc]; simp)
 go_wp2
 refine bodyPost_ret (by simp [results, Tryz.results75, go_sem, hk1]; try rfl) rfl ?_
 refine ⟨rfl, ?_⟩
 repeat' (first | (with_reducible exact Below.refl _ _) | (with_reducible assumption) | (with_reducible refine Below.setCell ?_ (by dsimp only; omega) _) | (with_reducible refine Below.alloc ?_ (by first | omega | (simp only [World.size_alloc, World.size_setCell, World.size_drew]; omega)) _) | (with_reducible refine Below.drew ?_) | (with_reducible refine Below.trans ?_ hbb1))
theorem zhe (q : Px) (c : Int) (w : World) (hq : q.ok) :
  Calls Tryz.prog 95 #[Px.v q, .int .i64 c] w fun e w' => e = .returned (Px.v (uj q c)) ∧ Below w.heap.size w w' := by
 obtain ⟨r, g, b, a⟩ := q
 obtain ⟨⟨p1, p2⟩, ⟨p3, p4⟩, ⟨p5, p6⟩, ⟨p7, p8⟩⟩ := hq
 simp only at p1 p2 p3 p4 p5 p6 p7 p8
 have m1 := qV a c
 have hk : Px.ok ⟨r, g, b, qR a c⟩ := ⟨⟨p1, p2⟩, ⟨p3, p4⟩, ⟨p5, p6⟩, m1⟩
 simp only [uj, Px.v]
 go_enter func95, ntmps95
 go_wp2_with (first | (go_at_call 143; refine (yo _ _ _).mono ?_; rintro e w' ⟨rfl, rfl⟩))
 refine (Yy ⟨_, _, _, _⟩ _ hk).mono ?_
 rintro e w1 ⟨rfl, hb1⟩
 obtain ⟨hc1, hf1⟩ := KY hb1
 have hs1 := hb1.size
 try simp only [World.size_alloc, World.size_setCell, World.size_drew] at hs1
 have hbb1 := hb1.mono (B' := w.heap.size) (by first | omega | (simp only [World.size_alloc, World.size_setCell, World.size_drew]; omega))
 simp only [Px.v]
 obtain ⟨hk1, hz1⟩ := qf (show w1.heap[w.heap.size + 1]? = some (.cells #[.int .u8 0, .int .u8 0, .int .u8 0, .int .u8 0] 28 (0, 0)) from by rw [hb1.block _ (by simp)]; simp only [zJ, World.size_alloc]; simp)
 go_wp2
 refine bodyPost_ret (by simp [results, Tryz.results95, go_sem, hk1]; try rfl) rfl ?_
 refine ⟨rfl, ?_⟩
 repeat' (first | (with_reducible exact Below.refl _ _) | (with_reducible assumption) | (with_reducible refine Below.setCell ?_ (by dsimp only; omega) _) | (with_reducible refine Below.alloc ?_ (by first | omega | (simp only [World.size_alloc, World.size_setCell, World.size_drew]; omega)) _) | (with_reducible refine Below.drew ?_) | (with_reducible refine Below.trans ?_ hbb1))
theorem zdh (b s : Int) (w : World) :
  Calls Tryz.prog 172 #[.int .i64 1, .int .i64 b, .int .i64 s] w fun e w' => e = .returned (.int .i64 (zW 1 b s)) ∧ w = w' := by
 have h1 := zr b
 have h2 := zr s
 have e1 : zW 1 b s = jI 1 (zz b) (zz s) := rfl
 rw [e1]; clear e1
 obtain ⟨x, hx⟩ : ∃ x, x = zz b := ⟨_, rfl⟩
 obtain ⟨y, hy⟩ : ∃ y, y = zz s := ⟨_, rfl⟩
 have Hx := zo hx
 have Hy := zo hy
 have c1 : ∀ wx, Calls Tryz.prog 171 #[.int .i64 b] wx fun e w' => e = .returned (.int .i64 x) ∧ wx = w' := fun wx => hx ▸ z1 b wx
 have c2 : ∀ wx, Calls Tryz.prog 171 #[.int .i64 s] wx fun e w' => e = .returned (.int .i64 y) ∧ wx = w' := fun wx => hy ▸ z1 s wx
 rw [← hx, ← hy]
 rw [← hx] at h1
 rw [← hy] at h2
 have C1 := zo c1
 have C2 := zo c2
 have m1 := qV x y
 clear hx hy c1 c2
 go_enter func172, ntmps172
 go_wp2_with fail
 refine (C1.out _).mono ?_; rintro e w' ⟨rfl, rfl⟩
 go_wp2_with fail
 refine (C2.out _).mono ?_; rintro e w' ⟨rfl, rfl⟩
 go_wp2_with (first | (go_at_call 171; refine (z1 _ _).mono ?_; rintro e w' ⟨rfl, rfl⟩) | (go_at_call 143; refine (yo _ _ _).mono ?_; rintro e w' ⟨rfl, rfl⟩) | (go_at_call 189; refine (ku _ _ _ (by omega) (by omega) (by omega) (by omega)).mono ?_; rintro e w' ⟨rfl, rfl⟩) | (go_at_call 190; refine (ys _ _ _ (by omega) (by omega) (by omega) (by omega)).mono ?_; rintro e w' ⟨rfl, rfl⟩) | (go_at_call 191; refine (xx _ _ _ (by omega) (by omega) (by omega) (by omega)).mono ?_; rintro e w' ⟨rfl, rfl⟩) | (go_at_call 192; refine (yr _ _ _ (by omega) (by omega) (by omega) (by omega)).mono ?_; rintro e w' ⟨rfl, rfl⟩) | (go_at_call 193; refine (ve _ _ (by omega) (by omega)).mono ?_; rintro e w' ⟨rfl, rfl⟩) | (go_at_call 145; refine (jV _ _ _ (by omega) (by omega) (by omega) (by omega)).mono ?_; rintro e w' ⟨rfl, rfl⟩))
 all_goals (go_ret; exact ⟨qk (by simp only [jI, yA, wt, zG, reduceIte, Int.reduceEq]; try omega), rfl⟩)
theorem zdi (b s : Int) (w : World) :
  Calls Tryz.prog 172 #[.int .i64 2, .int .i64 b, .int .i64 s] w fun e w' => e = .returned (.int .i64 (zW 2 b s)) ∧ w = w' := by
 have h1 := zr b
 have h2 := zr s
 have e1 : zW 2 b s = jI 2 (zz b) (zz s) := rfl
 rw [e1]; clear e1
 obtain ⟨x, hx⟩ : ∃ x, x = zz b := ⟨_, rfl⟩
 obtain ⟨y, hy⟩ : ∃ y, y = zz s := ⟨_, rfl⟩
 have Hx := zo hx
 have Hy := zo hy
 have c1 : ∀ wx, Calls Tryz.prog 171 #[.int .i64 b] wx fun e w' => e = .returned (.int .i64 x) ∧ wx = w' := fun wx => hx ▸ z1 b wx
 have c2 : ∀ wx, Calls Tryz.prog 171 #[.int .i64 s] wx fun e w' => e = .returned (.int .i64 y) ∧ wx = w' := fun wx => hy ▸ z1 s wx
 rw [← hx, ← hy]
 rw [← hx] at h1
 rw [← hy] at h2
 have C1 := zo c1
 have C2 := zo c2
 have m1 := qV x y
 clear hx hy c1 c2
 go_enter func172, ntmps172
 go_wp2_with fail
 refine (C1.out _).mono ?_; rintro e w' ⟨rfl, rfl⟩
 go_wp2_with fail
 refine (C2.out _).mono ?_; rintro e w' ⟨rfl, rfl⟩
 go_wp2_with (first | (go_at_call 171; refine (z1 _ _).mono ?_; rintro e w' ⟨rfl, rfl⟩) | (go_at_call 143; refine (yo _ _ _).mono ?_; rintro e w' ⟨rfl, rfl⟩) | (go_at_call 189; refine (ku _ _ _ (by omega) (by omega) (by omega) (by omega)).mono ?_; rintro e w' ⟨rfl, rfl⟩) | (go_at_call 190; refine (ys _ _ _ (by omega) (by omega) (by omega) (by omega)).mono ?_; rintro e w' ⟨rfl, rfl⟩) | (go_at_call 191; refine (xx _ _ _ (by omega) (by omega) (by omega) (by omega)).mono ?_; rintro e w' ⟨rfl, rfl⟩) | (go_at_call 192; refine (yr _ _ _ (by omega) (by omega) (by omega) (by omega)).mono ?_; rintro e w' ⟨rfl, rfl⟩) | (go_at_call 193; refine (ve _ _ (by omega) (by omega)).mono ?_; rintro e w' ⟨rfl, rfl⟩) | (go_at_call 145; refine (jV _ _ _ (by omega) (by omega) (by omega) (by omega)).mono ?_; rintro e w' ⟨rfl, rfl⟩))
 all_goals (go_ret; exact ⟨qk (by simp only [jI, yA, wt, zG, reduceIte, Int.reduceEq]; try omega), rfl⟩)
theorem zdj (b s : Int) (w : World) :
  Calls Tryz.prog 172 #[.int .i64 3, .int .i64 b, .int .i64 s] w fun e w' => e = .returned (.int .i64 (zW 3 b s)) ∧ w = w' := by
 have h1 := zr b
 have h2 := zr s
 have e1 : zW 3 b s = jI 3 (zz b) (zz s) := rfl
 rw [e1]; clear e1
 obtain ⟨x, hx⟩ : ∃ x, x = zz b := ⟨_, rfl⟩
 obtain ⟨y, hy⟩ : ∃ y, y = zz s := ⟨_, rfl⟩
 have Hx := zo hx
 have Hy := zo hy
 have c1 : ∀ wx, Calls Tryz.prog 171 #[.int .i64 b] wx fun e w' => e = .returned (.int .i64 x) ∧ wx = w' := fun wx => hx ▸ z1 b wx
 have c2 : ∀ wx, Calls Tryz.prog 171 #[.int .i64 s] wx fun e w' => e = .returned (.int .i64 y) ∧ wx = w' := fun wx => hy ▸ z1 s wx
 rw [← hx, ← hy]
 rw [← hx] at h1
 rw [← hy] at h2
 have C1 := zo c1
 have C2 := zo c2
 have m1 := qV x y
 clear hx hy c1 c2
 go_enter func172, ntmps172
 go_wp2_with fail
 refine (C1.out _).mono ?_; rintro e w' ⟨rfl, rfl⟩
 go_wp2_with fail
 refine (C2.out _).mono ?_; rintro e w' ⟨rfl, rfl⟩
 go_wp2_with (first | (go_at_call 171; refine (z1 _ _).mono ?_; rintro e w' ⟨rfl, rfl⟩) | (go_at_call 143; refine (yo _ _ _).mono ?_; rintro e w' ⟨rfl, rfl⟩) | (go_at_call 189; refine (ku _ _ _ (by omega) (by omega) (by omega) (by omega)).mono ?_; rintro e w' ⟨rfl, rfl⟩) | (go_at_call 190; refine (ys _ _ _ (by omega) (by omega) (by omega) (by omega)).mono ?_; rintro e w' ⟨rfl, rfl⟩) | (go_at_call 191; refine (xx _ _ _ (by omega) (by omega) (by omega) (by omega)).mono ?_; rintro e w' ⟨rfl, rfl⟩) | (go_at_call 192; refine (yr _ _ _ (by omega) (by omega) (by omega) (by omega)).mono ?_; rintro e w' ⟨rfl, rfl⟩) | (go_at_call 193; refine (ve _ _ (by omega) (by omega)).mono ?_; rintro e w' ⟨rfl, rfl⟩) | (go_at_call 145; refine (jV _ _ _ (by omega) (by omega) (by omega) (by omega)).mono ?_; rintro e w' ⟨rfl, rfl⟩))
 all_goals (go_ret; exact ⟨qk (by simp only [jI, yA, wt, zG, reduceIte, Int.reduceEq]; try omega), rfl⟩)
theorem zdk (b s : Int) (w : World) :
  Calls Tryz.prog 172 #[.int .i64 4, .int .i64 b, .int .i64 s] w fun e w' => e = .returned (.int .i64 (zW 4 b s)) ∧ w = w' := by
 have h1 := zr b
 have h2 := zr s
 have e1 : zW 4 b s = jI 4 (zz b) (zz s) := rfl
 rw [e1]; clear e1
 obtain ⟨x, hx⟩ : ∃ x, x = zz b := ⟨_, rfl⟩
 obtain ⟨y, hy⟩ : ∃ y, y = zz s := ⟨_, rfl⟩
 have Hx := zo hx
 have Hy := zo hy
 have c1 : ∀ wx, Calls Tryz.prog 171 #[.int .i64 b] wx fun e w' => e = .returned (.int .i64 x) ∧ wx = w' := fun wx => hx ▸ z1 b wx
 have c2 : ∀ wx, Calls Tryz.prog 171 #[.int .i64 s] wx fun e w' => e = .returned (.int .i64 y) ∧ wx = w' := fun wx => hy ▸ z1 s wx
 rw [← hx, ← hy]
 rw [← hx] at h1
 rw [← hy] at h2
 have C1 := zo c1
 have C2 := zo c2
 have m1 := qV x y
 clear hx hy c1 c2
 go_enter func172, ntmps172
 go_wp2_with fail
 refine (C1.out _).mono ?_; rintro e w' ⟨rfl, rfl⟩
 go_wp2_with fail
 refine (C2.out _).mono ?_; rintro e w' ⟨rfl, rfl⟩
 go_wp2_with (first | (go_at_call 171; refine (z1 _ _).mono ?_; rintro e w' ⟨rfl, rfl⟩) | (go_at_call 143; refine (yo _ _ _).mono ?_; rintro e w' ⟨rfl, rfl⟩) | (go_at_call 189; refine (ku _ _ _ (by omega) (by omega) (by omega) (by omega)).mono ?_; rintro e w' ⟨rfl, rfl⟩) | (go_at_call 190; refine (ys _ _ _ (by omega) (by omega) (by omega) (by omega)).mono ?_; rintro e w' ⟨rfl, rfl⟩) | (go_at_call 191; refine (xx _ _ _ (by omega) (by omega) (by omega) (by omega)).mono ?_; rintro e w' ⟨rfl, rfl⟩) | (go_at_call 192; refine (yr _ _ _ (by omega) (by omega) (by omega) (by omega)).mono ?_; rintro e w' ⟨rfl, rfl⟩) | (go_at_call 193; refine (ve _ _ (by omega) (by omega)).mono ?_; rintro e w' ⟨rfl, rfl⟩) | (go_at_call 145; refine (jV _ _ _ (by omega) (by omega) (by omega) (by omega)).mono ?_; rintro e w' ⟨rfl, rfl⟩))
 all_goals (go_ret; exact ⟨qk (by simp only [jI, yA, wt, zG, reduceIte, Int.reduceEq]; try omega), rfl⟩)
theorem zdl (b s : Int) (w : World) :
  Calls Tryz.prog 172 #[.int .i64 5, .int .i64 b, .int .i64 s] w fun e w' => e = .returned (.int .i64 (zW 5 b s)) ∧ w = w' := by
 have h1 := zr b
 have h2 := zr s
 have e1 : zW 5 b s = jI 5 (zz b) (zz s) := rfl
 rw [e1]; clear e1
 obtain ⟨x, hx⟩ : ∃ x, x = zz b := ⟨_, rfl⟩
 obtain ⟨y, hy⟩ : ∃ y, y = zz s := ⟨_, rfl⟩
 have Hx := zo hx
 have Hy := zo hy
 have c1 : ∀ wx, Calls Tryz.prog 171 #[.int .i64 b] wx fun e w' => e = .returned (.int .i64 x) ∧ wx = w' := fun wx => hx ▸ z1 b wx
 have c2 : ∀ wx, Calls Tryz.prog 171 #[.int .i64 s] wx fun e w' => e = .returned (.int .i64 y) ∧ wx = w' := fun wx => hy ▸ z1 s wx
 rw [← hx, ← hy]
 rw [← hx] at h1
 rw [← hy] at h2
 have C1 := zo c1
 have C2 := zo c2
 have m1 := qV x y
 clear hx hy c1 c2
 go_enter func172, ntmps172
 go_wp2_with fail
 refine (C1.out _).mono ?_; rintro e w' ⟨rfl, rfl⟩
 go_wp2_with fail
 refine (C2.out _).mono ?_; rintro e w' ⟨rfl, rfl⟩
 go_wp2_with (first | (go_at_call 171; refine (z1 _ _).mono ?_; rintro e w' ⟨rfl, rfl⟩) | (go_at_call 143; refine (yo _ _ _).mono ?_; rintro e w' ⟨rfl, rfl⟩) | (go_at_call 189; refine (ku _ _ _ (by omega) (by omega) (by omega) (by omega)).mono ?_; rintro e w' ⟨rfl, rfl⟩) | (go_at_call 190; refine (ys _ _ _ (by omega) (by omega) (by omega) (by omega)).mono ?_; rintro e w' ⟨rfl, rfl⟩) | (go_at_call 191; refine (xx _ _ _ (by omega) (by omega) (by omega) (by omega)).mono ?_; rintro e w' ⟨rfl, rfl⟩) | (go_at_call 192; refine (yr _ _ _ (by omega) (by omega) (by omega) (by omega)).mono ?_; rintro e w' ⟨rfl, rfl⟩) | (go_at_call 193; refine (ve _ _ (by omega) (by omega)).mono ?_; rintro e w' ⟨rfl, rfl⟩) | (go_at_call 145; refine (jV _ _ _ (by omega) (by omega) (by omega) (by omega)).mono ?_; rintro e w' ⟨rfl, rfl⟩))
 all_goals (go_ret; exact ⟨qk (by simp only [jI, yA, wt, zG, reduceIte, Int.reduceEq]; try omega), rfl⟩)
theorem zdm (b s : Int) (w : World) :
  Calls Tryz.prog 172 #[.int .i64 6, .int .i64 b, .int .i64 s] w fun e w' => e = .returned (.int .i64 (zW 6 b s)) ∧ w = w' := by
 have h1 := zr b
 have h2 := zr s
 have e1 : zW 6 b s = jI 6 (zz b) (zz s) := rfl
 rw [e1]; clear e1
 obtain ⟨x, hx⟩ : ∃ x, x = zz b := ⟨_, rfl⟩
 obtain ⟨y, hy⟩ : ∃ y, y = zz s := ⟨_, rfl⟩
 have Hx := zo hx
 have Hy := zo hy
 have c1 : ∀ wx, Calls Tryz.prog 171 #[.int .i64 b] wx fun e w' => e = .returned (.int .i64 x) ∧ wx = w' := fun wx => hx ▸ z1 b wx
 have c2 : ∀ wx, Calls Tryz.prog 171 #[.int .i64 s] wx fun e w' => e = .returned (.int .i64 y) ∧ wx = w' := fun wx => hy ▸ z1 s wx
 rw [← hx, ← hy]
 rw [← hx] at h1
 rw [← hy] at h2
 have C1 := zo c1
 have C2 := zo c2
 have m1 := qV x y
 clear hx hy c1 c2
 go_enter func172, ntmps172
 go_wp2_with fail
 refine (C1.out _).mono ?_; rintro e w' ⟨rfl, rfl⟩
 go_wp2_with fail
 refine (C2.out _).mono ?_; rintro e w' ⟨rfl, rfl⟩
 go_wp2_with (first | (go_at_call 171; refine (z1 _ _).mono ?_; rintro e w' ⟨rfl, rfl⟩) | (go_at_call 143; refine (yo _ _ _).mono ?_; rintro e w' ⟨rfl, rfl⟩) | (go_at_call 189; refine (ku _ _ _ (by omega) (by omega) (by omega) (by omega)).mono ?_; rintro e w' ⟨rfl, rfl⟩) | (go_at_call 190; refine (ys _ _ _ (by omega) (by omega) (by omega) (by omega)).mono ?_; rintro e w' ⟨rfl, rfl⟩) | (go_at_call 191; refine (xx _ _ _ (by omega) (by omega) (by omega) (by omega)).mono ?_; rintro e w' ⟨rfl, rfl⟩) | (go_at_call 192; refine (yr _ _ _ (by omega) (by omega) (by omega) (by omega)).mono ?_; rintro e w' ⟨rfl, rfl⟩) | (go_at_call 193; refine (ve _ _ (by omega) (by omega)).mono ?_; rintro e w' ⟨rfl, rfl⟩) | (go_at_call 145; refine (jV _ _ _ (by omega) (by omega) (by omega) (by omega)).mono ?_; rintro e w' ⟨rfl, rfl⟩))
 all_goals (go_ret; exact ⟨qk (by simp only [jI, yA, wt, zG, reduceIte, Int.reduceEq]; try omega), rfl⟩)
theorem zdn (b s : Int) (w : World) :
  Calls Tryz.prog 172 #[.int .i64 7, .int .i64 b, .int .i64 s] w fun e w' => e = .returned (.int .i64 (zW 7 b s)) ∧ w = w' := by
 have h1 := zr b
 have h2 := zr s
 have e1 : zW 7 b s = jI 7 (zz b) (zz s) := rfl
 rw [e1]; clear e1
 obtain ⟨x, hx⟩ : ∃ x, x = zz b := ⟨_, rfl⟩
 obtain ⟨y, hy⟩ : ∃ y, y = zz s := ⟨_, rfl⟩
 have Hx := zo hx
 have Hy := zo hy
 have c1 : ∀ wx, Calls Tryz.prog 171 #[.int .i64 b] wx fun e w' => e = .returned (.int .i64 x) ∧ wx = w' := fun wx => hx ▸ z1 b wx
 have c2 : ∀ wx, Calls Tryz.prog 171 #[.int .i64 s] wx fun e w' => e = .returned (.int .i64 y) ∧ wx = w' := fun wx => hy ▸ z1 s wx
 rw [← hx, ← hy]
 rw [← hx] at h1
 rw [← hy] at h2
 have C1 := zo c1
 have C2 := zo c2
 have m1 := qV x y
 clear hx hy c1 c2
 go_enter func172, ntmps172
 go_wp2_with fail
 refine (C1.out _).mono ?_; rintro e w' ⟨rfl, rfl⟩
 go_wp2_with fail
 refine (C2.out _).mono ?_; rintro e w' ⟨rfl, rfl⟩
 go_wp2_with (first | (go_at_call 171; refine (z1 _ _).mono ?_; rintro e w' ⟨rfl, rfl⟩) | (go_at_call 143; refine (yo _ _ _).mono ?_; rintro e w' ⟨rfl, rfl⟩) | (go_at_call 189; refine (ku _ _ _ (by omega) (by omega) (by omega) (by omega)).mono ?_; rintro e w' ⟨rfl, rfl⟩) | (go_at_call 190; refine (ys _ _ _ (by omega) (by omega) (by omega) (by omega)).mono ?_; rintro e w' ⟨rfl, rfl⟩) | (go_at_call 191; refine (xx _ _ _ (by omega) (by omega) (by omega) (by omega)).mono ?_; rintro e w' ⟨rfl, rfl⟩) | (go_at_call 192; refine (yr _ _ _ (by omega) (by omega) (by omega) (by omega)).mono ?_; rintro e w' ⟨rfl, rfl⟩) | (go_at_call 193; refine (ve _ _ (by omega) (by omega)).mono ?_; rintro e w' ⟨rfl, rfl⟩) | (go_at_call 145; refine (jV _ _ _ (by omega) (by omega) (by omega) (by omega)).mono ?_; rintro e w' ⟨rfl, rfl⟩))
 all_goals (go_ret; exact ⟨qk (by simp only [jI, yA, wt, zG, reduceIte, Int.reduceEq]; try omega), rfl⟩)
theorem zdo (b s : Int) (w : World) :
  Calls Tryz.prog 172 #[.int .i64 8, .int .i64 b, .int .i64 s] w fun e w' => e = .returned (.int .i64 (zW 8 b s)) ∧ w = w' := by
 have h1 := zr b
 have h2 := zr s
 have e1 : zW 8 b s = jI 8 (zz b) (zz s) := rfl
 rw [e1]; clear e1
 obtain ⟨x, hx⟩ : ∃ x, x = zz b := ⟨_, rfl⟩
 obtain ⟨y, hy⟩ : ∃ y, y = zz s := ⟨_, rfl⟩
 have Hx := zo hx
 have Hy := zo hy
 have c1 : ∀ wx, Calls Tryz.prog 171 #[.int .i64 b] wx fun e w' => e = .returned (.int .i64 x) ∧ wx = w' := fun wx => hx ▸ z1 b wx
 have c2 : ∀ wx, Calls Tryz.prog 171 #[.int .i64 s] wx fun e w' => e = .returned (.int .i64 y) ∧ wx = w' := fun wx => hy ▸ z1 s wx
 rw [← hx, ← hy]
 rw [← hx] at h1
 rw [← hy] at h2
 have C1 := zo c1
 have C2 := zo c2
 have m1 := qV x y
 clear hx hy c1 c2
 go_enter func172, ntmps172
 go_wp2_with fail
 refine (C1.out _).mono ?_; rintro e w' ⟨rfl, rfl⟩
 go_wp2_with fail
 refine (C2.out _).mono ?_; rintro e w' ⟨rfl, rfl⟩
 go_wp2_with (first | (go_at_call 171; refine (z1 _ _).mono ?_; rintro e w' ⟨rfl, rfl⟩) | (go_at_call 143; refine (yo _ _ _).mono ?_; rintro e w' ⟨rfl, rfl⟩) | (go_at_call 189; refine (ku _ _ _ (by omega) (by omega) (by omega) (by omega)).mono ?_; rintro e w' ⟨rfl, rfl⟩) | (go_at_call 190; refine (ys _ _ _ (by omega) (by omega) (by omega) (by omega)).mono ?_; rintro e w' ⟨rfl, rfl⟩) | (go_at_call 191; refine (xx _ _ _ (by omega) (by omega) (by omega) (by omega)).mono ?_; rintro e w' ⟨rfl, rfl⟩) | (go_at_call 192; refine (yr _ _ _ (by omega) (by omega) (by omega) (by omega)).mono ?_; rintro e w' ⟨rfl, rfl⟩) | (go_at_call 193; refine (ve _ _ (by omega) (by omega)).mono ?_; rintro e w' ⟨rfl, rfl⟩) | (go_at_call 145; refine (jV _ _ _ (by omega) (by omega) (by omega) (by omega)).mono ?_; rintro e w' ⟨rfl, rfl⟩))
 all_goals (go_ret; exact ⟨qk (by simp only [jI, yA, wt, zG, reduceIte, Int.reduceEq]; try omega), rfl⟩)
theorem zdp (b s : Int) (w : World) :
  Calls Tryz.prog 172 #[.int .i64 9, .int .i64 b, .int .i64 s] w fun e w' => e = .returned (.int .i64 (zW 9 b s)) ∧ w = w' := by
 have h1 := zr b
 have h2 := zr s
 have e1 : zW 9 b s = jI 9 (zz b) (zz s) := rfl
 rw [e1]; clear e1
 obtain ⟨x, hx⟩ : ∃ x, x = zz b := ⟨_, rfl⟩
 obtain ⟨y, hy⟩ : ∃ y, y = zz s := ⟨_, rfl⟩
 have Hx := zo hx
 have Hy := zo hy
 have c1 : ∀ wx, Calls Tryz.prog 171 #[.int .i64 b] wx fun e w' => e = .returned (.int .i64 x) ∧ wx = w' := fun wx => hx ▸ z1 b wx
 have c2 : ∀ wx, Calls Tryz.prog 171 #[.int .i64 s] wx fun e w' => e = .returned (.int .i64 y) ∧ wx = w' := fun wx => hy ▸ z1 s wx
 rw [← hx, ← hy]
 rw [← hx] at h1
 rw [← hy] at h2
 have C1 := zo c1
 have C2 := zo c2
 have m1 := qV x y
 have m2 := qV (255 - x) (qR x y)
 have m3 := Jm h1.1 h1.2 h2.1 h2.2
 have m4 := qV x (Qi x y)
 clear hx hy c1 c2
 go_enter func172, ntmps172
 go_wp2_with fail
 refine (C1.out _).mono ?_; rintro e w' ⟨rfl, rfl⟩
 go_wp2_with fail
 refine (C2.out _).mono ?_; rintro e w' ⟨rfl, rfl⟩
 go_wp2_with (first | (go_at_call 171; refine (z1 _ _).mono ?_; rintro e w' ⟨rfl, rfl⟩) | (go_at_call 143; refine (yo _ _ _).mono ?_; rintro e w' ⟨rfl, rfl⟩) | (go_at_call 189; refine (ku _ _ _ (by omega) (by omega) (by omega) (by omega)).mono ?_; rintro e w' ⟨rfl, rfl⟩) | (go_at_call 190; refine (ys _ _ _ (by omega) (by omega) (by omega) (by omega)).mono ?_; rintro e w' ⟨rfl, rfl⟩) | (go_at_call 191; refine (xx _ _ _ (by omega) (by omega) (by omega) (by omega)).mono ?_; rintro e w' ⟨rfl, rfl⟩) | (go_at_call 192; refine (yr _ _ _ (by omega) (by omega) (by omega) (by omega)).mono ?_; rintro e w' ⟨rfl, rfl⟩) | (go_at_call 193; refine (ve _ _ (by omega) (by omega)).mono ?_; rintro e w' ⟨rfl, rfl⟩) | (go_at_call 145; refine (jV _ _ _ (by omega) (by omega) (by omega) (by omega)).mono ?_; rintro e w' ⟨rfl, rfl⟩))
 all_goals (go_ret; exact ⟨qk (by simp only [jI, yA, wt, zG, reduceIte, Int.reduceEq]; try omega), rfl⟩)
theorem zbu (b s : Int) (w : World) :
  Calls Tryz.prog 172 #[.int .i64 10, .int .i64 b, .int .i64 s] w fun e w' => e = .returned (.int .i64 (zW 10 b s)) ∧ w = w' := by
 have h1 := zr b
 have h2 := zr s
 have e1 : zW 10 b s = jI 10 (zz b) (zz s) := rfl
 rw [e1]; clear e1
 obtain ⟨x, hx⟩ : ∃ x, x = zz b := ⟨_, rfl⟩
 obtain ⟨y, hy⟩ : ∃ y, y = zz s := ⟨_, rfl⟩
 have Hx := zo hx
 have Hy := zo hy
 have c1 : ∀ wx, Calls Tryz.prog 171 #[.int .i64 b] wx fun e w' => e = .returned (.int .i64 x) ∧ wx = w' := fun wx => hx ▸ z1 b wx
 have c2 : ∀ wx, Calls Tryz.prog 171 #[.int .i64 s] wx fun e w' => e = .returned (.int .i64 y) ∧ wx = w' := fun wx => hy ▸ z1 s wx
 rw [← hx, ← hy]
 rw [← hx] at h1
 rw [← hy] at h2
 have C1 := zo c1
 have C2 := zo c2
 have m1 := qV x y
 clear hx hy c1 c2
 go_enter func172, ntmps172
 go_wp2_with fail
 refine (C1.out _).mono ?_; rintro e w' ⟨rfl, rfl⟩
 go_wp2_with fail
 refine (C2.out _).mono ?_; rintro e w' ⟨rfl, rfl⟩
 go_wp2_with (first | (go_at_call 171; refine (z1 _ _).mono ?_; rintro e w' ⟨rfl, rfl⟩) | (go_at_call 143; refine (yo _ _ _).mono ?_; rintro e w' ⟨rfl, rfl⟩) | (go_at_call 189; refine (ku _ _ _ (by omega) (by omega) (by omega) (by omega)).mono ?_; rintro e w' ⟨rfl, rfl⟩) | (go_at_call 190; refine (ys _ _ _ (by omega) (by omega) (by omega) (by omega)).mono ?_; rintro e w' ⟨rfl, rfl⟩) | (go_at_call 191; refine (xx _ _ _ (by omega) (by omega) (by omega) (by omega)).mono ?_; rintro e w' ⟨rfl, rfl⟩) | (go_at_call 192; refine (yr _ _ _ (by omega) (by omega) (by omega) (by omega)).mono ?_; rintro e w' ⟨rfl, rfl⟩) | (go_at_call 193; refine (ve _ _ (by omega) (by omega)).mono ?_; rintro e w' ⟨rfl, rfl⟩) | (go_at_call 145; refine (jV _ _ _ (by omega) (by omega) (by omega) (by omega)).mono ?_; rintro e w' ⟨rfl, rfl⟩))
 all_goals (go_ret; exact ⟨qk (by simp only [jI, yA, wt, zG, reduceIte, Int.reduceEq]; try omega), rfl⟩)
theorem zbv (b s : Int) (w : World) :
  Calls Tryz.prog 172 #[.int .i64 11, .int .i64 b, .int .i64 s] w fun e w' => e = .returned (.int .i64 (zW 11 b s)) ∧ w = w' := by
 have h1 := zr b
 have h2 := zr s
 have e1 : zW 11 b s = jI 11 (zz b) (zz s) := rfl
 rw [e1]; clear e1
 obtain ⟨x, hx⟩ : ∃ x, x = zz b := ⟨_, rfl⟩
 obtain ⟨y, hy⟩ : ∃ y, y = zz s := ⟨_, rfl⟩
 have Hx := zo hx
 have Hy := zo hy
 have c1 : ∀ wx, Calls Tryz.prog 171 #[.int .i64 b] wx fun e w' => e = .returned (.int .i64 x) ∧ wx = w' := fun wx => hx ▸ z1 b wx
 have c2 : ∀ wx, Calls Tryz.prog 171 #[.int .i64 s] wx fun e w' => e = .returned (.int .i64 y) ∧ wx = w' := fun wx => hy ▸ z1 s wx
 rw [← hx, ← hy]
 rw [← hx] at h1
 rw [← hy] at h2
 have C1 := zo c1
 have C2 := zo c2
 have m1 := qV x y
 clear hx hy c1 c2
 go_enter func172, ntmps172
 go_wp2_with fail
 refine (C1.out _).mono ?_; rintro e w' ⟨rfl, rfl⟩
 go_wp2_with fail
 refine (C2.out _).mono ?_; rintro e w' ⟨rfl, rfl⟩
 go_wp2_with (first | (go_at_call 171; refine (z1 _ _).mono ?_; rintro e w' ⟨rfl, rfl⟩) | (go_at_call 143; refine (yo _ _ _).mono ?_; rintro e w' ⟨rfl, rfl⟩) | (go_at_call 189; refine (ku _ _ _ (by omega) (by omega) (by omega) (by omega)).mono ?_; rintro e w' ⟨rfl, rfl⟩) | (go_at_call 190; refine (ys _ _ _ (by omega) (by omega) (by omega) (by omega)).mono ?_; rintro e w' ⟨rfl, rfl⟩) | (go_at_call 191; refine (xx _ _ _ (by omega) (by omega) (by omega) (by omega)).mono ?_; rintro e w' ⟨rfl, rfl⟩) | (go_at_call 192; refine (yr _ _ _ (by omega) (by omega) (by omega) (by omega)).mono ?_; rintro e w' ⟨rfl, rfl⟩) | (go_at_call 193; refine (ve _ _ (by omega) (by omega)).mono ?_; rintro e w' ⟨rfl, rfl⟩) | (go_at_call 145; refine (jV _ _ _ (by omega) (by omega) (by omega) (by omega)).mono ?_; rintro e w' ⟨rfl, rfl⟩))
 all_goals (go_ret; exact ⟨qk (by simp only [jI, yA, wt, zG, reduceIte, Int.reduceEq]; try omega), rfl⟩)
theorem zbw (b s : Int) (w : World) :
  Calls Tryz.prog 172 #[.int .i64 12, .int .i64 b, .int .i64 s] w fun e w' => e = .returned (.int .i64 (zW 12 b s)) ∧ w = w' := by
 have h1 := zr b
 have h2 := zr s
 have e1 : zW 12 b s = jI 12 (zz b) (zz s) := rfl
 rw [e1]; clear e1
 obtain ⟨x, hx⟩ : ∃ x, x = zz b := ⟨_, rfl⟩
 obtain ⟨y, hy⟩ : ∃ y, y = zz s := ⟨_, rfl⟩
 have Hx := zo hx
 have Hy := zo hy
 have c1 : ∀ wx, Calls Tryz.prog 171 #[.int .i64 b] wx fun e w' => e = .returned (.int .i64 x) ∧ wx = w' := fun wx => hx ▸ z1 b wx
 have c2 : ∀ wx, Calls Tryz.prog 171 #[.int .i64 s] wx fun e w' => e = .returned (.int .i64 y) ∧ wx = w' := fun wx => hy ▸ z1 s wx
 rw [← hx, ← hy]
 rw [← hx] at h1
 rw [← hy] at h2
 have C1 := zo c1
 have C2 := zo c2
 have m1 := qV x y
 clear hx hy c1 c2
 go_enter func172, ntmps172
 go_wp2_with fail
 refine (C1.out _).mono ?_; rintro e w' ⟨rfl, rfl⟩
 go_wp2_with fail
 refine (C2.out _).mono ?_; rintro e w' ⟨rfl, rfl⟩
 go_wp2_with (first | (go_at_call 171; refine (z1 _ _).mono ?_; rintro e w' ⟨rfl, rfl⟩) | (go_at_call 143; refine (yo _ _ _).mono ?_; rintro e w' ⟨rfl, rfl⟩) | (go_at_call 189; refine (ku _ _ _ (by omega) (by omega) (by omega) (by omega)).mono ?_; rintro e w' ⟨rfl, rfl⟩) | (go_at_call 190; refine (ys _ _ _ (by omega) (by omega) (by omega) (by omega)).mono ?_; rintro e w' ⟨rfl, rfl⟩) | (go_at_call 191; refine (xx _ _ _ (by omega) (by omega) (by omega) (by omega)).mono ?_; rintro e w' ⟨rfl, rfl⟩) | (go_at_call 192; refine (yr _ _ _ (by omega) (by omega) (by omega) (by omega)).mono ?_; rintro e w' ⟨rfl, rfl⟩) | (go_at_call 193; refine (ve _ _ (by omega) (by omega)).mono ?_; rintro e w' ⟨rfl, rfl⟩) | (go_at_call 145; refine (jV _ _ _ (by omega) (by omega) (by omega) (by omega)).mono ?_; rintro e w' ⟨rfl, rfl⟩))
 all_goals (go_ret; exact ⟨qk (by simp only [jI, yA, wt, zG, reduceIte, Int.reduceEq]; try omega), rfl⟩)
theorem zbx (b s : Int) (w : World) :
  Calls Tryz.prog 172 #[.int .i64 13, .int .i64 b, .int .i64 s] w fun e w' => e = .returned (.int .i64 (zW 13 b s)) ∧ w = w' := by
 have h1 := zr b
 have h2 := zr s
 have e1 : zW 13 b s = jI 13 (zz b) (zz s) := rfl
 rw [e1]; clear e1
 obtain ⟨x, hx⟩ : ∃ x, x = zz b := ⟨_, rfl⟩
 obtain ⟨y, hy⟩ : ∃ y, y = zz s := ⟨_, rfl⟩
 have Hx := zo hx
 have Hy := zo hy
 have c1 : ∀ wx, Calls Tryz.prog 171 #[.int .i64 b] wx fun e w' => e = .returned (.int .i64 x) ∧ wx = w' := fun wx => hx ▸ z1 b wx
 have c2 : ∀ wx, Calls Tryz.prog 171 #[.int .i64 s] wx fun e w' => e = .returned (.int .i64 y) ∧ wx = w' := fun wx => hy ▸ z1 s wx
 rw [← hx, ← hy]
 rw [← hx] at h1
 rw [← hy] at h2
 have C1 := zo c1
 have C2 := zo c2
 have m1 := qV x y
 clear hx hy c1 c2
 go_enter func172, ntmps172
 go_wp2_with fail
 refine (C1.out _).mono ?_; rintro e w' ⟨rfl, rfl⟩
 go_wp2_with fail
 refine (C2.out _).mono ?_; rintro e w' ⟨rfl, rfl⟩
 go_wp2_with (first | (go_at_call 171; refine (z1 _ _).mono ?_; rintro e w' ⟨rfl, rfl⟩) | (go_at_call 143; refine (yo _ _ _).mono ?_; rintro e w' ⟨rfl, rfl⟩) | (go_at_call 189; refine (ku _ _ _ (by omega) (by omega) (by omega) (by omega)).mono ?_; rintro e w' ⟨rfl, rfl⟩) | (go_at_call 190; refine (ys _ _ _ (by omega) (by omega) (by omega) (by omega)).mono ?_; rintro e w' ⟨rfl, rfl⟩) | (go_at_call 191; refine (xx _ _ _ (by omega) (by omega) (by omega) (by omega)).mono ?_; rintro e w' ⟨rfl, rfl⟩) | (go_at_call 192; refine (yr _ _ _ (by omega) (by omega) (by omega) (by omega)).mono ?_; rintro e w' ⟨rfl, rfl⟩) | (go_at_call 193; refine (ve _ _ (by omega) (by omega)).mono ?_; rintro e w' ⟨rfl, rfl⟩) | (go_at_call 145; refine (jV _ _ _ (by omega) (by omega) (by omega) (by omega)).mono ?_; rintro e w' ⟨rfl, rfl⟩))
 all_goals (go_ret; exact ⟨qk (by simp only [jI, yA, wt, zG, reduceIte, Int.reduceEq]; try omega), rfl⟩)
theorem zby (b s : Int) (w : World) :
  Calls Tryz.prog 172 #[.int .i64 14, .int .i64 b, .int .i64 s] w fun e w' => e = .returned (.int .i64 (zW 14 b s)) ∧ w = w' := by
 have h1 := zr b
 have h2 := zr s
 have e1 : zW 14 b s = jI 14 (zz b) (zz s) := rfl
 rw [e1]; clear e1
 obtain ⟨x, hx⟩ : ∃ x, x = zz b := ⟨_, rfl⟩
 obtain ⟨y, hy⟩ : ∃ y, y = zz s := ⟨_, rfl⟩
 have Hx := zo hx
 have Hy := zo hy
 have c1 : ∀ wx, Calls Tryz.prog 171 #[.int .i64 b] wx fun e w' => e = .returned (.int .i64 x) ∧ wx = w' := fun wx => hx ▸ z1 b wx
 have c2 : ∀ wx, Calls Tryz.prog 171 #[.int .i64 s] wx fun e w' => e = .returned (.int .i64 y) ∧ wx = w' := fun wx => hy ▸ z1 s wx
 rw [← hx, ← hy]
 rw [← hx] at h1
 rw [← hy] at h2
 have C1 := zo c1
 have C2 := zo c2
 have m1 := qV x y
 clear hx hy c1 c2
 go_enter func172, ntmps172
 go_wp2_with fail
 refine (C1.out _).mono ?_; rintro e w' ⟨rfl, rfl⟩
 go_wp2_with fail
 refine (C2.out _).mono ?_; rintro e w' ⟨rfl, rfl⟩
 go_wp2_with (first | (go_at_call 171; refine (z1 _ _).mono ?_; rintro e w' ⟨rfl, rfl⟩) | (go_at_call 143; refine (yo _ _ _).mono ?_; rintro e w' ⟨rfl, rfl⟩) | (go_at_call 189; refine (ku _ _ _ (by omega) (by omega) (by omega) (by omega)).mono ?_; rintro e w' ⟨rfl, rfl⟩) | (go_at_call 190; refine (ys _ _ _ (by omega) (by omega) (by omega) (by omega)).mono ?_; rintro e w' ⟨rfl, rfl⟩) | (go_at_call 191; refine (xx _ _ _ (by omega) (by omega) (by omega) (by omega)).mono ?_; rintro e w' ⟨rfl, rfl⟩) | (go_at_call 192; refine (yr _ _ _ (by omega) (by omega) (by omega) (by omega)).mono ?_; rintro e w' ⟨rfl, rfl⟩) | (go_at_call 193; refine (ve _ _ (by omega) (by omega)).mono ?_; rintro e w' ⟨rfl, rfl⟩) | (go_at_call 145; refine (jV _ _ _ (by omega) (by omega) (by omega) (by omega)).mono ?_; rintro e w' ⟨rfl, rfl⟩))
 all_goals (go_ret; exact ⟨qk (by simp only [jI, yA, wt, zG, reduceIte, Int.reduceEq]; try omega), rfl⟩)
theorem zbz (b s : Int) (w : World) :
  Calls Tryz.prog 172 #[.int .i64 15, .int .i64 b, .int .i64 s] w fun e w' => e = .returned (.int .i64 (zW 15 b s)) ∧ w = w' := by
 have h1 := zr b
 have h2 := zr s
 have e1 : zW 15 b s = jI 15 (zz b) (zz s) := rfl
 rw [e1]; clear e1
 obtain ⟨x, hx⟩ : ∃ x, x = zz b := ⟨_, rfl⟩
 obtain ⟨y, hy⟩ : ∃ y, y = zz s := ⟨_, rfl⟩
 have Hx := zo hx
 have Hy := zo hy
 have c1 : ∀ wx, Calls Tryz.prog 171 #[.int .i64 b] wx fun e w' => e = .returned (.int .i64 x) ∧ wx = w' := fun wx => hx ▸ z1 b wx
 have c2 : ∀ wx, Calls Tryz.prog 171 #[.int .i64 s] wx fun e w' => e = .returned (.int .i64 y) ∧ wx = w' := fun wx => hy ▸ z1 s wx
 rw [← hx, ← hy]
 rw [← hx] at h1
 rw [← hy] at h2
 have C1 := zo c1
 have C2 := zo c2
 have m1 := qV x y
 have m5 : 0 ≤ wt (255 - x - y) ∧ wt (255 - x - y) ≤ 255 := by unfold wt; omega
 clear hx hy c1 c2
 go_enter func172, ntmps172
 go_wp2_with fail
 refine (C1.out _).mono ?_; rintro e w' ⟨rfl, rfl⟩
 go_wp2_with fail
 refine (C2.out _).mono ?_; rintro e w' ⟨rfl, rfl⟩
 go_wp2_with (first | (go_at_call 171; refine (z1 _ _).mono ?_; rintro e w' ⟨rfl, rfl⟩) | (go_at_call 143; refine (yo _ _ _).mono ?_; rintro e w' ⟨rfl, rfl⟩) | (go_at_call 189; refine (ku _ _ _ (by omega) (by omega) (by omega) (by omega)).mono ?_; rintro e w' ⟨rfl, rfl⟩) | (go_at_call 190; refine (ys _ _ _ (by omega) (by omega) (by omega) (by omega)).mono ?_; rintro e w' ⟨rfl, rfl⟩) | (go_at_call 191; refine (xx _ _ _ (by omega) (by omega) (by omega) (by omega)).mono ?_; rintro e w' ⟨rfl, rfl⟩) | (go_at_call 192; refine (yr _ _ _ (by omega) (by omega) (by omega) (by omega)).mono ?_; rintro e w' ⟨rfl, rfl⟩) | (go_at_call 193; refine (ve _ _ (by omega) (by omega)).mono ?_; rintro e w' ⟨rfl, rfl⟩) | (go_at_call 145; refine (jV _ _ _ (by omega) (by omega) (by omega) (by omega)).mono ?_; rintro e w' ⟨rfl, rfl⟩))
 all_goals (go_ret; exact ⟨qk (by simp only [jI, yA, wt, zG, reduceIte, Int.reduceEq]; try omega), rfl⟩)
theorem KO (m b s : Int) (w : World) (n1 : (m == 1) = false) (n2 : (m == 2) = false) (n3 : (m == 3) = false) (n4 : (m == 4) = false) (n5 : (m == 5) = false) (n6 : (m == 6) = false) (n7 : (m == 7) = false) (n8 : (m == 8) = false) (n9 : (m == 9) = false) (n10 : (m == 10) = false) (n11 : (m == 11) = false) (n12 : (m == 12) = false) (n13 : (m == 13) = false) (n14 : (m == 14) = false) (n15 : (m == 15) = false) :
  Calls Tryz.prog 172 #[.int .i64 m, .int .i64 b, .int .i64 s] w fun e w' => e = .returned (.int .i64 (zW m b s)) ∧ w = w' := by
 have e1 : zW m b s = zz s := by
  unfold zW jI; simp only [beq_eq_false_iff_ne] at n1 n2 n3 n4 n5 n6 n7 n8 n9 n10 n11 n12 n13 n14 n15; simp only [n1, n2, n3, n4, n5, n6, n7, n8, n9, n10, n11, n12, n13, n14, n15, if_false]
 rw [e1]; clear e1
 go_enter func172, ntmps172
 go_wp2_with (first | (go_at_call 171; refine (z1 _ _).mono ?_; rintro e w' ⟨rfl, rfl⟩) | (go_at_call 143; refine (yo _ _ _).mono ?_; rintro e w' ⟨rfl, rfl⟩) | (go_at_call 189; refine (ku _ _ _ (by omega) (by omega) (by omega) (by omega)).mono ?_; rintro e w' ⟨rfl, rfl⟩) | (go_at_call 190; refine (ys _ _ _ (by omega) (by omega) (by omega) (by omega)).mono ?_; rintro e w' ⟨rfl, rfl⟩) | (go_at_call 191; refine (xx _ _ _ (by omega) (by omega) (by omega) (by omega)).mono ?_; rintro e w' ⟨rfl, rfl⟩) | (go_at_call 192; refine (yr _ _ _ (by omega) (by omega) (by omega) (by omega)).mono ?_; rintro e w' ⟨rfl, rfl⟩) | (go_at_call 193; refine (ve _ _ (by omega) (by omega)).mono ?_; rintro e w' ⟨rfl, rfl⟩) | (go_at_call 145; refine (jV _ _ _ (by omega) (by omega) (by omega) (by omega)).mono ?_; rintro e w' ⟨rfl, rfl⟩))
 go_ret
 exact ⟨rfl, rfl⟩
theorem zfF (m b s : Int) (w : World) :
  Calls Tryz.prog 172 #[.int .i64 m, .int .i64 b, .int .i64 s] w fun e w' => e = .returned (.int .i64 (zW m b s)) ∧ w = w' := by
 by_cases h : 1 ≤ m ∧ m ≤ 15
 ·have hc : m = 1 ∨ m = 2 ∨ m = 3 ∨ m = 4 ∨ m = 5 ∨ m = 6 ∨ m = 7 ∨ m = 8 ∨ m = 9 ∨ m = 10 ∨ m = 11 ∨ m = 12 ∨ m = 13 ∨ m = 14 ∨ m = 15 := by omega
  rcases hc with rfl | rfl | rfl | rfl | rfl | rfl | rfl | rfl | rfl | rfl | rfl | rfl | rfl | rfl | rfl
  ·exact zdh b s w
  ·exact zdi b s w
  ·exact zdj b s w
  ·exact zdk b s w
  ·exact zdl b s w
  ·exact zdm b s w
  ·exact zdn b s w
  ·exact zdo b s w
  ·exact zdp b s w
  ·exact zbu b s w
  ·exact zbv b s w
  ·exact zbw b s w
  ·exact zbx b s w
  ·exact zby b s w
  ·exact zbz b s w
 ·apply KO <;> (rw [beq_eq_false_iff_ne]; omega)
theorem QC (u v : Int) : 255 * u + 255 * v - u * v = xH u v := rfl
theorem XK (m u v b s W : Int) (w : World) (hu0 : 0 ≤ u) (hu1 : u ≤ 255) (hv0 : 0 ≤ v) (hv1 : v ≤ 255) (hb0 : 0 ≤ b) (hb1 : b ≤ 255) (hs0 : 0 ≤ s) (hs1 : s ≤ 255)
  (hW0 : W = xH u v) (hW1 : 1 ≤ W) :
  Calls Tryz.prog 144 #[.int .i64 m, .int .i64 u, .int .i64 v, .int .i64 b, .int .i64 s, .int .i64 W] w
   fun e w' => e = .returned (.int .u8 (y6 m u v b s)) ∧ w = w' := by
 have hx := Qr m b s
 have w1 : 0 ≤ u * (255 - v) := Int.mul_nonneg hu0 (by omega)
 have w2 : 0 ≤ u * v := Int.mul_nonneg hu0 hv0
 have w3 : 0 ≤ (255 - u) * v := Int.mul_nonneg (by omega) hv0
 have a1 := Int.mul_nonneg w1 hs0
 have a2 := Int.mul_nonneg w2 hx.1
 have a3 := Int.mul_nonneg w3 hb0
 have d1 := Int.mul_le_mul_of_nonneg_left hs1 w1
 have d2 := Int.mul_le_mul_of_nonneg_left hx.2 w2
 have d3 := Int.mul_le_mul_of_nonneg_left hb1 w3
 have e := J1 u v
 have k := wF hu0 hu1 hv0 hv1
 have hcb := uL (m := m) hu0 hu1 hv0 hv1 hb0 hb1 hs0 hs1 (by omega)
 have hfin : zG (u * (255 - v) * s + u * v * zW m b s + (255 - u) * v * b) W = y6 m u v b s := by rw [hW0]; rfl
 have hrb : 0 ≤ zG (u * (255 - v) * s + u * v * zW m b s + (255 - u) * v * b) W ∧ zG (u * (255 - v) * s + u * v * zW m b s + (255 - u) * v * b) W ≤ 255 := by rw [hfin]; exact hcb
 have Hfin := zo hfin
 have k2 : W ≤ 65025 := by omega
 have k3 : u * (255 - v) ≤ 65025 := by omega
 have k4 : u * v ≤ 65025 := by omega
 have k5 : (255 - u) * v ≤ 65025 := by omega
 clear hfin e hW0 hcb
 go_enter func144, ntmps144
 go_wp2_with (first | (go_at_call 172; refine (zfF _ _ _ _).mono ?_; rintro e w' ⟨rfl, rfl⟩) | (go_at_call 145; refine (jV _ _ _ (by omega) (by omega) (by omega) (by omega)).mono ?_; rintro e w' ⟨rfl, rfl⟩))
 go_ret
 exact ⟨qk Hfin.out, rfl⟩
theorem zhh (q p : Px) (m c : Int) (w : World) (hq : q.ok) (hp : p.ok) :
  Calls Tryz.prog 96 #[Px.v q, Px.v p, .int .i64 m, .int .i64 c] w fun e w' => e = .returned (Px.v (vP q p m c)) ∧ Below w.heap.size w w' := by
 obtain ⟨qr, qg, qb, qa⟩ := q
 obtain ⟨pr, pg, pb, pa⟩ := p
 obtain ⟨⟨q1, q2⟩, ⟨q3, q4⟩, ⟨q5, q6⟩, ⟨q7, q8⟩⟩ := hq
 obtain ⟨⟨p1, p2⟩, ⟨p3, p4⟩, ⟨p5, p6⟩, ⟨p7, p8⟩⟩ := hp
 simp only at p1 p2 p3 p4 p5 p6 p7 p8 q1 q2 q3 q4 q5 q6 q7 q8
 have m1 := qV pa c
 have k := wF m1.1 m1.2 q7 q8
 have kk : 0 ≤ 255 * qR pa c + 255 * qa - qR pa c * qa ∧ 255 * qR pa c + 255 * qa - qR pa c * qa ≤ 65025 := k
 have k1 : 0 ≤ qR pa c * qa ∧ qR pa c * qa ≤ 255 * 255 := jX m1.1 m1.2 q7 q8
 by_cases h : xH (qR pa c) qa = 0
 ·have e1 : vP ⟨qr, qg, qb, qa⟩ ⟨pr, pg, pb, pa⟩ m c = ⟨0, 0, 0, 0⟩ := if_pos h
  have h' : (255 * qR pa c + 255 * qa - qR pa c * qa == 0) = true := by simpa [xH] using h
  rw [e1]; clear e1 h k; simp only [Px.v]; go_enter func96, ntmps96
  go_wp2_with (first | (go_at_call 143; refine (yo _ _ _).mono ?_; rintro e w' ⟨rfl, rfl⟩) | (go_at_call 145; refine (jV _ _ _ (by omega) (by omega) (by omega) (by omega)).mono ?_; rintro e w' ⟨rfl, rfl⟩) | (go_at_call 144; refine (XK _ _ _ _ _ _ _ (by omega) (by omega) (by omega) (by omega) (by omega) (by omega) (by omega) (by omega) (QC _ _) (by omega)).mono ?_; rintro e w' ⟨rfl, rfl⟩))
  go_returns
  refine ⟨rfl, ?_⟩; repeat' (first | (with_reducible exact Below.refl _ _) | (with_reducible assumption) | (with_reducible refine Below.setCell ?_ (by dsimp only; omega) _) | (with_reducible refine Below.alloc ?_ (by first | omega | (simp only [World.size_alloc, World.size_setCell, World.size_drew]; omega)) _) | (with_reducible refine Below.drew ?_))
 ·have e1 : vP ⟨qr, qg, qb, qa⟩ ⟨pr, pg, pb, pa⟩ m c = ⟨y6 m (qR pa c) qa qr pr, y6 m (qR pa c) qa qg pg, y6 m (qR pa c) qa qb pb, zG (xH (qR pa c) qa) 255⟩ := if_neg h
  have h' : (255 * qR pa c + 255 * qa - qR pa c * qa == 0) = false := by simpa [xH] using h
  have k0 : zG (xH (qR pa c) qa) 255 = zG (255 * qR pa c + 255 * qa - qR pa c * qa) 255 := rfl; have k2 : 0 ≤ zG (255 * qR pa c + 255 * qa - qR pa c * qa) 255 ∧ zG (255 * qR pa c + 255 * qa - qR pa c * qa) 255 ≤ 255 := yH kk.1 (by omega) (by omega); have k3 : 1 ≤ 255 * qR pa c + 255 * qa - qR pa c * qa := by unfold xH at h k; omega
  have k4 : 255 * qR pa c + 255 * qa - qR pa c * qa ≤ 65025 := k.2; rw [e1, k0]; clear e1 h k k0; simp only [Px.v]; go_enter func96, ntmps96
  go_wp2_with (first | (go_at_call 143; refine (yo _ _ _).mono ?_; rintro e w' ⟨rfl, rfl⟩) | (go_at_call 145; refine (jV _ _ _ (by omega) (by omega) (by omega) (by omega)).mono ?_; rintro e w' ⟨rfl, rfl⟩) | (go_at_call 144; refine (XK _ _ _ _ _ _ _ (by omega) (by omega) (by omega) (by omega) (by omega) (by omega) (by omega) (by omega) (QC _ _) (by omega)).mono ?_; rintro e w' ⟨rfl, rfl⟩))
  go_returns
  refine ⟨rfl, ?_⟩; repeat' (first | (with_reducible exact Below.refl _ _) | (with_reducible assumption) | (with_reducible refine Below.setCell ?_ (by dsimp only; omega) _) | (with_reducible refine Below.alloc ?_ (by first | omega | (simp only [World.size_alloc, World.size_setCell, World.size_drew]; omega)) _) | (with_reducible refine Below.drew ?_))
theorem zdH (args : Array Value) (w : World) : (callFunc 121 args).run Tryz.prog w = .ok (.enter 121 args) w := by kernel_rfl
theorem zcG (m u v W : Int) (au av am aw : Nat) (w : World) (hu0 : 0 ≤ u) (hu1 : u ≤ 255) (hv0 : 0 ≤ v) (hv1 : v ≤ 255) (hW0 : W = xH u v) (hW1 : 1 ≤ W)
  (cu : w.cell? ⟨au, 0, none⟩ = some (.int .i64 u)) (cv : w.cell? ⟨av, 0, none⟩ = some (.int .i64 v)) (cm : w.cell? ⟨am, 0, none⟩ = some (.int .i64 m)) (cw : w.cell? ⟨aw, 0, none⟩ = some (.int .i64 W)) :
  Clo 121 #[.pointer (some ⟨au, 0, none⟩), .pointer (some ⟨av, 0, none⟩), .pointer (some ⟨am, 0, none⟩), .pointer (some ⟨aw, 0, none⟩)] (y6 m u v) w := by
 intro x y wx hb hx0 hx1 hy0 hy1
 have lu := World.block_lt_of_cell? w _ cu
 have lv := World.block_lt_of_cell? w _ cv
 have lm := World.block_lt_of_cell? w _ cm
 have lw := World.block_lt_of_cell? w _ cw
 exact zfp m u v W x y au av am aw wx hu0 hu1 hv0 hv1 hx0 hx1 hy0 hy1 hW0 hW1 (Nat.lt_of_lt_of_le lu hb.size) (Nat.lt_of_lt_of_le lv hb.size) (Nat.lt_of_lt_of_le lm hb.size) (Nat.lt_of_lt_of_le lw hb.size)
  ((hb.cell lu).trans cu) ((hb.cell lv).trans cv) ((hb.cell lm).trans cm) ((hb.cell lw).trans cw)
end Go.Proofs.YtepelndbbhdofaaGreatDoor
