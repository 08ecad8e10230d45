import Derived.IntWalk
import Derived.RowKit
import Derived.WalkKit
import Derived.WalkSpells
import Derived.WalkLawsBesides
import Derived.Handy
import Derived.BigQuiet
import Derived.Deep.QuietTactic
import Derived.Lib.Hide
import Derived.StillTail
import Derived.Test.YtamgpfblhlfhaaaGreatRows
import Derived.Laws.EntriesVeiled
import Derived.Deep.RegionWith
import Derived.ProofKit
import Derived.OpenShut
import Derived.ShutString
import Derived.ChangeOld
import Derived.Below
import Derived.Carry
import Derived.Lib.SmallJoins
import Derived.RangeFuncNested
import Derived.RangeFuncBound
import Derived.RangeFuncCalls
import Derived.RangeFuncLeaves
import Derived.RangeFuncFrom
import Derived.OwnWalkIn
import Derived.TacticsInMore
import Derived.LoopNIn
import Derived.LoopIn
import Derived.Great.Ranges
import Derived.ChangeKeysEq
import Derived.Deep.RegionHeld3
import Derived.Laws.AppendOwn
import Derived.Laws.AppendOwnNone
import Derived.Deep.Onto
import Derived.Shelf.Abstract

namespace Go.Proofs.YtamgpfblhlfhaaaGreat
theorem putS : (∀ (a : Act) (d : Tmp) (v : Value), a.put (some d) v = { a with tmps := a.tmps.setIfInBounds d v }) ∧ (∀ (a : Act) (v : Value), a.put none v = a) ∧ (∀ (α : Type) (l : List α) (i : Nat) (a : α), l.toArray.setIfInBounds i a = (l.set i a).toArray) ∧ (∀ (α : Type) (x a : α) (xs : List α), (x :: xs).set 0 a = a :: xs) ∧ (∀ (α : Type) (x a : α) (xs : List α) (n : Nat), (x :: xs).set (n + 1) a = x :: xs.set n a) :=
  ⟨fun _ _ _ => rfl, fun _ _ => rfl, fun _ _ _ _ => List.setIfInBounds_toArray _ _ _, fun _ _ _ _ => List.set_cons_zero, fun _ _ _ _ _ => List.set_cons_succ⟩
theorem takS : (∀ (α : Type) (n : Nat) (x : α) (xs : List α), (x :: xs).take (n + 1) = x :: xs.take n) ∧ (∀ (α : Type) (xs : List α), xs.take 0 = []) ∧ (∀ (α : Type) (n : Nat) (x : α) (xs : List α), (x :: xs).drop (n + 1) = xs.drop n) ∧ (∀ (α : Type) (xs : List α), xs.drop 0 = xs) :=
  ⟨fun _ _ _ _ => List.take_succ_cons, fun _ _ => List.take_zero, fun _ _ _ _ => List.drop_succ_cons, fun _ _ => List.drop_zero⟩
theorem gelS : (∀ (α : Type) (l : List α) (i : Nat) (h : i < l.toArray.size), l.toArray[i] = l[i]'(by simpa using h)) ∧ (∀ (α : Type) (a : α) (l : List α) (h : 0 < (a :: l).length), (a :: l)[0] = a) ∧ (∀ (α : Type) (a : α) (l : List α) (i : Nat) (h : i + 1 < (a :: l).length), (a :: l)[i + 1] = l[i]'(by simpa using h)) :=
  ⟨fun _ _ _ _ => List.getElem_toArray _, fun _ _ _ _ => List.getElem_cons_zero .., fun _ _ _ _ _ => List.getElem_cons_succ ..⟩
theorem evlS : (∀ (α β : Type) (f : α → β) (l : List α), l.toArray.map f = (l.map f).toArray) ∧ (∀ (α β : Type) (f : α → β) (a : α) (l : List α), (a :: l).map f = f a :: l.map f) ∧ (∀ (α β : Type) (f : α → β), ([] : List α).map f = []) ∧ (∀ (α : Type) (xs : Array α) (i : Nat) (d : α), xs.getD i d = xs[i]?.getD d) ∧ (∀ (α : Type) (l : List α) (i : Nat), l.toArray[i]? = l[i]?) ∧ (∀ (α : Type) (a : α) (l : List α) (i : Nat), (a :: l)[i + 1]? = l[i]?) ∧ (∀ (α : Type) (a : α) (l : List α), (a :: l)[0]? = some a) ∧ (∀ (α : Type) (a d : α), (some a).getD d = a) :=
  ⟨fun _ _ _ _ => List.map_toArray .., fun _ _ _ _ _ => rfl, fun _ _ _ => rfl, fun _ _ _ _ => Array.getD_eq_getD_getElem? .., fun _ _ _ => List.getElem?_toArray .., fun _ _ _ _ => rfl, fun _ _ _ => rfl, fun _ _ _ => rfl⟩
end Go.Proofs.YtamgpfblhlfhaaaGreat
/- Plain arithmetic of 8-bit compositing, in Int: what package pixel and its reference compute. -/
namespace Go.Proofs.YtamgpfblhlfhaaaGreat.Pl
def clampI (n : Int) : Int := max 0 (min n 255)
def roundI (n d : Int) : Int := (2 * n + d) / (2 * d)
def mulI (a b : Int) : Int := roundI (clampI a * clampI b) 255
def scrI (b s : Int) : Int := b + s - mulI b s
def hardI (b s : Int) : Int := if s < 128 then mulI b (2 * s) else scrI b (2 * s - 255)
def dodgeI (b s : Int) : Int := if b = 0 then 0 else if s = 255 then 255 else min 255 (255 * b / (255 - s))
def burnI (b s : Int) : Int := if b = 255 then 255 else if s = 0 then 0 else 255 - min 255 (255 * (255 - b) / s)
def softI (b s : Int) : Int := min 255 (mulI (255 - b) (mulI b s) + mulI b (scrI b s))
def absI (x : Int) : Int := max x (-x)
theorem clampI_bd (n : Int) : 0 ≤ clampI n ∧ clampI n ≤ 255 := by unfold clampI; omega
theorem roundI_bd {n d m : Int} (h0 : 0 ≤ n) (h1 : n ≤ m * d) (hd : 1 ≤ d) : 0 ≤ roundI n d ∧ roundI n d ≤ m := by
 unfold roundI
 refine ⟨Int.ediv_nonneg (by omega) (by omega), ?_⟩
 have : (2 * n + d) / (2 * d) < m + 1 := by
  apply Int.ediv_lt_of_lt_mul (by omega)
  have e1 : (m + 1) * (2 * d) = 2 * (m * d) + 2 * d := by rw [Int.add_mul, Int.one_mul, Int.mul_left_comm]
  omega
 omega
theorem mul_bd {a b : Int} {m k : Int} (ha : 0 ≤ a) (ha' : a ≤ m) (hb : 0 ≤ b) (hb' : b ≤ k) : 0 ≤ a * b ∧ a * b ≤ m * k :=
 ⟨Int.mul_nonneg ha hb, Int.mul_le_mul ha' hb' hb (by omega)⟩
theorem mulI_bd (a b : Int) : 0 ≤ mulI a b ∧ mulI a b ≤ 255 := by
 have h1 := clampI_bd a
 have h2 := clampI_bd b
 have h3 := mul_bd h1.1 h1.2 h2.1 h2.2
 exact roundI_bd h3.1 (by omega) (by omega)
/-- The sixteen modes; all others are Normal. -/
def modeI (m b s : Int) : Int :=
 if m = 1 then mulI b s else if m = 2 then scrI b s else if m = 3 then hardI s b else if m = 4 then min b s else if m = 5 then max b s
 else if m = 6 then dodgeI b s else if m = 7 then burnI b s else if m = 8 then hardI b s else if m = 9 then softI b s else if m = 10 then max (b - s) (s - b)
 else if m = 11 then max 0 (b + s - 2 * mulI b s) else if m = 12 then min 255 (b + s) else if m = 13 then max 0 (b - s) else if m = 14 then (b + s + 1) / 2
 else if m = 15 then 255 - max (255 - b - s) (s - (255 - b)) else s
def blendI (m b s : Int) : Int := modeI m (clampI b) (clampI s)
/-! ### Pixels -/
structure Px where
 r : Int
 g : Int
 b : Int
 a : Int
/-- Every channel is a byte. -/
def Px.ok (p : Px) : Prop := (0 ≤ p.r ∧ p.r ≤ 255) ∧ (0 ≤ p.g ∧ p.g ≤ 255) ∧ (0 ≤ p.b ∧ p.b ≤ 255) ∧ (0 ≤ p.a ∧ p.a ≤ 255)
def Px.zero : Px := ⟨0, 0, 0, 0⟩
theorem Px.zero_ok : Px.zero.ok := by unfold Px.ok Px.zero; simp
def cleanP (p : Px) : Px := if p.a = 0 then Px.zero else p
theorem cleanP_ok {p : Px} (h : p.ok) : (cleanP p).ok := by unfold cleanP; split; exact Px.zero_ok; exact h
def fadeP (p : Px) (c : Int) : Px := cleanP { p with a := mulI p.a c }
/-! Over -/
def overW (u v : Int) : Int := 255 * u + 255 * v - u * v
def overN (m u v b s : Int) : Int := u * (255 - v) * s + u * v * blendI m b s + (255 - u) * v * b
def overC (m u v b s : Int) : Int := roundI (overN m u v b s) (overW u v)
def overP (q p : Px) (m c : Int) : Px :=
 if overW (mulI p.a c) q.a = 0 then Px.zero else
  ⟨overC m (mulI p.a c) q.a q.r p.r, overC m (mulI p.a c) q.a q.g p.g, overC m (mulI p.a c) q.a q.b p.b, roundI (overW (mulI p.a c) q.a) 255⟩
/-! Mix -/
def mixC (p q x y : Int) : Int := roundI (p * x + q * y) (p + q)
def mixP (a b : Px) (t : Int) : Px :=
 if roundI (a.a * (255 - clampI t) + b.a * clampI t) 255 = 0 then Px.zero else
  ⟨mixC (a.a * (255 - clampI t)) (b.a * clampI t) a.r b.r, mixC (a.a * (255 - clampI t)) (b.a * clampI t) a.g b.g, mixC (a.a * (255 - clampI t)) (b.a * clampI t) a.b b.b, roundI (a.a * (255 - clampI t) + b.a * clampI t) 255⟩
end Go.Proofs.YtamgpfblhlfhaaaGreat.Pl
/- General words of this seat's walks: worlds that have only grown ('Below'), a class of worlds for regions that draw their order. -/
namespace Go.Proofs.YtamgpfblhlfhaaaGreat
open Go.RowKit
set_option linter.unusedVariables false
set_option linter.unusedSimpArgs false
open Classical in
/-- The world u, if it has only grown from w; else w. -/
noncomputable def ov (w u : World) : World := if Below w.heap.size w u then u else w
theorem ov_below (w u : World) : Below w.heap.size w (ov w u) := by
 unfold ov; split
 ·assumption
 ·exact Below.refl _ _
theorem ov_of {w u : World} (h : Below w.heap.size w u) : u = ov w u := by unfold ov; rw [if_pos h]
@[go_sem] theorem cell?_ov (w u : World) (b o : Nat) (h : b < w.heap.size) : (ov w u).cell? ⟨b, o, none⟩ = w.cell? ⟨b, o, none⟩ := (ov_below w u).cell (p := ⟨b, o, none⟩) h
@[go_sem] theorem frozen?_ov (w u : World) (b o : Nat) (h : b < w.heap.size) : (ov w u).frozen? ⟨b, o, none⟩ = w.frozen? ⟨b, o, none⟩ := (ov_below w u).frozen (p := ⟨b, o, none⟩) h
theorem below_ov {B : Nat} {w W : World} (h : Below B w W) (hB : B ≤ W.heap.size) (u : World) : Below B w (ov W u) := h.trans ((ov_below W u).mono hB)
/-- A contract that says 'Below', met inside a region of the class '∃ u, w' = ov w u'. -/
theorem calls_ov {P : Program} {f : FuncId} {args : Array Value} {w u : World} {v : Value}
  (h : Calls P f args (ov w u) fun e w' => e = .returned v ∧ Below (ov w u).heap.size (ov w u) w') : Calls P f args (ov w u) fun e w'' => e = .returned v ∧ ∃ u', w'' = ov w u' :=
 h.mono fun _ w2 ⟨he, hb⟩ => ⟨he, w2, ov_of ((ov_below w u).trans (hb.mono (ov_below w u).size))⟩
/-- A contract that leaves the world alone. -/
theorem calls_ov_same {P : Program} {f : FuncId} {args : Array Value} {w u : World} {v : Value}
  (h : Calls P f args (ov w u) fun e w' => e = .returned v ∧ ov w u = w') : Calls P f args (ov w u) fun e w'' => e = .returned v ∧ ∃ u', w'' = ov w u' :=
 h.mono fun _ w2 ⟨he, hb⟩ => ⟨he, u, hb.symm⟩
/-- A region that draws its order, whose operations read old memory and whose callees only make new memory: one walk in the order of the text; behind it a world that has only grown. -/
theorem wp_region_ov {P : Program} {id : Nat} {Q : Exit → Act → World → Prop} {a : Act} {w : World} {l : List Oper} (hm : P.follows .mixedOrders = true) (hB : Region.lexB .any l.toArray = true)
  (h : wpQuiet P l.toArray (fun w' => ∃ u, w' = ov w u) (fun a' => ∀ w', Below w.heap.size w w' → Q .normal a' w') l a) : (Code.region id l.toArray true).wp P Q a w := by
 refine wp_region_quiet (C := fun w' => ∃ u, w' = ov w u) hm hB ⟨w.drew, ov_of ((Below.refl _ _).drew)⟩ ?_
 have key : ∀ (l' : List Oper) (a : Act), wpQuiet P l.toArray (fun w' => ∃ u, w' = ov w u) (fun a' => ∀ w', Below w.heap.size w w' → Q .normal a' w') l' a →
   wpQuiet P l.toArray (fun w' => ∃ u, w' = ov w u) (fun a' => ∀ w', (∃ u, w' = ov w u) → Q .normal a' w') l' a := by
  intro l'
  induction l' with
  | nil =>
   intro a h
   exact fun w' ⟨u, hu⟩ => h w' (hu ▸ ov_below w u)
  | cons o r ih =>
   intro a h
   unfold wpQuiet at h ⊢
   split
   ·rename_i hw
    rw [if_pos hw] at h
    exact Oper.quiet_mono (fun a' h' => ih a' h') h
   ·rename_i hw
    rw [if_neg hw] at h
    exact ih _ h
 exact key _ _ (by simpa using h)
/-! ### A quiet head, then a tail in a forced order: Derived/StillTail.lean's theorem for a class of worlds -/
section
variable {P : Program} {ops : Array Oper} {md : Region.Mode} {C : World → Prop}
/-- f of the first n operations come up, in whatever order; then L. -/
def headAny (P : Program) (md : Region.Mode) (ops : Array Oper) (C : World → Prop) (n : Nat) (L : Array Bool → Act → Prop) : Nat → Array Bool → Act → Prop
 | 0, done, a => L done a
 | f + 1, done, a => Region.ready md ops done ≠ [] ∧ ∀ i ∈ Region.ready md ops done, i < n ∧ qOp P ops C i (headAny P md ops C n L f (done.setIfInBounds i true)) a
theorem any_of_headAny {n g : Nat} {L : Array Bool → Act → Prop} {Q' : Exit → Act → World → Prop} (hL : ∀ done a w, C w → L done a → wpAny P md ops Q' g done a w) :
  ∀ (f : Nat) (done : Array Bool) (a : Act) (w : World), C w → headAny P md ops C n L f done a → wpAny P md ops Q' (f + g) done a w := by
 intro f
 induction f with
 | zero => intro done a w hw h; rw [Nat.zero_add]; exact hL _ _ _ hw h
 | succ f ih =>
  intro done a w hw h
  rw [show f + 1 + g = (f + g) + 1 by omega]
  exact ⟨fun h0 => absurd h0 h.1, fun i hi => wpOp_of_qOp hw (fun a' w' hw' h' => ih _ a' w' hw' h') (h.2 i hi).2⟩
/-- An operation of the head that may come up may be taken first. -/
theorem headAny_take {n i : Nat} {oi : Oper} {v : Value} {L : Array Bool → Act → Prop} (hi : ops[i]? = some oi) (hsel : Region.noSelect ops = true)
  (hs : Region.sinkB md ops n = true) (hc : Region.chainB md ops n = true) (hn : n < ops.size) (hin : i < n) (hL : ∀ done a, L done a → ∀ j ∈ Region.ready md ops done, n ≤ j) :
  ∀ (f : Nat) (done : Array Bool) (a : Act), HeadInv md ops n done →
   (∀ j oj, ops[j]? = some oj → j ≠ i → done.getD j true = false → (∀ e ∈ oj.after, Region.binds md e = true → e.on ≠ i) → oi.apart ops oj = true) →
   i ∈ Region.ready md ops done → YieldsIn P ops C oi v a →
   headAny P md ops C n L f (done.setIfInBounds i true) (a.put oi.dst v) → headAny P md ops C n L (f + 1) done a := by
 have ns := Region.noSelect_spec hsel
 intro f
 induction f with
 | zero =>
  intro done a inv _ hr hy H
  have hun := (mem_ready.1 hr).1
  refine ⟨fun h => (by rw [h] at hr; cases hr), fun j hj => ?_⟩
  have hjn : j < n := Nat.lt_of_not_le fun h => tail_waits hs hc hn inv _ i rfl hin hun j h hj
  refine ⟨hjn, ?_⟩
  by_cases hji : j = i
  ·rw [hji]; exact hy.qOp hi H
  ·exact absurd (hL _ _ H j (ready_mono hj hji)) (by omega)
 | succ f ih =>
  intro done a inv hfree hr hy H
  have hun := (mem_ready.1 hr).1
  refine ⟨fun h => (by rw [h] at hr; cases hr), fun j hj => ?_⟩
  have hjn : j < n := Nat.lt_of_not_le fun h => tail_waits hs hc hn inv _ i rfl hin hun j h hj
  refine ⟨hjn, ?_⟩
  by_cases hji : j = i
  ·rw [hji]; exact hy.qOp hi H
  ·have h1 := (H.2 j (ready_mono hj hji)).2
   obtain ⟨hjun, oj, hoj, hall⟩ := mem_ready.1 hj
   have hnot : ∀ e ∈ oj.after, Region.binds md e = true → e.on ≠ i := fun e he hb heq => by
    have h1 := hall e he hb
    rw [heq, getD_both hun] at h1
    cases h1
   have h2 := qOp_put hoj (hfree j oj hoj hji hjun hnot) (fun cs b => ns i oi cs b hi) (fun cs b => ns j oj cs b hoj) hy h1
   refine qOp_mono (fun a' h3 => ih (done.setIfInBounds j true) a' (inv.set hj hjn) ?_ (ready_mono hr (Ne.symm hji)) h3.1 ?_) h2
   ·intro k ok hk hki hundone hno
    refine hfree k ok hk hki ?_ hno
    by_cases hjk : j = k
    ·rw [← hjk]; exact hjun
    ·rw [getD_set_ne true hjk] at hundone; exact hundone
   ·rw [Array.setIfInBounds_comm _ _ hji]
    exact h3.2
theorem headAny_lex {n g : Nat} {Lq : Act → Prop} (hsel : Region.noSelect ops = true) (hs : Region.sinkB md ops n = true) (hc : Region.chainB md ops n = true) (hn : n < ops.size) :
  ∀ (l : List Oper) (k : Nat) (done : Array Bool) (a : Act), (∀ j, j < l.length → l[j]? = ops[k + j]?) → k + l.length = n → HeadInv md ops n done →
  Region.lexHead md ops g l.length k done = true → wpQuiet P ops C Lq l a →
  headAny P md ops C n (fun d a' => Region.seqB md ops g n d = true ∧ Lq a') l.length done a := by
 intro l
 induction l with
 | nil =>
  intro k done a _ hk _ hB h
  obtain rfl : k = n := by simpa using hk
  exact ⟨by simpa [Region.lexHead] using hB, h⟩
 | cons o l ih =>
  intro k done a hl hk inv hB h
  have h0 : ops[k]? = some o := by simpa using (hl 0 (by simp)).symm
  simp only [List.length_cons, Region.lexHead, Bool.and_eq_true] at hB
  obtain ⟨⟨hr, hf⟩, hB'⟩ := hB
  have hkn : k < n := by simp only [List.length_cons] at hk; omega
  have hr' : k ∈ Region.ready md ops done := by simpa using hr
  have hst : qOp P ops C k (wpQuiet P ops C Lq l) a := by unfold qOp; simp only [h0]; exact h
  obtain ⟨v, hy, hK⟩ := yieldsIn_of_qOp h0 hst
  refine headAny_take h0 hsel hs hc hn hkn (fun d a' hL => seqB_ready hL.1) l.length done a inv (Region.free_spec h0 hf) hr' hy
   (ih (k + 1) _ _ (fun j hj => ?_) (by simp only [List.length_cons] at hk; omega) (inv.set hr' hkn) hB' hK)
  have := hl (j + 1) (by simp; omega)
  simpa [Nat.add_assoc, Nat.add_comm 1 j] using this
end
/-- The first n operations read old memory, or call what only makes new memory; the rest comes in the order of the text. -/
theorem wp_region_ov_tail {P : Program} {id : Nat} {Q : Exit → Act → World → Prop} {a : Act} {w : World} {l : List Oper} (n : Nat) (hm : P.follows .mixedOrders = true) (hB : Region.lexTailB .any l.toArray n = true)
  (h : wpQuiet P l.toArray (fun w' => ∃ u, w' = ov w u) (fun a' => ∀ w', Below w.heap.size w w' → wpList P l.toArray Q (l.drop n) a' w') (l.take n) a) : (Code.region id l.toArray true).wp P Q a w := by
 simp only [Region.lexTailB, Bool.and_eq_true, decide_eq_true_eq] at hB
 obtain ⟨⟨⟨⟨hsel, hn⟩, hs⟩, hc⟩, hlex⟩ := hB
 have hn' : n < l.length := by simpa using hn
 have htl : (l.take n).length = n := by simp; omega
 have hdl : (l.drop n).length = l.toArray.size - n := by simp
 have inv0 : HeadInv .any l.toArray n (Array.replicate l.toArray.size false) :=
  ⟨by simp, fun j oj _ hl => (by rw [getD_replicate_false] at hl; cases hl), fun t _ ht => getD_in (by simpa using ht) (getD_replicate_false _ _)⟩
 have H := headAny_lex (md := .any) (g := l.toArray.size - n) hsel hs hc hn (l.take n) 0 _ a (fun j hj => by
  have hj' : j < n := by rw [htl] at hj; exact hj
  simp [hj']) (by simpa using htl) inv0 (by rw [htl]; exact hlex) h
 refine wp_region_any hm ?_
 have := any_of_headAny (Q' := Q) (g := l.toArray.size - n) (fun d a' w' hw' hL => by
  obtain ⟨u, rfl⟩ := hw'
  have := wpAny_of_seq (md := .any) (Q' := Q) (l.drop n) n d a' (ov w u) (fun j => by simp [List.getElem?_drop]) (by rw [hdl]; exact hL.1) (hL.2 _ (ov_below w u))
  rwa [hdl] at this) _ _ _ w.drew ⟨w.drew, ov_of ((Below.refl _ _).drew)⟩ H
 rw [htl, show n + (l.toArray.size - n) = l.toArray.size by omega] at this
 exact this
end Go.Proofs.YtamgpfblhlfhaaaGreat
/- Contracts of the arithmetic functions of package pixel and of its reference: each returns what the plain function of the same name says, and leaves the world alone. -/
namespace Go.Proofs.YtamgpfblhlfhaaaGreat
open Go.RowKit Pl
set_option linter.unusedVariables false
set_option linter.unusedSimpArgs false
theorem ret_int {k : IntKind} {a b : Int} (h : a = b) : Ending.returned (.int k a) = .returned (.int k b) := by rw [h]
set_option maxHeartbeats 400000 in
theorem P_round (n d : Int) (w : World) (h0 : 0 ≤ n) (h1 : n ≤ 1000000000000000) (h2 : 1 ≤ d) (h3 : d ≤ 1000000000000000) :
  Calls Tryz.prog 82 #[.int .i64 n, .int .i64 d] w fun e w' => e = .returned (.int .i64 (roundI n d)) ∧ w = w' := by
 have h4 : ¬ (2 * d = 0) := by omega
 go_enter Tryz.func82, Tryz.ntmps82
 go_wp2
 go_ret
 exact ⟨rfl, rfl⟩
set_option maxHeartbeats 400000 in
theorem P_clamp (n : Int) (w : World) :
  Calls Tryz.prog 83 #[.int .i64 n] w fun e w' => e = .returned (.int .i64 (clampI n)) ∧ w = w' := by
 go_enter Tryz.func83, Tryz.ntmps83
 go_wp2
 all_goals (go_ret; exact ⟨ret_int (by unfold clampI; omega), rfl⟩)
set_option maxHeartbeats 400000 in
theorem P_Mul (a b : Int) (w : World) :
  Calls Tryz.prog 47 #[.int .i64 a, .int .i64 b] w fun e w' => e = .returned (.int .i64 (mulI a b)) ∧ w = w' := by
 have h1 := clampI_bd a
 have h2 := clampI_bd b
 have h3 := mul_bd h1.1 h1.2 h2.1 h2.2
 go_enter Tryz.func47, Tryz.ntmps47
 go_wp2_with (first | (go_at_call 83; refine (P_clamp _ _).mono ?_; rintro e w' ⟨rfl, rfl⟩) | (go_at_call 82; refine (P_round _ _ _ (by omega) (by omega) (by omega) (by omega)).mono ?_; rintro e w' ⟨rfl, rfl⟩))
 go_ret
 exact ⟨rfl, rfl⟩
/- Contracts of the blend functions of package pixel (each closure and function of 'functions') and of the reference's: each returns what the plain function says, and leaves the world alone. -/
/- Contracts of 'functions' and 'Blend' of package pixel and of the reference's Blend. -/
/- Contracts of Blend of package pixel. -/
/- Contracts of the closures of package pixel, of 'channels', Clean, Fade, and of the reference's. -/
def Px.v (p : Px) : Value := .agg #[.int .u8 p.r, .int .u8 p.g, .int .u8 p.b, .int .u8 p.a]
/-- A function value of two ints: what it does from the world w0 on. -/
def Clo (F : Nat) (caps : Array Value) (φ : Int → Int → Int) (w0 : World) : Prop :=
 ∀ (x y : Int) (wx : World), Below w0.heap.size w0 wx → 0 ≤ x → x ≤ 255 → 0 ≤ y → y ≤ 255 →
  Calls Tryz.prog F (#[.int .i64 x, .int .i64 y] ++ caps) wx fun e w' => e = .returned (.int .i64 (φ x y)) ∧ Below wx.heap.size wx w'
end Go.Proofs.YtamgpfblhlfhaaaGreat
/- How this seat's arguments are opened: pixels, pairs of integers. -/
namespace Go.Proofs.YtamgpfblhlfhaaaGreat
open Go.ChangeShapes Go.WideShapes Go.ChangeAt Go.RowKit Pl
set_option linter.unusedVariables false
set_option linter.unusedSimpArgs false
set_option maxRecDepth 20000
theorem own : ownKnob Tryz.prog.godebug = none := by kernel_rfl
theorem laidOut : laidOutB Tryz.prog = true := by kernel_rfl
section
variable {H : Type} {enc : TypeId × Value → H} {w : World} {base : Nat} {spare : Nat → Bool} {held : Bool}
theorem okWide_array {P : Program} {r : Reach} {t e : TypeId} {n b0 : Nat} {v : Value} (ht : P.underlying t = some (.array n e)) (h : Value.okWide P w r b0 t v) : ∃ cs, v = .agg cs ∧ cs.size = P.cellsOf t := by
 simp only [Value.okWide, ht] at h
 obtain ⟨cs, h1, h2, _⟩ := h
 exact ⟨cs, h1, h2⟩
end
end Go.Proofs.YtamgpfblhlfhaaaGreat
/- More small words on worlds: whole blocks. -/
namespace Go.Proofs.YtamgpfblhlfhaaaGreat
open Go.RowKit
set_option linter.unusedVariables false
set_option linter.unusedSimpArgs false
theorem heap_get_alloc (w : World) (o : Obj) (i : Nat) : (w.alloc o).heap[i]? = if i = w.heap.size then some o else w.heap[i]? := by
 show (w.heap.push o)[i]? = _
 rw [Array.getElem?_push]
theorem cells_of_block {w : World} {b : Nat} {cs : Array Value} {t : TypeId} (h : w.heap[b]? = some (.cells cs t (0, 0))) :
  (∀ j, w.cell? ⟨b, j, none⟩ = cs[j]?) ∧ (∀ j, w.frozen? ⟨b, j, none⟩ = false) :=
 ⟨fun j => cell_of_row w b j cs t (0, 0) h, fun j => frozen_of_row w b j cs t h⟩
end Go.Proofs.YtamgpfblhlfhaaaGreat
/- Plain: tiles as functions from indexes to pixels, and their cells. -/
namespace Go.Proofs.YtamgpfblhlfhaaaGreat
open Go.RowKit Pl
set_option linter.unusedVariables false
set_option linter.unusedSimpArgs false
set_option maxRecDepth 20000
/-- The cell number j (0 to 3) of a pixel. -/
def pxC (p : Px) (j : Nat) : Value := if j = 0 then .int .u8 p.r else if j = 1 then .int .u8 p.g else if j = 2 then .int .u8 p.b else .int .u8 p.a
/-- The 256 cells of a tile. -/
def tileC (f : Nat → Px) : Array Value := Array.ofFn (n := 256) fun k => pxC (f (k.val / 4)) (k.val % 4)
def Tile.v (f : Nat → Px) : Value := .agg (tileC f)
def upd (f : Nat → Px) (i : Nat) (p : Px) : Nat → Px := fun j => if j = i then p else f j
theorem size_tileC (f : Nat → Px) : (tileC f).size = 256 := by unfold tileC; simp
theorem get_tileC (f : Nat → Px) (k : Nat) : (tileC f)[k]? = if k < 256 then some (pxC (f (k / 4)) (k % 4)) else none := by
 unfold tileC
 rw [Array.getElem?_ofFn]
 split <;> rfl
theorem tileC_at (f : Nat → Px) (i j : Nat) (hi : i < 64) (hj : j < 4) : (tileC f)[i * 4 + j]? = some (pxC (f i) j) := by
 rw [get_tileC, if_pos (by omega), show (i * 4 + j) / 4 = i by omega, show (i * 4 + j) % 4 = j by omega]
theorem tileC_congr {f g : Nat → Px} (h : ∀ i, i < 64 → f i = g i) : tileC f = tileC g := by
 apply Array.ext_getElem?
 intro k
 rw [get_tileC, get_tileC]
 split
 ·rw [h _ (by omega)]
 ·rfl
theorem tileC_inj {f g : Nat → Px} (h : tileC f = tileC g) : ∀ i, i < 64 → f i = g i := by
 intro i hi
 have k : ∀ j, j < 4 → pxC (f i) j = pxC (g i) j := fun j hj => by
  have := congrArg (fun a : Array Value => a[i * 4 + j]?) h
  simp only [tileC_at _ i j hi hj] at this
  exact Option.some.inj this
 have k0 := k 0 (by omega)
 have k1 := k 1 (by omega)
 have k2 := k 2 (by omega)
 have k3 := k 3 (by omega)
 simp [pxC] at k0 k1 k2 k3
 cases hf : f i
 cases hg : g i
 rw [hf, hg] at k0 k1 k2 k3
 simp at k0 k1 k2 k3
 rw [k0, k1, k2, k3]
/-- Four cells written: one pixel replaced. -/
theorem set_tileC (f : Nat → Px) (i : Nat) (p : Px) (hi : i < 64) :
  ((((tileC f).setIfInBounds (i * 4) (.int .u8 p.r)).setIfInBounds (i * 4 + 1) (.int .u8 p.g)).setIfInBounds (i * 4 + 2) (.int .u8 p.b)).setIfInBounds (i * 4 + 3) (.int .u8 p.a) = tileC (upd f i p) := by
 apply Array.ext_getElem?
 intro k
 simp only [Array.getElem?_setIfInBounds, Array.size_setIfInBounds, size_tileC, get_tileC]
 by_cases hk : k < 256
 ·simp only [hk, if_true]
  by_cases h : k / 4 = i
  ·have hm : k = i * 4 + k % 4 := by omega
   have h4 : k % 4 < 4 := by omega
   have hu : upd f i p (k / 4) = p := by unfold upd; rw [if_pos h]
   rw [hu]
   have hc : k % 4 = 0 ∨ k % 4 = 1 ∨ k % 4 = 2 ∨ k % 4 = 3 := by omega
   rcases hc with hc | hc | hc | hc
   ·rw [if_neg (by omega), if_neg (by omega), if_neg (by omega), if_pos (by omega), if_pos (by omega), hc]; rfl
   ·rw [if_neg (by omega), if_neg (by omega), if_pos (by omega), if_pos (by omega), hc]; rfl
   ·rw [if_neg (by omega), if_pos (by omega), if_pos (by omega), hc]; rfl
   ·rw [if_pos (by omega), if_pos (by omega), hc]; rfl
  ·have hu : upd f i p (k / 4) = f (k / 4) := by unfold upd; rw [if_neg h]
   rw [hu, if_neg (by omega), if_neg (by omega), if_neg (by omega), if_neg (by omega)]
 ·rw [if_neg (by omega), if_neg (by omega), if_neg (by omega), if_neg (by omega), if_neg hk, if_neg hk]
theorem cells_tile (f : Nat → Px) : (Tile.v f).cells = tileC f := by simp only [Tile.v, Value.cells]
attribute [irreducible] tileC
/-- The block b holds a tile. -/
def TileAt (w : World) (b : Nat) (f : Nat → Px) : Prop := w.heap[b]? = some (.cells (tileC f) 70 (0, 0))
theorem TileAt.of_eq {w w' : World} {b : Nat} {f : Nat → Px} (h : TileAt w b f) (e : w'.heap[b]? = w.heap[b]?) : TileAt w' b f := e.trans h
theorem TileAt.lt {w : World} {b : Nat} {f : Nat → Px} (h : TileAt w b f) : b < w.heap.size := (Array.getElem?_eq_some_iff.1 h).1
theorem TileAt.below {w w' : World} {b : Nat} {f : Nat → Px} (h : TileAt w b f) (e : Below w.heap.size w w') : TileAt w' b f := h.of_eq (e.block _ h.lt)
/-- Its cells. -/
theorem TileAt.cells {w : World} {b : Nat} {f : Nat → Px} (h : TileAt w b f) {i : Nat} (hi : i < 64) :
  w.cell? ⟨b, i * 4, none⟩ = some (.int .u8 (f i).r) ∧ w.cell? ⟨b, i * 4 + 1, none⟩ = some (.int .u8 (f i).g) ∧ w.cell? ⟨b, i * 4 + 2, none⟩ = some (.int .u8 (f i).b) ∧ w.cell? ⟨b, i * 4 + 3, none⟩ = some (.int .u8 (f i).a) := by
 obtain ⟨hc, _⟩ := cells_of_block h
 refine ⟨?_, ?_, ?_, ?_⟩
 ·have := (hc (i * 4 + 0)).trans (tileC_at f i 0 hi (by omega)); exact this
 ·exact (hc _).trans (tileC_at f i 1 hi (by omega))
 ·exact (hc _).trans (tileC_at f i 2 hi (by omega))
 ·exact (hc _).trans (tileC_at f i 3 hi (by omega))
theorem TileAt.frozen {w : World} {b : Nat} {f : Nat → Px} (h : TileAt w b f) (j : Nat) : w.frozen? ⟨b, j, none⟩ = false := (cells_of_block h).2 j
/-- A pixel stored. -/
theorem TileAt.set {w : World} {b : Nat} {f : Nat → Px} (h : TileAt w b f) {i : Nat} (hi : i < 64) (p : Px) :
  TileAt ((((w.setCell ⟨b, i * 4, none⟩ (.int .u8 p.r)).setCell ⟨b, i * 4 + 1, none⟩ (.int .u8 p.g)).setCell ⟨b, i * 4 + 2, none⟩ (.int .u8 p.b)).setCell ⟨b, i * 4 + 3, none⟩ (.int .u8 p.a)) b (upd f i p) := by
 unfold TileAt
 rw [← set_tileC f i p hi]
 exact heap_setCell_same _ _ _ _ _ _ (heap_setCell_same _ _ _ _ _ _ (heap_setCell_same _ _ _ _ _ _ (heap_setCell_same _ _ _ _ _ _ h)))
/-- Every pixel's channels are bytes. -/
def Tok (f : Nat → Px) : Prop := ∀ i, i < 64 → (f i).ok
section
variable {H : Type} {enc : TypeId × Value → H} {w : World} {base : Nat} {spare : Nat → Bool} {held : Bool}
end
end Go.Proofs.YtamgpfblhlfhaaaGreat
/- The iterator over the positions of a tile, and 'rearrange'. -/
namespace Go.Proofs.YtamgpfblhlfhaaaGreat
open Go.RowKit Pl
attribute [local go_sem] Oper.semAt_some
set_option linter.unusedVariables false
set_option linter.unusedSimpArgs false
set_option maxRecDepth 20000
/-- Position number i: column and row. -/
abbrev posV (i : Fin 64) : Array Value := #[.int .i64 ((i.val : Int) % 8), .int .i64 ((i.val : Int) / 8)]
/-- The first k positions. -/
def upto (k : Nat) : List (Fin 64) := (List.finRange 64).take k
end Go.Proofs.YtamgpfblhlfhaaaGreat
/- Plain laws of compositing: the ends and the symmetry of Mix, the identities and bounds of Over, the symmetries of the blend modes. -/
namespace Go.Proofs.YtamgpfblhlfhaaaGreat.Pl
set_option linter.unusedVariables false
/-! Over -/
/-! The blend modes -/
end Go.Proofs.YtamgpfblhlfhaaaGreat.Pl
/- General laws of the walk, of no type: worlds in which one block may have been written; loads and stores by any law of a run. -/
namespace Go.Proofs.YtamgpfblhlfhaaaGreat
open Go.RowKit
set_option linter.unusedVariables false
set_option linter.unusedSimpArgs false
/-- Block b aside, what was there is as it was. -/
structure Chg (b : Nat) (w w' : World) : Prop where
 os : w'.os = w.os
 tape : w'.tape = w.tape
 output : w'.output = w.output
 size : w.heap.size ≤ w'.heap.size
 block : ∀ k, k < w.heap.size → k ≠ b → w'.heap[k]? = w.heap[k]?
theorem Chg.refl (b : Nat) (w : World) : Chg b w w := ⟨rfl, rfl, rfl, Nat.le_refl _, fun _ _ _ => rfl⟩
theorem Chg.trans {b : Nat} {w1 w2 w3 : World} (h : Chg b w1 w2) (k : Chg b w2 w3) : Chg b w1 w3 :=
 ⟨k.os.trans h.os, k.tape.trans h.tape, k.output.trans h.output, Nat.le_trans h.size k.size, fun i hi hb => (k.block i (Nat.lt_of_lt_of_le hi h.size) hb).trans (h.block i hi hb)⟩
theorem Chg.of_below {b : Nat} {w w' : World} (h : Below w.heap.size w w') : Chg b w w' := ⟨h.os, h.tape, h.output, h.size, fun k hk _ => h.block k hk⟩
theorem Chg.setCell {b i : Nat} {w w' : World} (h : Chg b w w') (v : Value) : Chg b w (w'.setCell ⟨b, i, none⟩ v) :=
 ⟨h.os, h.tape, h.output, by rw [World.size_setCell]; exact h.size, fun k hk hb => (heap_setCell_other _ _ _ _ hb).trans (h.block k hk hb)⟩
theorem Chg.alloc {b : Nat} {w w' : World} (h : Chg b w w') (o : Obj) : Chg b w (w'.alloc o) :=
 ⟨h.os, h.tape, h.output, Nat.le_trans h.size (by rw [World.size_alloc]; omega), fun k hk hb => by rw [heap_get_alloc, if_neg (by have := h.size; omega)]; exact h.block k hk hb⟩
/-- A change of a block that was made since: nothing below has turned. -/
theorem Chg.below {b B : Nat} {w w1 w2 : World} (h : Below B w w1) (k : Chg b w1 w2) (hB : B ≤ b) (hw : B ≤ w1.heap.size) : Below B w w2 :=
 h.trans ⟨k.os, k.tape, k.output, k.size, fun i hi => k.block i (by omega) (by omega)⟩
theorem Chg.setRow {b : Nat} {w w' : World} (h : Chg b w w') (cs : Array Value) : Chg b w (w'.setRow b cs) :=
 ⟨h.os, h.tape, h.output, by rw [size_setRow]; exact h.size, fun k hk hb => (setRow_other _ _ _ _ hb).trans (h.block k hk hb)⟩
theorem run_load_u8 {w : World} {b j : Nat} {v : Value} (h : w.cell? ⟨b, j, none⟩ = some v) : (Instr.loadAt 5 (.pointer (some ⟨b, j, none⟩))).run Tryz.prog w = .ok v w := by
 simp [go_sem, h]
theorem run_load_int {w : World} {b j : Nat} {v : Value} (h : w.cell? ⟨b, j, none⟩ = some v) : (Instr.loadAt 3 (.pointer (some ⟨b, j, none⟩))).run Tryz.prog w = .ok v w := by
 simp [go_sem, h]
theorem run_load_part {w : World} {b off : Nat} {bcs cs : Array Value} {bt t : TypeId} (h : w.heap[b]? = some (.cells bcs bt (0, 0))) (hagg : ∀ w : World, (isAgg t).run Tryz.prog w = .ok true w)
  (hsz : (Tryz.prog.info? t).map (·.size) = some cs.size) (hc : ∀ j, j < cs.size → bcs[off + j]? = cs[j]?) : (Instr.loadAt t (.pointer (some ⟨b, off, none⟩))).run Tryz.prog w = .ok (.agg cs) w := by
 simp only [Instr.loadAt, Instr.sureAddr, Sem.run_bind, Sem.run_pure, Result.andThen_ok]
 have hl : (loadCells ⟨b, off, none⟩ cs.toList.length).run Tryz.prog w = .ok cs.toList.toArray w :=
  run_loadCells_list (P := Tryz.prog) w ⟨b, off, none⟩ cs.toList (fun j v hv => by
   have hadd : (⟨b, off, none⟩ : Addr).add j = ⟨b, off + j, none⟩ := by unfold Addr.add; split <;> simp_all
   have hj : j < cs.size := by
    have := (List.getElem?_eq_some_iff.1 hv).1
    rw [Array.length_toList] at this
    exact this
   rw [hadd, cell_of_row w b _ bcs _ (0, 0) h, hc j hj]
   simpa using hv)
 cases hq : Tryz.prog.info? t with
 | none => rw [hq] at hsz; cases hsz
 | some i =>
  have he : i.size = cs.size := by rw [hq] at hsz; simpa using hsz
  rw [Array.length_toList] at hl
  simp only [Array.toArray_toList] at hl
  simp only [loadVar, Sem.run_bind, hagg w, sizeOf, typeInfo, hq, he, hl, run_program, Result.andThen_ok, if_true, Sem.run_pure]
section
variable {ops : Array Oper} {rest : List Oper} {o : Oper} {a : Act} {w : World} {Q : Exit → Act → World → Prop}
theorem wpList_loadAny {t : TypeId} {v : Value} (hg : o.guard = none) (x : Operand) (ho : o.op = .load t x) (b j j' : Nat) (hx : a.eval x = .pointer (some ⟨b, j', none⟩)) (hr : (Instr.loadAt t (.pointer (some ⟨b, j, none⟩))).run Tryz.prog w = .ok v w) (hj : j' = j)
  (h : wpList Tryz.prog ops Q rest (a.put o.dst v) w) : wpList Tryz.prog ops Q (o :: rest) a w :=
 wpList_plain hg fun K hK => by
  subst hj
  unfold Oper.wp execOp
  simp only [ho, hx, hr, Sem.run_bind, Sem.run_pure, Result.andThen_ok]
  exact hK _ _ h
theorem wpList_storeAny {t : TypeId} (hg : o.guard = none) (x y : Operand) (ho : o.op = .store t x y) (w' : World) (hrun : (Instr.storeAt t (a.eval x) (a.eval y)).run Tryz.prog w = .ok () w')
  (h : wpList Tryz.prog ops Q rest (a.put o.dst undef) w') : wpList Tryz.prog ops Q (o :: rest) a w :=
 wpList_plain hg fun K hK => by
  unfold Oper.wp execOp
  simp only [ho, hrun, Sem.run_bind, Sem.run_pure, Result.andThen_ok]
  exact hK _ _ h
end
section
variable {C : World → Prop} {a : Act} {o : Oper} {K : Act → Prop}
theorem quiet_loadAny {t : TypeId} {v : Value} {x : Operand} (h : o.op = .load t x) (b j j' : Nat) (hx : a.eval x = .pointer (some ⟨b, j', none⟩)) (hr : ∀ w, C w → (Instr.loadAt t (.pointer (some ⟨b, j, none⟩))).run Tryz.prog w = .ok v w) (hj : j' = j) (hk : K (a.put o.dst v)) : o.quiet Tryz.prog a C K :=
 ⟨_, fun w hw => by subst hj; unfold Oper.quietAt execOp; simp only [h, hx, hr w hw, Sem.run_bind, Sem.run_pure, Result.andThen_ok]; exact ⟨rfl, rfl⟩, hk⟩
end
end Go.Proofs.YtamgpfblhlfhaaaGreat
/- Plain: what a Mean holds, and its mean; words on worlds in which one block may have been written. -/
namespace Go.Proofs.YtamgpfblhlfhaaaGreat
open Go.RowKit
set_option linter.unusedVariables false
set_option linter.unusedSimpArgs false
namespace Pl
/-- The sums of A, of A times each channel, and the number of pixels. -/
structure Acc where
 a : Int
 r : Int
 g : Int
 b : Int
 n : Int
def Acc.zero : Acc := ⟨0, 0, 0, 0, 0⟩
def addAcc (s : Acc) (p : Px) (n : Int) : Acc :=
 if n < 1 then s else ⟨s.a + min n 65536 * p.a, s.r + min n 65536 * p.a * p.r, s.g + min n 65536 * p.a * p.g, s.b + min n 65536 * p.a * p.b, s.n + min n 65536⟩
/-- What holds of the sums: M bounds the number of pixels. -/
def Acc.ok (s : Acc) (M : Int) : Prop := (0 ≤ s.n ∧ s.n ≤ M) ∧ (0 ≤ s.a ∧ s.a ≤ 255 * s.n) ∧ (0 ≤ s.r ∧ s.r ≤ 255 * s.a) ∧ (0 ≤ s.g ∧ s.g ≤ 255 * s.a) ∧ (0 ≤ s.b ∧ s.b ≤ 255 * s.a)
theorem Acc.zero_ok : Acc.zero.ok 0 := by unfold Acc.ok Acc.zero; simp
def meanP (s : Acc) : Px :=
 if s.n = 0 then Px.zero else if roundI s.a s.n = 0 then Px.zero else ⟨roundI s.r s.a, roundI s.g s.a, roundI s.b s.a, roundI s.a s.n⟩
end Pl
end Go.Proofs.YtamgpfblhlfhaaaGreat
/- Laws of the walk for whole tiles: a tile loaded, stored, boxed, made; outside and inside a fence. The worlds behind are variables: what is known of them are their blocks. -/
namespace Go.Proofs.YtamgpfblhlfhaaaGreat
open Go.RowKit Pl
set_option linter.unusedVariables false
set_option linter.unusedSimpArgs false
set_option maxRecDepth 20000
theorem tile_size (f : Nat → Px) : (Tryz.prog.info? 70).map (·.size) = some (tileC f).size := by
 rw [size_tileC]; kernel_rfl
theorem tile_oneCell (f : Nat → Px) : (tileC f).all (·.oneCell') = true := by
 rw [Array.all_eq_true]
 intro i hi
 have h : (tileC f)[i]? = some (tileC f)[i] := Array.getElem?_eq_getElem hi
 rw [size_tileC] at hi
 rw [get_tileC, if_pos hi] at h
 rw [← Option.some.inj h]
 unfold pxC
 repeat' split
 all_goals rfl
theorem run_load_tile {w : World} {b : Nat} {f : Nat → Px} (h : TileAt w b f) : (Instr.loadAt 70 (.pointer (some ⟨b, 0, none⟩))).run Tryz.prog w = .ok (Tile.v f) w := by
 simp only [Instr.loadAt, Instr.sureAddr, Sem.run_bind, Sem.run_pure, Result.andThen_ok]
 exact run_loadVar_row w b _ 70 _ _ _ h Tryz.underlying70 rfl (tile_size f)
theorem run_store_tile {w : World} {b : Nat} {f g : Nat → Px} (h : TileAt w b f) : (Instr.storeAt 70 (.pointer (some ⟨b, 0, none⟩)) (Tile.v g)).run Tryz.prog w = .ok () (w.setRow b (tileC g)) := by
 simp only [Instr.storeAt, Instr.sureAddr, Sem.run_bind, Sem.run_pure, Result.andThen_ok]
 exact run_storeVar_row w b _ 70 _ _ h (tile_size g) (by rw [size_tileC, size_tileC]) (tile_oneCell g)
theorem TileAt.setRow {w : World} {b : Nat} {f : Nat → Px} (h : TileAt w b f) (g : Nat → Px) : TileAt (w.setRow b (tileC g)) b g := setRow_heap w b _ _ _ _ h
theorem set4_chg {w : World} {b i : Nat} (v0 v1 v2 v3 : Value) : Chg b w ((((w.setCell ⟨b, i, none⟩ v0).setCell ⟨b, i + 1, none⟩ v1).setCell ⟨b, i + 2, none⟩ v2).setCell ⟨b, i + 3, none⟩ v3) :=
 ((((Chg.refl b w).setCell v0).setCell v1).setCell v2).setCell v3
section
variable {ops : Array Oper} {rest : List Oper} {o : Oper} {a : Act} {w : World} {Q : Exit → Act → World → Prop}
theorem wpList_loadT (hg : o.guard = none) (x : Operand) (ho : o.op = .load 70 x) (b : Nat) (hx : a.eval x = .pointer (some ⟨b, 0, none⟩)) {f : Nat → Px} (ht : TileAt w b f)
  (h : wpList Tryz.prog ops Q rest (a.put o.dst (Tile.v f)) w) : wpList Tryz.prog ops Q (o :: rest) a w :=
 wpList_plain hg fun K hK => by
  unfold Oper.wp execOp
  simp only [ho, hx, run_load_tile ht, Sem.run_bind, Sem.run_pure, Result.andThen_ok]
  exact hK _ _ h
theorem wpList_storeT (hg : o.guard = none) (x y : Operand) (ho : o.op = .store 70 x y) (b : Nat) (hx : a.eval x = .pointer (some ⟨b, 0, none⟩)) (g : Nat → Px) (hy : a.eval y = Tile.v g) {f : Nat → Px} (ht : TileAt w b f)
  (h : ∀ w', TileAt w' b g → Chg b w w' → w'.heap.size = w.heap.size → wpList Tryz.prog ops Q rest (a.put o.dst undef) w') : wpList Tryz.prog ops Q (o :: rest) a w :=
 wpList_plain hg fun K hK => by
  unfold Oper.wp execOp
  simp only [ho, hx, hy, run_store_tile ht, Sem.run_bind, Sem.run_pure, Result.andThen_ok]
  exact hK _ _ (h _ (ht.setRow g) ((Chg.refl b w).setRow _) (size_setRow _ _ _))
theorem wpList_boxT (hg : o.guard = none) (x : Operand) (ho : o.op = .box 70 x) (f : Nat → Px) (hx : a.eval x = Tile.v f)
  (h : ∀ w', TileAt w' w.heap.size f → Below w.heap.size w w' → w'.heap.size = w.heap.size + 1 → wpList Tryz.prog ops Q rest (a.put o.dst (.pointer (some ⟨w.heap.size, 0, none⟩))) w') : wpList Tryz.prog ops Q (o :: rest) a w :=
 Great.wpList_boxTo hg _ x ho _ rfl _ rfl (tileC f) (by rw [hx]; exact cells_tile f) (h _ (by unfold TileAt; rw [heap_get_alloc, if_pos rfl]) ((Below.refl _ _).alloc (Nat.le_refl _) _) (World.size_alloc _ _))
theorem run_alloc_tile (w : World) (o : Oper) (ho : o.op = .alloc 70) (ev : Operand → Value) : (execOp ev o).run Tryz.prog w = .ok (.value (.pointer (some ⟨w.heap.size, 0, none⟩))) (w.alloc (.cells (tileC fun _ => Px.zero) 70)) := by
 obtain ⟨d, p, t, ps, af, gd⟩ := o
 simp only at ho
 subst ho
 kernel_rfl
theorem wpList_allocT (hg : o.guard = none) (ho : o.op = .alloc 70)
  (h : ∀ w', TileAt w' w.heap.size (fun _ => Px.zero) → Below w.heap.size w w' → w'.heap.size = w.heap.size + 1 → wpList Tryz.prog ops Q rest (a.put o.dst (.pointer (some ⟨w.heap.size, 0, none⟩))) w') : wpList Tryz.prog ops Q (o :: rest) a w :=
 wpList_plain hg fun K hK => by
  unfold Oper.wp
  rw [run_alloc_tile w o ho]
  exact hK _ _ (h _ (by unfold TileAt; rw [heap_get_alloc, if_pos rfl]) ((Below.refl _ _).alloc (Nat.le_refl _) _) (World.size_alloc _ _))
variable {F : Fence} {n : Nat}
end
/-- A tile for a result. -/
theorem results_tile {fn : Func} {p : Tmp} (h : fn.results = #[.cell p 70]) (tmps : Array Value) (w : World) (b : Nat) (hp : tmps.getD p undef = .pointer (some ⟨b, 0, none⟩)) {f : Nat → Px} (ht : TileAt w b f) :
  (results fn tmps).run Tryz.prog w = .ok (Tile.v f) w :=
 results_cell_row h tmps w b _ _ _ _ hp ht Tryz.underlying70 rfl (tile_size f)
end Go.Proofs.YtamgpfblhlfhaaaGreat
/- 'rearrange', Flip and Turn of package tile. -/
namespace Go.Proofs.YtamgpfblhlfhaaaGreat
open Go.RowKit Pl
attribute [local go_sem] Oper.semAt_some
set_option linter.unusedVariables false
set_option linter.unusedSimpArgs false
set_option maxRecDepth 20000
/-- A tile filled position by position. -/
def part (g : Fin 64 → Px) (pre : List (Fin 64)) : Nat → Px := pre.foldl (fun f i => upd f i.val (g i)) (fun _ => Px.zero)
end Go.Proofs.YtamgpfblhlfhaaaGreat
/- Contracts of Flip, Turn, inside, Get, Set, Fill of package tile. -/
namespace Go.Proofs.YtamgpfblhlfhaaaGreat
open Go.RowKit Pl
set_option linter.unusedVariables false
set_option linter.unusedSimpArgs false
set_option maxRecDepth 20000
def flipT (t : Nat → Px) : Nat → Px := fun j => t (8 * (j / 8) + (7 - j % 8))
def turnT (t : Nat → Px) : Nat → Px := fun j => t (8 * (7 - j % 8) + j / 8)
/- Tiles: an index into a tile as a value, '==' of tiles, tiles filled from the left. -/
deriving instance DecidableEq for Px
/-- Two tiles are equal. -/
def eqT (f g : Nat → Px) : Bool := decide (∀ i ∈ List.range 64, f i = g i)
theorem eqT_iff (f g : Nat → Px) : eqT f g = true ↔ tileC f = tileC g := by
 unfold eqT
 simp only [decide_eq_true_eq, List.mem_range]
 exact ⟨fun h => tileC_congr h, fun h => tileC_inj h⟩
theorem eqT_refl (f : Nat → Px) : eqT f f = true := (eqT_iff f f).2 rfl
theorem extract_tile (f : Nat → Px) (k : Nat) (hk : k < 64) : (tileC f).extract (k * 4) (k * 4 + 4) = #[.int .u8 (f k).r, .int .u8 (f k).g, .int .u8 (f k).b, .int .u8 (f k).a] := by
 apply Array.ext_getElem?
 intro j
 rw [Array.getElem?_extract]
 simp only [size_tileC]
 by_cases hj : j < 4
 ·rw [if_pos (by omega), tileC_at f k j hk hj]
  have hc : j = 0 ∨ j = 1 ∨ j = 2 ∨ j = 3 := by omega
  rcases hc with rfl | rfl | rfl | rfl <;> rfl
 ·rw [if_neg (by omega)]
  exact (Array.getElem?_eq_none (by simp; omega)).symm
theorem Px.v_def (p : Px) : Px.v p = .agg #[.int .u8 p.r, .int .u8 p.g, .int .u8 p.b, .int .u8 p.a] := rfl
theorem isAgg_px (w : World) : (isAgg 25).run Tryz.prog w = .ok true w := by kernel_rfl
theorem sizeOf_px (w : World) : (sizeOf 25).run Tryz.prog w = .ok 4 w := by kernel_rfl
theorem cellsOf_px : Tryz.prog.cellsOf 25 = 4 := by kernel_rfl
theorem part_tile (f : Nat → Px) (k : Nat) (hk : k < 64) (w : World) : (Go.part 25 (tileC f) (k * 4)).run Tryz.prog w = .ok (Px.v (f k)) w := by
 unfold Go.part
 simp only [Sem.run_bind, isAgg_px, Result.andThen_ok, if_true, sizeOf_px, Sem.run_pure, extract_tile f k hk, Px.v_def]
theorem index_tile (f : Nat → Px) (k : Nat) (hk : k < 64) (w : World) : (Instr.index 70 (Tile.v f) (.int .i64 k)).run Tryz.prog w = .ok (Px.v (f k)) w := by
 unfold Instr.index Tile.v
 have e : (0 : Int) ≤ (k : Int) ∧ (k : Int) < 64 := by omega
 simp only [asIntOf, Sem.run_bind, Sem.run_pure, Result.andThen_ok, run_underlying Tryz.underlying70]
 rw [if_pos (by simpa using e)]
 simp only [Sem.run_bind, sizeOf_px, Result.andThen_ok, Int.toNat_natCast]
 exact part_tile f k hk w
/-- '==' of pixels, below. -/
theorem equalIn_px (d : Nat) (p q : Px) (w : World) : (Op.equalIn (d + 2) 25 (Px.v p) (Px.v q)).run Tryz.prog w = .ok (decide (p = q)) w := by
 have h : (Op.equalIn (d + 2) 25 (Px.v p) (Px.v q)).run Tryz.prog w = .ok (p.r == q.r && (p.g == q.g && (p.b == q.b && p.a == q.a))) w := by
  obtain ⟨r, g, b, a⟩ := p
  obtain ⟨r', g', b', a'⟩ := q
  simp only [Px.v]
  by_cases h1 : r = r' <;> by_cases h2 : g = g' <;> by_cases h3 : b = b' <;> by_cases h4 : a = a' <;> simp [go_sem, h1, h2, h3, h4]
 rw [h]
 congr 1
 obtain ⟨a, b, c, d⟩ := p
 obtain ⟨a', b', c', d'⟩ := q
 rw [Bool.eq_iff_iff]
 simp
theorem eqItems_tile (f g : Nat → Px) (w : World) : ∀ is : List Nat, (∀ i ∈ is, i < 64) → (Op.eqItems 9999 25 4 (tileC f) (tileC g) is).run Tryz.prog w = .ok (decide (∀ i ∈ is, f i = g i)) w
 | [], _ => by simp [Op.eqItems]
 | i :: is, h => by
  have hi : i < 64 := h i (by simp)
  simp only [Op.eqItems, Sem.run_bind, part_tile f i hi, part_tile g i hi, Result.andThen_ok, equalIn_px 9997]
  by_cases e : f i = g i
  ·simp [e, eqItems_tile f g w is (fun j hj => h j (by simp [hj]))]
  ·simp [e]
theorem equalIn_tile (f g : Nat → Px) (w : World) : (Op.equalIn 10000 70 (Tile.v f) (Tile.v g)).run Tryz.prog w = .ok (eqT f g) w := by
 obtain ⟨i, hi⟩ : ∃ i, Tryz.prog.info? 25 = some i := by
  cases h : Tryz.prog.info? 25 with
  | some i => exact ⟨i, rfl⟩
  | none =>
   have e : (Tryz.prog.info? 25).isSome = true := by kernel_rfl
   rw [h] at e; cases e
 unfold Tile.v
 refine (run_equalIn_array w 9999 (tileC f) (tileC g) Tryz.underlying70 hi).trans ?_
 rw [cellsOf_px, eqItems_tile f g w _ (fun i hi => List.mem_range.1 hi)]
 rfl
/-- '==' of tiles. -/
theorem eql_tile (f g : Nat → Px) (w : World) : (binOp .eql 70 (Tile.v f) (Tile.v g)).run Tryz.prog w = .ok (.bool (eqT f g)) w := by
 have h := run_eql_struct (P := Tryz.prog) w 70 (tileC f) (tileC g)
 have e := equalIn_tile f g w
 unfold Tile.v at e ⊢
 rw [h, e]; rfl
theorem neq_tile (f g : Nat → Px) (w : World) : (binOp .neq 70 (Tile.v f) (Tile.v g)).run Tryz.prog w = .ok (.bool (!eqT f g)) w := by
 have h := run_neq_struct (P := Tryz.prog) w 70 (tileC f) (tileC g)
 have e := equalIn_tile f g w
 unfold Tile.v at e ⊢
 rw [h, e]; rfl
theorem zero_tile : Tile.v (fun _ => Px.zero) = .agg (Array.replicate 256 (.int .u8 0)) := by
 unfold Tile.v
 congr 1
 apply Array.ext_getElem?
 intro k
 rw [get_tileC, Array.getElem?_replicate]
 have hc : k % 4 = 0 ∨ k % 4 = 1 ∨ k % 4 = 2 ∨ k % 4 = 3 := by omega
 rcases hc with h | h | h | h <;> simp [h, pxC, Px.zero]
theorem run_build_tile (w : World) (o : Oper) (ho : o.op = .build 70 #[]) (ev : Operand → Value) : (execOp ev o).run Tryz.prog w = .ok (.value (Tile.v fun _ => Px.zero)) w := by
 rw [zero_tile]
 obtain ⟨d, p, t, ps, af, gd⟩ := o
 simp only at ho
 subst ho
 kernel_rfl
theorem wpList_buildT {ops : Array Oper} {rest : List Oper} {o : Oper} {a : Act} {w : World} {Q : Exit → Act → World → Prop} (hg : o.guard = none) (ho : o.op = .build 70 #[])
  (h : wpList Tryz.prog ops Q rest (a.put o.dst (Tile.v fun _ => Px.zero)) w) : wpList Tryz.prog ops Q (o :: rest) a w :=
 wpList_plain hg fun K hK => by
  unfold Oper.wp
  rw [run_build_tile w o ho]
  exact hK _ _ h
theorem neq_px (p q : Px) (w : World) : (binOp .neq 25 (Px.v p) (Px.v q)).run Tryz.prog w = .ok (.bool (!decide (p = q))) w := by
 have h := run_neq_struct (P := Tryz.prog) w 25 #[.int .u8 p.r, .int .u8 p.g, .int .u8 p.b, .int .u8 p.a] #[.int .u8 q.r, .int .u8 q.g, .int .u8 q.b, .int .u8 q.a]
 have e := equalIn_px 9998 p q w
 rw [Px.v_def, Px.v_def] at e ⊢
 rw [h, e]; rfl
/-- The first k pixels are those of g, the others those of f. -/
def stepT (f g : Nat → Px) (k : Nat) : Nat → Px := fun j => if j < k then g j else f j
theorem stepT_zero (f g : Nat → Px) : stepT f g 0 = f := by funext j; simp [stepT]
theorem stepT_next (f g : Nat → Px) (k : Nat) : upd (stepT f g k) k (g k) = stepT f g (k + 1) := by
 funext j
 unfold upd stepT
 by_cases h : j = k
 ·subst h; simp
 ·rw [if_neg h]
  by_cases h2 : j < k
  ·rw [if_pos h2, if_pos (by omega)]
  ·rw [if_neg h2, if_neg (by omega)]
theorem stepT_at (f g : Nat → Px) (k : Nat) : stepT f g k k = f k := by simp [stepT]
theorem stepT_all (f g : Nat → Px) : tileC (stepT f g 64) = tileC g := tileC_congr fun i hi => by simp [stepT, hi]
theorem TileAt.congr {w : World} {b : Nat} {f g : Nat → Px} (h : TileAt w b f) (e : tileC f = tileC g) : TileAt w b g := by unfold TileAt at h ⊢; rw [← e]; exact h
/- Laws of the walk for pixels: a pixel of a tile loaded and stored, a pixel boxed, made, loaded, stored. The worlds behind are variables. -/
def pxA (p : Px) : Array Value := #[.int .u8 p.r, .int .u8 p.g, .int .u8 p.b, .int .u8 p.a]
/-- The block b holds a pixel. -/
def PixAt (w : World) (b : Nat) (p : Px) : Prop := w.heap[b]? = some (.cells (pxA p) 25 (0, 0))
theorem PixAt.of_eq {w w' : World} {b : Nat} {p : Px} (h : PixAt w b p) (e : w'.heap[b]? = w.heap[b]?) : PixAt w' b p := e.trans h
theorem PixAt.lt {w : World} {b : Nat} {p : Px} (h : PixAt w b p) : b < w.heap.size := (Array.getElem?_eq_some_iff.1 h).1
theorem PixAt.below {w w' : World} {b : Nat} {p : Px} (h : PixAt w b p) (e : Below w.heap.size w w') : PixAt w' b p := h.of_eq (e.block _ h.lt)
theorem pxA_size (p : Px) : (Tryz.prog.info? 25).map (·.size) = some (pxA p).size := by
 show _ = some 4
 kernel_rfl
theorem pxA_oneCell (p : Px) : (pxA p).all (·.oneCell') = true := by simp [pxA, Value.oneCell']
theorem run_load_px {w : World} {b : Nat} {p : Px} (h : PixAt w b p) : (Instr.loadAt 25 (.pointer (some ⟨b, 0, none⟩))).run Tryz.prog w = .ok (Px.v p) w := by
 simp only [Instr.loadAt, Instr.sureAddr, Sem.run_bind, Sem.run_pure, Result.andThen_ok]
 exact run_loadVar_row w b _ 25 _ _ _ h Tryz.underlying25 rfl (pxA_size p)
theorem run_store_px {w : World} {b : Nat} {p : Px} (h : PixAt w b p) (q : Px) : (Instr.storeAt 25 (.pointer (some ⟨b, 0, none⟩)) (Px.v q)).run Tryz.prog w = .ok () (w.setRow b (pxA q)) := by
 simp only [Instr.storeAt, Instr.sureAddr, Sem.run_bind, Sem.run_pure, Result.andThen_ok]
 exact run_storeVar_row w b _ 25 _ _ h (pxA_size q) rfl (pxA_oneCell q)
theorem run_load_tp {w : World} {b i : Nat} {f : Nat → Px} (h : TileAt w b f) (hi : i < 64) : (Instr.loadAt 25 (.pointer (some ⟨b, i * 4, none⟩))).run Tryz.prog w = .ok (Px.v (f i)) w := by
 obtain ⟨c0, c1, c2, c3⟩ := h.cells hi
 simp [go_sem, c0, c1, c2, c3, Px.v]
theorem run_store_tp {w : World} {b i : Nat} {f : Nat → Px} (h : TileAt w b f) (hi : i < 64) (p : Px) : (Instr.storeAt 25 (.pointer (some ⟨b, i * 4, none⟩)) (Px.v p)).run Tryz.prog w =
  .ok () ((((w.setCell ⟨b, i * 4, none⟩ (.int .u8 p.r)).setCell ⟨b, i * 4 + 1, none⟩ (.int .u8 p.g)).setCell ⟨b, i * 4 + 2, none⟩ (.int .u8 p.b)).setCell ⟨b, i * 4 + 3, none⟩ (.int .u8 p.a)) := by
 obtain ⟨c0, c1, c2, c3⟩ := h.cells hi
 have hf := h.frozen
 simp [go_sem, c0, c1, c2, c3, hf, Px.v]
theorem run_alloc_px (w : World) (o : Oper) (ho : o.op = .alloc 25) (ev : Operand → Value) : (execOp ev o).run Tryz.prog w = .ok (.value (.pointer (some ⟨w.heap.size, 0, none⟩))) (w.alloc (.cells (pxA Px.zero) 25)) := by
 obtain ⟨d, p, t, ps, af, gd⟩ := o
 simp only at ho
 subst ho
 kernel_rfl
theorem set4_size {w : World} {b i : Nat} (v0 v1 v2 v3 : Value) : ((((w.setCell ⟨b, i, none⟩ v0).setCell ⟨b, i + 1, none⟩ v1).setCell ⟨b, i + 2, none⟩ v2).setCell ⟨b, i + 3, none⟩ v3).heap.size = w.heap.size := by
 simp only [World.size_setCell]
section
variable {ops : Array Oper} {rest : List Oper} {o : Oper} {a : Act} {w : World} {Q : Exit → Act → World → Prop}
theorem wpList_loadPx (hg : o.guard = none) (x : Operand) (ho : o.op = .load 25 x) (b : Nat) (hx : a.eval x = .pointer (some ⟨b, 0, none⟩)) {p : Px} (ht : PixAt w b p)
  (h : wpList Tryz.prog ops Q rest (a.put o.dst (Px.v p)) w) : wpList Tryz.prog ops Q (o :: rest) a w :=
 wpList_plain hg fun K hK => by
  unfold Oper.wp execOp
  simp only [ho, hx, run_load_px ht, Sem.run_bind, Sem.run_pure, Result.andThen_ok]
  exact hK _ _ h
theorem wpList_storePx (hg : o.guard = none) (x y : Operand) (ho : o.op = .store 25 x y) (b : Nat) (hx : a.eval x = .pointer (some ⟨b, 0, none⟩)) (q : Px) (hy : a.eval y = Px.v q) {p : Px} (ht : PixAt w b p)
  (h : ∀ w', PixAt w' b q → Chg b w w' → w'.heap.size = w.heap.size → wpList Tryz.prog ops Q rest (a.put o.dst undef) w') : wpList Tryz.prog ops Q (o :: rest) a w :=
 wpList_plain hg fun K hK => by
  unfold Oper.wp execOp
  simp only [ho, hx, hy, run_store_px ht q, Sem.run_bind, Sem.run_pure, Result.andThen_ok]
  exact hK _ _ (h _ (setRow_heap w b _ _ _ _ ht) ((Chg.refl b w).setRow _) (size_setRow _ _ _))
theorem wpList_loadTp (hg : o.guard = none) (x : Operand) (ho : o.op = .load 25 x) (b j : Nat) (hx : a.eval x = .pointer (some ⟨b, j, none⟩)) {f : Nat → Px} (ht : TileAt w b f) (i : Nat) (hi : i < 64) (hj : j = i * 4)
  (h : wpList Tryz.prog ops Q rest (a.put o.dst (Px.v (f i))) w) : wpList Tryz.prog ops Q (o :: rest) a w :=
 wpList_plain hg fun K hK => by
  subst hj
  unfold Oper.wp execOp
  simp only [ho, hx, run_load_tp ht hi, Sem.run_bind, Sem.run_pure, Result.andThen_ok]
  exact hK _ _ h
theorem wpList_storeTp (hg : o.guard = none) (x y : Operand) (ho : o.op = .store 25 x y) (b j : Nat) (hx : a.eval x = .pointer (some ⟨b, j, none⟩)) (q : Px) (hy : a.eval y = Px.v q) {f : Nat → Px} (ht : TileAt w b f) (i : Nat) (hi : i < 64) (hj : j = i * 4)
  (h : ∀ w', TileAt w' b (upd f i q) → Chg b w w' → w'.heap.size = w.heap.size → wpList Tryz.prog ops Q rest (a.put o.dst undef) w') : wpList Tryz.prog ops Q (o :: rest) a w :=
 wpList_plain hg fun K hK => by
  subst hj
  unfold Oper.wp execOp
  simp only [ho, hx, hy, run_store_tp ht hi q, Sem.run_bind, Sem.run_pure, Result.andThen_ok]
  exact hK _ _ (h _ (ht.set hi q) (set4_chg _ _ _ _) (set4_size _ _ _ _))
theorem wpList_boxPx (hg : o.guard = none) (x : Operand) (ho : o.op = .box 25 x) (p : Px) (hx : a.eval x = Px.v p)
  (h : ∀ w', PixAt w' w.heap.size p → Below w.heap.size w w' → w'.heap.size = w.heap.size + 1 → wpList Tryz.prog ops Q rest (a.put o.dst (.pointer (some ⟨w.heap.size, 0, none⟩))) w') : wpList Tryz.prog ops Q (o :: rest) a w :=
 Great.wpList_boxTo hg _ x ho _ rfl _ rfl (pxA p) (by rw [hx]; rfl) (h _ (by unfold PixAt; rw [heap_get_alloc, if_pos rfl]) ((Below.refl _ _).alloc (Nat.le_refl _) _) (World.size_alloc _ _))
theorem wpList_buildPx (hg : o.guard = none) (ho : o.op = .build 25 #[])
  (h : wpList Tryz.prog ops Q rest (a.put o.dst (Px.v Px.zero)) w) : wpList Tryz.prog ops Q (o :: rest) a w :=
 wpList_plain hg fun K hK => by
  have e : (execOp a.eval o).run Tryz.prog w = .ok (.value (Px.v Px.zero)) w := by
   obtain ⟨d, p, t, ps, af, gd⟩ := o
   simp only at ho
   subst ho
   kernel_rfl
  unfold Oper.wp
  rw [e]
  exact hK _ _ h
theorem wpList_allocPx (hg : o.guard = none) (ho : o.op = .alloc 25)
  (h : ∀ w', PixAt w' w.heap.size Px.zero → Below w.heap.size w w' → w'.heap.size = w.heap.size + 1 → wpList Tryz.prog ops Q rest (a.put o.dst (.pointer (some ⟨w.heap.size, 0, none⟩))) w') : wpList Tryz.prog ops Q (o :: rest) a w :=
 wpList_plain hg fun K hK => by
  unfold Oper.wp
  rw [run_alloc_px w o ho]
  exact hK _ _ (h _ (by unfold PixAt; rw [heap_get_alloc, if_pos rfl]) ((Below.refl _ _).alloc (Nat.le_refl _) _) (World.size_alloc _ _))
end
/-- A pixel for a result. -/
theorem results_px {fn : Func} {p : Tmp} (h : fn.results = #[.cell p 25]) (tmps : Array Value) (w : World) (b : Nat) (hp : tmps.getD p undef = .pointer (some ⟨b, 0, none⟩)) {q : Px} (ht : PixAt w b q) :
  (results fn tmps).run Tryz.prog w = .ok (Px.v q) w :=
 results_cell_row h tmps w b _ _ _ _ hp ht Tryz.underlying25 rfl (pxA_size q)
/- Contracts of inside, Get, Set, Fill of package tile and of the reference. -/
def insB (x y : Int) : Bool := decide (0 ≤ x ∧ x < 8 ∧ 0 ≤ y ∧ y < 8)
def posI (x y : Int) : Nat := (8 * y + x).toNat
def getT (t : Nat → Px) (x y : Int) : Px := if insB x y = true then t (posI x y) else Px.zero
def setT (t : Nat → Px) (x y : Int) (p : Px) : Nat → Px := if insB x y = true then upd t (posI x y) p else t
theorem insB_true {x y : Int} (h : insB x y = true) : 0 ≤ x ∧ x < 8 ∧ 0 ≤ y ∧ y < 8 ∧ posI x y < 64 ∧ ((posI x y : Nat) : Int) = 8 * y + x := by
 unfold insB at h
 have h := of_decide_eq_true h
 unfold posI
 omega
theorem P_inside (x y : Int) (w : World) : Calls Tryz.prog 91 #[.int .i64 x, .int .i64 y] w fun e w' => e = .returned (.bool (insB x y)) ∧ w = w' := by
 by_cases h0 : 0 ≤ x
 rotate_left
 ·have e1 : insB x y = false := by unfold insB; exact decide_eq_false (by omega)
  have d1 : decide (0 ≤ x) = false := decide_eq_false (by omega)
  rw [e1]; clear e1
  go_enter Tryz.func91, Tryz.ntmps91
  go_wp2
  go_ret
  exact ⟨rfl, rfl⟩
 by_cases h1 : x < 8
 rotate_left
 ·have e1 : insB x y = false := by unfold insB; exact decide_eq_false (by omega)
  have d1 : decide (x < 8) = false := decide_eq_false (by omega)
  rw [e1]; clear e1
  go_enter Tryz.func91, Tryz.ntmps91
  go_wp2
  go_ret
  exact ⟨rfl, rfl⟩
 by_cases h2 : 0 ≤ y
 rotate_left
 ·have e1 : insB x y = false := by unfold insB; exact decide_eq_false (by omega)
  have d1 : decide (0 ≤ y) = false := decide_eq_false (by omega)
  rw [e1]; clear e1
  go_enter Tryz.func91, Tryz.ntmps91
  go_wp2
  go_ret
  exact ⟨rfl, rfl⟩
 by_cases h3 : y < 8
 rotate_left
 ·have e1 : insB x y = false := by unfold insB; exact decide_eq_false (by omega)
  have d1 : decide (y < 8) = false := decide_eq_false (by omega)
  rw [e1]; clear e1
  go_enter Tryz.func91, Tryz.ntmps91
  go_wp2
  go_ret
  exact ⟨rfl, rfl⟩
 have e1 : insB x y = true := by unfold insB; exact decide_eq_true (by omega)
 rw [e1]; clear e1
 go_enter Tryz.func91, Tryz.ntmps91
 go_wp2
 go_ret
 exact ⟨rfl, rfl⟩
theorem R_inside (x y : Int) (w : World) : Calls Tryz.prog 114 #[.int .i64 x, .int .i64 y] w fun e w' => e = .returned (.bool (insB x y)) ∧ w = w' := by
 by_cases h0 : 0 ≤ x
 rotate_left
 ·have e1 : insB x y = false := by unfold insB; exact decide_eq_false (by omega)
  have d1 : decide (0 ≤ x) = false := decide_eq_false (by omega)
  rw [e1]; clear e1
  go_enter Tryz.func114, Tryz.ntmps114
  go_wp2
  go_ret
  exact ⟨rfl, rfl⟩
 by_cases h1 : x < 8
 rotate_left
 ·have e1 : insB x y = false := by unfold insB; exact decide_eq_false (by omega)
  have d1 : decide (x < 8) = false := decide_eq_false (by omega)
  rw [e1]; clear e1
  go_enter Tryz.func114, Tryz.ntmps114
  go_wp2
  go_ret
  exact ⟨rfl, rfl⟩
 by_cases h2 : 0 ≤ y
 rotate_left
 ·have e1 : insB x y = false := by unfold insB; exact decide_eq_false (by omega)
  have d1 : decide (0 ≤ y) = false := decide_eq_false (by omega)
  rw [e1]; clear e1
  go_enter Tryz.func114, Tryz.ntmps114
  go_wp2
  go_ret
  exact ⟨rfl, rfl⟩
 by_cases h3 : y < 8
 rotate_left
 ·have e1 : insB x y = false := by unfold insB; exact decide_eq_false (by omega)
  have d1 : decide (y < 8) = false := decide_eq_false (by omega)
  rw [e1]; clear e1
  go_enter Tryz.func114, Tryz.ntmps114
  go_wp2
  go_ret
  exact ⟨rfl, rfl⟩
 have e1 : insB x y = true := by unfold insB; exact decide_eq_true (by omega)
 rw [e1]; clear e1
 go_enter Tryz.func114, Tryz.ntmps114
 go_wp2
 go_ret
 exact ⟨rfl, rfl⟩
set_option maxHeartbeats 1000000 in
set_option maxRecDepth 20000 in
theorem P_Get (t : Nat → Px) (x y : Int) (w : World) : Calls Tryz.prog 94 #[Tile.v t, .int .i64 x, .int .i64 y] w fun e w' => e = .returned (Px.v (getT t x y)) ∧ Below w.heap.size w w' := by
 cases hi : insB x y with
 | false =>
  have e1 : getT t x y = Px.zero := by unfold getT; rw [hi]; rfl
  rw [e1]; clear e1
  go_enter Tryz.func94, Tryz.ntmps94
  go_wp2_with (first | (refine wpList_storePx rfl _ _ rfl _ rfl _ rfl h2 ?_; clear h2; intro w3 h2 hc3 hz3; replace hz3 := Nat.le_of_eq hz3.symm; replace h1 := h1.of_eq (hc3.block _ h1.lt (by omega)); simp only [putS]) | (refine wpList_buildPx rfl rfl ?_; simp only [putS]) | (refine wpList_allocPx rfl rfl ?_; intro w2 h2 hb2 hz2; have l2 := Nat.lt_of_lt_of_eq (Nat.lt_succ_self _) hz2.symm; clear hz2; replace h1 := h1.of_eq (hb2.block _ h1.lt); simp only [putS]) | (refine wpList_boxT rfl _ rfl _ rfl ?_; intro w1 h1 hb1 hz1; have l1 := Nat.lt_of_lt_of_eq (Nat.lt_succ_self _) hz1.symm; clear hz1; simp only [putS]) | (go_at_call 91; refine (P_inside _ _ _).mono ?_; rintro e w' ⟨rfl, rfl⟩))
  refine bodyPost_ret (results_px rfl _ _ (w1.heap.size) rfl h2) rfl ?_
  refine ⟨rfl, ?_⟩
  repeat' (first | (with_reducible exact Below.refl _ _) | (with_reducible assumption) | (with_reducible refine Below.trans ?_ (hb1.mono (by omega))) | (with_reducible refine Below.trans ?_ (hb2.mono (by omega))) | (with_reducible refine Chg.below ?_ hc3 (by omega) (by omega)))
 | true =>
  have e1 : getT t x y = t (posI x y) := by unfold getT; rw [hi]; rfl
  rw [e1]; clear e1
  obtain ⟨h1, h2, h3, h4, h5, h6⟩ := insB_true hi
  have n1 : 0 ≤ 8 * y + x := by omega
  have n2 : 8 * y + x < 64 := by omega
  have e7 : (8 * y + x).toNat = posI x y := rfl
  go_enter Tryz.func94, Tryz.ntmps94
  go_wp2_with (first | (refine wpList_storePx rfl _ _ rfl _ rfl _ rfl t2 ?_; clear t2; intro w3 t2 hc3 hz3; replace hz3 := Nat.le_of_eq hz3.symm; replace t1 := t1.of_eq (hc3.block _ t1.lt (by omega)); simp only [putS]) | (refine wpList_loadTp rfl _ rfl _ _ rfl t1 (posI x y) (by assumption) (by first | rfl | omega) ?_; simp only [putS]) | (refine wpList_allocPx rfl rfl ?_; intro w2 t2 hb2 hz2; have l2 := Nat.lt_of_lt_of_eq (Nat.lt_succ_self _) hz2.symm; clear hz2; replace t1 := t1.of_eq (hb2.block _ t1.lt); simp only [putS]) | (refine wpList_boxT rfl _ rfl _ rfl ?_; intro w1 t1 hb1 hz1; have l1 := Nat.lt_of_lt_of_eq (Nat.lt_succ_self _) hz1.symm; clear hz1; simp only [putS]) | (go_at_call 91; refine (P_inside _ _ _).mono ?_; rintro e w' ⟨rfl, rfl⟩))
  refine bodyPost_ret (results_px rfl _ _ (w1.heap.size) rfl t2) rfl ?_
  refine ⟨rfl, ?_⟩
  repeat' (first | (with_reducible exact Below.refl _ _) | (with_reducible assumption) | (with_reducible refine Below.trans ?_ (hb1.mono (by omega))) | (with_reducible refine Below.trans ?_ (hb2.mono (by omega))) | (with_reducible refine Chg.below ?_ hc3 (by omega) (by omega)))
set_option maxHeartbeats 1000000 in
set_option maxRecDepth 20000 in
theorem P_Set (t : Nat → Px) (x y : Int) (p : Px) (w : World) : Calls Tryz.prog 55 #[Tile.v t, .int .i64 x, .int .i64 y, Px.v p] w fun e w' => e = .returned (Tile.v (setT t x y p)) ∧ Below w.heap.size w w' := by
 cases hi : insB x y with
 | false =>
  have e1 : setT t x y p = t := by unfold setT; rw [hi]; rfl
  rw [e1]; clear e1
  go_enter Tryz.func55, Tryz.ntmps55
  go_wp2_with (first | (refine wpList_storeT rfl _ _ rfl _ rfl _ rfl t3 ?_; clear t3; intro w4 t3 hc4 hz4; replace hz4 := Nat.le_of_eq hz4.symm; replace t1 := t1.of_eq (hc4.block _ t1.lt (by omega)); simp only [putS]) | (refine wpList_loadT rfl _ rfl _ rfl t1 ?_; simp only [putS]) | (refine wpList_allocT rfl rfl ?_; intro w3 t3 hb3 hz3; have l3 := Nat.lt_of_lt_of_eq (Nat.lt_succ_self _) hz3.symm; clear hz3; replace t1 := t1.of_eq (hb3.block _ t1.lt); replace t2 := t2.of_eq (hb3.block _ t2.lt); simp only [putS]) | (refine wpList_boxPx rfl _ rfl _ rfl ?_; intro w2 t2 hb2 hz2; have l2 := Nat.lt_of_lt_of_eq (Nat.lt_succ_self _) hz2.symm; clear hz2; replace t1 := t1.of_eq (hb2.block _ t1.lt); simp only [putS]) | (refine wpList_boxT rfl _ rfl _ rfl ?_; intro w1 t1 hb1 hz1; have l1 := Nat.lt_of_lt_of_eq (Nat.lt_succ_self _) hz1.symm; clear hz1; simp only [putS]) | (go_at_call 91; refine (P_inside _ _ _).mono ?_; rintro e w' ⟨rfl, rfl⟩))
  refine bodyPost_ret (results_tile rfl _ _ (w2.heap.size) rfl t3) rfl ?_
  refine ⟨rfl, ?_⟩
  repeat' (first | (with_reducible exact Below.refl _ _) | (with_reducible assumption) | (with_reducible refine Below.trans ?_ (hb1.mono (by omega))) | (with_reducible refine Below.trans ?_ (hb2.mono (by omega))) | (with_reducible refine Below.trans ?_ (hb3.mono (by omega))) | (with_reducible refine Chg.below ?_ hc4 (by omega) (by omega)))
 | true =>
  have e1 : setT t x y p = upd t (posI x y) p := by unfold setT; rw [hi]; rfl
  rw [e1]; clear e1
  obtain ⟨h1, h2, h3, h4, h5, h6⟩ := insB_true hi
  have n1 : 0 ≤ 8 * y + x := by omega
  have n2 : 8 * y + x < 64 := by omega
  have e7 : (8 * y + x).toNat = posI x y := rfl
  go_enter Tryz.func55, Tryz.ntmps55
  go_wp2_with (first | (refine wpList_storeT rfl _ _ rfl _ rfl _ rfl t3 ?_; clear t3; intro w5 t3 hc5 hz5; replace hz5 := Nat.le_of_eq hz5.symm; replace t1 := t1.of_eq (hc5.block _ t1.lt (by omega)); simp only [putS]) | (refine wpList_loadT rfl _ rfl _ rfl t1 ?_; simp only [putS]) | (refine wpList_storeTp rfl _ _ rfl _ _ rfl _ rfl t1 (posI x y) (by assumption) (by first | rfl | omega) ?_; clear t1; intro w4 t1 hc4 hz4; replace hz4 := Nat.le_of_eq hz4.symm; replace t2 := t2.of_eq (hc4.block _ t2.lt (by omega)); replace t3 := t3.of_eq (hc4.block _ t3.lt (by omega)); simp only [putS]) | (refine wpList_loadPx rfl _ rfl _ rfl t2 ?_; simp only [putS]) | (refine wpList_allocT rfl rfl ?_; intro w3 t3 hb3 hz3; have l3 := Nat.lt_of_lt_of_eq (Nat.lt_succ_self _) hz3.symm; clear hz3; replace t1 := t1.of_eq (hb3.block _ t1.lt); replace t2 := t2.of_eq (hb3.block _ t2.lt); simp only [putS]) | (refine wpList_boxPx rfl _ rfl _ rfl ?_; intro w2 t2 hb2 hz2; have l2 := Nat.lt_of_lt_of_eq (Nat.lt_succ_self _) hz2.symm; clear hz2; replace t1 := t1.of_eq (hb2.block _ t1.lt); simp only [putS]) | (refine wpList_boxT rfl _ rfl _ rfl ?_; intro w1 t1 hb1 hz1; have l1 := Nat.lt_of_lt_of_eq (Nat.lt_succ_self _) hz1.symm; clear hz1; simp only [putS]) | (go_at_call 91; refine (P_inside _ _ _).mono ?_; rintro e w' ⟨rfl, rfl⟩))
  refine bodyPost_ret (results_tile rfl _ _ (w2.heap.size) rfl t3) rfl ?_
  refine ⟨rfl, ?_⟩
  repeat' (first | (with_reducible exact Below.refl _ _) | (with_reducible assumption) | (with_reducible refine Below.trans ?_ (hb1.mono (by omega))) | (with_reducible refine Below.trans ?_ (hb2.mono (by omega))) | (with_reducible refine Below.trans ?_ (hb3.mono (by omega))) | (with_reducible refine Chg.below ?_ hc4 (by omega) (by omega)) | (with_reducible refine Chg.below ?_ hc5 (by omega) (by omega)))
set_option maxHeartbeats 1000000 in
set_option maxRecDepth 20000 in
theorem R_Set (t : Nat → Px) (x y : Int) (p : Px) (w : World) : Calls Tryz.prog 73 #[Tile.v t, .int .i64 x, .int .i64 y, Px.v p] w fun e w' => e = .returned (Tile.v (setT t x y p)) ∧ Below w.heap.size w w' := by
 cases hi : insB x y with
 | false =>
  have e1 : setT t x y p = t := by unfold setT; rw [hi]; rfl
  rw [e1]; clear e1
  go_enter Tryz.func73, Tryz.ntmps73
  go_wp2_with (first | (refine wpList_storeT rfl _ _ rfl _ rfl _ rfl t3 ?_; clear t3; intro w4 t3 hc4 hz4; replace hz4 := Nat.le_of_eq hz4.symm; replace t1 := t1.of_eq (hc4.block _ t1.lt (by omega)); simp only [putS]) | (refine wpList_loadT rfl _ rfl _ rfl t1 ?_; simp only [putS]) | (refine wpList_allocT rfl rfl ?_; intro w3 t3 hb3 hz3; have l3 := Nat.lt_of_lt_of_eq (Nat.lt_succ_self _) hz3.symm; clear hz3; replace t1 := t1.of_eq (hb3.block _ t1.lt); replace t2 := t2.of_eq (hb3.block _ t2.lt); simp only [putS]) | (refine wpList_boxPx rfl _ rfl _ rfl ?_; intro w2 t2 hb2 hz2; have l2 := Nat.lt_of_lt_of_eq (Nat.lt_succ_self _) hz2.symm; clear hz2; replace t1 := t1.of_eq (hb2.block _ t1.lt); simp only [putS]) | (refine wpList_boxT rfl _ rfl _ rfl ?_; intro w1 t1 hb1 hz1; have l1 := Nat.lt_of_lt_of_eq (Nat.lt_succ_self _) hz1.symm; clear hz1; simp only [putS]) | (go_at_call 114; refine (R_inside _ _ _).mono ?_; rintro e w' ⟨rfl, rfl⟩))
  refine bodyPost_ret (results_tile rfl _ _ (w2.heap.size) rfl t3) rfl ?_
  refine ⟨rfl, ?_⟩
  repeat' (first | (with_reducible exact Below.refl _ _) | (with_reducible assumption) | (with_reducible refine Below.trans ?_ (hb1.mono (by omega))) | (with_reducible refine Below.trans ?_ (hb2.mono (by omega))) | (with_reducible refine Below.trans ?_ (hb3.mono (by omega))) | (with_reducible refine Chg.below ?_ hc4 (by omega) (by omega)))
 | true =>
  have e1 : setT t x y p = upd t (posI x y) p := by unfold setT; rw [hi]; rfl
  rw [e1]; clear e1
  obtain ⟨h1, h2, h3, h4, h5, h6⟩ := insB_true hi
  have n1 : 0 ≤ 8 * y + x := by omega
  have n2 : 8 * y + x < 64 := by omega
  have e7 : (8 * y + x).toNat = posI x y := rfl
  go_enter Tryz.func73, Tryz.ntmps73
  go_wp2_with (first | (refine wpList_storeT rfl _ _ rfl _ rfl _ rfl t3 ?_; clear t3; intro w5 t3 hc5 hz5; replace hz5 := Nat.le_of_eq hz5.symm; replace t1 := t1.of_eq (hc5.block _ t1.lt (by omega)); simp only [putS]) | (refine wpList_loadT rfl _ rfl _ rfl t1 ?_; simp only [putS]) | (refine wpList_storeTp rfl _ _ rfl _ _ rfl _ rfl t1 (posI x y) (by assumption) (by first | rfl | omega) ?_; clear t1; intro w4 t1 hc4 hz4; replace hz4 := Nat.le_of_eq hz4.symm; replace t2 := t2.of_eq (hc4.block _ t2.lt (by omega)); replace t3 := t3.of_eq (hc4.block _ t3.lt (by omega)); simp only [putS]) | (refine wpList_loadPx rfl _ rfl _ rfl t2 ?_; simp only [putS]) | (refine wpList_allocT rfl rfl ?_; intro w3 t3 hb3 hz3; have l3 := Nat.lt_of_lt_of_eq (Nat.lt_succ_self _) hz3.symm; clear hz3; replace t1 := t1.of_eq (hb3.block _ t1.lt); replace t2 := t2.of_eq (hb3.block _ t2.lt); simp only [putS]) | (refine wpList_boxPx rfl _ rfl _ rfl ?_; intro w2 t2 hb2 hz2; have l2 := Nat.lt_of_lt_of_eq (Nat.lt_succ_self _) hz2.symm; clear hz2; replace t1 := t1.of_eq (hb2.block _ t1.lt); simp only [putS]) | (refine wpList_boxT rfl _ rfl _ rfl ?_; intro w1 t1 hb1 hz1; have l1 := Nat.lt_of_lt_of_eq (Nat.lt_succ_self _) hz1.symm; clear hz1; simp only [putS]) | (go_at_call 114; refine (R_inside _ _ _).mono ?_; rintro e w' ⟨rfl, rfl⟩))
  refine bodyPost_ret (results_tile rfl _ _ (w2.heap.size) rfl t3) rfl ?_
  refine ⟨rfl, ?_⟩
  repeat' (first | (with_reducible exact Below.refl _ _) | (with_reducible assumption) | (with_reducible refine Below.trans ?_ (hb1.mono (by omega))) | (with_reducible refine Below.trans ?_ (hb2.mono (by omega))) | (with_reducible refine Below.trans ?_ (hb3.mono (by omega))) | (with_reducible refine Chg.below ?_ hc4 (by omega) (by omega)) | (with_reducible refine Chg.below ?_ hc5 (by omega) (by omega)))
/- Contracts of Fill and Clean of package tile and of the reference. -/
def fillT (p : Px) : Nat → Px := fun _ => p
def cleanT (t : Nat → Px) : Nat → Px := fun i => cleanP (t i)
def zeroT : Nat → Px := fun _ => Px.zero
end Go.Proofs.YtamgpfblhlfhaaaGreat
/- Contracts of 'channels', Clean, Fade, of package pixel and of the reference's. -/
namespace Go.Proofs.YtamgpfblhlfhaaaGreat
open Go.RowKit Pl
set_option linter.unusedVariables false
set_option linter.unusedSimpArgs false
/- Contracts of Clean, Fade of package pixel and of the reference, and of the reference's Blend, Over, Mix. -/
set_option maxHeartbeats 400000 in
theorem P_Clean (q : Px) (w : World) (hq : q.ok) :
  Calls Tryz.prog 69 #[Px.v q] w fun e w' => e = .returned (Px.v (cleanP q)) ∧ Below w.heap.size w w' := by
 obtain ⟨r, g, b, a⟩ := q
 obtain ⟨⟨p1, p2⟩, ⟨p3, p4⟩, ⟨p5, p6⟩, ⟨p7, p8⟩⟩ := hq
 simp only at p1 p2 p3 p4 p5 p6 p7 p8
 by_cases h : a = 0
 ·subst h
  have e1 : cleanP ⟨r, g, b, 0⟩ = ⟨0, 0, 0, 0⟩ := rfl
  rw [e1]; clear e1
  simp only [Px.v]
  go_enter Tryz.func69, Tryz.ntmps69
  go_wp2
  go_returns
  refine ⟨rfl, ?_⟩
  repeat' (first | (with_reducible exact Below.refl _ _) | (with_reducible assumption) | (with_reducible refine Below.setCell ?_ (by dsimp only; omega) _) | (with_reducible refine Below.alloc ?_ (by first | omega | (simp only [World.size_alloc, World.size_setCell, World.size_drew]; omega)) _) | (with_reducible refine Below.drew ?_))
 ·have e1 : cleanP ⟨r, g, b, a⟩ = ⟨r, g, b, a⟩ := if_neg h
  have h' : (a == 0) = false := by simpa using h
  rw [e1]; clear e1 h
  simp only [Px.v]
  go_enter Tryz.func69, Tryz.ntmps69
  go_wp2
  go_returns
  refine ⟨rfl, ?_⟩
  repeat' (first | (with_reducible exact Below.refl _ _) | (with_reducible assumption) | (with_reducible refine Below.setCell ?_ (by dsimp only; omega) _) | (with_reducible refine Below.alloc ?_ (by first | omega | (simp only [World.size_alloc, World.size_setCell, World.size_drew]; omega)) _) | (with_reducible refine Below.drew ?_))
set_option maxHeartbeats 400000 in
theorem R_Clean (q : Px) (w : World) (hq : q.ok) :
  Calls Tryz.prog 36 #[Px.v q] w fun e w' => e = .returned (Px.v (cleanP q)) ∧ Below w.heap.size w w' := by
 obtain ⟨r, g, b, a⟩ := q
 obtain ⟨⟨p1, p2⟩, ⟨p3, p4⟩, ⟨p5, p6⟩, ⟨p7, p8⟩⟩ := hq
 simp only at p1 p2 p3 p4 p5 p6 p7 p8
 by_cases h : a = 0
 ·subst h
  have e1 : cleanP ⟨r, g, b, 0⟩ = ⟨0, 0, 0, 0⟩ := rfl
  rw [e1]; clear e1
  simp only [Px.v]
  go_enter Tryz.func36, Tryz.ntmps36
  go_wp2
  go_returns
  refine ⟨rfl, ?_⟩
  repeat' (first | (with_reducible exact Below.refl _ _) | (with_reducible assumption) | (with_reducible refine Below.setCell ?_ (by dsimp only; omega) _) | (with_reducible refine Below.alloc ?_ (by first | omega | (simp only [World.size_alloc, World.size_setCell, World.size_drew]; omega)) _) | (with_reducible refine Below.drew ?_))
 ·have e1 : cleanP ⟨r, g, b, a⟩ = ⟨r, g, b, a⟩ := if_neg h
  have h' : (a == 0) = false := by simpa using h
  rw [e1]; clear e1 h
  simp only [Px.v]
  go_enter Tryz.func36, Tryz.ntmps36
  go_wp2
  go_returns
  refine ⟨rfl, ?_⟩
  repeat' (first | (with_reducible exact Below.refl _ _) | (with_reducible assumption) | (with_reducible refine Below.setCell ?_ (by dsimp only; omega) _) | (with_reducible refine Below.alloc ?_ (by first | omega | (simp only [World.size_alloc, World.size_setCell, World.size_drew]; omega)) _) | (with_reducible refine Below.drew ?_))
/- Contracts of the reference's Blend, channel, Over, Mix. -/
/- Contracts of the reference's channel, Over, Mix. -/
/- Contracts of the reference's Mix and of Over and Mix of package pixel. -/
/- Contracts of Over and Mix of package pixel. -/
/- The contract of Over of package pixel. -/
end Go.Proofs.YtamgpfblhlfhaaaGreat
/- Quiet walks through regions that draw their order: tiles and pixels loaded. -/
namespace Go.Proofs.YtamgpfblhlfhaaaGreat
open Go.RowKit Pl
set_option linter.unusedVariables false
set_option linter.unusedSimpArgs false
set_option maxRecDepth 20000
theorem ov_tile {w : World} {b : Nat} {f : Nat → Px} (h : TileAt w b f) : ∀ w', (∃ u, w' = ov w u) → TileAt w' b f := by
 rintro w' ⟨u, rfl⟩
 exact h.of_eq ((ov_below w u).block _ h.lt)
theorem ov_px {w : World} {b : Nat} {p : Px} (h : PixAt w b p) : ∀ w', (∃ u, w' = ov w u) → PixAt w' b p := by
 rintro w' ⟨u, rfl⟩
 exact h.of_eq ((ov_below w u).block _ h.lt)
section
variable {C : World → Prop} {a : Act} {o : Oper} {K : Act → Prop}
theorem quiet_loadT {f : Nat → Px} {x : Operand} (h : o.op = .load 70 x) (b' : Nat) (hx : a.eval x = .pointer (some ⟨b', 0, none⟩)) (ht : ∀ w, C w → TileAt w b' f) (hk : K (a.put o.dst (Tile.v f))) : o.quiet Tryz.prog a C K :=
 ⟨_, fun w hw => by unfold Oper.quietAt execOp; simp only [h, hx, run_load_tile (ht w hw), Sem.run_bind, Sem.run_pure, Result.andThen_ok]; exact ⟨rfl, rfl⟩, hk⟩
theorem quiet_loadPx {p : Px} {x : Operand} (h : o.op = .load 25 x) (b : Nat) (hx : a.eval x = .pointer (some ⟨b, 0, none⟩)) (ht : ∀ w, C w → PixAt w b p) (hk : K (a.put o.dst (Px.v p))) : o.quiet Tryz.prog a C K :=
 ⟨_, fun w hw => by unfold Oper.quietAt execOp; simp only [h, hx, run_load_px (ht w hw), Sem.run_bind, Sem.run_pure, Result.andThen_ok]; exact ⟨rfl, rfl⟩, hk⟩
theorem quiet_loadTp {f : Nat → Px} {x : Operand} {b : Nat} (h : o.op = .load 25 x) (j' : Nat) (hx : a.eval x = .pointer (some ⟨b, j', none⟩)) (ht : ∀ w, C w → TileAt w b f) (i : Nat) (hi : i < 64) (hj : j' = i * 4) (hk : K (a.put o.dst (Px.v (f i)))) : o.quiet Tryz.prog a C K :=
 ⟨_, fun w hw => by subst hj; unfold Oper.quietAt execOp; simp only [h, hx, run_load_tp (ht w hw) hi, Sem.run_bind, Sem.run_pure, Result.andThen_ok]; exact ⟨rfl, rfl⟩, hk⟩
end
@[go_sem] theorem guard_px (op : BinOp) (x y : Operand) (p q : Px) (w : World) : (eqGuard op 25 x y (Px.v p) (Px.v q)).run Tryz.prog w = .ok () w := run_eqGuard_agg w op 25 x y _ _ (by kernel_rfl)
@[go_sem] theorem guard_tile (op : BinOp) (x y : Operand) (p q : Nat → Px) (w : World) : (eqGuard op 70 x y (Tile.v p) (Tile.v q)).run Tryz.prog w = .ok () w := by
 unfold Tile.v
 exact run_eqGuard_agg w op 70 x y _ _ (by kernel_rfl)
/- Contracts of Fill (reference), Clean, Same, Zero, Solid. -/
set_option maxHeartbeats 1000000 in
set_option maxRecDepth 20000 in
theorem P_Clean_t (t : Nat → Px) (w : World) (ht : Tok t) : Calls Tryz.prog 90 #[Tile.v t] w fun e w' => e = .returned (Tile.v (cleanT t)) ∧ Below w.heap.size w w' := by
 go_enter Tryz.func90, Tryz.ntmps90
 go_wp2_with (first | (refine wpList_loadT rfl _ rfl _ rfl t1 ?_; simp only [putS]) | (refine wpList_allocT rfl rfl ?_; intro w2 t2 hb2 hz2; have l2 := Nat.lt_of_lt_of_eq (Nat.lt_succ_self _) hz2.symm; clear hz2; replace t1 := t1.of_eq (hb2.block _ t1.lt); simp only [putS]) | (refine wpList_boxT rfl _ rfl _ rfl ?_; intro w1 t1 hb1 hz1; have l1 := Nat.lt_of_lt_of_eq (Nat.lt_succ_self _) hz1.symm; clear hz1; simp only [putS]))
 have B2 : Below w.heap.size w w2 := by
  repeat' (first | (with_reducible exact Below.refl _ _) | (with_reducible assumption) | (with_reducible refine Below.trans ?_ (hb1.mono (by omega))) | (with_reducible refine Below.trans ?_ (hb2.mono (by omega))))
 go_loopw [3, 4, 6] (fun _ _ i wr => ∃ k : Nat, k ≤ 64 ∧ i = .int .i64 k ∧ Below w.heap.size w wr ∧ w2.heap.size ≤ wr.heap.size ∧ TileAt wr w.heap.size (stepT t (cleanT t) k) ∧ TileAt wr w1.heap.size zeroT) (fun _ _ i _ => (64 - intOf i).toNat)
 case atStart => exact ⟨0, by omega, rfl, B2, Nat.le_refl _, by rw [stepT_zero]; exact t1, t2⟩
 case round =>
  obtain ⟨k, hk, rfl, Br, hr, t4, t5⟩ := hrel
  clear t1 t2
  by_cases hlt : k < 64
  ·have hix := index_tile t k hlt
   have hok := ht k hlt
   go_wp2_with (first | (go_at_call 69; refine (P_Clean _ _ hok).mono ?_; rintro e w5 ⟨rfl, hb5⟩; have hz5 := hb5.size; replace t4 := t4.of_eq (hb5.block _ t4.lt); replace t5 := t5.of_eq (hb5.block _ t5.lt); replace t3 := t3.of_eq (hb5.block _ t3.lt)) | (refine wpList_storeTp rfl _ _ rfl _ _ rfl _ rfl t4 (k) (by omega) (by first | rfl | omega) ?_; clear t4; intro w6 t4 hc6 hz6; replace hz6 := Nat.le_of_eq hz6.symm; replace t5 := t5.of_eq (hc6.block _ t5.lt (by omega)); simp only [putS]) | (refine wpList_loadPx rfl _ rfl _ rfl t3 ?_; simp only [putS]) | (refine wpList_storePx rfl _ _ rfl _ rfl _ rfl t3 ?_; clear t3; intro w4 t3 hc4 hz4; replace hz4 := Nat.le_of_eq hz4.symm; replace t4 := t4.of_eq (hc4.block _ t4.lt (by omega)); replace t5 := t5.of_eq (hc4.block _ t5.lt (by omega)); simp only [putS]) | (refine wpList_allocPx rfl rfl ?_; intro w3 t3 hb3 hz3; have l3 := Nat.lt_of_lt_of_eq (Nat.lt_succ_self _) hz3.symm; clear hz3; replace t4 := t4.of_eq (hb3.block _ t4.lt); replace t5 := t5.of_eq (hb3.block _ t5.lt); simp only [putS]))
   go_roundw
   case rel => exact ⟨k + 1, by omega, by go_num, by repeat' (first | (with_reducible exact Below.refl _ _) | (with_reducible assumption) | (with_reducible refine Below.trans ?_ (hb3.mono (by omega))) | (with_reducible refine Below.trans ?_ (hb5.mono (by omega))) | (with_reducible refine Chg.below ?_ hc4 (by omega) (by omega)) | (with_reducible refine Chg.below ?_ hc6 (by omega) (by omega))), by omega, by rw [← stepT_next]; exact t4, t5⟩
   case measure => simp [intOf]; omega
  ·obtain rfl : k = 64 := by omega
   replace t4 := t4.congr (stepT_all _ _)
   go_wp2_with (first | (refine wpList_storeT rfl _ _ rfl _ rfl _ rfl t5 ?_; clear t5; intro w3 t5 hc3 hz3; replace hz3 := Nat.le_of_eq hz3.symm; simp only [putS]) | (refine wpList_loadT rfl _ rfl _ rfl t4 ?_; simp only [putS]))
   refine bodyPost_ret (results_tile rfl _ _ (w1.heap.size) rfl t5) rfl ?_
   refine ⟨rfl, ?_⟩
   repeat' (first | (with_reducible exact Below.refl _ _) | (with_reducible assumption) | (with_reducible refine Chg.below ?_ hc3 (by omega) (by omega)))
set_option maxHeartbeats 1000000 in
set_option maxRecDepth 20000 in
theorem R_Clean_t (t : Nat → Px) (w : World) (ht : Tok t) : Calls Tryz.prog 120 #[Tile.v t] w fun e w' => e = .returned (Tile.v (cleanT t)) ∧ Below w.heap.size w w' := by
 go_enter Tryz.func120, Tryz.ntmps120
 go_wp2_with (first | (refine wpList_allocT rfl rfl ?_; intro w2 t2 hb2 hz2; have l2 := Nat.lt_of_lt_of_eq (Nat.lt_succ_self _) hz2.symm; clear hz2; replace t1 := t1.of_eq (hb2.block _ t1.lt); simp only [putS]) | (refine wpList_boxT rfl _ rfl _ rfl ?_; intro w1 t1 hb1 hz1; have l1 := Nat.lt_of_lt_of_eq (Nat.lt_succ_self _) hz1.symm; clear hz1; simp only [putS]))
 have B2 : Below w.heap.size w w2 := by
  repeat' (first | (with_reducible exact Below.refl _ _) | (with_reducible assumption) | (with_reducible refine Below.trans ?_ (hb1.mono (by omega))) | (with_reducible refine Below.trans ?_ (hb2.mono (by omega))))
 go_loopw [3] (fun i wr => ∃ k : Nat, k ≤ 64 ∧ i = .int .i64 k ∧ Below w.heap.size w wr ∧ w2.heap.size ≤ wr.heap.size ∧ TileAt wr w.heap.size (stepT t (cleanT t) k) ∧ TileAt wr w1.heap.size zeroT) (fun i _ => (64 - intOf i).toNat)
 case atStart => exact ⟨0, by omega, rfl, B2, Nat.le_refl _, by rw [stepT_zero]; exact t1, t2⟩
 case round =>
  obtain ⟨k, hk, rfl, Br, hr, t4, t5⟩ := hrel
  clear t1 t2
  by_cases hlt : k < 64
  ·have hok : (stepT t (cleanT t) k k).ok := by rw [stepT_at]; exact ht k hlt
   go_wp2_with (first | (go_at_call 36; go_loud (refine (R_Clean _ _ hok).mono ?_; rintro e w5 ⟨rfl, hb5⟩; have hz5 := hb5.size; replace t4 := t4.of_eq (hb5.block _ t4.lt); replace t5 := t5.of_eq (hb5.block _ t5.lt))) | (refine wpList_storeTp rfl _ _ rfl _ _ rfl _ rfl t4 (k) (by omega) (by first | rfl | omega) ?_; clear t4; intro w6 t4 hc6 hz6; replace hz6 := Nat.le_of_eq hz6.symm; replace t5 := t5.of_eq (hc6.block _ t5.lt (by omega)); simp only [putS]) | (refine wpList_loadTp rfl _ rfl _ _ rfl t4 (k) (by omega) (by first | rfl | omega) ?_; simp only [putS]))
   rw [stepT_at] at t4
   go_roundw
   case rel => exact ⟨k + 1, by omega, by go_num, by repeat' (first | (with_reducible exact Below.refl _ _) | (with_reducible assumption) | (with_reducible refine Below.trans ?_ (hb5.mono (by omega))) | (with_reducible refine Chg.below ?_ hc6 (by omega) (by omega))), by omega, by rw [← stepT_next]; exact t4, t5⟩
   case measure => simp [intOf]; omega
  ·obtain rfl : k = 64 := by omega
   replace t4 := t4.congr (stepT_all _ _)
   go_wp2_with (first | (refine wpList_storeT rfl _ _ rfl _ rfl _ rfl t5 ?_; clear t5; intro w3 t5 hc3 hz3; replace hz3 := Nat.le_of_eq hz3.symm; simp only [putS]) | (refine wpList_loadT rfl _ rfl _ rfl t4 ?_; simp only [putS]))
   refine bodyPost_ret (results_tile rfl _ _ (w1.heap.size) rfl t5) rfl ?_
   refine ⟨rfl, ?_⟩
   repeat' (first | (with_reducible exact Below.refl _ _) | (with_reducible assumption) | (with_reducible refine Chg.below ?_ hc3 (by omega) (by omega)))
theorem eqT_true {a b : Nat → Px} (h : ∀ j, j < 64 → a j = b j) : eqT a b = true := by unfold eqT; exact decide_eq_true fun i hi => h i (List.mem_range.1 hi)
theorem eqT_false {a b : Nat → Px} {k : Nat} (hk : k < 64) (h : a k ≠ b k) : eqT a b = false := by unfold eqT; exact decide_eq_false fun e => h (e k (List.mem_range.2 hk))
set_option maxHeartbeats 1000000 in
set_option maxRecDepth 20000 in
theorem R_Same (a b : Nat → Px) (w : World) : Calls Tryz.prog 119 #[Tile.v a, Tile.v b] w fun e w' => e = .returned (.bool (eqT a b)) ∧ Below w.heap.size w w' := by
 go_enter Tryz.func119, Tryz.ntmps119
 go_wp2_with (first | (refine wpList_boxT rfl _ rfl _ rfl ?_; intro w2 t2 hb2 hz2; have l2 := Nat.lt_of_lt_of_eq (Nat.lt_succ_self _) hz2.symm; clear hz2; replace t1 := t1.of_eq (hb2.block _ t1.lt); simp only [putS]) | (refine wpList_boxT rfl _ rfl _ rfl ?_; intro w1 t1 hb1 hz1; have l1 := Nat.lt_of_lt_of_eq (Nat.lt_succ_self _) hz1.symm; clear hz1; simp only [putS]))
 have B2 : Below w.heap.size w w2 := by
  repeat' (first | (with_reducible exact Below.refl _ _) | (with_reducible assumption) | (with_reducible refine Below.trans ?_ (hb1.mono (by omega))) | (with_reducible refine Below.trans ?_ (hb2.mono (by omega))))
 go_loopw [5] (fun i wr => ∃ k : Nat, k ≤ 64 ∧ i = .int .i64 k ∧ Below w.heap.size w wr ∧ w2.heap.size ≤ wr.heap.size ∧ TileAt wr w.heap.size a ∧ TileAt wr w1.heap.size b ∧ ∀ j, j < k → a j = b j) (fun i _ => (64 - intOf i).toNat)
 case atStart => exact ⟨0, by omega, rfl, B2, Nat.le_refl _, t1, t2, fun j hj => by omega⟩
 case round =>
  obtain ⟨k, hk, rfl, Br, hr, t4, t5, heq⟩ := hrel
  have Heq := Lib.hid heq
  clear t1 t2 heq
  by_cases hlt : k < 64
  ·by_cases hne : a k = b k
   ·have hcmp : ∀ w, (binOp .neq 25 (Px.v (a k)) (Px.v (b k))).run Tryz.prog w = .ok (.bool false) w := fun w => by rw [neq_px]; simp [hne]
    have Hne := Lib.hid hne
    clear hne
    go_wp2
    refine wp_region_ov (by kernel_rfl) (by kernel_rfl) ?_
    repeat (first | go_big_quiet_skip | (go_big_quiet_want; first | (refine quiet_loadTp rfl _ rfl (ov_tile t4) (k) (by omega) (by first | rfl | omega) ?_; simp only [putS]; go_big_quiet_on) | (refine quiet_loadTp rfl _ rfl (ov_tile t5) (k) (by omega) (by first | rfl | omega) ?_; simp only [putS]; go_big_quiet_on) | (go_big_quiet_op; first | go_big_quiet_on | go_big_quiet_call ((fail)))))
    refine wpQuiet_nil ?_
    intro w3 hb3
    have hz3 := hb3.size
    replace t4 := t4.of_eq (hb3.block _ t4.lt)
    replace t5 := t5.of_eq (hb3.block _ t5.lt)
    go_wp2
    go_roundw
    case rel => exact ⟨k + 1, by omega, by go_num, by repeat' (first | (with_reducible exact Below.refl _ _) | (with_reducible assumption) | (with_reducible refine Below.trans ?_ (hb3.mono (by omega)))), by omega, t4, t5, fun j hj => by
     by_cases e : j = k
     ·rw [e]; exact Hne.out
     ·exact Heq.out j (by omega)⟩
    case measure => simp [intOf]; omega
   ·have hcmp : ∀ w, (binOp .neq 25 (Px.v (a k)) (Px.v (b k))).run Tryz.prog w = .ok (.bool true) w := fun w => by rw [neq_px]; simp [hne]
    have e1 := Lib.hid (eqT_false hlt hne)
    clear hne
    go_wp2
    refine wp_region_ov (by kernel_rfl) (by kernel_rfl) ?_
    repeat (first | go_big_quiet_skip | (go_big_quiet_want; first | (refine quiet_loadTp rfl _ rfl (ov_tile t4) (k) (by omega) (by first | rfl | omega) ?_; simp only [putS]; go_big_quiet_on) | (refine quiet_loadTp rfl _ rfl (ov_tile t5) (k) (by omega) (by first | rfl | omega) ?_; simp only [putS]; go_big_quiet_on) | (go_big_quiet_op; first | go_big_quiet_on | go_big_quiet_call ((fail)))))
    refine wpQuiet_nil ?_
    intro w3 hb3
    have hz3 := hb3.size
    replace t4 := t4.of_eq (hb3.block _ t4.lt)
    replace t5 := t5.of_eq (hb3.block _ t5.lt)
    go_wp2
    go_ret
    refine ⟨by rw [e1.out]; rfl, ?_⟩
    repeat' (first | (with_reducible exact Below.refl _ _) | (with_reducible assumption) | (with_reducible refine Below.trans ?_ (hb3.mono (by omega))))
  ·obtain rfl : k = 64 := by omega
   have e1 := Lib.hid (eqT_true Heq.out)
   go_wp2
   go_ret
   refine ⟨by rw [e1.out]; rfl, ?_⟩
   repeat' (first | (with_reducible exact Below.refl _ _) | (with_reducible assumption))
/- Contracts of Zero, Solid, and of the reference's Flip and Turn. -/
/-- The pixels in d are those of g, the others those of f. -/
def mixT (d : Nat → Bool) (f g : Nat → Px) : Nat → Px := fun j => if d j = true then g j else f j
def doneFlip (y x j : Nat) : Bool := decide (j < 8 * y + x)
def doneTurn (y x j : Nat) : Bool := decide (7 - j % 8 < y ∨ (7 - j % 8 = y ∧ j / 8 < x))
def zeroB (t : Nat → Px) : Bool := decide (∀ i ∈ List.range 64, (t i).a = 0)
theorem zero_eq (t : Nat → Px) : eqT (cleanT t) (fun _ => Px.zero) = zeroB t := by
 unfold eqT zeroB
 rw [Bool.eq_iff_iff]
 simp only [decide_eq_true_eq]
 refine ⟨fun h i hi => ?_, fun h i hi => ?_⟩
 ·have := h i hi
  unfold cleanT cleanP at this
  split at this
  ·assumption
  ·rw [this]; rfl
 ·unfold cleanT cleanP
  rw [if_pos (h i hi)]
theorem eql_clean (t : Nat → Px) (w : World) : (binOp .eql 70 (Tile.v (cleanT t)) (Tile.v fun _ => Px.zero)).run Tryz.prog w = .ok (.bool (zeroB t)) w := by
 rw [eql_tile, zero_eq]
set_option maxHeartbeats 1000000 in
set_option maxRecDepth 20000 in
theorem P_Zero (t : Nat → Px) (w : World) (ht : Tok t) : Calls Tryz.prog 92 #[Tile.v t] w fun e w' => e = .returned (.bool (zeroB t)) ∧ Below w.heap.size w w' := by
 have hcmp := eql_clean t
 go_enter Tryz.func92, Tryz.ntmps92
 go_wp2_with (first | (go_at_call 90; refine (P_Clean_t _ _ ht).mono ?_; rintro e w2 ⟨rfl, hb2⟩; have hz2 := hb2.size; replace t1 := t1.of_eq (hb2.block _ t1.lt)) | (refine wpList_loadT rfl _ rfl _ rfl t1 ?_; simp only [putS]) | (refine wpList_buildT rfl rfl ?_; simp only [putS]) | (refine wpList_boxT rfl _ rfl _ rfl ?_; intro w1 t1 hb1 hz1; have l1 := Nat.lt_of_lt_of_eq (Nat.lt_succ_self _) hz1.symm; clear hz1; simp only [putS]))
 go_ret
 refine ⟨rfl, ?_⟩
 repeat' (first | (with_reducible exact Below.refl _ _) | (with_reducible assumption) | (with_reducible refine Below.trans ?_ (hb1.mono (by omega))) | (with_reducible refine Below.trans ?_ (hb2.mono (by omega))))
set_option maxHeartbeats 1000000 in
set_option maxRecDepth 20000 in
theorem R_Zero (t : Nat → Px) (w : World) : Calls Tryz.prog 118 #[Tile.v t] w fun e w' => e = .returned (.bool (zeroB t)) ∧ Below w.heap.size w w' := by
 go_enter Tryz.func118, Tryz.ntmps118
 go_wp2_with (first | (refine wpList_boxT rfl _ rfl _ rfl ?_; intro w1 t1 hb1 hz1; have l1 := Nat.lt_of_lt_of_eq (Nat.lt_succ_self _) hz1.symm; clear hz1; simp only [putS]))
 go_loopw [3] (fun i wr => ∃ k : Nat, k ≤ 64 ∧ i = .int .i64 k ∧ Below w.heap.size w wr ∧ w1.heap.size ≤ wr.heap.size ∧ TileAt wr w.heap.size t ∧ ∀ j, j < k → (t j).a = 0) (fun i _ => (64 - intOf i).toNat)
 case atStart => exact ⟨0, by omega, rfl, hb1, Nat.le_refl _, t1, fun j hj => by omega⟩
 case round =>
  obtain ⟨k, hk, rfl, Br, hr, t4, heq⟩ := hrel
  have Heq := Lib.hid heq
  clear t1 heq
  by_cases hlt : k < 64
  ·obtain ⟨c0, c1, c2, c3⟩ := t4.cells hlt
   cases hne : ((t k).a == 0) with
   | true =>
    have Hne : Hid ((t k).a = 0) := Lib.hid (by simpa using hne)
    go_wp2
    go_roundw
    case rel => exact ⟨k + 1, by omega, by go_num, Br, hr, t4, fun j hj => by
     by_cases e : j = k
     ·rw [e]; exact Hne.out
     ·exact Heq.out j (by omega)⟩
    case measure => simp [intOf]; omega
   | false =>
    have e1 : Hid (zeroB t = false) := Lib.hid (by unfold zeroB; exact decide_eq_false fun e => by simp [e k (List.mem_range.2 hlt)] at hne)
    go_wp2
    go_ret
    exact ⟨by rw [e1.out]; rfl, Br⟩
  ·obtain rfl : k = 64 := by omega
   have e1 : Hid (zeroB t = true) := Lib.hid (by unfold zeroB; exact decide_eq_true fun i hi => Heq.out i (List.mem_range.1 hi))
   go_wp2
   go_ret
   exact ⟨by rw [e1.out]; rfl, Br⟩
def solidB (t : Nat → Px) : Bool := eqT t (fillT (t 0))
def solidP (t : Nat → Px) : Px := if solidB t = true then t 0 else Px.zero
theorem PixAt.cells {w : World} {b : Nat} {p : Px} (h : PixAt w b p) : w.cell? ⟨b, 0, none⟩ = some (.int .u8 p.r) ∧ w.cell? ⟨b, 1, none⟩ = some (.int .u8 p.g) ∧ w.cell? ⟨b, 2, none⟩ = some (.int .u8 p.b) ∧ w.cell? ⟨b, 3, none⟩ = some (.int .u8 p.a) := by
 obtain ⟨hc, _⟩ := cells_of_block h
 exact ⟨hc 0, hc 1, hc 2, hc 3⟩
/- Plain: rectangles; rasters as lists of tiles at positions; what package raster computes. -/
/-! ### Rectangles -/
structure Rc where
 x0 : Int
 y0 : Int
 x1 : Int
 y1 : Int
def Rc.zero : Rc := ⟨0, 0, 0, 0⟩
def Rc.v (r : Rc) : Value := .agg #[.int .i64 r.x0, .int .i64 r.y0, .int .i64 r.x1, .int .i64 r.y1]
def emptyR (r : Rc) : Bool := decide (r.x1 ≤ r.x0 ∨ r.y1 ≤ r.y0)
def hasR (r : Rc) (x y : Int) : Bool := decide (r.x0 ≤ x ∧ x < r.x1 ∧ r.y0 ≤ y ∧ y < r.y1)
def limR (r : Rc) : Bool := decide (-65536 ≤ r.x0 ∧ -65536 ≤ r.y0 ∧ r.x1 ≤ 65536 ∧ r.y1 ≤ 65536)
def validR (r : Rc) : Bool := !emptyR r && limR r
def normR (r : Rc) : Rc := if emptyR r = true then Rc.zero else r
def interR (a b : Rc) : Rc := normR ⟨max a.x0 b.x0, max a.y0 b.y0, min a.x1 b.x1, min a.y1 b.y1⟩
def unionR (a b : Rc) : Rc := if emptyR a = true then normR b else if emptyR b = true then a else ⟨min a.x0 b.x0, min a.y0 b.y0, max a.x1 b.x1, max a.y1 b.y1⟩
def areaR (r : Rc) : Int := if emptyR r = true then 0 else (r.x1 - r.x0) * (r.y1 - r.y0)
/-! ### Positions, tiles at positions -/
def lessB (ax ay bx bv : Int) : Bool := decide (ay < bv ∨ (ay = bv ∧ ax < bx))
def eqB (ax ay bx bv : Int) : Bool := decide (ax = bx ∧ ay = bv)
def withinB (x y : Int) : Bool := decide (-8192 ≤ x ∧ x ≤ 8191 ∧ -8192 ≤ y ∧ y ≤ 8191)
structure TA where
 x : Int
 y : Int
 t : Nat → Px
def TA.none : TA := ⟨0, 0, fun _ => Px.zero⟩
def aT (ls : List TA) (k : Nat) : TA := ls.getD k TA.none
theorem aT_at {ls : List TA} {k : Nat} (h : k < ls.length) : ls[k]? = some (aT ls k) := by
 unfold aT
 rw [List.getD_eq_getElem?_getD, List.getElem?_eq_getElem h]
 rfl
theorem aT_drop (ls : List TA) (i k : Nat) : aT (ls.drop i) k = aT ls (i + k) := by
 unfold aT
 rw [List.getD_eq_getElem?_getD, List.getD_eq_getElem?_getD, List.getElem?_drop]
theorem aT_cons (e : TA) (r : List TA) (k : Nat) : aT (e :: r) (k + 1) = aT r k := rfl
theorem drop_eq {ls : List TA} {k : Nat} (h : k < ls.length) : ls.drop k = aT ls k :: ls.drop (k + 1) := by
 rw [List.drop_eq_getElem_cons h]
 have := aT_at h
 rw [List.getElem?_eq_getElem h] at this
 rw [Option.some.inj this]
def beforeA (a b : TA) : Bool := lessB a.x a.y b.x b.y
def goodA (e : TA) : Bool := withinB e.x e.y && (!zeroB e.t && eqT (cleanT e.t) e.t)
def stepA (ls : List TA) (j : Nat) : Bool := goodA (aT ls j) && (decide (j = 0) || beforeA (aT ls (j - 1)) (aT ls j))
def validL (ls : List TA) : Bool := decide (ls.length ≤ 1024) && decide (∀ j ∈ List.range ls.length, stepA ls j = true)
def fineL (ls : List TA) : List TA := if validL ls = true then ls else []
def TokL (ls : List TA) : Prop := ∀ e ∈ ls, Tok e.t
theorem TokL.at {ls : List TA} (h : TokL ls) {k : Nat} (hk : k < ls.length) : Tok (aT ls k).t := h _ (List.mem_iff_getElem?.2 ⟨k, aT_at hk⟩)
theorem TokL.nil : TokL [] := fun e h => by cases h
theorem TokL.append {a b : List TA} (h : TokL a) (k : TokL b) : TokL (a ++ b) := fun e he => by
 rcases List.mem_append.1 he with he | he
 ·exact h e he
 ·exact k e he
theorem TokL.take {a : List TA} (h : TokL a) (n : Nat) : TokL (a.take n) := fun e he => h e (List.mem_of_mem_take he)
theorem TokL.drop {a : List TA} (h : TokL a) (n : Nat) : TokL (a.drop n) := fun e he => h e (List.mem_of_mem_drop he)
theorem validL_big {ls : List TA} (h : 1024 < ls.length) : validL ls = false := by
 unfold validL; rw [decide_eq_false (by omega)]; rfl
theorem validL_no {ls : List TA} {j : Nat} (hj : j < ls.length) (h : stepA ls j = false) : validL ls = false := by
 unfold validL
 rw [Bool.and_eq_false_iff]
 right
 exact decide_eq_false fun e => by rw [e j (List.mem_range.2 hj)] at h; cases h
theorem validL_yes {ls : List TA} (h : ls.length ≤ 1024) (k : ∀ j, j < ls.length → stepA ls j = true) : validL ls = true := by
 unfold validL
 rw [decide_eq_true h, Bool.true_and]
 exact decide_eq_true fun j hj => k j (List.mem_range.1 hj)
theorem validL_iff {ls : List TA} : validL ls = true ↔ ls.length ≤ 1024 ∧ ∀ j, j < ls.length → stepA ls j = true := by
 constructor
 ·intro h
  unfold validL at h
  obtain ⟨h1, h2⟩ := Bool.and_eq_true_iff.1 h
  exact ⟨of_decide_eq_true h1, fun j hj => of_decide_eq_true h2 j (List.mem_range.2 hj)⟩
 ·rintro ⟨h1, h2⟩; exact validL_yes h1 h2
theorem validL_nil : validL [] = true := validL_yes (by simp) (fun j hj => absurd hj (Nat.not_lt_zero _))
theorem fineL_of {ls : List TA} (h : validL ls = true) : fineL ls = ls := by unfold fineL; rw [if_pos h]
theorem fineL_no {ls : List TA} (h : validL ls = false) : fineL ls = [] := by unfold fineL; rw [h]; rfl
theorem fineL_valid (ls : List TA) : validL (fineL ls) = true := by
 by_cases h : validL ls = true
 ·rw [fineL_of h]; exact h
 ·rw [fineL_no (by simpa using h)]; exact validL_nil
theorem fineL_fine (ls : List TA) : fineL (fineL ls) = fineL ls := fineL_of (fineL_valid ls)
theorem fineL_tok {ls : List TA} (h : TokL ls) : TokL (fineL ls) := by
 unfold fineL; split
 ·exact h
 ·exact TokL.nil
theorem fineL_length (ls : List TA) : (fineL ls).length ≤ 1024 := (validL_iff.1 (fineL_valid ls)).1
theorem fineL_le (ls : List TA) : (fineL ls).length ≤ ls.length := by
 unfold fineL; split
 ·exact Nat.le_refl _
 ·exact Nat.zero_le _
/-- In increasing order. -/
def Srt (ls : List TA) : Prop := ls.Pairwise fun a b => beforeA a b = true
theorem before_trans {a b c : TA} (h : beforeA a b = true) (k : beforeA b c = true) : beforeA a c = true := by
 unfold beforeA lessB at *
 have h := of_decide_eq_true h
 have k := of_decide_eq_true k
 exact decide_eq_true (by omega)
theorem srt_of : ∀ (ls : List TA), (∀ j, 0 < j → j < ls.length → beforeA (aT ls (j - 1)) (aT ls j) = true) → Srt ls
 | [], _ => List.Pairwise.nil
 | [a], _ => List.pairwise_singleton _ _
 | a :: b :: r, h => by
  have ih := srt_of (b :: r) (fun j hj hl => by
   have := h (j + 1) (by omega) (by simp at hl ⊢; omega)
   rw [Nat.add_sub_cancel] at this
   rw [show j = (j - 1) + 1 by omega, aT_cons] at this
   rw [show j - 1 + 1 = j by omega] at this
   exact this)
  have hab : beforeA a b = true := h 1 (by omega) (by simp)
  refine List.Pairwise.cons (fun e he => ?_) ih
  rcases List.mem_cons.1 he with rfl | he
  ·exact hab
  ·exact before_trans hab ((List.pairwise_cons.1 ih).1 e he)
theorem validL_srt {ls : List TA} (h : validL ls = true) : Srt ls :=
 srt_of ls fun j h0 hj => by
  have := (validL_iff.1 h).2 j hj
  unfold stepA at this
  obtain ⟨_, h2⟩ := Bool.and_eq_true_iff.1 this
  rw [decide_eq_false (by omega), Bool.false_or] at h2
  exact h2
theorem validL_good {ls : List TA} (h : validL ls = true) : ∀ e ∈ ls, goodA e = true := fun e he => by
 obtain ⟨j, hj, rfl⟩ := List.mem_iff_getElem.1 he
 have := (validL_iff.1 h).2 j hj
 unfold stepA at this
 have g := (Bool.and_eq_true_iff.1 this).1
 have a := aT_at hj
 rw [List.getElem?_eq_getElem hj] at a
 rw [Option.some.inj a]
 exact g
theorem validL_mk {ls : List TA} (h : ls.length ≤ 1024) (hg : ∀ e ∈ ls, goodA e = true) (hs : Srt ls) : validL ls = true :=
 validL_yes h fun j hj => by
  unfold stepA
  rw [hg _ (List.mem_iff_getElem?.2 ⟨j, aT_at hj⟩), Bool.true_and]
  by_cases h0 : j = 0
  ·rw [decide_eq_true h0]; rfl
  ·rw [decide_eq_false h0, Bool.false_or]
   have := List.pairwise_iff_getElem.1 hs (j - 1) j (by omega) hj (by omega)
   have a := aT_at hj
   have b := aT_at (show j - 1 < ls.length by omega)
   rw [List.getElem?_eq_getElem hj] at a
   rw [List.getElem?_eq_getElem (show j - 1 < ls.length by omega)] at b
   rw [← Option.some.inj a, ← Option.some.inj b]
   exact this
/-! ### What stands at a position -/
def zT : Nat → Px := fun _ => Px.zero
def tileL : List TA → Int → Int → (Nat → Px)
 | [], _, _ => zT
 | e :: r, x, y => if eqB e.x e.y x y = true then e.t else tileL r x y
/-- The first place at which it stands; the length where it does not. -/
def idxL : List TA → Int → Int → Nat
 | [], _, _ => 0
 | e :: r, x, y => if eqB e.x e.y x y = true then 0 else idxL r x y + 1
theorem tileL_tok {ls : List TA} (h : TokL ls) (x y : Int) : Tok (tileL ls x y) := by
 induction ls with
 | nil => intro i hi; exact Px.zero_ok
 | cons e r ih =>
  unfold tileL
  split
  ·exact h e (List.mem_cons_self ..)
  ·exact ih (fun e he => h e (List.mem_cons_of_mem _ he))
def getL (ls : List TA) (x y : Int) : Px := tileL ls (x / 8) (y / 8) (8 * (y % 8) + x % 8).toNat
/-! ### A tile replaced -/
def newA (x y : Int) (t : Nat → Px) : List TA := if zeroB t = true then [] else [⟨x, y, t⟩]
def putL : List TA → Int → Int → (Nat → Px) → List TA
 | [], x, y, t => newA x y t
 | e :: r, x, y, t => if lessB e.x e.y x y = true then e :: putL r x y t else if eqB e.x e.y x y = true then newA x y t ++ r else newA x y t ++ e :: r
/-- How many stand before the position. -/
def cutL : List TA → Int → Int → Nat
 | [], _, _ => 0
 | e :: r, x, y => if lessB e.x e.y x y = true then cutL r x y + 1 else 0
def hitL (ls : List TA) (x y : Int) : Bool := decide (cutL ls x y < ls.length) && eqB (aT ls (cutL ls x y)).x (aT ls (cutL ls x y)).y x y
theorem cutL_le (ls : List TA) (x y : Int) : cutL ls x y ≤ ls.length := by
 induction ls with
 | nil => exact Nat.le_refl _
 | cons e r ih => unfold cutL; split <;> simp; omega
theorem cutL_lt {ls : List TA} {x y : Int} : ∀ {j : Nat}, j < cutL ls x y → lessB (aT ls j).x (aT ls j).y x y = true := by
 induction ls with
 | nil => intro j h; exact absurd h (Nat.not_lt_zero _)
 | cons e r ih =>
  intro j h
  unfold cutL at h
  split at h
  ·rename_i hl
   cases j with
   | zero => exact hl
   | succ j => exact ih (by omega)
  ·exact absurd h (Nat.not_lt_zero _)
theorem cutL_at {ls : List TA} {x y : Int} (h : cutL ls x y < ls.length) : lessB (aT ls (cutL ls x y)).x (aT ls (cutL ls x y)).y x y = false := by
 induction ls with
 | nil => exact absurd h (Nat.not_lt_zero _)
 | cons e r ih =>
  by_cases hl : lessB e.x e.y x y = true
  ·have hc : cutL (e :: r) x y = cutL r x y + 1 := by show (if _ then _ else _) = _; rw [if_pos hl]
   rw [hc] at h ⊢
   exact ih (by simpa using h)
  ·have hc : cutL (e :: r) x y = 0 := by show (if _ then _ else _) = _; rw [if_neg hl]
   rw [hc]
   show lessB e.x e.y x y = false
   simpa using hl
theorem putL_cut (ls : List TA) (x y : Int) (t : Nat → Px) : putL ls x y t = ls.take (cutL ls x y) ++ newA x y t ++ ls.drop (if hitL ls x y = true then cutL ls x y + 1 else cutL ls x y) := by
 induction ls with
 | nil => simp [putL, cutL, hitL]
 | cons e r ih =>
  by_cases hl : lessB e.x e.y x y = true
  ·have hc : cutL (e :: r) x y = cutL r x y + 1 := by show (if _ then _ else _) = _; rw [if_pos hl]
   have hh : hitL (e :: r) x y = hitL r x y := by
    unfold hitL
    rw [hc, aT_cons]
    simp
   have hp : putL (e :: r) x y t = e :: putL r x y t := by show (if _ then _ else _) = _; rw [if_pos hl]
   rw [hp, hh, hc, ih, List.take_succ_cons]
   by_cases h : hitL r x y = true
   ·rw [if_pos h, if_pos h, List.drop_succ_cons]; rfl
   ·rw [if_neg h, if_neg h, List.drop_succ_cons]; rfl
  ·have hc : cutL (e :: r) x y = 0 := by show (if _ then _ else _) = _; rw [if_neg hl]
   have hh : hitL (e :: r) x y = eqB e.x e.y x y := by
    unfold hitL
    rw [hc]
    show (decide (0 < r.length + 1) && eqB e.x e.y x y) = _
    rw [decide_eq_true (Nat.succ_pos _), Bool.true_and]
   have hp : putL (e :: r) x y t = if eqB e.x e.y x y = true then newA x y t ++ r else newA x y t ++ e :: r := by show (if _ then _ else _) = _; rw [if_neg hl]
   rw [hp, hh, hc]
   by_cases h : eqB e.x e.y x y = true
   ·rw [if_pos h, if_pos h]; simp
   ·rw [if_neg h, if_neg h]; simp
theorem newA_length (x y : Int) (t : Nat → Px) : (newA x y t).length ≤ 1 := by unfold newA; split <;> simp
theorem putL_length (ls : List TA) (x y : Int) (t : Nat → Px) : (putL ls x y t).length ≤ ls.length + 1 := by
 have h := newA_length x y t
 rw [putL_cut, List.length_append, List.length_append, List.length_take, List.length_drop]
 have := cutL_le ls x y
 split <;> omega
theorem newA_tok {x y : Int} {t : Nat → Px} (h : Tok t) : TokL (newA x y t) := by
 unfold newA; split
 ·exact TokL.nil
 ·intro e he
  rw [List.mem_singleton] at he
  rw [he]; exact h
theorem putL_tok {ls : List TA} {x y : Int} {t : Nat → Px} (h : TokL ls) (ht : Tok t) : TokL (putL ls x y t) := by
 rw [putL_cut]
 exact ((h.take _).append (newA_tok ht)).append (h.drop _)
/-- What the reference's put makes of the rest of a list, its tile laid or not. -/
def rputL (x y : Int) (t : Nat → Px) : Bool → List TA → List TA
 | d, [] => if d = true then [] else [⟨x, y, t⟩]
 | d, e :: r => if (!d && lessB x y e.x e.y) = true then ⟨x, y, t⟩ :: (if eqB e.x e.y x y = true then rputL x y t true r else e :: rputL x y t true r)
  else if eqB e.x e.y x y = true then rputL x y t d r else e :: rputL x y t d r
theorem rput_done (x y : Int) (t : Nat → Px) : ∀ (ls : List TA), (∀ e ∈ ls, eqB e.x e.y x y = false) → rputL x y t true ls = ls
 | [], _ => rfl
 | e :: r, h => by
  unfold rputL
  rw [h e (List.mem_cons_self ..)]
  simp
  exact rput_done x y t r fun e he => h e (List.mem_cons_of_mem _ he)
theorem rput_after (x y : Int) (t : Nat → Px) (ls : List TA) (h : ∀ e ∈ ls, lessB x y e.x e.y = true) : rputL x y t (zeroB t) ls = newA x y t ++ ls := by
 have hne : ∀ e ∈ ls, eqB e.x e.y x y = false := fun e he => by
  have := of_decide_eq_true (h e he)
  exact decide_eq_false (by omega)
 by_cases hz : zeroB t = true
 ·rw [hz, rput_done x y t ls hne]; unfold newA; rw [if_pos hz]; rfl
 ·have hz' : zeroB t = false := by simpa using hz
  unfold newA
  rw [hz', if_neg (by simp)]
  cases ls with
  | nil => rfl
  | cons e r =>
   unfold rputL
   rw [h e (List.mem_cons_self ..), hne e (List.mem_cons_self ..)]
   simp
   exact rput_done x y t r fun e he => hne e (List.mem_cons_of_mem _ he)
theorem rputL_eq (x y : Int) (t : Nat → Px) : ∀ (ls : List TA), Srt ls → rputL x y t (zeroB t) ls = putL ls x y t
 | [], _ => by unfold rputL putL newA; rfl
 | e :: r, h => by
  obtain ⟨h1, h2⟩ := List.pairwise_cons.1 h
  have ih := rputL_eq x y t r h2
  unfold putL
  by_cases hl : lessB e.x e.y x y = true
  ·have l' := of_decide_eq_true hl
   have a1 : lessB x y e.x e.y = false := decide_eq_false (by omega)
   have a2 : eqB e.x e.y x y = false := decide_eq_false (by omega)
   rw [if_pos hl]
   unfold rputL
   rw [a1, a2, Bool.and_false]
   simp [ih]
  ·rw [if_neg hl]
   have l' := of_decide_eq_false (show lessB e.x e.y x y = false by simpa using hl)
   by_cases he : eqB e.x e.y x y = true
   ·have e' := of_decide_eq_true he
    rw [if_pos he]
    have a1 : lessB x y e.x e.y = false := decide_eq_false (by omega)
    unfold rputL
    rw [a1, he, Bool.and_false]
    simp
    exact rput_after x y t r fun f hf => by
     have := of_decide_eq_true (h1 f hf)
     exact decide_eq_true (by omega)
   ·rw [if_neg he]
    have e' := of_decide_eq_false (show eqB e.x e.y x y = false by simpa using he)
    exact rput_after x y t (e :: r) fun f hf => by
     rcases List.mem_cons.1 hf with rfl | hf
     ·exact decide_eq_true (by omega)
     ·have := of_decide_eq_true (h1 f hf)
      exact decide_eq_true (by omega)
/-- What put returns, and its error. -/
def manyL (ls : List TA) : List TA := if ls.length ≤ 1024 then ls else []
def manyE (ls : List TA) : Int := if ls.length ≤ 1024 then 0 else 2
def putR (ls : List TA) (x y : Int) (t : Nat → Px) : List TA := if withinB x y = true then manyL (putL (fineL ls) x y (cleanT t)) else []
def putE (ls : List TA) (x y : Int) (t : Nat → Px) : Int := if withinB x y = true then manyE (putL (fineL ls) x y (cleanT t)) else 1
def setS (ls : List TA) (x y : Int) (p : Px) : Nat → Px := setT (tileL (fineL ls) (x / 8) (y / 8)) (x % 8) (y % 8) p
def setR (ls : List TA) (x y : Int) (p : Px) : List TA := putR ls (x / 8) (y / 8) (setS ls x y p)
def setE (ls : List TA) (x y : Int) (p : Px) : Int := putE ls (x / 8) (y / 8) (setS ls x y p)
/- Plain: laws of rasters: what put keeps, what is found behind it. -/
theorem putL_mem {ls : List TA} {x y : Int} {t : Nat → Px} {e : TA} (h : e ∈ putL ls x y t) : e ∈ ls ∨ (e = ⟨x, y, t⟩ ∧ zeroB t = false) := by
 have hn : ∀ {e : TA}, e ∈ newA x y t → e = ⟨x, y, t⟩ ∧ zeroB t = false := fun {e} he => by
  unfold newA at he
  split at he
  ·cases he
  ·rename_i hz
   exact ⟨List.mem_singleton.1 he, by simpa using hz⟩
 induction ls with
 | nil => exact .inr (hn h)
 | cons f r ih =>
  unfold putL at h
  split at h
  ·rcases List.mem_cons.1 h with rfl | h
   ·exact .inl (List.mem_cons_self ..)
   ·rcases ih h with h | h
    ·exact .inl (List.mem_cons_of_mem _ h)
    ·exact .inr h
  ·split at h
   ·rcases List.mem_append.1 h with h | h
    ·exact .inr (hn h)
    ·exact .inl (List.mem_cons_of_mem _ h)
   ·rcases List.mem_append.1 h with h | h
    ·exact .inr (hn h)
    ·exact .inl h
theorem newA_srt {x y : Int} {t : Nat → Px} {ls : List TA} (h : Srt ls) (k : ∀ e ∈ ls, lessB x y e.x e.y = true) : Srt (newA x y t ++ ls) := by
 unfold newA
 split
 ·exact h
 ·exact List.Pairwise.cons k h
theorem putL_srt {ls : List TA} {x y : Int} {t : Nat → Px} (h : Srt ls) : Srt (putL ls x y t) := by
 induction ls with
 | nil =>
  have := newA_srt (x := x) (y := y) (t := t) (ls := []) List.Pairwise.nil (fun e he => by cases he)
  rw [List.append_nil] at this
  exact this
 | cons f r ih =>
  obtain ⟨h1, h2⟩ := List.pairwise_cons.1 h
  unfold putL
  split
  ·rename_i hl
   refine List.Pairwise.cons (fun e he => ?_) (ih h2)
   rcases putL_mem he with he | ⟨rfl, _⟩
   ·exact h1 e he
   ·exact hl
  ·rename_i hl
   have l' := of_decide_eq_false (show lessB f.x f.y x y = false by simpa using hl)
   split
   ·rename_i hq
    have e' := of_decide_eq_true hq
    exact newA_srt h2 fun e he => by
     have := of_decide_eq_true (h1 e he)
     exact decide_eq_true (by omega)
   ·rename_i hq
    have e' := of_decide_eq_false (show eqB f.x f.y x y = false by simpa using hq)
    refine newA_srt h fun e he => ?_
    rcases List.mem_cons.1 he with rfl | he
    ·exact decide_eq_true (by omega)
    ·have := of_decide_eq_true (h1 e he)
     exact decide_eq_true (by omega)
theorem putL_good {ls : List TA} {x y : Int} {t : Nat → Px} (h : ∀ e ∈ ls, goodA e = true) (hw : withinB x y = true) (hc : eqT (cleanT t) t = true) : ∀ e ∈ putL ls x y t, goodA e = true := fun e he => by
 rcases putL_mem he with he | ⟨rfl, hz⟩
 ·exact h e he
 ·unfold goodA
  rw [hw, hz, hc]; rfl
theorem clean_clean (t : Nat → Px) : eqT (cleanT (cleanT t)) (cleanT t) = true := eqT_true fun j hj => by
 unfold cleanT cleanP
 split
 ·split <;> rfl
 ·rfl
/-- Behind put the raster is valid, unless it has become too large. -/
theorem putL_valid {ls : List TA} {x y : Int} {t : Nat → Px} (h : validL ls = true) (hw : withinB x y = true) (hl : (putL ls x y (cleanT t)).length ≤ 1024) : validL (putL ls x y (cleanT t)) = true :=
 validL_mk hl (putL_good (validL_good h) hw (clean_clean t)) (putL_srt (validL_srt h))
theorem putR_valid (ls : List TA) (x y : Int) (t : Nat → Px) : validL (putR ls x y t) = true := by
 unfold putR
 split
 ·rename_i hw
  unfold manyL
  split
  ·rename_i hl
   exact putL_valid (fineL_valid ls) hw hl
  ·exact validL_nil
 ·exact validL_nil
theorem putR_tok {ls : List TA} {x y : Int} {t : Nat → Px} (h : TokL ls) (ht : Tok t) : TokL (putR ls x y t) := by
 have hc : Tok (cleanT t) := fun i hi => cleanP_ok (ht i hi)
 unfold putR manyL
 split
 ·split
  ·exact putL_tok (fineL_tok h) hc
  ·exact TokL.nil
 ·exact TokL.nil
theorem setT_tok {t : Nat → Px} {x y : Int} {p : Px} (h : Tok t) (hp : p.ok) : Tok (setT t x y p) := by
 unfold setT
 split
 ·intro i hi
  unfold upd
  split
  ·exact hp
  ·exact h i hi
 ·exact h
theorem setS_tok {ls : List TA} {x y : Int} {p : Px} (h : TokL ls) (hp : p.ok) : Tok (setS ls x y p) := setT_tok (tileL_tok (fineL_tok h) _ _) hp
theorem setR_tok {ls : List TA} {x y : Int} {p : Px} (h : TokL ls) (hp : p.ok) : TokL (setR ls x y p) := putR_tok h (setS_tok h hp)
/-! ### What is found behind put -/
theorem tileL_none {ls : List TA} {x y : Int} (h : ∀ e ∈ ls, eqB e.x e.y x y = false) : tileL ls x y = zT := by
 induction ls with
 | nil => rfl
 | cons e r ih =>
  unfold tileL
  rw [h e (List.mem_cons_self ..)]
  exact ih fun e he => h e (List.mem_cons_of_mem _ he)
theorem tileL_append (a b : List TA) (x y : Int) (h : ∀ e ∈ a, eqB e.x e.y x y = false) : tileL (a ++ b) x y = tileL b x y := by
 induction a with
 | nil => rfl
 | cons e r ih =>
  rw [List.cons_append]
  show (if _ then _ else _) = _
  rw [h e (List.mem_cons_self ..)]
  exact ih fun e he => h e (List.mem_cons_of_mem _ he)
theorem newA_other {x y x' y' : Int} {t : Nat → Px} (h : eqB x y x' y' = false) : ∀ e ∈ newA x y t, eqB e.x e.y x' y' = false := fun e he => by
 unfold newA at he
 split at he
 ·cases he
 ·rw [List.mem_singleton.1 he]; exact h
theorem tileL_put_other (ls : List TA) (x y : Int) (t : Nat → Px) {x' y' : Int} (h : eqB x y x' y' = false) : tileL (putL ls x y t) x' y' = tileL ls x' y' := by
 have h' := of_decide_eq_false h
 induction ls with
 | nil => exact tileL_none (newA_other h)
 | cons e r ih =>
  unfold putL
  split
  ·show (if _ then _ else _) = (if _ then _ else _)
   rw [ih]
  ·split
   ·rename_i hq
    have q := of_decide_eq_true hq
    rw [tileL_append _ _ _ _ (newA_other h)]
    show _ = if _ then _ else _
    rw [show eqB e.x e.y x' y' = false from decide_eq_false (by omega)]
    rfl
   ·rw [tileL_append _ _ _ _ (newA_other h)]
theorem tileL_put_same {ls : List TA} (hs : Srt ls) (x y : Int) (t : Nat → Px) : tileL (putL ls x y t) x y = if zeroB t = true then zT else t := by
 have hself : eqB x y x y = true := decide_eq_true ⟨rfl, rfl⟩
 have hnew : ∀ r : List TA, (∀ e ∈ r, eqB e.x e.y x y = false) → tileL (newA x y t ++ r) x y = if zeroB t = true then zT else t := fun r hr => by
  unfold newA
  split
  ·exact tileL_none hr
  ·show (if _ then _ else _) = _
   rw [if_pos hself]
 induction ls with
 | nil =>
  have := hnew [] (fun e he => by cases he)
  rw [List.append_nil] at this
  exact this
 | cons e r ih =>
  obtain ⟨h1, h2⟩ := List.pairwise_cons.1 hs
  unfold putL
  split
  ·rename_i hl
   have l := of_decide_eq_true hl
   show (if _ then _ else _) = _
   rw [show eqB e.x e.y x y = false from decide_eq_false (by omega)]
   exact ih h2
  ·rename_i hl
   have l := of_decide_eq_false (show lessB e.x e.y x y = false by simpa using hl)
   split
   ·rename_i hq
    have q := of_decide_eq_true hq
    exact hnew r fun f hf => by
     have := of_decide_eq_true (h1 f hf)
     exact decide_eq_false (by omega)
   ·rename_i hq
    have q := of_decide_eq_false (show eqB e.x e.y x y = false by simpa using hq)
    refine hnew (e :: r) fun f hf => ?_
    rcases List.mem_cons.1 hf with rfl | hf
    ·exact decide_eq_false q
    ·have := of_decide_eq_true (h1 f hf)
     exact decide_eq_false (by omega)
/-- Sorted lists with the same tile at every position are equal in length and place by place. -/
theorem tileL_mem {ls : List TA} (hs : Srt ls) {e : TA} (he : e ∈ ls) : tileL ls e.x e.y = e.t := by
 induction ls with
 | nil => cases he
 | cons f r ih =>
  obtain ⟨h1, h2⟩ := List.pairwise_cons.1 hs
  show (if _ then _ else _) = _
  rcases List.mem_cons.1 he with rfl | he
  ·rw [show eqB e.x e.y e.x e.y = true from decide_eq_true ⟨rfl, rfl⟩]; rfl
  ·have := of_decide_eq_true (h1 e he)
   rw [show eqB f.x f.y e.x e.y = false from decide_eq_false (by omega)]
   exact ih h2 he
theorem idxL_le (ls : List TA) (x y : Int) : idxL ls x y ≤ ls.length := by
 induction ls with
 | nil => exact Nat.le_refl _
 | cons e r ih => unfold idxL; split <;> simp; omega
theorem tileL_idx (ls : List TA) (x y : Int) : tileL ls x y = if idxL ls x y < ls.length then (aT ls (idxL ls x y)).t else zT := by
 induction ls with
 | nil => rfl
 | cons e r ih =>
  unfold tileL idxL
  split
  ·rw [if_pos (by simp)]; rfl
  ·rw [ih, List.length_cons, aT_cons]
   by_cases h : idxL r x y < r.length
   ·rw [if_pos h, if_pos (by omega)]
   ·rw [if_neg h, if_neg (by omega)]
theorem idxL_lt {ls : List TA} {x y : Int} : ∀ {j : Nat}, j < idxL ls x y → eqB (aT ls j).x (aT ls j).y x y = false := by
 induction ls with
 | nil => intro j h; exact absurd h (Nat.not_lt_zero _)
 | cons e r ih =>
  intro j h
  unfold idxL at h
  split at h
  ·exact absurd h (Nat.not_lt_zero _)
  ·rename_i hl
   cases j with
   | zero => show eqB e.x e.y x y = false; simpa using hl
   | succ j => exact ih (by omega)
theorem idxL_at {ls : List TA} {x y : Int} (h : idxL ls x y < ls.length) : eqB (aT ls (idxL ls x y)).x (aT ls (idxL ls x y)).y x y = true := by
 induction ls with
 | nil => exact absurd h (Nat.not_lt_zero _)
 | cons e r ih =>
  by_cases hl : eqB e.x e.y x y = true
  ·have hc : idxL (e :: r) x y = 0 := by show (if _ then _ else _) = _; rw [if_pos hl]
   rw [hc]; exact hl
  ·have hc : idxL (e :: r) x y = idxL r x y + 1 := by show (if _ then _ else _) = _; rw [if_neg hl]
   rw [hc] at h ⊢
   exact ih (by simpa using h)
/- Tiles at positions, and slices of them, in memory. -/
/-- The 258 cells of a tile at a position. -/
def taC (e : TA) : Array Value := #[.int .i64 e.x, .int .i64 e.y] ++ tileC e.t
def Ta.v (e : TA) : Value := .agg (taC e)
theorem size_taC (e : TA) : (taC e).size = 258 := by unfold taC; rw [Array.size_append, size_tileC]; rfl
theorem taC_x (e : TA) : (taC e)[0]? = some (.int .i64 e.x) := by unfold taC; rw [Array.getElem?_append_left (by simp)]; rfl
theorem taC_y (e : TA) : (taC e)[1]? = some (.int .i64 e.y) := by unfold taC; rw [Array.getElem?_append_left (by simp)]; rfl
theorem taC_t (e : TA) (j : Nat) : (taC e)[2 + j]? = (tileC e.t)[j]? := by
 unfold taC
 rw [Array.getElem?_append_right (by simp)]
 simp
theorem taC_oneCell (e : TA) : ∀ u ∈ (taC e).toList, u.oneCell' = true := by
 intro u hu
 obtain ⟨i, h⟩ := List.mem_iff_getElem?.1 hu
 rw [Array.getElem?_toList] at h
 have hs : i < 258 := by rw [← size_taC e]; exact (Array.getElem?_eq_some_iff.1 h).1
 match i, hs with
 | 0, _ => rw [taC_x] at h; rw [← Option.some.inj h]; rfl
 | 1, _ => rw [taC_y] at h; rw [← Option.some.inj h]; rfl
 | j + 2, hs =>
  rw [Nat.add_comm j 2, taC_t, get_tileC, if_pos (by omega)] at h
  rw [← Option.some.inj h]
  unfold pxC
  repeat' split
  all_goals rfl
attribute [irreducible] taC
/-- The cells of a row. -/
def rowC : List TA → List Value
 | [] => []
 | e :: r => (taC e).toList ++ rowC r
theorem rowC_append (a b : List TA) : rowC (a ++ b) = rowC a ++ rowC b := by
 induction a with
 | nil => rfl
 | cons e r ih => rw [List.cons_append]; show _ ++ rowC (r ++ b) = _; rw [ih]; show _ = (_ ++ _) ++ _; rw [List.append_assoc]
theorem rowC_length (ls : List TA) : (rowC ls).length = ls.length * 258 := by
 induction ls with
 | nil => rfl
 | cons e r ih => show ((taC e).toList ++ rowC r).length = _; rw [List.length_append, ih, Array.length_toList, size_taC, List.length_cons]; omega
theorem rowC_at (ls : List TA) : ∀ i j, i < ls.length → j < 258 → (rowC ls)[i * 258 + j]? = (taC (aT ls i))[j]? := by
 induction ls with
 | nil => intro i j hi; exact absurd hi (Nat.not_lt_zero _)
 | cons e r ih =>
  intro i j hi hj
  show ((taC e).toList ++ rowC r)[i * 258 + j]? = _
  cases i with
  | zero =>
   rw [List.getElem?_append_left (by rw [Array.length_toList, size_taC]; omega), Array.getElem?_toList, Nat.zero_mul, Nat.zero_add]
   rfl
  | succ i =>
   rw [List.getElem?_append_right (by rw [Array.length_toList, size_taC]; omega), Array.length_toList, size_taC, show (i + 1) * 258 + j - 258 = i * 258 + j by omega, ih i j (by simpa using hi) hj, aT_cons]
theorem rowC_oneCell (ls : List TA) : ∀ u ∈ rowC ls, u.oneCell' = true := by
 induction ls with
 | nil => intro u hu; cases hu
 | cons e r ih =>
  intro u hu
  rcases List.mem_append.1 hu with hu | hu
  ·exact taC_oneCell e u hu
  ·exact ih u hu
/-- The cells of block g from o on are those of the row ls. -/
def RCells (g o : Nat) (ls : List TA) (w : World) : Prop := g < w.heap.size ∧ ∀ i, i < ls.length → ∀ j, j < 258 → w.cell? ⟨g, o + (i * 258 + j), none⟩ = (taC (aT ls i))[j]?
theorem RCells.lt {g o : Nat} {ls : List TA} {w : World} (h : RCells g o ls w) : g < w.heap.size := h.1
theorem RCells.of_eq {g o : Nat} {ls : List TA} {w w' : World} (h : RCells g o ls w) (e : w'.heap[g]? = w.heap[g]?) : RCells g o ls w' := by
 refine ⟨?_, fun i hi j hj => ?_⟩
 ·have := h.1
  rcases Nat.lt_or_ge g w'.heap.size with k | k
  ·exact k
  ·rw [Array.getElem?_eq_none k, Array.getElem?_eq_getElem this] at e
   cases e
 ·rw [World.cell?_of_block (w := w) e]
  exact h.2 i hi j hj
theorem RCells.below {g o : Nat} {ls : List TA} {w w' : World} (h : RCells g o ls w) (e : Below w.heap.size w w') : RCells g o ls w' := h.of_eq (e.block _ h.lt)
theorem RCells.drop {g o : Nat} {ls : List TA} {w : World} (h : RCells g o ls w) (k : Nat) : RCells g (o + k * 258) (ls.drop k) w :=
 ⟨h.1, fun i hi j hj => by
  rw [List.length_drop] at hi
  rw [aT_drop, ← h.2 (k + i) (by omega) j hj]
  congr 2
  rw [Nat.add_mul]; omega⟩
theorem RCells.take {g o : Nat} {ls : List TA} {w : World} (h : RCells g o ls w) (k : Nat) : RCells g o (ls.take k) w :=
 ⟨h.1, fun i hi j hj => by
  rw [List.length_take] at hi
  have e : aT (ls.take k) i = aT ls i := by
   unfold aT
   rw [List.getD_eq_getElem?_getD, List.getD_eq_getElem?_getD, List.getElem?_take, if_pos (by omega)]
  rw [e]
  exact h.2 i (by omega) j hj⟩
/-- The cells one by one. -/
theorem RCells.row {g o : Nat} {ls : List TA} {w : World} (h : RCells g o ls w) (j : Nat) (u : Value) (hu : (rowC ls)[j]? = some u) : w.cell? ⟨g, o + j, none⟩ = some u := by
 have hj : j < ls.length * 258 := by rw [← rowC_length]; exact (List.getElem?_eq_some_iff.1 hu).1
 have e : j = (j / 258) * 258 + j % 258 := by omega
 rw [e, rowC_at ls _ _ (by omega) (by omega)] at hu
 have := h.2 (j / 258) (by omega) (j % 258) (by omega)
 rw [hu, ← e] at this
 exact this
theorem RCells.x {g o : Nat} {ls : List TA} {w : World} (h : RCells g o ls w) {i : Nat} (hi : i < ls.length) : w.cell? ⟨g, o + i * 258, none⟩ = some (.int .i64 (aT ls i).x) := by
 have := h.2 i hi 0 (by omega)
 rw [taC_x] at this
 exact this
theorem RCells.y {g o : Nat} {ls : List TA} {w : World} (h : RCells g o ls w) {i : Nat} (hi : i < ls.length) : w.cell? ⟨g, o + i * 258 + 1, none⟩ = some (.int .i64 (aT ls i).y) := by
 have := h.2 i hi 1 (by omega)
 rw [taC_y, ← Nat.add_assoc] at this
 exact this
theorem RCells.t {g o : Nat} {ls : List TA} {w : World} (h : RCells g o ls w) {i : Nat} (hi : i < ls.length) {j : Nat} (hj : j < 256) : w.cell? ⟨g, o + i * 258 + 2 + j, none⟩ = (tileC (aT ls i).t)[j]? := by
 have := h.2 i hi (2 + j) (by omega)
 rw [taC_t, ← Nat.add_assoc, ← Nat.add_assoc] at this
 exact this
/-- v is a slice of the tiles ls. -/
def RS (v : Value) (ls : List TA) (w : World) : Prop := (v = .slice none 0 0 ∧ ls = []) ∨ ∃ g o c, v = .slice (some ⟨g, o, none⟩) ls.length c ∧ ls.length ≤ c ∧ (0 < ls.length → RCells g o ls w)
section
variable {v : Value} {ls : List TA} {w w' : World}
theorem RS.below (h : RS v ls w) (hb : Below w.heap.size w w') : RS v ls w' := by
 rcases h with h | ⟨g, o, c, e, hc, sc⟩
 ·exact .inl h
 ·exact .inr ⟨g, o, c, e, hc, fun hn => (sc hn).of_eq (hb.block _ (sc hn).lt)⟩
theorem RS.len (h : RS v ls w) : ∃ a c, v = .slice a ls.length c ∧ ls.length ≤ c := by
 rcases h with ⟨rfl, rfl⟩ | ⟨g, o, c, e, hc, sc⟩
 ·exact ⟨none, 0, rfl, Nat.le_refl _⟩
 ·exact ⟨_, c, e, hc⟩
theorem RS.at {a : Option Addr} {n c : Nat} (h : RS (.slice a n c) ls w) (hn : 0 < ls.length) : ∃ g o, a = some ⟨g, o, none⟩ ∧ RCells g o ls w := by
 rcases h with ⟨_, rfl⟩ | ⟨g, o, c', e, _, sc⟩
 ·exact absurd hn (by decide)
 ·injection e with e1 e2 e3
  exact ⟨g, o, e1, sc hn⟩
theorem RS.nil (w : World) : RS (.slice none 0 0) [] w := .inl ⟨rfl, rfl⟩
end
/-- v is a slice of the tiles ls, in a row that the call owns (from block B on). -/
def OwnT (B : Nat) (v : Value) (ls : List TA) (w : World) : Prop := w.ownsRow B 72 258 v ls.length (rowC ls)
section
variable {B : Nat} {v : Value} {ls : List TA} {w : World}
theorem OwnT.below {w' : World} (h : OwnT B v ls w) (hb : Below w.heap.size w w') : OwnT B v ls w' :=
 World.ownsRow.kept (row := none) h ⟨hb.os, hb.tape, hb.output, hb.size, fun k hk _ => hb.block k hk⟩ (Classical.em _)
theorem OwnT.mono {B' : Nat} (h : OwnT B v ls w) (hb : B' ≤ B) : OwnT B' v ls w := World.ownsRow.mono h hb
theorem OwnT.nil (B : Nat) (w : World) : OwnT B (.slice none 0 0) [] w := World.ownsRow_nil w B _ _
theorem OwnT.rs (h : OwnT B v ls w) : RS v ls w := by
 obtain ⟨h1, h2⟩ := h
 rcases h2 with ⟨rfl, h0⟩ | ⟨g, cap, cur, rfl, hb, hg, hn, hm, hs, ht⟩
 ·exact .inl ⟨rfl, List.eq_nil_of_length_eq_zero h0⟩
 ·refine .inr ⟨g, 0, cap, rfl, hn, fun _ => ⟨(Array.getElem?_eq_some_iff.1 hg).1, fun i hi j hj => ?_⟩⟩
  rw [← rowC_at ls i j hi hj, Nat.zero_add, cell_of_row w g _ cur _ (0, 0) hg, ← ht, List.getElem?_take_of_lt (by omega), Array.getElem?_toList]
theorem OwnT.len (h : OwnT B v ls w) : ∃ a c, v = .slice a ls.length c ∧ ls.length ≤ c := h.rs.len
end
theorem ta_info : (Tryz.prog.info? 72).map (fun i => (i.size, i.bytes)) = some (258, 272) := by kernel_rfl
theorem ta_zero : (Tryz.prog.info? 72).bind (·.zero) = some (.agg (#[.int .i64 0, .int .i64 0] ++ Array.replicate 256 (.int .u8 0))) := by kernel_rfl
section
variable {ops : Array Oper} {rest : List Oper} {o : Oper} {a : Act} {w : World} {Q : Exit → Act → World → Prop}
/-- A slice of tiles appended to a row of the call's own. -/
theorem wpList_appendT (hg : o.guard = none) (s x : Operand) (ho : o.op = .call { callee := .builtin .append, args := #[s, x], argTypes := #[32, 32] }) (v u : Value) (hs : a.eval s = v) (hx : a.eval x = u) {B : Nat} {ls ks : List TA} (hown : OwnT B v ls w) (hu : RS u ks w) (hlen : ls.length + ks.length ≤ 100000) (hB : B ≤ w.heap.size)
  (h : ∀ v' w', OwnT B v' (ls ++ ks) w' → Below B w w' → wpList Tryz.prog ops Q rest (a.put o.dst v') w') : wpList Tryz.prog ops Q (o :: rest) a w := by
 obtain ⟨i, hi⟩ : ∃ i, Tryz.prog.info? 72 = some i := by
  cases h : Tryz.prog.info? 72 with
  | some i => exact ⟨i, rfl⟩
  | none => have e := ta_info; rw [h] at e; cases e
 have e1 := ta_info
 rw [hi] at e1
 have e1' : i.size = 258 ∧ i.bytes = 272 := by simpa using e1
 have hz := ta_zero
 rw [hi] at hz
 rcases hu with ⟨rfl, rfl⟩ | ⟨g, of, c, rfl, hc, sc⟩
 ·refine wpList_append_own_none (P := Tryz.prog) hg s x 32 ho B 72 i 258 Tryz.underlying32 hi v ls.length (rowC ls) hs hown hx ?_
  exact h v w (by rw [List.append_nil]; exact hown) (Below.refl _ _)
 ·refine wpList_append_own (P := Tryz.prog) w hg s x 32 ho B 72 i _ 258 272 Tryz.underlying32 hi hz e1'.1 e1'.2 (by simp [Value.cells]) (by omega) v ls.length (rowC ls) hs hown ⟨g, of, none⟩ ks.length c (rowC ks) hx (rowC_length ks) ?_ (rowC_oneCell ks) (by unfold maxLen; omega) (by omega) hB ?_
  ·intro j u hu
   have hj : j < ks.length * 258 := by rw [← rowC_length]; exact (List.getElem?_eq_some_iff.1 hu).1
   have e : (⟨g, of, none⟩ : Addr).add j = ⟨g, of + j, none⟩ := by unfold Addr.add; split <;> simp_all
   rw [e]
   exact (sc (by omega)).row j u hu
  ·intro v' w' h1 h2 h3
   refine h v' w' ?_ ?_
   ·unfold OwnT
    rw [rowC_append, List.length_append]
    exact h1
   ·have hlt := World.ownsRow.lt hown
    exact ⟨h2.os, h2.tape, h2.output, h2.size, fun k hk => h2.block k (by omega) (fun e => by have := hlt k e.symm; omega)⟩
end
end Go.Proofs.YtamgpfblhlfhaaaGreat
/- Blocks known whole, of whatever type: laws of the walk. -/
namespace Go.Proofs.YtamgpfblhlfhaaaGreat
open Go.RowKit
set_option linter.unusedVariables false
set_option linter.unusedSimpArgs false
set_option maxRecDepth 20000
/-- The block b holds the cells cs. -/
def AtB (t : TypeId) (w : World) (b : Nat) (cs : Array Value) : Prop := w.heap[b]? = some (.cells cs t (0, 0))
section
variable {t : TypeId} {w : World} {b : Nat} {cs cs' : Array Value}
theorem AtB.of_eq {w' : World} (h : AtB t w b cs) (e : w'.heap[b]? = w.heap[b]?) : AtB t w' b cs := e.trans h
theorem AtB.lt (h : AtB t w b cs) : b < w.heap.size := (Array.getElem?_eq_some_iff.1 h).1
theorem AtB.below {t : TypeId} {w w' : World} {b : Nat} {cs : Array Value} (h : AtB t w b cs) (e : Below w.heap.size w w') : AtB t w' b cs := h.of_eq (e.block _ h.lt)
theorem AtB.cell (h : AtB t w b cs) (i : Nat) {v : Value} (hv : cs[i]? = some v) : w.cell? ⟨b, i, none⟩ = some v := ((cells_of_block h).1 i).trans hv
theorem AtB.frozen (h : AtB t w b cs) (i : Nat) : w.frozen? ⟨b, i, none⟩ = false := (cells_of_block h).2 i
theorem AtB.setRow (h : AtB t w b cs) (cs' : Array Value) : AtB t (w.setRow b cs') b cs' := setRow_heap w b _ _ _ _ h
theorem ov_B (h : AtB t w b cs) : ∀ w', (∃ u, w' = ov w u) → AtB t w' b cs := by
 rintro w' ⟨u, rfl⟩
 exact h.of_eq ((ov_below w u).block _ h.lt)
/-- Loaded whole. -/
theorem run_load_B (h : AtB t w b cs) (hagg : ∀ w : World, (isAgg t).run Tryz.prog w = .ok true w) (hsz : (Tryz.prog.info? t).map (·.size) = some cs.size) : (Instr.loadAt t (.pointer (some ⟨b, 0, none⟩))).run Tryz.prog w = .ok (.agg cs) w :=
 run_load_part (off := 0) h hagg hsz (fun j _ => by rw [Nat.zero_add])
/-- A part loaded. -/
theorem run_load_BP {t' : TypeId} (h : AtB t w b cs) (off : Nat) (hagg : ∀ w : World, (isAgg t').run Tryz.prog w = .ok true w) (hsz : (Tryz.prog.info? t').map (·.size) = some cs'.size) (hc : ∀ j, j < cs'.size → cs[off + j]? = cs'[j]?) : (Instr.loadAt t' (.pointer (some ⟨b, off, none⟩))).run Tryz.prog w = .ok (.agg cs') w :=
 run_load_part h hagg hsz hc
theorem run_store_B (h : AtB t w b cs) (hsz : (Tryz.prog.info? t).map (·.size) = some cs'.size) (hss : cs'.size = cs.size) (hone : cs'.all (·.oneCell') = true) : (Instr.storeAt t (.pointer (some ⟨b, 0, none⟩)) (.agg cs')).run Tryz.prog w = .ok () (w.setRow b cs') := by
 simp only [Instr.storeAt, Instr.sureAddr, Sem.run_bind, Sem.run_pure, Result.andThen_ok]
 exact run_storeVar_row w b _ t _ _ h hsz hss.symm hone
end
section
variable {t : TypeId} {ops : Array Oper} {rest : List Oper} {o : Oper} {a : Act} {w : World} {Q : Exit → Act → World → Prop}
theorem wpList_boxB (hg : o.guard = none) (x : Operand) (ho : o.op = .box t x) (cs : Array Value) (hx : a.eval x = .agg cs)
  (h : ∀ b w', w.heap.size ≤ b → b ≤ w.heap.size → AtB t w' b cs → Below b w w' → w'.heap.size = b + 1 → wpList Tryz.prog ops Q rest (a.put o.dst (.pointer (some ⟨b, 0, none⟩))) w') : wpList Tryz.prog ops Q (o :: rest) a w :=
 wpList_plain hg fun K hK => by
  have e : (a.eval x).cells = cs := by rw [hx]; simp only [Value.cells]
  unfold Oper.wp execOp
  simp only [ho, Sem.run_bind, Instr.box, newVar, newRow, run_newObj_alloc, Sem.run_pure, Result.andThen_ok, e]
  exact hK _ _ (h _ _ (Nat.le_refl _) (Nat.le_refl _) (by unfold AtB; rw [heap_get_alloc, if_pos rfl]) ((Below.refl _ _).alloc (Nat.le_refl _) _) (World.size_alloc _ _))
/-- A value of one cell boxed. -/
theorem wpList_boxV (hg : o.guard = none) (x : Operand) (ho : o.op = .box t x) (v : Value) (hx : a.eval x = v) (hv : v.cells = #[v])
  (h : ∀ b w', w.heap.size ≤ b → b ≤ w.heap.size → AtB t w' b #[v] → Below b w w' → w'.heap.size = b + 1 → wpList Tryz.prog ops Q rest (a.put o.dst (.pointer (some ⟨b, 0, none⟩))) w') : wpList Tryz.prog ops Q (o :: rest) a w :=
 wpList_plain hg fun K hK => by
  have e : (a.eval x).cells = #[v] := by rw [hx]; exact hv
  unfold Oper.wp execOp
  simp only [ho, Sem.run_bind, Instr.box, newVar, newRow, run_newObj_alloc, Sem.run_pure, Result.andThen_ok, e]
  exact hK _ _ (h _ _ (Nat.le_refl _) (Nat.le_refl _) (by unfold AtB; rw [heap_get_alloc, if_pos rfl]) ((Below.refl _ _).alloc (Nat.le_refl _) _) (World.size_alloc _ _))
theorem wpList_storeB {cs : Array Value} (hg : o.guard = none) (x y : Operand) (ho : o.op = .store t x y) (b : Nat) (hx : a.eval x = .pointer (some ⟨b, 0, none⟩)) (cs' : Array Value) (hy : a.eval y = .agg cs') (ht : AtB t w b cs) (hsz : (Tryz.prog.info? t).map (·.size) = some cs'.size) (hss : cs'.size = cs.size) (hone : cs'.all (·.oneCell') = true)
  (h : ∀ w', AtB t w' b cs' → Chg b w w' → w'.heap.size = w.heap.size → wpList Tryz.prog ops Q rest (a.put o.dst undef) w') : wpList Tryz.prog ops Q (o :: rest) a w := by
 refine wpList_storeAny hg x y ho _ ?_ (h _ (ht.setRow cs') ((Chg.refl b w).setRow _) (size_setRow _ _ _))
 rw [hx, hy]
 exact run_store_B ht hsz hss hone
theorem wpList_allocBk (hg : o.guard = none) (cs : Array Value) (hrun : ∀ ev, (execOp ev o).run Tryz.prog w = .ok (.value (.pointer (some ⟨w.heap.size, 0, none⟩))) (w.alloc (.cells cs t)))
  (h : ∀ b w', w.heap.size ≤ b → b ≤ w.heap.size → AtB t w' b cs → Below b w w' → w'.heap.size = b + 1 → wpList Tryz.prog ops Q rest (a.put o.dst (.pointer (some ⟨b, 0, none⟩))) w') : wpList Tryz.prog ops Q (o :: rest) a w :=
 wpList_plain hg fun K hK => by
  unfold Oper.wp
  rw [hrun]
  exact hK _ _ (h _ _ (Nat.le_refl _) (Nat.le_refl _) (by unfold AtB; rw [heap_get_alloc, if_pos rfl]) ((Below.refl _ _).alloc (Nat.le_refl _) _) (World.size_alloc _ _))
end
/-- A block for a result. -/
theorem results_B {t : TypeId} {fn : Func} {p : Tmp} (h : fn.results = #[.cell p t]) (tmps : Array Value) (w : World) (b : Nat) (hp : tmps.getD p undef = .pointer (some ⟨b, 0, none⟩)) {cs : Array Value} (ht : AtB t w b cs) (hagg : ∀ w : World, (isAgg t).run Tryz.prog w = .ok true w) (hsz : (Tryz.prog.info? t).map (·.size) = some cs.size) :
  (results fn tmps).run Tryz.prog w = .ok (.agg cs) w := by
 have hl := run_load_B ht hagg hsz
 simp only [Instr.loadAt, Instr.sureAddr, Sem.run_bind, Sem.run_pure, Result.andThen_ok] at hl
 unfold results
 rw [h]
 have hp' : tmps[p]?.getD undef = .pointer (some ⟨b, 0, none⟩) := by simpa using hp
 simp [hp', Instr.sureAddr, asAddr, hl, Sem.run_bind, Sem.run_pure, Result.andThen_ok]
/-- A block and a slot for results. -/
theorem results_B2 {t : TypeId} {fn : Func} {p q : Tmp} (h : fn.results = #[.cell p t, .tmp q]) (tmps : Array Value) (w : World) (b : Nat) (hp : tmps.getD p undef = .pointer (some ⟨b, 0, none⟩)) {cs : Array Value} (v : Value) (hq : tmps.getD q undef = v) (ht : AtB t w b cs) (hagg : ∀ w : World, (isAgg t).run Tryz.prog w = .ok true w) (hsz : (Tryz.prog.info? t).map (·.size) = some cs.size) :
  (results fn tmps).run Tryz.prog w = .ok (.tuple #[.agg cs, v]) w := by
 have hl := run_load_B ht hagg hsz
 simp only [Instr.loadAt, Instr.sureAddr, Sem.run_bind, Sem.run_pure, Result.andThen_ok] at hl
 unfold results
 rw [h]
 have hp' : tmps[p]?.getD undef = .pointer (some ⟨b, 0, none⟩) := by simpa using hp
 have hq' : tmps[q]?.getD undef = v := by simpa using hq
 simp [hp', hq', Instr.sureAddr, asAddr, hl, Sem.run_bind, Sem.run_pure, Result.andThen_ok]
end Go.Proofs.YtamgpfblhlfhaaaGreat
/- The small structs of rasters as values and blocks. -/
namespace Go.Proofs.YtamgpfblhlfhaaaGreat
open Go.RowKit Pl
set_option linter.unusedVariables false
set_option linter.unusedSimpArgs false
set_option maxRecDepth 20000
/-! ### The small types -/
theorem run_alloc_Rc (w : World) (o : Oper) (ho : o.op = .alloc 30) (ev : Operand → Value) : (execOp ev o).run Tryz.prog w = .ok (.value (.pointer (some ⟨w.heap.size, 0, none⟩))) (w.alloc (.cells #[.int .i64 0, .int .i64 0, .int .i64 0, .int .i64 0] 30)) := by
 obtain ⟨d, p, t, ps, af, gd⟩ := o
 simp only at ho
 subst ho
 kernel_rfl
theorem run_alloc_Ps (w : World) (o : Oper) (ho : o.op = .alloc 68) (ev : Operand → Value) : (execOp ev o).run Tryz.prog w = .ok (.value (.pointer (some ⟨w.heap.size, 0, none⟩))) (w.alloc (.cells #[.int .i64 0, .int .i64 0] 68)) := by
 obtain ⟨d, p, t, ps, af, gd⟩ := o
 simp only at ho
 subst ho
 kernel_rfl
theorem run_alloc_Pt (w : World) (o : Oper) (ho : o.op = .alloc 53) (ev : Operand → Value) : (execOp ev o).run Tryz.prog w = .ok (.value (.pointer (some ⟨w.heap.size, 0, none⟩))) (w.alloc (.cells #[.int .i64 0, .int .i64 0] 53)) := by
 obtain ⟨d, p, t, ps, af, gd⟩ := o
 simp only at ho
 subst ho
 kernel_rfl
def Ps.v (x y : Int) : Value := .agg #[.int .i64 x, .int .i64 y]
theorem Rc.v_mk (a b c d : Int) : Rc.v ⟨a, b, c, d⟩ = .agg #[.int .i64 a, .int .i64 b, .int .i64 c, .int .i64 d] := rfl
theorem Rc.v_def (r : Rc) : Rc.v r = .agg #[.int .i64 r.x0, .int .i64 r.y0, .int .i64 r.x1, .int .i64 r.y1] := rfl
/- Contracts of package rect and of its reference, as far as rasters want them. -/
theorem P_Empty (r : Rc) (w : World) : Calls Tryz.prog 67 #[Rc.v r] w fun e w' => e = .returned (.bool (emptyR r)) ∧ Below w.heap.size w w' := by
 obtain ⟨a, b, c, d⟩ := r
 simp only [Rc.v_mk]
 by_cases h0 : c ≤ a
 ·rw [show emptyR ⟨a, b, c, d⟩ = true from by unfold emptyR; exact decide_eq_true (by simp only; omega)]
  have d0 : decide (c ≤ a) = true := decide_eq_true h0
  go_enter Tryz.func67, Tryz.ntmps67
  go_wp2
  go_ret
  exact ⟨rfl, by go_grown⟩
 ·by_cases h1 : d ≤ b
  ·rw [show emptyR ⟨a, b, c, d⟩ = true from by unfold emptyR; exact decide_eq_true (by simp only; omega)]
   have d0 : decide (c ≤ a) = false := decide_eq_false h0
   have d1 : decide (d ≤ b) = true := decide_eq_true h1
   go_enter Tryz.func67, Tryz.ntmps67
   go_wp2
   go_ret
   exact ⟨rfl, by go_grown⟩
  ·rw [show emptyR ⟨a, b, c, d⟩ = false from by unfold emptyR; exact decide_eq_false (by simp only; omega)]
   have d0 : decide (c ≤ a) = false := decide_eq_false h0
   have d1 : decide (d ≤ b) = false := decide_eq_false h1
   go_enter Tryz.func67, Tryz.ntmps67
   go_wp2
   go_ret
   exact ⟨rfl, by go_grown⟩
theorem P_Has (r : Rc) (x y : Int) (w : World) : Calls Tryz.prog 51 #[Rc.v r, Ps.v x y] w fun e w' => e = .returned (.bool (hasR r x y)) ∧ Below w.heap.size w w' := by
 obtain ⟨a, b, c, d⟩ := r
 simp only [Rc.v_mk, Ps.v]
 by_cases h0 : a ≤ x
 ·by_cases h1 : x < c
  ·by_cases h2 : b ≤ y
   ·by_cases h3 : y < d
    ·rw [show hasR ⟨a, b, c, d⟩ x y = true from by unfold hasR; exact decide_eq_true (by simp only; omega)]
     have d0 : decide (a ≤ x) = true := decide_eq_true h0
     have d1 : decide (x < c) = true := decide_eq_true h1
     have d2 : decide (b ≤ y) = true := decide_eq_true h2
     have d3 : decide (y < d) = true := decide_eq_true h3
     go_enter Tryz.func51, Tryz.ntmps51
     go_wp2
     go_ret
     exact ⟨rfl, by go_grown⟩
    ·rw [show hasR ⟨a, b, c, d⟩ x y = false from by unfold hasR; exact decide_eq_false (by simp only; omega)]
     have d0 : decide (a ≤ x) = true := decide_eq_true h0
     have d1 : decide (x < c) = true := decide_eq_true h1
     have d2 : decide (b ≤ y) = true := decide_eq_true h2
     have d3 : decide (y < d) = false := decide_eq_false h3
     go_enter Tryz.func51, Tryz.ntmps51
     go_wp2
     go_ret
     exact ⟨rfl, by go_grown⟩
   ·rw [show hasR ⟨a, b, c, d⟩ x y = false from by unfold hasR; exact decide_eq_false (by simp only; omega)]
    have d0 : decide (a ≤ x) = true := decide_eq_true h0
    have d1 : decide (x < c) = true := decide_eq_true h1
    have d2 : decide (b ≤ y) = false := decide_eq_false h2
    go_enter Tryz.func51, Tryz.ntmps51
    go_wp2
    go_ret
    exact ⟨rfl, by go_grown⟩
  ·rw [show hasR ⟨a, b, c, d⟩ x y = false from by unfold hasR; exact decide_eq_false (by simp only; omega)]
   have d0 : decide (a ≤ x) = true := decide_eq_true h0
   have d1 : decide (x < c) = false := decide_eq_false h1
   go_enter Tryz.func51, Tryz.ntmps51
   go_wp2
   go_ret
   exact ⟨rfl, by go_grown⟩
 ·rw [show hasR ⟨a, b, c, d⟩ x y = false from by unfold hasR; exact decide_eq_false (by simp only; omega)]
  have d0 : decide (a ≤ x) = false := decide_eq_false h0
  go_enter Tryz.func51, Tryz.ntmps51
  go_wp2
  go_ret
  exact ⟨rfl, by go_grown⟩
theorem P_norm (r : Rc) (w : World) : Calls Tryz.prog 100 #[Rc.v r] w fun e w' => e = .returned (Rc.v (normR r)) ∧ Below w.heap.size w w' := by
 obtain ⟨a, b, c, d⟩ := r
 have B := Below.refl w.heap.size w
 by_cases hE : emptyR ⟨a, b, c, d⟩ = true
 ·rw [show normR ⟨a, b, c, d⟩ = Rc.zero from if_pos hE]
  simp only [Rc.v_mk]
  go_enter Tryz.func100, Tryz.ntmps100
  go_wp2_with (first | (go_at_call 67; refine (P_Empty ⟨a, b, c, d⟩ _).mono ?_; rintro e wn ⟨rfl, hbn⟩; have hsz := B.size; have hzn := hbn.size; replace B := B.trans (hbn.mono B.size); (try replace r1 := r1.below hbn); (try replace r2 := r2.below hbn)) | (refine wpList_storeB (t := 30) rfl _ _ rfl _ rfl _ rfl r2 (by kernel_rfl) rfl (by simp [Value.oneCell']) ?_; clear r2; intro wn ht hcn hzn; have hsz := B.size; replace hzn := Nat.le_of_eq hzn.symm; replace B := Chg.below B hcn (by omega) B.size; (try replace r1 := r1.of_eq (hcn.block _ r1.lt (by omega))); have r2 := ht; clear ht; simp only [putS]) | (have _ := r1; refine wpList_allocBk (t := 30) rfl _ (run_alloc_Rc _ _ rfl) ?_; intro b_r2 wn hle hge ht hbn hzn; have hsz := B.size; replace B := B.trans (hbn.mono (by omega)); have hln := Nat.lt_of_lt_of_eq (Nat.lt_succ_self _) hzn.symm; clear hzn; (try have hlt := r1.lt); (try replace r1 := r1.below (hbn.mono hle)); (try have hlt := r2.lt); (try replace r2 := r2.below (hbn.mono hle)); have r2 := ht; clear ht; simp only [putS]) | (refine wpList_boxB (t := 30) rfl _ rfl _ rfl ?_; intro b_r1 wn hle hge ht hbn hzn; have hsz := B.size; replace B := B.trans (hbn.mono (by omega)); have hln := Nat.lt_of_lt_of_eq (Nat.lt_succ_self _) hzn.symm; clear hzn; (try have hlt := r1.lt); (try replace r1 := r1.below (hbn.mono hle)); (try have hlt := r2.lt); (try replace r2 := r2.below (hbn.mono hle)); have r1 := ht; clear ht; simp only [putS]) | (refine wpList_loadAny (t := 30) rfl _ rfl _ _ _ rfl (run_load_B r1 Tryz.isAgg30 (by kernel_rfl)) (by rfl) ?_; simp only [putS]))
  refine bodyPost_ret (results_B (t := 30) rfl _ _ (b_r2) rfl r2 Tryz.isAgg30 (by kernel_rfl)) rfl ?_
  exact ⟨rfl, B⟩
 ·rw [show normR ⟨a, b, c, d⟩ = ⟨a, b, c, d⟩ from if_neg hE]
  have hE' : emptyR ⟨a, b, c, d⟩ = false := by simpa using hE
  simp only [Rc.v_mk]
  clear hE
  go_enter Tryz.func100, Tryz.ntmps100
  go_wp2_with (first | (go_at_call 67; refine (P_Empty ⟨a, b, c, d⟩ _).mono ?_; rintro e wn ⟨rfl, hbn⟩; have hsz := B.size; have hzn := hbn.size; replace B := B.trans (hbn.mono B.size); (try replace r1 := r1.below hbn); (try replace r2 := r2.below hbn)) | (refine wpList_storeB (t := 30) rfl _ _ rfl _ rfl _ rfl r2 (by kernel_rfl) rfl (by simp [Value.oneCell']) ?_; clear r2; intro wn ht hcn hzn; have hsz := B.size; replace hzn := Nat.le_of_eq hzn.symm; replace B := Chg.below B hcn (by omega) B.size; (try replace r1 := r1.of_eq (hcn.block _ r1.lt (by omega))); have r2 := ht; clear ht; simp only [putS]) | (have _ := r1; refine wpList_allocBk (t := 30) rfl _ (run_alloc_Rc _ _ rfl) ?_; intro b_r2 wn hle hge ht hbn hzn; have hsz := B.size; replace B := B.trans (hbn.mono (by omega)); have hln := Nat.lt_of_lt_of_eq (Nat.lt_succ_self _) hzn.symm; clear hzn; (try have hlt := r1.lt); (try replace r1 := r1.below (hbn.mono hle)); (try have hlt := r2.lt); (try replace r2 := r2.below (hbn.mono hle)); have r2 := ht; clear ht; simp only [putS]) | (refine wpList_boxB (t := 30) rfl _ rfl _ rfl ?_; intro b_r1 wn hle hge ht hbn hzn; have hsz := B.size; replace B := B.trans (hbn.mono (by omega)); have hln := Nat.lt_of_lt_of_eq (Nat.lt_succ_self _) hzn.symm; clear hzn; (try have hlt := r1.lt); (try replace r1 := r1.below (hbn.mono hle)); (try have hlt := r2.lt); (try replace r2 := r2.below (hbn.mono hle)); have r1 := ht; clear ht; simp only [putS]) | (refine wpList_loadAny (t := 30) rfl _ rfl _ _ _ rfl (run_load_B r1 Tryz.isAgg30 (by kernel_rfl)) (by rfl) ?_; simp only [putS]))
  refine bodyPost_ret (results_B (t := 30) rfl _ _ (b_r2) rfl r2 Tryz.isAgg30 (by kernel_rfl)) rfl ?_
  exact ⟨rfl, B⟩
/- Contracts of package rect and of its reference: Floor by 8, At, Valid, Area, Intersect, Union; fits of package raster and of its reference. -/
theorem tdiv_neg8 (x : Int) (h : x < 0) : (x.tmod 8 = 0 → x.tdiv 8 = x / 8) ∧ (x.tmod 8 ≠ 0 → x.tdiv 8 - 1 = x / 8) := by
 obtain ⟨n, rfl⟩ : ∃ n : Nat, x = -(n : Int) := ⟨(-x).toNat, by omega⟩
 have e1 : (-(n : Int)).tdiv 8 = -((n : Int) / 8) := by rw [Int.neg_tdiv]; rfl
 have e2 : (-(n : Int)).tmod 8 = -((n : Int) % 8) := by rw [Int.neg_tmod]; rfl
 rw [e1, e2]
 constructor <;> intro h2 <;> omega
set_option maxHeartbeats 1000000 in
theorem P_Floor8 (x : Int) (w : World) (hx : (Lit.int .i64 x).wf = true) : Calls Tryz.prog 84 #[.int .i64 x, .int .i64 8] w fun e w' => e = .returned (.int .i64 (x / 8)) ∧ w = w' := by
 have hmin : IntKind.i64.min = -9223372036854775808 := rfl
 have hmax : IntKind.i64.max = 9223372036854775807 := rfl
 simp only [Lit.wf, Bool.and_eq_true, decide_eq_true_eq] at hx
 rw [hmin, hmax] at hx
 obtain ⟨l1, l2⟩ := hx
 clear hmin hmax
 by_cases h0 : 0 ≤ x
 ·have h1 : ¬ x < 0 := by omega
  have d1 : decide (x < 0) = false := decide_eq_false h1
  by_cases hm : x % 8 = 0
  ·have e1 : (x % 8 == 0) = true := by simpa using hm
   go_enter Tryz.func84, Tryz.ntmps84
   go_wp2
   go_ret
   exact ⟨rfl, rfl⟩
  ·have e1 : (x % 8 == 0) = false := by simpa using hm
   go_enter Tryz.func84, Tryz.ntmps84
   go_wp2
   go_ret
   exact ⟨rfl, rfl⟩
 ·have h1 : x < 0 := by omega
  have d1 : decide (x < 0) = true := decide_eq_true h1
  obtain ⟨t1, t2⟩ := tdiv_neg8 x h1
  by_cases hm : x.tmod 8 = 0
  ·have E := Lib.hid (t1 hm)
   have e1 : (x.tmod 8 == 0) = true := by simpa using hm
   have hb : -9223372036854775808 ≤ x.tdiv 8 ∧ x.tdiv 8 ≤ 0 := by rw [E.out]; omega
   clear t1 t2 h0
   go_enter Tryz.func84, Tryz.ntmps84
   go_wp2
   go_ret
   exact ⟨ret_int E.out, rfl⟩
  ·have E := Lib.hid (t2 hm)
   have e1 : (x.tmod 8 == 0) = false := by simpa using hm
   have hb : -9223372036854775807 ≤ x.tdiv 8 ∧ x.tdiv 8 ≤ 0 := by have := E.out; omega
   clear t1 t2 h0
   go_enter Tryz.func84, Tryz.ntmps84
   go_wp2
   go_ret
   exact ⟨ret_int E.out, rfl⟩
set_option maxHeartbeats 1000000 in
theorem R_Floor8 (x : Int) (w : World) (hx : (Lit.int .i64 x).wf = true) : Calls Tryz.prog 110 #[.int .i64 x, .int .i64 8] w fun e w' => e = .returned (.int .i64 (x / 8)) ∧ w = w' := by
 have hmin : IntKind.i64.min = -9223372036854775808 := rfl
 have hmax : IntKind.i64.max = 9223372036854775807 := rfl
 simp only [Lit.wf, Bool.and_eq_true, decide_eq_true_eq] at hx
 rw [hmin, hmax] at hx
 obtain ⟨l1, l2⟩ := hx
 clear hmin hmax
 by_cases h0 : 0 ≤ x
 ·have h1 : ¬ x < 0 := by omega
  have d1 : decide (x < 0) = false := decide_eq_false h1
  by_cases hm : x % 8 = 0
  ·have e1 : (x % 8 == 0) = true := by simpa using hm
   go_enter Tryz.func110, Tryz.ntmps110
   go_wp2
   go_ret
   exact ⟨rfl, rfl⟩
  ·have e1 : (x % 8 == 0) = false := by simpa using hm
   go_enter Tryz.func110, Tryz.ntmps110
   go_wp2
   go_ret
   exact ⟨rfl, rfl⟩
 ·have h1 : x < 0 := by omega
  have d1 : decide (x < 0) = true := decide_eq_true h1
  obtain ⟨t1, t2⟩ := tdiv_neg8 x h1
  by_cases hm : x.tmod 8 = 0
  ·have E := Lib.hid (t1 hm)
   have e1 : (x.tmod 8 == 0) = true := by simpa using hm
   have hb : -9223372036854775808 ≤ x.tdiv 8 ∧ x.tdiv 8 ≤ 0 := by rw [E.out]; omega
   clear t1 t2 h0
   go_enter Tryz.func110, Tryz.ntmps110
   go_wp2
   go_ret
   exact ⟨ret_int E.out, rfl⟩
  ·have E := Lib.hid (t2 hm)
   have e1 : (x.tmod 8 == 0) = false := by simpa using hm
   have hb : -9223372036854775807 ≤ x.tdiv 8 ∧ x.tdiv 8 ≤ 0 := by have := E.out; omega
   clear t1 t2 h0
   go_enter Tryz.func110, Tryz.ntmps110
   go_wp2
   go_ret
   exact ⟨ret_int E.out, rfl⟩
theorem P_At (x y : Int) (w : World) (hx : (Lit.int .i64 x).wf = true) (hy : (Lit.int .i64 y).wf = true) : Calls Tryz.prog 52 #[Ps.v x y] w fun e w' => e = .returned (Ps.v (x / 8) (y / 8)) ∧ Below w.heap.size w w' := by
 have B := Below.refl w.heap.size w
 simp only [Ps.v]
 go_enter Tryz.func52, Tryz.ntmps52
 go_wp2_with (first | (have _ := p1; refine wpList_allocBk (t := 68) rfl _ (run_alloc_Ps _ _ rfl) ?_; intro b_p2 wn hle hge ht hbn hzn; have hsz := B.size; replace B := B.trans (hbn.mono (by omega)); have hln := Nat.lt_of_lt_of_eq (Nat.lt_succ_self _) hzn.symm; clear hzn; (try have hlt := p1.lt); (try replace p1 := p1.below (hbn.mono hle)); (try have hlt := p2.lt); (try replace p2 := p2.below (hbn.mono hle)); have p2 := ht; clear ht; simp only [putS]) | (refine wpList_boxB (t := 53) rfl _ rfl _ rfl ?_; intro b_p1 wn hle hge ht hbn hzn; have hsz := B.size; replace B := B.trans (hbn.mono (by omega)); have hln := Nat.lt_of_lt_of_eq (Nat.lt_succ_self _) hzn.symm; clear hzn; (try have hlt := p1.lt); (try replace p1 := p1.below (hbn.mono hle)); (try have hlt := p2.lt); (try replace p2 := p2.below (hbn.mono hle)); have p1 := ht; clear ht; simp only [putS]))
 refine wp_region_ov_tail 7 (by kernel_rfl) (by kernel_rfl) ?_
 simp only [List.take_succ_cons, List.take_zero, List.drop_succ_cons, List.drop_zero]
 repeat (first | go_big_quiet_skip | (go_big_quiet_want; first | (refine quiet_loadAny (t := 3) rfl _ _ _ rfl (fun w hw => run_load_int ((ov_B p1 w hw).cell 0 rfl)) (by rfl) ?_; simp only [putS]; go_big_quiet_on) | (refine quiet_loadAny (t := 3) rfl _ _ _ rfl (fun w hw => run_load_int ((ov_B p1 w hw).cell 1 rfl)) (by rfl) ?_; simp only [putS]; go_big_quiet_on) | (go_big_quiet_op; first | go_big_quiet_on | go_big_quiet_call ((first | (go_at_call 84; exact calls_ov_same (P_Floor8 _ _ hx)) | (go_at_call 84; exact calls_ov_same (P_Floor8 _ _ hy)))))))
 refine wpQuiet_nil ?_
 intro wn hbn
 have hsz := B.size
 have hzn := hbn.size
 replace B := B.trans (hbn.mono B.size)
 try replace p2 := p2.below hbn
 go_wp2_with (first | (refine wpList_storeB (t := 68) rfl _ _ rfl _ rfl _ rfl p2 (by kernel_rfl) rfl (by simp [Value.oneCell']) ?_; clear p2; intro wn ht hcn hzn; have hsz := B.size; replace hzn := Nat.le_of_eq hzn.symm; replace B := Chg.below B hcn (by omega) B.size; have p2 := ht; clear ht; simp only [putS]))
 refine bodyPost_ret (results_B (t := 68) rfl _ _ (b_p2) rfl p2 Tryz.isAgg68 (by kernel_rfl)) rfl ?_
 exact ⟨rfl, B⟩
theorem R_At (x y : Int) (w : World) (hx : (Lit.int .i64 x).wf = true) (hy : (Lit.int .i64 y).wf = true) : Calls Tryz.prog 71 #[.int .i64 x, .int .i64 y] w fun e w' => e = .returned (Ps.v (x / 8) (y / 8)) ∧ Below w.heap.size w w' := by
 have B := Below.refl w.heap.size w
 simp only [Ps.v]
 go_enter Tryz.func71, Tryz.ntmps71
 go_wp2_with (first | (refine wpList_storeB (t := 68) rfl _ _ rfl _ rfl _ rfl p2 (by kernel_rfl) rfl (by simp [Value.oneCell']) ?_; clear p2; intro wn ht hcn hzn; have hsz := B.size; replace hzn := Nat.le_of_eq hzn.symm; replace B := Chg.below B hcn (by omega) B.size; have p2 := ht; clear ht; simp only [putS]) | (go_at_call 110; ((with_reducible refine (R_Floor8 x _ hx).mono ?_)); rintro e w' ⟨rfl, rfl⟩) | (go_at_call 110; ((with_reducible refine (R_Floor8 y _ hy).mono ?_)); rintro e w' ⟨rfl, rfl⟩) | (refine wpList_allocBk (t := 68) rfl _ (run_alloc_Ps _ _ rfl) ?_; intro b_p2 wn hle hge ht hbn hzn; have hsz := B.size; replace B := B.trans (hbn.mono (by omega)); have hln := Nat.lt_of_lt_of_eq (Nat.lt_succ_self _) hzn.symm; clear hzn; (try have hlt := p1.lt); (try have hlt := p2.lt); (try replace p2 := p2.below (hbn.mono hle)); have p2 := ht; clear ht; simp only [putS]))
 refine bodyPost_ret (results_B (t := 68) rfl _ _ (b_p2) rfl p2 Tryz.isAgg68 (by kernel_rfl)) rfl ?_
 exact ⟨rfl, B⟩
/-- The error of a requested rectangle. -/
def fitsE (r : Rc) : Int := if validR r = true then (if 256 < r.x1 - r.x0 ∨ 256 < r.y1 - r.y0 then 45 else 0) else 1
/- Contracts of Intersect and Union of package rect and of its reference; of cmp.Compare, cmp.Or at int; of order, within of package raster, of less, within of its reference. -/
set_option maxHeartbeats 2000000 in
theorem P_Intersect (r s : Rc) (w : World) : Calls Tryz.prog 63 #[Rc.v r, Rc.v s] w fun e w' => e = .returned (Rc.v (interR r s)) ∧ Below w.heap.size w w' := by
 obtain ⟨a, b, c, d⟩ := r
 obtain ⟨a', b', c', d'⟩ := s
 have B := Below.refl w.heap.size w
 have hfin : interR ⟨a, b, c, d⟩ ⟨a', b', c', d'⟩ = normR ⟨max a a', max b b', min c c', min d d'⟩ := rfl
 rw [hfin]
 clear hfin
 simp only [Rc.v_mk]
 go_enter Tryz.func63, Tryz.ntmps63
 go_wp2_with (first | (refine wpList_storeB (t := 30) rfl _ _ rfl _ rfl _ rfl r3 (by kernel_rfl) rfl (by simp [Value.oneCell']) ?_; clear r3; intro wn ht hcn hzn; have hsz := B.size; replace hzn := Nat.le_of_eq hzn.symm; replace B := Chg.below B hcn (by omega) B.size; (try replace r1 := r1.of_eq (hcn.block _ r1.lt (by omega))); (try replace r2 := r2.of_eq (hcn.block _ r2.lt (by omega))); have r3 := ht; clear ht; simp only [putS]) | (go_at_call 100; refine (P_norm ⟨max a a', max b b', min c c', min d d'⟩ _).mono ?_; rintro e wn ⟨rfl, hbn⟩; have hsz := B.size; have hzn := hbn.size; replace B := B.trans (hbn.mono B.size); (try replace r1 := r1.below hbn); (try replace r2 := r2.below hbn); (try replace r3 := r3.below hbn)) | (have _ := r2; refine wpList_allocBk (t := 30) rfl _ (run_alloc_Rc _ _ rfl) ?_; intro b_r3 wn hle hge ht hbn hzn; have hsz := B.size; replace B := B.trans (hbn.mono (by omega)); have hln := Nat.lt_of_lt_of_eq (Nat.lt_succ_self _) hzn.symm; clear hzn; (try have hlt := r1.lt); (try replace r1 := r1.below (hbn.mono hle)); (try have hlt := r2.lt); (try replace r2 := r2.below (hbn.mono hle)); (try have hlt := r3.lt); (try replace r3 := r3.below (hbn.mono hle)); have r3 := ht; clear ht; simp only [putS]) | (have _ := r1; refine wpList_boxB (t := 30) rfl _ rfl _ rfl ?_; intro b_r2 wn hle hge ht hbn hzn; have hsz := B.size; replace B := B.trans (hbn.mono (by omega)); have hln := Nat.lt_of_lt_of_eq (Nat.lt_succ_self _) hzn.symm; clear hzn; (try have hlt := r1.lt); (try replace r1 := r1.below (hbn.mono hle)); (try have hlt := r2.lt); (try replace r2 := r2.below (hbn.mono hle)); (try have hlt := r3.lt); (try replace r3 := r3.below (hbn.mono hle)); have r2 := ht; clear ht; simp only [putS]) | (refine wpList_boxB (t := 30) rfl _ rfl _ rfl ?_; intro b_r1 wn hle hge ht hbn hzn; have hsz := B.size; replace B := B.trans (hbn.mono (by omega)); have hln := Nat.lt_of_lt_of_eq (Nat.lt_succ_self _) hzn.symm; clear hzn; (try have hlt := r1.lt); (try replace r1 := r1.below (hbn.mono hle)); (try have hlt := r2.lt); (try replace r2 := r2.below (hbn.mono hle)); (try have hlt := r3.lt); (try replace r3 := r3.below (hbn.mono hle)); have r1 := ht; clear ht; simp only [putS]) | (refine wpList_loadAny (t := 3) rfl _ rfl _ _ _ rfl (run_load_int (r1.cell 0 rfl)) (by rfl) ?_; simp only [putS]) | (refine wpList_loadAny (t := 3) rfl _ rfl _ _ _ rfl (run_load_int (r1.cell 1 rfl)) (by rfl) ?_; simp only [putS]) | (refine wpList_loadAny (t := 3) rfl _ rfl _ _ _ rfl (run_load_int (r1.cell 2 rfl)) (by rfl) ?_; simp only [putS]) | (refine wpList_loadAny (t := 3) rfl _ rfl _ _ _ rfl (run_load_int (r1.cell 3 rfl)) (by rfl) ?_; simp only [putS]) | (refine wpList_loadAny (t := 3) rfl _ rfl _ _ _ rfl (run_load_int (r2.cell 0 rfl)) (by rfl) ?_; simp only [putS]) | (refine wpList_loadAny (t := 3) rfl _ rfl _ _ _ rfl (run_load_int (r2.cell 1 rfl)) (by rfl) ?_; simp only [putS]) | (refine wpList_loadAny (t := 3) rfl _ rfl _ _ _ rfl (run_load_int (r2.cell 2 rfl)) (by rfl) ?_; simp only [putS]) | (refine wpList_loadAny (t := 3) rfl _ rfl _ _ _ rfl (run_load_int (r2.cell 3 rfl)) (by rfl) ?_; simp only [putS]) | fail)
 refine bodyPost_ret (results_B (t := 30) rfl _ _ (b_r3) rfl r3 Tryz.isAgg30 (by kernel_rfl)) rfl ?_
 exact ⟨rfl, B⟩
theorem P_EmptyV (a b c d : Int) (w : World) : Calls Tryz.prog 67 #[.agg #[.int .i64 a, .int .i64 b, .int .i64 c, .int .i64 d]] w fun e w' => e = .returned (.bool (emptyR ⟨a, b, c, d⟩)) ∧ Below w.heap.size w w' := P_Empty ⟨a, b, c, d⟩ w
set_option maxHeartbeats 4000000 in
theorem P_Union (r s : Rc) (w : World) : Calls Tryz.prog 97 #[Rc.v r, Rc.v s] w fun e w' => e = .returned (Rc.v (unionR r s)) ∧ Below w.heap.size w w' := by
 obtain ⟨a, b, c, d⟩ := r
 obtain ⟨a', b', c', d'⟩ := s
 have B := Below.refl w.heap.size w
 by_cases h1 : emptyR ⟨a, b, c, d⟩ = true
 ·rw [show unionR ⟨a, b, c, d⟩ ⟨a', b', c', d'⟩ = normR ⟨a', b', c', d'⟩ from if_pos h1]
  by_cases h2 : emptyR ⟨a', b', c', d'⟩ = true
  ·simp only [Rc.v_mk]
   go_enter Tryz.func97, Tryz.ntmps97
   go_wp2_with (first | (refine wpList_storeB (t := 30) rfl _ _ rfl _ rfl _ rfl r3 (by kernel_rfl) rfl (by simp [Value.oneCell']) ?_; clear r3; intro wn ht hcn hzn; have hsz := B.size; replace hzn := Nat.le_of_eq hzn.symm; replace B := Chg.below B hcn (by omega) B.size; (try replace r1 := r1.of_eq (hcn.block _ r1.lt (by omega))); (try replace r2 := r2.of_eq (hcn.block _ r2.lt (by omega))); have r3 := ht; clear ht; simp only [putS]) | (go_at_call 100; refine (P_norm ⟨a', b', c', d'⟩ _).mono ?_; rintro e wn ⟨rfl, hbn⟩; have hsz := B.size; have hzn := hbn.size; replace B := B.trans (hbn.mono B.size); (try replace r1 := r1.below hbn); (try replace r2 := r2.below hbn); (try replace r3 := r3.below hbn)) | (have _ := r2; refine wpList_allocBk (t := 30) rfl _ (run_alloc_Rc _ _ rfl) ?_; intro b_r3 wn hle hge ht hbn hzn; have hsz := B.size; replace B := B.trans (hbn.mono (by omega)); have hln := Nat.lt_of_lt_of_eq (Nat.lt_succ_self _) hzn.symm; clear hzn; (try have hlt := r1.lt); (try replace r1 := r1.below (hbn.mono hle)); (try have hlt := r2.lt); (try replace r2 := r2.below (hbn.mono hle)); (try have hlt := r3.lt); (try replace r3 := r3.below (hbn.mono hle)); have r3 := ht; clear ht; simp only [putS]) | (have _ := r1; refine wpList_boxB (t := 30) rfl _ rfl _ rfl ?_; intro b_r2 wn hle hge ht hbn hzn; have hsz := B.size; replace B := B.trans (hbn.mono (by omega)); have hln := Nat.lt_of_lt_of_eq (Nat.lt_succ_self _) hzn.symm; clear hzn; (try have hlt := r1.lt); (try replace r1 := r1.below (hbn.mono hle)); (try have hlt := r2.lt); (try replace r2 := r2.below (hbn.mono hle)); (try have hlt := r3.lt); (try replace r3 := r3.below (hbn.mono hle)); have r2 := ht; clear ht; simp only [putS]) | (refine wpList_boxB (t := 30) rfl _ rfl _ rfl ?_; intro b_r1 wn hle hge ht hbn hzn; have hsz := B.size; replace B := B.trans (hbn.mono (by omega)); have hln := Nat.lt_of_lt_of_eq (Nat.lt_succ_self _) hzn.symm; clear hzn; (try have hlt := r1.lt); (try replace r1 := r1.below (hbn.mono hle)); (try have hlt := r2.lt); (try replace r2 := r2.below (hbn.mono hle)); (try have hlt := r3.lt); (try replace r3 := r3.below (hbn.mono hle)); have r1 := ht; clear ht; simp only [putS]) | (go_at_call 67; ((with_reducible refine (P_EmptyV a b c d _).mono ?_)); rintro e wn ⟨rfl, hbn⟩; have hsz := B.size; have hzn := hbn.size; replace B := B.trans (hbn.mono B.size); (try replace r1 := r1.below hbn); (try replace r2 := r2.below hbn); (try replace r3 := r3.below hbn)) | (go_at_call 67; ((with_reducible refine (P_EmptyV a' b' c' d' _).mono ?_)); rintro e wn ⟨rfl, hbn⟩; have hsz := B.size; have hzn := hbn.size; replace B := B.trans (hbn.mono B.size); (try replace r1 := r1.below hbn); (try replace r2 := r2.below hbn); (try replace r3 := r3.below hbn)) | (refine wpList_loadAny (t := 30) rfl _ rfl _ _ _ rfl (run_load_B r1 Tryz.isAgg30 (by kernel_rfl)) (by rfl) ?_; simp only [putS]) | (refine wpList_loadAny (t := 30) rfl _ rfl _ _ _ rfl (run_load_B r2 Tryz.isAgg30 (by kernel_rfl)) (by rfl) ?_; simp only [putS]) | (refine wpList_loadAny (t := 3) rfl _ rfl _ _ _ rfl (run_load_int (r1.cell 0 rfl)) (by rfl) ?_; simp only [putS]) | (refine wpList_loadAny (t := 3) rfl _ rfl _ _ _ rfl (run_load_int (r1.cell 1 rfl)) (by rfl) ?_; simp only [putS]) | (refine wpList_loadAny (t := 3) rfl _ rfl _ _ _ rfl (run_load_int (r1.cell 2 rfl)) (by rfl) ?_; simp only [putS]) | (refine wpList_loadAny (t := 3) rfl _ rfl _ _ _ rfl (run_load_int (r1.cell 3 rfl)) (by rfl) ?_; simp only [putS]) | (refine wpList_loadAny (t := 3) rfl _ rfl _ _ _ rfl (run_load_int (r2.cell 0 rfl)) (by rfl) ?_; simp only [putS]) | (refine wpList_loadAny (t := 3) rfl _ rfl _ _ _ rfl (run_load_int (r2.cell 1 rfl)) (by rfl) ?_; simp only [putS]) | (refine wpList_loadAny (t := 3) rfl _ rfl _ _ _ rfl (run_load_int (r2.cell 2 rfl)) (by rfl) ?_; simp only [putS]) | (refine wpList_loadAny (t := 3) rfl _ rfl _ _ _ rfl (run_load_int (r2.cell 3 rfl)) (by rfl) ?_; simp only [putS]) | fail)
   refine bodyPost_ret (results_B (t := 30) rfl _ _ (b_r3) rfl r3 Tryz.isAgg30 (by kernel_rfl)) rfl ?_
   exact ⟨rfl, B⟩
  ·have h2' : emptyR ⟨a', b', c', d'⟩ = false := by simpa using h2
   clear h2
   simp only [Rc.v_mk]
   go_enter Tryz.func97, Tryz.ntmps97
   go_wp2_with (first | (refine wpList_storeB (t := 30) rfl _ _ rfl _ rfl _ rfl r3 (by kernel_rfl) rfl (by simp [Value.oneCell']) ?_; clear r3; intro wn ht hcn hzn; have hsz := B.size; replace hzn := Nat.le_of_eq hzn.symm; replace B := Chg.below B hcn (by omega) B.size; (try replace r1 := r1.of_eq (hcn.block _ r1.lt (by omega))); (try replace r2 := r2.of_eq (hcn.block _ r2.lt (by omega))); have r3 := ht; clear ht; simp only [putS]) | (go_at_call 100; refine (P_norm ⟨a', b', c', d'⟩ _).mono ?_; rintro e wn ⟨rfl, hbn⟩; have hsz := B.size; have hzn := hbn.size; replace B := B.trans (hbn.mono B.size); (try replace r1 := r1.below hbn); (try replace r2 := r2.below hbn); (try replace r3 := r3.below hbn)) | (have _ := r2; refine wpList_allocBk (t := 30) rfl _ (run_alloc_Rc _ _ rfl) ?_; intro b_r3 wn hle hge ht hbn hzn; have hsz := B.size; replace B := B.trans (hbn.mono (by omega)); have hln := Nat.lt_of_lt_of_eq (Nat.lt_succ_self _) hzn.symm; clear hzn; (try have hlt := r1.lt); (try replace r1 := r1.below (hbn.mono hle)); (try have hlt := r2.lt); (try replace r2 := r2.below (hbn.mono hle)); (try have hlt := r3.lt); (try replace r3 := r3.below (hbn.mono hle)); have r3 := ht; clear ht; simp only [putS]) | (have _ := r1; refine wpList_boxB (t := 30) rfl _ rfl _ rfl ?_; intro b_r2 wn hle hge ht hbn hzn; have hsz := B.size; replace B := B.trans (hbn.mono (by omega)); have hln := Nat.lt_of_lt_of_eq (Nat.lt_succ_self _) hzn.symm; clear hzn; (try have hlt := r1.lt); (try replace r1 := r1.below (hbn.mono hle)); (try have hlt := r2.lt); (try replace r2 := r2.below (hbn.mono hle)); (try have hlt := r3.lt); (try replace r3 := r3.below (hbn.mono hle)); have r2 := ht; clear ht; simp only [putS]) | (refine wpList_boxB (t := 30) rfl _ rfl _ rfl ?_; intro b_r1 wn hle hge ht hbn hzn; have hsz := B.size; replace B := B.trans (hbn.mono (by omega)); have hln := Nat.lt_of_lt_of_eq (Nat.lt_succ_self _) hzn.symm; clear hzn; (try have hlt := r1.lt); (try replace r1 := r1.below (hbn.mono hle)); (try have hlt := r2.lt); (try replace r2 := r2.below (hbn.mono hle)); (try have hlt := r3.lt); (try replace r3 := r3.below (hbn.mono hle)); have r1 := ht; clear ht; simp only [putS]) | (go_at_call 67; ((with_reducible refine (P_EmptyV a b c d _).mono ?_)); rintro e wn ⟨rfl, hbn⟩; have hsz := B.size; have hzn := hbn.size; replace B := B.trans (hbn.mono B.size); (try replace r1 := r1.below hbn); (try replace r2 := r2.below hbn); (try replace r3 := r3.below hbn)) | (go_at_call 67; ((with_reducible refine (P_EmptyV a' b' c' d' _).mono ?_)); rintro e wn ⟨rfl, hbn⟩; have hsz := B.size; have hzn := hbn.size; replace B := B.trans (hbn.mono B.size); (try replace r1 := r1.below hbn); (try replace r2 := r2.below hbn); (try replace r3 := r3.below hbn)) | (refine wpList_loadAny (t := 30) rfl _ rfl _ _ _ rfl (run_load_B r1 Tryz.isAgg30 (by kernel_rfl)) (by rfl) ?_; simp only [putS]) | (refine wpList_loadAny (t := 30) rfl _ rfl _ _ _ rfl (run_load_B r2 Tryz.isAgg30 (by kernel_rfl)) (by rfl) ?_; simp only [putS]) | (refine wpList_loadAny (t := 3) rfl _ rfl _ _ _ rfl (run_load_int (r1.cell 0 rfl)) (by rfl) ?_; simp only [putS]) | (refine wpList_loadAny (t := 3) rfl _ rfl _ _ _ rfl (run_load_int (r1.cell 1 rfl)) (by rfl) ?_; simp only [putS]) | (refine wpList_loadAny (t := 3) rfl _ rfl _ _ _ rfl (run_load_int (r1.cell 2 rfl)) (by rfl) ?_; simp only [putS]) | (refine wpList_loadAny (t := 3) rfl _ rfl _ _ _ rfl (run_load_int (r1.cell 3 rfl)) (by rfl) ?_; simp only [putS]) | (refine wpList_loadAny (t := 3) rfl _ rfl _ _ _ rfl (run_load_int (r2.cell 0 rfl)) (by rfl) ?_; simp only [putS]) | (refine wpList_loadAny (t := 3) rfl _ rfl _ _ _ rfl (run_load_int (r2.cell 1 rfl)) (by rfl) ?_; simp only [putS]) | (refine wpList_loadAny (t := 3) rfl _ rfl _ _ _ rfl (run_load_int (r2.cell 2 rfl)) (by rfl) ?_; simp only [putS]) | (refine wpList_loadAny (t := 3) rfl _ rfl _ _ _ rfl (run_load_int (r2.cell 3 rfl)) (by rfl) ?_; simp only [putS]) | fail)
   refine bodyPost_ret (results_B (t := 30) rfl _ _ (b_r3) rfl r3 Tryz.isAgg30 (by kernel_rfl)) rfl ?_
   exact ⟨rfl, B⟩
 ·have h1' : emptyR ⟨a, b, c, d⟩ = false := by simpa using h1
  by_cases h2 : emptyR ⟨a', b', c', d'⟩ = true
  ·rw [show unionR ⟨a, b, c, d⟩ ⟨a', b', c', d'⟩ = ⟨a, b, c, d⟩ from by unfold unionR; rw [if_neg h1, if_pos h2]]
   clear h1
   simp only [Rc.v_mk]
   go_enter Tryz.func97, Tryz.ntmps97
   go_wp2_with (first | (refine wpList_storeB (t := 30) rfl _ _ rfl _ rfl _ rfl r3 (by kernel_rfl) rfl (by simp [Value.oneCell']) ?_; clear r3; intro wn ht hcn hzn; have hsz := B.size; replace hzn := Nat.le_of_eq hzn.symm; replace B := Chg.below B hcn (by omega) B.size; (try replace r1 := r1.of_eq (hcn.block _ r1.lt (by omega))); (try replace r2 := r2.of_eq (hcn.block _ r2.lt (by omega))); have r3 := ht; clear ht; simp only [putS]) | (go_at_call 100; refine (P_norm ⟨a', b', c', d'⟩ _).mono ?_; rintro e wn ⟨rfl, hbn⟩; have hsz := B.size; have hzn := hbn.size; replace B := B.trans (hbn.mono B.size); (try replace r1 := r1.below hbn); (try replace r2 := r2.below hbn); (try replace r3 := r3.below hbn)) | (have _ := r2; refine wpList_allocBk (t := 30) rfl _ (run_alloc_Rc _ _ rfl) ?_; intro b_r3 wn hle hge ht hbn hzn; have hsz := B.size; replace B := B.trans (hbn.mono (by omega)); have hln := Nat.lt_of_lt_of_eq (Nat.lt_succ_self _) hzn.symm; clear hzn; (try have hlt := r1.lt); (try replace r1 := r1.below (hbn.mono hle)); (try have hlt := r2.lt); (try replace r2 := r2.below (hbn.mono hle)); (try have hlt := r3.lt); (try replace r3 := r3.below (hbn.mono hle)); have r3 := ht; clear ht; simp only [putS]) | (have _ := r1; refine wpList_boxB (t := 30) rfl _ rfl _ rfl ?_; intro b_r2 wn hle hge ht hbn hzn; have hsz := B.size; replace B := B.trans (hbn.mono (by omega)); have hln := Nat.lt_of_lt_of_eq (Nat.lt_succ_self _) hzn.symm; clear hzn; (try have hlt := r1.lt); (try replace r1 := r1.below (hbn.mono hle)); (try have hlt := r2.lt); (try replace r2 := r2.below (hbn.mono hle)); (try have hlt := r3.lt); (try replace r3 := r3.below (hbn.mono hle)); have r2 := ht; clear ht; simp only [putS]) | (refine wpList_boxB (t := 30) rfl _ rfl _ rfl ?_; intro b_r1 wn hle hge ht hbn hzn; have hsz := B.size; replace B := B.trans (hbn.mono (by omega)); have hln := Nat.lt_of_lt_of_eq (Nat.lt_succ_self _) hzn.symm; clear hzn; (try have hlt := r1.lt); (try replace r1 := r1.below (hbn.mono hle)); (try have hlt := r2.lt); (try replace r2 := r2.below (hbn.mono hle)); (try have hlt := r3.lt); (try replace r3 := r3.below (hbn.mono hle)); have r1 := ht; clear ht; simp only [putS]) | (go_at_call 67; ((with_reducible refine (P_EmptyV a b c d _).mono ?_)); rintro e wn ⟨rfl, hbn⟩; have hsz := B.size; have hzn := hbn.size; replace B := B.trans (hbn.mono B.size); (try replace r1 := r1.below hbn); (try replace r2 := r2.below hbn); (try replace r3 := r3.below hbn)) | (go_at_call 67; ((with_reducible refine (P_EmptyV a' b' c' d' _).mono ?_)); rintro e wn ⟨rfl, hbn⟩; have hsz := B.size; have hzn := hbn.size; replace B := B.trans (hbn.mono B.size); (try replace r1 := r1.below hbn); (try replace r2 := r2.below hbn); (try replace r3 := r3.below hbn)) | (refine wpList_loadAny (t := 30) rfl _ rfl _ _ _ rfl (run_load_B r1 Tryz.isAgg30 (by kernel_rfl)) (by rfl) ?_; simp only [putS]) | (refine wpList_loadAny (t := 30) rfl _ rfl _ _ _ rfl (run_load_B r2 Tryz.isAgg30 (by kernel_rfl)) (by rfl) ?_; simp only [putS]) | (refine wpList_loadAny (t := 3) rfl _ rfl _ _ _ rfl (run_load_int (r1.cell 0 rfl)) (by rfl) ?_; simp only [putS]) | (refine wpList_loadAny (t := 3) rfl _ rfl _ _ _ rfl (run_load_int (r1.cell 1 rfl)) (by rfl) ?_; simp only [putS]) | (refine wpList_loadAny (t := 3) rfl _ rfl _ _ _ rfl (run_load_int (r1.cell 2 rfl)) (by rfl) ?_; simp only [putS]) | (refine wpList_loadAny (t := 3) rfl _ rfl _ _ _ rfl (run_load_int (r1.cell 3 rfl)) (by rfl) ?_; simp only [putS]) | (refine wpList_loadAny (t := 3) rfl _ rfl _ _ _ rfl (run_load_int (r2.cell 0 rfl)) (by rfl) ?_; simp only [putS]) | (refine wpList_loadAny (t := 3) rfl _ rfl _ _ _ rfl (run_load_int (r2.cell 1 rfl)) (by rfl) ?_; simp only [putS]) | (refine wpList_loadAny (t := 3) rfl _ rfl _ _ _ rfl (run_load_int (r2.cell 2 rfl)) (by rfl) ?_; simp only [putS]) | (refine wpList_loadAny (t := 3) rfl _ rfl _ _ _ rfl (run_load_int (r2.cell 3 rfl)) (by rfl) ?_; simp only [putS]) | fail)
   refine bodyPost_ret (results_B (t := 30) rfl _ _ (b_r3) rfl r3 Tryz.isAgg30 (by kernel_rfl)) rfl ?_
   exact ⟨rfl, B⟩
  ·have h2' : emptyR ⟨a', b', c', d'⟩ = false := by simpa using h2
   rw [show unionR ⟨a, b, c, d⟩ ⟨a', b', c', d'⟩ = ⟨min a a', min b b', max c c', max d d'⟩ from by unfold unionR; rw [if_neg h1, if_neg h2]]
   clear h1 h2
   simp only [Rc.v_mk]
   go_enter Tryz.func97, Tryz.ntmps97
   go_wp2_with (first | (refine wpList_storeB (t := 30) rfl _ _ rfl _ rfl _ rfl r3 (by kernel_rfl) rfl (by simp [Value.oneCell']) ?_; clear r3; intro wn ht hcn hzn; have hsz := B.size; replace hzn := Nat.le_of_eq hzn.symm; replace B := Chg.below B hcn (by omega) B.size; (try replace r1 := r1.of_eq (hcn.block _ r1.lt (by omega))); (try replace r2 := r2.of_eq (hcn.block _ r2.lt (by omega))); have r3 := ht; clear ht; simp only [putS]) | (go_at_call 100; refine (P_norm ⟨a', b', c', d'⟩ _).mono ?_; rintro e wn ⟨rfl, hbn⟩; have hsz := B.size; have hzn := hbn.size; replace B := B.trans (hbn.mono B.size); (try replace r1 := r1.below hbn); (try replace r2 := r2.below hbn); (try replace r3 := r3.below hbn)) | (have _ := r2; refine wpList_allocBk (t := 30) rfl _ (run_alloc_Rc _ _ rfl) ?_; intro b_r3 wn hle hge ht hbn hzn; have hsz := B.size; replace B := B.trans (hbn.mono (by omega)); have hln := Nat.lt_of_lt_of_eq (Nat.lt_succ_self _) hzn.symm; clear hzn; (try have hlt := r1.lt); (try replace r1 := r1.below (hbn.mono hle)); (try have hlt := r2.lt); (try replace r2 := r2.below (hbn.mono hle)); (try have hlt := r3.lt); (try replace r3 := r3.below (hbn.mono hle)); have r3 := ht; clear ht; simp only [putS]) | (have _ := r1; refine wpList_boxB (t := 30) rfl _ rfl _ rfl ?_; intro b_r2 wn hle hge ht hbn hzn; have hsz := B.size; replace B := B.trans (hbn.mono (by omega)); have hln := Nat.lt_of_lt_of_eq (Nat.lt_succ_self _) hzn.symm; clear hzn; (try have hlt := r1.lt); (try replace r1 := r1.below (hbn.mono hle)); (try have hlt := r2.lt); (try replace r2 := r2.below (hbn.mono hle)); (try have hlt := r3.lt); (try replace r3 := r3.below (hbn.mono hle)); have r2 := ht; clear ht; simp only [putS]) | (refine wpList_boxB (t := 30) rfl _ rfl _ rfl ?_; intro b_r1 wn hle hge ht hbn hzn; have hsz := B.size; replace B := B.trans (hbn.mono (by omega)); have hln := Nat.lt_of_lt_of_eq (Nat.lt_succ_self _) hzn.symm; clear hzn; (try have hlt := r1.lt); (try replace r1 := r1.below (hbn.mono hle)); (try have hlt := r2.lt); (try replace r2 := r2.below (hbn.mono hle)); (try have hlt := r3.lt); (try replace r3 := r3.below (hbn.mono hle)); have r1 := ht; clear ht; simp only [putS]) | (go_at_call 67; ((with_reducible refine (P_EmptyV a b c d _).mono ?_)); rintro e wn ⟨rfl, hbn⟩; have hsz := B.size; have hzn := hbn.size; replace B := B.trans (hbn.mono B.size); (try replace r1 := r1.below hbn); (try replace r2 := r2.below hbn); (try replace r3 := r3.below hbn)) | (go_at_call 67; ((with_reducible refine (P_EmptyV a' b' c' d' _).mono ?_)); rintro e wn ⟨rfl, hbn⟩; have hsz := B.size; have hzn := hbn.size; replace B := B.trans (hbn.mono B.size); (try replace r1 := r1.below hbn); (try replace r2 := r2.below hbn); (try replace r3 := r3.below hbn)) | (refine wpList_loadAny (t := 30) rfl _ rfl _ _ _ rfl (run_load_B r1 Tryz.isAgg30 (by kernel_rfl)) (by rfl) ?_; simp only [putS]) | (refine wpList_loadAny (t := 30) rfl _ rfl _ _ _ rfl (run_load_B r2 Tryz.isAgg30 (by kernel_rfl)) (by rfl) ?_; simp only [putS]) | (refine wpList_loadAny (t := 3) rfl _ rfl _ _ _ rfl (run_load_int (r1.cell 0 rfl)) (by rfl) ?_; simp only [putS]) | (refine wpList_loadAny (t := 3) rfl _ rfl _ _ _ rfl (run_load_int (r1.cell 1 rfl)) (by rfl) ?_; simp only [putS]) | (refine wpList_loadAny (t := 3) rfl _ rfl _ _ _ rfl (run_load_int (r1.cell 2 rfl)) (by rfl) ?_; simp only [putS]) | (refine wpList_loadAny (t := 3) rfl _ rfl _ _ _ rfl (run_load_int (r1.cell 3 rfl)) (by rfl) ?_; simp only [putS]) | (refine wpList_loadAny (t := 3) rfl _ rfl _ _ _ rfl (run_load_int (r2.cell 0 rfl)) (by rfl) ?_; simp only [putS]) | (refine wpList_loadAny (t := 3) rfl _ rfl _ _ _ rfl (run_load_int (r2.cell 1 rfl)) (by rfl) ?_; simp only [putS]) | (refine wpList_loadAny (t := 3) rfl _ rfl _ _ _ rfl (run_load_int (r2.cell 2 rfl)) (by rfl) ?_; simp only [putS]) | (refine wpList_loadAny (t := 3) rfl _ rfl _ _ _ rfl (run_load_int (r2.cell 3 rfl)) (by rfl) ?_; simp only [putS]) | fail)
   refine bodyPost_ret (results_B (t := 30) rfl _ _ (b_r3) rfl r3 Tryz.isAgg30 (by kernel_rfl)) rfl ?_
   exact ⟨rfl, B⟩
end Go.Proofs.YtamgpfblhlfhaaaGreat
/- A region that draws its order: its first operation, a bare move, is taken first; then come reads of old memory and callees that only make memory; the rest comes in the order of the text. -/
namespace Go.Proofs.YtamgpfblhlfhaaaGreat
open Go.RowKit
set_option linter.unusedVariables false
set_option linter.unusedSimpArgs false
def sinkS (md : Region.Mode) (ops : Array Oper) (n : Nat) : Bool :=
 (List.range n).all fun i => decide (i = 0) || (List.range (n + 1)).any fun j => decide (i < j) && Region.waitsFor md ops j i
section
variable {P : Program} {ops : Array Oper} {md : Region.Mode} {C : World → Prop}
end
def first1 (ops : Array Oper) : Array Bool := (Array.replicate ops.size false).setIfInBounds 0 true
/-- May the region be walked so: its first operation taken first, then n - 1 quiet ones, then the rest in the order of the text? -/
def lexTail1B (md : Region.Mode) (ops : Array Oper) (n : Nat) : Bool :=
 Region.noSelect ops && decide (1 ≤ n) && decide (n < ops.size) && sinkS md ops n && Region.chainB md ops n && (Region.ready md ops (Array.replicate ops.size false)).contains 0 && Region.free md ops (Array.replicate ops.size false) 0 &&
 Region.lexHead md ops (ops.size - n) (n - 1) 1 (first1 ops)
/-- Q, but 'False' at a panic. -/
def NoPan (Q : Exit → Act → World → Prop) : Exit → Act → World → Prop
 | .panic _, _, _ => False
 | e, a, w => Q e a w
theorem NoPan.normal {Q : Exit → Act → World → Prop} {a : Act} {w : World} (h : Q .normal a w) : NoPan Q .normal a w := h
theorem NoPan.imp {Q : Exit → Act → World → Prop} : ∀ (e : Exit) (a : Act) (w : World), NoPan Q e a w → Q e a w := fun e a w h => by
 cases e <;> first | exact h | exact (h : False).elim
end Go.Proofs.YtamgpfblhlfhaaaGreat
/- Contracts of cmp.isNaN, Compare, Or at int; of order, within of package raster; of less, within of its reference. -/
namespace Go.Proofs.YtamgpfblhlfhaaaGreat
open Go.RowKit Pl
set_option linter.unusedVariables false
set_option linter.unusedSimpArgs false
set_option maxRecDepth 20000
def cmpI (x y : Int) : Int := if x < y then -1 else if y < x then 1 else 0
def orI (x y : Int) : Int := if x = 0 then y else x
theorem orI_zero {x y : Int} (h : x = 0) : orI x y = y := if_pos h
theorem orI_ne {x y : Int} (h : ¬ x = 0) : orI x y = x := if_neg h
def ordI (ax ay bx bv : Int) : Int := orI (cmpI ay bv) (cmpI ax bx)
theorem ordI_neg (ax ay bx bv : Int) : decide (ordI ax ay bx bv < 0) = lessB ax ay bx bv := by
 unfold ordI orI cmpI lessB
 rw [Bool.eq_iff_iff, decide_eq_true_iff, decide_eq_true_iff]
 split <;> rename_i h <;> repeat' split
 all_goals (repeat' split at h)
 all_goals omega
theorem ordI_eq (ax ay bx bv : Int) : decide (ordI ax ay bx bv = 0) = eqB ax ay bx bv := by
 unfold ordI orI cmpI eqB
 rw [Bool.eq_iff_iff, decide_eq_true_iff, decide_eq_true_iff]
 split <;> rename_i h <;> repeat' split
 all_goals (repeat' split at h)
 all_goals omega
theorem ordI_ge (ax ay bx bv : Int) : decide (0 ≤ ordI ax ay bx bv) = !lessB ax ay bx bv := by
 rw [← ordI_neg, Bool.eq_iff_iff]
 simp
theorem P_isNaN (x : Int) (w : World) : Calls Tryz.prog 141 #[.int .i64 x] w fun e w' => e = .returned (.bool false) ∧ w = w' := by
 go_enter Tryz.func141, Tryz.ntmps141
 go_wp2
 go_ret
 exact ⟨rfl, rfl⟩
theorem P_Compare (x y : Int) (w : World) : Calls Tryz.prog 126 #[.int .i64 x, .int .i64 y] w fun e w' => e = .returned (.int .i64 (cmpI x y)) ∧ w = w' := by
 by_cases h1 : x < y
 ·rw [show cmpI x y = -1 from if_pos h1]
  go_enter Tryz.func126, Tryz.ntmps126
  go_wp2_with ((go_at_call 141; refine (P_isNaN _ _).mono ?_; rintro e w' ⟨rfl, rfl⟩))
  go_ret
  exact ⟨rfl, rfl⟩
 ·by_cases h2 : y < x
  ·rw [show cmpI x y = 1 from by unfold cmpI; rw [if_neg h1, if_pos h2]]
   go_enter Tryz.func126, Tryz.ntmps126
   go_wp2_with ((go_at_call 141; refine (P_isNaN _ _).mono ?_; rintro e w' ⟨rfl, rfl⟩))
   go_ret
   exact ⟨rfl, rfl⟩
  ·rw [show cmpI x y = 0 from by unfold cmpI; rw [if_neg h1, if_neg h2]]
   go_enter Tryz.func126, Tryz.ntmps126
   go_wp2_with ((go_at_call 141; refine (P_isNaN _ _).mono ?_; rintro e w' ⟨rfl, rfl⟩))
   go_ret
   exact ⟨rfl, rfl⟩
theorem P_Or2 (x y : Int) (b : Nat) (w : World) (h : AtB 3 w b #[.int .i64 x, .int .i64 y]) : Calls Tryz.prog 125 #[.slice (some ⟨b, 0, none⟩) 2 2] w fun e w' => e = .returned (.int .i64 (orI x y)) ∧ w = w' := by
 have c0 := h.cell 0 rfl
 have c1 := h.cell 1 rfl
 clear h
 go_enter Tryz.func125, Tryz.ntmps125
 go_wp2
 go_loopw [8] (fun i wr => ∃ k : Nat, k ≤ 2 ∧ i = .int .i64 k ∧ wr = w ∧ (1 ≤ k → x = 0) ∧ (2 ≤ k → y = 0)) (fun i _ => (2 - intOf i).toNat)
 case atStart => exact ⟨0, by omega, rfl, rfl, by omega, by omega⟩
 case round =>
  obtain ⟨k, hk, rfl, rfl, h1, h2⟩ := hrel
  have hc : k = 0 ∨ k = 1 ∨ k = 2 := by omega
  rcases hc with rfl | rfl | rfl
  ·clear h1 h2
   by_cases hx : x = 0
   ·have e1 : (x == 0) = true := by simpa using hx
    have e2 : (x != 0) = false := by simpa using hx
    have H := Lib.hid hx
    clear hx
    go_wp2
    go_roundw
    case rel => exact ⟨1, by omega, rfl, by simp, fun _ => H.out, by omega⟩
    case measure => simp [intOf]
   ·have e1 : (x == 0) = false := by simpa using hx
    have e2 : (x != 0) = true := by simpa using hx
    have H := Lib.hid hx
    clear hx
    go_wp2
    go_ret
    exact ⟨by rw [orI_ne H.out]; rfl, rfl⟩
  ·have H1 := Lib.hid (h1 (by omega))
   clear h1 h2
   by_cases hx : y = 0
   ·have e1 : (y == 0) = true := by simpa using hx
    have e2 : (y != 0) = false := by simpa using hx
    have H := Lib.hid hx
    clear hx
    go_wp2
    go_roundw
    case rel => exact ⟨2, by omega, rfl, by simp, fun _ => H1.out, fun _ => H.out⟩
    case measure => simp [intOf]
   ·have e1 : (y == 0) = false := by simpa using hx
    have e2 : (y != 0) = true := by simpa using hx
    have H := Lib.hid hx
    clear hx
    go_wp2
    go_ret
    exact ⟨by rw [orI_zero H1.out]; rfl, rfl⟩
  ·have H1 := Lib.hid (h1 (by omega))
   have H2 := Lib.hid (h2 (by omega))
   clear h1 h2
   go_wp2
   go_ret
   exact ⟨by rw [orI_zero H1.out, H2.out]; rfl, rfl⟩
theorem run_bsI2 (w : World) (o : Oper) (x y : Operand) (ho : o.op = .buildSlice 23 2 #[(0, x), (1, y)]) (ev : Operand → Value) (p q : Int) (hx : ev x = .int .i64 p) (hy : ev y = .int .i64 q) : (execOp ev o).run Tryz.prog w = .ok (.value (.slice (some ⟨w.heap.size, 0, none⟩) 2 2)) (w.alloc (.cells #[.int .i64 p, .int .i64 q] 3)) := by
 obtain ⟨d, po, t, ps, af, gd⟩ := o
 simp only at ho
 subst ho
 unfold execOp
 simp only [List.map_toArray, List.map_cons, List.map_nil, hx, hy]
 kernel_rfl
theorem wpList_bsI2 {ops : Array Oper} {rest : List Oper} {o : Oper} {a : Act} {w : World} {Q : Exit → Act → World → Prop} (hg : o.guard = none) (x y : Operand) (ho : o.op = .buildSlice 23 2 #[(0, x), (1, y)]) (p q : Int) (hx : a.eval x = .int .i64 p) (hy : a.eval y = .int .i64 q)
  (h : ∀ b w', w.heap.size ≤ b → b ≤ w.heap.size → AtB 3 w' b #[.int .i64 p, .int .i64 q] → Below b w w' → w'.heap.size = b + 1 → wpList Tryz.prog ops Q rest (a.put o.dst (.slice (some ⟨b, 0, none⟩) 2 2)) w') : wpList Tryz.prog ops Q (o :: rest) a w :=
 wpList_plain hg fun K hK => by
  unfold Oper.wp
  rw [run_bsI2 w o x y ho _ p q hx hy]
  exact hK _ _ (h _ _ (Nat.le_refl _) (Nat.le_refl _) (by unfold AtB; rw [heap_get_alloc, if_pos rfl]) ((Below.refl _ _).alloc (Nat.le_refl _) _) (World.size_alloc _ _))
theorem P_order (ax ay bx bv : Int) (w : World) : Calls Tryz.prog 93 #[Ps.v ax ay, Ps.v bx bv] w fun e w' => e = .returned (.int .i64 (ordI ax ay bx bv)) ∧ Below w.heap.size w w' := by
 have B := Below.refl w.heap.size w
 simp only [Ps.v]
 go_enter Tryz.func93, Tryz.ntmps93
 go_wp2_with (first | (have _ := p1; refine wpList_boxB (t := 68) rfl _ rfl _ rfl ?_; intro b_p2 wn hle hge ht hbn hzn; have hsz := B.size; replace B := B.trans (hbn.mono (by omega)); have hln := Nat.lt_of_lt_of_eq (Nat.lt_succ_self _) hzn.symm; clear hzn; (try have hlt := p1.lt); (try replace p1 := p1.below (hbn.mono hle)); (try have hlt := p2.lt); (try replace p2 := p2.below (hbn.mono hle)); (try have hlt := bs.lt); (try replace bs := bs.below (hbn.mono hle)); have p2 := ht; clear ht; simp only [putS]) | (refine wpList_boxB (t := 68) rfl _ rfl _ rfl ?_; intro b_p1 wn hle hge ht hbn hzn; have hsz := B.size; replace B := B.trans (hbn.mono (by omega)); have hln := Nat.lt_of_lt_of_eq (Nat.lt_succ_self _) hzn.symm; clear hzn; (try have hlt := p1.lt); (try replace p1 := p1.below (hbn.mono hle)); (try have hlt := p2.lt); (try replace p2 := p2.below (hbn.mono hle)); (try have hlt := bs.lt); (try replace bs := bs.below (hbn.mono hle)); have p1 := ht; clear ht; simp only [putS]) | fail)
 refine wp_region_ov_tail 10 (by kernel_rfl) (by kernel_rfl) ?_
 simp only [List.take_succ_cons, List.take_zero, List.drop_succ_cons, List.drop_zero]
 repeat (first | go_big_quiet_skip | (go_big_quiet_want; first | (refine quiet_loadAny (t := 3) rfl _ _ _ rfl (fun w hw => run_load_int ((ov_B p1 w hw).cell 0 rfl)) (by rfl) ?_; simp only [putS]; go_big_quiet_on) | (refine quiet_loadAny (t := 3) rfl _ _ _ rfl (fun w hw => run_load_int ((ov_B p1 w hw).cell 1 rfl)) (by rfl) ?_; simp only [putS]; go_big_quiet_on) | (refine quiet_loadAny (t := 3) rfl _ _ _ rfl (fun w hw => run_load_int ((ov_B p2 w hw).cell 0 rfl)) (by rfl) ?_; simp only [putS]; go_big_quiet_on) | (refine quiet_loadAny (t := 3) rfl _ _ _ rfl (fun w hw => run_load_int ((ov_B p2 w hw).cell 1 rfl)) (by rfl) ?_; simp only [putS]; go_big_quiet_on) | (go_big_quiet_op; first | go_big_quiet_on | go_big_quiet_call ((first | (go_at_call 126; exact calls_ov_same (P_Compare _ _ _)))))))
 refine wpQuiet_nil ?_
 intro wn hbn
 have hsz := B.size
 have hzn := hbn.size
 replace B := B.trans (hbn.mono B.size)
 try replace bs := bs.below hbn
 go_wp2_with (first | (refine wpList_bsI2 rfl _ _ rfl _ _ rfl rfl ?_; intro b_bs wn hle hge ht hbn hzn; have hsz := B.size; replace B := B.trans (hbn.mono (by omega)); have hln := Nat.lt_of_lt_of_eq (Nat.lt_succ_self _) hzn.symm; clear hzn; (try have hlt := p1.lt); (try have hlt := p2.lt); (try have hlt := bs.lt); (try replace bs := bs.below (hbn.mono hle)); have bs := ht; clear ht; simp only [putS]) | (go_at_call 125; refine (P_Or2 _ _ _ _ bs).mono ?_; rintro e wq ⟨rfl, rfl⟩) | fail)
 go_ret
 exact ⟨rfl, B⟩
theorem P_within (x y : Int) (w : World) : Calls Tryz.prog 87 #[Ps.v x y] w fun e w' => e = .returned (.bool (withinB x y)) ∧ Below w.heap.size w w' := by
 simp only [Ps.v]
 by_cases h0 : -8192 ≤ x
 ·by_cases h1 : x ≤ 8191
  ·by_cases h2 : -8192 ≤ y
   ·by_cases h3 : y ≤ 8191
    ·rw [show withinB x y = true from by unfold withinB; exact decide_eq_true (by omega)]
     have d0 : decide (-8192 ≤ x) = true := decide_eq_true h0
     have d1 : decide (x ≤ 8191) = true := decide_eq_true h1
     have d2 : decide (-8192 ≤ y) = true := decide_eq_true h2
     have d3 : decide (y ≤ 8191) = true := decide_eq_true h3
     go_enter Tryz.func87, Tryz.ntmps87
     go_wp2
     go_ret
     exact ⟨rfl, by go_grown⟩
    ·rw [show withinB x y = false from by unfold withinB; exact decide_eq_false (by omega)]
     have d0 : decide (-8192 ≤ x) = true := decide_eq_true h0
     have d1 : decide (x ≤ 8191) = true := decide_eq_true h1
     have d2 : decide (-8192 ≤ y) = true := decide_eq_true h2
     have d3 : decide (y ≤ 8191) = false := decide_eq_false h3
     go_enter Tryz.func87, Tryz.ntmps87
     go_wp2
     go_ret
     exact ⟨rfl, by go_grown⟩
   ·rw [show withinB x y = false from by unfold withinB; exact decide_eq_false (by omega)]
    have d0 : decide (-8192 ≤ x) = true := decide_eq_true h0
    have d1 : decide (x ≤ 8191) = true := decide_eq_true h1
    have d2 : decide (-8192 ≤ y) = false := decide_eq_false h2
    go_enter Tryz.func87, Tryz.ntmps87
    go_wp2
    go_ret
    exact ⟨rfl, by go_grown⟩
  ·rw [show withinB x y = false from by unfold withinB; exact decide_eq_false (by omega)]
   have d0 : decide (-8192 ≤ x) = true := decide_eq_true h0
   have d1 : decide (x ≤ 8191) = false := decide_eq_false h1
   go_enter Tryz.func87, Tryz.ntmps87
   go_wp2
   go_ret
   exact ⟨rfl, by go_grown⟩
 ·rw [show withinB x y = false from by unfold withinB; exact decide_eq_false (by omega)]
  have d0 : decide (-8192 ≤ x) = false := decide_eq_false h0
  go_enter Tryz.func87, Tryz.ntmps87
  go_wp2
  go_ret
  exact ⟨rfl, by go_grown⟩
theorem R_within (x y : Int) (w : World) : Calls Tryz.prog 111 #[Ps.v x y] w fun e w' => e = .returned (.bool (withinB x y)) ∧ Below w.heap.size w w' := by
 simp only [Ps.v]
 by_cases h0 : -8192 ≤ x
 ·by_cases h1 : x ≤ 8191
  ·by_cases h2 : -8192 ≤ y
   ·by_cases h3 : y ≤ 8191
    ·rw [show withinB x y = true from by unfold withinB; exact decide_eq_true (by omega)]
     have d0 : decide (-8192 ≤ x) = true := decide_eq_true h0
     have d1 : decide (x ≤ 8191) = true := decide_eq_true h1
     have d2 : decide (-8192 ≤ y) = true := decide_eq_true h2
     have d3 : decide (y ≤ 8191) = true := decide_eq_true h3
     go_enter Tryz.func111, Tryz.ntmps111
     go_wp2
     go_ret
     exact ⟨rfl, by go_grown⟩
    ·rw [show withinB x y = false from by unfold withinB; exact decide_eq_false (by omega)]
     have d0 : decide (-8192 ≤ x) = true := decide_eq_true h0
     have d1 : decide (x ≤ 8191) = true := decide_eq_true h1
     have d2 : decide (-8192 ≤ y) = true := decide_eq_true h2
     have d3 : decide (y ≤ 8191) = false := decide_eq_false h3
     go_enter Tryz.func111, Tryz.ntmps111
     go_wp2
     go_ret
     exact ⟨rfl, by go_grown⟩
   ·rw [show withinB x y = false from by unfold withinB; exact decide_eq_false (by omega)]
    have d0 : decide (-8192 ≤ x) = true := decide_eq_true h0
    have d1 : decide (x ≤ 8191) = true := decide_eq_true h1
    have d2 : decide (-8192 ≤ y) = false := decide_eq_false h2
    go_enter Tryz.func111, Tryz.ntmps111
    go_wp2
    go_ret
    exact ⟨rfl, by go_grown⟩
  ·rw [show withinB x y = false from by unfold withinB; exact decide_eq_false (by omega)]
   have d0 : decide (-8192 ≤ x) = true := decide_eq_true h0
   have d1 : decide (x ≤ 8191) = false := decide_eq_false h1
   go_enter Tryz.func111, Tryz.ntmps111
   go_wp2
   go_ret
   exact ⟨rfl, by go_grown⟩
 ·rw [show withinB x y = false from by unfold withinB; exact decide_eq_false (by omega)]
  have d0 : decide (-8192 ≤ x) = false := decide_eq_false h0
  go_enter Tryz.func111, Tryz.ntmps111
  go_wp2
  go_ret
  exact ⟨rfl, by go_grown⟩
theorem R_less (ax ay bx bv : Int) (w : World) : Calls Tryz.prog 121 #[Ps.v ax ay, Ps.v bx bv] w fun e w' => e = .returned (.bool (lessB ax ay bx bv)) ∧ Below w.heap.size w w' := by
 simp only [Ps.v]
 by_cases h1 : ay < bv
 ·rw [show lessB ax ay bx bv = true from decide_eq_true (Or.inl h1)]
  have d1 : decide (ay < bv) = true := decide_eq_true h1
  go_enter Tryz.func121, Tryz.ntmps121
  go_wp2
  go_ret
  exact ⟨rfl, by go_grown⟩
 ·have d1 : decide (ay < bv) = false := decide_eq_false h1
  by_cases h2 : ay = bv
  ·subst h2
   by_cases h3 : ax < bx
   ·rw [show lessB ax ay bx ay = true from decide_eq_true (Or.inr ⟨rfl, h3⟩)]
    have d3 : decide (ax < bx) = true := decide_eq_true h3
    go_enter Tryz.func121, Tryz.ntmps121
    go_wp2
    go_ret
    exact ⟨rfl, by go_grown⟩
   ·rw [show lessB ax ay bx ay = false from decide_eq_false (by omega)]
    have d3 : decide (ax < bx) = false := decide_eq_false h3
    go_enter Tryz.func121, Tryz.ntmps121
    go_wp2
    go_ret
    exact ⟨rfl, by go_grown⟩
  ·rw [show lessB ax ay bx bv = false from decide_eq_false (by omega)]
   have d2 : (ay == bv) = false := by simpa using h2
   go_enter Tryz.func121, Tryz.ntmps121
   go_wp2
   go_ret
   exact ⟨rfl, by go_grown⟩
/- Arms for rasters: boxed rasters, tiles at a position, rows of them; contracts of Valid of package raster and of its reference. -/
theorem AtB.cell0 {t : TypeId} {w : World} {b : Nat} {v : Value} (h : AtB t w b #[v]) : w.cell? ⟨b, 0, none⟩ = some v := h.cell 0 rfl
theorem run_load_sl {w : World} {b j : Nat} {v : Value} (h : w.cell? ⟨b, j, none⟩ = some v) : (Instr.loadAt 32 (.pointer (some ⟨b, j, none⟩))).run Tryz.prog w = .ok v w := by
 simp [go_sem, h]
/-- Loaded from cells that are known one by one. -/
theorem run_load_cells {w : World} {b off : Nat} {cs : Array Value} {t : TypeId} (hagg : ∀ w : World, (isAgg t).run Tryz.prog w = .ok true w)
  (hsz : (Tryz.prog.info? t).map (·.size) = some cs.size) (hc : ∀ j, j < cs.size → w.cell? ⟨b, off + j, none⟩ = cs[j]?) : (Instr.loadAt t (.pointer (some ⟨b, off, none⟩))).run Tryz.prog w = .ok (.agg cs) w := by
 simp only [Instr.loadAt, Instr.sureAddr, Sem.run_bind, Sem.run_pure, Result.andThen_ok]
 have hl : (loadCells ⟨b, off, none⟩ cs.toList.length).run Tryz.prog w = .ok cs.toList.toArray w :=
  run_loadCells_list (P := Tryz.prog) w ⟨b, off, none⟩ cs.toList (fun j v hv => by
   have hadd : (⟨b, off, none⟩ : Addr).add j = ⟨b, off + j, none⟩ := by unfold Addr.add; split <;> simp_all
   have hj : j < cs.size := by
    have := (List.getElem?_eq_some_iff.1 hv).1
    rw [Array.length_toList] at this
    exact this
   rw [hadd, hc j hj]
   simpa using hv)
 cases hq : Tryz.prog.info? t with
 | none => rw [hq] at hsz; cases hsz
 | some i =>
  have he : i.size = cs.size := by rw [hq] at hsz; simpa using hsz
  rw [Array.length_toList] at hl
  simp only [Array.toArray_toList] at hl
  simp only [loadVar, Sem.run_bind, hagg w, sizeOf, typeInfo, hq, he, hl, run_program, Result.andThen_ok, if_true, Sem.run_pure]
theorem ta_size (e : TA) : (Tryz.prog.info? 72).map (·.size) = some (taC e).size := by rw [size_taC]; kernel_rfl
theorem pos_size (x y : Int) : (Tryz.prog.info? 68).map (·.size) = some (#[Value.int .i64 x, .int .i64 y] : Array Value).size := by kernel_rfl
section
variable {w : World} {b g o i : Nat} {e : TA} {ls : List TA}
theorem ta_pos (h : AtB 72 w b (taC e)) : (Instr.loadAt 68 (.pointer (some ⟨b, 0, none⟩))).run Tryz.prog w = .ok (Ps.v e.x e.y) w :=
 run_load_cells Tryz.isAgg68 (pos_size _ _) (fun j hj => by
  have hj : j < 2 := hj
  have hc : j = 0 ∨ j = 1 := by omega
  rcases hc with rfl | rfl
  ·exact h.cell 0 (taC_x e)
  ·exact h.cell 1 (taC_y e))
theorem ta_tile (h : AtB 72 w b (taC e)) : (Instr.loadAt 70 (.pointer (some ⟨b, 2, none⟩))).run Tryz.prog w = .ok (Tile.v e.t) w :=
 run_load_BP h 2 Tryz.isAgg70 (tile_size _) (fun j hj => taC_t e j)
theorem rc_ta (h : RCells g o ls w) (hi : i < ls.length) (he : aT ls i = e) : (Instr.loadAt 72 (.pointer (some ⟨g, o + i * 258, none⟩))).run Tryz.prog w = .ok (.agg (taC e)) w :=
 run_load_cells Tryz.isAgg72 (ta_size _) (fun j hj => by
  rw [size_taC] at hj
  rw [← he, Nat.add_assoc]
  exact h.2 i hi j hj)
theorem rc_pos (h : RCells g o ls w) (hi : i < ls.length) (he : aT ls i = e) : (Instr.loadAt 68 (.pointer (some ⟨g, o + i * 258, none⟩))).run Tryz.prog w = .ok (Ps.v e.x e.y) w :=
 run_load_cells Tryz.isAgg68 (pos_size _ _) (fun j hj => by
  have hj : j < 2 := hj
  have hc : j = 0 ∨ j = 1 := by omega
  subst he
  rcases hc with rfl | rfl
  ·exact h.x hi
  ·exact h.y hi)
theorem rc_tile (h : RCells g o ls w) (hi : i < ls.length) (he : aT ls i = e) : (Instr.loadAt 70 (.pointer (some ⟨g, o + i * 258 + 2, none⟩))).run Tryz.prog w = .ok (Tile.v e.t) w :=
 run_load_cells Tryz.isAgg70 (tile_size _) (fun j hj => by
  rw [size_tileC] at hj
  subst he
  exact h.t hi hj)
theorem ov_rc (h : RCells g o ls w) : ∀ w', (∃ u, w' = ov w u) → RCells g o ls w' := by
 rintro w' ⟨u, rfl⟩
 exact h.of_eq ((ov_below w u).block _ h.lt)
end
def zTA : Array Value := #[.int .i64 0, .int .i64 0] ++ Array.replicate 256 (.int .u8 0)
theorem size_zTA : zTA.size = 258 := by unfold zTA; rw [Array.size_append, Array.size_replicate]; rfl
theorem taC_all (e : TA) : (taC e).all (·.oneCell') = true := by
 rw [← Array.all_toList]
 exact List.all_eq_true.2 (taC_oneCell e)
theorem run_alloc_TA (w : World) (o : Oper) (ho : o.op = .alloc 72) (ev : Operand → Value) : (execOp ev o).run Tryz.prog w = .ok (.value (.pointer (some ⟨w.heap.size, 0, none⟩))) (w.alloc (.cells zTA 72)) := by
 obtain ⟨d, p, t, ps, af, gd⟩ := o
 simp only at ho
 subst ho
 kernel_rfl
attribute [irreducible] zTA
theorem step_within {ls : List TA} {k : Nat} {x y : Int} {t : Nat → Px} (he : aT ls k = ⟨x, y, t⟩) (h : withinB x y = false) : stepA ls k = false := by
 unfold stepA goodA; rw [he, h]; rfl
theorem step_zero {ls : List TA} {k : Nat} {x y : Int} {t : Nat → Px} (he : aT ls k = ⟨x, y, t⟩) (h : zeroB t = true) : stepA ls k = false := by
 unfold stepA goodA; rw [he, h]; simp
theorem step_clean {ls : List TA} {k : Nat} {x y : Int} {t : Nat → Px} (he : aT ls k = ⟨x, y, t⟩) (h : eqT (cleanT t) t = false) : stepA ls k = false := by
 unfold stepA goodA; rw [he, h]; simp
theorem step_first {ls : List TA} {x y : Int} {t : Nat → Px} (he : aT ls 0 = ⟨x, y, t⟩) (h1 : withinB x y = true) (h2 : zeroB t = false) (h3 : eqT (cleanT t) t = true) : stepA ls 0 = true := by
 unfold stepA goodA; rw [he, h1, h2, h3]; rfl
theorem step_less {ls : List TA} {k : Nat} {x y x' y' : Int} {t t' : Nat → Px} (hk : 0 < k) (he : aT ls k = ⟨x, y, t⟩) (he' : aT ls (k - 1) = ⟨x', y', t'⟩) (h1 : withinB x y = true) (h2 : zeroB t = false) (h3 : eqT (cleanT t) t = true) : stepA ls k = lessB x' y' x y := by
 unfold stepA goodA beforeA; rw [he, he', h1, h2, h3, decide_eq_false (by omega)]; simp
set_option maxHeartbeats 4000000 in
theorem P_Valid (v : Value) (ls : List TA) (w : World) (h : RS v ls w) (tk : TokL ls) (hn : ls.length ≤ maxLen) : Calls Tryz.prog 56 #[.agg #[v]] w fun e w' => e = .returned (.bool (validL ls)) ∧ Below w.heap.size w w' := by
 unfold maxLen at hn
 obtain ⟨a, c, rfl, hc⟩ := h.len
 have B := Below.refl w.heap.size w
 have HS := Lib.hid h
 have HK := Lib.hid tk
 clear h tk
 by_cases hbig : 1024 < ls.length
 ·rw [validL_big hbig]
  have d1 : decide (1024 < (ls.length : Int)) = true := decide_eq_true (by omega)
  go_enter Tryz.func56, Tryz.ntmps56
  go_wp2_with (first | (refine wpList_loadAny (t := 32) rfl _ rfl _ _ _ rfl (run_load_sl r1.cell0) (by rfl) ?_; simp only [putS]) | (refine wpList_boxB (t := 34) rfl _ rfl _ rfl ?_; intro b_r1 wn hle hge ht hbn hzn; have hsz := B.size; replace B := B.trans (hbn.mono (by omega)); have hln := Nat.lt_of_lt_of_eq (Nat.lt_succ_self _) hzn.symm; clear hzn; (try have hlt := r1.lt); (try replace r1 := r1.below (hbn.mono hle)); (try have hlt := t1.lt); (try replace t1 := t1.below (hbn.mono hle)); (try have hlt := rc.lt); (try replace rc := rc.below (hbn.mono hle)); have r1 := ht; clear ht; simp only [putS]) | fail)
  go_ret
  exact ⟨rfl, B⟩
 ·have d1 : decide (1024 < (ls.length : Int)) = false := decide_eq_false (by omega)
  go_enter Tryz.func56, Tryz.ntmps56
  go_wp2_with (first | (refine wpList_loadAny (t := 32) rfl _ rfl _ _ _ rfl (run_load_sl r1.cell0) (by rfl) ?_; simp only [putS]) | (refine wpList_boxB (t := 34) rfl _ rfl _ rfl ?_; intro b_r1 wn hle hge ht hbn hzn; have hsz := B.size; replace B := B.trans (hbn.mono (by omega)); have hln := Nat.lt_of_lt_of_eq (Nat.lt_succ_self _) hzn.symm; clear hzn; (try have hlt := r1.lt); (try replace r1 := r1.below (hbn.mono hle)); (try have hlt := t1.lt); (try replace t1 := t1.below (hbn.mono hle)); (try have hlt := rc.lt); (try replace rc := rc.below (hbn.mono hle)); have r1 := ht; clear ht; simp only [putS]) | fail)
  clear d1
  have hr1 := r1.lt
  go_loopw [3, 4, 12] (fun _ _ i wr => ∃ k : Nat, k ≤ ls.length ∧ i = .int .i64 k ∧ Below w.heap.size w wr ∧ wn.heap.size ≤ wr.heap.size ∧ AtB 34 wr b_r1 #[.slice a ls.length c] ∧ ∀ j, j < k → stepA ls j = true) (fun _ _ i _ => (ls.length - intOf i).toNat)
  case atStart => exact ⟨0, by omega, rfl, B, Nat.le_refl _, r1, fun j hj => by omega⟩
  case round =>
   clear B r1
   obtain ⟨k, hk, rfl, B, hwn, r1, hst⟩ := hrel
   have Hst := Lib.hid hst
   clear hst
   by_cases hkl : k < ls.length
   ·obtain ⟨g, o, rfl, rc0⟩ := HS.out.at (by omega)
    have hg0 := rc0.lt
    have rc := rc0.of_eq (B.block _ rc0.lt)
    clear rc0
    obtain ⟨⟨x, y, t⟩, he⟩ : ∃ e, aT ls k = e := ⟨_, rfl⟩
    have htk : Tok t := by have := HK.out.at hkl; rw [he] at this; exact this
    have HT := Lib.hid htk
    obtain ⟨⟨x', y', t'⟩, he'⟩ : ∃ e, aT ls (k - 1) = e := ⟨_, rfl⟩
    have hk1 : k - 1 < ls.length := by omega
    have dlt : decide ((k : Int) < (ls.length : Int)) = true := decide_eq_true (by omega)
    have hneq : ∀ w, (binOp .neq 70 (Tile.v (cleanT t)) (Tile.v t)).run Tryz.prog w = .ok (.bool (!eqT (cleanT t) t)) w := fun w => neq_tile _ _ w
    cases h1 : withinB x y with
    | false =>
     have E := Lib.hid (step_within he h1)
     go_wp2_with (first | (refine wpList_storeB (t := 72) rfl _ _ rfl _ rfl _ rfl t1 (by rw [size_taC]; kernel_rfl) (by simp only [size_taC, size_zTA]) (taC_all _) ?_; clear t1; intro wn ht hcn hzn; have hsz := B.size; replace hzn := Nat.le_of_eq hzn.symm; replace B := Chg.below B hcn (by omega) B.size; (try replace r1 := r1.of_eq (hcn.block _ r1.lt (by omega))); (try replace rc := rc.of_eq (hcn.block _ rc.lt (by omega))); have t1 := ht; clear ht; simp only [putS]) | (refine wpList_allocBk (t := 72) rfl _ (run_alloc_TA _ _ rfl) ?_; intro b_t1 wn hle hge ht hbn hzn; have hsz := B.size; replace B := B.trans (hbn.mono (by omega)); have hln := Nat.lt_of_lt_of_eq (Nat.lt_succ_self _) hzn.symm; clear hzn; (try have hlt := r1.lt); (try replace r1 := r1.below (hbn.mono hle)); (try have hlt := t1.lt); (try replace t1 := t1.below (hbn.mono hle)); (try have hlt := rc.lt); (try replace rc := rc.below (hbn.mono hle)); have t1 := ht; clear ht; simp only [putS]) | (refine wpList_loadAny (t := 72) rfl _ rfl _ _ _ rfl (rc_ta rc hkl he) (by first | rfl | omega) ?_; simp only [putS]) | (refine wpList_loadAny (t := 32) rfl _ rfl _ _ _ rfl (run_load_sl r1.cell0) (by rfl) ?_; simp only [putS]) | fail)
     refine wp_region_ov (by kernel_rfl) (by kernel_rfl) ?_
     repeat (first | go_big_quiet_skip | (go_big_quiet_want; first | (refine quiet_loadAny (t := 68) rfl _ _ _ rfl (fun w hw => ta_pos (ov_B t1 w hw)) (by first | rfl | omega) ?_; simp only [putS]; go_big_quiet_on) | (refine quiet_loadAny (t := 70) rfl _ _ _ rfl (fun w hw => ta_tile (ov_B t1 w hw)) (by first | rfl | omega) ?_; simp only [putS]; go_big_quiet_on) | (refine quiet_loadAny (t := 32) rfl _ _ _ rfl (fun w hw => run_load_sl (ov_B r1 w hw).cell0) (by rfl) ?_; simp only [putS]; go_big_quiet_on) | (refine quiet_loadAny (t := 68) rfl _ _ _ rfl (fun w hw => rc_pos (ov_rc rc w hw) hk1 he') (by first | rfl | omega) ?_; simp only [putS]; go_big_quiet_on) | (go_big_quiet_op; first | go_big_quiet_on | go_big_quiet_call ((first | (go_at_call 87; exact calls_ov (P_within _ _ _)) | (go_at_call 92; exact calls_ov (P_Zero _ _ htk)) | (go_at_call 90; exact calls_ov (P_Clean_t _ _ htk)) | (go_at_call 93; exact calls_ov (P_order _ _ _ _ _)))))))
     refine wpQuiet_nil ?_
     intro wn hbn
     have hsz := B.size
     have hzn := hbn.size
     replace B := B.trans (hbn.mono B.size)
     try replace r1 := r1.below hbn
     try replace t1 := t1.below hbn
     try replace rc := rc.below hbn
     go_wp2
     go_ret
     exact ⟨by rw [validL_no hkl E.out]; try rfl, B⟩
    | true =>
     cases h2 : zeroB t with
     | true =>
      have E := Lib.hid (step_zero he h2)
      go_wp2_with (first | (refine wpList_storeB (t := 72) rfl _ _ rfl _ rfl _ rfl t1 (by rw [size_taC]; kernel_rfl) (by simp only [size_taC, size_zTA]) (taC_all _) ?_; clear t1; intro wn ht hcn hzn; have hsz := B.size; replace hzn := Nat.le_of_eq hzn.symm; replace B := Chg.below B hcn (by omega) B.size; (try replace r1 := r1.of_eq (hcn.block _ r1.lt (by omega))); (try replace rc := rc.of_eq (hcn.block _ rc.lt (by omega))); have t1 := ht; clear ht; simp only [putS]) | (refine wpList_allocBk (t := 72) rfl _ (run_alloc_TA _ _ rfl) ?_; intro b_t1 wn hle hge ht hbn hzn; have hsz := B.size; replace B := B.trans (hbn.mono (by omega)); have hln := Nat.lt_of_lt_of_eq (Nat.lt_succ_self _) hzn.symm; clear hzn; (try have hlt := r1.lt); (try replace r1 := r1.below (hbn.mono hle)); (try have hlt := t1.lt); (try replace t1 := t1.below (hbn.mono hle)); (try have hlt := rc.lt); (try replace rc := rc.below (hbn.mono hle)); have t1 := ht; clear ht; simp only [putS]) | (refine wpList_loadAny (t := 72) rfl _ rfl _ _ _ rfl (rc_ta rc hkl he) (by first | rfl | omega) ?_; simp only [putS]) | (refine wpList_loadAny (t := 32) rfl _ rfl _ _ _ rfl (run_load_sl r1.cell0) (by rfl) ?_; simp only [putS]) | fail)
      refine wp_region_ov (by kernel_rfl) (by kernel_rfl) ?_
      repeat (first | go_big_quiet_skip | (go_big_quiet_want; first | (refine quiet_loadAny (t := 68) rfl _ _ _ rfl (fun w hw => ta_pos (ov_B t1 w hw)) (by first | rfl | omega) ?_; simp only [putS]; go_big_quiet_on) | (refine quiet_loadAny (t := 70) rfl _ _ _ rfl (fun w hw => ta_tile (ov_B t1 w hw)) (by first | rfl | omega) ?_; simp only [putS]; go_big_quiet_on) | (refine quiet_loadAny (t := 32) rfl _ _ _ rfl (fun w hw => run_load_sl (ov_B r1 w hw).cell0) (by rfl) ?_; simp only [putS]; go_big_quiet_on) | (refine quiet_loadAny (t := 68) rfl _ _ _ rfl (fun w hw => rc_pos (ov_rc rc w hw) hk1 he') (by first | rfl | omega) ?_; simp only [putS]; go_big_quiet_on) | (go_big_quiet_op; first | go_big_quiet_on | go_big_quiet_call ((first | (go_at_call 87; exact calls_ov (P_within _ _ _)) | (go_at_call 92; exact calls_ov (P_Zero _ _ htk)) | (go_at_call 90; exact calls_ov (P_Clean_t _ _ htk)) | (go_at_call 93; exact calls_ov (P_order _ _ _ _ _)))))))
      refine wpQuiet_nil ?_
      intro wn hbn
      have hsz := B.size
      have hzn := hbn.size
      replace B := B.trans (hbn.mono B.size)
      try replace r1 := r1.below hbn
      try replace t1 := t1.below hbn
      try replace rc := rc.below hbn
      go_wp2
      go_ret
      exact ⟨by rw [validL_no hkl E.out]; try rfl, B⟩
     | false =>
      cases h3 : eqT (cleanT t) t with
      | false =>
       have E := Lib.hid (step_clean he h3)
       go_wp2_with (first | (refine wpList_storeB (t := 72) rfl _ _ rfl _ rfl _ rfl t1 (by rw [size_taC]; kernel_rfl) (by simp only [size_taC, size_zTA]) (taC_all _) ?_; clear t1; intro wn ht hcn hzn; have hsz := B.size; replace hzn := Nat.le_of_eq hzn.symm; replace B := Chg.below B hcn (by omega) B.size; (try replace r1 := r1.of_eq (hcn.block _ r1.lt (by omega))); (try replace rc := rc.of_eq (hcn.block _ rc.lt (by omega))); have t1 := ht; clear ht; simp only [putS]) | (refine wpList_allocBk (t := 72) rfl _ (run_alloc_TA _ _ rfl) ?_; intro b_t1 wn hle hge ht hbn hzn; have hsz := B.size; replace B := B.trans (hbn.mono (by omega)); have hln := Nat.lt_of_lt_of_eq (Nat.lt_succ_self _) hzn.symm; clear hzn; (try have hlt := r1.lt); (try replace r1 := r1.below (hbn.mono hle)); (try have hlt := t1.lt); (try replace t1 := t1.below (hbn.mono hle)); (try have hlt := rc.lt); (try replace rc := rc.below (hbn.mono hle)); have t1 := ht; clear ht; simp only [putS]) | (refine wpList_loadAny (t := 72) rfl _ rfl _ _ _ rfl (rc_ta rc hkl he) (by first | rfl | omega) ?_; simp only [putS]) | (refine wpList_loadAny (t := 32) rfl _ rfl _ _ _ rfl (run_load_sl r1.cell0) (by rfl) ?_; simp only [putS]) | fail)
       refine wp_region_ov (by kernel_rfl) (by kernel_rfl) ?_
       repeat (first | go_big_quiet_skip | (go_big_quiet_want; first | (refine quiet_loadAny (t := 68) rfl _ _ _ rfl (fun w hw => ta_pos (ov_B t1 w hw)) (by first | rfl | omega) ?_; simp only [putS]; go_big_quiet_on) | (refine quiet_loadAny (t := 70) rfl _ _ _ rfl (fun w hw => ta_tile (ov_B t1 w hw)) (by first | rfl | omega) ?_; simp only [putS]; go_big_quiet_on) | (refine quiet_loadAny (t := 32) rfl _ _ _ rfl (fun w hw => run_load_sl (ov_B r1 w hw).cell0) (by rfl) ?_; simp only [putS]; go_big_quiet_on) | (refine quiet_loadAny (t := 68) rfl _ _ _ rfl (fun w hw => rc_pos (ov_rc rc w hw) hk1 he') (by first | rfl | omega) ?_; simp only [putS]; go_big_quiet_on) | (go_big_quiet_op; first | go_big_quiet_on | go_big_quiet_call ((first | (go_at_call 87; exact calls_ov (P_within _ _ _)) | (go_at_call 92; exact calls_ov (P_Zero _ _ htk)) | (go_at_call 90; exact calls_ov (P_Clean_t _ _ htk)) | (go_at_call 93; exact calls_ov (P_order _ _ _ _ _)))))))
       refine wpQuiet_nil ?_
       intro wn hbn
       have hsz := B.size
       have hzn := hbn.size
       replace B := B.trans (hbn.mono B.size)
       try replace r1 := r1.below hbn
       try replace t1 := t1.below hbn
       try replace rc := rc.below hbn
       go_wp2
       go_ret
       exact ⟨by rw [validL_no hkl E.out]; try rfl, B⟩
      | true =>
       by_cases hk0 : 0 < k
       ·have E := Lib.hid (step_less hk0 he he' h1 h2 h3)
        have d3 : decide ((0 : Int) < (k : Int)) = true := decide_eq_true (by omega)
        have d4 : decide (0 < k) = true := decide_eq_true hk0
        cases h4 : lessB x' y' x y with
        | false =>
         have hO : decide (0 ≤ ordI x' y' x y) = true := by rw [ordI_ge, h4]; rfl
         go_wp2_with (first | (refine wpList_storeB (t := 72) rfl _ _ rfl _ rfl _ rfl t1 (by rw [size_taC]; kernel_rfl) (by simp only [size_taC, size_zTA]) (taC_all _) ?_; clear t1; intro wn ht hcn hzn; have hsz := B.size; replace hzn := Nat.le_of_eq hzn.symm; replace B := Chg.below B hcn (by omega) B.size; (try replace r1 := r1.of_eq (hcn.block _ r1.lt (by omega))); (try replace rc := rc.of_eq (hcn.block _ rc.lt (by omega))); have t1 := ht; clear ht; simp only [putS]) | (refine wpList_allocBk (t := 72) rfl _ (run_alloc_TA _ _ rfl) ?_; intro b_t1 wn hle hge ht hbn hzn; have hsz := B.size; replace B := B.trans (hbn.mono (by omega)); have hln := Nat.lt_of_lt_of_eq (Nat.lt_succ_self _) hzn.symm; clear hzn; (try have hlt := r1.lt); (try replace r1 := r1.below (hbn.mono hle)); (try have hlt := t1.lt); (try replace t1 := t1.below (hbn.mono hle)); (try have hlt := rc.lt); (try replace rc := rc.below (hbn.mono hle)); have t1 := ht; clear ht; simp only [putS]) | (refine wpList_loadAny (t := 72) rfl _ rfl _ _ _ rfl (rc_ta rc hkl he) (by first | rfl | omega) ?_; simp only [putS]) | (refine wpList_loadAny (t := 32) rfl _ rfl _ _ _ rfl (run_load_sl r1.cell0) (by rfl) ?_; simp only [putS]) | fail)
         refine wp_region_ov (by kernel_rfl) (by kernel_rfl) ?_
         repeat (first | go_big_quiet_skip | (go_big_quiet_want; first | (refine quiet_loadAny (t := 68) rfl _ _ _ rfl (fun w hw => ta_pos (ov_B t1 w hw)) (by first | rfl | omega) ?_; simp only [putS]; go_big_quiet_on) | (refine quiet_loadAny (t := 70) rfl _ _ _ rfl (fun w hw => ta_tile (ov_B t1 w hw)) (by first | rfl | omega) ?_; simp only [putS]; go_big_quiet_on) | (refine quiet_loadAny (t := 32) rfl _ _ _ rfl (fun w hw => run_load_sl (ov_B r1 w hw).cell0) (by rfl) ?_; simp only [putS]; go_big_quiet_on) | (refine quiet_loadAny (t := 68) rfl _ _ _ rfl (fun w hw => rc_pos (ov_rc rc w hw) hk1 he') (by first | rfl | omega) ?_; simp only [putS]; go_big_quiet_on) | (go_big_quiet_op; first | go_big_quiet_on | go_big_quiet_call ((first | (go_at_call 87; exact calls_ov (P_within _ _ _)) | (go_at_call 92; exact calls_ov (P_Zero _ _ htk)) | (go_at_call 90; exact calls_ov (P_Clean_t _ _ htk)) | (go_at_call 93; exact calls_ov (P_order _ _ _ _ _)))))))
         refine wpQuiet_nil ?_
         intro wn hbn
         have hsz := B.size
         have hzn := hbn.size
         replace B := B.trans (hbn.mono B.size)
         try replace r1 := r1.below hbn
         try replace t1 := t1.below hbn
         try replace rc := rc.below hbn
         go_wp2
         go_ret
         exact ⟨by rw [validL_no hkl (E.out.trans h4)]; try rfl, B⟩
        | true =>
         have hO : decide (0 ≤ ordI x' y' x y) = false := by rw [ordI_ge, h4]; rfl
         go_wp2_with (first | (refine wpList_storeB (t := 72) rfl _ _ rfl _ rfl _ rfl t1 (by rw [size_taC]; kernel_rfl) (by simp only [size_taC, size_zTA]) (taC_all _) ?_; clear t1; intro wn ht hcn hzn; have hsz := B.size; replace hzn := Nat.le_of_eq hzn.symm; replace B := Chg.below B hcn (by omega) B.size; (try replace r1 := r1.of_eq (hcn.block _ r1.lt (by omega))); (try replace rc := rc.of_eq (hcn.block _ rc.lt (by omega))); have t1 := ht; clear ht; simp only [putS]) | (refine wpList_allocBk (t := 72) rfl _ (run_alloc_TA _ _ rfl) ?_; intro b_t1 wn hle hge ht hbn hzn; have hsz := B.size; replace B := B.trans (hbn.mono (by omega)); have hln := Nat.lt_of_lt_of_eq (Nat.lt_succ_self _) hzn.symm; clear hzn; (try have hlt := r1.lt); (try replace r1 := r1.below (hbn.mono hle)); (try have hlt := t1.lt); (try replace t1 := t1.below (hbn.mono hle)); (try have hlt := rc.lt); (try replace rc := rc.below (hbn.mono hle)); have t1 := ht; clear ht; simp only [putS]) | (refine wpList_loadAny (t := 72) rfl _ rfl _ _ _ rfl (rc_ta rc hkl he) (by first | rfl | omega) ?_; simp only [putS]) | (refine wpList_loadAny (t := 32) rfl _ rfl _ _ _ rfl (run_load_sl r1.cell0) (by rfl) ?_; simp only [putS]) | fail)
         refine wp_region_ov (by kernel_rfl) (by kernel_rfl) ?_
         repeat (first | go_big_quiet_skip | (go_big_quiet_want; first | (refine quiet_loadAny (t := 68) rfl _ _ _ rfl (fun w hw => ta_pos (ov_B t1 w hw)) (by first | rfl | omega) ?_; simp only [putS]; go_big_quiet_on) | (refine quiet_loadAny (t := 70) rfl _ _ _ rfl (fun w hw => ta_tile (ov_B t1 w hw)) (by first | rfl | omega) ?_; simp only [putS]; go_big_quiet_on) | (refine quiet_loadAny (t := 32) rfl _ _ _ rfl (fun w hw => run_load_sl (ov_B r1 w hw).cell0) (by rfl) ?_; simp only [putS]; go_big_quiet_on) | (refine quiet_loadAny (t := 68) rfl _ _ _ rfl (fun w hw => rc_pos (ov_rc rc w hw) hk1 he') (by first | rfl | omega) ?_; simp only [putS]; go_big_quiet_on) | (go_big_quiet_op; first | go_big_quiet_on | go_big_quiet_call ((first | (go_at_call 87; exact calls_ov (P_within _ _ _)) | (go_at_call 92; exact calls_ov (P_Zero _ _ htk)) | (go_at_call 90; exact calls_ov (P_Clean_t _ _ htk)) | (go_at_call 93; exact calls_ov (P_order _ _ _ _ _)))))))
         refine wpQuiet_nil ?_
         intro wn hbn
         have hsz := B.size
         have hzn := hbn.size
         replace B := B.trans (hbn.mono B.size)
         try replace r1 := r1.below hbn
         try replace t1 := t1.below hbn
         try replace rc := rc.below hbn
         go_wp2
         go_roundw
         case rel => exact ⟨k + 1, by omega, by go_num, B, by omega, r1, fun j hj => by
          by_cases e : j = k
          ·rw [e, E.out, h4]
          ·exact Hst.out j (by omega)⟩
         case measure => simp [intOf]; omega
       ·obtain rfl : k = 0 := by omega
        have E := Lib.hid (step_first he h1 h2 h3)
        go_wp2_with (first | (refine wpList_storeB (t := 72) rfl _ _ rfl _ rfl _ rfl t1 (by rw [size_taC]; kernel_rfl) (by simp only [size_taC, size_zTA]) (taC_all _) ?_; clear t1; intro wn ht hcn hzn; have hsz := B.size; replace hzn := Nat.le_of_eq hzn.symm; replace B := Chg.below B hcn (by omega) B.size; (try replace r1 := r1.of_eq (hcn.block _ r1.lt (by omega))); (try replace rc := rc.of_eq (hcn.block _ rc.lt (by omega))); have t1 := ht; clear ht; simp only [putS]) | (refine wpList_allocBk (t := 72) rfl _ (run_alloc_TA _ _ rfl) ?_; intro b_t1 wn hle hge ht hbn hzn; have hsz := B.size; replace B := B.trans (hbn.mono (by omega)); have hln := Nat.lt_of_lt_of_eq (Nat.lt_succ_self _) hzn.symm; clear hzn; (try have hlt := r1.lt); (try replace r1 := r1.below (hbn.mono hle)); (try have hlt := t1.lt); (try replace t1 := t1.below (hbn.mono hle)); (try have hlt := rc.lt); (try replace rc := rc.below (hbn.mono hle)); have t1 := ht; clear ht; simp only [putS]) | (refine wpList_loadAny (t := 72) rfl _ rfl _ _ _ rfl (rc_ta rc hkl he) (by first | rfl | omega) ?_; simp only [putS]) | (refine wpList_loadAny (t := 32) rfl _ rfl _ _ _ rfl (run_load_sl r1.cell0) (by rfl) ?_; simp only [putS]) | fail)
        refine wp_region_ov (by kernel_rfl) (by kernel_rfl) ?_
        repeat (first | go_big_quiet_skip | (go_big_quiet_want; first | (refine quiet_loadAny (t := 68) rfl _ _ _ rfl (fun w hw => ta_pos (ov_B t1 w hw)) (by first | rfl | omega) ?_; simp only [putS]; go_big_quiet_on) | (refine quiet_loadAny (t := 70) rfl _ _ _ rfl (fun w hw => ta_tile (ov_B t1 w hw)) (by first | rfl | omega) ?_; simp only [putS]; go_big_quiet_on) | (refine quiet_loadAny (t := 32) rfl _ _ _ rfl (fun w hw => run_load_sl (ov_B r1 w hw).cell0) (by rfl) ?_; simp only [putS]; go_big_quiet_on) | (refine quiet_loadAny (t := 68) rfl _ _ _ rfl (fun w hw => rc_pos (ov_rc rc w hw) hk1 he') (by first | rfl | omega) ?_; simp only [putS]; go_big_quiet_on) | (go_big_quiet_op; first | go_big_quiet_on | go_big_quiet_call ((first | (go_at_call 87; exact calls_ov (P_within _ _ _)) | (go_at_call 92; exact calls_ov (P_Zero _ _ htk)) | (go_at_call 90; exact calls_ov (P_Clean_t _ _ htk)) | (go_at_call 93; exact calls_ov (P_order _ _ _ _ _)))))))
        refine wpQuiet_nil ?_
        intro wn hbn
        have hsz := B.size
        have hzn := hbn.size
        replace B := B.trans (hbn.mono B.size)
        try replace r1 := r1.below hbn
        go_wp2
        go_roundw
        case rel => exact ⟨1, by omega, by go_num, B, by omega, r1, fun j hj => by
         obtain rfl : j = 0 := by omega
         exact E.out⟩
        case measure => simp [intOf]; omega
   ·have dlt : decide ((k : Int) < (ls.length : Int)) = false := decide_eq_false (by omega)
    have e1 := Lib.hid (validL_yes (by omega) (fun j hj => Hst.out j (by omega)))
    go_wp2_with (first | (refine wpList_loadAny (t := 32) rfl _ rfl _ _ _ rfl (run_load_sl r1.cell0) (by rfl) ?_; simp only [putS]) | fail)
    go_ret
    exact ⟨by rw [e1.out]; try rfl, B⟩
set_option maxHeartbeats 4000000 in
theorem R_Valid (v : Value) (ls : List TA) (w : World) (h : RS v ls w) (tk : TokL ls) (hn : ls.length ≤ maxLen) : Calls Tryz.prog 76 #[.agg #[v]] w fun e w' => e = .returned (.bool (validL ls)) ∧ Below w.heap.size w w' := by
 unfold maxLen at hn
 obtain ⟨a, c, rfl, hc⟩ := h.len
 have B := Below.refl w.heap.size w
 have HS := Lib.hid h
 have HK := Lib.hid tk
 clear h tk
 by_cases hbig : 1024 < ls.length
 ·rw [validL_big hbig]
  have d1 : decide (1024 < (ls.length : Int)) = true := decide_eq_true (by omega)
  go_enter Tryz.func76, Tryz.ntmps76
  go_wp2_with (first | (refine wpList_loadAny (t := 32) rfl _ rfl _ _ _ rfl (run_load_sl r1.cell0) (by rfl) ?_; simp only [putS]) | (refine wpList_boxB (t := 34) rfl _ rfl _ rfl ?_; intro b_r1 wn hle hge ht hbn hzn; have hsz := B.size; replace B := B.trans (hbn.mono (by omega)); have hln := Nat.lt_of_lt_of_eq (Nat.lt_succ_self _) hzn.symm; clear hzn; (try have hlt := r1.lt); (try replace r1 := r1.below (hbn.mono hle)); (try have hlt := t1.lt); (try replace t1 := t1.below (hbn.mono hle)); (try have hlt := rc.lt); (try replace rc := rc.below (hbn.mono hle)); have r1 := ht; clear ht; simp only [putS]) | fail)
  go_ret
  exact ⟨rfl, B⟩
 ·have d1 : decide (1024 < (ls.length : Int)) = false := decide_eq_false (by omega)
  go_enter Tryz.func76, Tryz.ntmps76
  go_wp2_with (first | (refine wpList_loadAny (t := 32) rfl _ rfl _ _ _ rfl (run_load_sl r1.cell0) (by rfl) ?_; simp only [putS]) | (refine wpList_boxB (t := 34) rfl _ rfl _ rfl ?_; intro b_r1 wn hle hge ht hbn hzn; have hsz := B.size; replace B := B.trans (hbn.mono (by omega)); have hln := Nat.lt_of_lt_of_eq (Nat.lt_succ_self _) hzn.symm; clear hzn; (try have hlt := r1.lt); (try replace r1 := r1.below (hbn.mono hle)); (try have hlt := t1.lt); (try replace t1 := t1.below (hbn.mono hle)); (try have hlt := rc.lt); (try replace rc := rc.below (hbn.mono hle)); have r1 := ht; clear ht; simp only [putS]) | fail)
  clear d1
  have hr1 := r1.lt
  go_loopw [3, 4, 5, 6] (fun i _ _ _ wr => ∃ k : Nat, k ≤ ls.length ∧ i = .int .i64 k ∧ Below w.heap.size w wr ∧ wn.heap.size ≤ wr.heap.size ∧ AtB 34 wr b_r1 #[.slice a ls.length c] ∧ ∀ j, j < k → stepA ls j = true) (fun i _ _ _ _ => (ls.length - intOf i).toNat)
  case atStart => exact ⟨0, by omega, rfl, B, Nat.le_refl _, r1, fun j hj => by omega⟩
  case round =>
   clear B r1
   obtain ⟨k, hk, rfl, B, hwn, r1, hst⟩ := hrel
   have Hst := Lib.hid hst
   clear hst
   by_cases hkl : k < ls.length
   ·obtain ⟨g, o, rfl, rc0⟩ := HS.out.at (by omega)
    have hg0 := rc0.lt
    have rc := rc0.of_eq (B.block _ rc0.lt)
    clear rc0
    obtain ⟨⟨x, y, t⟩, he⟩ : ∃ e, aT ls k = e := ⟨_, rfl⟩
    have htk : Tok t := by have := HK.out.at hkl; rw [he] at this; exact this
    have HT := Lib.hid htk
    obtain ⟨⟨x', y', t'⟩, he'⟩ : ∃ e, aT ls (k - 1) = e := ⟨_, rfl⟩
    have hk1 : k - 1 < ls.length := by omega
    have dlt : decide ((k : Int) < (ls.length : Int)) = true := decide_eq_true (by omega)
    have hneq : ∀ w, (binOp .neq 70 (Tile.v (cleanT t)) (Tile.v t)).run Tryz.prog w = .ok (.bool (!eqT (cleanT t) t)) w := fun w => neq_tile _ _ w
    cases h1 : withinB x y with
    | false =>
     have E := Lib.hid (step_within he h1)
     go_wp2_with (first | (go_at_call 118; refine (R_Zero _ _).mono ?_; rintro e wn ⟨rfl, hbn⟩; have hsz := B.size; have hzn := hbn.size; replace B := B.trans (hbn.mono B.size); (try replace r1 := r1.below hbn); (try replace t1 := t1.below hbn); (try replace rc := rc.below hbn)) | (refine wpList_loadAny (t := 70) rfl _ rfl _ _ _ rfl (ta_tile t1) (by first | rfl | omega) ?_; simp only [putS]) | (refine wpList_storeB (t := 72) rfl _ _ rfl _ rfl _ rfl t1 (by rw [size_taC]; kernel_rfl) (by simp only [size_taC, size_zTA]) (taC_all _) ?_; clear t1; intro wn ht hcn hzn; have hsz := B.size; replace hzn := Nat.le_of_eq hzn.symm; replace B := Chg.below B hcn (by omega) B.size; (try replace r1 := r1.of_eq (hcn.block _ r1.lt (by omega))); (try replace rc := rc.of_eq (hcn.block _ rc.lt (by omega))); have t1 := ht; clear ht; simp only [putS]) | (refine wpList_allocBk (t := 72) rfl _ (run_alloc_TA _ _ rfl) ?_; intro b_t1 wn hle hge ht hbn hzn; have hsz := B.size; replace B := B.trans (hbn.mono (by omega)); have hln := Nat.lt_of_lt_of_eq (Nat.lt_succ_self _) hzn.symm; clear hzn; (try have hlt := r1.lt); (try replace r1 := r1.below (hbn.mono hle)); (try have hlt := t1.lt); (try replace t1 := t1.below (hbn.mono hle)); (try have hlt := rc.lt); (try replace rc := rc.below (hbn.mono hle)); have t1 := ht; clear ht; simp only [putS]) | (refine wpList_loadAny (t := 72) rfl _ rfl _ _ _ rfl (rc_ta rc hkl he) (by first | rfl | omega) ?_; simp only [putS]) | (refine wpList_loadAny (t := 32) rfl _ rfl _ _ _ rfl (run_load_sl r1.cell0) (by rfl) ?_; simp only [putS]) | fail)
     refine wp_region_ov (by kernel_rfl) (by kernel_rfl) ?_
     repeat (first | go_big_quiet_skip | (go_big_quiet_want; first | (refine quiet_loadAny (t := 70) rfl _ _ _ rfl (fun w hw => ta_tile (ov_B t1 w hw)) (by first | rfl | omega) ?_; simp only [putS]; go_big_quiet_on) | (go_big_quiet_op; first | go_big_quiet_on | go_big_quiet_call ((first | (go_at_call 120; exact calls_ov (R_Clean_t _ _ htk)) | (go_at_call 119; exact calls_ov (R_Same _ _ _)))))))
     refine wpQuiet_nil ?_
     intro wn hbn
     have hsz := B.size
     have hzn := hbn.size
     replace B := B.trans (hbn.mono B.size)
     try replace r1 := r1.below hbn
     try replace t1 := t1.below hbn
     try replace rc := rc.below hbn
     go_wp2
     refine wp_region_ov (by kernel_rfl) (by kernel_rfl) ?_
     repeat (first | go_big_quiet_skip | (go_big_quiet_want; first | (refine quiet_loadAny (t := 68) rfl _ _ _ rfl (fun w hw => ta_pos (ov_B t1 w hw)) (by first | rfl | omega) ?_; simp only [putS]; go_big_quiet_on) | (refine quiet_loadAny (t := 32) rfl _ _ _ rfl (fun w hw => run_load_sl (ov_B r1 w hw).cell0) (by rfl) ?_; simp only [putS]; go_big_quiet_on) | (refine quiet_loadAny (t := 68) rfl _ _ _ rfl (fun w hw => rc_pos (ov_rc rc w hw) hk1 he') (by first | rfl | omega) ?_; simp only [putS]; go_big_quiet_on) | (go_big_quiet_op; first | go_big_quiet_on | go_big_quiet_call ((first | (go_at_call 111; exact calls_ov (R_within _ _ _)) | (go_at_call 121; exact calls_ov (R_less _ _ _ _ _)))))))
     refine wpQuiet_nil ?_
     intro wn hbn
     have hsz := B.size
     have hzn := hbn.size
     replace B := B.trans (hbn.mono B.size)
     try replace r1 := r1.below hbn
     try replace t1 := t1.below hbn
     try replace rc := rc.below hbn
     go_wp2
     go_ret
     exact ⟨by rw [validL_no hkl E.out]; try rfl, B⟩
    | true =>
     cases h2 : zeroB t with
     | true =>
      have E := Lib.hid (step_zero he h2)
      go_wp2_with (first | (go_at_call 118; refine (R_Zero _ _).mono ?_; rintro e wn ⟨rfl, hbn⟩; have hsz := B.size; have hzn := hbn.size; replace B := B.trans (hbn.mono B.size); (try replace r1 := r1.below hbn); (try replace t1 := t1.below hbn); (try replace rc := rc.below hbn)) | (refine wpList_loadAny (t := 70) rfl _ rfl _ _ _ rfl (ta_tile t1) (by first | rfl | omega) ?_; simp only [putS]) | (refine wpList_storeB (t := 72) rfl _ _ rfl _ rfl _ rfl t1 (by rw [size_taC]; kernel_rfl) (by simp only [size_taC, size_zTA]) (taC_all _) ?_; clear t1; intro wn ht hcn hzn; have hsz := B.size; replace hzn := Nat.le_of_eq hzn.symm; replace B := Chg.below B hcn (by omega) B.size; (try replace r1 := r1.of_eq (hcn.block _ r1.lt (by omega))); (try replace rc := rc.of_eq (hcn.block _ rc.lt (by omega))); have t1 := ht; clear ht; simp only [putS]) | (refine wpList_allocBk (t := 72) rfl _ (run_alloc_TA _ _ rfl) ?_; intro b_t1 wn hle hge ht hbn hzn; have hsz := B.size; replace B := B.trans (hbn.mono (by omega)); have hln := Nat.lt_of_lt_of_eq (Nat.lt_succ_self _) hzn.symm; clear hzn; (try have hlt := r1.lt); (try replace r1 := r1.below (hbn.mono hle)); (try have hlt := t1.lt); (try replace t1 := t1.below (hbn.mono hle)); (try have hlt := rc.lt); (try replace rc := rc.below (hbn.mono hle)); have t1 := ht; clear ht; simp only [putS]) | (refine wpList_loadAny (t := 72) rfl _ rfl _ _ _ rfl (rc_ta rc hkl he) (by first | rfl | omega) ?_; simp only [putS]) | (refine wpList_loadAny (t := 32) rfl _ rfl _ _ _ rfl (run_load_sl r1.cell0) (by rfl) ?_; simp only [putS]) | fail)
      refine wp_region_ov (by kernel_rfl) (by kernel_rfl) ?_
      repeat (first | go_big_quiet_skip | (go_big_quiet_want; first | (refine quiet_loadAny (t := 70) rfl _ _ _ rfl (fun w hw => ta_tile (ov_B t1 w hw)) (by first | rfl | omega) ?_; simp only [putS]; go_big_quiet_on) | (go_big_quiet_op; first | go_big_quiet_on | go_big_quiet_call ((first | (go_at_call 120; exact calls_ov (R_Clean_t _ _ htk)) | (go_at_call 119; exact calls_ov (R_Same _ _ _)))))))
      refine wpQuiet_nil ?_
      intro wn hbn
      have hsz := B.size
      have hzn := hbn.size
      replace B := B.trans (hbn.mono B.size)
      try replace r1 := r1.below hbn
      try replace t1 := t1.below hbn
      try replace rc := rc.below hbn
      go_wp2
      refine wp_region_ov (by kernel_rfl) (by kernel_rfl) ?_
      repeat (first | go_big_quiet_skip | (go_big_quiet_want; first | (refine quiet_loadAny (t := 68) rfl _ _ _ rfl (fun w hw => ta_pos (ov_B t1 w hw)) (by first | rfl | omega) ?_; simp only [putS]; go_big_quiet_on) | (refine quiet_loadAny (t := 32) rfl _ _ _ rfl (fun w hw => run_load_sl (ov_B r1 w hw).cell0) (by rfl) ?_; simp only [putS]; go_big_quiet_on) | (refine quiet_loadAny (t := 68) rfl _ _ _ rfl (fun w hw => rc_pos (ov_rc rc w hw) hk1 he') (by first | rfl | omega) ?_; simp only [putS]; go_big_quiet_on) | (go_big_quiet_op; first | go_big_quiet_on | go_big_quiet_call ((first | (go_at_call 111; exact calls_ov (R_within _ _ _)) | (go_at_call 121; exact calls_ov (R_less _ _ _ _ _)))))))
      refine wpQuiet_nil ?_
      intro wn hbn
      have hsz := B.size
      have hzn := hbn.size
      replace B := B.trans (hbn.mono B.size)
      try replace r1 := r1.below hbn
      try replace t1 := t1.below hbn
      try replace rc := rc.below hbn
      go_wp2
      go_ret
      exact ⟨by rw [validL_no hkl E.out]; try rfl, B⟩
     | false =>
      cases h3 : eqT (cleanT t) t with
      | false =>
       have E := Lib.hid (step_clean he h3)
       go_wp2_with (first | (go_at_call 118; refine (R_Zero _ _).mono ?_; rintro e wn ⟨rfl, hbn⟩; have hsz := B.size; have hzn := hbn.size; replace B := B.trans (hbn.mono B.size); (try replace r1 := r1.below hbn); (try replace t1 := t1.below hbn); (try replace rc := rc.below hbn)) | (refine wpList_loadAny (t := 70) rfl _ rfl _ _ _ rfl (ta_tile t1) (by first | rfl | omega) ?_; simp only [putS]) | (refine wpList_storeB (t := 72) rfl _ _ rfl _ rfl _ rfl t1 (by rw [size_taC]; kernel_rfl) (by simp only [size_taC, size_zTA]) (taC_all _) ?_; clear t1; intro wn ht hcn hzn; have hsz := B.size; replace hzn := Nat.le_of_eq hzn.symm; replace B := Chg.below B hcn (by omega) B.size; (try replace r1 := r1.of_eq (hcn.block _ r1.lt (by omega))); (try replace rc := rc.of_eq (hcn.block _ rc.lt (by omega))); have t1 := ht; clear ht; simp only [putS]) | (refine wpList_allocBk (t := 72) rfl _ (run_alloc_TA _ _ rfl) ?_; intro b_t1 wn hle hge ht hbn hzn; have hsz := B.size; replace B := B.trans (hbn.mono (by omega)); have hln := Nat.lt_of_lt_of_eq (Nat.lt_succ_self _) hzn.symm; clear hzn; (try have hlt := r1.lt); (try replace r1 := r1.below (hbn.mono hle)); (try have hlt := t1.lt); (try replace t1 := t1.below (hbn.mono hle)); (try have hlt := rc.lt); (try replace rc := rc.below (hbn.mono hle)); have t1 := ht; clear ht; simp only [putS]) | (refine wpList_loadAny (t := 72) rfl _ rfl _ _ _ rfl (rc_ta rc hkl he) (by first | rfl | omega) ?_; simp only [putS]) | (refine wpList_loadAny (t := 32) rfl _ rfl _ _ _ rfl (run_load_sl r1.cell0) (by rfl) ?_; simp only [putS]) | fail)
       refine wp_region_ov (by kernel_rfl) (by kernel_rfl) ?_
       repeat (first | go_big_quiet_skip | (go_big_quiet_want; first | (refine quiet_loadAny (t := 70) rfl _ _ _ rfl (fun w hw => ta_tile (ov_B t1 w hw)) (by first | rfl | omega) ?_; simp only [putS]; go_big_quiet_on) | (go_big_quiet_op; first | go_big_quiet_on | go_big_quiet_call ((first | (go_at_call 120; exact calls_ov (R_Clean_t _ _ htk)) | (go_at_call 119; exact calls_ov (R_Same _ _ _)))))))
       refine wpQuiet_nil ?_
       intro wn hbn
       have hsz := B.size
       have hzn := hbn.size
       replace B := B.trans (hbn.mono B.size)
       try replace r1 := r1.below hbn
       try replace t1 := t1.below hbn
       try replace rc := rc.below hbn
       go_wp2
       refine wp_region_ov (by kernel_rfl) (by kernel_rfl) ?_
       repeat (first | go_big_quiet_skip | (go_big_quiet_want; first | (refine quiet_loadAny (t := 68) rfl _ _ _ rfl (fun w hw => ta_pos (ov_B t1 w hw)) (by first | rfl | omega) ?_; simp only [putS]; go_big_quiet_on) | (refine quiet_loadAny (t := 32) rfl _ _ _ rfl (fun w hw => run_load_sl (ov_B r1 w hw).cell0) (by rfl) ?_; simp only [putS]; go_big_quiet_on) | (refine quiet_loadAny (t := 68) rfl _ _ _ rfl (fun w hw => rc_pos (ov_rc rc w hw) hk1 he') (by first | rfl | omega) ?_; simp only [putS]; go_big_quiet_on) | (go_big_quiet_op; first | go_big_quiet_on | go_big_quiet_call ((first | (go_at_call 111; exact calls_ov (R_within _ _ _)) | (go_at_call 121; exact calls_ov (R_less _ _ _ _ _)))))))
       refine wpQuiet_nil ?_
       intro wn hbn
       have hsz := B.size
       have hzn := hbn.size
       replace B := B.trans (hbn.mono B.size)
       try replace r1 := r1.below hbn
       try replace t1 := t1.below hbn
       try replace rc := rc.below hbn
       go_wp2
       go_ret
       exact ⟨by rw [validL_no hkl E.out]; try rfl, B⟩
      | true =>
       by_cases hk0 : 0 < k
       ·have E := Lib.hid (step_less hk0 he he' h1 h2 h3)
        have d3 : decide ((0 : Int) < (k : Int)) = true := decide_eq_true (by omega)
        have d4 : decide (0 < k) = true := decide_eq_true hk0
        cases h4 : lessB x' y' x y with
        | false =>
         have hO : decide (0 ≤ ordI x' y' x y) = true := by rw [ordI_ge, h4]; rfl
         go_wp2_with (first | (go_at_call 118; refine (R_Zero _ _).mono ?_; rintro e wn ⟨rfl, hbn⟩; have hsz := B.size; have hzn := hbn.size; replace B := B.trans (hbn.mono B.size); (try replace r1 := r1.below hbn); (try replace t1 := t1.below hbn); (try replace rc := rc.below hbn)) | (refine wpList_loadAny (t := 70) rfl _ rfl _ _ _ rfl (ta_tile t1) (by first | rfl | omega) ?_; simp only [putS]) | (refine wpList_storeB (t := 72) rfl _ _ rfl _ rfl _ rfl t1 (by rw [size_taC]; kernel_rfl) (by simp only [size_taC, size_zTA]) (taC_all _) ?_; clear t1; intro wn ht hcn hzn; have hsz := B.size; replace hzn := Nat.le_of_eq hzn.symm; replace B := Chg.below B hcn (by omega) B.size; (try replace r1 := r1.of_eq (hcn.block _ r1.lt (by omega))); (try replace rc := rc.of_eq (hcn.block _ rc.lt (by omega))); have t1 := ht; clear ht; simp only [putS]) | (refine wpList_allocBk (t := 72) rfl _ (run_alloc_TA _ _ rfl) ?_; intro b_t1 wn hle hge ht hbn hzn; have hsz := B.size; replace B := B.trans (hbn.mono (by omega)); have hln := Nat.lt_of_lt_of_eq (Nat.lt_succ_self _) hzn.symm; clear hzn; (try have hlt := r1.lt); (try replace r1 := r1.below (hbn.mono hle)); (try have hlt := t1.lt); (try replace t1 := t1.below (hbn.mono hle)); (try have hlt := rc.lt); (try replace rc := rc.below (hbn.mono hle)); have t1 := ht; clear ht; simp only [putS]) | (refine wpList_loadAny (t := 72) rfl _ rfl _ _ _ rfl (rc_ta rc hkl he) (by first | rfl | omega) ?_; simp only [putS]) | (refine wpList_loadAny (t := 32) rfl _ rfl _ _ _ rfl (run_load_sl r1.cell0) (by rfl) ?_; simp only [putS]) | fail)
         refine wp_region_ov (by kernel_rfl) (by kernel_rfl) ?_
         repeat (first | go_big_quiet_skip | (go_big_quiet_want; first | (refine quiet_loadAny (t := 70) rfl _ _ _ rfl (fun w hw => ta_tile (ov_B t1 w hw)) (by first | rfl | omega) ?_; simp only [putS]; go_big_quiet_on) | (go_big_quiet_op; first | go_big_quiet_on | go_big_quiet_call ((first | (go_at_call 120; exact calls_ov (R_Clean_t _ _ htk)) | (go_at_call 119; exact calls_ov (R_Same _ _ _)))))))
         refine wpQuiet_nil ?_
         intro wn hbn
         have hsz := B.size
         have hzn := hbn.size
         replace B := B.trans (hbn.mono B.size)
         try replace r1 := r1.below hbn
         try replace t1 := t1.below hbn
         try replace rc := rc.below hbn
         go_wp2
         refine wp_region_ov (by kernel_rfl) (by kernel_rfl) ?_
         repeat (first | go_big_quiet_skip | (go_big_quiet_want; first | (refine quiet_loadAny (t := 68) rfl _ _ _ rfl (fun w hw => ta_pos (ov_B t1 w hw)) (by first | rfl | omega) ?_; simp only [putS]; go_big_quiet_on) | (refine quiet_loadAny (t := 32) rfl _ _ _ rfl (fun w hw => run_load_sl (ov_B r1 w hw).cell0) (by rfl) ?_; simp only [putS]; go_big_quiet_on) | (refine quiet_loadAny (t := 68) rfl _ _ _ rfl (fun w hw => rc_pos (ov_rc rc w hw) hk1 he') (by first | rfl | omega) ?_; simp only [putS]; go_big_quiet_on) | (go_big_quiet_op; first | go_big_quiet_on | go_big_quiet_call ((first | (go_at_call 111; exact calls_ov (R_within _ _ _)) | (go_at_call 121; exact calls_ov (R_less _ _ _ _ _)))))))
         refine wpQuiet_nil ?_
         intro wn hbn
         have hsz := B.size
         have hzn := hbn.size
         replace B := B.trans (hbn.mono B.size)
         try replace r1 := r1.below hbn
         try replace t1 := t1.below hbn
         try replace rc := rc.below hbn
         go_wp2
         go_ret
         exact ⟨by rw [validL_no hkl (E.out.trans h4)]; try rfl, B⟩
        | true =>
         have hO : decide (0 ≤ ordI x' y' x y) = false := by rw [ordI_ge, h4]; rfl
         go_wp2_with (first | (go_at_call 118; refine (R_Zero _ _).mono ?_; rintro e wn ⟨rfl, hbn⟩; have hsz := B.size; have hzn := hbn.size; replace B := B.trans (hbn.mono B.size); (try replace r1 := r1.below hbn); (try replace t1 := t1.below hbn); (try replace rc := rc.below hbn)) | (refine wpList_loadAny (t := 70) rfl _ rfl _ _ _ rfl (ta_tile t1) (by first | rfl | omega) ?_; simp only [putS]) | (refine wpList_storeB (t := 72) rfl _ _ rfl _ rfl _ rfl t1 (by rw [size_taC]; kernel_rfl) (by simp only [size_taC, size_zTA]) (taC_all _) ?_; clear t1; intro wn ht hcn hzn; have hsz := B.size; replace hzn := Nat.le_of_eq hzn.symm; replace B := Chg.below B hcn (by omega) B.size; (try replace r1 := r1.of_eq (hcn.block _ r1.lt (by omega))); (try replace rc := rc.of_eq (hcn.block _ rc.lt (by omega))); have t1 := ht; clear ht; simp only [putS]) | (refine wpList_allocBk (t := 72) rfl _ (run_alloc_TA _ _ rfl) ?_; intro b_t1 wn hle hge ht hbn hzn; have hsz := B.size; replace B := B.trans (hbn.mono (by omega)); have hln := Nat.lt_of_lt_of_eq (Nat.lt_succ_self _) hzn.symm; clear hzn; (try have hlt := r1.lt); (try replace r1 := r1.below (hbn.mono hle)); (try have hlt := t1.lt); (try replace t1 := t1.below (hbn.mono hle)); (try have hlt := rc.lt); (try replace rc := rc.below (hbn.mono hle)); have t1 := ht; clear ht; simp only [putS]) | (refine wpList_loadAny (t := 72) rfl _ rfl _ _ _ rfl (rc_ta rc hkl he) (by first | rfl | omega) ?_; simp only [putS]) | (refine wpList_loadAny (t := 32) rfl _ rfl _ _ _ rfl (run_load_sl r1.cell0) (by rfl) ?_; simp only [putS]) | fail)
         refine wp_region_ov (by kernel_rfl) (by kernel_rfl) ?_
         repeat (first | go_big_quiet_skip | (go_big_quiet_want; first | (refine quiet_loadAny (t := 70) rfl _ _ _ rfl (fun w hw => ta_tile (ov_B t1 w hw)) (by first | rfl | omega) ?_; simp only [putS]; go_big_quiet_on) | (go_big_quiet_op; first | go_big_quiet_on | go_big_quiet_call ((first | (go_at_call 120; exact calls_ov (R_Clean_t _ _ htk)) | (go_at_call 119; exact calls_ov (R_Same _ _ _)))))))
         refine wpQuiet_nil ?_
         intro wn hbn
         have hsz := B.size
         have hzn := hbn.size
         replace B := B.trans (hbn.mono B.size)
         try replace r1 := r1.below hbn
         try replace t1 := t1.below hbn
         try replace rc := rc.below hbn
         go_wp2
         refine wp_region_ov (by kernel_rfl) (by kernel_rfl) ?_
         repeat (first | go_big_quiet_skip | (go_big_quiet_want; first | (refine quiet_loadAny (t := 68) rfl _ _ _ rfl (fun w hw => ta_pos (ov_B t1 w hw)) (by first | rfl | omega) ?_; simp only [putS]; go_big_quiet_on) | (refine quiet_loadAny (t := 32) rfl _ _ _ rfl (fun w hw => run_load_sl (ov_B r1 w hw).cell0) (by rfl) ?_; simp only [putS]; go_big_quiet_on) | (refine quiet_loadAny (t := 68) rfl _ _ _ rfl (fun w hw => rc_pos (ov_rc rc w hw) hk1 he') (by first | rfl | omega) ?_; simp only [putS]; go_big_quiet_on) | (go_big_quiet_op; first | go_big_quiet_on | go_big_quiet_call ((first | (go_at_call 111; exact calls_ov (R_within _ _ _)) | (go_at_call 121; exact calls_ov (R_less _ _ _ _ _)))))))
         refine wpQuiet_nil ?_
         intro wn hbn
         have hsz := B.size
         have hzn := hbn.size
         replace B := B.trans (hbn.mono B.size)
         try replace r1 := r1.below hbn
         try replace t1 := t1.below hbn
         try replace rc := rc.below hbn
         go_wp2
         go_roundw
         case rel => exact ⟨k + 1, by omega, by go_num, B, by omega, r1, fun j hj => by
          by_cases e : j = k
          ·rw [e, E.out, h4]
          ·exact Hst.out j (by omega)⟩
         case measure => simp [intOf]; omega
       ·obtain rfl : k = 0 := by omega
        have E := Lib.hid (step_first he h1 h2 h3)
        go_wp2_with (first | (go_at_call 118; refine (R_Zero _ _).mono ?_; rintro e wn ⟨rfl, hbn⟩; have hsz := B.size; have hzn := hbn.size; replace B := B.trans (hbn.mono B.size); (try replace r1 := r1.below hbn); (try replace t1 := t1.below hbn); (try replace rc := rc.below hbn)) | (refine wpList_loadAny (t := 70) rfl _ rfl _ _ _ rfl (ta_tile t1) (by first | rfl | omega) ?_; simp only [putS]) | (refine wpList_storeB (t := 72) rfl _ _ rfl _ rfl _ rfl t1 (by rw [size_taC]; kernel_rfl) (by simp only [size_taC, size_zTA]) (taC_all _) ?_; clear t1; intro wn ht hcn hzn; have hsz := B.size; replace hzn := Nat.le_of_eq hzn.symm; replace B := Chg.below B hcn (by omega) B.size; (try replace r1 := r1.of_eq (hcn.block _ r1.lt (by omega))); (try replace rc := rc.of_eq (hcn.block _ rc.lt (by omega))); have t1 := ht; clear ht; simp only [putS]) | (refine wpList_allocBk (t := 72) rfl _ (run_alloc_TA _ _ rfl) ?_; intro b_t1 wn hle hge ht hbn hzn; have hsz := B.size; replace B := B.trans (hbn.mono (by omega)); have hln := Nat.lt_of_lt_of_eq (Nat.lt_succ_self _) hzn.symm; clear hzn; (try have hlt := r1.lt); (try replace r1 := r1.below (hbn.mono hle)); (try have hlt := t1.lt); (try replace t1 := t1.below (hbn.mono hle)); (try have hlt := rc.lt); (try replace rc := rc.below (hbn.mono hle)); have t1 := ht; clear ht; simp only [putS]) | (refine wpList_loadAny (t := 72) rfl _ rfl _ _ _ rfl (rc_ta rc hkl he) (by first | rfl | omega) ?_; simp only [putS]) | (refine wpList_loadAny (t := 32) rfl _ rfl _ _ _ rfl (run_load_sl r1.cell0) (by rfl) ?_; simp only [putS]) | fail)
        refine wp_region_ov (by kernel_rfl) (by kernel_rfl) ?_
        repeat (first | go_big_quiet_skip | (go_big_quiet_want; first | (refine quiet_loadAny (t := 70) rfl _ _ _ rfl (fun w hw => ta_tile (ov_B t1 w hw)) (by first | rfl | omega) ?_; simp only [putS]; go_big_quiet_on) | (go_big_quiet_op; first | go_big_quiet_on | go_big_quiet_call ((first | (go_at_call 120; exact calls_ov (R_Clean_t _ _ htk)) | (go_at_call 119; exact calls_ov (R_Same _ _ _)))))))
        refine wpQuiet_nil ?_
        intro wn hbn
        have hsz := B.size
        have hzn := hbn.size
        replace B := B.trans (hbn.mono B.size)
        try replace r1 := r1.below hbn
        try replace t1 := t1.below hbn
        try replace rc := rc.below hbn
        go_wp2
        refine wp_region_ov (by kernel_rfl) (by kernel_rfl) ?_
        repeat (first | go_big_quiet_skip | (go_big_quiet_want; first | (refine quiet_loadAny (t := 68) rfl _ _ _ rfl (fun w hw => ta_pos (ov_B t1 w hw)) (by first | rfl | omega) ?_; simp only [putS]; go_big_quiet_on) | (refine quiet_loadAny (t := 32) rfl _ _ _ rfl (fun w hw => run_load_sl (ov_B r1 w hw).cell0) (by rfl) ?_; simp only [putS]; go_big_quiet_on) | (refine quiet_loadAny (t := 68) rfl _ _ _ rfl (fun w hw => rc_pos (ov_rc rc w hw) hk1 he') (by first | rfl | omega) ?_; simp only [putS]; go_big_quiet_on) | (go_big_quiet_op; first | go_big_quiet_on | go_big_quiet_call ((first | (go_at_call 111; exact calls_ov (R_within _ _ _)) | (go_at_call 121; exact calls_ov (R_less _ _ _ _ _)))))))
        refine wpQuiet_nil ?_
        intro wn hbn
        have hsz := B.size
        have hzn := hbn.size
        replace B := B.trans (hbn.mono B.size)
        try replace r1 := r1.below hbn
        go_wp2
        go_roundw
        case rel => exact ⟨1, by omega, by go_num, B, by omega, r1, fun j hj => by
         obtain rfl : j = 0 := by omega
         exact E.out⟩
        case measure => simp [intOf]; omega
   ·have dlt : decide ((k : Int) < (ls.length : Int)) = false := decide_eq_false (by omega)
    have e1 := Lib.hid (validL_yes (by omega) (fun j hj => Hst.out j (by omega)))
    go_wp2_with (first | (refine wpList_loadAny (t := 32) rfl _ rfl _ _ _ rfl (run_load_sl r1.cell0) (by rfl) ?_; simp only [putS]) | fail)
    go_ret
    exact ⟨by rw [e1.out]; try rfl, B⟩
/- Boxing and making, with a name for the new block. -/
section
variable {ops : Array Oper} {rest : List Oper} {o : Oper} {a : Act} {w : World} {Q : Exit → Act → World → Prop}
theorem wpList_boxT' (hg : o.guard = none) (x : Operand) (ho : o.op = .box 70 x) (f : Nat → Px) (hx : a.eval x = Tile.v f)
  (h : ∀ b w', w.heap.size ≤ b → b ≤ w.heap.size → TileAt w' b f → Below b w w' → w'.heap.size = b + 1 → wpList Tryz.prog ops Q rest (a.put o.dst (.pointer (some ⟨b, 0, none⟩))) w') : wpList Tryz.prog ops Q (o :: rest) a w :=
 wpList_boxT hg x ho f hx fun w' h1 h2 h3 => h _ w' (Nat.le_refl _) (Nat.le_refl _) h1 h2 h3
theorem wpList_boxPx' (hg : o.guard = none) (x : Operand) (ho : o.op = .box 25 x) (p : Px) (hx : a.eval x = Px.v p)
  (h : ∀ b w', w.heap.size ≤ b → b ≤ w.heap.size → PixAt w' b p → Below b w w' → w'.heap.size = b + 1 → wpList Tryz.prog ops Q rest (a.put o.dst (.pointer (some ⟨b, 0, none⟩))) w') : wpList Tryz.prog ops Q (o :: rest) a w :=
 wpList_boxPx hg x ho p hx fun w' h1 h2 h3 => h _ w' (Nat.le_refl _) (Nat.le_refl _) h1 h2 h3
theorem wpList_allocT' (hg : o.guard = none) (ho : o.op = .alloc 70)
  (h : ∀ b w', w.heap.size ≤ b → b ≤ w.heap.size → TileAt w' b (fun _ => Px.zero) → Below b w w' → w'.heap.size = b + 1 → wpList Tryz.prog ops Q rest (a.put o.dst (.pointer (some ⟨b, 0, none⟩))) w') : wpList Tryz.prog ops Q (o :: rest) a w :=
 wpList_allocT hg ho fun w' h1 h2 h3 => h _ w' (Nat.le_refl _) (Nat.le_refl _) h1 h2 h3
theorem wpList_allocPx' (hg : o.guard = none) (ho : o.op = .alloc 25)
  (h : ∀ b w', w.heap.size ≤ b → b ≤ w.heap.size → PixAt w' b Px.zero → Below b w w' → w'.heap.size = b + 1 → wpList Tryz.prog ops Q rest (a.put o.dst (.pointer (some ⟨b, 0, none⟩))) w') : wpList Tryz.prog ops Q (o :: rest) a w :=
 wpList_allocPx hg ho fun w' h1 h2 h3 => h _ w' (Nat.le_refl _) (Nat.le_refl _) h1 h2 h3
end
end Go.Proofs.YtamgpfblhlfhaaaGreat
/- Contracts of Tile and Get of package raster and of its reference; '&' with a mask; '==' of positions. -/
namespace Go.Proofs.YtamgpfblhlfhaaaGreat
open Go.RowKit Go.Shelf Pl
set_option linter.unusedVariables false
set_option linter.unusedSimpArgs false
set_option maxRecDepth 20000
/-- '&' with 2^n - 1. -/
theorem bits_mask (x : Int) (n : Nat) (m : Nat) (hm : m = 2 ^ n - 1) (hn : n ≤ 32) : bits .and .i64 x (m : Int) = x % (((m + 1 : Nat)) : Int) := by
 have e : bits .and .i64 x (m : Int) = IntKind.i64.wrap ((BitVec.ofInt 64 x &&& BitVec.ofInt 64 (m : Int)).toNat : Int) := rfl
 have h1 : (2 : Nat) ^ n ≤ 2 ^ 32 := Nat.pow_le_pow_right (by omega) hn
 have h0 : 1 ≤ (2 : Nat) ^ n := Nat.one_le_two_pow
 have hm1 : m + 1 = 2 ^ n := by omega
 have hml : m < 2 ^ 32 := by omega
 have e2 : (BitVec.ofInt 64 (m : Int)).toNat = m := by
  rw [BitVec.toNat_ofInt]
  have h3 : (2 : Nat) ^ 32 = 4294967296 := rfl
  have h4 : ((2 : Nat) ^ 64 : Nat) = 18446744073709551616 := rfl
  rw [h4]
  omega
 have e3 : (BitVec.ofInt 64 x &&& BitVec.ofInt 64 (m : Int)).toNat = (BitVec.ofInt 64 x).toNat % 2 ^ n := by
  rw [BitVec.toNat_and, e2, hm, Nat.and_two_pow_sub_one_eq_mod]
 have e4 : (((BitVec.ofInt 64 x).toNat % 2 ^ n : Nat) : Int) = x % ((2 ^ n : Nat) : Int) := by
  rw [BitVec.toNat_ofInt]
  have hd : ((2 ^ n : Nat) : Int) ∣ ((2 ^ 64 : Nat) : Int) := by
   refine Int.natCast_dvd_natCast.2 ?_
   exact Nat.pow_dvd_pow 2 (by omega)
  have hpos : (0 : Int) < ((2 ^ 64 : Nat) : Int) := by
   have : (0 : Nat) < 2 ^ 64 := by decide
   omega
  have hnn : 0 ≤ x % ((2 ^ 64 : Nat) : Int) := Int.emod_nonneg _ (by omega)
  rw [Int.natCast_emod, Int.toNat_of_nonneg hnn, Int.emod_emod_of_dvd _ hd]
 have hkl : (BitVec.ofInt 64 x).toNat % 2 ^ n < 2 ^ n := Nat.mod_lt _ (by omega)
 rw [e, e3, IntKind.wrap_i64, hm1, ← e4]
 have h3 : (2 : Nat) ^ 32 = 4294967296 := rfl
 rw [h3] at h1
 generalize (BitVec.ofInt 64 x).toNat % 2 ^ n = z at hkl ⊢
 generalize (2 : Nat) ^ n = y at *
 omega
theorem bits_and7 (x : Int) : bits .and .i64 x 7 = x % 8 := bits_mask x 3 7 rfl (by decide)
/-! ### '==' of positions -/
theorem equalIn_pos (d : Nat) (x y x' y' : Int) (w : World) : (Op.equalIn (d + 2) 68 (Ps.v x y) (Ps.v x' y')).run Tryz.prog w = .ok (eqB x y x' y') w := by
 have h : (Op.equalIn (d + 2) 68 (Ps.v x y) (Ps.v x' y')).run Tryz.prog w = .ok (x == x' && y == y') w := by
  simp only [Ps.v]
  by_cases h1 : x = x' <;> by_cases h2 : y = y' <;> simp [go_sem, h1, h2]
 rw [h]
 congr 1
 unfold eqB
 rw [Bool.eq_iff_iff]
 simp
theorem eql_pos (x y x' y' : Int) (w : World) : (binOp .eql 68 (Ps.v x y) (Ps.v x' y')).run Tryz.prog w = .ok (.bool (eqB x y x' y')) w := by
 have h := run_eql_struct (P := Tryz.prog) w 68 #[.int .i64 x, .int .i64 y] #[.int .i64 x', .int .i64 y']
 have e := equalIn_pos 9998 x y x' y' w
 unfold Ps.v at e ⊢
 rw [h, e]; rfl
theorem neq_pos (x y x' y' : Int) (w : World) : (binOp .neq 68 (Ps.v x y) (Ps.v x' y')).run Tryz.prog w = .ok (.bool (!eqB x y x' y')) w := by
 have h := run_neq_struct (P := Tryz.prog) w 68 #[.int .i64 x, .int .i64 y] #[.int .i64 x', .int .i64 y']
 have e := equalIn_pos 9998 x y x' y' w
 unfold Ps.v at e ⊢
 rw [h, e]; rfl
@[go_sem] theorem guard_pos (op : BinOp) (p q : Operand) (x y x' y' : Int) (w : World) : (eqGuard op 68 p q (Ps.v x y) (Ps.v x' y')).run Tryz.prog w = .ok () w := run_eqGuard_agg w op 68 p q _ _ (by kernel_rfl)
@[go_sem] theorem guard_pos1 (op : BinOp) (p q : Operand) (x y : Int) (cs : Array Value) (w : World) : (eqGuard op 68 p q (Ps.v x y) (.agg cs)).run Tryz.prog w = .ok () w := run_eqGuard_agg w op 68 p q _ _ (by kernel_rfl)
theorem ov_rs {v : Value} {ls : List TA} {w : World} (h : RS v ls w) : ∀ w', (∃ u, w' = ov w u) → RS v ls w' := by
 rintro w' ⟨u, rfl⟩
 exact h.below (ov_below w u)
/-! ### Tile -/
theorem P_Tile1 (e : TA) (x y : Int) (b : Nat) (w : World) (p1 : AtB 68 w b #[.int .i64 x, .int .i64 y]) : Calls Tryz.prog 86 #[.agg (taC e), .pointer (some ⟨b, 0, none⟩)] w fun e' w' => e' = .returned (.bool (eqB e.x e.y x y)) ∧ Below w.heap.size w w' := by
 have B := Below.refl w.heap.size w
 have hb0 := p1.lt
 have heq : ∀ w, (binOp .eql 68 (Ps.v e.x e.y) (.agg #[.int .i64 x, .int .i64 y])).run Tryz.prog w = .ok (.bool (eqB e.x e.y x y)) w := fun w => eql_pos _ _ _ _ w
 go_enter Tryz.func86, Tryz.ntmps86
 go_wp2_with (first | (refine wpList_loadAny (t := 68) rfl _ rfl _ _ _ rfl (ta_pos t1) (by first | rfl | omega) ?_; simp only [putS]) | (refine wpList_loadAny (t := 68) rfl _ rfl _ _ _ rfl (run_load_B p1 Tryz.isAgg68 (by kernel_rfl)) (by rfl) ?_; simp only [putS]) | (refine wpList_boxB (t := 72) rfl _ rfl _ rfl ?_; intro b_t1 wn hle hge ht hbn hzn; have hsz := B.size; replace B := B.trans (hbn.mono (by omega)); have hln := Nat.lt_of_lt_of_eq (Nat.lt_succ_self _) hzn.symm; clear hzn; (try have hlt := t1.lt); (try replace t1 := t1.below (hbn.mono hle)); (try have hlt := p1.lt); (try replace p1 := p1.below (hbn.mono hle)); have t1 := ht; clear ht; simp only [putS]) | fail)
 go_ret
 exact ⟨rfl, B⟩
set_option maxHeartbeats 1000000 in
theorem P_IndexFunc (v : Value) (ls : List TA) (x y : Int) (b : Nat) (w : World) (h : RS v ls w) (hn : ls.length ≤ maxLen) (p1 : AtB 68 w b #[.int .i64 x, .int .i64 y]) : Calls Tryz.prog 85 #[v, .func (.func 86) #[] #[.pointer (some ⟨b, 0, none⟩)]] w fun e w' => e = .returned (.int .i64 (if idxL ls x y < ls.length then (idxL ls x y : Int) else -1)) ∧ Below w.heap.size w w' := by
 unfold maxLen at hn
 obtain ⟨a, c, rfl, hc⟩ := h.len
 have B := Below.refl w.heap.size w
 have HS := Lib.hid h
 have P1 := Lib.hid p1
 have hle := idxL_le ls x y
 have eg := enters_of Tryz.func86 (by kernel_rfl) rfl
 clear h p1
 go_enter Tryz.func85, Tryz.ntmps85
 go_wp2
 go_loopw [5, 8] (fun _ i wr => ∃ k : Nat, k ≤ idxL ls x y ∧ i = .int .i64 k ∧ Below w.heap.size w wr) (fun _ i _ => (ls.length - intOf i).toNat)
 case atStart => exact ⟨0, by omega, rfl, B⟩
 case round =>
  clear B
  obtain ⟨k, hk, rfl, B⟩ := hrel
  have p1 := P1.out.of_eq (B.block _ P1.out.lt)
  by_cases hkl : k < ls.length
  ·obtain ⟨g, o, rfl, rc0⟩ := HS.out.at (by omega)
   have rc := rc0.of_eq (B.block _ rc0.lt)
   clear rc0
   obtain ⟨e, he⟩ : ∃ e, aT ls k = e := ⟨_, rfl⟩
   by_cases hki : k < idxL ls x y
   ·have hq : eqB e.x e.y x y = false := by have := idxL_lt hki; rw [he] at this; exact this
    go_wp2_with (first | (go_at_call 86; refine (P_Tile1 e x y b _ p1).mono ?_; rintro e' wn ⟨rfl, hbn⟩; replace B := B.trans (hbn.mono B.size)) | (refine wpList_loadAny (t := 72) rfl _ rfl _ _ _ rfl (rc_ta rc hkl he) (by first | rfl | omega) ?_; simp only [putS]) | fail)
    go_roundw
    case rel => exact ⟨k + 1, by omega, by go_num, B⟩
    case measure => simp [intOf]; omega
   ·obtain rfl : k = idxL ls x y := by omega
    have hq : eqB e.x e.y x y = true := by have := idxL_at hkl; rw [he] at this; exact this
    have H := Lib.hid hkl
    go_wp2_with (first | (go_at_call 86; refine (P_Tile1 e x y b _ p1).mono ?_; rintro e' wn ⟨rfl, hbn⟩; replace B := B.trans (hbn.mono B.size)) | (refine wpList_loadAny (t := 72) rfl _ rfl _ _ _ rfl (rc_ta rc hkl he) (by first | rfl | omega) ?_; simp only [putS]) | fail)
    go_ret
    exact ⟨by first | rfl | (rw [if_pos H.out]; rfl), B⟩
  ·have H := Lib.hid (show ¬ idxL ls x y < ls.length by omega)
   go_wp2
   go_ret
   exact ⟨by first | rfl | (rw [if_neg H.out]; rfl), B⟩
set_option maxHeartbeats 1000000 in
theorem P_Tile (v : Value) (ls : List TA) (x y : Int) (w : World) (h : RS v ls w) (hn : ls.length ≤ maxLen) : Calls Tryz.prog 53 #[.agg #[v], Ps.v x y] w fun e w' => e = .returned (Tile.v (tileL ls x y)) ∧ Below w.heap.size w w' := by
 obtain ⟨a, c, rfl, hc⟩ := h.len
 have hle := idxL_le ls x y
 have hml : (9223372036854775807 : Int) ≥ maxLen := by unfold maxLen; omega
 have B := Below.refl w.heap.size w
 have HS := Lib.hid h
 clear h
 simp only [Ps.v]
 by_cases hi : idxL ls x y < ls.length
 ·rw [tileL_idx, if_pos hi]
  obtain ⟨g, o, rfl, rc⟩ := HS.out.at (by omega)
  have hg0 := rc.lt
  obtain ⟨e, he⟩ : ∃ e, aT ls (idxL ls x y) = e := ⟨_, rfl⟩
  rw [he]
  have hif : (if idxL ls x y < ls.length then (idxL ls x y : Int) else -1) = (idxL ls x y : Int) := if_pos hi
  go_enter Tryz.func53, Tryz.ntmps53
  go_wp2_with (first | (refine wpList_storeT rfl _ _ rfl _ rfl _ rfl u1 ?_; clear u1; intro wn ht hcn hzn; have hsz := B.size; replace hzn := Nat.le_of_eq hzn.symm; replace B := Chg.below B hcn (by omega) B.size; (try replace r1 := r1.of_eq (hcn.block _ r1.lt (by omega))); (try replace p1 := p1.of_eq (hcn.block _ p1.lt (by omega))); (try replace rc := rc.of_eq (hcn.block _ rc.lt (by omega))); have u1 := ht; clear ht; simp only [putS]) | (refine wpList_loadAny (t := 70) rfl _ rfl _ _ _ rfl (rc_tile rc hi he) (by first | rfl | omega) ?_; simp only [putS]) | (go_at_call 85; refine (P_IndexFunc _ ls x y _ _ (HS.out.below B) hn p1).mono ?_; rintro e wn ⟨rfl, hbn⟩; have hsz := B.size; have hzn := hbn.size; replace B := B.trans (hbn.mono B.size); (try replace r1 := r1.below hbn); (try replace p1 := p1.below hbn); (try replace u1 := u1.below hbn); (try replace rc := rc.below hbn)) | (refine wpList_loadAny (t := 32) rfl _ rfl _ _ _ rfl (run_load_sl r1.cell0) (by rfl) ?_; simp only [putS]) | (have _ := p1; refine wpList_allocT' rfl rfl ?_; intro b_u1 wn hle hge ht hbn hzn; have hsz := B.size; replace B := B.trans (hbn.mono (by omega)); have hln := Nat.lt_of_lt_of_eq (Nat.lt_succ_self _) hzn.symm; clear hzn; (try have hlt := r1.lt); (try replace r1 := r1.below (hbn.mono hle)); (try have hlt := p1.lt); (try replace p1 := p1.below (hbn.mono hle)); (try have hlt := u1.lt); (try replace u1 := u1.below (hbn.mono hle)); (try have hlt := rc.lt); (try replace rc := rc.below (hbn.mono hle)); have u1 := ht; clear ht; simp only [putS]) | (have _ := r1; refine wpList_boxB (t := 68) rfl _ rfl _ rfl ?_; intro b_p1 wn hle hge ht hbn hzn; have hsz := B.size; replace B := B.trans (hbn.mono (by omega)); have hln := Nat.lt_of_lt_of_eq (Nat.lt_succ_self _) hzn.symm; clear hzn; (try have hlt := r1.lt); (try replace r1 := r1.below (hbn.mono hle)); (try have hlt := p1.lt); (try replace p1 := p1.below (hbn.mono hle)); (try have hlt := u1.lt); (try replace u1 := u1.below (hbn.mono hle)); (try have hlt := rc.lt); (try replace rc := rc.below (hbn.mono hle)); have p1 := ht; clear ht; simp only [putS]) | (refine wpList_boxB (t := 34) rfl _ rfl _ rfl ?_; intro b_r1 wn hle hge ht hbn hzn; have hsz := B.size; replace B := B.trans (hbn.mono (by omega)); have hln := Nat.lt_of_lt_of_eq (Nat.lt_succ_self _) hzn.symm; clear hzn; (try have hlt := r1.lt); (try replace r1 := r1.below (hbn.mono hle)); (try have hlt := p1.lt); (try replace p1 := p1.below (hbn.mono hle)); (try have hlt := u1.lt); (try replace u1 := u1.below (hbn.mono hle)); (try have hlt := rc.lt); (try replace rc := rc.below (hbn.mono hle)); have r1 := ht; clear ht; simp only [putS]) | fail)
  refine bodyPost_ret (results_tile rfl _ _ (b_u1) rfl u1) rfl ?_
  exact ⟨rfl, B⟩
 ·rw [tileL_idx, if_neg hi]
  have hif : (if idxL ls x y < ls.length then (idxL ls x y : Int) else -1) = -1 := if_neg hi
  go_enter Tryz.func53, Tryz.ntmps53
  go_wp2_with (first | (refine wpList_storeT rfl _ _ rfl _ rfl _ rfl u1 ?_; clear u1; intro wn ht hcn hzn; have hsz := B.size; replace hzn := Nat.le_of_eq hzn.symm; replace B := Chg.below B hcn (by omega) B.size; (try replace r1 := r1.of_eq (hcn.block _ r1.lt (by omega))); (try replace p1 := p1.of_eq (hcn.block _ p1.lt (by omega))); have u1 := ht; clear ht; simp only [putS]) | (refine wpList_buildT rfl rfl ?_; simp only [putS]) | (go_at_call 85; refine (P_IndexFunc _ ls x y _ _ (HS.out.below B) hn p1).mono ?_; rintro e wn ⟨rfl, hbn⟩; have hsz := B.size; have hzn := hbn.size; replace B := B.trans (hbn.mono B.size); (try replace r1 := r1.below hbn); (try replace p1 := p1.below hbn); (try replace u1 := u1.below hbn)) | (refine wpList_loadAny (t := 32) rfl _ rfl _ _ _ rfl (run_load_sl r1.cell0) (by rfl) ?_; simp only [putS]) | (have _ := p1; refine wpList_allocT' rfl rfl ?_; intro b_u1 wn hle hge ht hbn hzn; have hsz := B.size; replace B := B.trans (hbn.mono (by omega)); have hln := Nat.lt_of_lt_of_eq (Nat.lt_succ_self _) hzn.symm; clear hzn; (try have hlt := r1.lt); (try replace r1 := r1.below (hbn.mono hle)); (try have hlt := p1.lt); (try replace p1 := p1.below (hbn.mono hle)); (try have hlt := u1.lt); (try replace u1 := u1.below (hbn.mono hle)); (try have hlt := rc.lt); have u1 := ht; clear ht; simp only [putS]) | (have _ := r1; refine wpList_boxB (t := 68) rfl _ rfl _ rfl ?_; intro b_p1 wn hle hge ht hbn hzn; have hsz := B.size; replace B := B.trans (hbn.mono (by omega)); have hln := Nat.lt_of_lt_of_eq (Nat.lt_succ_self _) hzn.symm; clear hzn; (try have hlt := r1.lt); (try replace r1 := r1.below (hbn.mono hle)); (try have hlt := p1.lt); (try replace p1 := p1.below (hbn.mono hle)); (try have hlt := u1.lt); (try replace u1 := u1.below (hbn.mono hle)); (try have hlt := rc.lt); have p1 := ht; clear ht; simp only [putS]) | (refine wpList_boxB (t := 34) rfl _ rfl _ rfl ?_; intro b_r1 wn hle hge ht hbn hzn; have hsz := B.size; replace B := B.trans (hbn.mono (by omega)); have hln := Nat.lt_of_lt_of_eq (Nat.lt_succ_self _) hzn.symm; clear hzn; (try have hlt := r1.lt); (try replace r1 := r1.below (hbn.mono hle)); (try have hlt := p1.lt); (try replace p1 := p1.below (hbn.mono hle)); (try have hlt := u1.lt); (try replace u1 := u1.below (hbn.mono hle)); (try have hlt := rc.lt); have r1 := ht; clear ht; simp only [putS]) | fail)
  refine bodyPost_ret (results_tile rfl _ _ (b_u1) rfl u1) rfl ?_
  exact ⟨rfl, B⟩
set_option maxHeartbeats 1000000 in
theorem R_Tile (v : Value) (ls : List TA) (x y : Int) (w : World) (h : RS v ls w) (hn : ls.length ≤ maxLen) : Calls Tryz.prog 43 #[.agg #[v], Ps.v x y] w fun e w' => e = .returned (Tile.v (tileL ls x y)) ∧ Below w.heap.size w w' := by
 unfold maxLen at hn
 obtain ⟨a, c, rfl, hc⟩ := h.len
 have hle := idxL_le ls x y
 have B := Below.refl w.heap.size w
 have HS := Lib.hid h
 clear h
 simp only [Ps.v]
 go_enter Tryz.func43, Tryz.ntmps43
 go_wp2_with (first | (have _ := p1; refine wpList_allocT' rfl rfl ?_; intro b_u1 wn hle hge ht hbn hzn; have hsz := B.size; replace B := B.trans (hbn.mono (by omega)); have hln := Nat.lt_of_lt_of_eq (Nat.lt_succ_self _) hzn.symm; clear hzn; (try have hlt := r1.lt); (try replace r1 := r1.below (hbn.mono hle)); (try have hlt := p1.lt); (try replace p1 := p1.below (hbn.mono hle)); (try have hlt := u1.lt); (try replace u1 := u1.below (hbn.mono hle)); (try have hlt := rc.lt); (try replace rc := rc.below (hbn.mono hle)); have u1 := ht; clear ht; simp only [putS]) | (have _ := r1; refine wpList_boxB (t := 68) rfl _ rfl _ rfl ?_; intro b_p1 wn hle hge ht hbn hzn; have hsz := B.size; replace B := B.trans (hbn.mono (by omega)); have hln := Nat.lt_of_lt_of_eq (Nat.lt_succ_self _) hzn.symm; clear hzn; (try have hlt := r1.lt); (try replace r1 := r1.below (hbn.mono hle)); (try have hlt := p1.lt); (try replace p1 := p1.below (hbn.mono hle)); (try have hlt := u1.lt); (try replace u1 := u1.below (hbn.mono hle)); (try have hlt := rc.lt); (try replace rc := rc.below (hbn.mono hle)); have p1 := ht; clear ht; simp only [putS]) | (refine wpList_boxB (t := 34) rfl _ rfl _ rfl ?_; intro b_r1 wn hle hge ht hbn hzn; have hsz := B.size; replace B := B.trans (hbn.mono (by omega)); have hln := Nat.lt_of_lt_of_eq (Nat.lt_succ_self _) hzn.symm; clear hzn; (try have hlt := r1.lt); (try replace r1 := r1.below (hbn.mono hle)); (try have hlt := p1.lt); (try replace p1 := p1.below (hbn.mono hle)); (try have hlt := u1.lt); (try replace u1 := u1.below (hbn.mono hle)); (try have hlt := rc.lt); (try replace rc := rc.below (hbn.mono hle)); have r1 := ht; clear ht; simp only [putS]) | fail)
 have hr1 := r1.lt
 have hp1 := p1.lt
 have hu1 := u1.lt
 have q1 : w.heap.size ≤ b_r1 := by omega
 have q2 : b_r1 < b_p1 := by omega
 have q3 : b_p1 < b_u1 := by omega
 go_loopw [5] (fun i wr => ∃ k : Nat, k ≤ idxL ls x y ∧ i = .int .i64 k ∧ Below w.heap.size w wr ∧ AtB 34 wr b_r1 #[.slice a ls.length c] ∧ AtB 68 wr b_p1 #[.int .i64 x, .int .i64 y] ∧ TileAt wr b_u1 (fun _ => Px.zero)) (fun i _ => (ls.length - intOf i).toNat)
 case atStart => exact ⟨0, by omega, rfl, B, r1, p1, u1⟩
 case round =>
  clear B r1 p1 u1
  obtain ⟨k, hk, rfl, B, r1, p1, u1⟩ := hrel
  by_cases hkl : k < ls.length
  ·obtain ⟨g, o, rfl, rc0⟩ := HS.out.at (by omega)
   have hg0 := rc0.lt
   have rc := rc0.of_eq (B.block _ rc0.lt)
   clear rc0
   obtain ⟨e, he⟩ : ∃ e, aT ls k = e := ⟨_, rfl⟩
   have heq : ∀ w, (binOp .eql 68 (Ps.v e.x e.y) (.agg #[.int .i64 x, .int .i64 y])).run Tryz.prog w = .ok (.bool (eqB e.x e.y x y)) w := fun w => eql_pos _ _ _ _ w
   by_cases hki : k < idxL ls x y
   ·have hq : eqB e.x e.y x y = false := by have := idxL_lt hki; rw [he] at this; exact this
    go_wp2_with (first | (refine wpList_loadAny (t := 32) rfl _ rfl _ _ _ rfl (run_load_sl r1.cell0) (by rfl) ?_; simp only [putS]) | fail)
    refine wp_region_ov (by kernel_rfl) (by kernel_rfl) ?_
    repeat (first | go_big_quiet_skip | (go_big_quiet_want; first | (refine quiet_loadAny (t := 32) rfl _ _ _ rfl (fun w hw => run_load_sl (ov_B r1 w hw).cell0) (by rfl) ?_; simp only [putS]; go_big_quiet_on) | (refine quiet_loadAny (t := 68) rfl _ _ _ rfl (fun w hw => rc_pos (ov_rc rc w hw) hkl he) (by first | rfl | omega) ?_; simp only [putS]; go_big_quiet_on) | (refine quiet_loadAny (t := 68) rfl _ _ _ rfl (fun w hw => run_load_B (ov_B p1 w hw) Tryz.isAgg68 (by kernel_rfl)) (by rfl) ?_; simp only [putS]; go_big_quiet_on) | (go_big_quiet_op; first | go_big_quiet_on | go_big_quiet_call ((fail)))))
    refine wpQuiet_nil ?_
    intro wn hbn
    have hsz := B.size
    have hzn := hbn.size
    replace B := B.trans (hbn.mono B.size)
    try replace r1 := r1.below hbn
    try replace p1 := p1.below hbn
    try replace u1 := u1.below hbn
    try replace rc := rc.below hbn
    go_wp2
    go_roundw
    case rel => exact ⟨k + 1, by omega, by go_num, B, r1, p1, u1⟩
    case measure => simp [intOf]; omega
   ·obtain rfl : k = idxL ls x y := by omega
    have hq : eqB e.x e.y x y = true := by have := idxL_at hkl; rw [he] at this; exact this
    have H := Lib.hid (show tileL ls x y = e.t by rw [tileL_idx, if_pos hkl, he])
    go_wp2_with (first | (refine wpList_loadAny (t := 32) rfl _ rfl _ _ _ rfl (run_load_sl r1.cell0) (by rfl) ?_; simp only [putS]) | fail)
    refine wp_region_ov (by kernel_rfl) (by kernel_rfl) ?_
    repeat (first | go_big_quiet_skip | (go_big_quiet_want; first | (refine quiet_loadAny (t := 32) rfl _ _ _ rfl (fun w hw => run_load_sl (ov_B r1 w hw).cell0) (by rfl) ?_; simp only [putS]; go_big_quiet_on) | (refine quiet_loadAny (t := 68) rfl _ _ _ rfl (fun w hw => rc_pos (ov_rc rc w hw) hkl he) (by first | rfl | omega) ?_; simp only [putS]; go_big_quiet_on) | (refine quiet_loadAny (t := 68) rfl _ _ _ rfl (fun w hw => run_load_B (ov_B p1 w hw) Tryz.isAgg68 (by kernel_rfl)) (by rfl) ?_; simp only [putS]; go_big_quiet_on) | (go_big_quiet_op; first | go_big_quiet_on | go_big_quiet_call ((fail)))))
    refine wpQuiet_nil ?_
    intro wn hbn
    have hsz := B.size
    have hzn := hbn.size
    replace B := B.trans (hbn.mono B.size)
    try replace r1 := r1.below hbn
    try replace u1 := u1.below hbn
    try replace rc := rc.below hbn
    go_wp2_with (first | (refine wpList_storeT rfl _ _ rfl _ rfl _ rfl u1 ?_; clear u1; intro wn ht hcn hzn; have hsz := B.size; replace hzn := Nat.le_of_eq hzn.symm; replace B := Chg.below B hcn (by omega) B.size; (try replace r1 := r1.of_eq (hcn.block _ r1.lt (by omega))); (try replace rc := rc.of_eq (hcn.block _ rc.lt (by omega))); have u1 := ht; clear ht; simp only [putS]) | (refine wpList_loadAny (t := 70) rfl _ rfl _ _ _ rfl (rc_tile rc hkl he) (by first | rfl | omega) ?_; simp only [putS]) | (refine wpList_loadAny (t := 32) rfl _ rfl _ _ _ rfl (run_load_sl r1.cell0) (by rfl) ?_; simp only [putS]) | fail)
    refine bodyPost_ret (results_tile rfl _ _ (b_u1) rfl u1) rfl ?_
    exact ⟨by rw [H.out], B⟩
  ·have H := Lib.hid (show tileL ls x y = zT by rw [tileL_idx, if_neg (by omega)])
   go_wp2_with (first | (refine wpList_storeT rfl _ _ rfl _ rfl _ rfl u1 ?_; clear u1; intro wn ht hcn hzn; have hsz := B.size; replace hzn := Nat.le_of_eq hzn.symm; replace B := Chg.below B hcn (by omega) B.size; (try replace r1 := r1.of_eq (hcn.block _ r1.lt (by omega))); have u1 := ht; clear ht; simp only [putS]) | (refine wpList_buildT rfl rfl ?_; simp only [putS]) | (refine wpList_loadAny (t := 32) rfl _ rfl _ _ _ rfl (run_load_sl r1.cell0) (by rfl) ?_; simp only [putS]) | fail)
   refine bodyPost_ret (results_tile rfl _ _ (b_u1) rfl u1) rfl ?_
   exact ⟨by rw [H.out]; rfl, B⟩
end Go.Proofs.YtamgpfblhlfhaaaGreat
