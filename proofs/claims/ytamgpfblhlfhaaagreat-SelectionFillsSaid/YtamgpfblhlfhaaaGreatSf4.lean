import Derived.Test.YtamgpfblhlfhaaaGreatSf3
import Derived.RangeFuncFrom
import Derived.Sort.CutIn
import Derived.LoopNIn
import Derived.RangeFuncWrites

/- Plain: the positions at which two rasters differ, in order; replacing them. -/
namespace Go.Proofs.YtamgpfblhlfhaaaGreat
open Go.RowKit Pl
set_option linter.unusedVariables false
set_option linter.unusedSimpArgs false
def ltP (a b : Int × Int) : Bool := lessB a.1 a.2 b.1 b.2
def posA (e : TA) : Int × Int := (e.x, e.y)
def SrtP (l : List (Int × Int)) : Prop := l.Pairwise fun a b => ltP a b = true
theorem lessB_iff {a b c d : Int} : lessB a b c d = true ↔ (b < d ∨ (b = d ∧ a < c)) := by unfold lessB; exact decide_eq_true_iff
theorem ltP_iff {a b : Int × Int} : ltP a b = true ↔ (a.2 < b.2 ∨ (a.2 = b.2 ∧ a.1 < b.1)) := lessB_iff
theorem ltP_trans {a b c : Int × Int} (h : ltP a b = true) (k : ltP b c = true) : ltP a c = true := by
 rw [ltP_iff] at *
 omega
theorem ltP_irr (a : Int × Int) : ¬ ltP a a = true := by rw [ltP_iff]; omega
theorem ltP_tri {a b : Int × Int} (h : ¬ a = b) (k : ¬ ltP a b = true) : ltP b a = true := by
 rw [ltP_iff] at *
 have : ¬ (a.1 = b.1 ∧ a.2 = b.2) := fun e => h (Prod.ext e.1 e.2)
 omega
theorem eqT_symm {t u : Nat → Px} (h : eqT t u = true) : eqT u t = true := eqT_true fun i hi => (eqT_at h hi).symm
theorem eqT_comm (t u : Nat → Px) : eqT t u = eqT u t := by
 rw [Bool.eq_iff_iff]
 exact ⟨eqT_symm, eqT_symm⟩
theorem eqT_zero {t : Nat → Px} (h : zeroB t = false) : eqT t zT = false := by
 by_cases e : eqT t zT = true
 ·exfalso
  have : zeroB t = true := (zeroB_iff t).2 fun i hi => by rw [eqT_at e hi]; rfl
  rw [h] at this
  cases this
 ·simpa using e
/-- No tile without a visible pixel. -/
def Nz (ls : List TA) : Prop := ∀ e ∈ ls, zeroB e.t = false
theorem valid_nz {ls : List TA} (h : validL ls = true) : Nz ls := fun e he => ((goodA_iff e).1 (validL_good h e he)).2.1
def Diff (a b : List TA) (p : Int × Int) : Prop := eqT (tileL a p.1 p.2) (tileL b p.1 p.2) = false
theorem Diff.symm {a b : List TA} {p : Int × Int} (h : Diff a b p) : Diff b a p := by unfold Diff at *; rw [eqT_comm]; exact h
theorem diff_in {a b : List TA} {p : Int × Int} (h : Diff a b p) : (∃ e ∈ a, posA e = p) ∨ ∃ e ∈ b, posA e = p := by
 rcases tileL_some a p.1 p.2 with e | ⟨e, he, e1, e2, _⟩
 ·rcases tileL_some b p.1 p.2 with f | ⟨f, hf, f1, f2, _⟩
  ·unfold Diff at h
   rw [e, f, eqT_refl] at h
   cases h
  ·exact .inr ⟨f, hf, Prod.ext f1 f2⟩
 ·exact .inl ⟨e, he, Prod.ext e1 e2⟩
/-! ### Changed of package raster: two lists merged -/
def chgP : List TA → List TA → List (Int × Int)
 | [], [] => []
 | [], e :: r => posA e :: chgP [] r
 | d :: q, [] => posA d :: chgP q []
 | d :: q, e :: r => if lessB d.x d.y e.x e.y = true then posA d :: chgP q (e :: r) else if lessB e.x e.y d.x d.y = true then posA e :: chgP (d :: q) r else (if eqT d.t e.t = true then [] else [posA d]) ++ chgP q r
termination_by a b => a.length + b.length
theorem chgP_nil2 : chgP [] [] = [] := by rw [chgP]
theorem chgP_right (e : TA) (r : List TA) : chgP [] (e :: r) = posA e :: chgP [] r := by rw [chgP]
theorem chgP_left (d : TA) (q : List TA) : chgP (d :: q) [] = posA d :: chgP q [] := by rw [chgP]
theorem chgP_both (d : TA) (q : List TA) (e : TA) (r : List TA) : chgP (d :: q) (e :: r) = if lessB d.x d.y e.x e.y = true then posA d :: chgP q (e :: r) else if lessB e.x e.y d.x d.y = true then posA e :: chgP (d :: q) r else (if eqT d.t e.t = true then [] else [posA d]) ++ chgP q r := by rw [chgP]
theorem srt_cons {d : TA} {q : List TA} (h : Srt (d :: q)) : Srt q ∧ ∀ e ∈ q, ltP (posA d) (posA e) = true := by
 obtain ⟨h1, h2⟩ := List.pairwise_cons.1 h
 exact ⟨h2, h1⟩
theorem posA_ne {p : Int × Int} {e : TA} (h : ¬ posA e = p) : eqB e.x e.y p.1 p.2 = false := decide_eq_false fun k => h (Prod.ext k.1 k.2)
theorem tileL_head (d : TA) (q : List TA) : tileL (d :: q) d.x d.y = d.t := by
 show (if _ then _ else _) = _
 rw [if_pos (show eqB d.x d.y d.x d.y = true from decide_eq_true ⟨rfl, rfl⟩)]
theorem tileL_tail (d : TA) (q : List TA) {p : Int × Int} (h : ¬ posA d = p) : tileL (d :: q) p.1 p.2 = tileL q p.1 p.2 := by
 show (if _ then _ else _) = _
 rw [if_neg (by rw [posA_ne h]; decide)]
theorem tileL_lt {p : Int × Int} {q : List TA} (h : ∀ e ∈ q, ltP p (posA e) = true) : tileL q p.1 p.2 = zT :=
 tileL_none fun e he => posA_ne fun k => ltP_irr p (by have := h e he; rw [k] at this; exact this)
theorem chgP_spec : ∀ (a b : List TA), Srt a → Srt b → Nz a → Nz b → SrtP (chgP a b) ∧ ∀ p, p ∈ chgP a b ↔ Diff a b p := by
 intro a b
 induction a, b using chgP.induct with
 | case1 =>
  intro _ _ _ _
  rw [chgP_nil2]
  refine ⟨List.Pairwise.nil, fun p => ⟨fun h => (by cases h), fun h => ?_⟩⟩
  unfold Diff at h
  rw [show tileL ([] : List TA) p.1 p.2 = zT from rfl, eqT_refl] at h
  cases h
 | case2 e r ih =>
  intro ha hb na nb
  obtain ⟨hr, hlt⟩ := srt_cons hb
  obtain ⟨i1, i2⟩ := ih ha hr na (fun x hx => nb x (List.mem_cons_of_mem _ hx))
  rw [chgP_right]
  refine ⟨List.Pairwise.cons (fun p hp => ?_) i1, fun p => ?_⟩
  ·rcases diff_in ((i2 p).1 hp) with ⟨_, h, _⟩ | ⟨x, hx, rfl⟩
   ·cases h
   ·exact hlt x hx
  ·by_cases hp : posA e = p
   ·subst hp
    refine ⟨fun _ => ?_, fun _ => List.mem_cons_self ..⟩
    unfold Diff
    rw [show tileL ([] : List TA) (posA e).1 (posA e).2 = zT from rfl, show tileL (e :: r) (posA e).1 (posA e).2 = e.t from tileL_head e r, eqT_comm]
    exact eqT_zero (nb e (List.mem_cons_self ..))
   ·have : Diff [] (e :: r) p ↔ Diff [] r p := by unfold Diff; rw [tileL_tail e r hp]
    rw [this, ← i2, List.mem_cons]
    exact ⟨fun h => h.resolve_left (fun e => hp e.symm), .inr⟩
 | case3 d q ih =>
  intro ha hb na nb
  obtain ⟨hq, hlt⟩ := srt_cons ha
  obtain ⟨i1, i2⟩ := ih hq hb (fun x hx => na x (List.mem_cons_of_mem _ hx)) nb
  rw [chgP_left]
  refine ⟨List.Pairwise.cons (fun p hp => ?_) i1, fun p => ?_⟩
  ·rcases diff_in ((i2 p).1 hp) with ⟨x, hx, rfl⟩ | ⟨_, h, _⟩
   ·exact hlt x hx
   ·cases h
  ·by_cases hp : posA d = p
   ·subst hp
    refine ⟨fun _ => ?_, fun _ => List.mem_cons_self ..⟩
    unfold Diff
    rw [show tileL ([] : List TA) (posA d).1 (posA d).2 = zT from rfl, show tileL (d :: q) (posA d).1 (posA d).2 = d.t from tileL_head d q]
    exact eqT_zero (na d (List.mem_cons_self ..))
   ·have : Diff (d :: q) [] p ↔ Diff q [] p := by unfold Diff; rw [tileL_tail d q hp]
    rw [this, ← i2, List.mem_cons]
    exact ⟨fun h => h.resolve_left (fun e => hp e.symm), .inr⟩
 | case4 d q e r h ih =>
  intro ha hb na nb
  obtain ⟨hq, hlt⟩ := srt_cons ha
  obtain ⟨hr, hlr⟩ := srt_cons hb
  obtain ⟨i1, i2⟩ := ih hq hb (fun x hx => na x (List.mem_cons_of_mem _ hx)) nb
  have hde : ltP (posA d) (posA e) = true := h
  have hall : ∀ x ∈ e :: r, ltP (posA d) (posA x) = true := fun x hx => by
   rcases List.mem_cons.1 hx with rfl | hx
   ·exact hde
   ·exact ltP_trans hde (hlr x hx)
  rw [chgP_both, if_pos h]
  refine ⟨List.Pairwise.cons (fun p hp => ?_) i1, fun p => ?_⟩
  ·rcases diff_in ((i2 p).1 hp) with ⟨x, hx, rfl⟩ | ⟨x, hx, rfl⟩
   ·exact hlt x hx
   ·exact hall x hx
  ·by_cases hp : posA d = p
   ·subst hp
    refine ⟨fun _ => ?_, fun _ => List.mem_cons_self ..⟩
    unfold Diff
    rw [tileL_lt hall, show tileL (d :: q) (posA d).1 (posA d).2 = d.t from tileL_head d q]
    exact eqT_zero (na d (List.mem_cons_self ..))
   ·have : Diff (d :: q) (e :: r) p ↔ Diff q (e :: r) p := by unfold Diff; rw [tileL_tail d q hp]
    rw [this, ← i2, List.mem_cons]
    exact ⟨fun h => h.resolve_left (fun e => hp e.symm), .inr⟩
 | case5 d q e r h k ih =>
  intro ha hb na nb
  obtain ⟨hq, hlt⟩ := srt_cons ha
  obtain ⟨hr, hlr⟩ := srt_cons hb
  obtain ⟨i1, i2⟩ := ih ha hr na (fun x hx => nb x (List.mem_cons_of_mem _ hx))
  have hed : ltP (posA e) (posA d) = true := k
  have hall : ∀ x ∈ d :: q, ltP (posA e) (posA x) = true := fun x hx => by
   rcases List.mem_cons.1 hx with rfl | hx
   ·exact hed
   ·exact ltP_trans hed (hlt x hx)
  rw [chgP_both, if_neg h, if_pos k]
  refine ⟨List.Pairwise.cons (fun p hp => ?_) i1, fun p => ?_⟩
  ·rcases diff_in ((i2 p).1 hp) with ⟨x, hx, rfl⟩ | ⟨x, hx, rfl⟩
   ·exact hall x hx
   ·exact hlr x hx
  ·by_cases hp : posA e = p
   ·subst hp
    refine ⟨fun _ => ?_, fun _ => List.mem_cons_self ..⟩
    unfold Diff
    rw [tileL_lt hall, show tileL (e :: r) (posA e).1 (posA e).2 = e.t from tileL_head e r, eqT_comm]
    exact eqT_zero (nb e (List.mem_cons_self ..))
   ·have : Diff (d :: q) (e :: r) p ↔ Diff (d :: q) r p := by unfold Diff; rw [tileL_tail e r hp]
    rw [this, ← i2, List.mem_cons]
    exact ⟨fun h => h.resolve_left (fun e => hp e.symm), .inr⟩
 | case6 d q e r h k ih =>
  intro ha hb na nb
  obtain ⟨hq, hlt⟩ := srt_cons ha
  obtain ⟨hr, hlr⟩ := srt_cons hb
  obtain ⟨i1, i2⟩ := ih hq hr (fun x hx => na x (List.mem_cons_of_mem _ hx)) (fun x hx => nb x (List.mem_cons_of_mem _ hx))
  have hpe : posA d = posA e := by
   by_cases hh : posA d = posA e
   ·exact hh
   ·exact absurd (ltP_tri hh h) k
  rw [← hpe] at hlr
  have hall : ∀ p ∈ chgP q r, ltP (posA d) p = true := fun p hp => by
   rcases diff_in ((i2 p).1 hp) with ⟨x, hx, rfl⟩ | ⟨x, hx, rfl⟩
   ·exact hlt x hx
   ·exact hlr x hx
  have hno : ¬ posA d ∈ chgP q r := fun hm => ltP_irr _ (hall _ hm)
  have hev : Diff (d :: q) (e :: r) (posA d) ↔ ¬ eqT d.t e.t = true := by
   unfold Diff
   have h2 : tileL (e :: r) (posA d).1 (posA d).2 = e.t := by rw [hpe]; exact tileL_head e r
   rw [show tileL (d :: q) (posA d).1 (posA d).2 = d.t from tileL_head d q, h2]
   simp
  have hnt : ∀ p, ¬ posA d = p → (Diff (d :: q) (e :: r) p ↔ Diff q r p) := fun p hp => by
   unfold Diff
   rw [tileL_tail d q hp, tileL_tail e r (by rw [← hpe]; exact hp)]
  rw [chgP_both, if_neg h, if_neg k]
  by_cases ht : eqT d.t e.t = true
  ·rw [if_pos ht, List.nil_append]
   refine ⟨i1, fun p => ?_⟩
   by_cases hp : posA d = p
   ·subst hp
    exact ⟨fun hm => absurd hm hno, fun hm => absurd ht (hev.1 hm)⟩
   ·rw [hnt p hp, i2]
  ·rw [if_neg ht]
   refine ⟨List.Pairwise.cons hall i1, fun p => ?_⟩
   show p ∈ posA d :: chgP q r ↔ _
   by_cases hp : posA d = p
   ·subst hp
    exact ⟨fun _ => hev.2 ht, fun _ => List.mem_cons_self ..⟩
   ·rw [hnt p hp, ← i2, List.mem_cons]
    exact ⟨fun h => h.resolve_left (fun e => hp e.symm), .inr⟩
/-! ### Changed of the reference: what differs of the first, then the second's inserted -/
def insP : List (Int × Int) → Int × Int → List (Int × Int)
 | [], p => [p]
 | q :: r, p => if q = p then q :: r else if ltP p q = true then p :: q :: r else q :: insP r p
def chg1 (a b : List TA) : List (Int × Int) := (a.filter fun e => !eqT e.t (tileL b e.x e.y)).map posA
def chg2 (a : List TA) (o : List (Int × Int)) (b : List TA) : List (Int × Int) := b.foldl (fun o e => if eqT e.t (tileL a e.x e.y) = true then o else insP o (posA e)) o
def chgR (a b : List TA) : List (Int × Int) := chg2 a (chg1 a b) b
theorem eqL_cons (d : TA) (q : List TA) (e : TA) (r : List TA) : eqL (d :: q) (e :: r) = (eqA d e && eqL q r) := by
 rw [Bool.eq_iff_iff, Bool.and_eq_true_iff]
 unfold eqL
 rw [Bool.and_eq_true_iff, Bool.and_eq_true_iff, decide_eq_true_iff, decide_eq_true_iff, decide_eq_true_iff, decide_eq_true_iff]
 simp only [List.length_cons, List.mem_range, Nat.add_right_cancel_iff]
 constructor
 ·rintro ⟨h1, h2⟩
  exact ⟨h2 0 (by omega), h1, fun i hi => h2 (i + 1) (by omega)⟩
 ·rintro ⟨h1, h2, h3⟩
  refine ⟨h2, fun i hi => ?_⟩
  cases i with
  | zero => exact h1
  | succ i => exact h3 i (by omega)
theorem chgP_eqL : ∀ (a b : List TA), (chgP a b = []) ↔ eqL a b = true := by
 intro a b
 induction a, b using chgP.induct with
 | case1 => rw [chgP_nil2]; exact ⟨fun _ => eqL_refl _, fun _ => rfl⟩
 | case2 e r ih =>
  rw [chgP_right, eqL_len (by simp)]
  exact ⟨fun h => (by cases h), fun h => by cases h⟩
 | case3 d q ih =>
  rw [chgP_left, eqL_len (by simp)]
  exact ⟨fun h => (by cases h), fun h => by cases h⟩
 | case4 d q e r h ih =>
  rw [chgP_both, if_pos h, eqL_cons]
  refine ⟨fun k => (by cases k), fun k => ?_⟩
  have k := (Bool.and_eq_true_iff.1 k).1
  unfold eqA eqB at k
  have k := of_decide_eq_true (Bool.and_eq_true_iff.1 k).1
  have h := lessB_iff.1 h
  omega
 | case5 d q e r h h' ih =>
  rw [chgP_both, if_neg h, if_pos h', eqL_cons]
  refine ⟨fun k => (by cases k), fun k => ?_⟩
  have k := (Bool.and_eq_true_iff.1 k).1
  unfold eqA eqB at k
  have k := of_decide_eq_true (Bool.and_eq_true_iff.1 k).1
  have h := lessB_iff.1 h'
  omega
 | case6 d q e r h k ih =>
  rw [chgP_both, if_neg h, if_neg k, eqL_cons, Bool.and_eq_true_iff, ← ih]
  have hpe : d.x = e.x ∧ d.y = e.y := by
   rw [lessB_iff] at h k
   omega
  have hA : eqA d e = eqT d.t e.t := by
   unfold eqA eqB
   rw [decide_eq_true hpe, Bool.true_and]
  rw [hA]
  by_cases ht : eqT d.t e.t = true
  ·rw [if_pos ht, List.nil_append]
   exact ⟨fun h => ⟨ht, h⟩, fun h => h.2⟩
  ·rw [if_neg ht]
   exact ⟨fun h => (by cases h), fun h => absurd h.1 ht⟩
/-! ### The changed tiles replaced -/
def mv1 (b : List TA) (s : List TA) (p : Int × Int) : List TA := putR s p.1 p.2 (tileL b p.1 p.2)
def mvL (b : List TA) (s : List TA) (ps : List (Int × Int)) : List TA := ps.foldl (mv1 b) s
/- Plain: an image of one raster pasted into another. -/
theorem getL_okL {ls : List TA} (h : TokL ls) (x y : Int) : (getL ls x y).ok := tileL_tok h _ _ _ (by omega)
theorem tile_get (ls : List TA) (X Y : Int) {i : Nat} (hi : i < 64) : tileL ls X Y i = getL ls (X * 8 + (i : Int) % 8) (Y * 8 + (i : Int) / 8) := by
 unfold getL
 have e1 : (X * 8 + (i : Int) % 8) / 8 = X := by omega
 have e2 : (Y * 8 + (i : Int) / 8) / 8 = Y := by omega
 have e3 : (8 * ((Y * 8 + (i : Int) / 8) % 8) + (X * 8 + (i : Int) % 8) % 8).toNat = i := by omega
 rw [e1, e2, e3]
theorem eqL_get {a b : List TA} (ha : validL a = true) (hb : validL b = true) (h : ∀ x y, getL a x y = getL b x y) : eqL a b = true := by
 rw [← chgP_eqL]
 obtain ⟨_, k2⟩ := chgP_spec a b (validL_srt ha) (validL_srt hb) (valid_nz ha) (valid_nz hb)
 refine List.eq_nil_iff_forall_not_mem.2 fun p hp => ?_
 have hd := (k2 p).1 hp
 unfold Diff at hd
 have : eqT (tileL a p.1 p.2) (tileL b p.1 p.2) = true := eqT_true fun i hi => by rw [tile_get a _ _ hi, tile_get b _ _ hi, h]
 rw [this] at hd
 cases hd
/- Plain: the boundary of a set of pixels: edges, the edge that follows, the closed lists of edges, their corners. -/
structure Ed where
 x : Int
 y : Int
 d : Int
deriving DecidableEq
def dxE (d : Int) : Int := if d = 0 then 1 else if d = 2 then -1 else 0
def dyE (d : Int) : Int := if d = 1 then 1 else if d = 3 then -1 else 0
def hasE (S : Int → Int → Bool) (x y d : Int) : Bool :=
 if d = 0 then S x y && !S x (y - 1) else if d = 1 then S (x - 1) y && !S x y else if d = 2 then S (x - 1) (y - 1) && !S (x - 1) y else S x (y - 1) && !S (x - 1) (y - 1)
def nextE (S : Int → Int → Bool) (e : Ed) : Ed :=
 if hasE S (e.x + dxE e.d) (e.y + dyE e.d) ((e.d + 1) % 4) = true then ⟨e.x + dxE e.d, e.y + dyE e.d, (e.d + 1) % 4⟩
 else if hasE S (e.x + dxE e.d) (e.y + dyE e.d) e.d = true then ⟨e.x + dxE e.d, e.y + dyE e.d, e.d⟩
 else if hasE S (e.x + dxE e.d) (e.y + dyE e.d) ((e.d + 3) % 4) = true then ⟨e.x + dxE e.d, e.y + dyE e.d, (e.d + 3) % 4⟩
 else e
/-- The edge belongs to the boundary. -/
def Bnd (S : Int → Int → Bool) (e : Ed) : Prop := (0 ≤ e.d ∧ e.d ≤ 3) ∧ hasE S e.x e.y e.d = true
theorem dir4 {d : Int} (h : 0 ≤ d ∧ d ≤ 3) : d = 0 ∨ d = 1 ∨ d = 2 ∨ d = 3 := by omega
theorem has0 (S : Int → Int → Bool) (x y : Int) : hasE S x y 0 = (S x y && !S x (y - 1)) := rfl
theorem has1 (S : Int → Int → Bool) (x y : Int) : hasE S x y 1 = (S (x - 1) y && !S x y) := rfl
theorem has2 (S : Int → Int → Bool) (x y : Int) : hasE S x y 2 = (S (x - 1) (y - 1) && !S (x - 1) y) := rfl
theorem has3 (S : Int → Int → Bool) (x y : Int) : hasE S x y 3 = (S x (y - 1) && !S (x - 1) (y - 1)) := rfl
/-- What is known of the edge that follows: it starts where this one ends, its direction is the first one of the three. -/
theorem next_cases {S : Int → Int → Bool} {e : Ed} (h : Bnd S e) :
  (nextE S e).x = e.x + dxE e.d ∧ (nextE S e).y = e.y + dyE e.d ∧ Bnd S (nextE S e) ∧
  ((nextE S e).d = (e.d + 1) % 4 ∧ hasE S (e.x + dxE e.d) (e.y + dyE e.d) ((e.d + 1) % 4) = true ∨
   (nextE S e).d = e.d ∧ hasE S (e.x + dxE e.d) (e.y + dyE e.d) ((e.d + 1) % 4) = false ∧ hasE S (e.x + dxE e.d) (e.y + dyE e.d) e.d = true ∨
   (nextE S e).d = (e.d + 3) % 4 ∧ hasE S (e.x + dxE e.d) (e.y + dyE e.d) ((e.d + 1) % 4) = false ∧ hasE S (e.x + dxE e.d) (e.y + dyE e.d) e.d = false ∧ hasE S (e.x + dxE e.d) (e.y + dyE e.d) ((e.d + 3) % 4) = true) := by
 obtain ⟨x, y, d⟩ := e
 obtain ⟨hd, hh⟩ := h
 simp only at hd hh
 have three : hasE S (x + dxE d) (y + dyE d) ((d + 1) % 4) = true ∨ hasE S (x + dxE d) (y + dyE d) d = true ∨ hasE S (x + dxE d) (y + dyE d) ((d + 3) % 4) = true := by
  rcases dir4 hd with rfl | rfl | rfl | rfl
  · show hasE S (x + 1) (y + 0) 1 = true ∨ hasE S (x + 1) (y + 0) 0 = true ∨ hasE S (x + 1) (y + 0) 3 = true
    rw [has0] at hh
    rw [has1, has0, has3, Int.add_zero, show x + 1 - 1 = x by omega]
    cases h1 : S x y <;> cases h2 : S x (y - 1) <;> rw [h1, h2] at hh <;> first | (cases hh; done) | (cases S (x + 1) y <;> cases S (x + 1) (y - 1) <;> simp)
  · show hasE S (x + 0) (y + 1) 2 = true ∨ hasE S (x + 0) (y + 1) 1 = true ∨ hasE S (x + 0) (y + 1) 0 = true
    rw [has1] at hh
    rw [has2, has1, has0, Int.add_zero, show y + 1 - 1 = y by omega]
    cases h1 : S (x - 1) y <;> cases h2 : S x y <;> rw [h1, h2] at hh <;> first | (cases hh; done) | (cases S (x - 1) (y + 1) <;> cases S x (y + 1) <;> simp)
  · show hasE S (x + -1) (y + 0) 3 = true ∨ hasE S (x + -1) (y + 0) 2 = true ∨ hasE S (x + -1) (y + 0) 1 = true
    rw [has2] at hh
    rw [has3, has2, has1, Int.add_zero, show x + -1 = x - 1 by omega]
    cases h1 : S (x - 1) (y - 1) <;> cases h2 : S (x - 1) y <;> rw [h1, h2] at hh <;> first | (cases hh; done) | (cases S (x - 1 - 1) y <;> cases S (x - 1 - 1) (y - 1) <;> simp)
  · show hasE S (x + 0) (y + -1) 0 = true ∨ hasE S (x + 0) (y + -1) 3 = true ∨ hasE S (x + 0) (y + -1) 2 = true
    rw [has3] at hh
    rw [has0, has3, has2, Int.add_zero, show y + -1 = y - 1 by omega]
    cases h1 : S x (y - 1) <;> cases h2 : S (x - 1) (y - 1) <;> rw [h1, h2] at hh <;> first | (cases hh; done) | (cases S x (y - 1 - 1) <;> cases S (x - 1) (y - 1 - 1) <;> simp)
 have m1 : 0 ≤ (d + 1) % 4 ∧ (d + 1) % 4 ≤ 3 := by omega
 have m3 : 0 ≤ (d + 3) % 4 ∧ (d + 3) % 4 ≤ 3 := by omega
 unfold nextE
 simp only
 by_cases c1 : hasE S (x + dxE d) (y + dyE d) ((d + 1) % 4) = true
 ·rw [if_pos c1]
  exact ⟨rfl, rfl, ⟨m1, c1⟩, .inl ⟨rfl, c1⟩⟩
 ·rw [if_neg c1]
  have c1' : hasE S (x + dxE d) (y + dyE d) ((d + 1) % 4) = false := by simpa using c1
  by_cases c2 : hasE S (x + dxE d) (y + dyE d) d = true
  · rw [if_pos c2]
    exact ⟨rfl, rfl, ⟨hd, c2⟩, .inr (.inl ⟨rfl, c1', c2⟩)⟩
  · rw [if_neg c2]
    have c2' : hasE S (x + dxE d) (y + dyE d) d = false := by simpa using c2
    have c3 : hasE S (x + dxE d) (y + dyE d) ((d + 3) % 4) = true := by
     rcases three with h | h | h
     ·exact absurd h c1
     ·exact absurd h c2
     ·exact h
    rw [if_pos c3]
    exact ⟨rfl, rfl, ⟨m3, c3⟩, .inr (.inr ⟨rfl, c1', c2', c3⟩)⟩
/-- The directions at a corner: which one comes in, which one goes out; nw, ne, sw, se are the pixels around it. -/
def inD (nw ne sw se : Bool) (d : Int) : Bool := if d = 0 then sw && !nw else if d = 1 then nw && !ne else if d = 2 then ne && !se else se && !sw
def outD (nw ne sw se : Bool) (d : Int) : Bool := if d = 0 then se && !ne else if d = 1 then sw && !se else if d = 2 then nw && !sw else ne && !nw
def selD (nw ne sw se : Bool) (d : Int) : Int := if outD nw ne sw se ((d + 1) % 4) = true then (d + 1) % 4 else if outD nw ne sw se d = true then d else (d + 3) % 4
theorem sel_inj (nw ne sw se : Bool) {d d' : Int} (hd : 0 ≤ d ∧ d ≤ 3) (hd' : 0 ≤ d' ∧ d' ≤ 3) (h : inD nw ne sw se d = true) (h' : inD nw ne sw se d' = true) (e : selD nw ne sw se d = selD nw ne sw se d') : d = d' := by
 rcases dir4 hd with rfl | rfl | rfl | rfl <;> rcases dir4 hd' with rfl | rfl | rfl | rfl <;> first | rfl | (exfalso; revert h h' e; cases nw <;> cases ne <;> cases sw <;> cases se <;> decide)
theorem has_out (S : Int → Int → Bool) (x y : Int) (d : Int) : hasE S x y d = outD (S (x - 1) (y - 1)) (S x (y - 1)) (S (x - 1) y) (S x y) d := rfl
theorem bnd_in {S : Int → Int → Bool} {e : Ed} (h : Bnd S e) : inD (S (e.x + dxE e.d - 1) (e.y + dyE e.d - 1)) (S (e.x + dxE e.d) (e.y + dyE e.d - 1)) (S (e.x + dxE e.d - 1) (e.y + dyE e.d)) (S (e.x + dxE e.d) (e.y + dyE e.d)) e.d = true := by
 obtain ⟨x, y, d⟩ := e
 obtain ⟨hd, hh⟩ := h
 simp only at hd hh ⊢
 rcases dir4 hd with rfl | rfl | rfl | rfl
 ·show (S (x + 1 - 1) (y + 0) && !S (x + 1 - 1) (y + 0 - 1)) = true
  rw [has0] at hh
  rw [show x + 1 - 1 = x by omega, Int.add_zero]
  exact hh
 ·show (S (x + 0 - 1) (y + 1 - 1) && !S (x + 0) (y + 1 - 1)) = true
  rw [has1] at hh
  rw [show y + 1 - 1 = y by omega, Int.add_zero]
  exact hh
 ·show (S (x + -1) (y + 0 - 1) && !S (x + -1) (y + 0)) = true
  rw [has2] at hh
  rw [show x + -1 = x - 1 by omega, Int.add_zero]
  exact hh
 ·show (S (x + 0) (y + -1) && !S (x + 0 - 1) (y + -1)) = true
  rw [has3] at hh
  rw [show y + -1 = y - 1 by omega, Int.add_zero]
  exact hh
theorem next_sel {S : Int → Int → Bool} {e : Ed} (h : Bnd S e) : (nextE S e).d = selD (S (e.x + dxE e.d - 1) (e.y + dyE e.d - 1)) (S (e.x + dxE e.d) (e.y + dyE e.d - 1)) (S (e.x + dxE e.d - 1) (e.y + dyE e.d)) (S (e.x + dxE e.d) (e.y + dyE e.d)) e.d := by
 obtain ⟨_, _, _, h4⟩ := next_cases h
 simp only [has_out] at h4
 unfold selD
 rcases h4 with ⟨h1, h2⟩ | ⟨h1, h2, h3⟩ | ⟨h1, h2, h3, h4⟩
 ·rw [if_pos h2, h1]
 ·rw [if_neg (by rw [h2]; decide), if_pos h3, h1]
 ·rw [if_neg (by rw [h2]; decide), if_neg (by rw [h3]; decide), h1]
theorem next_inj {S : Int → Int → Bool} {e f : Ed} (he : Bnd S e) (hf : Bnd S f) (h : nextE S e = nextE S f) : e = f := by
 obtain ⟨a1, a2, _, _⟩ := next_cases he
 obtain ⟨b1, b2, _, _⟩ := next_cases hf
 have hx : e.x + dxE e.d = f.x + dxE f.d := by rw [← a1, ← b1, h]
 have hy : e.y + dyE e.d = f.y + dyE f.d := by rw [← a2, ← b2, h]
 have s1 := next_sel he
 have s2 := next_sel hf
 have i1 := bnd_in he
 have i2 := bnd_in hf
 rw [← hx, ← hy] at s2 i2
 have hd : e.d = f.d := sel_inj _ _ _ _ he.1 hf.1 i1 i2 (by rw [← s1, ← s2, h])
 obtain ⟨x, y, d⟩ := e
 obtain ⟨x', y', d'⟩ := f
 simp only at hd hx hy
 subst hd
 have : x = x' := by omega
 have : y = y' := by omega
 subst x' y'
 rfl
/-! ### Going round -/
def orbE (S : Int → Int → Bool) (s : Ed) : Nat → Ed
 | 0 => s
 | n + 1 => nextE S (orbE S s n)
theorem orb_bnd {S : Int → Int → Bool} {s : Ed} (h : Bnd S s) : ∀ n, Bnd S (orbE S s n)
 | 0 => h
 | n + 1 => (next_cases (orb_bnd h n)).2.2.1
theorem orb_back {S : Int → Int → Bool} {s : Ed} (h : Bnd S s) : ∀ i j, orbE S s i = orbE S s (i + j) → s = orbE S s j
 | 0, j, e => by rw [Nat.zero_add] at e; exact e
 | i + 1, j, e => orb_back h i j (by
  rw [show i + 1 + j = (i + j) + 1 by omega] at e
  exact next_inj (orb_bnd h i) (orb_bnd h (i + j)) e)
theorem pigeon : ∀ (N : Nat) (f : Nat → Nat), (∀ i, i ≤ N → f i < N) → ∃ i j, i < j ∧ j ≤ N ∧ f i = f j := by
 intro N
 induction N with
 | zero => intro f h; exact absurd (h 0 (Nat.le_refl _)) (by omega)
 | succ N ih =>
  intro f h
  by_cases hx : ∃ i, i < N + 1 ∧ f i = f (N + 1)
  ·obtain ⟨i, h1, h2⟩ := hx
   exact ⟨i, N + 1, h1, Nat.le_refl _, h2⟩
  ·obtain ⟨i, j, h1, h2, h3⟩ := ih (fun i => if f i = N then f (N + 1) else f i) (by
    intro i hi
    have a := h i (by omega)
    have b := h (N + 1) (Nat.le_refl _)
    show (if f i = N then f (N + 1) else f i) < N
    by_cases c : f i = N
    ·rw [if_pos c]
     have : f (N + 1) ≠ N := fun e => hx ⟨i, by omega, by rw [c, e]⟩
     omega
    ·rw [if_neg c]; omega)
   have e3 : (if f i = N then f (N + 1) else f i) = (if f j = N then f (N + 1) else f j) := h3
   refine ⟨i, j, h1, by omega, ?_⟩
   by_cases c : f i = N
   ·by_cases c' : f j = N
    ·rw [c, c']
    ·rw [if_pos c, if_neg c'] at e3
     exact absurd ⟨j, by omega, e3.symm⟩ hx
   ·by_cases c' : f j = N
    ·rw [if_neg c, if_pos c'] at e3
     exact absurd ⟨i, by omega, e3⟩ hx
    ·rw [if_neg c, if_neg c'] at e3
     exact e3
/-- All edges of the boundary lie between these corners. -/
def BoxE (S : Int → Int → Bool) (r : Rc) : Prop := ∀ e, Bnd S e → r.x0 ≤ e.x ∧ e.x ≤ r.x1 ∧ r.y0 ≤ e.y ∧ e.y ≤ r.y1
def boxN (r : Rc) : Nat := 4 * ((r.x1 - r.x0).toNat + 1) * ((r.y1 - r.y0).toNat + 1)
def codE (r : Rc) (e : Ed) : Nat := (e.d.toNat + 4 * (e.x - r.x0).toNat) + 4 * ((r.x1 - r.x0).toNat + 1) * (e.y - r.y0).toNat
theorem cod_lt {r : Rc} {e : Ed} (hd : 0 ≤ e.d ∧ e.d ≤ 3) (h : r.x0 ≤ e.x ∧ e.x ≤ r.x1 ∧ r.y0 ≤ e.y ∧ e.y ≤ r.y1) : codE r e < boxN r := by
 unfold codE boxN
 have h1 : (e.y - r.y0).toNat + 1 ≤ (r.y1 - r.y0).toNat + 1 := by omega
 have h2 := Nat.mul_le_mul_left (4 * ((r.x1 - r.x0).toNat + 1)) h1
 rw [Nat.mul_add, Nat.mul_one] at h2
 omega
theorem cod_inj {r : Rc} {e f : Ed} (hd : 0 ≤ e.d ∧ e.d ≤ 3) (h : r.x0 ≤ e.x ∧ e.x ≤ r.x1 ∧ r.y0 ≤ e.y ∧ e.y ≤ r.y1) (hd' : 0 ≤ f.d ∧ f.d ≤ 3) (h' : r.x0 ≤ f.x ∧ f.x ≤ r.x1 ∧ r.y0 ≤ f.y ∧ f.y ≤ r.y1) (k : codE r e = codE r f) : e = f := by
 unfold codE at k
 have hW : 0 < 4 * ((r.x1 - r.x0).toNat + 1) := by omega
 have a1 : e.d.toNat + 4 * (e.x - r.x0).toNat < 4 * ((r.x1 - r.x0).toNat + 1) := by omega
 have a2 : f.d.toNat + 4 * (f.x - r.x0).toNat < 4 * ((r.x1 - r.x0).toNat + 1) := by omega
 have k1 := congrArg (· % (4 * ((r.x1 - r.x0).toNat + 1))) k
 have k2 := congrArg (· / (4 * ((r.x1 - r.x0).toNat + 1))) k
 simp only [Nat.add_mul_mod_self_left, Nat.mod_eq_of_lt a1, Nat.mod_eq_of_lt a2] at k1
 simp only [Nat.add_mul_div_left _ _ hW, Nat.div_eq_of_lt a1, Nat.div_eq_of_lt a2, Nat.zero_add] at k2
 obtain ⟨x, y, d⟩ := e
 obtain ⟨x', y', d'⟩ := f
 simp only at *
 have : d = d' := by omega
 have : x = x' := by omega
 have : y = y' := by omega
 subst d' x' y'
 rfl
theorem orb_per {S : Int → Int → Bool} {r : Rc} (hb : BoxE S r) {s : Ed} (h : Bnd S s) : ∃ p, 0 < p ∧ p ≤ boxN r ∧ orbE S s p = s := by
 have hin := fun n => hb _ (orb_bnd h n)
 obtain ⟨i, j, h1, h2, h3⟩ := pigeon (boxN r) (fun n => codE r (orbE S s n)) (fun n _ => cod_lt (orb_bnd h n).1 (hin n))
 have e := cod_inj (orb_bnd h i).1 (hin i) (orb_bnd h j).1 (hin j) h3
 rw [show j = i + (j - i) by omega] at e
 exact ⟨j - i, by omega, by omega, (orb_back h i (j - i) e).symm⟩
def perF (f : Nat → Ed) (s : Ed) : Nat → Nat → Nat
 | 0, k => k
 | n + 1, k => if f k = s then k else perF f s n (k + 1)
theorem perF_spec (f : Nat → Ed) (s : Ed) : ∀ n k, (∃ p, k ≤ p ∧ p < k + n ∧ f p = s) → f (perF f s n k) = s ∧ k ≤ perF f s n k ∧ perF f s n k < k + n ∧ ∀ i, k ≤ i → i < perF f s n k → f i ≠ s
 | 0, k, ⟨p, h1, h2, _⟩ => absurd h2 (by omega)
 | n + 1, k, ⟨p, h1, h2, h3⟩ => by
  unfold perF
  by_cases h : f k = s
  ·rw [if_pos h]
   exact ⟨h, Nat.le_refl _, by omega, fun i a b => absurd b (by omega)⟩
  ·rw [if_neg h]
   have hp : p ≠ k := fun e => h (by rw [← e]; exact h3)
   obtain ⟨c1, c2, c3, c4⟩ := perF_spec f s n (k + 1) ⟨p, by omega, by omega, h3⟩
   refine ⟨c1, by omega, by omega, fun i a b => ?_⟩
   by_cases hi : i = k
   ·subst hi; exact h
   ·exact c4 i (by omega) b
/-- After so many steps the start is met again, for the first time. -/
def perE (S : Int → Int → Bool) (r : Rc) (s : Ed) : Nat := perF (orbE S s) s (boxN r) 1
theorem perE_spec {S : Int → Int → Bool} {r : Rc} (hb : BoxE S r) {s : Ed} (h : Bnd S s) : orbE S s (perE S r s) = s ∧ 1 ≤ perE S r s ∧ perE S r s ≤ boxN r ∧ ∀ i, 1 ≤ i → i < perE S r s → orbE S s i ≠ s := by
 obtain ⟨p, h1, h2, h3⟩ := orb_per hb h
 obtain ⟨c1, c2, c3, c4⟩ := perF_spec (orbE S s) s (boxN r) 1 ⟨p, h1, by omega, h3⟩
 exact ⟨c1, c2, by unfold perE; omega, c4⟩
def orbK (S : Int → Int → Bool) (s : Ed) (n : Nat) : List Ed := (List.range n).map (orbE S s)
def folE (S : Int → Int → Bool) (r : Rc) (s : Ed) : List Ed := orbK S s (perE S r s)
theorem orbK_len (S : Int → Int → Bool) (s : Ed) (n : Nat) : (orbK S s n).length = n := by unfold orbK; rw [List.length_map, List.length_range]
theorem orbK_snoc (S : Int → Int → Bool) (s : Ed) (n : Nat) : orbK S s (n + 1) = orbK S s n ++ [orbE S s n] := by
 unfold orbK
 rw [List.range_succ, List.map_append]
 rfl
/-! ### The corners of a closed list of edges; the polygons -/
def edG (l : List Ed) (i : Nat) : Ed := l.getD i ⟨0, 0, 0⟩
def cornB (l : List Ed) (i : Nat) : Bool := decide ((edG l ((i + l.length - 1) % l.length)).d ≠ (edG l i).d)
def cornK (l : List Ed) : Nat → List Pnt
 | 0 => []
 | k + 1 => cornK l k ++ (if cornB l k = true then [((edG l k).x, (edG l k).y)] else [])
def cornG (l : List Ed) : List Pnt := cornK l l.length
theorem cornK_len (l : List Ed) : ∀ k, (cornK l k).length ≤ k
 | 0 => Nat.le_refl _
 | k + 1 => by
  have := cornK_len l k
  show (cornK l k ++ (if cornB l k = true then [((edG l k).x, (edG l k).y)] else [])).length ≤ _
  rw [List.length_append]
  split
  ·simp only [List.length_cons, List.length_nil]; omega
  ·simp only [List.length_nil]; omega
/-- What the scan has: the edges that are done, the polygons. -/
abbrev ScSt := List Ed × List (List Pnt)
def scan1 (S : Int → Int → Bool) (r : Rc) (st : ScSt) (x y : Int) : ScSt :=
 if (decide ((⟨x, y, 0⟩ : Ed) ∈ st.1) || !hasE S x y 0) = true then st else (st.1 ++ folE S r ⟨x, y, 0⟩, st.2 ++ [cornG (folE S r ⟨x, y, 0⟩)])
def scanX (S : Int → Int → Bool) (r : Rc) (y : Int) (st : ScSt) : Nat → ScSt
 | 0 => st
 | k + 1 => scan1 S r (scanX S r y st k) (r.x0 + (k : Int)) y
def scanY (S : Int → Int → Bool) (r : Rc) : Nat → ScSt
 | 0 => ([], [])
 | k + 1 => scanX S r (r.y0 + (k : Int)) (scanY S r k) (r.x1 - r.x0).toNat
def outlG (S : Int → Int → Bool) (r : Rc) : List (List Pnt) := (scanY S r (r.y1 - r.y0).toNat).2
/- Plain: the mask that numbers describe; the box of a small raster's visible pixels. -/
def mkX (a : Int) : Int := a % 16 - 4
def mkY (a : Int) : Int := a.tdiv 16 % 16 - 4
def mkN (a : Int) : Nat := (1 + a.tdiv 256 % 3).toNat
def mkP (b : Int) : Px := ⟨0, 0, 0, b % 256⟩
def mrunK (ls : List TA) (a b : Int) : Nat → List TA
 | 0 => ls
 | k + 1 => setR (mrunK ls a b k) (mkX a + (k : Int)) (mkY a) (mkP b)
def maskK (q : List Int) : Nat → List TA
 | 0 => []
 | j + 1 => mrunK (maskK q j) (numI q (2 * j)) (numI q (2 * j + 1)) (mkN (numI q (2 * j)))
def maskN (q : List Int) : Nat := min (q.length / 2) 30
def maskG (q : List Int) : List TA := maskK q (maskN q)
/-- Valid, few tiles, whole pixels; visible pixels near the origin. -/
structure MaskP (ls : List TA) : Prop where
 v : validL ls = true
 s : Small ls
 t : TokL ls
 g : ∀ x y, 0 < (getL ls x y).a → -4 ≤ x ∧ x ≤ 13 ∧ -4 ≤ y ∧ y ≤ 11
 c : ∀ x y, (getL ls x y).r = 0 ∧ (getL ls x y).g = 0 ∧ (getL ls x y).b = 0
theorem MaskP.len {ls : List TA} (h : MaskP ls) : ls.length ≤ 16 := small_len (validL_srt h.v) h.s
/-- The set of the pixels whose alpha reaches t. -/
def setG (ls : List TA) (t : Int) (x y : Int) : Bool := decide (t ≤ (getL ls x y).a)
theorem setG_has {ls : List TA} {t : Int} (ht : 1 ≤ t) {x y : Int} (h : setG ls t x y = true) : hasR (boundL ls) x y = true :=
 boundL_has (getL_vis (by have := of_decide_eq_true h; omega))
theorem setG_box (ls : List TA) {t : Int} (ht : 1 ≤ t) : BoxE (setG ls t) (boundL ls) := by
 intro e ⟨hd, hh⟩
 have key : ∀ {x y : Int}, setG ls t x y = true → (boundL ls).x0 ≤ x ∧ x < (boundL ls).x1 ∧ (boundL ls).y0 ≤ y ∧ y < (boundL ls).y1 := fun h => (hasR_iff _ _ _).1 (setG_has ht h)
 obtain ⟨x, y, d⟩ := e
 simp only at hd hh ⊢
 rcases dir4 hd with rfl | rfl | rfl | rfl
 ·rw [has0, Bool.and_eq_true_iff] at hh
  have := key hh.1
  omega
 ·rw [has1, Bool.and_eq_true_iff] at hh
  have := key hh.1
  omega
 ·rw [has2, Bool.and_eq_true_iff] at hh
  have := key hh.1
  omega
 ·rw [has3, Bool.and_eq_true_iff] at hh
  have := key hh.1
  omega
end Go.Proofs.YtamgpfblhlfhaaaGreat
/- Image of both packages, whether the rectangle fits or not. -/
namespace Go.Proofs.YtamgpfblhlfhaaaGreat
open Go.RowKit Go.Shelf Pl
set_option linter.unusedVariables false
set_option linter.unusedSimpArgs false
set_option maxRecDepth 20000
def imR (c : Rc) : Rc := if fitsE c = 0 then c else Rc.zero
def imLs (c : Rc) (ks : List TA) : List Px := if fitsE c = 0 then imgL c ks else []
end Go.Proofs.YtamgpfblhlfhaaaGreat
/- Contract of Paste of package raster. -/
namespace Go.Proofs.YtamgpfblhlfhaaaGreat
open Go.RowKit Go.Shelf Pl
attribute [local go_sem] Oper.semAt_some
set_option linter.unusedVariables false
set_option linter.unusedSimpArgs false
set_option maxRecDepth 20000
theorem run_load_imR {w : World} {b : Nat} {c : Rc} {u : Value} (h : AtB 101 w b (imgC c u)) : (Instr.loadAt 30 (.pointer (some ⟨b, 0, none⟩))).run Tryz.prog w = .ok (.agg (rcA c)) w :=
 run_load_BP (cs' := rcA c) h 0 Tryz.isAgg30 (by kernel_rfl) (fun j hj => by
  have hj : j < 4 := hj
  have hc : j = 0 ∨ j = 1 ∨ j = 2 ∨ j = 3 := by omega
  rcases hc with rfl | rfl | rfl | rfl <;> rfl)
theorem P_ValidRB (r : Rc) (b : Bool) (w : World) (e : validR r = b) : Calls Tryz.prog 102 #[.agg (rcA r)] w fun e w' => e = .returned (.bool b) ∧ Below w.heap.size w w' := e ▸ P_ValidR r w
theorem P_AreaB (r : Rc) (n : Int) (w : World) (h : validR r = true) (e : areaR r = n) : Calls Tryz.prog 103 #[.agg (rcA r)] w fun e w' => e = .returned (.int .i64 n) ∧ Below w.heap.size w w' := e ▸ P_Area r w h
theorem P_fitsB (c : Rc) (n : Int) (w : World) (e : fitsE c = n) : Calls Tryz.prog 104 #[.agg (rcA c)] w fun e w' => e = .returned (.int .i64 n) ∧ Below w.heap.size w w' := e ▸ P_fits c w
set_option maxHeartbeats 4000000 in
theorem P_Paste_inv (v : Value) (ls : List TA) (c : Rc) (ad : Option Addr) (n cp : Nat) (w : World) (h : RS v ls w) (hn : n ≤ maxLen) (hV0 : validR c = false) : Calls Tryz.prog 68 #[.agg #[v], .agg (imgC c (.slice ad n cp))] w fun e w' => e = .returned (.tuple #[.agg #[.slice none 0 0], .int .i64 1]) ∧ Below w.heap.size w w' := by
 have B := Below.refl w.heap.size w
 obtain ⟨a, cpv, rfl, hc⟩ := h.len
 clear h
 go_enter Tryz.func68, Tryz.ntmps68
 go_upto_region 0 with fail
 refine wp_region_lit ?_
 try simp only [gelS]
 (refine wpList_boxB (t := 34) rfl _ rfl _ rfl ?_; intro b_r2 wn hle hge ht hbn hzn; have hsz := B.size; replace B := B.trans (hbn.mono (by omega)); have hln := Nat.lt_of_lt_of_eq (Nat.lt_succ_self _) hzn.symm; clear hzn; have r2 := ht; clear ht; simp only [putS])
 (refine wpList_boxB (t := 101) rfl _ rfl _ rfl ?_; intro b_m3 wn hle hge ht hbn hzn; have hsz := B.size; replace B := B.trans (hbn.mono (by omega)); have hln := Nat.lt_of_lt_of_eq (Nat.lt_succ_self _) hzn.symm; clear hzn; (try have hlt := r2.lt); (try replace r2 := r2.below (hbn.mono hle)); have m3 := ht; clear ht; simp only [putS])
 (refine wpList_allocBk (t := 34) rfl _ (run_alloc_R _ _ rfl) ?_; intro b_r4 wn hle hge ht hbn hzn; have hsz := B.size; replace B := B.trans (hbn.mono (by omega)); have hln := Nat.lt_of_lt_of_eq (Nat.lt_succ_self _) hzn.symm; clear hzn; (try have hlt := r2.lt); (try replace r2 := r2.below (hbn.mono hle)); (try have hlt := m3.lt); (try replace m3 := m3.below (hbn.mono hle)); have r4 := ht; clear ht; simp only [putS])
 refine wpList_chunk 1 (by kernel_rfl) ?_
 simp only [takS, Nat.reduceAdd]
 repeat (first | go_big_quiet_skip | (go_big_quiet_want; go_big_quiet_op; go_big_quiet_on))
 refine wpQuiet_nil ?_
 refine wpList_nil ?_
 go_upto_region 1 with fail
 refine wp_region_lit ?_
 try simp only [gelS]
 refine wpList_chunk 2 (by kernel_rfl) ?_
 simp only [takS, Nat.reduceAdd]
 repeat (first | go_big_quiet_skip | (go_big_quiet_want; first | (refine quiet_loadAny (t := 30) rfl _ _ _ rfl (fun w hw => run_load_imR (ov_B m3 w hw)) (by first | rfl | omega) ?_; simp only [putS]; go_big_quiet_on) | (refine quiet_loadAny (t := 30) rfl _ _ _ rfl (fun w hw => run_load_B (ov_B c6 w hw) Tryz.isAgg30 (by kernel_rfl)) (by rfl) ?_; simp only [putS]; go_big_quiet_on) | (go_big_quiet_op; go_big_quiet_on)))
 refine wpQuiet_nil ?_
 (refine wpList_allocBk (t := 30) rfl _ (run_alloc_Rc _ _ rfl) ?_; intro b_c6 wn hle hge ht hbn hzn; have hsz := B.size; replace B := B.trans (hbn.mono (by omega)); have hln := Nat.lt_of_lt_of_eq (Nat.lt_succ_self _) hzn.symm; clear hzn; (try have hlt := r2.lt); (try replace r2 := r2.below (hbn.mono hle)); (try have hlt := m3.lt); (try replace m3 := m3.below (hbn.mono hle)); (try have hlt := r4.lt); (try replace r4 := r4.below (hbn.mono hle)); (try have hlt := c6.lt); (try replace c6 := c6.below (hbn.mono hle)); have c6 := ht; clear ht; simp only [putS])
 (refine wpList_storeB (t := 30) rfl _ _ rfl _ rfl _ rfl c6 (by kernel_rfl) rfl (by simp [rcA, imgC, Value.oneCell']) ?_; clear c6; intro wn ht hcn hzn; have hsz := B.size; replace hzn := Nat.le_of_eq hzn.symm; replace B := Chg.below B hcn (by omega) B.size; (try replace r2 := r2.of_eq (hcn.block _ r2.lt (by omega))); (try replace m3 := m3.of_eq (hcn.block _ m3.lt (by omega))); (try replace r4 := r4.of_eq (hcn.block _ r4.lt (by omega))); have c6 := ht; clear ht; simp only [putS])
 refine wpList_nil ?_
 replace c6 : AtB 30 _ b_c6 (rcA c) := c6
 go_upto_region 2 with fail
 try simp only [gelS]
 try have lx_r2 := r2.lt
 try have lx_m3 := m3.lt
 try have lx_r4 := r4.lt
 try have lx_c6 := c6.lt
 refine wp_region_RL 11 [(1, detS ?v1_1)] (by kernel_rfl) (by kernel_rfl) (by kernel_rfl) ?_
 rotate_left 1
 simp only [takS, Nat.reduceAdd]
 refine wpRL_chunk 1 (by kernel_rfl) ?_
 simp only [takS, Nat.reduceAdd]
 repeat (first | go_big_quiet_skip | (go_big_quiet_want; first | (refine quiet_loadAny (t := 30) rfl _ _ _ rfl (fun w hw => run_load_imR (ov_B m3 w hw)) (by first | rfl | omega) ?_; simp only [putS]; go_big_quiet_on) | (refine quiet_loadAny (t := 30) rfl _ _ _ rfl (fun w hw => run_load_B (ov_B c6 w hw) Tryz.isAgg30 (by kernel_rfl)) (by rfl) ?_; simp only [putS]; go_big_quiet_on) | (go_big_quiet_op; go_big_quiet_on)))
 refine wpQuiet_nil ?_
 refine wpRL_callB (by rfl) (by first | rfl | simp [Region.wanted, yielded]) ?_ ?_
 ·intro wn hbn hE Kx hKx
  have hsz := B.size
  have hzn := hbn.size
  replace B := B.trans (hbn.mono B.size)
  (try replace m3 := m3.below hbn)
  (try replace r4 := r4.below hbn)
  (try replace c6 := c6.below hbn)
  refine wp_callF rfl (enters_of Tryz.func102 (by kernel_rfl) rfl) (by simp only [Act.eval, evlS]; rfl) ?_
  refine (P_ValidRB c false _ hV0).mono ?_
  rintro e wm ⟨rfl, hbm⟩
  refine ⟨_, rfl, ?_⟩
  have hz := hKx () wm trivial hbm
  dsimp only [detS] at hz
  exact hz
 rintro ⟨⟩
 dsimp only [detS]
 simp only [putS]
 refine wpRL_chunk 4 (by kernel_rfl) ?_
 simp only [takS, Nat.reduceAdd]
 repeat (first | go_big_quiet_skip | (go_big_quiet_want; first | (refine quiet_loadAny (t := 99) rfl _ _ _ rfl (fun w hw => run_load_slp (imgC_u (ov_B m3 w hw))) (by first | rfl | omega) ?_; simp only [putS]; go_big_quiet_on) | (go_big_quiet_op; go_big_quiet_on)))
 refine wpQuiet_nil ?_
 refine wpRL_skip ?hw1_6 ?_
 case hw1_6 => kernel_rfl
 simp only [putS]
 refine wpRL_chunk 1 (by kernel_rfl) ?_
 simp only [takS, Nat.reduceAdd]
 repeat (first | go_big_quiet_skip | (go_big_quiet_want; first | (refine quiet_loadAny (t := 30) rfl _ _ _ rfl (fun w hw => run_load_imR (ov_B m3 w hw)) (by first | rfl | omega) ?_; simp only [putS]; go_big_quiet_on) | (refine quiet_loadAny (t := 30) rfl _ _ _ rfl (fun w hw => run_load_B (ov_B c6 w hw) Tryz.isAgg30 (by kernel_rfl)) (by rfl) ?_; simp only [putS]; go_big_quiet_on) | (go_big_quiet_op; go_big_quiet_on)))
 refine wpQuiet_nil ?_
 refine wpRL_skip ?hw1_8 ?_
 case hw1_8 => kernel_rfl
 simp only [putS]
 refine wpRL_chunk 2 (by kernel_rfl) ?_
 simp only [takS, Nat.reduceAdd]
 repeat (first | go_big_quiet_skip | (go_big_quiet_want; go_big_quiet_op; go_big_quiet_on))
 refine wpQuiet_nil ?_
 refine wpRL_nil ?_
 intro wn hbn hE
 have hsz := B.size
 have hzn := hbn.size
 replace B := B.trans (hbn.mono B.size)
 (try replace r4 := r4.below hbn)
 clear hE
 try simp only [List.drop_succ_cons, List.drop_zero]
 refine NoPan.normal ?_
 go_upto_region 3 with fail
 refine wp_region_lit ?_
 try simp only [gelS]
 refine wpList_chunk 1 (by kernel_rfl) ?_
 simp only [takS, Nat.reduceAdd]
 repeat (first | go_big_quiet_skip | (go_big_quiet_want; go_big_quiet_op; go_big_quiet_on))
 refine wpQuiet_nil ?_
 (refine wpList_storeB (t := 34) rfl _ _ rfl _ rfl _ rfl r4 (by kernel_rfl) rfl (by simp [rcA, imgC, Value.oneCell']) ?_; clear r4; intro wn ht hcn hzn; have hsz := B.size; replace hzn := Nat.le_of_eq hzn.symm; replace B := Chg.below B hcn (by omega) B.size; have r4 := ht; clear ht; simp only [putS])
 refine wpList_chunk 1 (by kernel_rfl) ?_
 simp only [takS, Nat.reduceAdd]
 repeat (first | go_big_quiet_skip | (go_big_quiet_want; go_big_quiet_op; go_big_quiet_on))
 refine wpQuiet_nil ?_
 refine wpList_nil ?_
 go_wp2
 refine bodyPost_ret (results_B2 (t := 34) rfl _ _ (b_r4) rfl _ rfl r4 Tryz.isAgg34 (by kernel_rfl)) rfl ?_
 exact ⟨rfl, B⟩
set_option maxHeartbeats 4000000 in
theorem P_Paste_len (v : Value) (ls : List TA) (c : Rc) (ad : Option Addr) (n cp : Nat) (w : World) (h : RS v ls w) (hn : n ≤ maxLen) (hV0 : validR c = true) (A : Int) (hA : areaR c = A) (hlen : ¬ (n : Int) = A) : Calls Tryz.prog 68 #[.agg #[v], .agg (imgC c (.slice ad n cp))] w fun e w' => e = .returned (.tuple #[.agg #[.slice none 0 0], .int .i64 1]) ∧ Below w.heap.size w w' := by
 have B := Below.refl w.heap.size w
 obtain ⟨a, cpv, rfl, hc⟩ := h.len
 have d1 : ((n : Int) != A) = true := by simpa using hlen
 have HA := Lib.hid hA
 clear h hA
 go_enter Tryz.func68, Tryz.ntmps68
 go_upto_region 0 with fail
 refine wp_region_lit ?_
 try simp only [gelS]
 (refine wpList_boxB (t := 34) rfl _ rfl _ rfl ?_; intro b_r2 wn hle hge ht hbn hzn; have hsz := B.size; replace B := B.trans (hbn.mono (by omega)); have hln := Nat.lt_of_lt_of_eq (Nat.lt_succ_self _) hzn.symm; clear hzn; have r2 := ht; clear ht; simp only [putS])
 (refine wpList_boxB (t := 101) rfl _ rfl _ rfl ?_; intro b_m3 wn hle hge ht hbn hzn; have hsz := B.size; replace B := B.trans (hbn.mono (by omega)); have hln := Nat.lt_of_lt_of_eq (Nat.lt_succ_self _) hzn.symm; clear hzn; (try have hlt := r2.lt); (try replace r2 := r2.below (hbn.mono hle)); have m3 := ht; clear ht; simp only [putS])
 (refine wpList_allocBk (t := 34) rfl _ (run_alloc_R _ _ rfl) ?_; intro b_r4 wn hle hge ht hbn hzn; have hsz := B.size; replace B := B.trans (hbn.mono (by omega)); have hln := Nat.lt_of_lt_of_eq (Nat.lt_succ_self _) hzn.symm; clear hzn; (try have hlt := r2.lt); (try replace r2 := r2.below (hbn.mono hle)); (try have hlt := m3.lt); (try replace m3 := m3.below (hbn.mono hle)); have r4 := ht; clear ht; simp only [putS])
 refine wpList_chunk 1 (by kernel_rfl) ?_
 simp only [takS, Nat.reduceAdd]
 repeat (first | go_big_quiet_skip | (go_big_quiet_want; go_big_quiet_op; go_big_quiet_on))
 refine wpQuiet_nil ?_
 refine wpList_nil ?_
 go_upto_region 1 with fail
 refine wp_region_lit ?_
 try simp only [gelS]
 refine wpList_chunk 2 (by kernel_rfl) ?_
 simp only [takS, Nat.reduceAdd]
 repeat (first | go_big_quiet_skip | (go_big_quiet_want; first | (refine quiet_loadAny (t := 30) rfl _ _ _ rfl (fun w hw => run_load_imR (ov_B m3 w hw)) (by first | rfl | omega) ?_; simp only [putS]; go_big_quiet_on) | (refine quiet_loadAny (t := 30) rfl _ _ _ rfl (fun w hw => run_load_B (ov_B c6 w hw) Tryz.isAgg30 (by kernel_rfl)) (by rfl) ?_; simp only [putS]; go_big_quiet_on) | (go_big_quiet_op; go_big_quiet_on)))
 refine wpQuiet_nil ?_
 (refine wpList_allocBk (t := 30) rfl _ (run_alloc_Rc _ _ rfl) ?_; intro b_c6 wn hle hge ht hbn hzn; have hsz := B.size; replace B := B.trans (hbn.mono (by omega)); have hln := Nat.lt_of_lt_of_eq (Nat.lt_succ_self _) hzn.symm; clear hzn; (try have hlt := r2.lt); (try replace r2 := r2.below (hbn.mono hle)); (try have hlt := m3.lt); (try replace m3 := m3.below (hbn.mono hle)); (try have hlt := r4.lt); (try replace r4 := r4.below (hbn.mono hle)); (try have hlt := c6.lt); (try replace c6 := c6.below (hbn.mono hle)); have c6 := ht; clear ht; simp only [putS])
 (refine wpList_storeB (t := 30) rfl _ _ rfl _ rfl _ rfl c6 (by kernel_rfl) rfl (by simp [rcA, imgC, Value.oneCell']) ?_; clear c6; intro wn ht hcn hzn; have hsz := B.size; replace hzn := Nat.le_of_eq hzn.symm; replace B := Chg.below B hcn (by omega) B.size; (try replace r2 := r2.of_eq (hcn.block _ r2.lt (by omega))); (try replace m3 := m3.of_eq (hcn.block _ m3.lt (by omega))); (try replace r4 := r4.of_eq (hcn.block _ r4.lt (by omega))); have c6 := ht; clear ht; simp only [putS])
 refine wpList_nil ?_
 replace c6 : AtB 30 _ b_c6 (rcA c) := c6
 go_upto_region 2 with fail
 try simp only [gelS]
 try have lx_r2 := r2.lt
 try have lx_m3 := m3.lt
 try have lx_r4 := r4.lt
 try have lx_c6 := c6.lt
 refine wp_region_RL 11 [(1, detS ?v2_1), (6, detS ?v2_6), (8, detS ?v2_8)] (by kernel_rfl) (by kernel_rfl) (by kernel_rfl) ?_
 rotate_left 3
 simp only [takS, Nat.reduceAdd]
 refine wpRL_chunk 1 (by kernel_rfl) ?_
 simp only [takS, Nat.reduceAdd]
 repeat (first | go_big_quiet_skip | (go_big_quiet_want; first | (refine quiet_loadAny (t := 30) rfl _ _ _ rfl (fun w hw => run_load_imR (ov_B m3 w hw)) (by first | rfl | omega) ?_; simp only [putS]; go_big_quiet_on) | (refine quiet_loadAny (t := 30) rfl _ _ _ rfl (fun w hw => run_load_B (ov_B c6 w hw) Tryz.isAgg30 (by kernel_rfl)) (by rfl) ?_; simp only [putS]; go_big_quiet_on) | (go_big_quiet_op; go_big_quiet_on)))
 refine wpQuiet_nil ?_
 refine wpRL_callB (by rfl) (by first | rfl | simp [Region.wanted, yielded]) ?_ ?_
 ·intro wn hbn hE Kx hKx
  have hsz := B.size
  have hzn := hbn.size
  replace B := B.trans (hbn.mono B.size)
  (try replace m3 := m3.below hbn)
  (try replace r4 := r4.below hbn)
  (try replace c6 := c6.below hbn)
  refine wp_callF rfl (enters_of Tryz.func102 (by kernel_rfl) rfl) (by simp only [Act.eval, evlS]; rfl) ?_
  refine (P_ValidRB c true _ hV0).mono ?_
  rintro e wm ⟨rfl, hbm⟩
  refine ⟨_, rfl, ?_⟩
  have hz := hKx () wm trivial hbm
  dsimp only [detS] at hz
  exact hz
 rintro ⟨⟩
 dsimp only [detS]
 simp only [putS]
 refine wpRL_chunk 4 (by kernel_rfl) ?_
 simp only [takS, Nat.reduceAdd]
 repeat (first | go_big_quiet_skip | (go_big_quiet_want; first | (refine quiet_loadAny (t := 99) rfl _ _ _ rfl (fun w hw => run_load_slp (imgC_u (ov_B m3 w hw))) (by first | rfl | omega) ?_; simp only [putS]; go_big_quiet_on) | (go_big_quiet_op; go_big_quiet_on)))
 refine wpQuiet_nil ?_
 refine wpRL_callB (by rfl) ?hw2_6 ?_ ?_
 case hw2_6 => kernel_rfl
 ·intro wn hbn hE Kx hKx
  have hsz := B.size
  have hzn := hbn.size
  replace B := B.trans (hbn.mono B.size)
  (try replace m3 := m3.below hbn)
  (try replace r4 := r4.below hbn)
  (try replace c6 := c6.below hbn)
  refine wp_lenS rfl Tryz.underlying99 rfl ?_
  exact hKx () _ trivial (Below.refl _ _)
 rintro ⟨⟩
 dsimp only [detS]
 simp only [putS]
 refine wpRL_chunk 1 (by kernel_rfl) ?_
 simp only [takS, Nat.reduceAdd]
 repeat (first | go_big_quiet_skip | (go_big_quiet_want; first | (refine quiet_loadAny (t := 30) rfl _ _ _ rfl (fun w hw => run_load_imR (ov_B m3 w hw)) (by first | rfl | omega) ?_; simp only [putS]; go_big_quiet_on) | (refine quiet_loadAny (t := 30) rfl _ _ _ rfl (fun w hw => run_load_B (ov_B c6 w hw) Tryz.isAgg30 (by kernel_rfl)) (by rfl) ?_; simp only [putS]; go_big_quiet_on) | (go_big_quiet_op; go_big_quiet_on)))
 refine wpQuiet_nil ?_
 refine wpRL_callB (by rfl) ?hw2_8 ?_ ?_
 case hw2_8 => kernel_rfl
 ·intro wn hbn hE Kx hKx
  have hsz := B.size
  have hzn := hbn.size
  replace B := B.trans (hbn.mono B.size)
  (try replace r4 := r4.below hbn)
  refine wp_callF rfl (enters_of Tryz.func103 (by kernel_rfl) rfl) (by simp only [Act.eval, evlS]; rfl) ?_
  refine (P_AreaB c A _ hV0 HA.out).mono ?_
  rintro e wm ⟨rfl, hbm⟩
  refine ⟨_, rfl, ?_⟩
  have hz := hKx () wm trivial hbm
  dsimp only [detS] at hz
  exact hz
 rintro ⟨⟩
 dsimp only [detS]
 simp only [putS]
 refine wpRL_chunk 2 (by kernel_rfl) ?_
 simp only [takS, Nat.reduceAdd]
 repeat (first | go_big_quiet_skip | (go_big_quiet_want; go_big_quiet_op; go_big_quiet_on))
 refine wpQuiet_nil ?_
 refine wpRL_nil ?_
 intro wn hbn hE
 have hsz := B.size
 have hzn := hbn.size
 replace B := B.trans (hbn.mono B.size)
 (try replace r4 := r4.below hbn)
 clear hE
 try simp only [List.drop_succ_cons, List.drop_zero]
 refine NoPan.normal ?_
 go_upto_region 3 with fail
 refine wp_region_lit ?_
 try simp only [gelS]
 refine wpList_chunk 1 (by kernel_rfl) ?_
 simp only [takS, Nat.reduceAdd]
 repeat (first | go_big_quiet_skip | (go_big_quiet_want; go_big_quiet_op; go_big_quiet_on))
 refine wpQuiet_nil ?_
 (refine wpList_storeB (t := 34) rfl _ _ rfl _ rfl _ rfl r4 (by kernel_rfl) rfl (by simp [rcA, imgC, Value.oneCell']) ?_; clear r4; intro wn ht hcn hzn; have hsz := B.size; replace hzn := Nat.le_of_eq hzn.symm; replace B := Chg.below B hcn (by omega) B.size; have r4 := ht; clear ht; simp only [putS])
 refine wpList_chunk 1 (by kernel_rfl) ?_
 simp only [takS, Nat.reduceAdd]
 repeat (first | go_big_quiet_skip | (go_big_quiet_want; go_big_quiet_op; go_big_quiet_on))
 refine wpQuiet_nil ?_
 refine wpList_nil ?_
 go_wp2
 refine bodyPost_ret (results_B2 (t := 34) rfl _ _ (b_r4) rfl _ rfl r4 Tryz.isAgg34 (by kernel_rfl)) rfl ?_
 exact ⟨rfl, B⟩
set_option maxHeartbeats 4000000 in
theorem P_Paste_big (v : Value) (ls : List TA) (c : Rc) (ad : Option Addr) (n cp : Nat) (w : World) (h : RS v ls w) (hn : n ≤ maxLen) (hV0 : validR c = true) (hA : areaR c = (n : Int)) (e0 : Int) (hF : fitsE c = e0) (h0 : ¬ e0 = 0) : Calls Tryz.prog 68 #[.agg #[v], .agg (imgC c (.slice ad n cp))] w fun e w' => e = .returned (.tuple #[.agg #[.slice none 0 0], .int .i64 e0]) ∧ Below w.heap.size w w' := by
 have B := Below.refl w.heap.size w
 obtain ⟨a, cpv, rfl, hc⟩ := h.len
 have d1 : ((n : Int) != (n : Int)) = false := by simp
 have d2 : (e0 != 0) = true := by simpa using h0
 have HA := Lib.hid hA
 have HF := Lib.hid hF
 clear h hA hF
 go_enter Tryz.func68, Tryz.ntmps68
 go_upto_region 0 with fail
 refine wp_region_lit ?_
 try simp only [gelS]
 (refine wpList_boxB (t := 34) rfl _ rfl _ rfl ?_; intro b_r2 wn hle hge ht hbn hzn; have hsz := B.size; replace B := B.trans (hbn.mono (by omega)); have hln := Nat.lt_of_lt_of_eq (Nat.lt_succ_self _) hzn.symm; clear hzn; have r2 := ht; clear ht; simp only [putS])
 (refine wpList_boxB (t := 101) rfl _ rfl _ rfl ?_; intro b_m3 wn hle hge ht hbn hzn; have hsz := B.size; replace B := B.trans (hbn.mono (by omega)); have hln := Nat.lt_of_lt_of_eq (Nat.lt_succ_self _) hzn.symm; clear hzn; (try have hlt := r2.lt); (try replace r2 := r2.below (hbn.mono hle)); have m3 := ht; clear ht; simp only [putS])
 (refine wpList_allocBk (t := 34) rfl _ (run_alloc_R _ _ rfl) ?_; intro b_r4 wn hle hge ht hbn hzn; have hsz := B.size; replace B := B.trans (hbn.mono (by omega)); have hln := Nat.lt_of_lt_of_eq (Nat.lt_succ_self _) hzn.symm; clear hzn; (try have hlt := r2.lt); (try replace r2 := r2.below (hbn.mono hle)); (try have hlt := m3.lt); (try replace m3 := m3.below (hbn.mono hle)); have r4 := ht; clear ht; simp only [putS])
 refine wpList_chunk 1 (by kernel_rfl) ?_
 simp only [takS, Nat.reduceAdd]
 repeat (first | go_big_quiet_skip | (go_big_quiet_want; go_big_quiet_op; go_big_quiet_on))
 refine wpQuiet_nil ?_
 refine wpList_nil ?_
 go_upto_region 1 with fail
 refine wp_region_lit ?_
 try simp only [gelS]
 refine wpList_chunk 2 (by kernel_rfl) ?_
 simp only [takS, Nat.reduceAdd]
 repeat (first | go_big_quiet_skip | (go_big_quiet_want; first | (refine quiet_loadAny (t := 30) rfl _ _ _ rfl (fun w hw => run_load_imR (ov_B m3 w hw)) (by first | rfl | omega) ?_; simp only [putS]; go_big_quiet_on) | (refine quiet_loadAny (t := 30) rfl _ _ _ rfl (fun w hw => run_load_B (ov_B c6 w hw) Tryz.isAgg30 (by kernel_rfl)) (by rfl) ?_; simp only [putS]; go_big_quiet_on) | (go_big_quiet_op; go_big_quiet_on)))
 refine wpQuiet_nil ?_
 (refine wpList_allocBk (t := 30) rfl _ (run_alloc_Rc _ _ rfl) ?_; intro b_c6 wn hle hge ht hbn hzn; have hsz := B.size; replace B := B.trans (hbn.mono (by omega)); have hln := Nat.lt_of_lt_of_eq (Nat.lt_succ_self _) hzn.symm; clear hzn; (try have hlt := r2.lt); (try replace r2 := r2.below (hbn.mono hle)); (try have hlt := m3.lt); (try replace m3 := m3.below (hbn.mono hle)); (try have hlt := r4.lt); (try replace r4 := r4.below (hbn.mono hle)); (try have hlt := c6.lt); (try replace c6 := c6.below (hbn.mono hle)); have c6 := ht; clear ht; simp only [putS])
 (refine wpList_storeB (t := 30) rfl _ _ rfl _ rfl _ rfl c6 (by kernel_rfl) rfl (by simp [rcA, imgC, Value.oneCell']) ?_; clear c6; intro wn ht hcn hzn; have hsz := B.size; replace hzn := Nat.le_of_eq hzn.symm; replace B := Chg.below B hcn (by omega) B.size; (try replace r2 := r2.of_eq (hcn.block _ r2.lt (by omega))); (try replace m3 := m3.of_eq (hcn.block _ m3.lt (by omega))); (try replace r4 := r4.of_eq (hcn.block _ r4.lt (by omega))); have c6 := ht; clear ht; simp only [putS])
 refine wpList_nil ?_
 replace c6 : AtB 30 _ b_c6 (rcA c) := c6
 go_upto_region 2 with fail
 try simp only [gelS]
 try have lx_r2 := r2.lt
 try have lx_m3 := m3.lt
 try have lx_r4 := r4.lt
 try have lx_c6 := c6.lt
 refine wp_region_RL 11 [(1, detS ?v3_1), (6, detS ?v3_6), (8, detS ?v3_8)] (by kernel_rfl) (by kernel_rfl) (by kernel_rfl) ?_
 rotate_left 3
 simp only [takS, Nat.reduceAdd]
 refine wpRL_chunk 1 (by kernel_rfl) ?_
 simp only [takS, Nat.reduceAdd]
 repeat (first | go_big_quiet_skip | (go_big_quiet_want; first | (refine quiet_loadAny (t := 30) rfl _ _ _ rfl (fun w hw => run_load_imR (ov_B m3 w hw)) (by first | rfl | omega) ?_; simp only [putS]; go_big_quiet_on) | (refine quiet_loadAny (t := 30) rfl _ _ _ rfl (fun w hw => run_load_B (ov_B c6 w hw) Tryz.isAgg30 (by kernel_rfl)) (by rfl) ?_; simp only [putS]; go_big_quiet_on) | (go_big_quiet_op; go_big_quiet_on)))
 refine wpQuiet_nil ?_
 refine wpRL_callB (by rfl) (by first | rfl | simp [Region.wanted, yielded]) ?_ ?_
 ·intro wn hbn hE Kx hKx
  have hsz := B.size
  have hzn := hbn.size
  replace B := B.trans (hbn.mono B.size)
  (try replace m3 := m3.below hbn)
  (try replace r4 := r4.below hbn)
  (try replace c6 := c6.below hbn)
  refine wp_callF rfl (enters_of Tryz.func102 (by kernel_rfl) rfl) (by simp only [Act.eval, evlS]; rfl) ?_
  refine (P_ValidRB c true _ hV0).mono ?_
  rintro e wm ⟨rfl, hbm⟩
  refine ⟨_, rfl, ?_⟩
  have hz := hKx () wm trivial hbm
  dsimp only [detS] at hz
  exact hz
 rintro ⟨⟩
 dsimp only [detS]
 simp only [putS]
 refine wpRL_chunk 4 (by kernel_rfl) ?_
 simp only [takS, Nat.reduceAdd]
 repeat (first | go_big_quiet_skip | (go_big_quiet_want; first | (refine quiet_loadAny (t := 99) rfl _ _ _ rfl (fun w hw => run_load_slp (imgC_u (ov_B m3 w hw))) (by first | rfl | omega) ?_; simp only [putS]; go_big_quiet_on) | (go_big_quiet_op; go_big_quiet_on)))
 refine wpQuiet_nil ?_
 refine wpRL_callB (by rfl) ?hw3_6 ?_ ?_
 case hw3_6 => kernel_rfl
 ·intro wn hbn hE Kx hKx
  have hsz := B.size
  have hzn := hbn.size
  replace B := B.trans (hbn.mono B.size)
  (try replace m3 := m3.below hbn)
  (try replace r4 := r4.below hbn)
  (try replace c6 := c6.below hbn)
  refine wp_lenS rfl Tryz.underlying99 rfl ?_
  exact hKx () _ trivial (Below.refl _ _)
 rintro ⟨⟩
 dsimp only [detS]
 simp only [putS]
 refine wpRL_chunk 1 (by kernel_rfl) ?_
 simp only [takS, Nat.reduceAdd]
 repeat (first | go_big_quiet_skip | (go_big_quiet_want; first | (refine quiet_loadAny (t := 30) rfl _ _ _ rfl (fun w hw => run_load_imR (ov_B m3 w hw)) (by first | rfl | omega) ?_; simp only [putS]; go_big_quiet_on) | (refine quiet_loadAny (t := 30) rfl _ _ _ rfl (fun w hw => run_load_B (ov_B c6 w hw) Tryz.isAgg30 (by kernel_rfl)) (by rfl) ?_; simp only [putS]; go_big_quiet_on) | (go_big_quiet_op; go_big_quiet_on)))
 refine wpQuiet_nil ?_
 refine wpRL_callB (by rfl) ?hw3_8 ?_ ?_
 case hw3_8 => kernel_rfl
 ·intro wn hbn hE Kx hKx
  have hsz := B.size
  have hzn := hbn.size
  replace B := B.trans (hbn.mono B.size)
  (try replace m3 := m3.below hbn)
  (try replace r4 := r4.below hbn)
  (try replace c6 := c6.below hbn)
  refine wp_callF rfl (enters_of Tryz.func103 (by kernel_rfl) rfl) (by simp only [Act.eval, evlS]; rfl) ?_
  refine (P_AreaB c (n : Int) _ hV0 HA.out).mono ?_
  rintro e wm ⟨rfl, hbm⟩
  refine ⟨_, rfl, ?_⟩
  have hz := hKx () wm trivial hbm
  dsimp only [detS] at hz
  exact hz
 rintro ⟨⟩
 dsimp only [detS]
 simp only [putS]
 refine wpRL_chunk 2 (by kernel_rfl) ?_
 simp only [takS, Nat.reduceAdd]
 repeat (first | go_big_quiet_skip | (go_big_quiet_want; go_big_quiet_op; go_big_quiet_on))
 refine wpQuiet_nil ?_
 refine wpRL_nil ?_
 intro wn hbn hE
 have hsz := B.size
 have hzn := hbn.size
 replace B := B.trans (hbn.mono B.size)
 (try replace m3 := m3.below hbn)
 (try replace r4 := r4.below hbn)
 (try replace c6 := c6.below hbn)
 clear hE
 try simp only [List.drop_succ_cons, List.drop_zero]
 refine NoPan.normal ?_
 go_upto_region 4 with fail
 refine wp_region_lit ?_
 try simp only [gelS]
 refine wpList_chunk 1 (by kernel_rfl) ?_
 simp only [takS, Nat.reduceAdd]
 repeat (first | go_big_quiet_skip | (go_big_quiet_want; first | (refine quiet_loadAny (t := 30) rfl _ _ _ rfl (fun w hw => run_load_imR (ov_B m3 w hw)) (by first | rfl | omega) ?_; simp only [putS]; go_big_quiet_on) | (refine quiet_loadAny (t := 30) rfl _ _ _ rfl (fun w hw => run_load_B (ov_B c6 w hw) Tryz.isAgg30 (by kernel_rfl)) (by rfl) ?_; simp only [putS]; go_big_quiet_on) | (go_big_quiet_op; go_big_quiet_on)))
 refine wpQuiet_nil ?_
 refine wpList_callF (by first | rfl | simp [Region.wanted, yielded]) rfl (enters_of Tryz.func104 (by kernel_rfl) rfl) (by simp only [Act.eval, evlS]; rfl) ?_
 refine (P_fitsB c e0 _ HF.out).mono ?_
 rintro e wn ⟨rfl, hbn⟩
 have hsz := B.size
 have hzn := hbn.size
 replace B := B.trans (hbn.mono B.size)
 (try replace r4 := r4.below hbn)
 refine ⟨_, rfl, ?_⟩
 simp only [putS]
 refine wpList_chunk 1 (by kernel_rfl) ?_
 simp only [takS, Nat.reduceAdd]
 repeat (first | go_big_quiet_skip | (go_big_quiet_want; go_big_quiet_op; go_big_quiet_on))
 refine wpQuiet_nil ?_
 refine wpList_nil ?_
 go_upto_region 5 with fail
 refine wp_region_lit ?_
 try simp only [gelS]
 refine wpList_chunk 2 (by kernel_rfl) ?_
 simp only [takS, Nat.reduceAdd]
 repeat (first | go_big_quiet_skip | (go_big_quiet_want; go_big_quiet_op; go_big_quiet_on))
 refine wpQuiet_nil ?_
 refine wpList_nil ?_
 go_upto_region 6 with fail
 refine wp_region_lit ?_
 try simp only [gelS]
 refine wpList_chunk 2 (by kernel_rfl) ?_
 simp only [takS, Nat.reduceAdd]
 repeat (first | go_big_quiet_skip | (go_big_quiet_want; go_big_quiet_op; go_big_quiet_on))
 refine wpQuiet_nil ?_
 (refine wpList_storeB (t := 34) rfl _ _ rfl _ rfl _ rfl r4 (by kernel_rfl) rfl (by simp [rcA, imgC, Value.oneCell']) ?_; clear r4; intro wn ht hcn hzn; have hsz := B.size; replace hzn := Nat.le_of_eq hzn.symm; replace B := Chg.below B hcn (by omega) B.size; have r4 := ht; clear ht; simp only [putS])
 refine wpList_chunk 1 (by kernel_rfl) ?_
 simp only [takS, Nat.reduceAdd]
 repeat (first | go_big_quiet_skip | (go_big_quiet_want; go_big_quiet_op; go_big_quiet_on))
 refine wpQuiet_nil ?_
 refine wpList_nil ?_
 go_wp2
 refine bodyPost_ret (results_B2 (t := 34) rfl _ _ (b_r4) rfl _ rfl r4 Tryz.isAgg34 (by kernel_rfl)) rfl ?_
 exact ⟨rfl, B⟩
end Go.Proofs.YtamgpfblhlfhaaaGreat
/- A range over a function whose loop variable lies in memory: the round's head makes its block. -/
namespace Go.Proofs.YtamgpfblhlfhaaaGreat
open Go Go.RowKit
set_option linter.unusedVariables false
set_option linter.unusedSimpArgs false
section
variable {F : Fence} {n : Nat} {P : Program}
/-- The statement 'for x := range seq { .. }' whose head may lay new blocks: 'As x' says what the head leaves. -/
theorem rangeFunc_made {α : Type} {g : Operand} {ps : Array Tmp} {assign body : Code} {Q : Exit → Act → World → Prop} {a : Act} {w : World}
  (hro : F.round = none) (h1 : 1 ≤ n) {gf : Nat} {lb : Array Value} (hg : a.eval g = .func (.func gf) #[] lb) (hFg : F.fn gf) (eg : ∀ args w, (callFunc gf args).run P w = .ok (.enter gf args) w)
  {encs : α → Array Value} {Kp : World → World → Prop} {S Sp : List α → Prop} {N : Nat} {w0 : World} (hseq : SeqStopsK F (n - 1) P gf lb encs Kp S Sp N w0)
  (hKt : ∀ {A B C : World}, Kp A B → Kp B C → Kp A C) (hKb : ∀ (W : World) (l : Nat) (o o' : Obj), w.heap.size ≤ l → W.heap[l]? = some o → o.isCells = false → o.isWalk = false → Kp W (W.putObj l o'))
  (hKg : ∀ (A B : World), Below A.heap.size A B → Kp A B) (hb0 : Below w0.heap.size w0 w) (hps : ∀ x, (encs x).size = ps.size)
  (I : List α → World → Prop) (hI : OwnFrom w.heap.size I) (h0 : I [] w) (As : α → Act → World → Prop) (hAs : ∀ x, OwnFrom w.heap.size (As x))
  (hassign : ∀ (l : Nat) (pre : List α) (x : α) (W : World) (K : Act → World → Prop), I pre W → (∀ a' W', Below W.heap.size W W' → As x a' W' → K a' W') →
   assign.wpIn (F.inRound l) (n - 1 - 1) P (Exit.then K (fun _ _ _ => False)) { tmps := (ps.zip (encs x)).foldl (fun t (p, v) => t.setIfInBounds p v) a.tmps, defers := [] } W)
  (hbody : ∀ (l : Nat) (pre : List α) (x : α) (W : World) (a' : Act), I pre W → As x a' W → pre.length < N → body.wpIn (F.inRound l) (n - 1 - 1) P (ownPostK Kp I (fun _ _ _ => False) (pre ++ [x]) W) a' W)
  (hdone : ∀ (D : Nat) (xs : List α) (W : World), w.heap.size ≤ D → S xs → I xs W → W.heap[D]? = some (.deferred (some [])) → Q .normal { a with defers := { target := .collected D, args := #[] } :: a.defers } W) :
  (Code.rangeFunc g ps assign body).wpIn F n P Q a w := by
 refine wpIn_rangeFunc fun fn hfn => ?_
 rw [hro]
 obtain ⟨rc, hrc⟩ : ∃ rc : LoopState → Option Code → Loop, rc = fun st pe => { state := st, pending := pe, fn, tmps := a.tmps, params := ps, assign, body, defers := w.heap.size } := ⟨_, rfl⟩
 obtain ⟨W1, hW1⟩ : ∃ W1, (w.alloc (.deferred (some []))).alloc (.loop (rc .ready none)) = W1 := ⟨_, rfl⟩
 have blkL : W1.heap[w.heap.size + 1]? = some (.loop (rc .ready none)) := by
  have := World.alloc_heap_new (w.alloc (.deferred (some []))) (.loop (rc .ready none))
  rw [← hW1]
  rwa [World.size_alloc] at this
 have blkD : W1.heap[w.heap.size]? = some (.deferred (some [])) := by
  rw [← hW1]
  exact (Below.heap_alloc _ _ _ (by simp)).trans (World.alloc_heap_new w _)
 have grown : Below w0.heap.size w0 W1 := by
  rw [← hW1]
  exact hb0.trans ((((Below.refl _ w).alloc (Nat.le_refl _) _).alloc (by simp) _).mono hb0.size)
 have szW1 : w.heap.size ≤ W1.heap.size := by rw [← hW1]; simp; omega
 have start : I [] W1 := by rw [← hW1]; exact hI.alloc _ (hI.alloc _ h0)
 refine ⟨w.heap.size + 1, [{ target := .collected w.heap.size, args := #[] }], W1, { target := .fn (.func gf) lb, args := #[.func (.yield (w.heap.size + 1)) #[] #[]] }, W1, gf,
  #[.func (.yield (w.heap.size + 1)) #[] #[]] ++ lb, W1, ?_, ?_, ?_, ?_, fun _ => h1, ?_⟩
 ·rw [← hW1, hrc]; exact run_enterLoop_outer _ _ _ _ _
 ·simp only [resolve, hg]
  simp [go_sem]
 ·intro f' hf'
  simp [Target.leads] at hf'
  subst hf'
  exact hFg
 ·simp [invoke, go_sem, eg]
 have walks : ∀ {A : World} {row : Option Nat}, (∀ r, row = some r → W1.heap.size ≤ r ∧ ∃ o : Obj, A.heap[r]? = some o ∧ o.isWalk = true) → (∀ r, row = some r → w.heap.size ≤ r ∧ ∃ o : Obj, A.heap[r]? = some o ∧ o.isCells = false) := fun hr r e => by
  obtain ⟨hB, o, ho, hw⟩ := hr r e
  exact ⟨by omega, o, ho, Obj.not_cells_of_walk hw⟩
 refine (hseq (w.heap.size + 1)
  (fun pre W => I pre W ∧ W.heap[w.heap.size + 1]? = some (.loop (rc .ready none)) ∧ W.heap[w.heap.size]? = some (.deferred (some [])))
  (fun _ _ => False) W1 grown
  (fun s A B row hs hg' hr => ⟨hI s A B row hs.1 hg' (walks hr), (grownBy_keeps hg' (fun r e => (hr r e).2) hs.2.1 rfl).trans hs.2.1, (grownBy_keeps hg' (fun r e => (hr r e).2) hs.2.2 rfl).trans hs.2.2⟩)
  (fun _ _ _ _ hs _ _ => hs) ?_ ⟨start, blkL, blkD⟩).mono ?_
 ·rintro pre x W ⟨hi, hl, hk⟩ hlen
  have hy := run_yield (P := P) (args := encs x) hl (by rw [hrc]; exact hps x)
  rw [hrc] at hy
  refine ⟨fn, _, assign, body, hy, roundIn_of_wpIn hfn (hassign _ pre x W _ hi fun a' V hb ha => ?_)⟩
  have hlV : V.heap[w.heap.size + 1]? = some (.loop (rc .ready none)) := (hb.block _ (Array.getElem?_eq_some_iff.1 hl).1).trans hl
  have hkV : V.heap[w.heap.size]? = some (.deferred (some [])) := (hb.block _ (Array.getElem?_eq_some_iff.1 hk).1).trans hk
  have hiV : I pre V := hI pre W V none hi (grown_of_below hb) (fun r e => by cases e)
  refine ⟨_, run_beginRound hlV (by rw [hrc]), ?_⟩
  obtain ⟨V1, hV1⟩ : ∃ V1, V.putObj (w.heap.size + 1) (.loop { rc .ready none with state := .busy }) = V1 := ⟨_, rfl⟩
  have hl1 : V1.heap[w.heap.size + 1]? = some (.loop { rc .ready none with state := .busy }) := by rw [← hV1]; exact World.putObj_heap_same (Array.getElem?_eq_some_iff.1 hlV).1
  have hk1 : V1.heap[w.heap.size]? = some (.deferred (some [])) := by rw [← hV1]; exact (World.putObj_heap_other (by omega)).trans hkV
  have hKp1 : Kp W V1 := hKt (hKg _ _ hb) (by rw [← hV1]; exact hKb _ _ _ _ (by omega) hlV rfl rfl)
  have hi1 : I pre V1 := by rw [← hV1]; exact hI.putObj _ hiV (by omega) hlV rfl
  have ha1 : As x a' V1 := by rw [← hV1]; exact (hAs x).putObj _ ha (by omega) hlV rfl
  rw [hV1]
  refine wpIn_mono (hbody _ pre x V1 a' hi1 ha1 hlen) ?_
  rintro e a3 W3 hp
  cases e with
  | normal =>
   obtain ⟨ko, kp, hi3⟩ := hp
   have hl3 := ko.same _ _ hl1 rfl
   have hk3 := ko.same _ _ hk1 rfl
   have he := run_endRound (P := P) none hl3
   rw [hrc] at he
   refine ⟨_, _, he, .inl ⟨rfl, ⟨hI.putObj _ hi3 (by omega) hl3 rfl, ?_, (World.putObj_heap_other (by omega)).trans hk3⟩, hKt (hKt hKp1 kp) (hKb _ _ _ _ (by omega) hl3 rfl rfl)⟩⟩
   rw [World.putObj_heap_same (Array.getElem?_eq_some_iff.1 hl3).1, hrc]
   rfl
  | ret => exact hp.2.elim
  | exit id => exact hp.2.elim
  | goto t => exact hp.2.elim
  | panic ch => exact hp.elim
  | outgrown => exact hp.elim
 ·rintro e W2 ⟨⟨v, rfl⟩, ⟨xs, hS, hi, hl, hk⟩ | ⟨_, _, hf⟩⟩
  ·have he := run_endLoop (P := P) hl (by rw [hrc]; simp)
   rw [hrc] at he
   exact ⟨none, _, he, hdone _ xs _ (Nat.le_refl _) hS (hI.putObj _ hi (by omega) hl rfl) ((World.putObj_heap_other (by omega)).trans hk)⟩
  ·exact hf.elim
end
section
variable {P : Program} {ops : Array Oper} {md : Region.Mode} {Q : Exit → Act → World → Prop} {S : World → Prop} {t0 f : Nat} {a : Act} {w : World} {T : Array Bool}
theorem anyX_three (i j k : Nat) {oi oj ok : Oper} (hi : ops[i]? = some oi) (hj : ops[j]? = some oj) (hk : ops[k]? = some ok) (hr : Region.ready md ops T = [i, j, k]) (hgi : oi.guard = none) (hgj : oj.guard = none) (hgk : ok.guard = none)
  (Hi : ∀ K : Act → World → Prop, (∀ a w, (i < t0 → S w) ∧ wpAnyX P md ops (NoPan Q) S t0 f (T.setIfInBounds i true) a w → K a w) → oi.wp P a w K (NoPan Q))
  (Hj : ∀ K : Act → World → Prop, (∀ a w, (j < t0 → S w) ∧ wpAnyX P md ops (NoPan Q) S t0 f (T.setIfInBounds j true) a w → K a w) → oj.wp P a w K (NoPan Q))
  (Hk : ∀ K : Act → World → Prop, (∀ a w, (k < t0 → S w) ∧ wpAnyX P md ops (NoPan Q) S t0 f (T.setIfInBounds k true) a w → K a w) → ok.wp P a w K (NoPan Q)) : wpAnyX P md ops (NoPan Q) S t0 (f + 1) T a w := by
 refine ⟨fun h => (by rw [hr] at h; cases h), fun n hn => ?_⟩
 rw [hr] at hn
 have hn : n = i ∨ n = j ∨ n = k := by simpa using hn
 rcases hn with rfl | rfl | rfl
 ·unfold wpOp
  rw [hi]
  simp only []
  rw [if_pos (by simp [Region.wanted, hgi])]
  exact .inl (Hi _ fun _ _ h => h)
 ·unfold wpOp
  rw [hj]
  simp only []
  rw [if_pos (by simp [Region.wanted, hgj])]
  exact .inl (Hj _ fun _ _ h => h)
 ·unfold wpOp
  rw [hk]
  simp only []
  rw [if_pos (by simp [Region.wanted, hgk])]
  exact .inl (Hk _ fun _ _ h => h)
end
/-- What keeps all but one block of cells, keeps whatever is no cells. -/
theorem KeepsOthers.chgB {b : Nat} {t : TypeId} {cs : Array Value} {W W' : World} (h : Chg b W W') (hb : AtB t W b cs) : KeepsOthers W W' :=
 ⟨h.size, fun k o hk ho => by
  by_cases e : k = b
  ·subst e
   rw [show W.heap[k]? = _ from hb] at hk
   cases hk
   cases ho
  ·exact (h.block k (Array.getElem?_eq_some_iff.1 hk).1 e).trans hk⟩
theorem KpB.below {b : Nat} {W W' : World} (h : Below W.heap.size W W') : KpB b W W' :=
 ⟨h.size, fun k o _ ho _ => (h.block k (Array.getElem?_eq_some_iff.1 ho).1).trans ho⟩
theorem RCells.own {g o : Nat} {ls : List TA} {A B : World} {row : Option Nat} (h : RCells g o ls A) (hn : 0 < ls.length) (hg : A.grownBy B row) (hr : ∀ r, row = some r → ∃ o : Obj, A.heap[r]? = some o ∧ o.isCells = false) : RCells g o ls B := by
 refine h.of_eq (hg.block g h.lt fun e => ?_)
 obtain ⟨x, hx, hc⟩ := hr g e.symm
 have h0 := h.2 0 hn 0 (by omega)
 have hs : ∃ v, (taC (aT ls 0))[0]? = some v := ⟨_, taC_x _⟩
 obtain ⟨v, hv⟩ := hs
 rw [hv] at h0
 have := cell_not h0 x hx
 rw [hc] at this
 cases this
theorem RS.own {v : Value} {ls : List TA} {A B : World} {row : Option Nat} (h : RS v ls A) (hg : A.grownBy B row) (hr : ∀ r, row = some r → ∃ o : Obj, A.heap[r]? = some o ∧ o.isCells = false) : RS v ls B := by
 rcases h with h | ⟨g, o, c, e, hc, sc⟩
 ·exact .inl h
 ·exact .inr ⟨g, o, c, e, hc, fun hn => (sc hn).own hn hg hr⟩
end Go.Proofs.YtamgpfblhlfhaaaGreat
/- The iterator over the tiles of a rectangle: its contract. -/
namespace Go.Proofs.YtamgpfblhlfhaaaGreat
open Go.RowKit Go.Shelf Pl
attribute [local go_sem] Oper.semAt_some
set_option linter.unusedVariables false
set_option linter.unusedSimpArgs false
set_option maxRecDepth 20000
/-- The first k of N. -/
def fpre (N k : Nat) : List (Fin N) := (List.finRange N).take k
theorem fpre_succ {N k : Nat} (h : k < N) : fpre N (k + 1) = fpre N k ++ [⟨k, h⟩] := by
 unfold fpre
 rw [List.take_succ_eq_append_getElem (by simp; omega)]
 simp
theorem fpre_length {N k : Nat} (h : k ≤ N) : (fpre N k).length = k := by unfold fpre; simp; omega
theorem fpre_zero (N : Nat) : fpre N 0 = [] := rfl
theorem fpre_all (N : Nat) : fpre N N = List.finRange N := by unfold fpre; rw [List.take_of_length_le (by simp)]
def posF (c : Rc) (i : Fin (tlN c)) : Int × Int := posP c i.val
theorem posF_all (c : Rc) : (List.finRange (tlN c)).map (posF c) = posL c := by
 unfold posL
 refine List.ext_getElem (by simp) fun i h1 h2 => ?_
 simp [posF]
set_option maxHeartbeats 4000000 in
theorem tiles_stops (c : Rc) (HF : Fits c) (bc b8 n : Nat) (hn1 : 1 ≤ n) (w : World) (r0 : AtB 30 w bc (rcA c)) (hb8 : b8 < w.heap.size) :
  SeqStopsK Fence.wide n Tryz.prog 128 #[.pointer (some ⟨bc, 0, none⟩)] (fun i : Fin (tlN c) => #[.agg #[.int .i64 (posF c i).1, .int .i64 (posF c i).2]]) (KpB b8) (fun xs => xs = List.finRange (tlN c)) (fun _ => True) (tlN c) w := fun l J Jx W0 hW hJa hJxa hY h0 => by
 have hb8 := Nat.lt_of_lt_of_le hb8 hW.size
 have r0 := r0.of_eq (hW.block _ r0.lt)
 have B := Below.refl W0.heap.size W0
 clear hW hJxa
 have hf := Lib.hid HF
 have HJ := Lib.hid (fun (W' : World) (hb : Below W0.heap.size W0 W') => AbidesFrom.below hJa h0 hb)
 have HY := Lib.hid hY
 clear h0 hJa hY
 obtain ⟨hew, hw0⟩ := area_wid (tl_fits HF)
 have hNle := tlN_le HF
 obtain ⟨f1, f2, f3, f4, f5, f6, f7, f8⟩ := HF
 have hE := Lib.hid (show emptyR c = false from (emptyR_not _).2 ⟨f1, f2⟩)
 obtain ⟨W, hW⟩ : ∃ W : Nat, (c.x1 - 1) / 8 + 1 - c.x0 / 8 = (W : Int) := ⟨((c.x1 - 1) / 8 + 1 - c.x0 / 8).toNat, by omega⟩
 obtain ⟨H, hH⟩ : ∃ H : Nat, (c.y1 - 1) / 8 + 1 - c.y0 / 8 = (H : Int) := ⟨((c.y1 - 1) / 8 + 1 - c.y0 / 8).toNat, by omega⟩
 have eW : widN (tlR c) = W := by unfold widN tlR; simp only; rw [hW]; exact Int.toNat_natCast _
 have eH : ((tlR c).y1 - (tlR c).y0).toNat = H := by unfold tlR; simp only; rw [hH]; exact Int.toNat_natCast _
 rw [eW, eH] at hew
 rw [eW] at hw0
 change tlN c = W * H at hew
 have HR := Lib.hid (fun (k j : Nat) (hj : j < W) => by
  have := tl_row (c := c) hf.out (k := k) (j := j) (by rw [eW]; exact hj)
  rw [eW] at this
  exact this)
 have wf1 := Lib.hid (show (Lit.int .i64 c.x0).wf = true from wf_mk (by omega) (by omega))
 have wf2 := Lib.hid (show (Lit.int .i64 c.y0).wf = true from wf_mk (by omega) (by omega))
 have wf3 := Lib.hid (show (Lit.int .i64 (c.x1 - 1)).wf = true from wf_mk (by omega) (by omega))
 have wf4 := Lib.hid (show (Lit.int .i64 (c.y1 - 1)).wf = true from wf_mk (by omega) (by omega))
 refine callsIn_wide.2 ?_
 show Calls Tryz.prog 128 #[.func (.yield l) #[] #[], .pointer (some ⟨bc, 0, none⟩)] W0 _
 go_enter Tryz.func128, Tryz.ntmps128
 go_upto_region 0 with fail
 refine wp_region_lit ?_
 try simp only [gelS]
 refine wpList_chunk 1 (by kernel_rfl) ?_
 simp only [takS, Nat.reduceAdd]
 repeat (first | go_big_quiet_skip | (go_big_quiet_want; first | (refine quiet_loadAny (t := 30) rfl _ _ _ rfl (fun w hw => run_load_B (ov_B r0 w hw) Tryz.isAgg30 (by kernel_rfl)) (by rfl) ?_; simp only [putS]; go_big_quiet_on) | (go_big_quiet_op; go_big_quiet_on)))
 refine wpQuiet_nil ?_
 refine wpList_callF (by first | rfl | simp [Region.wanted, yielded]) rfl (enters_of Tryz.func67 (by kernel_rfl) rfl) (by simp only [Act.eval, evlS]; rfl) ?_
 refine (P_EmptyB c false _ hE.out).mono ?_
 rintro e wn ⟨rfl, hbn⟩
 have hsz := B.size
 have hzn := hbn.size
 replace B := B.trans (hbn.mono B.size)
 (try replace r0 := r0.below hbn)
 refine ⟨_, rfl, ?_⟩
 simp only [putS]
 refine wpList_nil ?_
 have hsw := hbn.size
 go_upto_region 1 with fail
 have r0B := r0
 go_cut [3, 4] from 9 to 29 (fun s3 s4 wx => ∃ b_p3 b_p4, s3 = .pointer (some ⟨b_p3, 0, none⟩) ∧ s4 = .pointer (some ⟨b_p4, 0, none⟩) ∧ Below W0.heap.size W0 wx ∧ W0.heap.size ≤ b_p3 ∧ W0.heap.size ≤ b_p4 ∧ AtB 68 wx b_p3 #[.int .i64 (c.x0 / 8), .int .i64 (c.y0 / 8)] ∧ AtB 68 wx b_p4 #[.int .i64 ((c.x1 - 1) / 8), .int .i64 ((c.y1 - 1) / 8)])
 case first =>
  refine wp_region_X0 16 #[false, false, false, false, false, false, false, false, false, false, false, false, false, false, false, false, false, false] (by kernel_rfl) (by kernel_rfl) ?_
  intro wn hbn
  have hX := hbn
  have hsz := B.size
  have hzn := hbn.size
  replace B := B.trans (hbn.mono B.size)
  try replace r0 := r0.below hbn
  simp only [List.length_cons, List.length_nil, Nat.reduceAdd]
  refine anyX_take 0 rfl (by kernel_rfl) ⟨_, ov_of hX⟩ ?_
  intro K hK
  try simp only [gelS]
  (first | (refine quiet_loadAny (t := 30) rfl _ _ _ rfl (fun w hw => run_load_B (ov_B r0B w hw) Tryz.isAgg30 (by kernel_rfl)) (by rfl) ?_; simp only [putS]; go_big_quiet_on) | (refine quiet_loadAny (t := 3) rfl _ _ _ rfl (fun w hw => run_load_int ((ov_B r0B w hw).cellL 0 rfl)) (by rfl) ?_; simp only [putS]; go_big_quiet_on) | (refine quiet_loadAny (t := 3) rfl _ _ _ rfl (fun w hw => run_load_int ((ov_B r0B w hw).cellL 1 rfl)) (by rfl) ?_; simp only [putS]; go_big_quiet_on) | (refine quiet_loadAny (t := 3) rfl _ _ _ rfl (fun w hw => run_load_int ((ov_B r0B w hw).cellL 2 rfl)) (by rfl) ?_; simp only [putS]; go_big_quiet_on) | (refine quiet_loadAny (t := 3) rfl _ _ _ rfl (fun w hw => run_load_int ((ov_B r0B w hw).cellL 3 rfl)) (by rfl) ?_; simp only [putS]; go_big_quiet_on) | (go_big_quiet_op; go_big_quiet_on))
  simp only [putS]
  refine anyX_take 1 rfl (by kernel_rfl) ⟨_, ov_of hX⟩ ?_
  intro K hK
  try simp only [gelS]
  (first | (refine quiet_loadAny (t := 30) rfl _ _ _ rfl (fun w hw => run_load_B (ov_B r0B w hw) Tryz.isAgg30 (by kernel_rfl)) (by rfl) ?_; simp only [putS]; go_big_quiet_on) | (refine quiet_loadAny (t := 3) rfl _ _ _ rfl (fun w hw => run_load_int ((ov_B r0B w hw).cellL 0 rfl)) (by rfl) ?_; simp only [putS]; go_big_quiet_on) | (refine quiet_loadAny (t := 3) rfl _ _ _ rfl (fun w hw => run_load_int ((ov_B r0B w hw).cellL 1 rfl)) (by rfl) ?_; simp only [putS]; go_big_quiet_on) | (refine quiet_loadAny (t := 3) rfl _ _ _ rfl (fun w hw => run_load_int ((ov_B r0B w hw).cellL 2 rfl)) (by rfl) ?_; simp only [putS]; go_big_quiet_on) | (refine quiet_loadAny (t := 3) rfl _ _ _ rfl (fun w hw => run_load_int ((ov_B r0B w hw).cellL 3 rfl)) (by rfl) ?_; simp only [putS]; go_big_quiet_on) | (go_big_quiet_op; go_big_quiet_on))
  simp only [putS]
  refine anyX_take 2 rfl (by kernel_rfl) ⟨_, ov_of hX⟩ ?_
  intro K hK
  try simp only [gelS]
  (first | (refine quiet_loadAny (t := 30) rfl _ _ _ rfl (fun w hw => run_load_B (ov_B r0B w hw) Tryz.isAgg30 (by kernel_rfl)) (by rfl) ?_; simp only [putS]; go_big_quiet_on) | (refine quiet_loadAny (t := 3) rfl _ _ _ rfl (fun w hw => run_load_int ((ov_B r0B w hw).cellL 0 rfl)) (by rfl) ?_; simp only [putS]; go_big_quiet_on) | (refine quiet_loadAny (t := 3) rfl _ _ _ rfl (fun w hw => run_load_int ((ov_B r0B w hw).cellL 1 rfl)) (by rfl) ?_; simp only [putS]; go_big_quiet_on) | (refine quiet_loadAny (t := 3) rfl _ _ _ rfl (fun w hw => run_load_int ((ov_B r0B w hw).cellL 2 rfl)) (by rfl) ?_; simp only [putS]; go_big_quiet_on) | (refine quiet_loadAny (t := 3) rfl _ _ _ rfl (fun w hw => run_load_int ((ov_B r0B w hw).cellL 3 rfl)) (by rfl) ?_; simp only [putS]; go_big_quiet_on) | (go_big_quiet_op; go_big_quiet_on))
  simp only [putS]
  refine anyX_take 3 rfl (by kernel_rfl) ⟨_, ov_of hX⟩ ?_
  intro K hK
  try simp only [gelS]
  (first | (refine quiet_loadAny (t := 30) rfl _ _ _ rfl (fun w hw => run_load_B (ov_B r0B w hw) Tryz.isAgg30 (by kernel_rfl)) (by rfl) ?_; simp only [putS]; go_big_quiet_on) | (refine quiet_loadAny (t := 3) rfl _ _ _ rfl (fun w hw => run_load_int ((ov_B r0B w hw).cellL 0 rfl)) (by rfl) ?_; simp only [putS]; go_big_quiet_on) | (refine quiet_loadAny (t := 3) rfl _ _ _ rfl (fun w hw => run_load_int ((ov_B r0B w hw).cellL 1 rfl)) (by rfl) ?_; simp only [putS]; go_big_quiet_on) | (refine quiet_loadAny (t := 3) rfl _ _ _ rfl (fun w hw => run_load_int ((ov_B r0B w hw).cellL 2 rfl)) (by rfl) ?_; simp only [putS]; go_big_quiet_on) | (refine quiet_loadAny (t := 3) rfl _ _ _ rfl (fun w hw => run_load_int ((ov_B r0B w hw).cellL 3 rfl)) (by rfl) ?_; simp only [putS]; go_big_quiet_on) | (go_big_quiet_op; go_big_quiet_on))
  simp only [putS]
  refine anyX_take 4 rfl (by kernel_rfl) ⟨_, ov_of hX⟩ ?_
  intro K hK
  try simp only [gelS]
  (first | (refine quiet_loadAny (t := 30) rfl _ _ _ rfl (fun w hw => run_load_B (ov_B r0B w hw) Tryz.isAgg30 (by kernel_rfl)) (by rfl) ?_; simp only [putS]; go_big_quiet_on) | (refine quiet_loadAny (t := 3) rfl _ _ _ rfl (fun w hw => run_load_int ((ov_B r0B w hw).cellL 0 rfl)) (by rfl) ?_; simp only [putS]; go_big_quiet_on) | (refine quiet_loadAny (t := 3) rfl _ _ _ rfl (fun w hw => run_load_int ((ov_B r0B w hw).cellL 1 rfl)) (by rfl) ?_; simp only [putS]; go_big_quiet_on) | (refine quiet_loadAny (t := 3) rfl _ _ _ rfl (fun w hw => run_load_int ((ov_B r0B w hw).cellL 2 rfl)) (by rfl) ?_; simp only [putS]; go_big_quiet_on) | (refine quiet_loadAny (t := 3) rfl _ _ _ rfl (fun w hw => run_load_int ((ov_B r0B w hw).cellL 3 rfl)) (by rfl) ?_; simp only [putS]; go_big_quiet_on) | (go_big_quiet_op; go_big_quiet_on))
  simp only [putS]
  refine anyX_take 6 rfl (by kernel_rfl) ⟨_, ov_of hX⟩ ?_
  intro K hK
  try simp only [gelS]
  (first | (refine quiet_loadAny (t := 30) rfl _ _ _ rfl (fun w hw => run_load_B (ov_B r0B w hw) Tryz.isAgg30 (by kernel_rfl)) (by rfl) ?_; simp only [putS]; go_big_quiet_on) | (refine quiet_loadAny (t := 3) rfl _ _ _ rfl (fun w hw => run_load_int ((ov_B r0B w hw).cellL 0 rfl)) (by rfl) ?_; simp only [putS]; go_big_quiet_on) | (refine quiet_loadAny (t := 3) rfl _ _ _ rfl (fun w hw => run_load_int ((ov_B r0B w hw).cellL 1 rfl)) (by rfl) ?_; simp only [putS]; go_big_quiet_on) | (refine quiet_loadAny (t := 3) rfl _ _ _ rfl (fun w hw => run_load_int ((ov_B r0B w hw).cellL 2 rfl)) (by rfl) ?_; simp only [putS]; go_big_quiet_on) | (refine quiet_loadAny (t := 3) rfl _ _ _ rfl (fun w hw => run_load_int ((ov_B r0B w hw).cellL 3 rfl)) (by rfl) ?_; simp only [putS]; go_big_quiet_on) | (go_big_quiet_op; go_big_quiet_on))
  simp only [putS]
  refine anyX_take 7 rfl (by kernel_rfl) ⟨_, ov_of hX⟩ ?_
  intro K hK
  try simp only [gelS]
  (first | (refine quiet_loadAny (t := 30) rfl _ _ _ rfl (fun w hw => run_load_B (ov_B r0B w hw) Tryz.isAgg30 (by kernel_rfl)) (by rfl) ?_; simp only [putS]; go_big_quiet_on) | (refine quiet_loadAny (t := 3) rfl _ _ _ rfl (fun w hw => run_load_int ((ov_B r0B w hw).cellL 0 rfl)) (by rfl) ?_; simp only [putS]; go_big_quiet_on) | (refine quiet_loadAny (t := 3) rfl _ _ _ rfl (fun w hw => run_load_int ((ov_B r0B w hw).cellL 1 rfl)) (by rfl) ?_; simp only [putS]; go_big_quiet_on) | (refine quiet_loadAny (t := 3) rfl _ _ _ rfl (fun w hw => run_load_int ((ov_B r0B w hw).cellL 2 rfl)) (by rfl) ?_; simp only [putS]; go_big_quiet_on) | (refine quiet_loadAny (t := 3) rfl _ _ _ rfl (fun w hw => run_load_int ((ov_B r0B w hw).cellL 3 rfl)) (by rfl) ?_; simp only [putS]; go_big_quiet_on) | (go_big_quiet_op; go_big_quiet_on))
  simp only [putS]
  refine anyX_take 8 rfl (by kernel_rfl) ⟨_, ov_of hX⟩ ?_
  intro K hK
  try simp only [gelS]
  (first | (refine quiet_loadAny (t := 30) rfl _ _ _ rfl (fun w hw => run_load_B (ov_B r0B w hw) Tryz.isAgg30 (by kernel_rfl)) (by rfl) ?_; simp only [putS]; go_big_quiet_on) | (refine quiet_loadAny (t := 3) rfl _ _ _ rfl (fun w hw => run_load_int ((ov_B r0B w hw).cellL 0 rfl)) (by rfl) ?_; simp only [putS]; go_big_quiet_on) | (refine quiet_loadAny (t := 3) rfl _ _ _ rfl (fun w hw => run_load_int ((ov_B r0B w hw).cellL 1 rfl)) (by rfl) ?_; simp only [putS]; go_big_quiet_on) | (refine quiet_loadAny (t := 3) rfl _ _ _ rfl (fun w hw => run_load_int ((ov_B r0B w hw).cellL 2 rfl)) (by rfl) ?_; simp only [putS]; go_big_quiet_on) | (refine quiet_loadAny (t := 3) rfl _ _ _ rfl (fun w hw => run_load_int ((ov_B r0B w hw).cellL 3 rfl)) (by rfl) ?_; simp only [putS]; go_big_quiet_on) | (go_big_quiet_op; go_big_quiet_on))
  simp only [putS]
  refine anyX_take 9 rfl (by kernel_rfl) ⟨_, ov_of hX⟩ ?_
  intro K hK
  try simp only [gelS]
  (first | (refine quiet_loadAny (t := 30) rfl _ _ _ rfl (fun w hw => run_load_B (ov_B r0B w hw) Tryz.isAgg30 (by kernel_rfl)) (by rfl) ?_; simp only [putS]; go_big_quiet_on) | (refine quiet_loadAny (t := 3) rfl _ _ _ rfl (fun w hw => run_load_int ((ov_B r0B w hw).cellL 0 rfl)) (by rfl) ?_; simp only [putS]; go_big_quiet_on) | (refine quiet_loadAny (t := 3) rfl _ _ _ rfl (fun w hw => run_load_int ((ov_B r0B w hw).cellL 1 rfl)) (by rfl) ?_; simp only [putS]; go_big_quiet_on) | (refine quiet_loadAny (t := 3) rfl _ _ _ rfl (fun w hw => run_load_int ((ov_B r0B w hw).cellL 2 rfl)) (by rfl) ?_; simp only [putS]; go_big_quiet_on) | (refine quiet_loadAny (t := 3) rfl _ _ _ rfl (fun w hw => run_load_int ((ov_B r0B w hw).cellL 3 rfl)) (by rfl) ?_; simp only [putS]; go_big_quiet_on) | (go_big_quiet_op; go_big_quiet_on))
  simp only [putS]
  refine anyX_take 10 rfl (by kernel_rfl) ⟨_, ov_of hX⟩ ?_
  intro K hK
  try simp only [gelS]
  (first | (refine quiet_loadAny (t := 30) rfl _ _ _ rfl (fun w hw => run_load_B (ov_B r0B w hw) Tryz.isAgg30 (by kernel_rfl)) (by rfl) ?_; simp only [putS]; go_big_quiet_on) | (refine quiet_loadAny (t := 3) rfl _ _ _ rfl (fun w hw => run_load_int ((ov_B r0B w hw).cellL 0 rfl)) (by rfl) ?_; simp only [putS]; go_big_quiet_on) | (refine quiet_loadAny (t := 3) rfl _ _ _ rfl (fun w hw => run_load_int ((ov_B r0B w hw).cellL 1 rfl)) (by rfl) ?_; simp only [putS]; go_big_quiet_on) | (refine quiet_loadAny (t := 3) rfl _ _ _ rfl (fun w hw => run_load_int ((ov_B r0B w hw).cellL 2 rfl)) (by rfl) ?_; simp only [putS]; go_big_quiet_on) | (refine quiet_loadAny (t := 3) rfl _ _ _ rfl (fun w hw => run_load_int ((ov_B r0B w hw).cellL 3 rfl)) (by rfl) ?_; simp only [putS]; go_big_quiet_on) | (go_big_quiet_op; go_big_quiet_on))
  simp only [putS]
  refine anyX_take 11 rfl (by kernel_rfl) ⟨_, ov_of hX⟩ ?_
  intro K hK
  try simp only [gelS]
  (first | (refine quiet_loadAny (t := 30) rfl _ _ _ rfl (fun w hw => run_load_B (ov_B r0B w hw) Tryz.isAgg30 (by kernel_rfl)) (by rfl) ?_; simp only [putS]; go_big_quiet_on) | (refine quiet_loadAny (t := 3) rfl _ _ _ rfl (fun w hw => run_load_int ((ov_B r0B w hw).cellL 0 rfl)) (by rfl) ?_; simp only [putS]; go_big_quiet_on) | (refine quiet_loadAny (t := 3) rfl _ _ _ rfl (fun w hw => run_load_int ((ov_B r0B w hw).cellL 1 rfl)) (by rfl) ?_; simp only [putS]; go_big_quiet_on) | (refine quiet_loadAny (t := 3) rfl _ _ _ rfl (fun w hw => run_load_int ((ov_B r0B w hw).cellL 2 rfl)) (by rfl) ?_; simp only [putS]; go_big_quiet_on) | (refine quiet_loadAny (t := 3) rfl _ _ _ rfl (fun w hw => run_load_int ((ov_B r0B w hw).cellL 3 rfl)) (by rfl) ?_; simp only [putS]; go_big_quiet_on) | (go_big_quiet_op; go_big_quiet_on))
  simp only [putS]
  refine anyX_take 12 rfl (by kernel_rfl) ⟨_, ov_of hX⟩ ?_
  intro K hK
  try simp only [gelS]
  (first | (refine quiet_loadAny (t := 30) rfl _ _ _ rfl (fun w hw => run_load_B (ov_B r0B w hw) Tryz.isAgg30 (by kernel_rfl)) (by rfl) ?_; simp only [putS]; go_big_quiet_on) | (refine quiet_loadAny (t := 3) rfl _ _ _ rfl (fun w hw => run_load_int ((ov_B r0B w hw).cellL 0 rfl)) (by rfl) ?_; simp only [putS]; go_big_quiet_on) | (refine quiet_loadAny (t := 3) rfl _ _ _ rfl (fun w hw => run_load_int ((ov_B r0B w hw).cellL 1 rfl)) (by rfl) ?_; simp only [putS]; go_big_quiet_on) | (refine quiet_loadAny (t := 3) rfl _ _ _ rfl (fun w hw => run_load_int ((ov_B r0B w hw).cellL 2 rfl)) (by rfl) ?_; simp only [putS]; go_big_quiet_on) | (refine quiet_loadAny (t := 3) rfl _ _ _ rfl (fun w hw => run_load_int ((ov_B r0B w hw).cellL 3 rfl)) (by rfl) ?_; simp only [putS]; go_big_quiet_on) | (go_big_quiet_op; go_big_quiet_on))
  simp only [putS]
  refine anyX_three 5 14 15 rfl rfl rfl (by kernel_rfl) rfl rfl rfl (fun K hK => ?_) (fun K hK => ?_) (fun K hK => ?_)
  ·skip
   try simp only [gelS]
   go_simp
   go_at_call 52
   refine (P_AtO c.x0 c.y0 _ wf1.out wf2.out).mono ?_
   rintro e wn ⟨rfl, hbn⟩
   have hsz := B.size
   have hzn := hbn.size
   have hsx := hX.size
   replace B := B.trans (hbn.mono B.size)
   replace hX := hX.trans (hbn.mono hX.size)
   try replace p3 := p3.below hbn
   try replace p4 := p4.below hbn
   refine hK _ _ ⟨fun _ => ⟨_, ov_of hX⟩, ?_⟩
   clear hK K
   try simp only [gelS]
   simp only [putS]
   refine anyX_three 13 14 15 rfl rfl rfl (by kernel_rfl) rfl rfl rfl (fun K hK => ?_) (fun K hK => ?_) (fun K hK => ?_)
   ·skip
    try simp only [gelS]
    go_simp
    go_at_call 52
    refine (P_AtO (c.x1 - 1) (c.y1 - 1) _ wf3.out wf4.out).mono ?_
    rintro e wn ⟨rfl, hbn⟩
    have hsz := B.size
    have hzn := hbn.size
    have hsx := hX.size
    replace B := B.trans (hbn.mono B.size)
    replace hX := hX.trans (hbn.mono hX.size)
    try replace p3 := p3.below hbn
    try replace p4 := p4.below hbn
    refine hK _ _ ⟨fun _ => ⟨_, ov_of hX⟩, ?_⟩
    clear hK K
    try simp only [gelS]
    simp only [putS]
    refine anyX_two 14 15 rfl rfl (by kernel_rfl) rfl rfl (fun K hK => ?_) (fun K hK => ?_)
    ·skip
     try simp only [gelS]
     refine owp_allocBk (t := 68) _ (run_alloc_Ps _ _ rfl) ?_
     intro b_p3 wn hle hge ht hbn hzn
     have hsz := B.size
     have hsx := hX.size
     replace B := B.trans (hbn.mono (by omega))
     replace hX := hX.trans (hbn.mono (by omega))
     try first | (have hlt := p3.lt; replace p3 := p3.of_eq (hbn.block _ (by omega))) | replace p3 := p3.below (hbn.mono hle)
     try first | (have hlt := p4.lt; replace p4 := p4.of_eq (hbn.block _ (by omega))) | replace p4 := p4.below (hbn.mono hle)
     have p3 := ht
     clear ht
     refine hK _ _ ⟨fun _ => ⟨_, ov_of hX⟩, ?_⟩
     clear hK K
     try simp only [gelS]
     simp only [putS]
     refine anyX_next 15 rfl (by kernel_rfl) rfl (fun K hK => ?_)
     try simp only [gelS]
     refine owp_allocBk (t := 68) _ (run_alloc_Ps _ _ rfl) ?_
     intro b_p4 wn hle hge ht hbn hzn
     have hsz := B.size
     have hsx := hX.size
     replace B := B.trans (hbn.mono (by omega))
     replace hX := hX.trans (hbn.mono (by omega))
     try first | (have hlt := p3.lt; replace p3 := p3.of_eq (hbn.block _ (by omega))) | replace p3 := p3.below (hbn.mono hle)
     try first | (have hlt := p4.lt; replace p4 := p4.of_eq (hbn.block _ (by omega))) | replace p4 := p4.below (hbn.mono hle)
     have p4 := ht
     clear ht
     refine hK _ _ ⟨fun _ => ⟨_, ov_of hX⟩, ?_⟩
     clear hK K
     try simp only [gelS]
     simp only [putS]
     refine anyX_seq (by kernel_rfl) (by kernel_rfl) ?_
     simp only [List.drop_succ_cons, List.drop_zero]
     go_wp2_with (first | (refine wpList_storeB (t := 68) rfl _ _ rfl _ rfl _ rfl p3 (by kernel_rfl) rfl (by simp [Value.oneCell']) ?_; clear p3; intro wn ht hcn hzn; have hsz := B.size; replace hzn := Nat.le_of_eq hzn.symm; replace B := Chg.below B hcn (by omega) B.size; (try replace p4 := p4.of_eq (hcn.block _ p4.lt (by omega))); have p3 := ht; clear ht; simp only [putS]) | (refine wpList_storeB (t := 68) rfl _ _ rfl _ rfl _ rfl p4 (by kernel_rfl) rfl (by simp [Value.oneCell']) ?_; clear p4; intro wn ht hcn hzn; have hsz := B.size; replace hzn := Nat.le_of_eq hzn.symm; replace B := Chg.below B hcn (by omega) B.size; (try replace p3 := p3.of_eq (hcn.block _ p3.lt (by omega))); have p4 := ht; clear ht; simp only [putS]) | fail)
     refine NoPan.normal ?_
     go_wp2_with fail
     go_meet
     exact ⟨b_p3, b_p4, rfl, rfl, B, by omega, by omega, p3, p4⟩
    ·skip
     try simp only [gelS]
     refine owp_allocBk (t := 68) _ (run_alloc_Ps _ _ rfl) ?_
     intro b_p4 wn hle hge ht hbn hzn
     have hsz := B.size
     have hsx := hX.size
     replace B := B.trans (hbn.mono (by omega))
     replace hX := hX.trans (hbn.mono (by omega))
     try first | (have hlt := p3.lt; replace p3 := p3.of_eq (hbn.block _ (by omega))) | replace p3 := p3.below (hbn.mono hle)
     try first | (have hlt := p4.lt; replace p4 := p4.of_eq (hbn.block _ (by omega))) | replace p4 := p4.below (hbn.mono hle)
     have p4 := ht
     clear ht
     refine hK _ _ ⟨fun _ => ⟨_, ov_of hX⟩, ?_⟩
     clear hK K
     try simp only [gelS]
     simp only [putS]
     refine anyX_next 14 rfl (by kernel_rfl) rfl (fun K hK => ?_)
     try simp only [gelS]
     refine owp_allocBk (t := 68) _ (run_alloc_Ps _ _ rfl) ?_
     intro b_p3 wn hle hge ht hbn hzn
     have hsz := B.size
     have hsx := hX.size
     replace B := B.trans (hbn.mono (by omega))
     replace hX := hX.trans (hbn.mono (by omega))
     try first | (have hlt := p3.lt; replace p3 := p3.of_eq (hbn.block _ (by omega))) | replace p3 := p3.below (hbn.mono hle)
     try first | (have hlt := p4.lt; replace p4 := p4.of_eq (hbn.block _ (by omega))) | replace p4 := p4.below (hbn.mono hle)
     have p3 := ht
     clear ht
     refine hK _ _ ⟨fun _ => ⟨_, ov_of hX⟩, ?_⟩
     clear hK K
     try simp only [gelS]
     simp only [putS]
     refine anyX_seq (by kernel_rfl) (by kernel_rfl) ?_
     simp only [List.drop_succ_cons, List.drop_zero]
     go_wp2_with (first | (refine wpList_storeB (t := 68) rfl _ _ rfl _ rfl _ rfl p3 (by kernel_rfl) rfl (by simp [Value.oneCell']) ?_; clear p3; intro wn ht hcn hzn; have hsz := B.size; replace hzn := Nat.le_of_eq hzn.symm; replace B := Chg.below B hcn (by omega) B.size; (try replace p4 := p4.of_eq (hcn.block _ p4.lt (by omega))); have p3 := ht; clear ht; simp only [putS]) | (refine wpList_storeB (t := 68) rfl _ _ rfl _ rfl _ rfl p4 (by kernel_rfl) rfl (by simp [Value.oneCell']) ?_; clear p4; intro wn ht hcn hzn; have hsz := B.size; replace hzn := Nat.le_of_eq hzn.symm; replace B := Chg.below B hcn (by omega) B.size; (try replace p3 := p3.of_eq (hcn.block _ p3.lt (by omega))); have p4 := ht; clear ht; simp only [putS]) | fail)
     refine NoPan.normal ?_
     go_wp2_with fail
     go_meet
     exact ⟨b_p3, b_p4, rfl, rfl, B, by omega, by omega, p3, p4⟩
   ·skip
    try simp only [gelS]
    refine owp_allocBk (t := 68) _ (run_alloc_Ps _ _ rfl) ?_
    intro b_p3 wn hle hge ht hbn hzn
    have hsz := B.size
    have hsx := hX.size
    replace B := B.trans (hbn.mono (by omega))
    replace hX := hX.trans (hbn.mono (by omega))
    try first | (have hlt := p3.lt; replace p3 := p3.of_eq (hbn.block _ (by omega))) | replace p3 := p3.below (hbn.mono hle)
    try first | (have hlt := p4.lt; replace p4 := p4.of_eq (hbn.block _ (by omega))) | replace p4 := p4.below (hbn.mono hle)
    have p3 := ht
    clear ht
    refine hK _ _ ⟨fun _ => ⟨_, ov_of hX⟩, ?_⟩
    clear hK K
    try simp only [gelS]
    simp only [putS]
    refine anyX_two 13 15 rfl rfl (by kernel_rfl) rfl rfl (fun K hK => ?_) (fun K hK => ?_)
    ·skip
     try simp only [gelS]
     go_simp
     go_at_call 52
     refine (P_AtO (c.x1 - 1) (c.y1 - 1) _ wf3.out wf4.out).mono ?_
     rintro e wn ⟨rfl, hbn⟩
     have hsz := B.size
     have hzn := hbn.size
     have hsx := hX.size
     replace B := B.trans (hbn.mono B.size)
     replace hX := hX.trans (hbn.mono hX.size)
     try replace p3 := p3.below hbn
     try replace p4 := p4.below hbn
     refine hK _ _ ⟨fun _ => ⟨_, ov_of hX⟩, ?_⟩
     clear hK K
     try simp only [gelS]
     simp only [putS]
     refine anyX_next 15 rfl (by kernel_rfl) rfl (fun K hK => ?_)
     try simp only [gelS]
     refine owp_allocBk (t := 68) _ (run_alloc_Ps _ _ rfl) ?_
     intro b_p4 wn hle hge ht hbn hzn
     have hsz := B.size
     have hsx := hX.size
     replace B := B.trans (hbn.mono (by omega))
     replace hX := hX.trans (hbn.mono (by omega))
     try first | (have hlt := p3.lt; replace p3 := p3.of_eq (hbn.block _ (by omega))) | replace p3 := p3.below (hbn.mono hle)
     try first | (have hlt := p4.lt; replace p4 := p4.of_eq (hbn.block _ (by omega))) | replace p4 := p4.below (hbn.mono hle)
     have p4 := ht
     clear ht
     refine hK _ _ ⟨fun _ => ⟨_, ov_of hX⟩, ?_⟩
     clear hK K
     try simp only [gelS]
     simp only [putS]
     refine anyX_seq (by kernel_rfl) (by kernel_rfl) ?_
     simp only [List.drop_succ_cons, List.drop_zero]
     go_wp2_with (first | (refine wpList_storeB (t := 68) rfl _ _ rfl _ rfl _ rfl p3 (by kernel_rfl) rfl (by simp [Value.oneCell']) ?_; clear p3; intro wn ht hcn hzn; have hsz := B.size; replace hzn := Nat.le_of_eq hzn.symm; replace B := Chg.below B hcn (by omega) B.size; (try replace p4 := p4.of_eq (hcn.block _ p4.lt (by omega))); have p3 := ht; clear ht; simp only [putS]) | (refine wpList_storeB (t := 68) rfl _ _ rfl _ rfl _ rfl p4 (by kernel_rfl) rfl (by simp [Value.oneCell']) ?_; clear p4; intro wn ht hcn hzn; have hsz := B.size; replace hzn := Nat.le_of_eq hzn.symm; replace B := Chg.below B hcn (by omega) B.size; (try replace p3 := p3.of_eq (hcn.block _ p3.lt (by omega))); have p4 := ht; clear ht; simp only [putS]) | fail)
     refine NoPan.normal ?_
     go_wp2_with fail
     go_meet
     exact ⟨b_p3, b_p4, rfl, rfl, B, by omega, by omega, p3, p4⟩
    ·skip
     try simp only [gelS]
     refine owp_allocBk (t := 68) _ (run_alloc_Ps _ _ rfl) ?_
     intro b_p4 wn hle hge ht hbn hzn
     have hsz := B.size
     have hsx := hX.size
     replace B := B.trans (hbn.mono (by omega))
     replace hX := hX.trans (hbn.mono (by omega))
     try first | (have hlt := p3.lt; replace p3 := p3.of_eq (hbn.block _ (by omega))) | replace p3 := p3.below (hbn.mono hle)
     try first | (have hlt := p4.lt; replace p4 := p4.of_eq (hbn.block _ (by omega))) | replace p4 := p4.below (hbn.mono hle)
     have p4 := ht
     clear ht
     refine hK _ _ ⟨fun _ => ⟨_, ov_of hX⟩, ?_⟩
     clear hK K
     try simp only [gelS]
     simp only [putS]
     refine anyX_next 13 rfl (by kernel_rfl) rfl (fun K hK => ?_)
     try simp only [gelS]
     go_simp
     go_at_call 52
     refine (P_AtO (c.x1 - 1) (c.y1 - 1) _ wf3.out wf4.out).mono ?_
     rintro e wn ⟨rfl, hbn⟩
     have hsz := B.size
     have hzn := hbn.size
     have hsx := hX.size
     replace B := B.trans (hbn.mono B.size)
     replace hX := hX.trans (hbn.mono hX.size)
     try replace p3 := p3.below hbn
     try replace p4 := p4.below hbn
     refine hK _ _ ⟨fun _ => ⟨_, ov_of hX⟩, ?_⟩
     clear hK K
     try simp only [gelS]
     simp only [putS]
     refine anyX_seq (by kernel_rfl) (by kernel_rfl) ?_
     simp only [List.drop_succ_cons, List.drop_zero]
     go_wp2_with (first | (refine wpList_storeB (t := 68) rfl _ _ rfl _ rfl _ rfl p3 (by kernel_rfl) rfl (by simp [Value.oneCell']) ?_; clear p3; intro wn ht hcn hzn; have hsz := B.size; replace hzn := Nat.le_of_eq hzn.symm; replace B := Chg.below B hcn (by omega) B.size; (try replace p4 := p4.of_eq (hcn.block _ p4.lt (by omega))); have p3 := ht; clear ht; simp only [putS]) | (refine wpList_storeB (t := 68) rfl _ _ rfl _ rfl _ rfl p4 (by kernel_rfl) rfl (by simp [Value.oneCell']) ?_; clear p4; intro wn ht hcn hzn; have hsz := B.size; replace hzn := Nat.le_of_eq hzn.symm; replace B := Chg.below B hcn (by omega) B.size; (try replace p3 := p3.of_eq (hcn.block _ p3.lt (by omega))); have p4 := ht; clear ht; simp only [putS]) | fail)
     refine NoPan.normal ?_
     go_wp2_with fail
     go_meet
     exact ⟨b_p3, b_p4, rfl, rfl, B, by omega, by omega, p3, p4⟩
   ·skip
    try simp only [gelS]
    refine owp_allocBk (t := 68) _ (run_alloc_Ps _ _ rfl) ?_
    intro b_p4 wn hle hge ht hbn hzn
    have hsz := B.size
    have hsx := hX.size
    replace B := B.trans (hbn.mono (by omega))
    replace hX := hX.trans (hbn.mono (by omega))
    try first | (have hlt := p3.lt; replace p3 := p3.of_eq (hbn.block _ (by omega))) | replace p3 := p3.below (hbn.mono hle)
    try first | (have hlt := p4.lt; replace p4 := p4.of_eq (hbn.block _ (by omega))) | replace p4 := p4.below (hbn.mono hle)
    have p4 := ht
    clear ht
    refine hK _ _ ⟨fun _ => ⟨_, ov_of hX⟩, ?_⟩
    clear hK K
    try simp only [gelS]
    simp only [putS]
    refine anyX_two 13 14 rfl rfl (by kernel_rfl) rfl rfl (fun K hK => ?_) (fun K hK => ?_)
    ·skip
     try simp only [gelS]
     go_simp
     go_at_call 52
     refine (P_AtO (c.x1 - 1) (c.y1 - 1) _ wf3.out wf4.out).mono ?_
     rintro e wn ⟨rfl, hbn⟩
     have hsz := B.size
     have hzn := hbn.size
     have hsx := hX.size
     replace B := B.trans (hbn.mono B.size)
     replace hX := hX.trans (hbn.mono hX.size)
     try replace p3 := p3.below hbn
     try replace p4 := p4.below hbn
     refine hK _ _ ⟨fun _ => ⟨_, ov_of hX⟩, ?_⟩
     clear hK K
     try simp only [gelS]
     simp only [putS]
     refine anyX_next 14 rfl (by kernel_rfl) rfl (fun K hK => ?_)
     try simp only [gelS]
     refine owp_allocBk (t := 68) _ (run_alloc_Ps _ _ rfl) ?_
     intro b_p3 wn hle hge ht hbn hzn
     have hsz := B.size
     have hsx := hX.size
     replace B := B.trans (hbn.mono (by omega))
     replace hX := hX.trans (hbn.mono (by omega))
     try first | (have hlt := p3.lt; replace p3 := p3.of_eq (hbn.block _ (by omega))) | replace p3 := p3.below (hbn.mono hle)
     try first | (have hlt := p4.lt; replace p4 := p4.of_eq (hbn.block _ (by omega))) | replace p4 := p4.below (hbn.mono hle)
     have p3 := ht
     clear ht
     refine hK _ _ ⟨fun _ => ⟨_, ov_of hX⟩, ?_⟩
     clear hK K
     try simp only [gelS]
     simp only [putS]
     refine anyX_seq (by kernel_rfl) (by kernel_rfl) ?_
     simp only [List.drop_succ_cons, List.drop_zero]
     go_wp2_with (first | (refine wpList_storeB (t := 68) rfl _ _ rfl _ rfl _ rfl p3 (by kernel_rfl) rfl (by simp [Value.oneCell']) ?_; clear p3; intro wn ht hcn hzn; have hsz := B.size; replace hzn := Nat.le_of_eq hzn.symm; replace B := Chg.below B hcn (by omega) B.size; (try replace p4 := p4.of_eq (hcn.block _ p4.lt (by omega))); have p3 := ht; clear ht; simp only [putS]) | (refine wpList_storeB (t := 68) rfl _ _ rfl _ rfl _ rfl p4 (by kernel_rfl) rfl (by simp [Value.oneCell']) ?_; clear p4; intro wn ht hcn hzn; have hsz := B.size; replace hzn := Nat.le_of_eq hzn.symm; replace B := Chg.below B hcn (by omega) B.size; (try replace p3 := p3.of_eq (hcn.block _ p3.lt (by omega))); have p4 := ht; clear ht; simp only [putS]) | fail)
     refine NoPan.normal ?_
     go_wp2_with fail
     go_meet
     exact ⟨b_p3, b_p4, rfl, rfl, B, by omega, by omega, p3, p4⟩
    ·skip
     try simp only [gelS]
     refine owp_allocBk (t := 68) _ (run_alloc_Ps _ _ rfl) ?_
     intro b_p3 wn hle hge ht hbn hzn
     have hsz := B.size
     have hsx := hX.size
     replace B := B.trans (hbn.mono (by omega))
     replace hX := hX.trans (hbn.mono (by omega))
     try first | (have hlt := p3.lt; replace p3 := p3.of_eq (hbn.block _ (by omega))) | replace p3 := p3.below (hbn.mono hle)
     try first | (have hlt := p4.lt; replace p4 := p4.of_eq (hbn.block _ (by omega))) | replace p4 := p4.below (hbn.mono hle)
     have p3 := ht
     clear ht
     refine hK _ _ ⟨fun _ => ⟨_, ov_of hX⟩, ?_⟩
     clear hK K
     try simp only [gelS]
     simp only [putS]
     refine anyX_next 13 rfl (by kernel_rfl) rfl (fun K hK => ?_)
     try simp only [gelS]
     go_simp
     go_at_call 52
     refine (P_AtO (c.x1 - 1) (c.y1 - 1) _ wf3.out wf4.out).mono ?_
     rintro e wn ⟨rfl, hbn⟩
     have hsz := B.size
     have hzn := hbn.size
     have hsx := hX.size
     replace B := B.trans (hbn.mono B.size)
     replace hX := hX.trans (hbn.mono hX.size)
     try replace p3 := p3.below hbn
     try replace p4 := p4.below hbn
     refine hK _ _ ⟨fun _ => ⟨_, ov_of hX⟩, ?_⟩
     clear hK K
     try simp only [gelS]
     simp only [putS]
     refine anyX_seq (by kernel_rfl) (by kernel_rfl) ?_
     simp only [List.drop_succ_cons, List.drop_zero]
     go_wp2_with (first | (refine wpList_storeB (t := 68) rfl _ _ rfl _ rfl _ rfl p3 (by kernel_rfl) rfl (by simp [Value.oneCell']) ?_; clear p3; intro wn ht hcn hzn; have hsz := B.size; replace hzn := Nat.le_of_eq hzn.symm; replace B := Chg.below B hcn (by omega) B.size; (try replace p4 := p4.of_eq (hcn.block _ p4.lt (by omega))); have p3 := ht; clear ht; simp only [putS]) | (refine wpList_storeB (t := 68) rfl _ _ rfl _ rfl _ rfl p4 (by kernel_rfl) rfl (by simp [Value.oneCell']) ?_; clear p4; intro wn ht hcn hzn; have hsz := B.size; replace hzn := Nat.le_of_eq hzn.symm; replace B := Chg.below B hcn (by omega) B.size; (try replace p3 := p3.of_eq (hcn.block _ p3.lt (by omega))); have p4 := ht; clear ht; simp only [putS]) | fail)
     refine NoPan.normal ?_
     go_wp2_with fail
     go_meet
     exact ⟨b_p3, b_p4, rfl, rfl, B, by omega, by omega, p3, p4⟩
  ·skip
   try simp only [gelS]
   refine owp_allocBk (t := 68) _ (run_alloc_Ps _ _ rfl) ?_
   intro b_p3 wn hle hge ht hbn hzn
   have hsz := B.size
   have hsx := hX.size
   replace B := B.trans (hbn.mono (by omega))
   replace hX := hX.trans (hbn.mono (by omega))
   try first | (have hlt := p3.lt; replace p3 := p3.of_eq (hbn.block _ (by omega))) | replace p3 := p3.below (hbn.mono hle)
   try first | (have hlt := p4.lt; replace p4 := p4.of_eq (hbn.block _ (by omega))) | replace p4 := p4.below (hbn.mono hle)
   have p3 := ht
   clear ht
   refine hK _ _ ⟨fun _ => ⟨_, ov_of hX⟩, ?_⟩
   clear hK K
   try simp only [gelS]
   simp only [putS]
   refine anyX_two 5 15 rfl rfl (by kernel_rfl) rfl rfl (fun K hK => ?_) (fun K hK => ?_)
   ·skip
    try simp only [gelS]
    go_simp
    go_at_call 52
    refine (P_AtO c.x0 c.y0 _ wf1.out wf2.out).mono ?_
    rintro e wn ⟨rfl, hbn⟩
    have hsz := B.size
    have hzn := hbn.size
    have hsx := hX.size
    replace B := B.trans (hbn.mono B.size)
    replace hX := hX.trans (hbn.mono hX.size)
    try replace p3 := p3.below hbn
    try replace p4 := p4.below hbn
    refine hK _ _ ⟨fun _ => ⟨_, ov_of hX⟩, ?_⟩
    clear hK K
    try simp only [gelS]
    simp only [putS]
    refine anyX_two 13 15 rfl rfl (by kernel_rfl) rfl rfl (fun K hK => ?_) (fun K hK => ?_)
    ·skip
     try simp only [gelS]
     go_simp
     go_at_call 52
     refine (P_AtO (c.x1 - 1) (c.y1 - 1) _ wf3.out wf4.out).mono ?_
     rintro e wn ⟨rfl, hbn⟩
     have hsz := B.size
     have hzn := hbn.size
     have hsx := hX.size
     replace B := B.trans (hbn.mono B.size)
     replace hX := hX.trans (hbn.mono hX.size)
     try replace p3 := p3.below hbn
     try replace p4 := p4.below hbn
     refine hK _ _ ⟨fun _ => ⟨_, ov_of hX⟩, ?_⟩
     clear hK K
     try simp only [gelS]
     simp only [putS]
     refine anyX_next 15 rfl (by kernel_rfl) rfl (fun K hK => ?_)
     try simp only [gelS]
     refine owp_allocBk (t := 68) _ (run_alloc_Ps _ _ rfl) ?_
     intro b_p4 wn hle hge ht hbn hzn
     have hsz := B.size
     have hsx := hX.size
     replace B := B.trans (hbn.mono (by omega))
     replace hX := hX.trans (hbn.mono (by omega))
     try first | (have hlt := p3.lt; replace p3 := p3.of_eq (hbn.block _ (by omega))) | replace p3 := p3.below (hbn.mono hle)
     try first | (have hlt := p4.lt; replace p4 := p4.of_eq (hbn.block _ (by omega))) | replace p4 := p4.below (hbn.mono hle)
     have p4 := ht
     clear ht
     refine hK _ _ ⟨fun _ => ⟨_, ov_of hX⟩, ?_⟩
     clear hK K
     try simp only [gelS]
     simp only [putS]
     refine anyX_seq (by kernel_rfl) (by kernel_rfl) ?_
     simp only [List.drop_succ_cons, List.drop_zero]
     go_wp2_with (first | (refine wpList_storeB (t := 68) rfl _ _ rfl _ rfl _ rfl p3 (by kernel_rfl) rfl (by simp [Value.oneCell']) ?_; clear p3; intro wn ht hcn hzn; have hsz := B.size; replace hzn := Nat.le_of_eq hzn.symm; replace B := Chg.below B hcn (by omega) B.size; (try replace p4 := p4.of_eq (hcn.block _ p4.lt (by omega))); have p3 := ht; clear ht; simp only [putS]) | (refine wpList_storeB (t := 68) rfl _ _ rfl _ rfl _ rfl p4 (by kernel_rfl) rfl (by simp [Value.oneCell']) ?_; clear p4; intro wn ht hcn hzn; have hsz := B.size; replace hzn := Nat.le_of_eq hzn.symm; replace B := Chg.below B hcn (by omega) B.size; (try replace p3 := p3.of_eq (hcn.block _ p3.lt (by omega))); have p4 := ht; clear ht; simp only [putS]) | fail)
     refine NoPan.normal ?_
     go_wp2_with fail
     go_meet
     exact ⟨b_p3, b_p4, rfl, rfl, B, by omega, by omega, p3, p4⟩
    ·skip
     try simp only [gelS]
     refine owp_allocBk (t := 68) _ (run_alloc_Ps _ _ rfl) ?_
     intro b_p4 wn hle hge ht hbn hzn
     have hsz := B.size
     have hsx := hX.size
     replace B := B.trans (hbn.mono (by omega))
     replace hX := hX.trans (hbn.mono (by omega))
     try first | (have hlt := p3.lt; replace p3 := p3.of_eq (hbn.block _ (by omega))) | replace p3 := p3.below (hbn.mono hle)
     try first | (have hlt := p4.lt; replace p4 := p4.of_eq (hbn.block _ (by omega))) | replace p4 := p4.below (hbn.mono hle)
     have p4 := ht
     clear ht
     refine hK _ _ ⟨fun _ => ⟨_, ov_of hX⟩, ?_⟩
     clear hK K
     try simp only [gelS]
     simp only [putS]
     refine anyX_next 13 rfl (by kernel_rfl) rfl (fun K hK => ?_)
     try simp only [gelS]
     go_simp
     go_at_call 52
     refine (P_AtO (c.x1 - 1) (c.y1 - 1) _ wf3.out wf4.out).mono ?_
     rintro e wn ⟨rfl, hbn⟩
     have hsz := B.size
     have hzn := hbn.size
     have hsx := hX.size
     replace B := B.trans (hbn.mono B.size)
     replace hX := hX.trans (hbn.mono hX.size)
     try replace p3 := p3.below hbn
     try replace p4 := p4.below hbn
     refine hK _ _ ⟨fun _ => ⟨_, ov_of hX⟩, ?_⟩
     clear hK K
     try simp only [gelS]
     simp only [putS]
     refine anyX_seq (by kernel_rfl) (by kernel_rfl) ?_
     simp only [List.drop_succ_cons, List.drop_zero]
     go_wp2_with (first | (refine wpList_storeB (t := 68) rfl _ _ rfl _ rfl _ rfl p3 (by kernel_rfl) rfl (by simp [Value.oneCell']) ?_; clear p3; intro wn ht hcn hzn; have hsz := B.size; replace hzn := Nat.le_of_eq hzn.symm; replace B := Chg.below B hcn (by omega) B.size; (try replace p4 := p4.of_eq (hcn.block _ p4.lt (by omega))); have p3 := ht; clear ht; simp only [putS]) | (refine wpList_storeB (t := 68) rfl _ _ rfl _ rfl _ rfl p4 (by kernel_rfl) rfl (by simp [Value.oneCell']) ?_; clear p4; intro wn ht hcn hzn; have hsz := B.size; replace hzn := Nat.le_of_eq hzn.symm; replace B := Chg.below B hcn (by omega) B.size; (try replace p3 := p3.of_eq (hcn.block _ p3.lt (by omega))); have p4 := ht; clear ht; simp only [putS]) | fail)
     refine NoPan.normal ?_
     go_wp2_with fail
     go_meet
     exact ⟨b_p3, b_p4, rfl, rfl, B, by omega, by omega, p3, p4⟩
   ·skip
    try simp only [gelS]
    refine owp_allocBk (t := 68) _ (run_alloc_Ps _ _ rfl) ?_
    intro b_p4 wn hle hge ht hbn hzn
    have hsz := B.size
    have hsx := hX.size
    replace B := B.trans (hbn.mono (by omega))
    replace hX := hX.trans (hbn.mono (by omega))
    try first | (have hlt := p3.lt; replace p3 := p3.of_eq (hbn.block _ (by omega))) | replace p3 := p3.below (hbn.mono hle)
    try first | (have hlt := p4.lt; replace p4 := p4.of_eq (hbn.block _ (by omega))) | replace p4 := p4.below (hbn.mono hle)
    have p4 := ht
    clear ht
    refine hK _ _ ⟨fun _ => ⟨_, ov_of hX⟩, ?_⟩
    clear hK K
    try simp only [gelS]
    simp only [putS]
    refine anyX_next 5 rfl (by kernel_rfl) rfl (fun K hK => ?_)
    try simp only [gelS]
    go_simp
    go_at_call 52
    refine (P_AtO c.x0 c.y0 _ wf1.out wf2.out).mono ?_
    rintro e wn ⟨rfl, hbn⟩
    have hsz := B.size
    have hzn := hbn.size
    have hsx := hX.size
    replace B := B.trans (hbn.mono B.size)
    replace hX := hX.trans (hbn.mono hX.size)
    try replace p3 := p3.below hbn
    try replace p4 := p4.below hbn
    refine hK _ _ ⟨fun _ => ⟨_, ov_of hX⟩, ?_⟩
    clear hK K
    try simp only [gelS]
    simp only [putS]
    refine anyX_next 13 rfl (by kernel_rfl) rfl (fun K hK => ?_)
    try simp only [gelS]
    go_simp
    go_at_call 52
    refine (P_AtO (c.x1 - 1) (c.y1 - 1) _ wf3.out wf4.out).mono ?_
    rintro e wn ⟨rfl, hbn⟩
    have hsz := B.size
    have hzn := hbn.size
    have hsx := hX.size
    replace B := B.trans (hbn.mono B.size)
    replace hX := hX.trans (hbn.mono hX.size)
    try replace p3 := p3.below hbn
    try replace p4 := p4.below hbn
    refine hK _ _ ⟨fun _ => ⟨_, ov_of hX⟩, ?_⟩
    clear hK K
    try simp only [gelS]
    simp only [putS]
    refine anyX_seq (by kernel_rfl) (by kernel_rfl) ?_
    simp only [List.drop_succ_cons, List.drop_zero]
    go_wp2_with (first | (refine wpList_storeB (t := 68) rfl _ _ rfl _ rfl _ rfl p3 (by kernel_rfl) rfl (by simp [Value.oneCell']) ?_; clear p3; intro wn ht hcn hzn; have hsz := B.size; replace hzn := Nat.le_of_eq hzn.symm; replace B := Chg.below B hcn (by omega) B.size; (try replace p4 := p4.of_eq (hcn.block _ p4.lt (by omega))); have p3 := ht; clear ht; simp only [putS]) | (refine wpList_storeB (t := 68) rfl _ _ rfl _ rfl _ rfl p4 (by kernel_rfl) rfl (by simp [Value.oneCell']) ?_; clear p4; intro wn ht hcn hzn; have hsz := B.size; replace hzn := Nat.le_of_eq hzn.symm; replace B := Chg.below B hcn (by omega) B.size; (try replace p3 := p3.of_eq (hcn.block _ p3.lt (by omega))); have p4 := ht; clear ht; simp only [putS]) | fail)
    refine NoPan.normal ?_
    go_wp2_with fail
    go_meet
    exact ⟨b_p3, b_p4, rfl, rfl, B, by omega, by omega, p3, p4⟩
  ·skip
   try simp only [gelS]
   refine owp_allocBk (t := 68) _ (run_alloc_Ps _ _ rfl) ?_
   intro b_p4 wn hle hge ht hbn hzn
   have hsz := B.size
   have hsx := hX.size
   replace B := B.trans (hbn.mono (by omega))
   replace hX := hX.trans (hbn.mono (by omega))
   try first | (have hlt := p3.lt; replace p3 := p3.of_eq (hbn.block _ (by omega))) | replace p3 := p3.below (hbn.mono hle)
   try first | (have hlt := p4.lt; replace p4 := p4.of_eq (hbn.block _ (by omega))) | replace p4 := p4.below (hbn.mono hle)
   have p4 := ht
   clear ht
   refine hK _ _ ⟨fun _ => ⟨_, ov_of hX⟩, ?_⟩
   clear hK K
   try simp only [gelS]
   simp only [putS]
   refine anyX_two 5 14 rfl rfl (by kernel_rfl) rfl rfl (fun K hK => ?_) (fun K hK => ?_)
   ·skip
    try simp only [gelS]
    go_simp
    go_at_call 52
    refine (P_AtO c.x0 c.y0 _ wf1.out wf2.out).mono ?_
    rintro e wn ⟨rfl, hbn⟩
    have hsz := B.size
    have hzn := hbn.size
    have hsx := hX.size
    replace B := B.trans (hbn.mono B.size)
    replace hX := hX.trans (hbn.mono hX.size)
    try replace p3 := p3.below hbn
    try replace p4 := p4.below hbn
    refine hK _ _ ⟨fun _ => ⟨_, ov_of hX⟩, ?_⟩
    clear hK K
    try simp only [gelS]
    simp only [putS]
    refine anyX_two 13 14 rfl rfl (by kernel_rfl) rfl rfl (fun K hK => ?_) (fun K hK => ?_)
    ·skip
     try simp only [gelS]
     go_simp
     go_at_call 52
     refine (P_AtO (c.x1 - 1) (c.y1 - 1) _ wf3.out wf4.out).mono ?_
     rintro e wn ⟨rfl, hbn⟩
     have hsz := B.size
     have hzn := hbn.size
     have hsx := hX.size
     replace B := B.trans (hbn.mono B.size)
     replace hX := hX.trans (hbn.mono hX.size)
     try replace p3 := p3.below hbn
     try replace p4 := p4.below hbn
     refine hK _ _ ⟨fun _ => ⟨_, ov_of hX⟩, ?_⟩
     clear hK K
     try simp only [gelS]
     simp only [putS]
     refine anyX_next 14 rfl (by kernel_rfl) rfl (fun K hK => ?_)
     try simp only [gelS]
     refine owp_allocBk (t := 68) _ (run_alloc_Ps _ _ rfl) ?_
     intro b_p3 wn hle hge ht hbn hzn
     have hsz := B.size
     have hsx := hX.size
     replace B := B.trans (hbn.mono (by omega))
     replace hX := hX.trans (hbn.mono (by omega))
     try first | (have hlt := p3.lt; replace p3 := p3.of_eq (hbn.block _ (by omega))) | replace p3 := p3.below (hbn.mono hle)
     try first | (have hlt := p4.lt; replace p4 := p4.of_eq (hbn.block _ (by omega))) | replace p4 := p4.below (hbn.mono hle)
     have p3 := ht
     clear ht
     refine hK _ _ ⟨fun _ => ⟨_, ov_of hX⟩, ?_⟩
     clear hK K
     try simp only [gelS]
     simp only [putS]
     refine anyX_seq (by kernel_rfl) (by kernel_rfl) ?_
     simp only [List.drop_succ_cons, List.drop_zero]
     go_wp2_with (first | (refine wpList_storeB (t := 68) rfl _ _ rfl _ rfl _ rfl p3 (by kernel_rfl) rfl (by simp [Value.oneCell']) ?_; clear p3; intro wn ht hcn hzn; have hsz := B.size; replace hzn := Nat.le_of_eq hzn.symm; replace B := Chg.below B hcn (by omega) B.size; (try replace p4 := p4.of_eq (hcn.block _ p4.lt (by omega))); have p3 := ht; clear ht; simp only [putS]) | (refine wpList_storeB (t := 68) rfl _ _ rfl _ rfl _ rfl p4 (by kernel_rfl) rfl (by simp [Value.oneCell']) ?_; clear p4; intro wn ht hcn hzn; have hsz := B.size; replace hzn := Nat.le_of_eq hzn.symm; replace B := Chg.below B hcn (by omega) B.size; (try replace p3 := p3.of_eq (hcn.block _ p3.lt (by omega))); have p4 := ht; clear ht; simp only [putS]) | fail)
     refine NoPan.normal ?_
     go_wp2_with fail
     go_meet
     exact ⟨b_p3, b_p4, rfl, rfl, B, by omega, by omega, p3, p4⟩
    ·skip
     try simp only [gelS]
     refine owp_allocBk (t := 68) _ (run_alloc_Ps _ _ rfl) ?_
     intro b_p3 wn hle hge ht hbn hzn
     have hsz := B.size
     have hsx := hX.size
     replace B := B.trans (hbn.mono (by omega))
     replace hX := hX.trans (hbn.mono (by omega))
     try first | (have hlt := p3.lt; replace p3 := p3.of_eq (hbn.block _ (by omega))) | replace p3 := p3.below (hbn.mono hle)
     try first | (have hlt := p4.lt; replace p4 := p4.of_eq (hbn.block _ (by omega))) | replace p4 := p4.below (hbn.mono hle)
     have p3 := ht
     clear ht
     refine hK _ _ ⟨fun _ => ⟨_, ov_of hX⟩, ?_⟩
     clear hK K
     try simp only [gelS]
     simp only [putS]
     refine anyX_next 13 rfl (by kernel_rfl) rfl (fun K hK => ?_)
     try simp only [gelS]
     go_simp
     go_at_call 52
     refine (P_AtO (c.x1 - 1) (c.y1 - 1) _ wf3.out wf4.out).mono ?_
     rintro e wn ⟨rfl, hbn⟩
     have hsz := B.size
     have hzn := hbn.size
     have hsx := hX.size
     replace B := B.trans (hbn.mono B.size)
     replace hX := hX.trans (hbn.mono hX.size)
     try replace p3 := p3.below hbn
     try replace p4 := p4.below hbn
     refine hK _ _ ⟨fun _ => ⟨_, ov_of hX⟩, ?_⟩
     clear hK K
     try simp only [gelS]
     simp only [putS]
     refine anyX_seq (by kernel_rfl) (by kernel_rfl) ?_
     simp only [List.drop_succ_cons, List.drop_zero]
     go_wp2_with (first | (refine wpList_storeB (t := 68) rfl _ _ rfl _ rfl _ rfl p3 (by kernel_rfl) rfl (by simp [Value.oneCell']) ?_; clear p3; intro wn ht hcn hzn; have hsz := B.size; replace hzn := Nat.le_of_eq hzn.symm; replace B := Chg.below B hcn (by omega) B.size; (try replace p4 := p4.of_eq (hcn.block _ p4.lt (by omega))); have p3 := ht; clear ht; simp only [putS]) | (refine wpList_storeB (t := 68) rfl _ _ rfl _ rfl _ rfl p4 (by kernel_rfl) rfl (by simp [Value.oneCell']) ?_; clear p4; intro wn ht hcn hzn; have hsz := B.size; replace hzn := Nat.le_of_eq hzn.symm; replace B := Chg.below B hcn (by omega) B.size; (try replace p3 := p3.of_eq (hcn.block _ p3.lt (by omega))); have p4 := ht; clear ht; simp only [putS]) | fail)
     refine NoPan.normal ?_
     go_wp2_with fail
     go_meet
     exact ⟨b_p3, b_p4, rfl, rfl, B, by omega, by omega, p3, p4⟩
   ·skip
    try simp only [gelS]
    refine owp_allocBk (t := 68) _ (run_alloc_Ps _ _ rfl) ?_
    intro b_p3 wn hle hge ht hbn hzn
    have hsz := B.size
    have hsx := hX.size
    replace B := B.trans (hbn.mono (by omega))
    replace hX := hX.trans (hbn.mono (by omega))
    try first | (have hlt := p3.lt; replace p3 := p3.of_eq (hbn.block _ (by omega))) | replace p3 := p3.below (hbn.mono hle)
    try first | (have hlt := p4.lt; replace p4 := p4.of_eq (hbn.block _ (by omega))) | replace p4 := p4.below (hbn.mono hle)
    have p3 := ht
    clear ht
    refine hK _ _ ⟨fun _ => ⟨_, ov_of hX⟩, ?_⟩
    clear hK K
    try simp only [gelS]
    simp only [putS]
    refine anyX_next 5 rfl (by kernel_rfl) rfl (fun K hK => ?_)
    try simp only [gelS]
    go_simp
    go_at_call 52
    refine (P_AtO c.x0 c.y0 _ wf1.out wf2.out).mono ?_
    rintro e wn ⟨rfl, hbn⟩
    have hsz := B.size
    have hzn := hbn.size
    have hsx := hX.size
    replace B := B.trans (hbn.mono B.size)
    replace hX := hX.trans (hbn.mono hX.size)
    try replace p3 := p3.below hbn
    try replace p4 := p4.below hbn
    refine hK _ _ ⟨fun _ => ⟨_, ov_of hX⟩, ?_⟩
    clear hK K
    try simp only [gelS]
    simp only [putS]
    refine anyX_next 13 rfl (by kernel_rfl) rfl (fun K hK => ?_)
    try simp only [gelS]
    go_simp
    go_at_call 52
    refine (P_AtO (c.x1 - 1) (c.y1 - 1) _ wf3.out wf4.out).mono ?_
    rintro e wn ⟨rfl, hbn⟩
    have hsz := B.size
    have hzn := hbn.size
    have hsx := hX.size
    replace B := B.trans (hbn.mono B.size)
    replace hX := hX.trans (hbn.mono hX.size)
    try replace p3 := p3.below hbn
    try replace p4 := p4.below hbn
    refine hK _ _ ⟨fun _ => ⟨_, ov_of hX⟩, ?_⟩
    clear hK K
    try simp only [gelS]
    simp only [putS]
    refine anyX_seq (by kernel_rfl) (by kernel_rfl) ?_
    simp only [List.drop_succ_cons, List.drop_zero]
    go_wp2_with (first | (refine wpList_storeB (t := 68) rfl _ _ rfl _ rfl _ rfl p3 (by kernel_rfl) rfl (by simp [Value.oneCell']) ?_; clear p3; intro wn ht hcn hzn; have hsz := B.size; replace hzn := Nat.le_of_eq hzn.symm; replace B := Chg.below B hcn (by omega) B.size; (try replace p4 := p4.of_eq (hcn.block _ p4.lt (by omega))); have p3 := ht; clear ht; simp only [putS]) | (refine wpList_storeB (t := 68) rfl _ _ rfl _ rfl _ rfl p4 (by kernel_rfl) rfl (by simp [Value.oneCell']) ?_; clear p4; intro wn ht hcn hzn; have hsz := B.size; replace hzn := Nat.le_of_eq hzn.symm; replace B := Chg.below B hcn (by omega) B.size; (try replace p3 := p3.of_eq (hcn.block _ p3.lt (by omega))); have p4 := ht; clear ht; simp only [putS]) | fail)
    refine NoPan.normal ?_
    go_wp2_with fail
    go_meet
    exact ⟨b_p3, b_p4, rfl, rfl, B, by omega, by omega, p3, p4⟩
 case rest =>
 clear B r0 r0B
 obtain ⟨b_p3, b_p4, rfl, rfl, B, k3, k4, p3, p4⟩ := hcut
 have hJ := HJ.out _ B
 have n3 : b_p3 ≠ b8 := by omega
 have n4 : b_p4 ≠ b8 := by omega
 clear B HJ
 go_upto_region 2 with fail
 refine wp_region_lit ?_
 try simp only [gelS]
 refine wpList_chunk 7 (by kernel_rfl) ?_
 simp only [takS, Nat.reduceAdd]
 repeat (first | go_big_quiet_skip | (go_big_quiet_want; first | (refine quiet_loadAny (t := 3) rfl _ _ _ rfl (fun w hw => run_load_int ((ov_B p3 w hw).cellL 0 rfl)) (by rfl) ?_; simp only [putS]; go_big_quiet_on) | (refine quiet_loadAny (t := 3) rfl _ _ _ rfl (fun w hw => run_load_int ((ov_B p3 w hw).cellL 1 rfl)) (by rfl) ?_; simp only [putS]; go_big_quiet_on) | (refine quiet_loadAny (t := 3) rfl _ _ _ rfl (fun w hw => run_load_int ((ov_B p4 w hw).cellL 0 rfl)) (by rfl) ?_; simp only [putS]; go_big_quiet_on) | (refine quiet_loadAny (t := 3) rfl _ _ _ rfl (fun w hw => run_load_int ((ov_B p4 w hw).cellL 1 rfl)) (by rfl) ?_; simp only [putS]; go_big_quiet_on) | (go_big_quiet_op; go_big_quiet_on)))
 refine wpQuiet_nil ?_
 refine wpList_nil ?_
 go_wp2
 go_loopw [5, 6, 29] (fun _ _ iv wr => ∃ k : Nat, k ≤ H ∧ iv = .int .i64 (k : Int) ∧ J (fpre (tlN c) (W * k)) wr ∧ AtB 68 wr b_p3 #[.int .i64 (c.x0 / 8), .int .i64 (c.y0 / 8)] ∧ AtB 68 wr b_p4 #[.int .i64 ((c.x1 - 1) / 8), .int .i64 ((c.y1 - 1) / 8)]) (fun _ _ iv _ => (H - intOf iv).toNat)
 case atStart => exact ⟨0, by omega, by simp, by rw [Nat.mul_zero, fpre_zero]; exact hJ, p3, p4⟩
 case round =>
  clear p3 p4 hJ
  obtain ⟨k, hk, rfl, hJ, p3, p4⟩ := hrel
  by_cases hkH : k < H
  ·have q1 : decide ((k : Int) < (c.y1 - 1) / 8 - c.y0 / 8 + 1) = true := decide_eq_true (by omega)
   have hn2 : W * k + W ≤ W * H := by
    have := Nat.mul_le_mul_left W (show k + 1 ≤ H from hkH)
    rw [Nat.mul_succ] at this
    exact this
   go_upto_region 3 with fail
   refine wp_region_lit ?_
   try simp only [gelS]
   refine wpList_chunk 1 (by kernel_rfl) ?_
   simp only [takS, Nat.reduceAdd]
   repeat (first | go_big_quiet_skip | (go_big_quiet_want; go_big_quiet_op; go_big_quiet_on))
   refine wpQuiet_nil ?_
   refine wpList_nil ?_
   go_upto_region 4 with fail
   refine wp_region_lit ?_
   try simp only [gelS]
   refine wpList_chunk 2 (by kernel_rfl) ?_
   simp only [takS, Nat.reduceAdd]
   repeat (first | go_big_quiet_skip | (go_big_quiet_want; go_big_quiet_op; go_big_quiet_on))
   refine wpQuiet_nil ?_
   refine wpList_nil ?_
   go_upto_region 5 with fail
   refine wp_region_lit ?_
   try simp only [gelS]
   refine wpList_chunk 7 (by kernel_rfl) ?_
   simp only [takS, Nat.reduceAdd]
   repeat (first | go_big_quiet_skip | (go_big_quiet_want; first | (refine quiet_loadAny (t := 3) rfl _ _ _ rfl (fun w hw => run_load_int ((ov_B p3 w hw).cellL 0 rfl)) (by rfl) ?_; simp only [putS]; go_big_quiet_on) | (refine quiet_loadAny (t := 3) rfl _ _ _ rfl (fun w hw => run_load_int ((ov_B p3 w hw).cellL 1 rfl)) (by rfl) ?_; simp only [putS]; go_big_quiet_on) | (refine quiet_loadAny (t := 3) rfl _ _ _ rfl (fun w hw => run_load_int ((ov_B p4 w hw).cellL 0 rfl)) (by rfl) ?_; simp only [putS]; go_big_quiet_on) | (refine quiet_loadAny (t := 3) rfl _ _ _ rfl (fun w hw => run_load_int ((ov_B p4 w hw).cellL 1 rfl)) (by rfl) ?_; simp only [putS]; go_big_quiet_on) | (go_big_quiet_op; go_big_quiet_on)))
   refine wpQuiet_nil ?_
   refine wpList_nil ?_
   go_wp2
   go_loopw [6, 38] (fun _ iv wr => ∃ j : Nat, j ≤ W ∧ iv = .int .i64 (j : Int) ∧ J (fpre (tlN c) (W * k + j)) wr ∧ AtB 68 wr b_p3 #[.int .i64 (c.x0 / 8), .int .i64 (c.y0 / 8)] ∧ AtB 68 wr b_p4 #[.int .i64 ((c.x1 - 1) / 8), .int .i64 ((c.y1 - 1) / 8)]) (fun _ iv _ => (W - intOf iv).toNat)
   case atStart => exact ⟨0, by omega, by simp, hJ, p3, p4⟩
   case round =>
    clear p3 p4 hJ
    obtain ⟨j, hj, rfl, hJ, p3, p4⟩ := hrel
    by_cases hjW : j < W
    ·have q2 : decide ((j : Int) < (c.x1 - 1) / 8 - c.x0 / 8 + 1) = true := decide_eq_true (by omega)
     have hlt : W * k + j < tlN c := by omega
     go_upto_region 6 with fail
     refine wp_region_lit ?_
     try simp only [gelS]
     refine wpList_chunk 1 (by kernel_rfl) ?_
     simp only [takS, Nat.reduceAdd]
     repeat (first | go_big_quiet_skip | (go_big_quiet_want; go_big_quiet_op; go_big_quiet_on))
     refine wpQuiet_nil ?_
     refine wpList_nil ?_
     go_upto_region 7 with fail
     refine wp_region_lit ?_
     try simp only [gelS]
     refine wpList_chunk 2 (by kernel_rfl) ?_
     simp only [takS, Nat.reduceAdd]
     repeat (first | go_big_quiet_skip | (go_big_quiet_want; go_big_quiet_op; go_big_quiet_on))
     refine wpQuiet_nil ?_
     refine wpList_nil ?_
     go_upto_region 8 with fail
     obtain ⟨fn, tmps, assign, body, hy, hR⟩ := HY.out (fpre (tlN c) (W * k + j)) ⟨W * k + j, hlt⟩ _ hJ (by rw [fpre_length (by omega)]; exact hlt)
     have ep : posF c ⟨W * k + j, hlt⟩ = (c.x0 / 8 + (j : Int), c.y0 / 8 + (k : Int)) := HR.out k j hjW
     rw [ep] at hy
     try dsimp only at hy
     rw [← fpre_succ hlt] at hR
     have c0 := p3.cellL 0 rfl
     have c1 := p3.cellL 1 rfl
     try dsimp only at c0 c1
     refine (wpIn_wide (n := n)).1 ?_
     gi_wp2
     refine hR.mono ?_
     rintro e W1 (⟨rfl, hJ1, hkp⟩ | ⟨rfl, hx1⟩)
     ·replace p3 := hkp.atB n3 p3
      replace p4 := hkp.atB n4 p4
      clear c0 c1
      gi_wp2
      go_wp2
      go_roundw
      case rel => exact ⟨j + 1, by omega, by go_num, hJ1, p3, p4⟩
      case measure => simp [intOf]; omega
     ·gi_wp2
      go_wp2
      refine bodyPost_ret (results_none rfl _ _ _) rfl ?_
      exact ⟨⟨_, rfl⟩, .inr ⟨_, trivial, hx1⟩⟩
    ·obtain rfl : j = W := by omega
     have q2 : decide ((j : Int) < (c.x1 - 1) / 8 - c.x0 / 8 + 1) = false := decide_eq_false (by omega)
     go_upto_region 6 with fail
     refine wp_region_lit ?_
     try simp only [gelS]
     refine wpList_chunk 1 (by kernel_rfl) ?_
     simp only [takS, Nat.reduceAdd]
     repeat (first | go_big_quiet_skip | (go_big_quiet_want; go_big_quiet_op; go_big_quiet_on))
     refine wpQuiet_nil ?_
     refine wpList_nil ?_
     go_upto_region 10 with fail
     refine wp_region_lit ?_
     try simp only [gelS]
     refine wpList_chunk 2 (by kernel_rfl) ?_
     simp only [takS, Nat.reduceAdd]
     repeat (first | go_big_quiet_skip | (go_big_quiet_want; go_big_quiet_op; go_big_quiet_on))
     refine wpQuiet_nil ?_
     refine wpList_nil ?_
     go_wp2
     go_roundw
     case rel => exact ⟨k + 1, by omega, by go_num, by rw [Nat.mul_succ]; exact hJ, p3, p4⟩
     case measure => simp [intOf]; omega
  ·obtain rfl : k = H := by omega
   have q1 : decide ((k : Int) < (c.y1 - 1) / 8 - c.y0 / 8 + 1) = false := decide_eq_false (by omega)
   go_upto_region 3 with fail
   refine wp_region_lit ?_
   try simp only [gelS]
   refine wpList_chunk 1 (by kernel_rfl) ?_
   simp only [takS, Nat.reduceAdd]
   repeat (first | go_big_quiet_skip | (go_big_quiet_want; go_big_quiet_op; go_big_quiet_on))
   refine wpQuiet_nil ?_
   refine wpList_nil ?_
   go_wp2
   go_end0
   have eF : fpre (tlN c) (W * k) = List.finRange (tlN c) := by rw [← hew]; exact fpre_all _
   rw [eF] at hJ
   exact ⟨⟨_, rfl⟩, .inl ⟨_, rfl, hJ⟩⟩
/- Contract of Paste of package raster, where the rectangle fits. -/
attribute [local go_sem] Oper.semAt_some
set_option linter.unusedVariables false
set_option linter.unusedSimpArgs false
set_option maxRecDepth 20000
theorem run_alloc_Sl (w : World) (o : Oper) (ho : o.op = .alloc 32) (ev : Operand → Value) : (execOp ev o).run Tryz.prog w = .ok (.value (.pointer (some ⟨w.heap.size, 0, none⟩))) (w.alloc (.cells #[.slice none 0 0] 32)) := by
 obtain ⟨d, p, t, ps, af, gd⟩ := o
 simp only at ho
 subst ho
 kernel_rfl
/-- A slice stored into its own cell. -/
theorem wpList_storeSl {v : Value} {ops : Array Oper} {rest : List Oper} {o : Oper} {a : Act} {w : World} {Q : Exit → Act → World → Prop} (hg : o.guard = none) (x y : Operand) (ho : o.op = .store 32 x y) (b : Nat) (hx : a.eval x = .pointer (some ⟨b, 0, none⟩)) (a' : Option Addr) (n' c' : Nat) (hy : a.eval y = .slice a' n' c') (ht : AtB 32 w b #[v])
  (h : ∀ w', AtB 32 w' b #[.slice a' n' c'] → Chg b w w' → w'.heap.size = w.heap.size → wpList Tryz.prog ops Q rest (a.put o.dst undef) w') : wpList Tryz.prog ops Q (o :: rest) a w := by
 have c0 := ht.cell 0 rfl
 have f0 := ht.frozen 0
 refine wpList_storeAny hg x y ho (w.setCell ⟨b, 0, none⟩ (.slice a' n' c')) ?_ (h _ ?_ ((Chg.refl b w).setCell _) (by simp only [World.size_setCell]))
 ·rw [hx, hy]
  simp [go_sem, c0, f0]
 ·exact heap_setCell_same w b 0 #[v] _ _ ht
theorem wpList_val {ops : Array Oper} {rest : List Oper} {o : Oper} {a : Act} {w : World} {Q : Exit → Act → World → Prop} (hg : o.guard = none) (v : Value) (hrun : (execOp a.eval o).run Tryz.prog w = .ok (.value v) w)
  (h : wpList Tryz.prog ops Q rest (a.put o.dst v) w) : wpList Tryz.prog ops Q (o :: rest) a w :=
 wpList_plain hg fun K hK => by
  unfold Oper.wp
  rw [hrun]
  exact hK _ _ h
theorem fill_TA0 (x y : Int) : Instr.fill (fun i => #[(0, 2), (2, 256)][i]?) zTA [(0, Ps.v x y)] = some (taC ⟨x, y, zT⟩) := by
 obtain ⟨r, hs, hr, e⟩ := fill_cons (place := fun i => #[(0, 2), (2, 256)][i]?) (cells := zTA) (i := 0) (v := Ps.v x y) (rest := []) (off := 0) (sz := 2) rfl (by rw [cells_ps]; rfl) (by rw [size_zTA]; omega)
 rw [e]
 show some r = _
 congr 1
 apply Array.ext_getElem?
 intro k
 rw [hr k, taC_get, cells_ps]
 by_cases h2 : k < 2
 ·rw [if_pos (by omega), if_pos h2, Nat.sub_zero]
 ·rw [if_neg (by omega), if_neg h2]
  have hz : zTA[k]? = (tileC zT)[k - 2]? := by
   have e : zTA = #[.int .i64 0, .int .i64 0] ++ tileC zT := by unfold zTA; kernel_rfl
   rw [e, Array.getElem?_append_right (by simp; omega)]
   rfl
  exact hz
theorem run_build_TA0 (w : World) (x y : Int) : (Instr.build 72 #[(0, Ps.v x y)]).run Tryz.prog w = .ok (.agg (taC ⟨x, y, zT⟩)) w :=
 run_build w 72 #[(0, Ps.v x y)] _ ((built_TA _).trans (fill_TA0 x y))
theorem quiet_buildTA0 {o : Oper} {a : Act} {C : World → Prop} {K : Act → Prop} {p : Operand} (h : o.op = .build 72 #[(0, p)]) (x y : Int) (hp : a.eval p = .agg #[.int .i64 x, .int .i64 y]) (hk : K (a.put o.dst (.agg (taC ⟨x, y, zT⟩)))) : o.quiet Tryz.prog a C K :=
 ⟨_, fun w hw => by
  have r := run_build_TA0 w x y
  simp only [Ps.v] at r
  unfold Oper.quietAt execOp
  simp only [h, List.map_toArray, List.map_cons, List.map_nil, hp, Sem.run_bind, r, Result.andThen_ok, Sem.run_pure]
  exact ⟨rfl, rfl⟩, hk⟩
theorem below_same {b : Nat} {w w' : World} (h : Chg b w w') (e : w'.heap[b]? = w.heap[b]?) : Below w.heap.size w w' :=
 ⟨h.os, h.tape, h.output, h.size, fun k hk => by
  by_cases hb : k = b
  ·subst hb; exact e
  ·exact h.block k hk hb⟩
theorem RCellsE.ownP {g o : Nat} {ls : List Px} {A B : World} {row : Option Nat} (h : RCellsE pxE g o ls A) (hn : 0 < ls.length) (hg : A.grownBy B row) (hr : ∀ r, row = some r → ∃ o : Obj, A.heap[r]? = some o ∧ o.isCells = false) : RCellsE pxE g o ls B := by
 refine h.of_eq (hg.block g h.lt fun e => ?_)
 obtain ⟨x, hx, hc⟩ := hr g e.symm
 have h0 := h.2 0 _ (List.getElem?_eq_getElem hn) 0 (by omega)
 have hs : ∃ v, (pxE.enc ls[0])[0]? = some v := ⟨_, rfl⟩
 obtain ⟨v, hv⟩ := hs
 rw [hv] at h0
 have := cell_not h0 x hx
 rw [hc] at this
 cases this
/-- The pixels of one tile turned by the paste. -/
theorem P_mapPst (c : Rc) (hf : Fits c) (L : List Px) (hL : L.length = areaN c) (okL : OkL L) (e : TA) (a : Option Addr) (cp0 : Nat) (bc bm cb g o cp : Nat) (z : Nat → Px) (w : World) (rs : RS (.slice a 1 cp0) [e] w) (tk : Tok e.t) (hw : withinB e.x e.y = true) (r0 : AtB 30 w bc (rcA c)) (m0 : AtB 101 w bm (imgC c (.slice (some ⟨g, o, none⟩) (areaN c) cp))) (ce : RCellsE pxE g o L w) (tz : TileAt w cb z) (hsep : (Value.slice a 1 cp0).ownBlock ≠ some cb) :
  Calls Tryz.prog 95 #[.slice a 1 cp0, .func (.func 107) #[] #[.pointer (some ⟨bc, 0, none⟩), .pointer (some ⟨bm, 0, none⟩)]] w fun e' w' => ∃ a' cp', e' = .returned (.slice a' (newA e.x e.y (pstT c L e.x e.y e.t)).length cp') ∧ RS (.slice a' (newA e.x e.y (pstT c L e.x e.y e.t)).length cp') (newA e.x e.y (pstT c L e.x e.y e.t)) w' ∧ Below w.heap.size w w' := by
 have eg := enters_of Tryz.func107 (by kernel_rfl) rfl
 have l1 := r0.lt
 have l2 := m0.lt
 have l3 := ce.lt
 have l4 := tz.lt
 refine (P_mapped (pstF c L) (fun _ W => AtB 30 W bc (rcA c) ∧ AtB 101 W bm (imgC c (.slice (some ⟨g, o, none⟩) (areaN c) cp)) ∧ RCellsE pxE g o L W ∧ TileAt W cb z) cb 107 #[.pointer (some ⟨bc, 0, none⟩), .pointer (some ⟨bm, 0, none⟩)] eg _ [e] () w rs (fun x hx => by rcases List.mem_singleton.1 hx with rfl; exact tk) (by simp) (fun x hx => by rcases List.mem_singleton.1 hx with rfl; exact hw) l4 (fun _ => hsep) ⟨r0, m0, ce, tz⟩
  (fun s W W' hI hk => ⟨hI.1.of_eq (hk _ l1), hI.2.1.of_eq (hk _ l2), hI.2.2.1.of_eq (hk _ l3), hI.2.2.2.of_eq (hk _ l4)⟩)
  (fun s W x y p _ hI h1 h2 h3 h4 hp => (P_Paste1 c hf L hL okL x y p hp bc bm g o cp W hI.1 hI.2.1 hI.2.2.1).mono fun e' W' ⟨he, hb⟩ => ⟨he, ⟨hI.1.of_eq (hb.block _ hI.1.lt), hI.2.1.of_eq (hb.block _ hI.2.1.lt), hI.2.2.1.of_eq (hb.block _ hI.2.2.1.lt), hI.2.2.2.of_eq (hb.block _ hI.2.2.2.lt)⟩, Chg.of_below hb⟩)
  (fun s x y p hp => pstP_ok okL x y p hp)).mono ?_
 rintro e' w' ⟨v', rfl, od, hI, hcc⟩
 have hm : (mapK (pstF c L) [e] () [e].length).2 = newA e.x e.y (pstT c L e.x e.y e.t) := mapK_pst c L e
 rw [hm] at od
 have hb := below_same hcc (by rw [show w'.heap[cb]? = _ from hI.2.2.2, show w.heap[cb]? = _ from tz])
 obtain ⟨a', cp', rfl, _⟩ := od.len
 exact ⟨a', cp', rfl, od.rs, hb⟩
theorem P_findB (v : Value) (ls : List TA) (x y : Int) (k : Nat) (b : Bool) (w : World) (h : RS v ls w) (hs : Srt ls) (hn : ls.length ≤ 1000000) (hk : cutL ls x y = k) (hb : hitL ls x y = b) : Calls Tryz.prog 106 #[v, .agg #[.int .i64 x, .int .i64 y]] w fun e w' => e = .returned (.tuple #[.int .i64 (k : Int), .bool b]) ∧ Below w.heap.size w w' := by
 subst hk hb
 exact P_find v ls x y w h hs hn
theorem zip1_wp {F : Fence} {n : Nat} {P : Program} {c : Code} {Q : Exit → Act → World → Prop} {W : World} {t : Array Value} {p : Tmp} {v : Value} (h : c.wpIn F n P Q { tmps := t.setIfInBounds p v, defers := [] } W) :
  c.wpIn F n P Q { tmps := (#[p].zip #[v]).foldl (fun t (p, v) => t.setIfInBounds p v) t, defers := [] } W := by
 have e : (#[p].zip #[v]).foldl (fun t (p, v) => t.setIfInBounds p v) t = t.setIfInBounds p v := by
  show Array.foldl _ t (Array.zip (List.toArray [p]) (List.toArray [v])) = _
  rw [List.zip_toArray]
  simp
 rw [e]
 exact h
theorem arr_fn (t : Array Value) (n : Nat) (h : t.size = n) : ∃ U : Nat → Value, t = ((List.range n).map U).toArray ∧ ∀ i, U i = t.getD i undef := by
 refine ⟨fun i => t.getD i undef, ?_, fun _ => rfl⟩
 apply Array.ext_getElem?
 intro k
 by_cases hk : k < n
 ·simp [hk, h]
 ·simp [hk, h]
/-- A block of deferred calls, empty. -/
def DefAt (w : World) (D : Nat) : Prop := w.heap[D]? = some (.deferred (some []))
theorem DefAt.of_eq {w w' : World} {D : Nat} (h : DefAt w D) (e : w'.heap[D]? = w.heap[D]?) : DefAt w' D := e.trans h
theorem DefAt.lt {w : World} {D : Nat} (h : DefAt w D) : D < w.heap.size := (Array.getElem?_eq_some_iff.1 h).1
theorem DefAt.below {w w' : World} {D : Nat} (h : DefAt w D) (e : Below w.heap.size w w') : DefAt w' D := h.of_eq (e.block _ h.lt)
theorem DefAt.ne {w : World} {D b : Nat} {t : TypeId} {cs : Array Value} (h : DefAt w D) (k : AtB t w b cs) : b ≠ D := fun e => by
 subst e
 have k' : w.heap[b]? = _ := k
 rw [show w.heap[b]? = _ from h] at k'
 cases k'
theorem rs_mid {g o : Nat} {ls : List TA} {w : World} (sc : RCells g o ls w) {k : Nat} (hk : k < ls.length) : RS (.slice (some ⟨g, o + k * 258, none⟩) 1 1) [aT ls k] w := by
 refine .inr ⟨g, o + k * 258, 1, rfl, Nat.le_refl _, fun _ => ⟨sc.1, fun i hi j hj => ?_⟩⟩
 obtain rfl : i = 0 := by simpa using hi
 have := sc.2 k hk j hj
 rw [show o + k * 258 + (0 * 258 + j) = o + (k * 258 + j) by omega, this]
 rfl
set_option maxHeartbeats 8000000 in
theorem P_Paste_ok (v : Value) (ls : List TA) (c : Rc) (u : Value) (L : List Px) (w : World) (h : RS v ls w) (tk : TokL ls) (hn : ls.length ≤ maxLen) (hE : fitsE c = 0) (hu : RSE pxE u L w) (hL : L.length = areaN c) (okL : OkL L) : Calls Tryz.prog 68 #[.agg #[v], .agg (imgC c u)] w fun e w' => ∃ a cp, e = .returned (.tuple #[.agg #[.slice a (manyL (pstL c L (fineL ls) (posL c))).length cp], .int .i64 (manyE (pstL c L (fineL ls) (posL c)))]) ∧ RS (.slice a (manyL (pstL c L (fineL ls) (posL c))).length cp) (manyL (pstL c L (fineL ls) (posL c))) w' ∧ Below w.heap.size w w' := by
 have B := Below.refl w.heap.size w
 obtain ⟨a', c', hT⟩ := P_tiles v ls w h tk hn
 have HT := Lib.hid hT
 clear hT
 obtain ⟨a, cpv, rfl, hc⟩ := h.len
 have HF := fitsE_zero hE
 have FT := Lib.hid HF
 obtain ⟨an1, an2⟩ := area_bd HF
 have hAN := Lib.hid (area_N HF)
 have HV := Lib.hid HF.valid
 obtain ⟨ad, cu, rfl, hcu⟩ := hu.len
 obtain ⟨g, o, rfl, ce⟩ := hu.at (by have := area_N HF; omega)
 have SR := Lib.hid (validL_srt (fineL_valid ls))
 have TK := Lib.hid (fineL_tok tk)
 have hfl := fineL_length ls
 have hNle := tlN_le HF
 have OK := Lib.hid okL
 have HL := Lib.hid hL
 have HEE := Lib.hid hE
 have d1 : ((areaN c : Int) != (areaN c : Int)) = false := by simp
 rw [hL]
 rw [hL] at hcu
 clear h tk hu okL hL hE HF
 generalize hks : fineL ls = KS at *
 refine (callsIn_wide (n := 3)).1 ?_
 refine callsIn_of_wp_marks Tryz.func68 rfl trivial ?_ rfl
 simp only [Tryz.ntmps68, List.size_toArray, List.length_cons, List.length_nil, Nat.reduceAdd, Nat.reduceSub, Array.replicate_succ, Array.replicate_zero, List.push_toArray, List.append_toArray, List.nil_append, List.cons_append]
 refine wpIn_wide.2 ?_
 go_upto_region 0 with fail
 refine wp_region_lit ?_
 try simp only [gelS]
 (refine wpList_boxB (t := 34) rfl _ rfl _ rfl ?_; intro b_r2 wn hle hge ht hbn hzn; have hsz := B.size; replace B := B.trans (hbn.mono (by omega)); have hln := Nat.lt_of_lt_of_eq (Nat.lt_succ_self _) hzn.symm; clear hzn; (try have hlt := ce.lt); (try replace ce := ce.below (hbn.mono hle)); have r2 := ht; clear ht; simp only [putS])
 (refine wpList_boxB (t := 101) rfl _ rfl _ rfl ?_; intro b_m3 wn hle hge ht hbn hzn; have hsz := B.size; replace B := B.trans (hbn.mono (by omega)); have hln := Nat.lt_of_lt_of_eq (Nat.lt_succ_self _) hzn.symm; clear hzn; (try have hlt := r2.lt); (try replace r2 := r2.below (hbn.mono hle)); (try have hlt := ce.lt); (try replace ce := ce.below (hbn.mono hle)); have m3 := ht; clear ht; simp only [putS])
 (refine wpList_allocBk (t := 34) rfl _ (run_alloc_R _ _ rfl) ?_; intro b_r4 wn hle hge ht hbn hzn; have hsz := B.size; replace B := B.trans (hbn.mono (by omega)); have hln := Nat.lt_of_lt_of_eq (Nat.lt_succ_self _) hzn.symm; clear hzn; (try have hlt := r2.lt); (try replace r2 := r2.below (hbn.mono hle)); (try have hlt := m3.lt); (try replace m3 := m3.below (hbn.mono hle)); (try have hlt := ce.lt); (try replace ce := ce.below (hbn.mono hle)); have r4 := ht; clear ht; simp only [putS])
 refine wpList_chunk 1 (by kernel_rfl) ?_
 simp only [takS, Nat.reduceAdd]
 repeat (first | go_big_quiet_skip | (go_big_quiet_want; go_big_quiet_op; go_big_quiet_on))
 refine wpQuiet_nil ?_
 refine wpList_nil ?_
 go_upto_region 1 with fail
 refine wp_region_lit ?_
 try simp only [gelS]
 refine wpList_chunk 2 (by kernel_rfl) ?_
 simp only [takS, Nat.reduceAdd]
 repeat (first | go_big_quiet_skip | (go_big_quiet_want; first | (refine quiet_loadAny (t := 30) rfl _ _ _ rfl (fun w hw => run_load_imR (ov_B m3 w hw)) (by first | rfl | omega) ?_; simp only [putS]; go_big_quiet_on) | (refine quiet_loadAny (t := 30) rfl _ _ _ rfl (fun w hw => run_load_B (ov_B c6 w hw) Tryz.isAgg30 (by kernel_rfl)) (by rfl) ?_; simp only [putS]; go_big_quiet_on) | (go_big_quiet_op; go_big_quiet_on)))
 refine wpQuiet_nil ?_
 (refine wpList_allocBk (t := 30) rfl _ (run_alloc_Rc _ _ rfl) ?_; intro b_c6 wn hle hge ht hbn hzn; have hsz := B.size; replace B := B.trans (hbn.mono (by omega)); have hln := Nat.lt_of_lt_of_eq (Nat.lt_succ_self _) hzn.symm; clear hzn; (try have hlt := r2.lt); (try replace r2 := r2.below (hbn.mono hle)); (try have hlt := m3.lt); (try replace m3 := m3.below (hbn.mono hle)); (try have hlt := r4.lt); (try replace r4 := r4.below (hbn.mono hle)); (try have hlt := c6.lt); (try replace c6 := c6.below (hbn.mono hle)); (try have hlt := ce.lt); (try replace ce := ce.below (hbn.mono hle)); have c6 := ht; clear ht; simp only [putS])
 (refine wpList_storeB (t := 30) rfl _ _ rfl _ rfl _ rfl c6 (by kernel_rfl) rfl (by simp [rcA, imgC, Value.oneCell']) ?_; clear c6; intro wn ht hcn hzn; have hsz := B.size; replace hzn := Nat.le_of_eq hzn.symm; replace B := Chg.below B hcn (by omega) B.size; (try replace r2 := r2.of_eq (hcn.block _ r2.lt (by omega))); (try replace m3 := m3.of_eq (hcn.block _ m3.lt (by omega))); (try replace r4 := r4.of_eq (hcn.block _ r4.lt (by omega))); (try replace ce := ce.of_eq (hcn.block _ ce.lt (by omega))); have c6 := ht; clear ht; simp only [putS])
 refine wpList_nil ?_
 replace c6 : AtB 30 _ b_c6 (rcA c) := c6
 go_upto_region 2 with fail
 try simp only [gelS]
 try have lx_r2 := r2.lt
 try have lx_m3 := m3.lt
 try have lx_r4 := r4.lt
 try have lx_c6 := c6.lt
 try have lx_ce := ce.lt
 refine wp_region_RL 11 [(1, detS ?v1_1), (6, detS ?v1_6), (8, detS ?v1_8)] (by kernel_rfl) (by kernel_rfl) (by kernel_rfl) ?_
 rotate_left 3
 simp only [takS, Nat.reduceAdd]
 refine wpRL_chunk 1 (by kernel_rfl) ?_
 simp only [takS, Nat.reduceAdd]
 repeat (first | go_big_quiet_skip | (go_big_quiet_want; first | (refine quiet_loadAny (t := 30) rfl _ _ _ rfl (fun w hw => run_load_imR (ov_B m3 w hw)) (by first | rfl | omega) ?_; simp only [putS]; go_big_quiet_on) | (refine quiet_loadAny (t := 30) rfl _ _ _ rfl (fun w hw => run_load_B (ov_B c6 w hw) Tryz.isAgg30 (by kernel_rfl)) (by rfl) ?_; simp only [putS]; go_big_quiet_on) | (go_big_quiet_op; go_big_quiet_on)))
 refine wpQuiet_nil ?_
 refine wpRL_callB (by rfl) (by first | rfl | simp [Region.wanted, yielded]) ?_ ?_
 ·intro wn hbn hE Kx hKx
  have hsz := B.size
  have hzn := hbn.size
  replace B := B.trans (hbn.mono B.size)
  (try replace r2 := r2.below hbn)
  (try replace m3 := m3.below hbn)
  (try replace r4 := r4.below hbn)
  (try replace c6 := c6.below hbn)
  (try replace ce := ce.below hbn)
  refine wp_callF rfl (enters_of Tryz.func102 (by kernel_rfl) rfl) (by simp only [Act.eval, evlS]; rfl) ?_
  refine (P_ValidRB c true _ HV.out).mono ?_
  rintro e wm ⟨rfl, hbm⟩
  refine ⟨_, rfl, ?_⟩
  have hz := hKx () wm trivial hbm
  dsimp only [detS] at hz
  exact hz
 rintro ⟨⟩
 dsimp only [detS]
 simp only [putS]
 refine wpRL_chunk 4 (by kernel_rfl) ?_
 simp only [takS, Nat.reduceAdd]
 repeat (first | go_big_quiet_skip | (go_big_quiet_want; first | (refine quiet_loadAny (t := 99) rfl _ _ _ rfl (fun w hw => run_load_slp (imgC_u (ov_B m3 w hw))) (by first | rfl | omega) ?_; simp only [putS]; go_big_quiet_on) | (go_big_quiet_op; go_big_quiet_on)))
 refine wpQuiet_nil ?_
 refine wpRL_callB (by rfl) ?hw1_6 ?_ ?_
 case hw1_6 => kernel_rfl
 ·intro wn hbn hE Kx hKx
  have hsz := B.size
  have hzn := hbn.size
  replace B := B.trans (hbn.mono B.size)
  (try replace r2 := r2.below hbn)
  (try replace m3 := m3.below hbn)
  (try replace r4 := r4.below hbn)
  (try replace c6 := c6.below hbn)
  (try replace ce := ce.below hbn)
  refine wp_lenS rfl Tryz.underlying99 rfl ?_
  exact hKx () _ trivial (Below.refl _ _)
 rintro ⟨⟩
 dsimp only [detS]
 simp only [putS]
 refine wpRL_chunk 1 (by kernel_rfl) ?_
 simp only [takS, Nat.reduceAdd]
 repeat (first | go_big_quiet_skip | (go_big_quiet_want; first | (refine quiet_loadAny (t := 30) rfl _ _ _ rfl (fun w hw => run_load_imR (ov_B m3 w hw)) (by first | rfl | omega) ?_; simp only [putS]; go_big_quiet_on) | (refine quiet_loadAny (t := 30) rfl _ _ _ rfl (fun w hw => run_load_B (ov_B c6 w hw) Tryz.isAgg30 (by kernel_rfl)) (by rfl) ?_; simp only [putS]; go_big_quiet_on) | (go_big_quiet_op; go_big_quiet_on)))
 refine wpQuiet_nil ?_
 refine wpRL_callB (by rfl) ?hw1_8 ?_ ?_
 case hw1_8 => kernel_rfl
 ·intro wn hbn hE Kx hKx
  have hsz := B.size
  have hzn := hbn.size
  replace B := B.trans (hbn.mono B.size)
  (try replace r2 := r2.below hbn)
  (try replace m3 := m3.below hbn)
  (try replace r4 := r4.below hbn)
  (try replace c6 := c6.below hbn)
  (try replace ce := ce.below hbn)
  refine wp_callF rfl (enters_of Tryz.func103 (by kernel_rfl) rfl) (by simp only [Act.eval, evlS]; rfl) ?_
  refine (P_AreaB c (areaN c : Int) _ HV.out hAN.out).mono ?_
  rintro e wm ⟨rfl, hbm⟩
  refine ⟨_, rfl, ?_⟩
  have hz := hKx () wm trivial hbm
  dsimp only [detS] at hz
  exact hz
 rintro ⟨⟩
 dsimp only [detS]
 simp only [putS]
 refine wpRL_chunk 2 (by kernel_rfl) ?_
 simp only [takS, Nat.reduceAdd]
 repeat (first | go_big_quiet_skip | (go_big_quiet_want; go_big_quiet_op; go_big_quiet_on))
 refine wpQuiet_nil ?_
 refine wpRL_nil ?_
 intro wn hbn hE
 have hsz := B.size
 have hzn := hbn.size
 replace B := B.trans (hbn.mono B.size)
 (try replace r2 := r2.below hbn)
 (try replace m3 := m3.below hbn)
 (try replace r4 := r4.below hbn)
 (try replace c6 := c6.below hbn)
 (try replace ce := ce.below hbn)
 clear hE
 try simp only [List.drop_succ_cons, List.drop_zero]
 refine NoPan.normal ?_
 go_upto_region 4 with fail
 refine wp_region_lit ?_
 try simp only [gelS]
 refine wpList_chunk 1 (by kernel_rfl) ?_
 simp only [takS, Nat.reduceAdd]
 repeat (first | go_big_quiet_skip | (go_big_quiet_want; first | (refine quiet_loadAny (t := 30) rfl _ _ _ rfl (fun w hw => run_load_imR (ov_B m3 w hw)) (by first | rfl | omega) ?_; simp only [putS]; go_big_quiet_on) | (refine quiet_loadAny (t := 30) rfl _ _ _ rfl (fun w hw => run_load_B (ov_B c6 w hw) Tryz.isAgg30 (by kernel_rfl)) (by rfl) ?_; simp only [putS]; go_big_quiet_on) | (go_big_quiet_op; go_big_quiet_on)))
 refine wpQuiet_nil ?_
 refine wpList_callF (by first | rfl | simp [Region.wanted, yielded]) rfl (enters_of Tryz.func104 (by kernel_rfl) rfl) (by simp only [Act.eval, evlS]; rfl) ?_
 refine (P_fitsB c 0 _ HEE.out).mono ?_
 rintro e wn ⟨rfl, hbn⟩
 have hsz := B.size
 have hzn := hbn.size
 replace B := B.trans (hbn.mono B.size)
 (try replace r2 := r2.below hbn)
 (try replace m3 := m3.below hbn)
 (try replace r4 := r4.below hbn)
 (try replace c6 := c6.below hbn)
 (try replace ce := ce.below hbn)
 refine ⟨_, rfl, ?_⟩
 simp only [putS]
 refine wpList_chunk 1 (by kernel_rfl) ?_
 simp only [takS, Nat.reduceAdd]
 repeat (first | go_big_quiet_skip | (go_big_quiet_want; go_big_quiet_op; go_big_quiet_on))
 refine wpQuiet_nil ?_
 refine wpList_nil ?_
 go_upto_region 5 with fail
 refine wp_region_lit ?_
 try simp only [gelS]
 refine wpList_chunk 2 (by kernel_rfl) ?_
 simp only [takS, Nat.reduceAdd]
 repeat (first | go_big_quiet_skip | (go_big_quiet_want; go_big_quiet_op; go_big_quiet_on))
 refine wpQuiet_nil ?_
 refine wpList_nil ?_
 go_upto_region 7 with fail
 have rs1 := (HT.out _ B).2
 refine wp_region_lit ?_
 try simp only [gelS]
 refine wpList_chunk 1 (by kernel_rfl) ?_
 simp only [takS, Nat.reduceAdd]
 repeat (first | go_big_quiet_skip | (go_big_quiet_want; first | (refine quiet_loadAny (t := 34) rfl _ _ _ rfl (fun w hw => run_load_B (ov_B r2 w hw) Tryz.isAgg34 (by kernel_rfl)) (by rfl) ?_; simp only [putS]; go_big_quiet_on) | (go_big_quiet_op; go_big_quiet_on)))
 refine wpQuiet_nil ?_
 refine wpList_callF (by first | rfl | simp [Region.wanted, yielded]) rfl (enters_of Tryz.func50 (by kernel_rfl) rfl) (by simp only [Act.eval, evlS]; rfl) ?_
 refine ((HT.out _ B).1).mono ?_
 rintro e wn ⟨rfl, hbn⟩
 have hsz := B.size
 have hzn := hbn.size
 replace B := B.trans (hbn.mono B.size)
 (try replace r2 := r2.below hbn)
 (try replace m3 := m3.below hbn)
 (try replace r4 := r4.below hbn)
 (try replace c6 := c6.below hbn)
 (try replace ce := ce.below hbn)
 replace rs1 := rs1.below hbn
 refine ⟨_, rfl, ?_⟩
 simp only [putS]
 (refine wpList_allocBk (t := 32) rfl _ (run_alloc_Sl _ _ rfl) ?_; intro b_l8 wn hle hge ht hbn hzn; have hsz := B.size; replace B := B.trans (hbn.mono (by omega)); have hln := Nat.lt_of_lt_of_eq (Nat.lt_succ_self _) hzn.symm; clear hzn; (try have hlt := r2.lt); (try replace r2 := r2.below (hbn.mono hle)); (try have hlt := m3.lt); (try replace m3 := m3.below (hbn.mono hle)); (try have hlt := r4.lt); (try replace r4 := r4.below (hbn.mono hle)); (try have hlt := c6.lt); (try replace c6 := c6.below (hbn.mono hle)); (try have hlt := ce.lt); (try replace ce := ce.below (hbn.mono hle)); (try have hlt := rs1.lt); (try replace rs1 := rs1.below (hbn.mono hle)); have l8 := ht; clear ht; simp only [putS])
 (refine wpList_storeSl rfl _ _ rfl _ rfl _ _ _ rfl l8 ?_; have l8o := l8; clear l8; intro wn ht hcn hzn; (try replace rs1 := rs1.chg l8o (by simp) hcn); have hsz := B.size; replace hzn := Nat.le_of_eq hzn.symm; replace B := Chg.below B hcn (by omega) B.size; (try replace r2 := r2.of_eq (hcn.block _ r2.lt (by omega))); (try replace m3 := m3.of_eq (hcn.block _ m3.lt (by omega))); (try replace r4 := r4.of_eq (hcn.block _ r4.lt (by omega))); (try replace c6 := c6.of_eq (hcn.block _ c6.lt (by omega))); (try replace ce := ce.of_eq (hcn.block _ ce.lt (by omega))); have l8 := ht; clear ht; simp only [putS])
 refine wpList_nil ?_
 have k2 : w.heap.size ≤ b_r2 := by omega
 have k3 : b_r2 < b_m3 := by have := r2.lt; omega
 have k4 : b_m3 < b_r4 := by have := m3.lt; omega
 have k6 : b_r4 < b_c6 := by have := r4.lt; omega
 have k8 : b_c6 < b_l8 := by have := c6.lt; omega
 have k9 := l8.lt
 have kg := ce.lt
 go_upto_region 8 with fail
 refine wp_region_lit ?_
 try simp only [gelS]
 refine wpList_chunk 1 (by kernel_rfl) ?_
 simp only [takS, Nat.reduceAdd]
 repeat (first | go_big_quiet_skip | (go_big_quiet_want; first | (refine quiet_loadAny (t := 30) rfl _ _ _ rfl (fun w hw => run_load_imR (ov_B m3 w hw)) (by first | rfl | omega) ?_; simp only [putS]; go_big_quiet_on) | (refine quiet_loadAny (t := 30) rfl _ _ _ rfl (fun w hw => run_load_B (ov_B c6 w hw) Tryz.isAgg30 (by kernel_rfl)) (by rfl) ?_; simp only [putS]; go_big_quiet_on) | (go_big_quiet_op; go_big_quiet_on)))
 refine wpQuiet_nil ?_
 refine wpList_callF (by first | rfl | simp [Region.wanted, yielded]) rfl (enters_of Tryz.func105 (by kernel_rfl) rfl) (by simp only [Act.eval, evlS]; rfl) ?_
 refine (P_Tiles c _).mono ?_
 rintro e wn ⟨b_t, rfl, hbt, rt, hbn⟩
 have hsz := B.size
 have hzn := hbn.size
 replace B := B.trans (hbn.mono B.size)
 (try replace m3 := m3.below hbn)
 (try replace r4 := r4.below hbn)
 (try replace c6 := c6.below hbn)
 (try replace ce := ce.below hbn)
 (try replace l8 := l8.below hbn)
 (try replace rs1 := rs1.below hbn)
 refine ⟨_, rfl, ?_⟩
 simp only [putS]
 refine wpList_nil ?_
 go_wp2
 refine (wpIn_wide (n := 3)).1 ?_
 refine rangeFunc_made (F := Fence.wide) rfl (by omega) (gf := 128) (lb := #[.pointer (some ⟨b_t, 0, none⟩)]) rfl trivial (enters_of Tryz.func128 (by kernel_rfl) rfl) (tiles_stops c FT.out b_t b_l8 _ (by omega) _ rt l8.lt) (fun h k => KpB.trans h k) (fun W l o o' _ hl ho _ => KpB.putObj b_l8 o' hl ho) (fun A B h => KpB.below h) (Below.refl _ _) (fun _ => rfl)
  (fun pre W => ∃ (a : Option Addr) (cp : Nat), AtB 32 W b_l8 #[.slice a (pstL c L KS (pre.map (posF c))).length cp] ∧ RS (.slice a (pstL c L KS (pre.map (posF c))).length cp) (pstL c L KS (pre.map (posF c))) W ∧ AtB 101 W b_m3 (imgC c (.slice (some ⟨g, o, none⟩) (areaN c) cu)) ∧ AtB 30 W b_c6 (rcA c) ∧ AtB 34 W b_r4 #[.slice none 0 0] ∧ RCellsE pxE g o L W ∧ Below w.heap.size w W)
  (fun pre W W' row hI hg hr => ?own)
  ⟨a', c', l8, rs1, m3, c6, r4, ce, B⟩
  (fun x a' W => ∃ b9 : Nat, a'.defers = [] ∧ a'.tmps.size = 78 ∧ a'.tmps.getD 3 undef = .pointer (some ⟨b_m3, 0, none⟩) ∧ a'.tmps.getD 6 undef = .pointer (some ⟨b_c6, 0, none⟩) ∧ a'.tmps.getD 8 undef = .pointer (some ⟨b_l8, 0, none⟩) ∧ a'.tmps.getD 9 undef = .pointer (some ⟨b9, 0, none⟩) ∧ AtB 68 W b9 #[.int .i64 (posF c x).1, .int .i64 (posF c x).2] ∧ b_l8 < b9)
  (fun x a' W W' row hA hg hr => ?own2) ?assign ?body ?done
 case own =>
  obtain ⟨a, cp, h1, h2, h3, h4, h5, h6, h7⟩ := hI
  have hr' : ∀ r, row = some r → ∃ o : Obj, W.heap[r]? = some o ∧ o.isCells = false := fun r e => (hr r e).2
  have hsz1 := B.size
  exact ⟨a, cp, h1.own hg hr', h2.own hg hr', h3.own hg hr', h4.own hg hr', h5.own hg hr', h6.ownP (by rw [HL.out]; omega) hg hr', below_own h7 h7.size hg (fun r e => Nat.le_trans hsz1 (hr r e).1)⟩
 case own2 =>
  obtain ⟨b9, e1, e2, e3, e4, e5, e6, h1, h2⟩ := hA
  exact ⟨b9, e1, e2, e3, e4, e5, e6, h1.own hg (fun r e => (hr r e).2), h2⟩
 case assign =>
  intro l pre x W K ⟨_, _, hl8, _⟩ hK
  have B := Below.refl W.heap.size W
  have hl := hl8.lt
  obtain ⟨⟨X, Y⟩, hxy⟩ : ∃ p, posF c x = p := ⟨_, rfl⟩
  rw [hxy] at hK
  dsimp only at hK
  rw [hxy]
  dsimp only
  refine zip1_wp ?_
  simp only [List.setIfInBounds_toArray, List.set_cons_succ, List.set_cons_zero]
  refine round_lit (by kernel_rfl) ?_
  try simp only [gelS]
  (refine wpList_allocBk (t := 68) rfl _ (run_alloc_Ps _ _ rfl) ?_; intro b_p9 wn hle hge ht hbn hzn; have hsz := B.size; replace B := B.trans (hbn.mono (by omega)); have hln := Nat.lt_of_lt_of_eq (Nat.lt_succ_self _) hzn.symm; clear hzn; have p9 := ht; clear ht; simp only [putS])
  (refine wpList_storeB (t := 68) rfl _ _ rfl _ rfl _ rfl p9 (by kernel_rfl) rfl (by simp [Value.oneCell']) ?_; clear p9; intro wn ht hcn hzn; have hsz := B.size; replace hzn := Nat.le_of_eq hzn.symm; replace B := Chg.below B hcn (by omega) B.size; have p9 := ht; clear ht; simp only [putS])
  refine wpList_nil ?_
  refine Only.at ?_
  refine hK _ _ B ⟨_, rfl, rfl, rfl, rfl, rfl, rfl, p9, by omega⟩
 case body =>
  rintro l pre x W ⟨tm, df⟩ ⟨a, cp, l8, rs1, m3, c6, r4, ce, BW⟩ ⟨b9, e1, e2, e3, e4, e5, e6, p9, k10⟩ hpre
  obtain ⟨U, hU, hUi⟩ := arr_fn tm 78 e2
  rw [← hUi] at e3 e4 e5 e6
  have eL : ((List.range 78).map U).toArray = #[U 0, U 1, U 2, U 3, U 4, U 5, U 6, U 7, U 8, U 9, U 10, U 11, U 12, U 13, U 14, U 15, U 16, U 17, U 18, U 19, U 20, U 21, U 22, U 23, U 24, U 25, U 26, U 27, U 28, U 29, U 30, U 31, U 32, U 33, U 34, U 35, U 36, U 37, U 38, U 39, U 40, U 41, U 42, U 43, U 44, U 45, U 46, U 47, U 48, U 49, U 50, U 51, U 52, U 53, U 54, U 55, U 56, U 57, U 58, U 59, U 60, U 61, U 62, U 63, U 64, U 65, U 66, U 67, U 68, U 69, U 70, U 71, U 72, U 73, U 74, U 75, U 76, U 77] := rfl
  rw [eL] at hU
  rw [e3, e4, e5, e6] at hU
  subst hU
  have e1 : df = [] := e1
  subst e1
  clear e2 e3 e4 e5 e6 hUi eL
  obtain ⟨⟨X, Y⟩, hxy⟩ : ∃ p, posF c x = p := ⟨_, rfl⟩
  have hwi := posP_in FT.out x.isLt
  rw [show posP c x.val = (X, Y) from hxy] at hwi
  have HWI := Lib.hid hwi
  rw [hxy] at p9
  dsimp only at p9
  have hMn := pstL_len c L (pre.map (posF c)) KS
  rw [List.length_map] at hMn
  have SM0 := pstL_srt c L (pre.map (posF c)) KS SR.out
  have TM0 := pstL_tok OK.out (pre.map (posF c)) KS TK.out (c := c)
  have HNEW0 : pstL c L KS ((pre ++ [x]).map (posF c)) = putL (pstL c L KS (pre.map (posF c))) X Y (pstT c L X Y (tileL (pstL c L KS (pre.map (posF c))) X Y)) := by
   rw [List.map_append, show [x].map (posF c) = [(X, Y)] from by rw [← hxy]; rfl, pstL_snoc]
   rfl
  generalize pstL c L KS (pre.map (posF c)) = M at *
  have SM := Lib.hid SM0
  have TM := Lib.hid TM0
  have HNEW := Lib.hid HNEW0
  have L8 := Lib.hid l8
  have HTK := Lib.hid (tileL_tok TM0 X Y)
  have HTT := Lib.hid (pstT_tok OK.out X Y (tileL_tok TM0 X Y) (c := c))
  have hM3 : M.length ≤ 3000 := by omega
  have hws := BW.size
  have l8lt := l8.lt
  have m3lt := m3.lt
  have c6lt := c6.lt
  have r4lt := r4.lt
  have p9lt := p9.lt
  have hpl := putL_length M X Y (pstT c L X Y (tileL M X Y))
  obtain ⟨_, _, e1, hcp⟩ := rs1.len
  simp only [Value.slice.injEq] at e1
  obtain ⟨rfl, _, rfl⟩ := e1
  have RS1W := Lib.hid rs1
  have B := Exc.refl b_l8 W
  clear SM0 TM0 HNEW0 hMn hwi hxy
  cases hh : hitL M X Y with
  | true =>
   have HH := Lib.hid hh
   obtain ⟨hc1, hc2⟩ := hit_at SM.out hh
   obtain ⟨k, hk⟩ : ∃ k, cutL M X Y = k := ⟨_, rfl⟩
   rw [hk] at hc1 hc2
   have HK := Lib.hid hk
   obtain ⟨gg, oo, rfl, rc⟩ := rs1.at (by omega)
   have HC2 := Lib.hid hc2
   clear hh hk hc2
   gi_upto_region 10 with fail
   refine round_lit (by kernel_rfl) ?_
   try simp only [gelS]
   refine wpList_chunk 2 (by kernel_rfl) ?_
   simp only [takS, Nat.reduceAdd]
   repeat (first | go_big_quiet_skip | (go_big_quiet_want; first | (refine quiet_loadAny (t := 32) rfl _ _ _ rfl (fun w hw => run_load_sl ((ov_B l8 w hw).cellL 0 rfl)) (by rfl) ?_; simp only [putS]; go_big_quiet_on) | (refine quiet_loadAny (t := 68) rfl _ _ _ rfl (fun w hw => run_load_B (ov_B p9 w hw) Tryz.isAgg68 (by kernel_rfl)) (by rfl) ?_; simp only [putS]; go_big_quiet_on) | (refine quiet_buildTA0 rfl X Y rfl ?_; simp only [putS]; go_big_quiet_on) | (go_big_quiet_op; go_big_quiet_on)))
   refine wpQuiet_nil ?_
   refine wpList_callF (by first | rfl | simp [Region.wanted, yielded]) rfl (enters_of Tryz.func106 (by kernel_rfl) rfl) (by simp only [Act.eval, evlS]; rfl) ?_
   refine (P_findB _ M X Y k true _ rs1 SM.out (by omega) HK.out HH.out).mono ?_
   rintro e wn ⟨rfl, hbn⟩
   have hsz := B.size
   have hzn := hbn.size
   replace B := B.trans (hbn.mono B.size)
   (try replace l8 := l8.below hbn)
   (try replace m3 := m3.below hbn)
   (try replace c6 := c6.below hbn)
   (try replace r4 := r4.below hbn)
   (try replace ce := ce.below hbn)
   (try replace p9 := p9.below hbn)
   (try replace rs1 := rs1.below hbn)
   refine ⟨_, rfl, ?_⟩
   simp only [putS]
   refine wpList_chunk 5 (by kernel_rfl) ?_
   simp only [takS, Nat.reduceAdd]
   repeat (first | go_big_quiet_skip | (go_big_quiet_want; first | (refine quiet_buildTA0 rfl X Y rfl ?_; simp only [putS]; go_big_quiet_on) | (go_big_quiet_op; go_big_quiet_on)))
   refine wpQuiet_nil ?_
   refine wpList_nil ?_
   refine Only.at ?_
   try dsimp only
   gi_upto_region 11 with fail
   refine round_lit (by kernel_rfl) ?_
   try simp only [gelS]
   refine wpList_chunk 2 (by kernel_rfl) ?_
   simp only [takS, Nat.reduceAdd]
   repeat (first | go_big_quiet_skip | (go_big_quiet_want; first | (refine quiet_loadAny (t := 68) rfl _ _ _ rfl (fun w hw => run_load_B (ov_B p9 w hw) Tryz.isAgg68 (by kernel_rfl)) (by rfl) ?_; simp only [putS]; go_big_quiet_on) | (refine quiet_buildTA0 rfl X Y rfl ?_; simp only [putS]; go_big_quiet_on) | (go_big_quiet_op; go_big_quiet_on)))
   refine wpQuiet_nil ?_
   (refine wpList_bs1T rfl _ rfl ⟨X, Y, zT⟩ (by rfl) ?_; intro b_s1 wn hle hge ht hbn hzn; have hsz := B.size; replace B := B.trans (hbn.mono (by omega)); have hln := Nat.lt_of_lt_of_eq (Nat.lt_succ_self _) hzn.symm; clear hzn; (try have hlt := l8.lt); (try replace l8 := l8.below (hbn.mono hle)); (try have hlt := m3.lt); (try replace m3 := m3.below (hbn.mono hle)); (try have hlt := c6.lt); (try replace c6 := c6.below (hbn.mono hle)); (try have hlt := r4.lt); (try replace r4 := r4.below (hbn.mono hle)); (try have hlt := ce.lt); (try replace ce := ce.below (hbn.mono hle)); (try have hlt := p9.lt); (try replace p9 := p9.below (hbn.mono hle)); (try have hlt := rs1.lt); (try replace rs1 := rs1.below (hbn.mono hle)); have s1 := ht; clear ht; simp only [putS])
   refine wpList_chunk 1 (by kernel_rfl) ?_
   simp only [takS, Nat.reduceAdd]
   repeat (first | go_big_quiet_skip | (go_big_quiet_want; first | (refine quiet_buildTA0 rfl X Y rfl ?_; simp only [putS]; go_big_quiet_on) | (go_big_quiet_op; go_big_quiet_on)))
   refine wpQuiet_nil ?_
   refine wpList_nil ?_
   refine Only.at ?_
   try dsimp only
   gi_upto_region 12 with fail
   refine round_lit (by kernel_rfl) ?_
   try simp only [gelS]
   refine wpList_chunk 1 (by kernel_rfl) ?_
   simp only [takS, Nat.reduceAdd]
   repeat (first | go_big_quiet_skip | (go_big_quiet_want; first | (refine quiet_buildTA0 rfl X Y rfl ?_; simp only [putS]; go_big_quiet_on) | (go_big_quiet_op; go_big_quiet_on)))
   refine wpQuiet_nil ?_
   refine wpList_nil ?_
   refine Only.at ?_
   try dsimp only
   gi_upto_region 13 with fail
   refine round_lit (by kernel_rfl) ?_
   try simp only [gelS]
   refine wpList_chunk 8 (by kernel_rfl) ?_
   simp only [takS, Nat.reduceAdd]
   repeat (first | go_big_quiet_skip | (go_big_quiet_want; first | (refine quiet_loadAny (t := 32) rfl _ _ _ rfl (fun w hw => run_load_sl ((ov_B l8 w hw).cellL 0 rfl)) (by rfl) ?_; simp only [putS]; go_big_quiet_on) | (refine quiet_buildTA0 rfl X Y rfl ?_; simp only [putS]; go_big_quiet_on) | (go_big_quiet_op; go_big_quiet_on)))
   refine wpQuiet_nil ?_
   refine wpList_nil ?_
   refine Only.at ?_
   try dsimp only
   obtain ⟨g2, o2, e2, rc'⟩ := rs1.at (by omega)
   obtain ⟨rfl, rfl⟩ : gg = g2 ∧ oo = o2 := by simpa using e2
   have rsm := rs_mid rc' hc1
   rw [HC2.out] at rsm
   have rsm0 := rsm
   gi_upto_region 14 with fail
   refine round_lit (by kernel_rfl) ?_
   try simp only [gelS]
   (refine wpList_allocT' rfl rfl ?_; intro b_t13 wn hle hge ht hbn hzn; have hsz := B.size; replace B := B.trans (hbn.mono (by omega)); have hln := Nat.lt_of_lt_of_eq (Nat.lt_succ_self _) hzn.symm; clear hzn; (try have hlt := l8.lt); (try replace l8 := l8.below (hbn.mono hle)); (try have hlt := m3.lt); (try replace m3 := m3.below (hbn.mono hle)); (try have hlt := c6.lt); (try replace c6 := c6.below (hbn.mono hle)); (try have hlt := r4.lt); (try replace r4 := r4.below (hbn.mono hle)); (try have hlt := ce.lt); (try replace ce := ce.below (hbn.mono hle)); (try have hlt := p9.lt); (try replace p9 := p9.below (hbn.mono hle)); (try have hlt := rs1.lt); (try replace rs1 := rs1.below (hbn.mono hle)); (try have hlt := rsm.lt); (try replace rsm := rsm.below (hbn.mono hle)); have t13 := ht; clear ht; simp only [putS])
   refine wpList_nil ?_
   refine Only.at ?_
   try dsimp only
   have HSEP := Lib.hid (rs_sep rsm0 hle (by simp))
   clear rsm0
   gi_upto_region 15 with fail
   refine round_lit (by kernel_rfl) ?_
   try simp only [gelS]
   refine wpList_chunk 1 (by kernel_rfl) ?_
   simp only [takS, Nat.reduceAdd]
   repeat (first | go_big_quiet_skip | (go_big_quiet_want; first | (refine quiet_buildTA0 rfl X Y rfl ?_; simp only [putS]; go_big_quiet_on) | (go_big_quiet_op; go_big_quiet_on)))
   refine wpQuiet_nil ?_
   (refine wpList_val rfl (.func (.func 107) #[] #[.pointer (some ⟨b_c6, 0, none⟩), .pointer (some ⟨b_m3, 0, none⟩)]) (by first | rfl | simp [go_sem, Act.eval]) ?_; simp only [putS])
   refine wpList_callF (by first | rfl | simp [Region.wanted, yielded]) rfl (enters_of Tryz.func95 (by kernel_rfl) rfl) (by simp only [Act.eval, evlS]; rfl) ?_
   refine (P_mapPst c FT.out L HL.out OK.out ⟨X, Y, tileL M X Y⟩ _ _ b_c6 b_m3 b_t13 g o cu _ _ rsm HTK.out HWI.out c6 m3 ce t13 HSEP.out).mono ?_
   rintro e wn ⟨a5, cp5, rfl, rs5, hbn⟩
   have hsz := B.size
   have hzn := hbn.size
   replace B := B.trans (hbn.mono B.size)
   (try replace l8 := l8.below hbn)
   (try replace m3 := m3.below hbn)
   (try replace c6 := c6.below hbn)
   (try replace r4 := r4.below hbn)
   (try replace ce := ce.below hbn)
   (try replace p9 := p9.below hbn)
   (try replace t13 := t13.below hbn)
   (try replace rs1 := rs1.below hbn)
   (try replace rsm := rsm.below hbn)
   refine ⟨_, rfl, ?_⟩
   simp only [putS]
   refine wpList_lenS (by first | rfl | simp [Region.wanted, yielded]) rfl Tryz.underlying32 rfl ?_
   simp only [putS]
   refine wpList_chunk 1 (by kernel_rfl) ?_
   simp only [takS, Nat.reduceAdd]
   repeat (first | go_big_quiet_skip | (go_big_quiet_want; first | (refine quiet_buildTA0 rfl X Y rfl ?_; simp only [putS]; go_big_quiet_on) | (go_big_quiet_op; go_big_quiet_on)))
   refine wpQuiet_nil ?_
   refine wpList_nil ?_
   refine Only.at ?_
   try dsimp only
   clear rsm HSEP
   cases hz : zeroB (pstT c L X Y (tileL M X Y)) with
   | true =>
    have HN : newA X Y (pstT c L X Y (tileL M X Y)) = [] := by unfold newA; rw [hz]; rfl
    rw [HN] at rs5
    simp only [HN, List.length_nil]
    clear rs5 HN
    have HZ := Lib.hid hz
    clear hz
    gi_wp2
    refine wpIn_loop_rounds 2 ?_
    rw [roundsIn_succ]
    gi_upto_region 16 with fail
    refine round_lit (by kernel_rfl) ?_
    try simp only [gelS]
    refine wpList_chunk 1 (by kernel_rfl) ?_
    simp only [takS, Nat.reduceAdd]
    repeat (first | go_big_quiet_skip | (go_big_quiet_want; first | (refine quiet_buildTA0 rfl X Y rfl ?_; simp only [putS]; go_big_quiet_on) | (go_big_quiet_op; go_big_quiet_on)))
    refine wpQuiet_nil ?_
    refine wpList_nil ?_
    refine Only.at ?_
    try dsimp only
    clear rs1
    have rs1 := RS1W.out.chg L8.out (by simp) B.toChg
    gi_upto_region 20 with fail
    refine round_lit (by kernel_rfl) ?_
    try simp only [gelS]
    refine wpList_chunk 3 (by kernel_rfl) ?_
    simp only [takS, Nat.reduceAdd]
    repeat (first | go_big_quiet_skip | (go_big_quiet_want; first | (refine quiet_loadAny (t := 32) rfl _ _ _ rfl (fun w hw => run_load_sl ((ov_B l8 w hw).cellL 0 rfl)) (by rfl) ?_; simp only [putS]; go_big_quiet_on) | (refine quiet_loadAny (t := 68) rfl _ _ _ rfl (fun w hw => run_load_B (ov_B p9 w hw) Tryz.isAgg68 (by kernel_rfl)) (by rfl) ?_; simp only [putS]; go_big_quiet_on) | (refine quiet_buildTA0 rfl X Y rfl ?_; simp only [putS]; go_big_quiet_on) | (refine quiet_loadT rfl _ rfl (ov_tile t13) ?_; simp only [putS]; go_big_quiet_on) | (refine quiet_loadAny (t := 70) rfl _ _ _ rfl (fun w hw => ta_tile (ov_B t15 w hw)) (by first | rfl | omega) ?_; simp only [putS]; go_big_quiet_on) | (go_big_quiet_op; go_big_quiet_on)))
    refine wpQuiet_nil ?_
    refine wpList_callF (by first | rfl | simp [Region.wanted, yielded]) rfl (enters_of Tryz.func89 (by kernel_rfl) rfl) (by simp only [Act.eval, evlS]; rfl) ?_
    refine (P_with _ M X Y (fun _ => Px.zero) _ rs1 SM.out (fun i _ => Px.zero_ok) (by omega)).mono ?_
    rintro e wn ⟨v8, rfl, rs8, hbn⟩
    have hsz := B.size
    have hzn := hbn.size
    replace B := B.trans (hbn.mono B.size)
    (try replace l8 := l8.below hbn)
    (try replace m3 := m3.below hbn)
    (try replace c6 := c6.below hbn)
    (try replace r4 := r4.below hbn)
    (try replace ce := ce.below hbn)
    (try replace p9 := p9.below hbn)
    (try replace t13 := t13.below hbn)
    (try replace t15 := t15.below hbn)
    (try replace rs1 := rs1.below hbn)
    (try replace rsm := rsm.below hbn)
    obtain ⟨a8, c8, rfl, hc8⟩ := rs8.len
    refine ⟨_, rfl, ?_⟩
    simp only [putS]
    (refine wpList_storeSl rfl _ _ rfl _ rfl _ _ _ rfl l8 ?_; have l8o := l8; clear l8; intro wn ht hcn hzn; (try replace rs8 := rs8.chg l8o (by simp) hcn); have hsz := B.size; replace hzn := Nat.le_of_eq hzn.symm; replace B := Exc.chg B hcn; (try replace m3 := m3.of_eq (hcn.block _ m3.lt (by omega))); (try replace c6 := c6.of_eq (hcn.block _ c6.lt (by omega))); (try replace r4 := r4.of_eq (hcn.block _ r4.lt (by omega))); (try replace ce := ce.of_eq (hcn.block _ ce.lt (by omega))); (try replace p9 := p9.of_eq (hcn.block _ p9.lt (by omega))); (try replace t13 := t13.of_eq (hcn.block _ t13.lt (by omega))); (try replace t15 := t15.of_eq (hcn.block _ t15.lt (by omega))); have l8 := ht; clear ht; simp only [putS])
    refine wpList_nil ?_
    refine Only.at ?_
    try dsimp only
    gi_wp2
    refine ⟨KeepsOthers.chgB B.toChg L8.out, KpB.chg B.toChg, ?_⟩
    dsimp only
    rw [HNEW.out]
    have e := putL_zero M X Y (t := fun _ => Px.zero) (u := pstT c L X Y (tileL M X Y)) ((zeroB_iff _).2 fun _ _ => rfl) HZ.out
    rw [e] at rs8 l8
    exact ⟨a8, c8, l8, rs8, m3, c6, r4, ce, Chg.below BW B.toChg (by omega) BW.size⟩
   | false =>
    have HN : newA X Y (pstT c L X Y (tileL M X Y)) = [⟨X, Y, pstT c L X Y (tileL M X Y)⟩] := by unfold newA; rw [hz]; rfl
    rw [HN] at rs5
    simp only [HN, List.length_cons, List.length_nil, Nat.zero_add]
    obtain ⟨g5, o5, rfl, rc5⟩ := rs5.at (by simp)
    clear rs5 HN hz
    have hlen1 : 0 < [(⟨X, Y, pstT c L X Y (tileL M X Y)⟩ : TA)].length := by simp
    gi_wp2
    refine wpIn_loop_rounds 2 ?_
    rw [roundsIn_succ]
    gi_upto_region 16 with fail
    refine round_lit (by kernel_rfl) ?_
    try simp only [gelS]
    refine wpList_chunk 1 (by kernel_rfl) ?_
    simp only [takS, Nat.reduceAdd]
    repeat (first | go_big_quiet_skip | (go_big_quiet_want; first | (refine quiet_buildTA0 rfl X Y rfl ?_; simp only [putS]; go_big_quiet_on) | (go_big_quiet_op; go_big_quiet_on)))
    refine wpQuiet_nil ?_
    refine wpList_nil ?_
    refine Only.at ?_
    try dsimp only
    gi_upto_region 17 with fail
    refine round_lit (by kernel_rfl) ?_
    try simp only [gelS]
    refine wpList_chunk 2 (by kernel_rfl) ?_
    simp only [takS, Nat.reduceAdd]
    repeat (first | go_big_quiet_skip | (go_big_quiet_want; first | (refine quiet_buildTA0 rfl X Y rfl ?_; simp only [putS]; go_big_quiet_on) | (refine quiet_loadAny (t := 72) rfl _ _ _ rfl (fun w hw => rc_ta (ov_rc rc5 w hw) hlen1 rfl) (by first | rfl | omega) ?_; simp only [putS]; go_big_quiet_on) | (go_big_quiet_op; go_big_quiet_on)))
    refine wpQuiet_nil ?_
    (refine wpList_allocBk (t := 72) rfl _ (run_alloc_TA _ _ rfl) ?_; intro b_t15 wn hle hge ht hbn hzn; have hsz := B.size; replace B := B.trans (hbn.mono (by omega)); have hln := Nat.lt_of_lt_of_eq (Nat.lt_succ_self _) hzn.symm; clear hzn; (try have hlt := l8.lt); (try replace l8 := l8.below (hbn.mono hle)); (try have hlt := m3.lt); (try replace m3 := m3.below (hbn.mono hle)); (try have hlt := c6.lt); (try replace c6 := c6.below (hbn.mono hle)); (try have hlt := r4.lt); (try replace r4 := r4.below (hbn.mono hle)); (try have hlt := ce.lt); (try replace ce := ce.below (hbn.mono hle)); (try have hlt := p9.lt); (try replace p9 := p9.below (hbn.mono hle)); (try have hlt := t13.lt); (try replace t13 := t13.below (hbn.mono hle)); (try have hlt := t15.lt); (try replace t15 := t15.below (hbn.mono hle)); (try have hlt := rs1.lt); (try replace rs1 := rs1.below (hbn.mono hle)); (try have hlt := rsm.lt); (try replace rsm := rsm.below (hbn.mono hle)); (try have hlt := rc5.lt); (try replace rc5 := rc5.below (hbn.mono hle)); have t15 := ht; clear ht; simp only [putS])
    (refine wpList_storeB (t := 72) rfl _ _ rfl _ rfl _ rfl t15 (by rw [size_taC]; kernel_rfl) (by simp only [size_taC, size_zTA]) (taC_all _) ?_; clear t15; intro wn ht hcn hzn; have hsz := B.size; replace hzn := Nat.le_of_eq hzn.symm; replace B := Exc.store B hcn (by omega); (try replace l8 := l8.of_eq (hcn.block _ l8.lt (by omega))); (try replace m3 := m3.of_eq (hcn.block _ m3.lt (by omega))); (try replace c6 := c6.of_eq (hcn.block _ c6.lt (by omega))); (try replace r4 := r4.of_eq (hcn.block _ r4.lt (by omega))); (try replace ce := ce.of_eq (hcn.block _ ce.lt (by omega))); (try replace p9 := p9.of_eq (hcn.block _ p9.lt (by omega))); (try replace t13 := t13.of_eq (hcn.block _ t13.lt (by omega))); (try replace rs1 := rs1.of_eq (hcn.block _ rs1.lt (by omega))); (try replace rsm := rsm.of_eq (hcn.block _ rsm.lt (by omega))); (try replace rc5 := rc5.of_eq (hcn.block _ rc5.lt (by omega))); have t15 := ht; clear ht; simp only [putS])
    refine wpList_nil ?_
    refine Only.at ?_
    try dsimp only
    replace t15 : AtB 72 _ b_t15 (taC ⟨X, Y, pstT c L X Y (tileL M X Y)⟩) := t15
    gi_upto_region 18 with fail
    refine round_lit (by kernel_rfl) ?_
    try simp only [gelS]
    refine wpList_chunk 2 (by kernel_rfl) ?_
    simp only [takS, Nat.reduceAdd]
    repeat (first | go_big_quiet_skip | (go_big_quiet_want; first | (refine quiet_buildTA0 rfl X Y rfl ?_; simp only [putS]; go_big_quiet_on) | (refine quiet_loadT rfl _ rfl (ov_tile t13) ?_; simp only [putS]; go_big_quiet_on) | (refine quiet_loadAny (t := 70) rfl _ _ _ rfl (fun w hw => ta_tile (ov_B t15 w hw)) (by first | rfl | omega) ?_; simp only [putS]; go_big_quiet_on) | (go_big_quiet_op; go_big_quiet_on)))
    refine wpQuiet_nil ?_
    (refine wpList_storeT rfl _ _ rfl _ rfl _ rfl t13 ?_; clear t13; intro wn ht hcn hzn; have hsz := B.size; replace hzn := Nat.le_of_eq hzn.symm; replace B := Exc.store B hcn (by omega); (try replace l8 := l8.of_eq (hcn.block _ l8.lt (by omega))); (try replace m3 := m3.of_eq (hcn.block _ m3.lt (by omega))); (try replace c6 := c6.of_eq (hcn.block _ c6.lt (by omega))); (try replace r4 := r4.of_eq (hcn.block _ r4.lt (by omega))); (try replace ce := ce.of_eq (hcn.block _ ce.lt (by omega))); (try replace p9 := p9.of_eq (hcn.block _ p9.lt (by omega))); (try replace t15 := t15.of_eq (hcn.block _ t15.lt (by omega))); (try replace rs1 := rs1.of_eq (hcn.block _ rs1.lt (by omega))); (try replace rsm := rsm.of_eq (hcn.block _ rsm.lt (by omega))); (try replace rc5 := rc5.of_eq (hcn.block _ rc5.lt (by omega))); have t13 := ht; clear ht; simp only [putS])
    refine wpList_nil ?_
    refine Only.at ?_
    try dsimp only
    gi_upto_region 19 with fail
    refine round_lit (by kernel_rfl) ?_
    try simp only [gelS]
    refine wpList_chunk 2 (by kernel_rfl) ?_
    simp only [takS, Nat.reduceAdd]
    repeat (first | go_big_quiet_skip | (go_big_quiet_want; first | (refine quiet_buildTA0 rfl X Y rfl ?_; simp only [putS]; go_big_quiet_on) | (go_big_quiet_op; go_big_quiet_on)))
    refine wpQuiet_nil ?_
    refine wpList_nil ?_
    refine Only.at ?_
    try dsimp only
    gi_wp2
    rw [roundsIn_succ]
    gi_upto_region 16 with fail
    refine round_lit (by kernel_rfl) ?_
    try simp only [gelS]
    refine wpList_chunk 1 (by kernel_rfl) ?_
    simp only [takS, Nat.reduceAdd]
    repeat (first | go_big_quiet_skip | (go_big_quiet_want; first | (refine quiet_buildTA0 rfl X Y rfl ?_; simp only [putS]; go_big_quiet_on) | (go_big_quiet_op; go_big_quiet_on)))
    refine wpQuiet_nil ?_
    refine wpList_nil ?_
    refine Only.at ?_
    try dsimp only
    clear rs1
    have rs1 := RS1W.out.chg L8.out (by simp) B.toChg
    gi_upto_region 20 with fail
    refine round_lit (by kernel_rfl) ?_
    try simp only [gelS]
    refine wpList_chunk 3 (by kernel_rfl) ?_
    simp only [takS, Nat.reduceAdd]
    repeat (first | go_big_quiet_skip | (go_big_quiet_want; first | (refine quiet_loadAny (t := 32) rfl _ _ _ rfl (fun w hw => run_load_sl ((ov_B l8 w hw).cellL 0 rfl)) (by rfl) ?_; simp only [putS]; go_big_quiet_on) | (refine quiet_loadAny (t := 68) rfl _ _ _ rfl (fun w hw => run_load_B (ov_B p9 w hw) Tryz.isAgg68 (by kernel_rfl)) (by rfl) ?_; simp only [putS]; go_big_quiet_on) | (refine quiet_buildTA0 rfl X Y rfl ?_; simp only [putS]; go_big_quiet_on) | (refine quiet_loadT rfl _ rfl (ov_tile t13) ?_; simp only [putS]; go_big_quiet_on) | (refine quiet_loadAny (t := 70) rfl _ _ _ rfl (fun w hw => ta_tile (ov_B t15 w hw)) (by first | rfl | omega) ?_; simp only [putS]; go_big_quiet_on) | (go_big_quiet_op; go_big_quiet_on)))
    refine wpQuiet_nil ?_
    refine wpList_callF (by first | rfl | simp [Region.wanted, yielded]) rfl (enters_of Tryz.func89 (by kernel_rfl) rfl) (by simp only [Act.eval, evlS]; rfl) ?_
    refine (P_with _ M X Y (pstT c L X Y (tileL M X Y)) _ rs1 SM.out HTT.out (by omega)).mono ?_
    rintro e wn ⟨v8, rfl, rs8, hbn⟩
    have hsz := B.size
    have hzn := hbn.size
    replace B := B.trans (hbn.mono B.size)
    (try replace l8 := l8.below hbn)
    (try replace m3 := m3.below hbn)
    (try replace c6 := c6.below hbn)
    (try replace r4 := r4.below hbn)
    (try replace ce := ce.below hbn)
    (try replace p9 := p9.below hbn)
    (try replace t13 := t13.below hbn)
    (try replace t15 := t15.below hbn)
    (try replace rs1 := rs1.below hbn)
    (try replace rsm := rsm.below hbn)
    (try replace rc5 := rc5.below hbn)
    obtain ⟨a8, c8, rfl, hc8⟩ := rs8.len
    refine ⟨_, rfl, ?_⟩
    simp only [putS]
    (refine wpList_storeSl rfl _ _ rfl _ rfl _ _ _ rfl l8 ?_; have l8o := l8; clear l8; intro wn ht hcn hzn; (try replace rs8 := rs8.chg l8o (by simp) hcn); have hsz := B.size; replace hzn := Nat.le_of_eq hzn.symm; replace B := Exc.chg B hcn; (try replace m3 := m3.of_eq (hcn.block _ m3.lt (by omega))); (try replace c6 := c6.of_eq (hcn.block _ c6.lt (by omega))); (try replace r4 := r4.of_eq (hcn.block _ r4.lt (by omega))); (try replace ce := ce.of_eq (hcn.block _ ce.lt (by omega))); (try replace p9 := p9.of_eq (hcn.block _ p9.lt (by omega))); (try replace t13 := t13.of_eq (hcn.block _ t13.lt (by omega))); (try replace t15 := t15.of_eq (hcn.block _ t15.lt (by omega))); (try replace rc5 := rc5.of_eq (hcn.block _ rc5.lt (by omega))); have l8 := ht; clear ht; simp only [putS])
    refine wpList_nil ?_
    refine Only.at ?_
    try dsimp only
    gi_wp2
    refine ⟨KeepsOthers.chgB B.toChg L8.out, KpB.chg B.toChg, ?_⟩
    dsimp only
    rw [HNEW.out]
    exact ⟨a8, c8, l8, rs8, m3, c6, r4, ce, Chg.below BW B.toChg (by omega) BW.size⟩
  | false =>
   have HH := Lib.hid hh
   have hz0 := Lib.hid (hit_not SM.out hh)
   obtain ⟨k, hk⟩ : ∃ k, cutL M X Y = k := ⟨_, rfl⟩
   have HK := Lib.hid hk
   have hkl := cutL_le M X Y
   rw [hk] at hkl
   clear hh hk
   gi_upto_region 10 with fail
   refine round_lit (by kernel_rfl) ?_
   try simp only [gelS]
   refine wpList_chunk 2 (by kernel_rfl) ?_
   simp only [takS, Nat.reduceAdd]
   repeat (first | go_big_quiet_skip | (go_big_quiet_want; first | (refine quiet_loadAny (t := 32) rfl _ _ _ rfl (fun w hw => run_load_sl ((ov_B l8 w hw).cellL 0 rfl)) (by rfl) ?_; simp only [putS]; go_big_quiet_on) | (refine quiet_loadAny (t := 68) rfl _ _ _ rfl (fun w hw => run_load_B (ov_B p9 w hw) Tryz.isAgg68 (by kernel_rfl)) (by rfl) ?_; simp only [putS]; go_big_quiet_on) | (refine quiet_buildTA0 rfl X Y rfl ?_; simp only [putS]; go_big_quiet_on) | (go_big_quiet_op; go_big_quiet_on)))
   refine wpQuiet_nil ?_
   refine wpList_callF (by first | rfl | simp [Region.wanted, yielded]) rfl (enters_of Tryz.func106 (by kernel_rfl) rfl) (by simp only [Act.eval, evlS]; rfl) ?_
   refine (P_findB _ M X Y k false _ rs1 SM.out (by omega) HK.out HH.out).mono ?_
   rintro e wn ⟨rfl, hbn⟩
   have hsz := B.size
   have hzn := hbn.size
   replace B := B.trans (hbn.mono B.size)
   (try replace l8 := l8.below hbn)
   (try replace m3 := m3.below hbn)
   (try replace c6 := c6.below hbn)
   (try replace r4 := r4.below hbn)
   (try replace ce := ce.below hbn)
   (try replace p9 := p9.below hbn)
   (try replace t13 := t13.below hbn)
   (try replace t15 := t15.below hbn)
   (try replace rs1 := rs1.below hbn)
   (try replace rsm := rsm.below hbn)
   (try replace rc5 := rc5.below hbn)
   refine ⟨_, rfl, ?_⟩
   simp only [putS]
   refine wpList_chunk 5 (by kernel_rfl) ?_
   simp only [takS, Nat.reduceAdd]
   repeat (first | go_big_quiet_skip | (go_big_quiet_want; first | (refine quiet_buildTA0 rfl X Y rfl ?_; simp only [putS]; go_big_quiet_on) | (go_big_quiet_op; go_big_quiet_on)))
   refine wpQuiet_nil ?_
   refine wpList_nil ?_
   refine Only.at ?_
   try dsimp only
   gi_upto_region 11 with fail
   refine round_lit (by kernel_rfl) ?_
   try simp only [gelS]
   refine wpList_chunk 2 (by kernel_rfl) ?_
   simp only [takS, Nat.reduceAdd]
   repeat (first | go_big_quiet_skip | (go_big_quiet_want; first | (refine quiet_loadAny (t := 68) rfl _ _ _ rfl (fun w hw => run_load_B (ov_B p9 w hw) Tryz.isAgg68 (by kernel_rfl)) (by rfl) ?_; simp only [putS]; go_big_quiet_on) | (refine quiet_buildTA0 rfl X Y rfl ?_; simp only [putS]; go_big_quiet_on) | (go_big_quiet_op; go_big_quiet_on)))
   refine wpQuiet_nil ?_
   (refine wpList_bs1T rfl _ rfl ⟨X, Y, zT⟩ (by rfl) ?_; intro b_s1 wn hle hge ht hbn hzn; have hsz := B.size; replace B := B.trans (hbn.mono (by omega)); have hln := Nat.lt_of_lt_of_eq (Nat.lt_succ_self _) hzn.symm; clear hzn; (try have hlt := l8.lt); (try replace l8 := l8.below (hbn.mono hle)); (try have hlt := m3.lt); (try replace m3 := m3.below (hbn.mono hle)); (try have hlt := c6.lt); (try replace c6 := c6.below (hbn.mono hle)); (try have hlt := r4.lt); (try replace r4 := r4.below (hbn.mono hle)); (try have hlt := ce.lt); (try replace ce := ce.below (hbn.mono hle)); (try have hlt := p9.lt); (try replace p9 := p9.below (hbn.mono hle)); (try have hlt := t13.lt); (try replace t13 := t13.below (hbn.mono hle)); (try have hlt := t15.lt); (try replace t15 := t15.below (hbn.mono hle)); (try have hlt := rs1.lt); (try replace rs1 := rs1.below (hbn.mono hle)); (try have hlt := rsm.lt); (try replace rsm := rsm.below (hbn.mono hle)); (try have hlt := rc5.lt); (try replace rc5 := rc5.below (hbn.mono hle)); have s1 := ht; clear ht; simp only [putS])
   refine wpList_chunk 1 (by kernel_rfl) ?_
   simp only [takS, Nat.reduceAdd]
   repeat (first | go_big_quiet_skip | (go_big_quiet_want; first | (refine quiet_buildTA0 rfl X Y rfl ?_; simp only [putS]; go_big_quiet_on) | (go_big_quiet_op; go_big_quiet_on)))
   refine wpQuiet_nil ?_
   refine wpList_nil ?_
   refine Only.at ?_
   try dsimp only
   gi_upto_region 12 with fail
   refine round_lit (by kernel_rfl) ?_
   try simp only [gelS]
   refine wpList_chunk 1 (by kernel_rfl) ?_
   simp only [takS, Nat.reduceAdd]
   repeat (first | go_big_quiet_skip | (go_big_quiet_want; first | (refine quiet_buildTA0 rfl X Y rfl ?_; simp only [putS]; go_big_quiet_on) | (go_big_quiet_op; go_big_quiet_on)))
   refine wpQuiet_nil ?_
   refine wpList_nil ?_
   refine Only.at ?_
   try dsimp only
   have rsm := RS.one s1
   have rsm0 := rsm
   gi_upto_region 14 with fail
   refine round_lit (by kernel_rfl) ?_
   try simp only [gelS]
   (refine wpList_allocT' rfl rfl ?_; intro b_t13 wn hle hge ht hbn hzn; have hsz := B.size; replace B := B.trans (hbn.mono (by omega)); have hln := Nat.lt_of_lt_of_eq (Nat.lt_succ_self _) hzn.symm; clear hzn; (try have hlt := l8.lt); (try replace l8 := l8.below (hbn.mono hle)); (try have hlt := m3.lt); (try replace m3 := m3.below (hbn.mono hle)); (try have hlt := c6.lt); (try replace c6 := c6.below (hbn.mono hle)); (try have hlt := r4.lt); (try replace r4 := r4.below (hbn.mono hle)); (try have hlt := ce.lt); (try replace ce := ce.below (hbn.mono hle)); (try have hlt := p9.lt); (try replace p9 := p9.below (hbn.mono hle)); (try have hlt := t13.lt); (try replace t13 := t13.below (hbn.mono hle)); (try have hlt := t15.lt); (try replace t15 := t15.below (hbn.mono hle)); (try have hlt := rs1.lt); (try replace rs1 := rs1.below (hbn.mono hle)); (try have hlt := rsm.lt); (try replace rsm := rsm.below (hbn.mono hle)); (try have hlt := rc5.lt); (try replace rc5 := rc5.below (hbn.mono hle)); have t13 := ht; clear ht; simp only [putS])
   refine wpList_nil ?_
   refine Only.at ?_
   try dsimp only
   have HSEP := Lib.hid (rs_sep rsm0 hle (by simp))
   clear rsm0
   gi_upto_region 15 with fail
   refine round_lit (by kernel_rfl) ?_
   try simp only [gelS]
   refine wpList_chunk 1 (by kernel_rfl) ?_
   simp only [takS, Nat.reduceAdd]
   repeat (first | go_big_quiet_skip | (go_big_quiet_want; first | (refine quiet_buildTA0 rfl X Y rfl ?_; simp only [putS]; go_big_quiet_on) | (go_big_quiet_op; go_big_quiet_on)))
   refine wpQuiet_nil ?_
   (refine wpList_val rfl (.func (.func 107) #[] #[.pointer (some ⟨b_c6, 0, none⟩), .pointer (some ⟨b_m3, 0, none⟩)]) (by first | rfl | simp [go_sem, Act.eval]) ?_; simp only [putS])
   refine wpList_callF (by first | rfl | simp [Region.wanted, yielded]) rfl (enters_of Tryz.func95 (by kernel_rfl) rfl) (by simp only [Act.eval, evlS]; rfl) ?_
   refine (P_mapPst c FT.out L HL.out OK.out ⟨X, Y, zT⟩ _ _ b_c6 b_m3 b_t13 g o cu _ _ rsm (fun i _ => Px.zero_ok) HWI.out c6 m3 ce t13 HSEP.out).mono ?_
   rintro e wn ⟨a5, cp5, rfl, rs5, hbn⟩
   have hsz := B.size
   have hzn := hbn.size
   replace B := B.trans (hbn.mono B.size)
   (try replace l8 := l8.below hbn)
   (try replace m3 := m3.below hbn)
   (try replace c6 := c6.below hbn)
   (try replace r4 := r4.below hbn)
   (try replace ce := ce.below hbn)
   (try replace p9 := p9.below hbn)
   (try replace t13 := t13.below hbn)
   (try replace t15 := t15.below hbn)
   (try replace rs1 := rs1.below hbn)
   (try replace rsm := rsm.below hbn)
   (try replace rc5 := rc5.below hbn)
   refine ⟨_, rfl, ?_⟩
   simp only [putS]
   refine wpList_lenS (by first | rfl | simp [Region.wanted, yielded]) rfl Tryz.underlying32 rfl ?_
   simp only [putS]
   refine wpList_chunk 1 (by kernel_rfl) ?_
   simp only [takS, Nat.reduceAdd]
   repeat (first | go_big_quiet_skip | (go_big_quiet_want; first | (refine quiet_buildTA0 rfl X Y rfl ?_; simp only [putS]; go_big_quiet_on) | (go_big_quiet_op; go_big_quiet_on)))
   refine wpQuiet_nil ?_
   refine wpList_nil ?_
   refine Only.at ?_
   try dsimp only
   rw [← hz0.out] at rs5
   simp only [← hz0.out]
   clear rsm HSEP
   cases hz : zeroB (pstT c L X Y (tileL M X Y)) with
   | true =>
    have HN : newA X Y (pstT c L X Y (tileL M X Y)) = [] := by unfold newA; rw [hz]; rfl
    rw [HN] at rs5
    simp only [HN, List.length_nil]
    clear rs5 HN
    have HZ := Lib.hid hz
    clear hz
    gi_wp2
    refine wpIn_loop_rounds 2 ?_
    rw [roundsIn_succ]
    gi_upto_region 16 with fail
    refine round_lit (by kernel_rfl) ?_
    try simp only [gelS]
    refine wpList_chunk 1 (by kernel_rfl) ?_
    simp only [takS, Nat.reduceAdd]
    repeat (first | go_big_quiet_skip | (go_big_quiet_want; first | (refine quiet_buildTA0 rfl X Y rfl ?_; simp only [putS]; go_big_quiet_on) | (go_big_quiet_op; go_big_quiet_on)))
    refine wpQuiet_nil ?_
    refine wpList_nil ?_
    refine Only.at ?_
    try dsimp only
    clear rs1
    have rs1 := RS1W.out.chg L8.out (by simp) B.toChg
    gi_upto_region 20 with fail
    refine round_lit (by kernel_rfl) ?_
    try simp only [gelS]
    refine wpList_chunk 3 (by kernel_rfl) ?_
    simp only [takS, Nat.reduceAdd]
    repeat (first | go_big_quiet_skip | (go_big_quiet_want; first | (refine quiet_loadAny (t := 32) rfl _ _ _ rfl (fun w hw => run_load_sl ((ov_B l8 w hw).cellL 0 rfl)) (by rfl) ?_; simp only [putS]; go_big_quiet_on) | (refine quiet_loadAny (t := 68) rfl _ _ _ rfl (fun w hw => run_load_B (ov_B p9 w hw) Tryz.isAgg68 (by kernel_rfl)) (by rfl) ?_; simp only [putS]; go_big_quiet_on) | (refine quiet_buildTA0 rfl X Y rfl ?_; simp only [putS]; go_big_quiet_on) | (refine quiet_loadT rfl _ rfl (ov_tile t13) ?_; simp only [putS]; go_big_quiet_on) | (refine quiet_loadAny (t := 70) rfl _ _ _ rfl (fun w hw => ta_tile (ov_B t15 w hw)) (by first | rfl | omega) ?_; simp only [putS]; go_big_quiet_on) | (go_big_quiet_op; go_big_quiet_on)))
    refine wpQuiet_nil ?_
    refine wpList_callF (by first | rfl | simp [Region.wanted, yielded]) rfl (enters_of Tryz.func89 (by kernel_rfl) rfl) (by simp only [Act.eval, evlS]; rfl) ?_
    refine (P_with _ M X Y (fun _ => Px.zero) _ rs1 SM.out (fun i _ => Px.zero_ok) (by omega)).mono ?_
    rintro e wn ⟨v8, rfl, rs8, hbn⟩
    have hsz := B.size
    have hzn := hbn.size
    replace B := B.trans (hbn.mono B.size)
    (try replace l8 := l8.below hbn)
    (try replace m3 := m3.below hbn)
    (try replace c6 := c6.below hbn)
    (try replace r4 := r4.below hbn)
    (try replace ce := ce.below hbn)
    (try replace p9 := p9.below hbn)
    (try replace t13 := t13.below hbn)
    (try replace t15 := t15.below hbn)
    (try replace rs1 := rs1.below hbn)
    (try replace rc5 := rc5.below hbn)
    obtain ⟨a8, c8, rfl, hc8⟩ := rs8.len
    refine ⟨_, rfl, ?_⟩
    simp only [putS]
    (refine wpList_storeSl rfl _ _ rfl _ rfl _ _ _ rfl l8 ?_; have l8o := l8; clear l8; intro wn ht hcn hzn; (try replace rs8 := rs8.chg l8o (by simp) hcn); have hsz := B.size; replace hzn := Nat.le_of_eq hzn.symm; replace B := Exc.chg B hcn; (try replace m3 := m3.of_eq (hcn.block _ m3.lt (by omega))); (try replace c6 := c6.of_eq (hcn.block _ c6.lt (by omega))); (try replace r4 := r4.of_eq (hcn.block _ r4.lt (by omega))); (try replace ce := ce.of_eq (hcn.block _ ce.lt (by omega))); (try replace p9 := p9.of_eq (hcn.block _ p9.lt (by omega))); (try replace t13 := t13.of_eq (hcn.block _ t13.lt (by omega))); (try replace t15 := t15.of_eq (hcn.block _ t15.lt (by omega))); (try replace rc5 := rc5.of_eq (hcn.block _ rc5.lt (by omega))); have l8 := ht; clear ht; simp only [putS])
    refine wpList_nil ?_
    refine Only.at ?_
    try dsimp only
    gi_wp2
    refine ⟨KeepsOthers.chgB B.toChg L8.out, KpB.chg B.toChg, ?_⟩
    dsimp only
    rw [HNEW.out]
    have e := putL_zero M X Y (t := fun _ => Px.zero) (u := pstT c L X Y (tileL M X Y)) ((zeroB_iff _).2 fun _ _ => rfl) HZ.out
    rw [e] at rs8 l8
    exact ⟨a8, c8, l8, rs8, m3, c6, r4, ce, Chg.below BW B.toChg (by omega) BW.size⟩
   | false =>
    have HN : newA X Y (pstT c L X Y (tileL M X Y)) = [⟨X, Y, pstT c L X Y (tileL M X Y)⟩] := by unfold newA; rw [hz]; rfl
    rw [HN] at rs5
    simp only [HN, List.length_cons, List.length_nil, Nat.zero_add]
    obtain ⟨g5, o5, rfl, rc5⟩ := rs5.at (by simp)
    clear rs5 HN hz
    have hlen1 : 0 < [(⟨X, Y, pstT c L X Y (tileL M X Y)⟩ : TA)].length := by simp
    gi_wp2
    refine wpIn_loop_rounds 2 ?_
    rw [roundsIn_succ]
    gi_upto_region 16 with fail
    refine round_lit (by kernel_rfl) ?_
    try simp only [gelS]
    refine wpList_chunk 1 (by kernel_rfl) ?_
    simp only [takS, Nat.reduceAdd]
    repeat (first | go_big_quiet_skip | (go_big_quiet_want; first | (refine quiet_buildTA0 rfl X Y rfl ?_; simp only [putS]; go_big_quiet_on) | (go_big_quiet_op; go_big_quiet_on)))
    refine wpQuiet_nil ?_
    refine wpList_nil ?_
    refine Only.at ?_
    try dsimp only
    gi_upto_region 17 with fail
    refine round_lit (by kernel_rfl) ?_
    try simp only [gelS]
    refine wpList_chunk 2 (by kernel_rfl) ?_
    simp only [takS, Nat.reduceAdd]
    repeat (first | go_big_quiet_skip | (go_big_quiet_want; first | (refine quiet_buildTA0 rfl X Y rfl ?_; simp only [putS]; go_big_quiet_on) | (refine quiet_loadAny (t := 72) rfl _ _ _ rfl (fun w hw => rc_ta (ov_rc rc5 w hw) hlen1 rfl) (by first | rfl | omega) ?_; simp only [putS]; go_big_quiet_on) | (go_big_quiet_op; go_big_quiet_on)))
    refine wpQuiet_nil ?_
    (refine wpList_allocBk (t := 72) rfl _ (run_alloc_TA _ _ rfl) ?_; intro b_t15 wn hle hge ht hbn hzn; have hsz := B.size; replace B := B.trans (hbn.mono (by omega)); have hln := Nat.lt_of_lt_of_eq (Nat.lt_succ_self _) hzn.symm; clear hzn; (try have hlt := l8.lt); (try replace l8 := l8.below (hbn.mono hle)); (try have hlt := m3.lt); (try replace m3 := m3.below (hbn.mono hle)); (try have hlt := c6.lt); (try replace c6 := c6.below (hbn.mono hle)); (try have hlt := r4.lt); (try replace r4 := r4.below (hbn.mono hle)); (try have hlt := ce.lt); (try replace ce := ce.below (hbn.mono hle)); (try have hlt := p9.lt); (try replace p9 := p9.below (hbn.mono hle)); (try have hlt := t13.lt); (try replace t13 := t13.below (hbn.mono hle)); (try have hlt := t15.lt); (try replace t15 := t15.below (hbn.mono hle)); (try have hlt := rs1.lt); (try replace rs1 := rs1.below (hbn.mono hle)); (try have hlt := rsm.lt); (try have hlt := rc5.lt); have t15 := ht; clear ht; simp only [putS])
    (refine wpList_storeB (t := 72) rfl _ _ rfl _ rfl _ rfl t15 (by rw [size_taC]; kernel_rfl) (by simp only [size_taC, size_zTA]) (taC_all _) ?_; clear t15; intro wn ht hcn hzn; have hsz := B.size; replace hzn := Nat.le_of_eq hzn.symm; replace B := Exc.store B hcn (by omega); (try replace l8 := l8.of_eq (hcn.block _ l8.lt (by omega))); (try replace m3 := m3.of_eq (hcn.block _ m3.lt (by omega))); (try replace c6 := c6.of_eq (hcn.block _ c6.lt (by omega))); (try replace r4 := r4.of_eq (hcn.block _ r4.lt (by omega))); (try replace ce := ce.of_eq (hcn.block _ ce.lt (by omega))); (try replace p9 := p9.of_eq (hcn.block _ p9.lt (by omega))); (try replace t13 := t13.of_eq (hcn.block _ t13.lt (by omega))); (try replace rs1 := rs1.of_eq (hcn.block _ rs1.lt (by omega))); have t15 := ht; clear ht; simp only [putS])
    refine wpList_nil ?_
    refine Only.at ?_
    try dsimp only
    replace t15 : AtB 72 _ b_t15 (taC ⟨X, Y, pstT c L X Y (tileL M X Y)⟩) := t15
    gi_upto_region 18 with fail
    refine round_lit (by kernel_rfl) ?_
    try simp only [gelS]
    refine wpList_chunk 2 (by kernel_rfl) ?_
    simp only [takS, Nat.reduceAdd]
    repeat (first | go_big_quiet_skip | (go_big_quiet_want; first | (refine quiet_buildTA0 rfl X Y rfl ?_; simp only [putS]; go_big_quiet_on) | (refine quiet_loadT rfl _ rfl (ov_tile t13) ?_; simp only [putS]; go_big_quiet_on) | (refine quiet_loadAny (t := 70) rfl _ _ _ rfl (fun w hw => ta_tile (ov_B t15 w hw)) (by first | rfl | omega) ?_; simp only [putS]; go_big_quiet_on) | (go_big_quiet_op; go_big_quiet_on)))
    refine wpQuiet_nil ?_
    (refine wpList_storeT rfl _ _ rfl _ rfl _ rfl t13 ?_; clear t13; intro wn ht hcn hzn; have hsz := B.size; replace hzn := Nat.le_of_eq hzn.symm; replace B := Exc.store B hcn (by omega); (try replace l8 := l8.of_eq (hcn.block _ l8.lt (by omega))); (try replace m3 := m3.of_eq (hcn.block _ m3.lt (by omega))); (try replace c6 := c6.of_eq (hcn.block _ c6.lt (by omega))); (try replace r4 := r4.of_eq (hcn.block _ r4.lt (by omega))); (try replace ce := ce.of_eq (hcn.block _ ce.lt (by omega))); (try replace p9 := p9.of_eq (hcn.block _ p9.lt (by omega))); (try replace t15 := t15.of_eq (hcn.block _ t15.lt (by omega))); (try replace rs1 := rs1.of_eq (hcn.block _ rs1.lt (by omega))); have t13 := ht; clear ht; simp only [putS])
    refine wpList_nil ?_
    refine Only.at ?_
    try dsimp only
    gi_upto_region 19 with fail
    refine round_lit (by kernel_rfl) ?_
    try simp only [gelS]
    refine wpList_chunk 2 (by kernel_rfl) ?_
    simp only [takS, Nat.reduceAdd]
    repeat (first | go_big_quiet_skip | (go_big_quiet_want; first | (refine quiet_buildTA0 rfl X Y rfl ?_; simp only [putS]; go_big_quiet_on) | (go_big_quiet_op; go_big_quiet_on)))
    refine wpQuiet_nil ?_
    refine wpList_nil ?_
    refine Only.at ?_
    try dsimp only
    gi_wp2
    rw [roundsIn_succ]
    gi_upto_region 16 with fail
    refine round_lit (by kernel_rfl) ?_
    try simp only [gelS]
    refine wpList_chunk 1 (by kernel_rfl) ?_
    simp only [takS, Nat.reduceAdd]
    repeat (first | go_big_quiet_skip | (go_big_quiet_want; first | (refine quiet_buildTA0 rfl X Y rfl ?_; simp only [putS]; go_big_quiet_on) | (go_big_quiet_op; go_big_quiet_on)))
    refine wpQuiet_nil ?_
    refine wpList_nil ?_
    refine Only.at ?_
    try dsimp only
    clear rs1
    have rs1 := RS1W.out.chg L8.out (by simp) B.toChg
    gi_upto_region 20 with fail
    refine round_lit (by kernel_rfl) ?_
    try simp only [gelS]
    refine wpList_chunk 3 (by kernel_rfl) ?_
    simp only [takS, Nat.reduceAdd]
    repeat (first | go_big_quiet_skip | (go_big_quiet_want; first | (refine quiet_loadAny (t := 32) rfl _ _ _ rfl (fun w hw => run_load_sl ((ov_B l8 w hw).cellL 0 rfl)) (by rfl) ?_; simp only [putS]; go_big_quiet_on) | (refine quiet_loadAny (t := 68) rfl _ _ _ rfl (fun w hw => run_load_B (ov_B p9 w hw) Tryz.isAgg68 (by kernel_rfl)) (by rfl) ?_; simp only [putS]; go_big_quiet_on) | (refine quiet_buildTA0 rfl X Y rfl ?_; simp only [putS]; go_big_quiet_on) | (refine quiet_loadT rfl _ rfl (ov_tile t13) ?_; simp only [putS]; go_big_quiet_on) | (refine quiet_loadAny (t := 70) rfl _ _ _ rfl (fun w hw => ta_tile (ov_B t15 w hw)) (by first | rfl | omega) ?_; simp only [putS]; go_big_quiet_on) | (go_big_quiet_op; go_big_quiet_on)))
    refine wpQuiet_nil ?_
    refine wpList_callF (by first | rfl | simp [Region.wanted, yielded]) rfl (enters_of Tryz.func89 (by kernel_rfl) rfl) (by simp only [Act.eval, evlS]; rfl) ?_
    refine (P_with _ M X Y (pstT c L X Y (tileL M X Y)) _ rs1 SM.out HTT.out (by omega)).mono ?_
    rintro e wn ⟨v8, rfl, rs8, hbn⟩
    have hsz := B.size
    have hzn := hbn.size
    replace B := B.trans (hbn.mono B.size)
    (try replace l8 := l8.below hbn)
    (try replace m3 := m3.below hbn)
    (try replace c6 := c6.below hbn)
    (try replace r4 := r4.below hbn)
    (try replace ce := ce.below hbn)
    (try replace rs1 := rs1.below hbn)
    obtain ⟨a8, c8, rfl, hc8⟩ := rs8.len
    refine ⟨_, rfl, ?_⟩
    simp only [putS]
    (refine wpList_storeSl rfl _ _ rfl _ rfl _ _ _ rfl l8 ?_; have l8o := l8; clear l8; intro wn ht hcn hzn; (try replace rs8 := rs8.chg l8o (by simp) hcn); have hsz := B.size; replace hzn := Nat.le_of_eq hzn.symm; replace B := Exc.chg B hcn; (try replace m3 := m3.of_eq (hcn.block _ m3.lt (by omega))); (try replace c6 := c6.of_eq (hcn.block _ c6.lt (by omega))); (try replace r4 := r4.of_eq (hcn.block _ r4.lt (by omega))); (try replace ce := ce.of_eq (hcn.block _ ce.lt (by omega))); have l8 := ht; clear ht; simp only [putS])
    refine wpList_nil ?_
    refine Only.at ?_
    try dsimp only
    gi_wp2
    refine ⟨KeepsOthers.chgB B.toChg L8.out, KpB.chg B.toChg, ?_⟩
    dsimp only
    rw [HNEW.out]
    exact ⟨a8, c8, l8, rs8, m3, c6, r4, ce, Chg.below BW B.toChg (by omega) BW.size⟩
 case done =>
  have hszB := B.size
  rintro D xs W hD rfl ⟨a, cp, l8, rs1, m3, c6, r4, ce, BW⟩ hDD
  have kd : DefAt W D := hDD
  rw [posF_all] at l8 rs1
  have B := BW
  have hMn := pstL_len c L (posL c) KS
  rw [posL_len] at hMn
  obtain ⟨M, hM⟩ : ∃ M, pstL c L KS (posL c) = M := ⟨_, rfl⟩
  rw [hM] at l8 rs1 hMn
  have HM := Lib.hid hM
  clear hM
  have hwD : w.heap.size ≤ D := by omega
  have hne := kd.ne r4
  clear BW m3 c6 ce hD
  go_upto_region 21 with fail
  by_cases hm : M.length ≤ 1024
  ·have e1 : manyL M = M := if_pos hm
   have e2 : manyE M = 0 := if_pos hm
   refine wp_region_lit ?_
   try simp only [gelS]
   refine wpList_chunk 1 (by kernel_rfl) ?_
   simp only [takS, Nat.reduceAdd]
   repeat (first | go_big_quiet_skip | (go_big_quiet_want; first | (refine quiet_loadAny (t := 32) rfl _ _ _ rfl (fun w hw => run_load_sl ((ov_B l8 w hw).cellL 0 rfl)) (by rfl) ?_; simp only [putS]; go_big_quiet_on) | (go_big_quiet_op; go_big_quiet_on)))
   refine wpQuiet_nil ?_
   refine wpList_callF (by first | rfl | simp [Region.wanted, yielded]) rfl (enters_of Tryz.func108 (by kernel_rfl) rfl) (by simp only [Act.eval, evlS]; rfl) ?_
   refine (P_CloneO _ M _ rs1 (by omega)).mono ?_
   rintro e wn ⟨v2, b2, rfl, _, _, od2, hbn⟩
   have hsz := B.size
   have hzn := hbn.size
   replace B := B.trans (hbn.mono B.size)
   (try replace l8 := l8.below hbn)
   (try replace r4 := r4.below hbn)
   (try replace kd := kd.below hbn)
   have rs2 := od2.rs
   clear od2
   obtain ⟨a2, c2, rfl, hc2⟩ := rs2.len
   refine ⟨_, rfl, ?_⟩
   simp only [putS]
   refine wpList_callF (by first | rfl | simp [Region.wanted, yielded]) rfl (enters_of Tryz.func88 (by kernel_rfl) rfl) (by simp only [Act.eval, evlS]; rfl) ?_
   refine (P_made _ _ _ _ (by unfold maxLen; omega)).mono ?_
   rintro e wn ⟨rfl, hbn⟩
   have hsz := B.size
   have hzn := hbn.size
   replace B := B.trans (hbn.mono B.size)
   (try replace l8 := l8.below hbn)
   (try replace r4 := r4.below hbn)
   (try replace kd := kd.below hbn)
   replace rs2 := rs2.below hbn
   rw [if_pos hm]
   refine ⟨_, rfl, ?_⟩
   simp only [putS]
   refine wpList_chunk 2 (by kernel_rfl) ?_
   simp only [takS, Nat.reduceAdd]
   repeat (first | go_big_quiet_skip | (go_big_quiet_want; go_big_quiet_op; go_big_quiet_on))
   refine wpQuiet_nil ?_
   (refine wpList_storeB (t := 34) rfl _ _ rfl _ rfl _ rfl r4 (by kernel_rfl) rfl (by simp [Value.oneCell']) ?_; have r4o := r4; clear r4; intro wn ht hcn hzn; (try replace rs2 := rs2.chg r4o (by simp) hcn); have hsz := B.size; replace hzn := Nat.le_of_eq hzn.symm; replace B := Chg.below B hcn (by omega) B.size; (try replace l8 := l8.of_eq (hcn.block _ l8.lt (by omega))); (try replace kd := kd.of_eq (hcn.block _ kd.lt (by omega))); have r4 := ht; clear ht; simp only [putS])
   refine wpList_chunk 1 (by kernel_rfl) ?_
   simp only [takS, Nat.reduceAdd]
   repeat (first | go_big_quiet_skip | (go_big_quiet_want; go_big_quiet_op; go_big_quiet_on))
   refine wpQuiet_nil ?_
   refine wpList_nil ?_
   go_wp2
   refine ⟨by simp, .inl ⟨_, _, rfl, run_takeDeferred kd, ?_⟩⟩
   refine ⟨_, results_B2 (t := 34) rfl _ _ b_r4 rfl _ rfl ((World.putObj_heap_other (fun e => hne (by omega))).trans r4) Tryz.isAgg34 (by kernel_rfl), ?_⟩
   have BF := B.trans (belowK_b (w := w) (Nat.le_refl _) wn D _ (.deferred none) hwD kd rfl rfl)
   dsimp only
   rw [HM.out, e1, e2]
   exact ⟨_, _, rfl, rs2.own (grownBy_putObj' _ _ _) (fun r e => by cases e; exact ⟨_, kd, rfl⟩), BF⟩
  ·have e1 : manyL M = [] := if_neg hm
   have e2 : manyE M = 2 := if_neg hm
   refine wp_region_lit ?_
   try simp only [gelS]
   refine wpList_chunk 1 (by kernel_rfl) ?_
   simp only [takS, Nat.reduceAdd]
   repeat (first | go_big_quiet_skip | (go_big_quiet_want; first | (refine quiet_loadAny (t := 32) rfl _ _ _ rfl (fun w hw => run_load_sl ((ov_B l8 w hw).cellL 0 rfl)) (by rfl) ?_; simp only [putS]; go_big_quiet_on) | (go_big_quiet_op; go_big_quiet_on)))
   refine wpQuiet_nil ?_
   refine wpList_callF (by first | rfl | simp [Region.wanted, yielded]) rfl (enters_of Tryz.func108 (by kernel_rfl) rfl) (by simp only [Act.eval, evlS]; rfl) ?_
   refine (P_CloneO _ M _ rs1 (by omega)).mono ?_
   rintro e wn ⟨v2, b2, rfl, _, _, od2, hbn⟩
   have hsz := B.size
   have hzn := hbn.size
   replace B := B.trans (hbn.mono B.size)
   (try replace r4 := r4.below hbn)
   (try replace kd := kd.below hbn)
   have rs2 := od2.rs
   clear od2
   obtain ⟨a2, c2, rfl, hc2⟩ := rs2.len
   refine ⟨_, rfl, ?_⟩
   simp only [putS]
   refine wpList_callF (by first | rfl | simp [Region.wanted, yielded]) rfl (enters_of Tryz.func88 (by kernel_rfl) rfl) (by simp only [Act.eval, evlS]; rfl) ?_
   refine (P_made _ _ _ _ (by unfold maxLen; omega)).mono ?_
   rintro e wn ⟨rfl, hbn⟩
   have hsz := B.size
   have hzn := hbn.size
   replace B := B.trans (hbn.mono B.size)
   (try replace r4 := r4.below hbn)
   (try replace kd := kd.below hbn)
   replace rs2 := rs2.below hbn
   rw [if_neg hm]
   refine ⟨_, rfl, ?_⟩
   simp only [putS]
   refine wpList_chunk 2 (by kernel_rfl) ?_
   simp only [takS, Nat.reduceAdd]
   repeat (first | go_big_quiet_skip | (go_big_quiet_want; go_big_quiet_op; go_big_quiet_on))
   refine wpQuiet_nil ?_
   (refine wpList_storeB (t := 34) rfl _ _ rfl _ rfl _ rfl r4 (by kernel_rfl) rfl (by simp [Value.oneCell']) ?_; have r4o := r4; clear r4; intro wn ht hcn hzn; have hsz := B.size; replace hzn := Nat.le_of_eq hzn.symm; replace B := Chg.below B hcn (by omega) B.size; (try replace kd := kd.of_eq (hcn.block _ kd.lt (by omega))); have r4 := ht; clear ht; simp only [putS])
   refine wpList_chunk 1 (by kernel_rfl) ?_
   simp only [takS, Nat.reduceAdd]
   repeat (first | go_big_quiet_skip | (go_big_quiet_want; go_big_quiet_op; go_big_quiet_on))
   refine wpQuiet_nil ?_
   refine wpList_nil ?_
   go_wp2
   refine ⟨by simp, .inl ⟨_, _, rfl, run_takeDeferred kd, ?_⟩⟩
   refine ⟨_, results_B2 (t := 34) rfl _ _ b_r4 rfl _ rfl ((World.putObj_heap_other (fun e => hne (by omega))).trans r4) Tryz.isAgg34 (by kernel_rfl), ?_⟩
   have BF := B.trans (belowK_b (w := w) (Nat.le_refl _) wn D _ (.deferred none) hwD kd rfl rfl)
   dsimp only
   rw [HM.out, e1, e2]
   exact ⟨_, _, rfl, RS.nil _, BF⟩
end Go.Proofs.YtamgpfblhlfhaaaGreat
/- The set of an outline (the closure of Outline), its boundary's edges; the reference's in, edge. -/
namespace Go.Proofs.YtamgpfblhlfhaaaGreat
open Go.RowKit Go.Shelf Pl
set_option linter.unusedVariables false
set_option linter.unusedSimpArgs false
set_option maxRecDepth 20000
/-- The closure of Outline: its raster and its threshold lie in blocks. -/
def InB (r t : Nat) (ls : List TA) (th : Int) (w : World) : Prop := ∃ v, AtB 34 w r #[v] ∧ AtB 3 w t #[.int .i64 th] ∧ RS v ls w
theorem InB.below {r t : Nat} {ls : List TA} {th : Int} {w w' : World} (h : InB r t ls th w) (hb : Below w.heap.size w w') : InB r t ls th w' := by
 obtain ⟨v, h1, h2, h3⟩ := h
 exact ⟨v, AtB.of_eq h1 (hb.block _ (AtB.lt h1)), AtB.of_eq h2 (hb.block _ (AtB.lt h2)), h3.below hb⟩
def fB (r t : Nat) : Value := .func (.func 57) #[] #[.pointer (some ⟨r, 0, none⟩), .pointer (some ⟨t, 0, none⟩)]
theorem P_GetO (v : Value) (ls : List TA) (x y : Int) (pr pg pb pa : Int) (w : World) (h : RS v ls w) (hn : ls.length ≤ maxLen) (hx : (Lit.int .i64 x).wf = true) (hy : (Lit.int .i64 y).wf = true) (e1 : getL ls x y = ⟨pr, pg, pb, pa⟩) : Calls Tryz.prog 58 #[.agg #[v], .int .i64 x, .int .i64 y] w fun e w' => e = .returned (.agg #[.int .u8 pr, .int .u8 pg, .int .u8 pb, .int .u8 pa]) ∧ Below w.heap.size w w' := by
 have h0 := P_GetR v ls x y w h hn hx hy
 rw [e1] at h0
 exact h0
set_option maxHeartbeats 2000000 in
theorem P_in (r t : Nat) (ls : List TA) (th x y : Int) (b : Bool) (w : World) (h : InB r t ls th w) (tk : TokL ls) (hn : ls.length ≤ maxLen) (hx : (Lit.int .i64 x).wf = true) (hy : (Lit.int .i64 y).wf = true) (e : setG ls th x y = b) : Calls Tryz.prog 57 #[.int .i64 x, .int .i64 y, .pointer (some ⟨r, 0, none⟩), .pointer (some ⟨t, 0, none⟩)] w fun e w' => e = .returned (.bool b) ∧ Below w.heap.size w w' := by
 have B := Below.refl w.heap.size w
 obtain ⟨v, r2, r3, rs⟩ := h
 obtain ⟨⟨pr, pg, pb, pa⟩, hp⟩ : ∃ p, getL ls x y = p := ⟨_, rfl⟩
 have ok := getL_okL tk x y
 rw [hp] at ok
 have o1 : 0 ≤ pa ∧ pa ≤ 255 := ok.2.2.2
 have he : decide (th ≤ pa) = b := by rw [← e]; unfold setG; rw [hp]
 clear e ok
 go_enter Tryz.func57, Tryz.ntmps57
 go_upto_region 1 with fail
 try simp only [gelS]
 try have lx_r2 := r2.lt
 try have lx_r3 := r3.lt
 try have lx_rs := rs.lt
 refine wp_region_RL 9 [(3, detS ?v1_3)] (by kernel_rfl) (by kernel_rfl) (by kernel_rfl) ?_
 rotate_left 1
 simp only [takS, Nat.reduceAdd]
 refine wpRL_chunk 3 (by kernel_rfl) ?_
 simp only [takS, Nat.reduceAdd]
 repeat (first | go_big_quiet_skip | (go_big_quiet_want; first | (refine quiet_loadAny (t := 34) rfl _ _ _ rfl (fun w hw => run_load_ras ((ov_B r2 w hw).cell 0 rfl)) (by first | rfl | omega) ?_; simp only [putS]; go_big_quiet_on) | (go_big_quiet_op; go_big_quiet_on)))
 refine wpQuiet_nil ?_
 refine wpRL_callB (by rfl) (by first | rfl | simp [Region.wanted, yielded]) ?_ ?_
 ·intro wn hbn hE Kx hKx
  have hsz := B.size
  have hzn := hbn.size
  replace B := B.trans (hbn.mono B.size)
  (try replace r3 := r3.below hbn)
  (try replace rs := rs.below hbn)
  refine wp_callF rfl (enters_of Tryz.func58 (by kernel_rfl) rfl) (by simp only [Act.eval, evlS]; rfl) ?_
  refine (P_GetO v ls x y pr pg pb pa _ rs hn hx hy hp).mono ?_
  rintro e wm ⟨rfl, hbm⟩
  refine ⟨_, rfl, ?_⟩
  have hz := hKx () wm trivial hbm
  dsimp only [detS] at hz
  exact hz
 rintro ⟨⟩
 dsimp only [detS]
 simp only [putS]
 refine wpRL_chunk 5 (by kernel_rfl) ?_
 simp only [takS, Nat.reduceAdd]
 repeat (first | go_big_quiet_skip | (go_big_quiet_want; first | (refine quiet_loadAny (t := 3) rfl _ _ _ rfl (fun w hw => run_load_int ((ov_B r3 w hw).cell 0 rfl)) (by first | rfl | omega) ?_; simp only [putS]; go_big_quiet_on) | (go_big_quiet_op; go_big_quiet_on)))
 refine wpQuiet_nil ?_
 refine wpRL_nil ?_
 intro wn hbn hE
 have hsz := B.size
 have hzn := hbn.size
 replace B := B.trans (hbn.mono B.size)
 clear hE
 try simp only [List.drop_succ_cons, List.drop_zero]
 refine NoPan.normal ?_
 go_wp2
 go_ret
 exact ⟨by rw [← he]; try rfl, B⟩
theorem run_load_fn {w : World} {b j : Nat} {f : Fn} {x y : Array Value} (h : w.cell? ⟨b, j, none⟩ = some (.func f x y)) : (Instr.loadAt 84 (.pointer (some ⟨b, j, none⟩))).run Tryz.prog w = .ok (.func f x y) w := by
 simp [go_sem, h]
set_option maxHeartbeats 4000000 in
theorem P_has (r t : Nat) (ls : List TA) (th x y d : Int) (b : Bool) (w : World) (hI : InB r t ls th w) (tk : TokL ls) (hn : ls.length ≤ maxLen) (hx : -100000 ≤ x ∧ x ≤ 100000) (hy : -100000 ≤ y ∧ y ≤ 100000) (hd : 0 ≤ d ∧ d ≤ 3) (e : hasE (setG ls th) x y d = b) : Calls Tryz.prog 60 #[.agg #[fB r t], .agg #[.int .i64 x, .int .i64 y, .int .i64 d]] w fun e w' => e = .returned (.bool b) ∧ Below w.heap.size w w' := by
 have B := Below.refl w.heap.size w
 have wx := wf_mk (x := x) (by omega) (by omega)
 have wy := wf_mk (x := y) (by omega) (by omega)
 have wx1 := wf_mk (x := x - 1) (by omega) (by omega)
 have wy1 := wf_mk (x := y - 1) (by omega) (by omega)
 have HE := Lib.hid e
 clear e
 unfold fB
 go_enter Tryz.func60, Tryz.ntmps60
 go_upto_region 0 with fail
 refine wp_region_lit ?_
 try simp only [gelS]
 (refine wpList_boxB (t := 86) rfl _ rfl _ rfl ?_; intro b_r2 wn hle hge ht hbn hzn; have hsz := B.size; replace B := B.trans (hbn.mono (by omega)); have hln := Nat.lt_of_lt_of_eq (Nat.lt_succ_self _) hzn.symm; clear hzn; (try have hlt := hI.lt); (try replace hI := hI.below (hbn.mono hle)); have r2 := ht; clear ht; simp only [putS])
 (refine wpList_boxB (t := 90) rfl _ rfl _ rfl ?_; intro b_r3 wn hle hge ht hbn hzn; have hsz := B.size; replace B := B.trans (hbn.mono (by omega)); have hln := Nat.lt_of_lt_of_eq (Nat.lt_succ_self _) hzn.symm; clear hzn; (try have hlt := hI.lt); (try replace hI := hI.below (hbn.mono hle)); (try have hlt := r2.lt); (try replace r2 := r2.below (hbn.mono hle)); have r3 := ht; clear ht; simp only [putS])
 refine wpList_chunk 1 (by kernel_rfl) ?_
 simp only [takS, Nat.reduceAdd]
 repeat (first | go_big_quiet_skip | (go_big_quiet_want; go_big_quiet_op; go_big_quiet_on))
 refine wpQuiet_nil ?_
 refine wpList_nil ?_
 go_upto_region 1 with fail
 try simp only [gelS]
 try have lx_r2 := r2.lt
 try have lx_r3 := r3.lt
 try have lx_hI := hI.lt
 refine wp_region_RL 36 [(7, detS ?v2_7), (14, detS ?v2_14), (23, detS ?v2_23), (31, detS ?v2_31)] (by kernel_rfl) (by kernel_rfl) (by kernel_rfl) ?_
 rotate_left 4
 simp only [takS, Nat.reduceAdd]
 refine wpRL_chunk 7 (by kernel_rfl) ?_
 simp only [takS, Nat.reduceAdd]
 repeat (first | go_big_quiet_skip | (go_big_quiet_want; first | (refine quiet_loadAny (t := 84) rfl _ _ _ rfl (fun w hw => run_load_fn ((ov_B r2 w hw).cellL 0 rfl)) (by first | rfl | omega) ?_; simp only [putS]; go_big_quiet_on) | (refine quiet_loadAny (t := 3) rfl _ _ _ rfl (fun w hw => run_load_int ((ov_B r3 w hw).cellL 0 rfl)) (by first | rfl | omega) ?_; simp only [putS]; go_big_quiet_on) | (refine quiet_loadAny (t := 3) rfl _ _ _ rfl (fun w hw => run_load_int ((ov_B r3 w hw).cellL 1 rfl)) (by first | rfl | omega) ?_; simp only [putS]; go_big_quiet_on) | (refine quiet_loadAny (t := 3) rfl _ _ _ rfl (fun w hw => run_load_int ((ov_B r3 w hw).cellL 2 rfl)) (by first | rfl | omega) ?_; simp only [putS]; go_big_quiet_on) | (go_big_quiet_op; go_big_quiet_on)))
 refine wpQuiet_nil ?_
 refine wpRL_callB (by rfl) (by first | rfl | simp [Region.wanted, yielded]) ?_ ?_
 ·intro wn hbn hE Kx hKx
  have hsz := B.size
  have hzn := hbn.size
  replace B := B.trans (hbn.mono B.size)
  (try replace r2 := r2.below hbn)
  (try replace r3 := r3.below hbn)
  (try replace hI := hI.below hbn)
  refine wp_callV rfl (by simp only [Act.eval, evlS]; rfl) (enters_of Tryz.func57 (by kernel_rfl) rfl) (by simp only [Act.eval, evlS]; rfl) ?_
  refine (P_in r t ls th (x - 1) (y) _ _ hI tk hn wx1 wy rfl).mono ?_
  rintro e wm ⟨rfl, hbm⟩
  refine ⟨_, rfl, ?_⟩
  have hz := hKx () wm trivial hbm
  dsimp only [detS] at hz
  exact hz
 rintro ⟨⟩
 dsimp only [detS]
 simp only [putS]
 refine wpRL_chunk 6 (by kernel_rfl) ?_
 simp only [takS, Nat.reduceAdd]
 repeat (first | go_big_quiet_skip | (go_big_quiet_want; first | (refine quiet_loadAny (t := 84) rfl _ _ _ rfl (fun w hw => run_load_fn ((ov_B r2 w hw).cellL 0 rfl)) (by first | rfl | omega) ?_; simp only [putS]; go_big_quiet_on) | (refine quiet_loadAny (t := 3) rfl _ _ _ rfl (fun w hw => run_load_int ((ov_B r3 w hw).cellL 0 rfl)) (by first | rfl | omega) ?_; simp only [putS]; go_big_quiet_on) | (refine quiet_loadAny (t := 3) rfl _ _ _ rfl (fun w hw => run_load_int ((ov_B r3 w hw).cellL 1 rfl)) (by first | rfl | omega) ?_; simp only [putS]; go_big_quiet_on) | (refine quiet_loadAny (t := 3) rfl _ _ _ rfl (fun w hw => run_load_int ((ov_B r3 w hw).cellL 2 rfl)) (by first | rfl | omega) ?_; simp only [putS]; go_big_quiet_on) | (go_big_quiet_op; go_big_quiet_on)))
 refine wpQuiet_nil ?_
 refine wpRL_callB (by rfl) (by first | rfl | simp [Region.wanted, yielded]) ?_ ?_
 ·intro wn hbn hE Kx hKx
  have hsz := B.size
  have hzn := hbn.size
  replace B := B.trans (hbn.mono B.size)
  (try replace r2 := r2.below hbn)
  (try replace r3 := r3.below hbn)
  (try replace hI := hI.below hbn)
  refine wp_callV rfl (by simp only [Act.eval, evlS]; rfl) (enters_of Tryz.func57 (by kernel_rfl) rfl) (by simp only [Act.eval, evlS]; rfl) ?_
  refine (P_in r t ls th (x) (y) _ _ hI tk hn wx wy rfl).mono ?_
  rintro e wm ⟨rfl, hbm⟩
  refine ⟨_, rfl, ?_⟩
  have hz := hKx () wm trivial hbm
  dsimp only [detS] at hz
  exact hz
 rintro ⟨⟩
 dsimp only [detS]
 simp only [putS]
 refine wpRL_chunk 8 (by kernel_rfl) ?_
 simp only [takS, Nat.reduceAdd]
 repeat (first | go_big_quiet_skip | (go_big_quiet_want; first | (refine quiet_loadAny (t := 84) rfl _ _ _ rfl (fun w hw => run_load_fn ((ov_B r2 w hw).cellL 0 rfl)) (by first | rfl | omega) ?_; simp only [putS]; go_big_quiet_on) | (refine quiet_loadAny (t := 3) rfl _ _ _ rfl (fun w hw => run_load_int ((ov_B r3 w hw).cellL 0 rfl)) (by first | rfl | omega) ?_; simp only [putS]; go_big_quiet_on) | (refine quiet_loadAny (t := 3) rfl _ _ _ rfl (fun w hw => run_load_int ((ov_B r3 w hw).cellL 1 rfl)) (by first | rfl | omega) ?_; simp only [putS]; go_big_quiet_on) | (refine quiet_loadAny (t := 3) rfl _ _ _ rfl (fun w hw => run_load_int ((ov_B r3 w hw).cellL 2 rfl)) (by first | rfl | omega) ?_; simp only [putS]; go_big_quiet_on) | (go_big_quiet_op; go_big_quiet_on)))
 refine wpQuiet_nil ?_
 refine wpRL_callB (by rfl) (by first | rfl | simp [Region.wanted, yielded]) ?_ ?_
 ·intro wn hbn hE Kx hKx
  have hsz := B.size
  have hzn := hbn.size
  replace B := B.trans (hbn.mono B.size)
  (try replace r2 := r2.below hbn)
  (try replace r3 := r3.below hbn)
  (try replace hI := hI.below hbn)
  refine wp_callV rfl (by simp only [Act.eval, evlS]; rfl) (enters_of Tryz.func57 (by kernel_rfl) rfl) (by simp only [Act.eval, evlS]; rfl) ?_
  refine (P_in r t ls th (x - 1) (y - 1) _ _ hI tk hn wx1 wy1 rfl).mono ?_
  rintro e wm ⟨rfl, hbm⟩
  refine ⟨_, rfl, ?_⟩
  have hz := hKx () wm trivial hbm
  dsimp only [detS] at hz
  exact hz
 rintro ⟨⟩
 dsimp only [detS]
 simp only [putS]
 refine wpRL_chunk 7 (by kernel_rfl) ?_
 simp only [takS, Nat.reduceAdd]
 repeat (first | go_big_quiet_skip | (go_big_quiet_want; first | (refine quiet_loadAny (t := 84) rfl _ _ _ rfl (fun w hw => run_load_fn ((ov_B r2 w hw).cellL 0 rfl)) (by first | rfl | omega) ?_; simp only [putS]; go_big_quiet_on) | (refine quiet_loadAny (t := 3) rfl _ _ _ rfl (fun w hw => run_load_int ((ov_B r3 w hw).cellL 0 rfl)) (by first | rfl | omega) ?_; simp only [putS]; go_big_quiet_on) | (refine quiet_loadAny (t := 3) rfl _ _ _ rfl (fun w hw => run_load_int ((ov_B r3 w hw).cellL 1 rfl)) (by first | rfl | omega) ?_; simp only [putS]; go_big_quiet_on) | (refine quiet_loadAny (t := 3) rfl _ _ _ rfl (fun w hw => run_load_int ((ov_B r3 w hw).cellL 2 rfl)) (by first | rfl | omega) ?_; simp only [putS]; go_big_quiet_on) | (go_big_quiet_op; go_big_quiet_on)))
 refine wpQuiet_nil ?_
 refine wpRL_callB (by rfl) (by first | rfl | simp [Region.wanted, yielded]) ?_ ?_
 ·intro wn hbn hE Kx hKx
  have hsz := B.size
  have hzn := hbn.size
  replace B := B.trans (hbn.mono B.size)
  (try replace r3 := r3.below hbn)
  (try replace hI := hI.below hbn)
  refine wp_callV rfl (by simp only [Act.eval, evlS]; rfl) (enters_of Tryz.func57 (by kernel_rfl) rfl) (by simp only [Act.eval, evlS]; rfl) ?_
  refine (P_in r t ls th (x) (y - 1) _ _ hI tk hn wx wy1 rfl).mono ?_
  rintro e wm ⟨rfl, hbm⟩
  refine ⟨_, rfl, ?_⟩
  have hz := hKx () wm trivial hbm
  dsimp only [detS] at hz
  exact hz
 rintro ⟨⟩
 dsimp only [detS]
 simp only [putS]
 refine wpRL_chunk 4 (by kernel_rfl) ?_
 simp only [takS, Nat.reduceAdd]
 repeat (first | go_big_quiet_skip | (go_big_quiet_want; go_big_quiet_op; go_big_quiet_on))
 refine wpQuiet_nil ?_
 refine wpRL_nil ?_
 intro wn hbn hE
 have hsz := B.size
 have hzn := hbn.size
 replace B := B.trans (hbn.mono B.size)
 (try replace r3 := r3.below hbn)
 clear hE
 try simp only [List.drop_succ_cons, List.drop_zero]
 refine NoPan.normal ?_
 go_upto_region 2 with fail
 have he := Lib.hid (show outD (setG ls th (x - 1) (y - 1)) (setG ls th x (y - 1)) (setG ls th (x - 1) y) (setG ls th x y) d = b from HE.out)
 generalize setG ls th (x - 1) y = b1 at *
 generalize setG ls th x y = b2 at *
 generalize setG ls th (x - 1) (y - 1) = b3 at *
 generalize setG ls th x (y - 1) = b4 at *
 clear HE wx wy wx1 wy1 hx hy
 cases b1 <;> cases b2 <;> cases b3 <;> cases b4 <;> (
  refine wp_region_lit ?_
  try simp only [gelS]
  refine wpList_chunk 23 (by kernel_rfl) ?_
  simp only [takS, Nat.reduceAdd]
  repeat (first | go_big_quiet_skip | (go_big_quiet_want; first | (refine quiet_loadAny (t := 3) rfl _ _ _ rfl (fun w hw => run_load_int ((ov_B r3 w hw).cellL 2 rfl)) (by first | rfl | omega) ?_; simp only [putS]; go_big_quiet_on) | (go_big_quiet_op; go_big_quiet_on)))
  refine wpQuiet_nil ?_
  rcases dir4 hd with rfl | rfl | rfl | rfl <;> (
   refine wpList_val rfl (.bool b) (by rw [← he.out]; kernel_rfl) ?_
   simp only [putS]
   try simp only [gelS]
   refine wpList_chunk 1 (by kernel_rfl) ?_
   simp only [takS, Nat.reduceAdd]
   repeat (first | go_big_quiet_skip | (go_big_quiet_want; go_big_quiet_op; go_big_quiet_on))
   refine wpQuiet_nil ?_
   refine wpList_nil ?_
   go_wp2
   go_ret
   exact ⟨rfl, B⟩))
/- The end of an edge; the reference's in, edge. -/
section
variable {o : Oper} {a : Act} {C : World → Prop} {K : Act → Prop}
theorem quiet_indexA {t : TypeId} {x i : Operand} (h : o.op = .index t x i) (vs : Array Value) (hx : a.eval x = .agg vs) (j : Int) (hi : a.eval i = .int .i64 j) (u : Value) (hr : ∀ w, (Instr.index t (.agg vs) (.int .i64 j)).run Tryz.prog w = .ok u w) (hk : K (a.put o.dst u)) : o.quiet Tryz.prog a C K :=
 ⟨_, fun w hw => by unfold Oper.quietAt execOp; simp only [h, hx, hi, hr w, Sem.run_bind, Sem.run_pure, Result.andThen_ok]; exact ⟨rfl, rfl⟩, hk⟩
end
set_option maxHeartbeats 2000000 in
theorem P_on (x y d : Int) (w : World) (hx : -100000 ≤ x ∧ x ≤ 100000) (hy : -100000 ≤ y ∧ y ≤ 100000) (hd : 0 ≤ d ∧ d ≤ 3) : Calls Tryz.prog 99 #[.agg #[.int .i64 x, .int .i64 y, .int .i64 d]] w fun e w' => e = .returned (.tuple #[.int .i64 (x + dxE d), .int .i64 (y + dyE d)]) ∧ Below w.heap.size w w' := by
 have B := Below.refl w.heap.size w
 rcases dir4 hd with rfl | rfl | rfl | rfl
 ·go_enter Tryz.func99, Tryz.ntmps99
  go_upto_region 0 with fail
  refine wp_region_lit ?_
  try simp only [gelS]
  (refine wpList_boxB (t := 90) rfl _ rfl _ rfl ?_; intro b_r1 wn hle hge ht hbn hzn; have hsz := B.size; replace B := B.trans (hbn.mono (by omega)); have hln := Nat.lt_of_lt_of_eq (Nat.lt_succ_self _) hzn.symm; clear hzn; have r1 := ht; clear ht; simp only [putS])
  refine wpList_chunk 2 (by kernel_rfl) ?_
  simp only [takS, Nat.reduceAdd]
  repeat (first | go_big_quiet_skip | (go_big_quiet_want; go_big_quiet_op; go_big_quiet_on))
  refine wpQuiet_nil ?_
  refine wpList_nil ?_
  go_upto_region 1 with fail
  try simp only [gelS]
  try have lx_r1 := r1.lt
  refine wp_region_RL 16 [] (by kernel_rfl) (by kernel_rfl) (by kernel_rfl) ?_
  rotate_left 0
  simp only [takS, Nat.reduceAdd]
  refine wpRL_chunk 16 (by kernel_rfl) ?_
  simp only [takS, Nat.reduceAdd]
  repeat (first | go_big_quiet_skip | (go_big_quiet_want; first | (refine quiet_loadAny (t := 3) rfl _ _ _ rfl (fun w hw => run_load_int ((ov_B r1 w hw).cellL 0 rfl)) (by first | rfl | omega) ?_; simp only [putS]; go_big_quiet_on) | (refine quiet_loadAny (t := 3) rfl _ _ _ rfl (fun w hw => run_load_int ((ov_B r1 w hw).cellL 1 rfl)) (by first | rfl | omega) ?_; simp only [putS]; go_big_quiet_on) | (refine quiet_loadAny (t := 3) rfl _ _ _ rfl (fun w hw => run_load_int ((ov_B r1 w hw).cellL 2 rfl)) (by first | rfl | omega) ?_; simp only [putS]; go_big_quiet_on) | (refine quiet_indexA rfl #[.int .i64 1, .int .i64 0, .int .i64 (-1), .int .i64 0] rfl _ rfl (.int .i64 (1)) (fun w => by kernel_rfl) ?_; simp only [putS]; go_big_quiet_on) | (refine quiet_indexA rfl #[.int .i64 0, .int .i64 1, .int .i64 0, .int .i64 (-1)] rfl _ rfl (.int .i64 (0)) (fun w => by kernel_rfl) ?_; simp only [putS]; go_big_quiet_on) | (go_big_quiet_op; go_big_quiet_on)))
  refine wpQuiet_nil ?_
  refine wpRL_nil ?_
  intro wn hbn hE
  have hsz := B.size
  have hzn := hbn.size
  replace B := B.trans (hbn.mono B.size)
  (try replace r1 := r1.below hbn)
  clear hE
  try simp only [List.drop_succ_cons, List.drop_zero]
  refine NoPan.normal ?_
  go_wp2
  go_ret2
  exact ⟨by simp [dxE, dyE] <;> omega, B⟩
 ·go_enter Tryz.func99, Tryz.ntmps99
  go_upto_region 0 with fail
  refine wp_region_lit ?_
  try simp only [gelS]
  (refine wpList_boxB (t := 90) rfl _ rfl _ rfl ?_; intro b_r1 wn hle hge ht hbn hzn; have hsz := B.size; replace B := B.trans (hbn.mono (by omega)); have hln := Nat.lt_of_lt_of_eq (Nat.lt_succ_self _) hzn.symm; clear hzn; have r1 := ht; clear ht; simp only [putS])
  refine wpList_chunk 2 (by kernel_rfl) ?_
  simp only [takS, Nat.reduceAdd]
  repeat (first | go_big_quiet_skip | (go_big_quiet_want; go_big_quiet_op; go_big_quiet_on))
  refine wpQuiet_nil ?_
  refine wpList_nil ?_
  go_upto_region 1 with fail
  try simp only [gelS]
  try have lx_r1 := r1.lt
  refine wp_region_RL 16 [] (by kernel_rfl) (by kernel_rfl) (by kernel_rfl) ?_
  rotate_left 0
  simp only [takS, Nat.reduceAdd]
  refine wpRL_chunk 16 (by kernel_rfl) ?_
  simp only [takS, Nat.reduceAdd]
  repeat (first | go_big_quiet_skip | (go_big_quiet_want; first | (refine quiet_loadAny (t := 3) rfl _ _ _ rfl (fun w hw => run_load_int ((ov_B r1 w hw).cellL 0 rfl)) (by first | rfl | omega) ?_; simp only [putS]; go_big_quiet_on) | (refine quiet_loadAny (t := 3) rfl _ _ _ rfl (fun w hw => run_load_int ((ov_B r1 w hw).cellL 1 rfl)) (by first | rfl | omega) ?_; simp only [putS]; go_big_quiet_on) | (refine quiet_loadAny (t := 3) rfl _ _ _ rfl (fun w hw => run_load_int ((ov_B r1 w hw).cellL 2 rfl)) (by first | rfl | omega) ?_; simp only [putS]; go_big_quiet_on) | (refine quiet_indexA rfl #[.int .i64 1, .int .i64 0, .int .i64 (-1), .int .i64 0] rfl _ rfl (.int .i64 (0)) (fun w => by kernel_rfl) ?_; simp only [putS]; go_big_quiet_on) | (refine quiet_indexA rfl #[.int .i64 0, .int .i64 1, .int .i64 0, .int .i64 (-1)] rfl _ rfl (.int .i64 (1)) (fun w => by kernel_rfl) ?_; simp only [putS]; go_big_quiet_on) | (go_big_quiet_op; go_big_quiet_on)))
  refine wpQuiet_nil ?_
  refine wpRL_nil ?_
  intro wn hbn hE
  have hsz := B.size
  have hzn := hbn.size
  replace B := B.trans (hbn.mono B.size)
  (try replace r1 := r1.below hbn)
  clear hE
  try simp only [List.drop_succ_cons, List.drop_zero]
  refine NoPan.normal ?_
  go_wp2
  go_ret2
  exact ⟨by simp [dxE, dyE] <;> omega, B⟩
 ·go_enter Tryz.func99, Tryz.ntmps99
  go_upto_region 0 with fail
  refine wp_region_lit ?_
  try simp only [gelS]
  (refine wpList_boxB (t := 90) rfl _ rfl _ rfl ?_; intro b_r1 wn hle hge ht hbn hzn; have hsz := B.size; replace B := B.trans (hbn.mono (by omega)); have hln := Nat.lt_of_lt_of_eq (Nat.lt_succ_self _) hzn.symm; clear hzn; have r1 := ht; clear ht; simp only [putS])
  refine wpList_chunk 2 (by kernel_rfl) ?_
  simp only [takS, Nat.reduceAdd]
  repeat (first | go_big_quiet_skip | (go_big_quiet_want; go_big_quiet_op; go_big_quiet_on))
  refine wpQuiet_nil ?_
  refine wpList_nil ?_
  go_upto_region 1 with fail
  try simp only [gelS]
  try have lx_r1 := r1.lt
  refine wp_region_RL 16 [] (by kernel_rfl) (by kernel_rfl) (by kernel_rfl) ?_
  rotate_left 0
  simp only [takS, Nat.reduceAdd]
  refine wpRL_chunk 16 (by kernel_rfl) ?_
  simp only [takS, Nat.reduceAdd]
  repeat (first | go_big_quiet_skip | (go_big_quiet_want; first | (refine quiet_loadAny (t := 3) rfl _ _ _ rfl (fun w hw => run_load_int ((ov_B r1 w hw).cellL 0 rfl)) (by first | rfl | omega) ?_; simp only [putS]; go_big_quiet_on) | (refine quiet_loadAny (t := 3) rfl _ _ _ rfl (fun w hw => run_load_int ((ov_B r1 w hw).cellL 1 rfl)) (by first | rfl | omega) ?_; simp only [putS]; go_big_quiet_on) | (refine quiet_loadAny (t := 3) rfl _ _ _ rfl (fun w hw => run_load_int ((ov_B r1 w hw).cellL 2 rfl)) (by first | rfl | omega) ?_; simp only [putS]; go_big_quiet_on) | (refine quiet_indexA rfl #[.int .i64 1, .int .i64 0, .int .i64 (-1), .int .i64 0] rfl _ rfl (.int .i64 (-1)) (fun w => by kernel_rfl) ?_; simp only [putS]; go_big_quiet_on) | (refine quiet_indexA rfl #[.int .i64 0, .int .i64 1, .int .i64 0, .int .i64 (-1)] rfl _ rfl (.int .i64 (0)) (fun w => by kernel_rfl) ?_; simp only [putS]; go_big_quiet_on) | (go_big_quiet_op; go_big_quiet_on)))
  refine wpQuiet_nil ?_
  refine wpRL_nil ?_
  intro wn hbn hE
  have hsz := B.size
  have hzn := hbn.size
  replace B := B.trans (hbn.mono B.size)
  (try replace r1 := r1.below hbn)
  clear hE
  try simp only [List.drop_succ_cons, List.drop_zero]
  refine NoPan.normal ?_
  go_wp2
  go_ret2
  exact ⟨by simp [dxE, dyE] <;> omega, B⟩
 ·go_enter Tryz.func99, Tryz.ntmps99
  go_upto_region 0 with fail
  refine wp_region_lit ?_
  try simp only [gelS]
  (refine wpList_boxB (t := 90) rfl _ rfl _ rfl ?_; intro b_r1 wn hle hge ht hbn hzn; have hsz := B.size; replace B := B.trans (hbn.mono (by omega)); have hln := Nat.lt_of_lt_of_eq (Nat.lt_succ_self _) hzn.symm; clear hzn; have r1 := ht; clear ht; simp only [putS])
  refine wpList_chunk 2 (by kernel_rfl) ?_
  simp only [takS, Nat.reduceAdd]
  repeat (first | go_big_quiet_skip | (go_big_quiet_want; go_big_quiet_op; go_big_quiet_on))
  refine wpQuiet_nil ?_
  refine wpList_nil ?_
  go_upto_region 1 with fail
  try simp only [gelS]
  try have lx_r1 := r1.lt
  refine wp_region_RL 16 [] (by kernel_rfl) (by kernel_rfl) (by kernel_rfl) ?_
  rotate_left 0
  simp only [takS, Nat.reduceAdd]
  refine wpRL_chunk 16 (by kernel_rfl) ?_
  simp only [takS, Nat.reduceAdd]
  repeat (first | go_big_quiet_skip | (go_big_quiet_want; first | (refine quiet_loadAny (t := 3) rfl _ _ _ rfl (fun w hw => run_load_int ((ov_B r1 w hw).cellL 0 rfl)) (by first | rfl | omega) ?_; simp only [putS]; go_big_quiet_on) | (refine quiet_loadAny (t := 3) rfl _ _ _ rfl (fun w hw => run_load_int ((ov_B r1 w hw).cellL 1 rfl)) (by first | rfl | omega) ?_; simp only [putS]; go_big_quiet_on) | (refine quiet_loadAny (t := 3) rfl _ _ _ rfl (fun w hw => run_load_int ((ov_B r1 w hw).cellL 2 rfl)) (by first | rfl | omega) ?_; simp only [putS]; go_big_quiet_on) | (refine quiet_indexA rfl #[.int .i64 1, .int .i64 0, .int .i64 (-1), .int .i64 0] rfl _ rfl (.int .i64 (0)) (fun w => by kernel_rfl) ?_; simp only [putS]; go_big_quiet_on) | (refine quiet_indexA rfl #[.int .i64 0, .int .i64 1, .int .i64 0, .int .i64 (-1)] rfl _ rfl (.int .i64 (-1)) (fun w => by kernel_rfl) ?_; simp only [putS]; go_big_quiet_on) | (go_big_quiet_op; go_big_quiet_on)))
  refine wpQuiet_nil ?_
  refine wpRL_nil ?_
  intro wn hbn hE
  have hsz := B.size
  have hzn := hbn.size
  replace B := B.trans (hbn.mono B.size)
  clear hE
  try simp only [List.drop_succ_cons, List.drop_zero]
  refine NoPan.normal ?_
  go_wp2
  go_ret2
  exact ⟨by simp [dxE, dyE] <;> omega, B⟩
end Go.Proofs.YtamgpfblhlfhaaaGreat
/- A range over an iterator that keeps a block of its own and writes it between two rounds; a body that writes a map. Marks of several such statements. -/
namespace Go.Proofs.YtamgpfblhlfhaaaGreat
open Go Go.RowKit
set_option linter.unusedVariables false
set_option linter.unusedSimpArgs false
/-- The turn of block c is borne. -/
def AbidesOwn {β : Type} (c : Nat) (J : β → World → Prop) : Prop :=
 ∀ s W W' row, J s W → W.grownBy W' row → (∀ r, row = some r → r = c) → J s W'
theorem AbidesOwn.below {β : Type} {c : Nat} {J : β → World → Prop} (h : AbidesOwn c J) {s : β} {W W' : World} (hs : J s W) (hb : Below W.heap.size W W') : J s W' :=
 h s W W' none hs (grown_of_below hb) (fun r e => by cases e)
/-- An iterator whose call lays a block of its own first: what it hands over, each time what Al says. -/
def SeqOwn {α : Type} (F : Fence) (n : Nat) (P : Program) (g : Nat) (lb : Array Value) (encs : α → Array Value) (Kp : Nat → World → World → Prop) (S : List α → Prop) (Al : List α → α → Prop) (w : World) : Prop :=
 ∀ (l : Nat) (J : List α → World → Prop) (W : World), Below w.heap.size w W → AbidesOwn W.heap.size J →
  (∀ pre x W1, J pre W1 → Al pre x → W.heap.size < W1.heap.size → YieldAt F (n - 1) P l (encs x) W1 fun e W' => e = .returned (.bool true) ∧ J (pre ++ [x]) W' ∧ Kp W.heap.size W1 W') →
  J [] W →
  CallsIn F n P g (#[.func (.yield l) #[] #[]] ++ lb) W fun e W' => (∃ v, e = .returned v) ∧ ∃ xs, S xs ∧ J xs W'
/-- How the body of a round is left: it goes on; the two blocks from B on lie as they lay. -/
def ownPostT {α : Type} (B : Nat) (Kp : World → World → Prop) (I : List α → World → Prop) (xs : List α) (W : World) : Exit → Act → World → Prop
 | .normal, _, W' => (∀ k o, B ≤ k → k < B + 2 → W.heap[k]? = some o → W'.heap[k]? = some o) ∧ Kp W W' ∧ I xs W'
 | _, _, _ => False
section
variable {F : Fence} {n : Nat} {P : Program}
theorem rangeFunc_own {α : Type} {g : Operand} {ps : Array Tmp} {assign body : Code} {Q : Exit → Act → World → Prop} {a : Act} {w : World}
  (hro : F.round = none) (h1 : 1 ≤ n) {gf : Nat} {lb : Array Value} (hg : a.eval g = .func (.func gf) #[] lb) (hFg : F.fn gf) (eg : ∀ args w, (callFunc gf args).run P w = .ok (.enter gf args) w)
  {encs : α → Array Value} {Kp : Nat → World → World → Prop} {S : List α → Prop} {Al : List α → α → Prop} {w0 : World} (hseq : SeqOwn F (n - 1) P gf lb encs Kp S Al w0)
  (hKt : ∀ {A B C : World}, Kp (w.heap.size + 2) A B → Kp (w.heap.size + 2) B C → Kp (w.heap.size + 2) A C) (hKb : ∀ (W : World) (l : Nat) (o o' : Obj), W.heap[l]? = some o → o.isCells = false → Kp (w.heap.size + 2) W (W.putObj l o'))
  (hKg : ∀ (A B : World), Below A.heap.size A B → Kp (w.heap.size + 2) A B) (hb0 : Below w0.heap.size w0 w) (hps : ∀ x, (encs x).size = ps.size)
  (I : List α → World → Prop) (hI : OwnFrom w.heap.size I) (hIo : AbidesOwn (w.heap.size + 2) I) (h0 : I [] w) (As : α → Act → World → Prop) (hAs : ∀ x, OwnFrom w.heap.size (As x))
  (hassign : ∀ (l : Nat) (pre : List α) (x : α) (W : World) (K : Act → World → Prop), I pre W → w.heap.size + 2 < W.heap.size → (∀ a' W', Below W.heap.size W W' → As x a' W' → K a' W') →
   assign.wpIn (F.inRound l) (n - 1 - 1) P (Exit.then K (fun _ _ _ => False)) { tmps := (ps.zip (encs x)).foldl (fun t (p, v) => t.setIfInBounds p v) a.tmps, defers := [] } W)
  (hbody : ∀ (l : Nat) (pre : List α) (x : α) (W : World) (a' : Act), I pre W → As x a' W → Al pre x → w.heap.size + 2 < W.heap.size → body.wpIn (F.inRound l) (n - 1 - 1) P (ownPostT w.heap.size (Kp (w.heap.size + 2)) I (pre ++ [x]) W) a' W)
  (hdone : ∀ (D : Nat) (xs : List α) (W : World), w.heap.size ≤ D → S xs → I xs W → W.heap[D]? = some (.deferred (some [])) → Q .normal { a with defers := { target := .collected D, args := #[] } :: a.defers } W) :
  (Code.rangeFunc g ps assign body).wpIn F n P Q a w := by
 refine wpIn_rangeFunc fun fn hfn => ?_
 rw [hro]
 obtain ⟨rc, hrc⟩ : ∃ rc : LoopState → Option Code → Loop, rc = fun st pe => { state := st, pending := pe, fn, tmps := a.tmps, params := ps, assign, body, defers := w.heap.size } := ⟨_, rfl⟩
 obtain ⟨W1, hW1⟩ : ∃ W1, (w.alloc (.deferred (some []))).alloc (.loop (rc .ready none)) = W1 := ⟨_, rfl⟩
 have blkL : W1.heap[w.heap.size + 1]? = some (.loop (rc .ready none)) := by
  have := World.alloc_heap_new (w.alloc (.deferred (some []))) (.loop (rc .ready none))
  rw [← hW1]
  rwa [World.size_alloc] at this
 have blkD : W1.heap[w.heap.size]? = some (.deferred (some [])) := by
  rw [← hW1]
  exact (Below.heap_alloc _ _ _ (by simp)).trans (World.alloc_heap_new w _)
 have grown : Below w0.heap.size w0 W1 := by
  rw [← hW1]
  exact hb0.trans ((((Below.refl _ w).alloc (Nat.le_refl _) _).alloc (by simp) _).mono hb0.size)
 have szW1 : W1.heap.size = w.heap.size + 2 := by rw [← hW1]; simp [World.size_alloc]
 have start : I [] W1 := by rw [← hW1]; exact hI.alloc _ (hI.alloc _ h0)
 refine ⟨w.heap.size + 1, [{ target := .collected w.heap.size, args := #[] }], W1, { target := .fn (.func gf) lb, args := #[.func (.yield (w.heap.size + 1)) #[] #[]] }, W1, gf,
  #[.func (.yield (w.heap.size + 1)) #[] #[]] ++ lb, W1, ?_, ?_, ?_, ?_, fun _ => h1, ?_⟩
 ·rw [← hW1, hrc]; exact run_enterLoop_outer _ _ _ _ _
 ·simp only [resolve, hg]
  simp [go_sem]
 ·intro f' hf'
  simp [Target.leads] at hf'
  subst hf'
  exact hFg
 ·simp [invoke, go_sem, eg]
 refine (hseq (w.heap.size + 1)
  (fun pre W => I pre W ∧ W.heap[w.heap.size + 1]? = some (.loop (rc .ready none)) ∧ W.heap[w.heap.size]? = some (.deferred (some [])))
  W1 grown
  (fun s A B row hs hg' hr => ⟨hIo s A B row hs.1 hg' (fun r e => (hr r e).trans szW1), (hg'.block _ (Array.getElem?_eq_some_iff.1 hs.2.1).1 (fun e => by have := hr _ e.symm; omega)).trans hs.2.1, (hg'.block _ (Array.getElem?_eq_some_iff.1 hs.2.2).1 (fun e => by have := hr _ e.symm; omega)).trans hs.2.2⟩)
  ?_ ⟨start, blkL, blkD⟩).mono ?_
 ·rintro pre x W ⟨hi, hl, hk⟩ hal hgt
  rw [szW1] at hgt ⊢
  have hy := run_yield (P := P) (args := encs x) hl (by rw [hrc]; exact hps x)
  rw [hrc] at hy
  refine ⟨fn, _, assign, body, hy, roundIn_of_wpIn hfn (hassign _ pre x W _ hi hgt fun a' V hb ha => ?_)⟩
  have hlV : V.heap[w.heap.size + 1]? = some (.loop (rc .ready none)) := (hb.block _ (Array.getElem?_eq_some_iff.1 hl).1).trans hl
  have hkV : V.heap[w.heap.size]? = some (.deferred (some [])) := (hb.block _ (Array.getElem?_eq_some_iff.1 hk).1).trans hk
  have hiV : I pre V := hI pre W V none hi (grown_of_below hb) (fun r e => by cases e)
  refine ⟨_, run_beginRound hlV (by rw [hrc]), ?_⟩
  obtain ⟨V1, hV1⟩ : ∃ V1, V.putObj (w.heap.size + 1) (.loop { rc .ready none with state := .busy }) = V1 := ⟨_, rfl⟩
  have hl1 : V1.heap[w.heap.size + 1]? = some (.loop { rc .ready none with state := .busy }) := by rw [← hV1]; exact World.putObj_heap_same (Array.getElem?_eq_some_iff.1 hlV).1
  have hk1 : V1.heap[w.heap.size]? = some (.deferred (some [])) := by rw [← hV1]; exact (World.putObj_heap_other (by omega)).trans hkV
  have hKp1 : Kp (w.heap.size + 2) W V1 := hKt (hKg _ _ hb) (by rw [← hV1]; exact hKb _ _ _ _ hlV rfl)
  have hi1 : I pre V1 := by rw [← hV1]; exact hI.putObj _ hiV (by omega) hlV rfl
  have ha1 : As x a' V1 := by rw [← hV1]; exact (hAs x).putObj _ ha (by omega) hlV rfl
  have hgt1 : w.heap.size + 2 < V1.heap.size := by
   have := hb.size
   rw [← hV1, World.putObj_size]; omega
  rw [hV1]
  refine wpIn_mono (hbody _ pre x V1 a' hi1 ha1 hal hgt1) ?_
  rintro e a3 W3 hp
  cases e with
  | normal =>
   obtain ⟨ko, kp, hi3⟩ := hp
   have hl3 := ko _ _ (by omega) (by omega) hl1
   have hk3 := ko _ _ (Nat.le_refl _) (by omega) hk1
   have he := run_endRound (P := P) none hl3
   rw [hrc] at he
   refine ⟨_, _, he, rfl, ⟨hI.putObj _ hi3 (by omega) hl3 rfl, ?_, (World.putObj_heap_other (by omega)).trans hk3⟩, hKt (hKt hKp1 kp) (hKb _ _ _ _ hl3 rfl)⟩
   rw [World.putObj_heap_same (Array.getElem?_eq_some_iff.1 hl3).1, hrc]
   rfl
  | ret => exact hp.elim
  | exit id => exact hp.elim
  | goto t => exact hp.elim
  | panic ch => exact hp.elim
  | outgrown => exact hp.elim
 ·rintro e W2 ⟨⟨v, rfl⟩, xs, hS, hi, hl, hk⟩
  have he := run_endLoop (P := P) hl (by rw [hrc]; simp)
  rw [hrc] at he
  exact ⟨none, _, he, hdone _ xs _ (Nat.le_refl _) hS (hI.putObj _ hi (by omega) hl rfl) ((World.putObj_heap_other (by omega)).trans hk)⟩
end
end Go.Proofs.YtamgpfblhlfhaaaGreat
