import Derived.Test.YtppccnjckiedlaaZc3
import Derived.RangeFuncNested
import Derived.RangeFuncBound
import Derived.RangeFuncCalls
import Derived.RangeFuncLeaves
import Derived.OrdersIn
import Derived.OwnWalkIn
import Derived.TacticsInMore
import Derived.LoopNIn
import Derived.LoopIn
import Derived.RangeFuncFrom
import Derived.Sort.CutIn

/- Plain: the positions at which two rasters differ, in order; replacing them. -/
namespace Go.Proofs.Ytppccnjckiedlaa
open Go.RowKit Pl
set_option linter.unusedVariables false
set_option linter.unusedSimpArgs false
def ltP (a b : Int × Int) : Bool := lessB a.1 a.2 b.1 b.2
def posA (e : TA) : Int × Int := (e.x, e.y)
def SrtP (l : List (Int × Int)) : Prop := l.Pairwise fun a b => ltP a b = true
theorem lessB_iff {a b c d : Int} : lessB a b c d = true ↔ (b < d ∨ (b = d ∧ a < c)) := by unfold lessB; exact decide_eq_true_iff
theorem ltP_iff {a b : Int × Int} : ltP a b = true ↔ (a.2 < b.2 ∨ (a.2 = b.2 ∧ a.1 < b.1)) := lessB_iff
theorem ltP_trans {a b c : Int × Int} (h : ltP a b = true) (k : ltP b c = true) : ltP a c = true := by
  rw [ltP_iff] at *
  omega
theorem ltP_irr (a : Int × Int) : ¬ ltP a a = true := by rw [ltP_iff]; omega
theorem ltP_tri {a b : Int × Int} (h : ¬ a = b) (k : ¬ ltP a b = true) : ltP b a = true := by
  rw [ltP_iff] at *
  have : ¬ (a.1 = b.1 ∧ a.2 = b.2) := fun e => h (Prod.ext e.1 e.2)
  omega
theorem eqT_symm {t u : Nat → Px} (h : eqT t u = true) : eqT u t = true := eqT_true fun i hi => (eqT_at h hi).symm
theorem eqT_comm (t u : Nat → Px) : eqT t u = eqT u t := by
  rw [Bool.eq_iff_iff]
  exact ⟨eqT_symm, eqT_symm⟩
theorem eqT_zero {t : Nat → Px} (h : zeroB t = false) : eqT t zT = false := by
  by_cases e : eqT t zT = true
  · exfalso
    have : zeroB t = true := (zeroB_iff t).2 fun i hi => by rw [eqT_at e hi]; rfl
    rw [h] at this
    cases this
  · simpa using e
/-- No tile without a visible pixel. -/
def Nz (ls : List TA) : Prop := ∀ e ∈ ls, zeroB e.t = false
theorem valid_nz {ls : List TA} (h : validL ls = true) : Nz ls := fun e he => ((goodA_iff e).1 (validL_good h e he)).2.1
def Diff (a b : List TA) (p : Int × Int) : Prop := eqT (tileL a p.1 p.2) (tileL b p.1 p.2) = false
theorem Diff.symm {a b : List TA} {p : Int × Int} (h : Diff a b p) : Diff b a p := by unfold Diff at *; rw [eqT_comm]; exact h
theorem diff_in {a b : List TA} {p : Int × Int} (h : Diff a b p) : (∃ e ∈ a, posA e = p) ∨ ∃ e ∈ b, posA e = p := by
  rcases tileL_some a p.1 p.2 with e | ⟨e, he, e1, e2, _⟩
  · rcases tileL_some b p.1 p.2 with f | ⟨f, hf, f1, f2, _⟩
    · unfold Diff at h
      rw [e, f, eqT_refl] at h
      cases h
    · exact .inr ⟨f, hf, Prod.ext f1 f2⟩
  · exact .inl ⟨e, he, Prod.ext e1 e2⟩

/-! ### Changed of package raster: two lists merged -/
def chgP : List TA → List TA → List (Int × Int)
  | [], [] => []
  | [], e :: r => posA e :: chgP [] r
  | d :: q, [] => posA d :: chgP q []
  | d :: q, e :: r => if lessB d.x d.y e.x e.y = true then posA d :: chgP q (e :: r) else if lessB e.x e.y d.x d.y = true then posA e :: chgP (d :: q) r else (if eqT d.t e.t = true then [] else [posA d]) ++ chgP q r
termination_by a b => a.length + b.length
theorem chgP_nil2 : chgP [] [] = [] := by rw [chgP]
theorem chgP_right (e : TA) (r : List TA) : chgP [] (e :: r) = posA e :: chgP [] r := by rw [chgP]
theorem chgP_left (d : TA) (q : List TA) : chgP (d :: q) [] = posA d :: chgP q [] := by rw [chgP]
theorem chgP_both (d : TA) (q : List TA) (e : TA) (r : List TA) : chgP (d :: q) (e :: r) = if lessB d.x d.y e.x e.y = true then posA d :: chgP q (e :: r) else if lessB e.x e.y d.x d.y = true then posA e :: chgP (d :: q) r else (if eqT d.t e.t = true then [] else [posA d]) ++ chgP q r := by rw [chgP]
theorem srt_cons {d : TA} {q : List TA} (h : Srt (d :: q)) : Srt q ∧ ∀ e ∈ q, ltP (posA d) (posA e) = true := by
  obtain ⟨h1, h2⟩ := List.pairwise_cons.1 h
  exact ⟨h2, h1⟩
theorem posA_ne {p : Int × Int} {e : TA} (h : ¬ posA e = p) : eqB e.x e.y p.1 p.2 = false := decide_eq_false fun k => h (Prod.ext k.1 k.2)
theorem tileL_head (d : TA) (q : List TA) : tileL (d :: q) d.x d.y = d.t := by
  show (if _ then _ else _) = _
  rw [if_pos (show eqB d.x d.y d.x d.y = true from decide_eq_true ⟨rfl, rfl⟩)]
theorem tileL_tail (d : TA) (q : List TA) {p : Int × Int} (h : ¬ posA d = p) : tileL (d :: q) p.1 p.2 = tileL q p.1 p.2 := by
  show (if _ then _ else _) = _
  rw [if_neg (by rw [posA_ne h]; decide)]
theorem tileL_lt {p : Int × Int} {q : List TA} (h : ∀ e ∈ q, ltP p (posA e) = true) : tileL q p.1 p.2 = zT :=
  tileL_none fun e he => posA_ne fun k => ltP_irr p (by have := h e he; rw [k] at this; exact this)
theorem chgP_spec : ∀ (a b : List TA), Srt a → Srt b → Nz a → Nz b → SrtP (chgP a b) ∧ ∀ p, p ∈ chgP a b ↔ Diff a b p := by
  intro a b
  induction a, b using chgP.induct with
  | case1 =>
    intro _ _ _ _
    rw [chgP_nil2]
    refine ⟨List.Pairwise.nil, fun p => ⟨fun h => (by cases h), fun h => ?_⟩⟩
    unfold Diff at h
    rw [show tileL ([] : List TA) p.1 p.2 = zT from rfl, eqT_refl] at h
    cases h
  | case2 e r ih =>
    intro ha hb na nb
    obtain ⟨hr, hlt⟩ := srt_cons hb
    obtain ⟨i1, i2⟩ := ih ha hr na (fun x hx => nb x (List.mem_cons_of_mem _ hx))
    rw [chgP_right]
    refine ⟨List.Pairwise.cons (fun p hp => ?_) i1, fun p => ?_⟩
    · rcases diff_in ((i2 p).1 hp) with ⟨_, h, _⟩ | ⟨x, hx, rfl⟩
      · cases h
      · exact hlt x hx
    · by_cases hp : posA e = p
      · subst hp
        refine ⟨fun _ => ?_, fun _ => List.mem_cons_self ..⟩
        unfold Diff
        rw [show tileL ([] : List TA) (posA e).1 (posA e).2 = zT from rfl, show tileL (e :: r) (posA e).1 (posA e).2 = e.t from tileL_head e r, eqT_comm]
        exact eqT_zero (nb e (List.mem_cons_self ..))
      · have : Diff [] (e :: r) p ↔ Diff [] r p := by unfold Diff; rw [tileL_tail e r hp]
        rw [this, ← i2, List.mem_cons]
        exact ⟨fun h => h.resolve_left (fun e => hp e.symm), .inr⟩
  | case3 d q ih =>
    intro ha hb na nb
    obtain ⟨hq, hlt⟩ := srt_cons ha
    obtain ⟨i1, i2⟩ := ih hq hb (fun x hx => na x (List.mem_cons_of_mem _ hx)) nb
    rw [chgP_left]
    refine ⟨List.Pairwise.cons (fun p hp => ?_) i1, fun p => ?_⟩
    · rcases diff_in ((i2 p).1 hp) with ⟨x, hx, rfl⟩ | ⟨_, h, _⟩
      · exact hlt x hx
      · cases h
    · by_cases hp : posA d = p
      · subst hp
        refine ⟨fun _ => ?_, fun _ => List.mem_cons_self ..⟩
        unfold Diff
        rw [show tileL ([] : List TA) (posA d).1 (posA d).2 = zT from rfl, show tileL (d :: q) (posA d).1 (posA d).2 = d.t from tileL_head d q]
        exact eqT_zero (na d (List.mem_cons_self ..))
      · have : Diff (d :: q) [] p ↔ Diff q [] p := by unfold Diff; rw [tileL_tail d q hp]
        rw [this, ← i2, List.mem_cons]
        exact ⟨fun h => h.resolve_left (fun e => hp e.symm), .inr⟩
  | case4 d q e r h ih =>
    intro ha hb na nb
    obtain ⟨hq, hlt⟩ := srt_cons ha
    obtain ⟨hr, hlr⟩ := srt_cons hb
    obtain ⟨i1, i2⟩ := ih hq hb (fun x hx => na x (List.mem_cons_of_mem _ hx)) nb
    have hde : ltP (posA d) (posA e) = true := h
    have hall : ∀ x ∈ e :: r, ltP (posA d) (posA x) = true := fun x hx => by
      rcases List.mem_cons.1 hx with rfl | hx
      · exact hde
      · exact ltP_trans hde (hlr x hx)
    rw [chgP_both, if_pos h]
    refine ⟨List.Pairwise.cons (fun p hp => ?_) i1, fun p => ?_⟩
    · rcases diff_in ((i2 p).1 hp) with ⟨x, hx, rfl⟩ | ⟨x, hx, rfl⟩
      · exact hlt x hx
      · exact hall x hx
    · by_cases hp : posA d = p
      · subst hp
        refine ⟨fun _ => ?_, fun _ => List.mem_cons_self ..⟩
        unfold Diff
        rw [tileL_lt hall, show tileL (d :: q) (posA d).1 (posA d).2 = d.t from tileL_head d q]
        exact eqT_zero (na d (List.mem_cons_self ..))
      · have : Diff (d :: q) (e :: r) p ↔ Diff q (e :: r) p := by unfold Diff; rw [tileL_tail d q hp]
        rw [this, ← i2, List.mem_cons]
        exact ⟨fun h => h.resolve_left (fun e => hp e.symm), .inr⟩
  | case5 d q e r h k ih =>
    intro ha hb na nb
    obtain ⟨hq, hlt⟩ := srt_cons ha
    obtain ⟨hr, hlr⟩ := srt_cons hb
    obtain ⟨i1, i2⟩ := ih ha hr na (fun x hx => nb x (List.mem_cons_of_mem _ hx))
    have hed : ltP (posA e) (posA d) = true := k
    have hall : ∀ x ∈ d :: q, ltP (posA e) (posA x) = true := fun x hx => by
      rcases List.mem_cons.1 hx with rfl | hx
      · exact hed
      · exact ltP_trans hed (hlt x hx)
    rw [chgP_both, if_neg h, if_pos k]
    refine ⟨List.Pairwise.cons (fun p hp => ?_) i1, fun p => ?_⟩
    · rcases diff_in ((i2 p).1 hp) with ⟨x, hx, rfl⟩ | ⟨x, hx, rfl⟩
      · exact hall x hx
      · exact hlr x hx
    · by_cases hp : posA e = p
      · subst hp
        refine ⟨fun _ => ?_, fun _ => List.mem_cons_self ..⟩
        unfold Diff
        rw [tileL_lt hall, show tileL (e :: r) (posA e).1 (posA e).2 = e.t from tileL_head e r, eqT_comm]
        exact eqT_zero (nb e (List.mem_cons_self ..))
      · have : Diff (d :: q) (e :: r) p ↔ Diff (d :: q) r p := by unfold Diff; rw [tileL_tail e r hp]
        rw [this, ← i2, List.mem_cons]
        exact ⟨fun h => h.resolve_left (fun e => hp e.symm), .inr⟩
  | case6 d q e r h k ih =>
    intro ha hb na nb
    obtain ⟨hq, hlt⟩ := srt_cons ha
    obtain ⟨hr, hlr⟩ := srt_cons hb
    obtain ⟨i1, i2⟩ := ih hq hr (fun x hx => na x (List.mem_cons_of_mem _ hx)) (fun x hx => nb x (List.mem_cons_of_mem _ hx))
    have hpe : posA d = posA e := by
      by_cases hh : posA d = posA e
      · exact hh
      · exact absurd (ltP_tri hh h) k
    rw [← hpe] at hlr
    have hall : ∀ p ∈ chgP q r, ltP (posA d) p = true := fun p hp => by
      rcases diff_in ((i2 p).1 hp) with ⟨x, hx, rfl⟩ | ⟨x, hx, rfl⟩
      · exact hlt x hx
      · exact hlr x hx
    have hno : ¬ posA d ∈ chgP q r := fun hm => ltP_irr _ (hall _ hm)
    have hev : Diff (d :: q) (e :: r) (posA d) ↔ ¬ eqT d.t e.t = true := by
      unfold Diff
      have h2 : tileL (e :: r) (posA d).1 (posA d).2 = e.t := by rw [hpe]; exact tileL_head e r
      rw [show tileL (d :: q) (posA d).1 (posA d).2 = d.t from tileL_head d q, h2]
      simp
    have hnt : ∀ p, ¬ posA d = p → (Diff (d :: q) (e :: r) p ↔ Diff q r p) := fun p hp => by
      unfold Diff
      rw [tileL_tail d q hp, tileL_tail e r (by rw [← hpe]; exact hp)]
    rw [chgP_both, if_neg h, if_neg k]
    by_cases ht : eqT d.t e.t = true
    · rw [if_pos ht, List.nil_append]
      refine ⟨i1, fun p => ?_⟩
      by_cases hp : posA d = p
      · subst hp
        exact ⟨fun hm => absurd hm hno, fun hm => absurd ht (hev.1 hm)⟩
      · rw [hnt p hp, i2]
    · rw [if_neg ht]
      refine ⟨List.Pairwise.cons hall i1, fun p => ?_⟩
      show p ∈ posA d :: chgP q r ↔ _
      by_cases hp : posA d = p
      · subst hp
        exact ⟨fun _ => hev.2 ht, fun _ => List.mem_cons_self ..⟩
      · rw [hnt p hp, ← i2, List.mem_cons]
        exact ⟨fun h => h.resolve_left (fun e => hp e.symm), .inr⟩

/-! ### Changed of the reference: what differs of the first, then the second's inserted -/
def insP : List (Int × Int) → Int × Int → List (Int × Int)
  | [], p => [p]
  | q :: r, p => if q = p then q :: r else if ltP p q = true then p :: q :: r else q :: insP r p
def chg1 (a b : List TA) : List (Int × Int) := (a.filter fun e => !eqT e.t (tileL b e.x e.y)).map posA
def chg2 (a : List TA) (o : List (Int × Int)) (b : List TA) : List (Int × Int) := b.foldl (fun o e => if eqT e.t (tileL a e.x e.y) = true then o else insP o (posA e)) o
def chgR (a b : List TA) : List (Int × Int) := chg2 a (chg1 a b) b
theorem eqL_cons (d : TA) (q : List TA) (e : TA) (r : List TA) : eqL (d :: q) (e :: r) = (eqA d e && eqL q r) := by
  rw [Bool.eq_iff_iff, Bool.and_eq_true_iff]
  unfold eqL
  rw [Bool.and_eq_true_iff, Bool.and_eq_true_iff, decide_eq_true_iff, decide_eq_true_iff, decide_eq_true_iff, decide_eq_true_iff]
  simp only [List.length_cons, List.mem_range, Nat.add_right_cancel_iff]
  constructor
  · rintro ⟨h1, h2⟩
    exact ⟨h2 0 (by omega), h1, fun i hi => h2 (i + 1) (by omega)⟩
  · rintro ⟨h1, h2, h3⟩
    refine ⟨h2, fun i hi => ?_⟩
    cases i with
    | zero => exact h1
    | succ i => exact h3 i (by omega)
theorem chgP_eqL : ∀ (a b : List TA), (chgP a b = []) ↔ eqL a b = true := by
  intro a b
  induction a, b using chgP.induct with
  | case1 => rw [chgP_nil2]; exact ⟨fun _ => eqL_refl _, fun _ => rfl⟩
  | case2 e r ih =>
    rw [chgP_right, eqL_len (by simp)]
    exact ⟨fun h => (by cases h), fun h => by cases h⟩
  | case3 d q ih =>
    rw [chgP_left, eqL_len (by simp)]
    exact ⟨fun h => (by cases h), fun h => by cases h⟩
  | case4 d q e r h ih =>
    rw [chgP_both, if_pos h, eqL_cons]
    refine ⟨fun k => (by cases k), fun k => ?_⟩
    have k := (Bool.and_eq_true_iff.1 k).1
    unfold eqA eqB at k
    have k := of_decide_eq_true (Bool.and_eq_true_iff.1 k).1
    have h := lessB_iff.1 h
    omega
  | case5 d q e r h h' ih =>
    rw [chgP_both, if_neg h, if_pos h', eqL_cons]
    refine ⟨fun k => (by cases k), fun k => ?_⟩
    have k := (Bool.and_eq_true_iff.1 k).1
    unfold eqA eqB at k
    have k := of_decide_eq_true (Bool.and_eq_true_iff.1 k).1
    have h := lessB_iff.1 h'
    omega
  | case6 d q e r h k ih =>
    rw [chgP_both, if_neg h, if_neg k, eqL_cons, Bool.and_eq_true_iff, ← ih]
    have hpe : d.x = e.x ∧ d.y = e.y := by
      rw [lessB_iff] at h k
      omega
    have hA : eqA d e = eqT d.t e.t := by
      unfold eqA eqB
      rw [decide_eq_true hpe, Bool.true_and]
    rw [hA]
    by_cases ht : eqT d.t e.t = true
    · rw [if_pos ht, List.nil_append]
      exact ⟨fun h => ⟨ht, h⟩, fun h => h.2⟩
    · rw [if_neg ht]
      exact ⟨fun h => (by cases h), fun h => absurd h.1 ht⟩

/-! ### The changed tiles replaced -/
def mv1 (b : List TA) (s : List TA) (p : Int × Int) : List TA := putR s p.1 p.2 (tileL b p.1 p.2)
def mvL (b : List TA) (s : List TA) (ps : List (Int × Int)) : List TA := ps.foldl (mv1 b) s
theorem madeL_len40 (L : List Int) : (madeL L).length ≤ 40 := by
  have : ∀ k, (madeK L k).length ≤ k := by
    intro k
    induction k with
    | zero => exact Nat.le_refl _
    | succ k ih =>
      show (if _ then _ else _ : List TA).length ≤ _
      split
      · unfold setR putR
        split
        · unfold manyL
          split
          · have h1 := putL_length (fineL (madeK L k)) ((pickI L (3 * k) 48 - 20) / 8) ((pickI L (3 * k + 1) 48 - 20) / 8) (cleanT (setS (madeK L k) (pickI L (3 * k) 48 - 20) (pickI L (3 * k + 1) 48 - 20) (madeP (getI L (3 * k + 2)))))
            have h2 := fineL_le (madeK L k)
            omega
          · simp
        · simp
      · omega
  exact this 40
end Go.Proofs.Ytppccnjckiedlaa
/- Plain: an image of one raster pasted into another. -/
namespace Go.Proofs.Ytppccnjckiedlaa
open Go.RowKit Pl
set_option linter.unusedVariables false
set_option linter.unusedSimpArgs false
theorem near_fits' (c : Rc) : fitsE (nearR c) = 0 := by
  have := nearR_bd c
  unfold fitsE
  rw [if_pos ((validR_iff _).2 ⟨⟨by omega, by omega⟩, by omega, by omega, by omega, by omega⟩), if_neg (by omega)]
theorem getL_okL {ls : List TA} (h : TokL ls) (x y : Int) : (getL ls x y).ok := tileL_tok h _ _ _ (by omega)
theorem getL_cleanL {ls : List TA} (h : validL ls = true) (x y : Int) : cleanP (getL ls x y) = getL ls x y := tileL_cleanL (valid_clean h) _ _ (by omega)
theorem imgL_okL {ls : List TA} (h : TokL ls) (c : Rc) : OkL (imgL c ls) := fun p hp => by
  unfold imgL at hp
  obtain ⟨j, _, rfl⟩ := List.mem_map.1 hp
  exact getL_okL h _ _
theorem pix_img {c : Rc} (hf : Fits c) (ls : List TA) {x y : Int} (h : hasR c x y = true) : pixL c (imgL c ls) x y = getL ls x y := by
  have hh := (hasR_iff _ _ _).1 h
  obtain ⟨k, e1, e2, e3, e4⟩ := px_xy hf (X := (x - c.x0).toNat) (Y := (y - c.y0).toNat) (by omega) (by omega)
  have ek : (idxI c x y).toNat = k := by
    unfold idxI
    have hy : (((y - c.y0).toNat : Nat) : Int) = y - c.y0 := by omega
    have hx : (((x - c.x0).toNat : Nat) : Int) = x - c.x0 := by omega
    rw [hy, hx] at e1
    omega
  unfold pixL
  rw [ek, List.getD_eq_getElem?_getD, imgL_at c ls e2, e3, e4]
  show getL ls _ _ = _
  congr 1 <;> omega
theorem tile_get (ls : List TA) (X Y : Int) {i : Nat} (hi : i < 64) : tileL ls X Y i = getL ls (X * 8 + (i : Int) % 8) (Y * 8 + (i : Int) / 8) := by
  unfold getL
  have e1 : (X * 8 + (i : Int) % 8) / 8 = X := by omega
  have e2 : (Y * 8 + (i : Int) / 8) / 8 = Y := by omega
  have e3 : (8 * ((Y * 8 + (i : Int) / 8) % 8) + (X * 8 + (i : Int) % 8) % 8).toNat = i := by omega
  rw [e1, e2, e3]
theorem eqL_get {a b : List TA} (ha : validL a = true) (hb : validL b = true) (h : ∀ x y, getL a x y = getL b x y) : eqL a b = true := by
  rw [← chgP_eqL]
  obtain ⟨_, k2⟩ := chgP_spec a b (validL_srt ha) (validL_srt hb) (valid_nz ha) (valid_nz hb)
  refine List.eq_nil_iff_forall_not_mem.2 fun p hp => ?_
  have hd := (k2 p).1 hp
  unfold Diff at hd
  have : eqT (tileL a p.1 p.2) (tileL b p.1 p.2) = true := eqT_true fun i hi => by rw [tile_get a _ _ hi, tile_get b _ _ hi, h]
  rw [this] at hd
  cases hd
theorem tlN_near (c : Rc) : tlN (nearR c) ≤ 25 := by
  obtain ⟨h1, h2, h3, h4, h5, h6, h7, h8⟩ := nearR_bd c
  have e := (area_wid (tl_fits (fitsE_zero (near_fits' c)))).1
  unfold tlN
  rw [e]
  have w1 : widN (tlR (nearR c)) ≤ 5 := by unfold widN tlR; simp only; omega
  have w2 : ((tlR (nearR c)).y1 - (tlR (nearR c)).y0).toNat ≤ 5 := by unfold tlR; simp only; omega
  exact Nat.mul_le_mul w1 w2
/-- The near image of a generated raster pasted into another one. -/
theorem copy_R (c : Rc) {a b : List TA} (ha : validL a = true) (hb : validL b = true) (hn : b.length ≤ 40) : pstR (nearR c) (imgL (nearR c) a) b = pstL (nearR c) (imgL (nearR c) a) b (posL (nearR c)) ∧ pstE (nearR c) (imgL (nearR c) a) b = 0 := by
  have hE := near_fits' c
  have hF := fitsE_zero hE
  have hV := hF.valid
  have hA : ((imgL (nearR c) a).length : Int) = areaR (nearR c) := by rw [imgL_len, area_N hF]
  have hl := pstL_len (nearR c) (imgL (nearR c) a) (posL (nearR c)) b
  have ht := tlN_near c
  rw [posL_len] at hl
  have e1 : pstR (nearR c) (imgL (nearR c) a) b = if fitsE (nearR c) = 0 then manyL (pstL (nearR c) (imgL (nearR c) a) (fineL b) (posL (nearR c))) else [] := if_pos ⟨hV, hA⟩
  have e2 : pstE (nearR c) (imgL (nearR c) a) b = if fitsE (nearR c) = 0 then manyE (pstL (nearR c) (imgL (nearR c) a) (fineL b) (posL (nearR c))) else fitsE (nearR c) := if_pos ⟨hV, hA⟩
  rw [e1, e2, if_pos hE, if_pos hE, fineL_of hb]
  unfold manyL manyE
  rw [if_pos (by omega), if_pos (by omega)]
  exact ⟨rfl, rfl⟩
theorem copy_get (c : Rc) {a b : List TA} (ha : validL a = true) (hb : validL b = true) (hn : b.length ≤ 40) (x y : Int) : getL (pstR (nearR c) (imgL (nearR c) a) b) x y = if hasR (nearR c) x y = true then getL a x y else getL b x y := by
  have hF := fitsE_zero (near_fits' c)
  rw [(copy_R c ha hb hn).1, getL_pst hF _ (validL_srt hb) (valid_clean hb)]
  split
  · rename_i h
    rw [pix_img hF a h, getL_cleanL ha]
  · rfl
theorem copy_img (c : Rc) {a b : List TA} (ha : validL a = true) (hb : validL b = true) (hn : b.length ≤ 40) : imgL (nearR c) (pstR (nearR c) (imgL (nearR c) a) b) = imgL (nearR c) a := by
  have hF := fitsE_zero (near_fits' c)
  unfold imgL
  refine List.map_congr_left fun j hj => ?_
  have h := px_in hF (List.mem_range.1 hj)
  have e := copy_get c ha hb hn (pxX (nearR c) j) (pxY (nearR c) j)
  rw [if_pos h] at e
  exact e
theorem copy_same (c : Rc) {a : List TA} (ha : validL a = true) (hn : a.length ≤ 40) : eqL (pstR (nearR c) (imgL (nearR c) a) a) a = true :=
  eqL_get (pstR_valid _ _ _) ha fun x y => by rw [copy_get c ha ha hn]; split <;> rfl
end Go.Proofs.Ytppccnjckiedlaa
/- Contract of the reference's Same at equal images. -/
namespace Go.Proofs.Ytppccnjckiedlaa
open Go.RowKit Go.Shelf Pl
set_option linter.unusedVariables false
set_option linter.unusedSimpArgs false
set_option maxRecDepth 20000
theorem neqs_px2 (p : Px) (w : World) : (binOp .neq 37 (Px.v p) (Px.v p)).run Try.prog w = .ok (.bool false) w := by rw [neq_px, decide_eq_true rfl]; rfl
end Go.Proofs.Ytppccnjckiedlaa
/- Contract of the reference's Image. -/
namespace Go.Proofs.Ytppccnjckiedlaa
open Go.RowKit Go.Shelf Pl
set_option linter.unusedVariables false
set_option linter.unusedSimpArgs false
set_option maxRecDepth 20000
def shC (c : Rc) (u : Value) (n : Int) : Array Value := #[.int .i64 c.x0, .int .i64 c.y0, .int .i64 c.x1, .int .i64 c.y1, u, .int .i64 n]
section
variable {o : Oper} {a : Act} {C : World → Prop} {K : Act → Prop}
end
theorem px_row {c : Rc} (hf : Fits c) {k j : Nat} (hj : j < widN c) : pxX c (widN c * k + j) = c.x0 + (j : Int) ∧ pxY c (widN c * k + j) = c.y0 + (k : Int) := by
  have hw := (area_wid hf).2
  unfold pxX pxY
  rw [Nat.mul_add_mod, Nat.mod_eq_of_lt hj, Nat.mul_add_div hw, Nat.div_eq_of_lt hj, Nat.add_zero]
  exact ⟨rfl, rfl⟩
theorem OwnE.chgB {α : Type} {k : Nat} {T S : TypeId} {E : Elt α k T S} {B b : Nat} {v : Value} {ls : List α} {w w' : World} (h : OwnE E B v ls w) (hc : Chg b w w') (hne : ∀ k, v.ownBlock = some k → k ≠ b) : OwnE E B v ls w' := by
  refine World.ownsRow.kept (row := some b) h ⟨hc.os, hc.tape, hc.output, hc.size, fun k hk hn => hc.block k hk (fun e => hn (by rw [e]))⟩ ?_
  cases hv : v.ownBlock with
  | none => exact .inl rfl
  | some k =>
    right
    intro e
    injection e with e
    exact hne k hv e
end Go.Proofs.Ytppccnjckiedlaa
/- The positions of a rectangle's tiles: the reference's Tiles. -/
namespace Go.Proofs.Ytppccnjckiedlaa
open Go.RowKit Go.Shelf Pl
set_option linter.unusedVariables false
set_option linter.unusedSimpArgs false
set_option maxRecDepth 20000
def psE : Elt (Int × Int) 2 24 88 where
  enc := fun p => #[.int .i64 p.1, .int .i64 p.2]
  bytes := 16
  zero := (0, 0)
  size := fun _ => rfl
  one := fun x u hu => by
    have : u ∈ [Value.int .i64 x.1, .int .i64 x.2] := hu
    simp at this
    rcases this with rfl | rfl <;> rfl
  pos := by omega
  small := by omega
  und := Try.underlying88
  info := by kernel_rfl
  zer := by kernel_rfl
theorem tl_row {c : Rc} (hf : Fits c) {k j : Nat} (hj : j < widN (tlR c)) : posP c (widN (tlR c) * k + j) = (c.x0 / 8 + (j : Int), c.y0 / 8 + (k : Int)) := by
  obtain ⟨h1, h2⟩ := px_row (tl_fits hf) (k := k) hj
  unfold posP
  rw [h1, h2]
  rfl
end Go.Proofs.Ytppccnjckiedlaa
/- Regions within a round of a range over a function: walked as anywhere. What a loop's body keeps. -/
namespace Go.Proofs.Ytppccnjckiedlaa
open Go.RowKit
set_option linter.unusedVariables false
set_option linter.unusedSimpArgs false

/-- The walk goes on, and in no other way. -/
def Only (K : Act → World → Prop) : Exit → Act → World → Prop
  | .normal, a, w => K a w
  | _, _, _ => False
theorem Only.out (K : Act → World → Prop) : ¬ LetsOut (Only K) := fun ⟨_, _, h⟩ => h
theorem Only.at {K : Act → World → Prop} {a : Act} {w : World} (h : K a w) : Only K .normal a w := h
def noDefer (l : List Oper) : Bool := l.all fun o => match o.op with
  | .defer _ => false
  | _ => true
theorem noDefer_at {l : List Oper} (h : noDefer l = true) {o : Oper} (ho : o ∈ l) : ∀ c, o.op ≠ .defer c := fun c e => by
  have := List.all_eq_true.1 h o ho
  rw [e] at this
  cases this
section
variable {P : Program} {r n : Nat}
theorem opIn_of {o : Oper} {a : Act} {w : World} {K K' : Act → World → Prop} {M : Act → World → Prop} {Q : Exit → Act → World → Prop} (hd : ∀ c, o.op ≠ .defer c) (hK : ∀ a w, K' a w → K a w) (h : o.wp P a w K' (Only M)) : o.wpIn (Fence.wide.inRound r) n P a w K Q := by
  refine ⟨fun _ _ => trivial, ?_⟩
  rw [Oper.semAt_eq _ _ _ hd]
  unfold Oper.wp at h
  generalize (execOp a.eval o).run P w = z at *
  cases z with
  | ok x w' =>
    cases x with
    | value v => exact hK _ _ h
    | skip => exact hK _ _ h
    | defer d => exact hK _ _ h
    | enter f args =>
      refine ⟨fun h => (by cases h), CallsIn.inRound r (callsIn_wide.2 (Calls.mono h fun e w'' he => ?_))⟩
      cases e with
      | returned v => exact hK _ _ he
      | panicked c => exact he.elim
      | outgrown => exact absurd he (Only.out M)
    | row s args =>
      refine ⟨fun h => (by cases h), fun c cs _ => ?_⟩
      obtain ⟨v, w'', h1, h2⟩ := h c cs
      exact ⟨v, w'', hK _ _ h1, stepsIn_wide.2 h2⟩
    | _ => exact absurd h (by simp [Oper.upon])
  | halt x w' =>
    cases x with
    | panic v => exact absurd h (by simp [Oper.upon, Only])
    | _ => exact absurd h (by simp [Oper.upon])
theorem wpListIn_of {ops : Array Oper} {K : Act → World → Prop} {Q : Exit → Act → World → Prop} (hK : ∀ a w, K a w → Q .normal a w) : ∀ (l : List Oper) (a : Act) (w : World), (∀ o ∈ l, ∀ c, o.op ≠ .defer c) → wpList P ops (Only K) l a w → wpListIn (Fence.wide.inRound r) n P ops Q l a w
  | [], a, w, _, h => hK _ _ h
  | o :: rest, a, w, hd, h => by
    unfold wpList at h
    unfold wpListIn
    have ih := wpListIn_of (ops := ops) hK rest
    by_cases hw : Region.wanted o (yielded ops a.tmps) = true
    · rw [if_pos hw] at h ⊢
      rcases h with h | h
      · exact opIn_of (hd o (List.mem_cons_self ..)) (fun a w hh => ih a w (fun o ho => hd o (List.mem_cons_of_mem _ ho)) hh) h
      · exact absurd h.2 (Only.out K)
    · rw [if_neg hw] at h ⊢
      exact ⟨fun _ _ => trivial, ih _ _ (fun o ho => hd o (List.mem_cons_of_mem _ ho)) h⟩
/-- A region within a round. -/
theorem round_lit {id : Nat} {l : List Oper} {Q : Exit → Act → World → Prop} {a : Act} {w : World} (hd : noDefer l = true) (h : wpList P l.toArray (Only fun a w => Q .normal a w) l a w) : (Code.region id l.toArray false).wpIn (Fence.wide.inRound r) n P Q a w :=
  wpIn_region_lit (wpListIn_of (fun _ _ h => h) l a w (fun o ho => noDefer_at hd ho) h)
end

/-! ### What a body keeps that turns one block b of cells -/
structure KpB (b : Nat) (W W' : World) : Prop where
  size : W.heap.size ≤ W'.heap.size
  same : ∀ (k : Nat) (o : Obj), k ≠ b → W.heap[k]? = some o → o.isCells = true → W'.heap[k]? = some o
theorem KpB.trans {b : Nat} {X Y Z : World} (h : KpB b X Y) (k : KpB b Y Z) : KpB b X Z := ⟨Nat.le_trans h.size k.size, fun i o hi ho hc => k.same i o hi (h.same i o hi ho hc) hc⟩
theorem KpB.refl (b : Nat) (W : World) : KpB b W W := ⟨Nat.le_refl _, fun _ _ _ h _ => h⟩
theorem KpB.putObj (b : Nat) {W : World} {l : Nat} {o : Obj} (o' : Obj) (hl : W.heap[l]? = some o) (ho : o.isCells = false) : KpB b W (W.putObj l o') :=
  ⟨by simp [World.putObj], fun k x hk hx hc => by
    have : k ≠ l := fun e => by rw [e, hl] at hx; cases hx; rw [ho] at hc; cases hc
    exact (World.putObj_heap_other (by omega)).trans hx⟩
theorem KpB.chg {b : Nat} {W W' : World} (h : Chg b W W') : KpB b W W' :=
  ⟨h.size, fun k o hk ho _ => (h.block k (Array.getElem?_eq_some_iff.1 ho).1 hk).trans ho⟩
theorem KpB.atB {b k : Nat} {t : TypeId} {cs : Array Value} {W W' : World} (h : KpB b W W') (hk : k ≠ b) (ha : AtB t W k cs) : AtB t W' k cs := h.same k _ hk ha rfl
theorem KeepsFrom.chg {B b : Nat} {W W' : World} (h : Chg b W W') (hb : b < B) : KeepsFrom B W W' :=
  ⟨h.size, fun k o hB hk _ => (h.block k (Array.getElem?_eq_some_iff.1 hk).1 (by omega)).trans hk⟩
theorem grown_of_below {W W' : World} (h : Below W.heap.size W W') : W.grownBy W' none :=
  ⟨h.os, h.tape, h.output, h.size, fun k hk _ => h.block k hk⟩
theorem AbidesFrom.below {β : Type} {B : Nat} {J : β → World → Prop} (h : AbidesFrom B J) {s : β} {W W' : World} (hs : J s W) (hb : Below W.heap.size W W') : J s W' :=
  h s W W' none hs (grown_of_below hb) (fun r e => by cases e)

/-! ### Facts of cells abide the turn of what is no cells -/
theorem AtB.own {t : TypeId} {A B : World} {b : Nat} {cs : Array Value} {row : Option Nat} (h : AtB t A b cs) (hg : A.grownBy B row) (hr : ∀ r, row = some r → ∃ o : Obj, A.heap[r]? = some o ∧ o.isCells = false) : AtB t B b cs :=
  (hg.block b h.lt (fun e => by
    obtain ⟨o, ho, hc⟩ := hr b e.symm
    rw [show A.heap[b]? = _ from h] at ho
    cases ho
    cases hc)).trans h
theorem cell_not {w : World} {g o : Nat} {v : Value} (h : w.cell? ⟨g, o, none⟩ = some v) : ∀ x : Obj, w.heap[g]? = some x → x.isCells = true := fun x hx => by
  unfold World.cell? at h
  simp only [hx] at h
  cases x <;> first | rfl | (simp at h)
theorem below_own {n : Nat} {w A B : World} {row : Option Nat} (h : Below n w A) (hn : n ≤ A.heap.size) (hg : A.grownBy B row) (hr : ∀ r, row = some r → n ≤ r) : Below n w B :=
  ⟨hg.os.trans h.os, hg.tape.trans h.tape, hg.output.trans h.output, Nat.le_trans h.size hg.size, fun k hk => (hg.block k (by omega) (fun e => by have := hr k e.symm; omega)).trans (h.block k hk)⟩
end Go.Proofs.Ytppccnjckiedlaa
/- Paste of package raster: what it does to one pixel; the iterator over the tiles of a rectangle. -/
namespace Go.Proofs.Ytppccnjckiedlaa
open Go.RowKit Go.Shelf Pl
set_option linter.unusedVariables false
set_option linter.unusedSimpArgs false
set_option maxRecDepth 20000
theorem P_EmptyB (r : Rc) (b : Bool) (w : World) (e : emptyR r = b) : Calls Try.prog 105 #[.agg (rcA r)] w fun e w' => e = .returned (.bool b) ∧ Below w.heap.size w w' := by
  subst e
  exact P_Empty r w
theorem P_HasO (r : Rc) (x y : Int) (b : Bool) (w : World) (e : hasR r x y = b) : Calls Try.prog 39 #[.agg (rcA r), .agg #[.int .i64 x, .int .i64 y]] w fun e w' => e = .returned (.bool b) ∧ Below w.heap.size w w' := by
  subst e
  exact P_Has r x y w
theorem P_AtO (x y : Int) (w : World) (hx : (Lit.int .i64 x).wf = true) (hy : (Lit.int .i64 y).wf = true) : Calls Try.prog 63 #[.agg #[.int .i64 x, .int .i64 y]] w fun e w' => e = .returned (.agg #[.int .i64 (x / 8), .int .i64 (y / 8)]) ∧ Below w.heap.size w w' := P_At x y w hx hy
theorem P_CleanB (p : Px) (w : World) (hp : p.ok) : Calls Try.prog 95 #[Px.v p] w fun e w' => e = .returned (Px.v (cleanP p)) ∧ Below w.heap.size w w' := P_Clean p w hp
set_option maxHeartbeats 2000000 in
theorem P_Paste1 (c : Rc) (hf : Fits c) (L : List Px) (hL : L.length = areaN c) (okL : OkL L) (x y : Int) (p : Px) (hp : p.ok) (bc bm g o cp : Nat) (w : World) (r0 : AtB 64 w bc (rcA c)) (m0 : AtB 68 w bm (imgC c (.slice (some ⟨g, o, none⟩) (areaN c) cp))) (ce : RCellsE pxE g o L w) :
    Calls Try.prog 94 #[.int .i64 x, .int .i64 y, Px.v p, .pointer (some ⟨bc, 0, none⟩), .pointer (some ⟨bm, 0, none⟩)] w fun e w' => e = .returned (Px.v (pstP c L x y p)) ∧ Below w.heap.size w w' := by
  have B := Below.refl w.heap.size w
  have hb1 := r0.lt
  have hb2 := m0.lt
  have hb3 := ce.lt
  have OKL := Lib.hid okL
  cases hh : hasR c x y with
  | true =>
    have e1 := Lib.hid (show pstP c L x y p = cleanP (pixL c L x y) from by unfold pstP; rw [hh]; rfl)
    obtain ⟨m1, m2, m3, m4⟩ := idxI_bd hf hh
    have hix : (idxI c x y).toNat < L.length := by rw [hL]; exact m4
    have hpx : L[(idxI c x y).toNat]? = some (pixL c L x y) := by
      unfold pixL
      rw [List.getD_eq_getElem?_getD, List.getElem?_eq_getElem hix]
      rfl
    have hok := Lib.hid (pixL_ok okL (c := c) x y)
    generalize pixL c L x y = pp at *
    have hh2 := of_decide_eq_true hh
    obtain ⟨g1, g2, g3, g4⟩ := hh2
    obtain ⟨a1, a2, a3, a4, a5, a6, a7, a8⟩ := hf
    have hidx : (y - c.y0) * (c.x1 - c.x0) + x - c.x0 = idxI c x y := rfl
    have m5 : idxI c x y < (areaN c : Int) := by omega
    have m6 : (areaN c : Int) ≤ 65536 := by
      unfold areaN
      have := mul_bd (a := c.x1 - c.x0) (b := c.y1 - c.y0) (m := 256) (k := 256) (by omega) (by omega) (by omega) (by omega)
      omega
    have HH := Lib.hid hh
    clear okL hL hh
    go_enter Try.func94, Try.ntmps94
    go_upto_region 0 with fail
    refine wp_region_lit ?_
    try simp only [List.getElem_toArray, List.getElem_cons_zero, List.getElem_cons_succ]
    (refine wpList_boxPx' rfl _ rfl _ rfl ?_; intro b_q7 wn hle hge ht hbn hzn; have hsz := B.size; replace B := B.trans (hbn.mono (by omega)); have hln := Nat.lt_of_lt_of_eq (Nat.lt_succ_self _) hzn.symm; clear hzn; (try first | (have hlt := r0.lt; replace r0 := r0.of_eq (hbn.block _ (by omega))) | replace r0 := r0.below (hbn.mono hle)); (try first | (have hlt := m0.lt; replace m0 := m0.of_eq (hbn.block _ (by omega))) | replace m0 := m0.below (hbn.mono hle)); (try first | (have hlt := ce.lt; replace ce := ce.of_eq (hbn.block _ (by omega))) | replace ce := ce.below (hbn.mono hle)); have q7 := ht; clear ht; simp only [Act.put, putS])
    (refine wpList_allocPx' rfl rfl ?_; intro b_q8 wn hle hge ht hbn hzn; have hsz := B.size; replace B := B.trans (hbn.mono (by omega)); have hln := Nat.lt_of_lt_of_eq (Nat.lt_succ_self _) hzn.symm; clear hzn; (try first | (have hlt := r0.lt; replace r0 := r0.of_eq (hbn.block _ (by omega))) | replace r0 := r0.below (hbn.mono hle)); (try first | (have hlt := m0.lt; replace m0 := m0.of_eq (hbn.block _ (by omega))) | replace m0 := m0.below (hbn.mono hle)); (try first | (have hlt := ce.lt; replace ce := ce.of_eq (hbn.block _ (by omega))) | replace ce := ce.below (hbn.mono hle)); (try first | (have hlt := q7.lt; replace q7 := q7.of_eq (hbn.block _ (by omega))) | replace q7 := q7.below (hbn.mono hle)); have q8 := ht; clear ht; simp only [Act.put, putS])
    refine wpList_nil ?_
    go_upto_region 1 with fail
    refine wp_region_lit ?_
    try simp only [List.getElem_toArray, List.getElem_cons_zero, List.getElem_cons_succ]
    refine wpList_chunk 4 (by kernel_rfl) ?_
    simp only [takS, Nat.reduceAdd]
    repeat (first | go_big_quiet_skip | (go_big_quiet_want; first | (refine quiet_loadAny (t := 64) rfl _ _ _ rfl (fun w hw => run_load_B (ov_B r0 w hw) Try.isAgg64 (by kernel_rfl)) (by rfl) ?_; simp only [Act.put, putS]; go_big_quiet_on) | (go_big_quiet_op; go_big_quiet_on)))
    refine wpQuiet_nil ?_
    refine wpList_callF (by first | rfl | simp [Region.wanted, yielded]) rfl (enters_of Try.func39 (by kernel_rfl) rfl) (by simp only [List.map_toArray, List.map_cons, List.map_nil, Act.eval, Array.getD_eq_getD_getElem?, List.getElem?_toArray, List.getElem?_cons_succ, List.getElem?_cons_zero, Option.getD_some]; rfl) ?_
    refine (P_HasO c x y true _ HH.out).mono ?_
    rintro e wn ⟨rfl, hbn⟩
    have hsz := B.size
    have hzn := hbn.size
    replace B := B.trans (hbn.mono B.size)
    (try first | replace r0 := r0.of_eq (hbn.block _ r0.lt) | replace r0 := r0.below hbn)
    (try first | replace m0 := m0.of_eq (hbn.block _ m0.lt) | replace m0 := m0.below hbn)
    (try first | replace ce := ce.of_eq (hbn.block _ ce.lt) | replace ce := ce.below hbn)
    (try first | replace q7 := q7.of_eq (hbn.block _ q7.lt) | replace q7 := q7.below hbn)
    (try first | replace q8 := q8.of_eq (hbn.block _ q8.lt) | replace q8 := q8.below hbn)
    refine ⟨_, rfl, ?_⟩
    simp only [Act.put, putS]
    refine wpList_nil ?_
    go_upto_region 2 with fail
    refine wp_region_lit ?_
    try simp only [List.getElem_toArray, List.getElem_cons_zero, List.getElem_cons_succ]
    refine wpList_chunk 19 (by kernel_rfl) ?_
    simp only [takS, Nat.reduceAdd]
    repeat (first | go_big_quiet_skip | (go_big_quiet_want; first | (refine quiet_loadAny (t := 66) rfl _ _ _ rfl (fun w hw => run_load_slp (imgC_u (ov_B m0 w hw))) (by first | rfl | omega) ?_; simp only [Act.put, putS]; go_big_quiet_on) | (refine quiet_loadAny (t := 37) rfl _ _ _ rfl (fun w hw => rce_px (ov_rce ce w hw) hpx) (by first | rfl | omega) ?_; simp only [Act.put, putS]; go_big_quiet_on) | (refine quiet_loadPx rfl _ rfl (ov_px q7) ?_; simp only [Act.put, putS]; go_big_quiet_on) | (refine quiet_loadAny (t := 3) rfl _ _ _ rfl (fun w hw => run_load_int ((ov_B r0 w hw).cellL 0 rfl)) (by rfl) ?_; simp only [Act.put, putS]; go_big_quiet_on) | (refine quiet_loadAny (t := 3) rfl _ _ _ rfl (fun w hw => run_load_int ((ov_B r0 w hw).cellL 1 rfl)) (by rfl) ?_; simp only [Act.put, putS]; go_big_quiet_on) | (refine quiet_loadAny (t := 3) rfl _ _ _ rfl (fun w hw => run_load_int ((ov_B r0 w hw).cellL 2 rfl)) (by rfl) ?_; simp only [Act.put, putS]; go_big_quiet_on) | (go_big_quiet_op; go_big_quiet_on)))
    refine wpQuiet_nil ?_
    refine wpList_callF (by first | rfl | simp [Region.wanted, yielded]) rfl (enters_of Try.func95 (by kernel_rfl) rfl) (by simp only [List.map_toArray, List.map_cons, List.map_nil, Act.eval, Array.getD_eq_getD_getElem?, List.getElem?_toArray, List.getElem?_cons_succ, List.getElem?_cons_zero, Option.getD_some]; rfl) ?_
    refine (P_CleanB pp _ hok.out).mono ?_
    rintro e wn ⟨rfl, hbn⟩
    have hsz := B.size
    have hzn := hbn.size
    replace B := B.trans (hbn.mono B.size)
    (try first | replace r0 := r0.of_eq (hbn.block _ r0.lt) | replace r0 := r0.below hbn)
    (try first | replace m0 := m0.of_eq (hbn.block _ m0.lt) | replace m0 := m0.below hbn)
    (try first | replace ce := ce.of_eq (hbn.block _ ce.lt) | replace ce := ce.below hbn)
    (try first | replace q7 := q7.of_eq (hbn.block _ q7.lt) | replace q7 := q7.below hbn)
    (try first | replace q8 := q8.of_eq (hbn.block _ q8.lt) | replace q8 := q8.below hbn)
    refine ⟨_, rfl, ?_⟩
    simp only [Act.put, putS]
    (refine wpList_storePx rfl _ _ rfl _ rfl (_) rfl q8 ?_; clear q8; intro wn ht hcn hzn; have hsz := B.size; replace hzn := Nat.le_of_eq hzn.symm; replace B := Chg.below B hcn (by omega) B.size; (try replace r0 := r0.of_eq (hcn.block _ r0.lt (by omega))); (try replace m0 := m0.of_eq (hcn.block _ m0.lt (by omega))); (try replace ce := ce.of_eq (hcn.block _ ce.lt (by omega))); (try replace q7 := q7.of_eq (hcn.block _ q7.lt (by omega))); have q8 := ht; clear ht; simp only [Act.put, putS])
    refine wpList_nil ?_
    go_wp2
    refine bodyPost_ret (results_px rfl _ _ (b_q8) rfl q8) rfl ?_
    exact ⟨by rw [e1.out], B⟩
  | false =>
    have e1 := Lib.hid (show pstP c L x y p = p from by unfold pstP; rw [hh]; rfl)
    have HH := Lib.hid hh
    clear okL hL hh
    go_enter Try.func94, Try.ntmps94
    go_upto_region 0 with fail
    refine wp_region_lit ?_
    try simp only [List.getElem_toArray, List.getElem_cons_zero, List.getElem_cons_succ]
    (refine wpList_boxPx' rfl _ rfl _ rfl ?_; intro b_q7 wn hle hge ht hbn hzn; have hsz := B.size; replace B := B.trans (hbn.mono (by omega)); have hln := Nat.lt_of_lt_of_eq (Nat.lt_succ_self _) hzn.symm; clear hzn; (try first | (have hlt := r0.lt; replace r0 := r0.of_eq (hbn.block _ (by omega))) | replace r0 := r0.below (hbn.mono hle)); (try first | (have hlt := m0.lt; replace m0 := m0.of_eq (hbn.block _ (by omega))) | replace m0 := m0.below (hbn.mono hle)); (try first | (have hlt := ce.lt; replace ce := ce.of_eq (hbn.block _ (by omega))) | replace ce := ce.below (hbn.mono hle)); (try first | (have hlt := q7.lt; replace q7 := q7.of_eq (hbn.block _ (by omega))) | replace q7 := q7.below (hbn.mono hle)); (try first | (have hlt := q8.lt; replace q8 := q8.of_eq (hbn.block _ (by omega))) | replace q8 := q8.below (hbn.mono hle)); have q7 := ht; clear ht; simp only [Act.put, putS])
    (refine wpList_allocPx' rfl rfl ?_; intro b_q8 wn hle hge ht hbn hzn; have hsz := B.size; replace B := B.trans (hbn.mono (by omega)); have hln := Nat.lt_of_lt_of_eq (Nat.lt_succ_self _) hzn.symm; clear hzn; (try first | (have hlt := r0.lt; replace r0 := r0.of_eq (hbn.block _ (by omega))) | replace r0 := r0.below (hbn.mono hle)); (try first | (have hlt := m0.lt; replace m0 := m0.of_eq (hbn.block _ (by omega))) | replace m0 := m0.below (hbn.mono hle)); (try first | (have hlt := ce.lt; replace ce := ce.of_eq (hbn.block _ (by omega))) | replace ce := ce.below (hbn.mono hle)); (try first | (have hlt := q7.lt; replace q7 := q7.of_eq (hbn.block _ (by omega))) | replace q7 := q7.below (hbn.mono hle)); (try first | (have hlt := q8.lt; replace q8 := q8.of_eq (hbn.block _ (by omega))) | replace q8 := q8.below (hbn.mono hle)); have q8 := ht; clear ht; simp only [Act.put, putS])
    refine wpList_nil ?_
    go_upto_region 1 with fail
    refine wp_region_lit ?_
    try simp only [List.getElem_toArray, List.getElem_cons_zero, List.getElem_cons_succ]
    refine wpList_chunk 4 (by kernel_rfl) ?_
    simp only [takS, Nat.reduceAdd]
    repeat (first | go_big_quiet_skip | (go_big_quiet_want; first | (refine quiet_loadAny (t := 64) rfl _ _ _ rfl (fun w hw => run_load_B (ov_B r0 w hw) Try.isAgg64 (by kernel_rfl)) (by rfl) ?_; simp only [Act.put, putS]; go_big_quiet_on) | (go_big_quiet_op; go_big_quiet_on)))
    refine wpQuiet_nil ?_
    refine wpList_callF (by first | rfl | simp [Region.wanted, yielded]) rfl (enters_of Try.func39 (by kernel_rfl) rfl) (by simp only [List.map_toArray, List.map_cons, List.map_nil, Act.eval, Array.getD_eq_getD_getElem?, List.getElem?_toArray, List.getElem?_cons_succ, List.getElem?_cons_zero, Option.getD_some]; rfl) ?_
    refine (P_HasO c x y false _ HH.out).mono ?_
    rintro e wn ⟨rfl, hbn⟩
    have hsz := B.size
    have hzn := hbn.size
    replace B := B.trans (hbn.mono B.size)
    (try first | replace r0 := r0.of_eq (hbn.block _ r0.lt) | replace r0 := r0.below hbn)
    (try first | replace m0 := m0.of_eq (hbn.block _ m0.lt) | replace m0 := m0.below hbn)
    (try first | replace ce := ce.of_eq (hbn.block _ ce.lt) | replace ce := ce.below hbn)
    (try first | replace q7 := q7.of_eq (hbn.block _ q7.lt) | replace q7 := q7.below hbn)
    (try first | replace q8 := q8.of_eq (hbn.block _ q8.lt) | replace q8 := q8.below hbn)
    refine ⟨_, rfl, ?_⟩
    simp only [Act.put, putS]
    refine wpList_nil ?_
    go_upto_region 3 with fail
    refine wp_region_lit ?_
    try simp only [List.getElem_toArray, List.getElem_cons_zero, List.getElem_cons_succ]
    refine wpList_chunk 1 (by kernel_rfl) ?_
    simp only [takS, Nat.reduceAdd]
    repeat (first | go_big_quiet_skip | (go_big_quiet_want; first | (refine quiet_loadAny (t := 37) rfl _ _ _ rfl (fun w hw => rce_px (ov_rce ce w hw) hpx) (by first | rfl | omega) ?_; simp only [Act.put, putS]; go_big_quiet_on) | (refine quiet_loadPx rfl _ rfl (ov_px q7) ?_; simp only [Act.put, putS]; go_big_quiet_on) | (go_big_quiet_op; go_big_quiet_on)))
    refine wpQuiet_nil ?_
    (refine wpList_storePx rfl _ _ rfl _ rfl (_) rfl q8 ?_; clear q8; intro wn ht hcn hzn; have hsz := B.size; replace hzn := Nat.le_of_eq hzn.symm; replace B := Chg.below B hcn (by omega) B.size; (try replace r0 := r0.of_eq (hcn.block _ r0.lt (by omega))); (try replace m0 := m0.of_eq (hcn.block _ m0.lt (by omega))); (try replace ce := ce.of_eq (hcn.block _ ce.lt (by omega))); (try replace q7 := q7.of_eq (hcn.block _ q7.lt (by omega))); have q8 := ht; clear ht; simp only [Act.put, putS])
    refine wpList_nil ?_
    go_wp2
    refine bodyPost_ret (results_px rfl _ _ (b_q8) rfl q8) rfl ?_
    exact ⟨by rw [e1.out], B⟩
theorem P_Tiles (c : Rc) (w : World) : Calls Try.prog 92 #[.agg (rcA c)] w fun e w' => ∃ b, e = .returned (.func (.func 108) #[] #[.pointer (some ⟨b, 0, none⟩)]) ∧ w.heap.size ≤ b ∧ AtB 64 w' b (rcA c) ∧ Below w.heap.size w w' := by
  have B := Below.refl w.heap.size w
  go_enter Try.func92, Try.ntmps92
  go_upto_region 0 with fail
  refine wp_region_lit ?_
  try simp only [List.getElem_toArray, List.getElem_cons_zero, List.getElem_cons_succ]
  (refine wpList_boxB (t := 64) rfl _ rfl _ rfl ?_; intro b_r1 wn hle hge ht hbn hzn; have hsz := B.size; replace B := B.trans (hbn.mono (by omega)); have hln := Nat.lt_of_lt_of_eq (Nat.lt_succ_self _) hzn.symm; clear hzn; have r1 := ht; clear ht; simp only [Act.put, putS])
  refine wpList_chunk 1 (by kernel_rfl) ?_
  simp only [takS, Nat.reduceAdd]
  repeat (first | go_big_quiet_skip | (go_big_quiet_want; first | (go_big_quiet_op; go_big_quiet_on)))
  refine wpQuiet_nil ?_
  refine wpList_nil ?_
  go_wp2
  go_ret
  exact ⟨_, rfl, by omega, r1, B⟩
end Go.Proofs.Ytppccnjckiedlaa
/- Image of both packages, whether the rectangle fits or not. -/
namespace Go.Proofs.Ytppccnjckiedlaa
open Go.RowKit Go.Shelf Pl
set_option linter.unusedVariables false
set_option linter.unusedSimpArgs false
set_option maxRecDepth 20000
def imR (c : Rc) : Rc := if fitsE c = 0 then c else Rc.zero
def imLs (c : Rc) (ks : List TA) : List Px := if fitsE c = 0 then imgL c ks else []
end Go.Proofs.Ytppccnjckiedlaa
/- Contract of Paste of package raster. -/
namespace Go.Proofs.Ytppccnjckiedlaa
open Go.RowKit Go.Shelf Pl
attribute [local go_sem] Oper.semAt_some
set_option linter.unusedVariables false
set_option linter.unusedSimpArgs false
set_option maxRecDepth 20000
theorem run_load_imR {w : World} {b : Nat} {c : Rc} {u : Value} (h : AtB 68 w b (imgC c u)) : (Instr.loadAt 64 (.pointer (some ⟨b, 0, none⟩))).run Try.prog w = .ok (.agg (rcA c)) w :=
  run_load_BP (cs' := rcA c) h 0 Try.isAgg64 (by kernel_rfl) (fun j hj => by
    have hj : j < 4 := hj
    have hc : j = 0 ∨ j = 1 ∨ j = 2 ∨ j = 3 := by omega
    rcases hc with rfl | rfl | rfl | rfl <;> rfl)
theorem P_ValidRB (r : Rc) (b : Bool) (w : World) (e : validR r = b) : Calls Try.prog 91 #[.agg (rcA r)] w fun e w' => e = .returned (.bool b) ∧ Below w.heap.size w w' := e ▸ P_ValidR r w
theorem P_AreaB (r : Rc) (n : Int) (w : World) (h : validR r = true) (e : areaR r = n) : Calls Try.prog 78 #[.agg (rcA r)] w fun e w' => e = .returned (.int .i64 n) ∧ Below w.heap.size w w' := e ▸ P_Area r w h
theorem P_fitsB (c : Rc) (n : Int) (w : World) (e : fitsE c = n) : Calls Try.prog 77 #[.agg (rcA c)] w fun e w' => e = .returned (.int .i64 n) ∧ Below w.heap.size w w' := e ▸ P_fits c w
set_option maxHeartbeats 4000000 in
theorem P_Paste_inv (v : Value) (ls : List TA) (c : Rc) (ad : Option Addr) (n cp : Nat) (w : World) (h : RS v ls w) (hn : n ≤ maxLen) (hV0 : validR c = false) : Calls Try.prog 48 #[.agg #[v], .agg (imgC c (.slice ad n cp))] w fun e w' => e = .returned (.tuple #[.agg #[.slice none 0 0], .int .i64 1]) ∧ Below w.heap.size w w' := by
  have B := Below.refl w.heap.size w
  obtain ⟨a, cpv, rfl, hc⟩ := h.len
  clear h
  go_enter Try.func48, Try.ntmps48
  go_upto_region 0 with fail
  refine wp_region_lit ?_
  try simp only [List.getElem_toArray, List.getElem_cons_zero, List.getElem_cons_succ]
  (refine wpList_boxB (t := 30) rfl _ rfl _ rfl ?_; intro b_r2 wn hle hge ht hbn hzn; have hsz := B.size; replace B := B.trans (hbn.mono (by omega)); have hln := Nat.lt_of_lt_of_eq (Nat.lt_succ_self _) hzn.symm; clear hzn; have r2 := ht; clear ht; simp only [Act.put, putS])
  (refine wpList_boxB (t := 68) rfl _ rfl _ rfl ?_; intro b_m3 wn hle hge ht hbn hzn; have hsz := B.size; replace B := B.trans (hbn.mono (by omega)); have hln := Nat.lt_of_lt_of_eq (Nat.lt_succ_self _) hzn.symm; clear hzn; (try first | (have hlt := r2.lt; replace r2 := r2.of_eq (hbn.block _ (by omega))) | replace r2 := r2.below (hbn.mono hle)); have m3 := ht; clear ht; simp only [Act.put, putS])
  (refine wpList_allocBk (t := 30) rfl _ (run_alloc_R _ _ rfl) ?_; intro b_r4 wn hle hge ht hbn hzn; have hsz := B.size; replace B := B.trans (hbn.mono (by omega)); have hln := Nat.lt_of_lt_of_eq (Nat.lt_succ_self _) hzn.symm; clear hzn; (try first | (have hlt := r2.lt; replace r2 := r2.of_eq (hbn.block _ (by omega))) | replace r2 := r2.below (hbn.mono hle)); (try first | (have hlt := m3.lt; replace m3 := m3.of_eq (hbn.block _ (by omega))) | replace m3 := m3.below (hbn.mono hle)); have r4 := ht; clear ht; simp only [Act.put, putS])
  refine wpList_chunk 1 (by kernel_rfl) ?_
  simp only [takS, Nat.reduceAdd]
  repeat (first | go_big_quiet_skip | (go_big_quiet_want; first | (go_big_quiet_op; go_big_quiet_on)))
  refine wpQuiet_nil ?_
  refine wpList_nil ?_
  go_upto_region 1 with fail
  refine wp_region_lit ?_
  try simp only [List.getElem_toArray, List.getElem_cons_zero, List.getElem_cons_succ]
  refine wpList_chunk 2 (by kernel_rfl) ?_
  simp only [takS, Nat.reduceAdd]
  repeat (first | go_big_quiet_skip | (go_big_quiet_want; first | (refine quiet_loadAny (t := 64) rfl _ _ _ rfl (fun w hw => run_load_imR (ov_B m3 w hw)) (by first | rfl | omega) ?_; simp only [Act.put, putS]; go_big_quiet_on) | (refine quiet_loadAny (t := 64) rfl _ _ _ rfl (fun w hw => run_load_B (ov_B c6 w hw) Try.isAgg64 (by kernel_rfl)) (by rfl) ?_; simp only [Act.put, putS]; go_big_quiet_on) | (go_big_quiet_op; go_big_quiet_on)))
  refine wpQuiet_nil ?_
  (refine wpList_allocBk (t := 64) rfl _ (run_alloc_Rc _ _ rfl) ?_; intro b_c6 wn hle hge ht hbn hzn; have hsz := B.size; replace B := B.trans (hbn.mono (by omega)); have hln := Nat.lt_of_lt_of_eq (Nat.lt_succ_self _) hzn.symm; clear hzn; (try first | (have hlt := r2.lt; replace r2 := r2.of_eq (hbn.block _ (by omega))) | replace r2 := r2.below (hbn.mono hle)); (try first | (have hlt := m3.lt; replace m3 := m3.of_eq (hbn.block _ (by omega))) | replace m3 := m3.below (hbn.mono hle)); (try first | (have hlt := r4.lt; replace r4 := r4.of_eq (hbn.block _ (by omega))) | replace r4 := r4.below (hbn.mono hle)); (try first | (have hlt := c6.lt; replace c6 := c6.of_eq (hbn.block _ (by omega))) | replace c6 := c6.below (hbn.mono hle)); have c6 := ht; clear ht; simp only [Act.put, putS])
  (refine wpList_storeB (t := 64) rfl _ _ rfl _ rfl _ rfl c6 (by kernel_rfl) rfl (by simp [rcA, imgC, Value.oneCell']) ?_; clear c6; intro wn ht hcn hzn; have hsz := B.size; replace hzn := Nat.le_of_eq hzn.symm; replace B := Chg.below B hcn (by omega) B.size; (try replace r2 := r2.of_eq (hcn.block _ r2.lt (by omega))); (try replace m3 := m3.of_eq (hcn.block _ m3.lt (by omega))); (try replace r4 := r4.of_eq (hcn.block _ r4.lt (by omega))); have c6 := ht; clear ht; simp only [Act.put, putS])
  refine wpList_nil ?_
  replace c6 : AtB 64 _ b_c6 (rcA c) := c6
  go_upto_region 2 with fail
  try simp only [List.getElem_toArray, List.getElem_cons_zero, List.getElem_cons_succ]
  try have lx_r2 := r2.lt
  try have lx_m3 := m3.lt
  try have lx_r4 := r4.lt
  try have lx_c6 := c6.lt
  refine wp_region_RL 11 [(1, detS ?v1_1)] (by kernel_rfl) (by kernel_rfl) (by kernel_rfl) ?_
  rotate_left 1
  simp only [takS, Nat.reduceAdd]
  refine wpRL_chunk 1 (by kernel_rfl) ?_
  simp only [takS, Nat.reduceAdd]
  repeat (first | go_big_quiet_skip | (go_big_quiet_want; first | (refine quiet_loadAny (t := 64) rfl _ _ _ rfl (fun w hw => run_load_imR (ov_B m3 w hw)) (by first | rfl | omega) ?_; simp only [Act.put, putS]; go_big_quiet_on) | (refine quiet_loadAny (t := 64) rfl _ _ _ rfl (fun w hw => run_load_B (ov_B c6 w hw) Try.isAgg64 (by kernel_rfl)) (by rfl) ?_; simp only [Act.put, putS]; go_big_quiet_on) | (go_big_quiet_op; go_big_quiet_on)))
  refine wpQuiet_nil ?_
  refine wpRL_callB (by rfl) (by first | rfl | simp [Region.wanted, yielded]) ?_ ?_
  · intro wn hbn hE Kx hKx
    have hsz := B.size
    have hzn := hbn.size
    replace B := B.trans (hbn.mono B.size)
    (try first | replace r2 := r2.of_eq (hbn.block _ r2.lt) | replace r2 := r2.below hbn)
    (try first | replace m3 := m3.of_eq (hbn.block _ m3.lt) | replace m3 := m3.below hbn)
    (try first | replace r4 := r4.of_eq (hbn.block _ r4.lt) | replace r4 := r4.below hbn)
    (try first | replace c6 := c6.of_eq (hbn.block _ c6.lt) | replace c6 := c6.below hbn)
    refine wp_callF rfl (enters_of Try.func91 (by kernel_rfl) rfl) (by simp only [List.map_toArray, List.map_cons, List.map_nil, Act.eval, Array.getD_eq_getD_getElem?, List.getElem?_toArray, List.getElem?_cons_succ, List.getElem?_cons_zero, Option.getD_some]; rfl) ?_
    refine (P_ValidRB c false _ hV0).mono ?_
    rintro e wm ⟨rfl, hbm⟩
    refine ⟨_, rfl, ?_⟩
    have hz := hKx () wm trivial hbm
    dsimp only [detS] at hz
    exact hz
  rintro ⟨⟩
  dsimp only [detS]
  simp only [Act.put, putS]
  refine wpRL_chunk 4 (by kernel_rfl) ?_
  simp only [takS, Nat.reduceAdd]
  repeat (first | go_big_quiet_skip | (go_big_quiet_want; first | (refine quiet_loadAny (t := 66) rfl _ _ _ rfl (fun w hw => run_load_slp (imgC_u (ov_B m3 w hw))) (by first | rfl | omega) ?_; simp only [Act.put, putS]; go_big_quiet_on) | (go_big_quiet_op; go_big_quiet_on)))
  refine wpQuiet_nil ?_
  refine wpRL_skip ?hw1_6 ?_
  case hw1_6 => kernel_rfl
  simp only [Act.put, putS]
  refine wpRL_chunk 1 (by kernel_rfl) ?_
  simp only [takS, Nat.reduceAdd]
  repeat (first | go_big_quiet_skip | (go_big_quiet_want; first | (refine quiet_loadAny (t := 64) rfl _ _ _ rfl (fun w hw => run_load_imR (ov_B m3 w hw)) (by first | rfl | omega) ?_; simp only [Act.put, putS]; go_big_quiet_on) | (refine quiet_loadAny (t := 64) rfl _ _ _ rfl (fun w hw => run_load_B (ov_B c6 w hw) Try.isAgg64 (by kernel_rfl)) (by rfl) ?_; simp only [Act.put, putS]; go_big_quiet_on) | (go_big_quiet_op; go_big_quiet_on)))
  refine wpQuiet_nil ?_
  refine wpRL_skip ?hw1_8 ?_
  case hw1_8 => kernel_rfl
  simp only [Act.put, putS]
  refine wpRL_chunk 2 (by kernel_rfl) ?_
  simp only [takS, Nat.reduceAdd]
  repeat (first | go_big_quiet_skip | (go_big_quiet_want; first | (go_big_quiet_op; go_big_quiet_on)))
  refine wpQuiet_nil ?_
  refine wpRL_nil ?_
  intro wn hbn hE
  have hsz := B.size
  have hzn := hbn.size
  replace B := B.trans (hbn.mono B.size)
  (try first | replace r2 := r2.of_eq (hbn.block _ r2.lt) | replace r2 := r2.below hbn)
  (try first | replace m3 := m3.of_eq (hbn.block _ m3.lt) | replace m3 := m3.below hbn)
  (try first | replace r4 := r4.of_eq (hbn.block _ r4.lt) | replace r4 := r4.below hbn)
  (try first | replace c6 := c6.of_eq (hbn.block _ c6.lt) | replace c6 := c6.below hbn)
  clear hE
  try simp only [List.drop_succ_cons, List.drop_zero]
  refine NoPan.normal ?_
  go_upto_region 3 with fail
  refine wp_region_lit ?_
  try simp only [List.getElem_toArray, List.getElem_cons_zero, List.getElem_cons_succ]
  refine wpList_chunk 1 (by kernel_rfl) ?_
  simp only [takS, Nat.reduceAdd]
  repeat (first | go_big_quiet_skip | (go_big_quiet_want; first | (go_big_quiet_op; go_big_quiet_on)))
  refine wpQuiet_nil ?_
  (refine wpList_storeB (t := 30) rfl _ _ rfl _ rfl _ rfl r4 (by kernel_rfl) rfl (by simp [rcA, imgC, Value.oneCell']) ?_; clear r4; intro wn ht hcn hzn; have hsz := B.size; replace hzn := Nat.le_of_eq hzn.symm; replace B := Chg.below B hcn (by omega) B.size; (try replace r2 := r2.of_eq (hcn.block _ r2.lt (by omega))); (try replace m3 := m3.of_eq (hcn.block _ m3.lt (by omega))); (try replace c6 := c6.of_eq (hcn.block _ c6.lt (by omega))); have r4 := ht; clear ht; simp only [Act.put, putS])
  refine wpList_chunk 1 (by kernel_rfl) ?_
  simp only [takS, Nat.reduceAdd]
  repeat (first | go_big_quiet_skip | (go_big_quiet_want; first | (go_big_quiet_op; go_big_quiet_on)))
  refine wpQuiet_nil ?_
  refine wpList_nil ?_
  go_wp2
  refine bodyPost_ret (results_B2 (t := 30) rfl _ _ (b_r4) rfl _ rfl r4 Try.isAgg30 (by kernel_rfl)) rfl ?_
  exact ⟨rfl, B⟩
set_option maxHeartbeats 4000000 in
theorem P_Paste_len (v : Value) (ls : List TA) (c : Rc) (ad : Option Addr) (n cp : Nat) (w : World) (h : RS v ls w) (hn : n ≤ maxLen) (hV0 : validR c = true) (A : Int) (hA : areaR c = A) (hlen : ¬ (n : Int) = A) : Calls Try.prog 48 #[.agg #[v], .agg (imgC c (.slice ad n cp))] w fun e w' => e = .returned (.tuple #[.agg #[.slice none 0 0], .int .i64 1]) ∧ Below w.heap.size w w' := by
  have B := Below.refl w.heap.size w
  obtain ⟨a, cpv, rfl, hc⟩ := h.len
  have d1 : ((n : Int) != A) = true := by simpa using hlen
  have HA := Lib.hid hA
  clear h hA
  go_enter Try.func48, Try.ntmps48
  go_upto_region 0 with fail
  refine wp_region_lit ?_
  try simp only [List.getElem_toArray, List.getElem_cons_zero, List.getElem_cons_succ]
  (refine wpList_boxB (t := 30) rfl _ rfl _ rfl ?_; intro b_r2 wn hle hge ht hbn hzn; have hsz := B.size; replace B := B.trans (hbn.mono (by omega)); have hln := Nat.lt_of_lt_of_eq (Nat.lt_succ_self _) hzn.symm; clear hzn; have r2 := ht; clear ht; simp only [Act.put, putS])
  (refine wpList_boxB (t := 68) rfl _ rfl _ rfl ?_; intro b_m3 wn hle hge ht hbn hzn; have hsz := B.size; replace B := B.trans (hbn.mono (by omega)); have hln := Nat.lt_of_lt_of_eq (Nat.lt_succ_self _) hzn.symm; clear hzn; (try first | (have hlt := r2.lt; replace r2 := r2.of_eq (hbn.block _ (by omega))) | replace r2 := r2.below (hbn.mono hle)); have m3 := ht; clear ht; simp only [Act.put, putS])
  (refine wpList_allocBk (t := 30) rfl _ (run_alloc_R _ _ rfl) ?_; intro b_r4 wn hle hge ht hbn hzn; have hsz := B.size; replace B := B.trans (hbn.mono (by omega)); have hln := Nat.lt_of_lt_of_eq (Nat.lt_succ_self _) hzn.symm; clear hzn; (try first | (have hlt := r2.lt; replace r2 := r2.of_eq (hbn.block _ (by omega))) | replace r2 := r2.below (hbn.mono hle)); (try first | (have hlt := m3.lt; replace m3 := m3.of_eq (hbn.block _ (by omega))) | replace m3 := m3.below (hbn.mono hle)); have r4 := ht; clear ht; simp only [Act.put, putS])
  refine wpList_chunk 1 (by kernel_rfl) ?_
  simp only [takS, Nat.reduceAdd]
  repeat (first | go_big_quiet_skip | (go_big_quiet_want; first | (go_big_quiet_op; go_big_quiet_on)))
  refine wpQuiet_nil ?_
  refine wpList_nil ?_
  go_upto_region 1 with fail
  refine wp_region_lit ?_
  try simp only [List.getElem_toArray, List.getElem_cons_zero, List.getElem_cons_succ]
  refine wpList_chunk 2 (by kernel_rfl) ?_
  simp only [takS, Nat.reduceAdd]
  repeat (first | go_big_quiet_skip | (go_big_quiet_want; first | (refine quiet_loadAny (t := 64) rfl _ _ _ rfl (fun w hw => run_load_imR (ov_B m3 w hw)) (by first | rfl | omega) ?_; simp only [Act.put, putS]; go_big_quiet_on) | (refine quiet_loadAny (t := 64) rfl _ _ _ rfl (fun w hw => run_load_B (ov_B c6 w hw) Try.isAgg64 (by kernel_rfl)) (by rfl) ?_; simp only [Act.put, putS]; go_big_quiet_on) | (go_big_quiet_op; go_big_quiet_on)))
  refine wpQuiet_nil ?_
  (refine wpList_allocBk (t := 64) rfl _ (run_alloc_Rc _ _ rfl) ?_; intro b_c6 wn hle hge ht hbn hzn; have hsz := B.size; replace B := B.trans (hbn.mono (by omega)); have hln := Nat.lt_of_lt_of_eq (Nat.lt_succ_self _) hzn.symm; clear hzn; (try first | (have hlt := r2.lt; replace r2 := r2.of_eq (hbn.block _ (by omega))) | replace r2 := r2.below (hbn.mono hle)); (try first | (have hlt := m3.lt; replace m3 := m3.of_eq (hbn.block _ (by omega))) | replace m3 := m3.below (hbn.mono hle)); (try first | (have hlt := r4.lt; replace r4 := r4.of_eq (hbn.block _ (by omega))) | replace r4 := r4.below (hbn.mono hle)); (try first | (have hlt := c6.lt; replace c6 := c6.of_eq (hbn.block _ (by omega))) | replace c6 := c6.below (hbn.mono hle)); have c6 := ht; clear ht; simp only [Act.put, putS])
  (refine wpList_storeB (t := 64) rfl _ _ rfl _ rfl _ rfl c6 (by kernel_rfl) rfl (by simp [rcA, imgC, Value.oneCell']) ?_; clear c6; intro wn ht hcn hzn; have hsz := B.size; replace hzn := Nat.le_of_eq hzn.symm; replace B := Chg.below B hcn (by omega) B.size; (try replace r2 := r2.of_eq (hcn.block _ r2.lt (by omega))); (try replace m3 := m3.of_eq (hcn.block _ m3.lt (by omega))); (try replace r4 := r4.of_eq (hcn.block _ r4.lt (by omega))); have c6 := ht; clear ht; simp only [Act.put, putS])
  refine wpList_nil ?_
  replace c6 : AtB 64 _ b_c6 (rcA c) := c6
  go_upto_region 2 with fail
  try simp only [List.getElem_toArray, List.getElem_cons_zero, List.getElem_cons_succ]
  try have lx_r2 := r2.lt
  try have lx_m3 := m3.lt
  try have lx_r4 := r4.lt
  try have lx_c6 := c6.lt
  refine wp_region_RL 11 [(1, detS ?v2_1), (6, detS ?v2_6), (8, detS ?v2_8)] (by kernel_rfl) (by kernel_rfl) (by kernel_rfl) ?_
  rotate_left 3
  simp only [takS, Nat.reduceAdd]
  refine wpRL_chunk 1 (by kernel_rfl) ?_
  simp only [takS, Nat.reduceAdd]
  repeat (first | go_big_quiet_skip | (go_big_quiet_want; first | (refine quiet_loadAny (t := 64) rfl _ _ _ rfl (fun w hw => run_load_imR (ov_B m3 w hw)) (by first | rfl | omega) ?_; simp only [Act.put, putS]; go_big_quiet_on) | (refine quiet_loadAny (t := 64) rfl _ _ _ rfl (fun w hw => run_load_B (ov_B c6 w hw) Try.isAgg64 (by kernel_rfl)) (by rfl) ?_; simp only [Act.put, putS]; go_big_quiet_on) | (go_big_quiet_op; go_big_quiet_on)))
  refine wpQuiet_nil ?_
  refine wpRL_callB (by rfl) (by first | rfl | simp [Region.wanted, yielded]) ?_ ?_
  · intro wn hbn hE Kx hKx
    have hsz := B.size
    have hzn := hbn.size
    replace B := B.trans (hbn.mono B.size)
    (try first | replace r2 := r2.of_eq (hbn.block _ r2.lt) | replace r2 := r2.below hbn)
    (try first | replace m3 := m3.of_eq (hbn.block _ m3.lt) | replace m3 := m3.below hbn)
    (try first | replace r4 := r4.of_eq (hbn.block _ r4.lt) | replace r4 := r4.below hbn)
    (try first | replace c6 := c6.of_eq (hbn.block _ c6.lt) | replace c6 := c6.below hbn)
    refine wp_callF rfl (enters_of Try.func91 (by kernel_rfl) rfl) (by simp only [List.map_toArray, List.map_cons, List.map_nil, Act.eval, Array.getD_eq_getD_getElem?, List.getElem?_toArray, List.getElem?_cons_succ, List.getElem?_cons_zero, Option.getD_some]; rfl) ?_
    refine (P_ValidRB c true _ hV0).mono ?_
    rintro e wm ⟨rfl, hbm⟩
    refine ⟨_, rfl, ?_⟩
    have hz := hKx () wm trivial hbm
    dsimp only [detS] at hz
    exact hz
  rintro ⟨⟩
  dsimp only [detS]
  simp only [Act.put, putS]
  refine wpRL_chunk 4 (by kernel_rfl) ?_
  simp only [takS, Nat.reduceAdd]
  repeat (first | go_big_quiet_skip | (go_big_quiet_want; first | (refine quiet_loadAny (t := 66) rfl _ _ _ rfl (fun w hw => run_load_slp (imgC_u (ov_B m3 w hw))) (by first | rfl | omega) ?_; simp only [Act.put, putS]; go_big_quiet_on) | (go_big_quiet_op; go_big_quiet_on)))
  refine wpQuiet_nil ?_
  refine wpRL_callB (by rfl) ?hw2_6 ?_ ?_
  case hw2_6 => kernel_rfl
  · intro wn hbn hE Kx hKx
    have hsz := B.size
    have hzn := hbn.size
    replace B := B.trans (hbn.mono B.size)
    (try first | replace r2 := r2.of_eq (hbn.block _ r2.lt) | replace r2 := r2.below hbn)
    (try first | replace m3 := m3.of_eq (hbn.block _ m3.lt) | replace m3 := m3.below hbn)
    (try first | replace r4 := r4.of_eq (hbn.block _ r4.lt) | replace r4 := r4.below hbn)
    (try first | replace c6 := c6.of_eq (hbn.block _ c6.lt) | replace c6 := c6.below hbn)
    refine wp_lenS rfl Try.underlying66 rfl ?_
    exact hKx () _ trivial (Below.refl _ _)
  rintro ⟨⟩
  dsimp only [detS]
  simp only [Act.put, putS]
  refine wpRL_chunk 1 (by kernel_rfl) ?_
  simp only [takS, Nat.reduceAdd]
  repeat (first | go_big_quiet_skip | (go_big_quiet_want; first | (refine quiet_loadAny (t := 64) rfl _ _ _ rfl (fun w hw => run_load_imR (ov_B m3 w hw)) (by first | rfl | omega) ?_; simp only [Act.put, putS]; go_big_quiet_on) | (refine quiet_loadAny (t := 64) rfl _ _ _ rfl (fun w hw => run_load_B (ov_B c6 w hw) Try.isAgg64 (by kernel_rfl)) (by rfl) ?_; simp only [Act.put, putS]; go_big_quiet_on) | (go_big_quiet_op; go_big_quiet_on)))
  refine wpQuiet_nil ?_
  refine wpRL_callB (by rfl) ?hw2_8 ?_ ?_
  case hw2_8 => kernel_rfl
  · intro wn hbn hE Kx hKx
    have hsz := B.size
    have hzn := hbn.size
    replace B := B.trans (hbn.mono B.size)
    (try first | replace r2 := r2.of_eq (hbn.block _ r2.lt) | replace r2 := r2.below hbn)
    (try first | replace m3 := m3.of_eq (hbn.block _ m3.lt) | replace m3 := m3.below hbn)
    (try first | replace r4 := r4.of_eq (hbn.block _ r4.lt) | replace r4 := r4.below hbn)
    (try first | replace c6 := c6.of_eq (hbn.block _ c6.lt) | replace c6 := c6.below hbn)
    refine wp_callF rfl (enters_of Try.func78 (by kernel_rfl) rfl) (by simp only [List.map_toArray, List.map_cons, List.map_nil, Act.eval, Array.getD_eq_getD_getElem?, List.getElem?_toArray, List.getElem?_cons_succ, List.getElem?_cons_zero, Option.getD_some]; rfl) ?_
    refine (P_AreaB c A _ hV0 HA.out).mono ?_
    rintro e wm ⟨rfl, hbm⟩
    refine ⟨_, rfl, ?_⟩
    have hz := hKx () wm trivial hbm
    dsimp only [detS] at hz
    exact hz
  rintro ⟨⟩
  dsimp only [detS]
  simp only [Act.put, putS]
  refine wpRL_chunk 2 (by kernel_rfl) ?_
  simp only [takS, Nat.reduceAdd]
  repeat (first | go_big_quiet_skip | (go_big_quiet_want; first | (go_big_quiet_op; go_big_quiet_on)))
  refine wpQuiet_nil ?_
  refine wpRL_nil ?_
  intro wn hbn hE
  have hsz := B.size
  have hzn := hbn.size
  replace B := B.trans (hbn.mono B.size)
  (try first | replace r2 := r2.of_eq (hbn.block _ r2.lt) | replace r2 := r2.below hbn)
  (try first | replace m3 := m3.of_eq (hbn.block _ m3.lt) | replace m3 := m3.below hbn)
  (try first | replace r4 := r4.of_eq (hbn.block _ r4.lt) | replace r4 := r4.below hbn)
  (try first | replace c6 := c6.of_eq (hbn.block _ c6.lt) | replace c6 := c6.below hbn)
  clear hE
  try simp only [List.drop_succ_cons, List.drop_zero]
  refine NoPan.normal ?_
  go_upto_region 3 with fail
  refine wp_region_lit ?_
  try simp only [List.getElem_toArray, List.getElem_cons_zero, List.getElem_cons_succ]
  refine wpList_chunk 1 (by kernel_rfl) ?_
  simp only [takS, Nat.reduceAdd]
  repeat (first | go_big_quiet_skip | (go_big_quiet_want; first | (go_big_quiet_op; go_big_quiet_on)))
  refine wpQuiet_nil ?_
  (refine wpList_storeB (t := 30) rfl _ _ rfl _ rfl _ rfl r4 (by kernel_rfl) rfl (by simp [rcA, imgC, Value.oneCell']) ?_; clear r4; intro wn ht hcn hzn; have hsz := B.size; replace hzn := Nat.le_of_eq hzn.symm; replace B := Chg.below B hcn (by omega) B.size; (try replace r2 := r2.of_eq (hcn.block _ r2.lt (by omega))); (try replace m3 := m3.of_eq (hcn.block _ m3.lt (by omega))); (try replace c6 := c6.of_eq (hcn.block _ c6.lt (by omega))); have r4 := ht; clear ht; simp only [Act.put, putS])
  refine wpList_chunk 1 (by kernel_rfl) ?_
  simp only [takS, Nat.reduceAdd]
  repeat (first | go_big_quiet_skip | (go_big_quiet_want; first | (go_big_quiet_op; go_big_quiet_on)))
  refine wpQuiet_nil ?_
  refine wpList_nil ?_
  go_wp2
  refine bodyPost_ret (results_B2 (t := 30) rfl _ _ (b_r4) rfl _ rfl r4 Try.isAgg30 (by kernel_rfl)) rfl ?_
  exact ⟨rfl, B⟩
set_option maxHeartbeats 4000000 in
theorem P_Paste_big (v : Value) (ls : List TA) (c : Rc) (ad : Option Addr) (n cp : Nat) (w : World) (h : RS v ls w) (hn : n ≤ maxLen) (hV0 : validR c = true) (hA : areaR c = (n : Int)) (e0 : Int) (hF : fitsE c = e0) (h0 : ¬ e0 = 0) : Calls Try.prog 48 #[.agg #[v], .agg (imgC c (.slice ad n cp))] w fun e w' => e = .returned (.tuple #[.agg #[.slice none 0 0], .int .i64 e0]) ∧ Below w.heap.size w w' := by
  have B := Below.refl w.heap.size w
  obtain ⟨a, cpv, rfl, hc⟩ := h.len
  have d1 : ((n : Int) != (n : Int)) = false := by simp
  have d2 : (e0 != 0) = true := by simpa using h0
  have HA := Lib.hid hA
  have HF := Lib.hid hF
  clear h hA hF
  go_enter Try.func48, Try.ntmps48
  go_upto_region 0 with fail
  refine wp_region_lit ?_
  try simp only [List.getElem_toArray, List.getElem_cons_zero, List.getElem_cons_succ]
  (refine wpList_boxB (t := 30) rfl _ rfl _ rfl ?_; intro b_r2 wn hle hge ht hbn hzn; have hsz := B.size; replace B := B.trans (hbn.mono (by omega)); have hln := Nat.lt_of_lt_of_eq (Nat.lt_succ_self _) hzn.symm; clear hzn; have r2 := ht; clear ht; simp only [Act.put, putS])
  (refine wpList_boxB (t := 68) rfl _ rfl _ rfl ?_; intro b_m3 wn hle hge ht hbn hzn; have hsz := B.size; replace B := B.trans (hbn.mono (by omega)); have hln := Nat.lt_of_lt_of_eq (Nat.lt_succ_self _) hzn.symm; clear hzn; (try first | (have hlt := r2.lt; replace r2 := r2.of_eq (hbn.block _ (by omega))) | replace r2 := r2.below (hbn.mono hle)); have m3 := ht; clear ht; simp only [Act.put, putS])
  (refine wpList_allocBk (t := 30) rfl _ (run_alloc_R _ _ rfl) ?_; intro b_r4 wn hle hge ht hbn hzn; have hsz := B.size; replace B := B.trans (hbn.mono (by omega)); have hln := Nat.lt_of_lt_of_eq (Nat.lt_succ_self _) hzn.symm; clear hzn; (try first | (have hlt := r2.lt; replace r2 := r2.of_eq (hbn.block _ (by omega))) | replace r2 := r2.below (hbn.mono hle)); (try first | (have hlt := m3.lt; replace m3 := m3.of_eq (hbn.block _ (by omega))) | replace m3 := m3.below (hbn.mono hle)); have r4 := ht; clear ht; simp only [Act.put, putS])
  refine wpList_chunk 1 (by kernel_rfl) ?_
  simp only [takS, Nat.reduceAdd]
  repeat (first | go_big_quiet_skip | (go_big_quiet_want; first | (go_big_quiet_op; go_big_quiet_on)))
  refine wpQuiet_nil ?_
  refine wpList_nil ?_
  go_upto_region 1 with fail
  refine wp_region_lit ?_
  try simp only [List.getElem_toArray, List.getElem_cons_zero, List.getElem_cons_succ]
  refine wpList_chunk 2 (by kernel_rfl) ?_
  simp only [takS, Nat.reduceAdd]
  repeat (first | go_big_quiet_skip | (go_big_quiet_want; first | (refine quiet_loadAny (t := 64) rfl _ _ _ rfl (fun w hw => run_load_imR (ov_B m3 w hw)) (by first | rfl | omega) ?_; simp only [Act.put, putS]; go_big_quiet_on) | (refine quiet_loadAny (t := 64) rfl _ _ _ rfl (fun w hw => run_load_B (ov_B c6 w hw) Try.isAgg64 (by kernel_rfl)) (by rfl) ?_; simp only [Act.put, putS]; go_big_quiet_on) | (go_big_quiet_op; go_big_quiet_on)))
  refine wpQuiet_nil ?_
  (refine wpList_allocBk (t := 64) rfl _ (run_alloc_Rc _ _ rfl) ?_; intro b_c6 wn hle hge ht hbn hzn; have hsz := B.size; replace B := B.trans (hbn.mono (by omega)); have hln := Nat.lt_of_lt_of_eq (Nat.lt_succ_self _) hzn.symm; clear hzn; (try first | (have hlt := r2.lt; replace r2 := r2.of_eq (hbn.block _ (by omega))) | replace r2 := r2.below (hbn.mono hle)); (try first | (have hlt := m3.lt; replace m3 := m3.of_eq (hbn.block _ (by omega))) | replace m3 := m3.below (hbn.mono hle)); (try first | (have hlt := r4.lt; replace r4 := r4.of_eq (hbn.block _ (by omega))) | replace r4 := r4.below (hbn.mono hle)); (try first | (have hlt := c6.lt; replace c6 := c6.of_eq (hbn.block _ (by omega))) | replace c6 := c6.below (hbn.mono hle)); have c6 := ht; clear ht; simp only [Act.put, putS])
  (refine wpList_storeB (t := 64) rfl _ _ rfl _ rfl _ rfl c6 (by kernel_rfl) rfl (by simp [rcA, imgC, Value.oneCell']) ?_; clear c6; intro wn ht hcn hzn; have hsz := B.size; replace hzn := Nat.le_of_eq hzn.symm; replace B := Chg.below B hcn (by omega) B.size; (try replace r2 := r2.of_eq (hcn.block _ r2.lt (by omega))); (try replace m3 := m3.of_eq (hcn.block _ m3.lt (by omega))); (try replace r4 := r4.of_eq (hcn.block _ r4.lt (by omega))); have c6 := ht; clear ht; simp only [Act.put, putS])
  refine wpList_nil ?_
  replace c6 : AtB 64 _ b_c6 (rcA c) := c6
  go_upto_region 2 with fail
  try simp only [List.getElem_toArray, List.getElem_cons_zero, List.getElem_cons_succ]
  try have lx_r2 := r2.lt
  try have lx_m3 := m3.lt
  try have lx_r4 := r4.lt
  try have lx_c6 := c6.lt
  refine wp_region_RL 11 [(1, detS ?v3_1), (6, detS ?v3_6), (8, detS ?v3_8)] (by kernel_rfl) (by kernel_rfl) (by kernel_rfl) ?_
  rotate_left 3
  simp only [takS, Nat.reduceAdd]
  refine wpRL_chunk 1 (by kernel_rfl) ?_
  simp only [takS, Nat.reduceAdd]
  repeat (first | go_big_quiet_skip | (go_big_quiet_want; first | (refine quiet_loadAny (t := 64) rfl _ _ _ rfl (fun w hw => run_load_imR (ov_B m3 w hw)) (by first | rfl | omega) ?_; simp only [Act.put, putS]; go_big_quiet_on) | (refine quiet_loadAny (t := 64) rfl _ _ _ rfl (fun w hw => run_load_B (ov_B c6 w hw) Try.isAgg64 (by kernel_rfl)) (by rfl) ?_; simp only [Act.put, putS]; go_big_quiet_on) | (go_big_quiet_op; go_big_quiet_on)))
  refine wpQuiet_nil ?_
  refine wpRL_callB (by rfl) (by first | rfl | simp [Region.wanted, yielded]) ?_ ?_
  · intro wn hbn hE Kx hKx
    have hsz := B.size
    have hzn := hbn.size
    replace B := B.trans (hbn.mono B.size)
    (try first | replace r2 := r2.of_eq (hbn.block _ r2.lt) | replace r2 := r2.below hbn)
    (try first | replace m3 := m3.of_eq (hbn.block _ m3.lt) | replace m3 := m3.below hbn)
    (try first | replace r4 := r4.of_eq (hbn.block _ r4.lt) | replace r4 := r4.below hbn)
    (try first | replace c6 := c6.of_eq (hbn.block _ c6.lt) | replace c6 := c6.below hbn)
    refine wp_callF rfl (enters_of Try.func91 (by kernel_rfl) rfl) (by simp only [List.map_toArray, List.map_cons, List.map_nil, Act.eval, Array.getD_eq_getD_getElem?, List.getElem?_toArray, List.getElem?_cons_succ, List.getElem?_cons_zero, Option.getD_some]; rfl) ?_
    refine (P_ValidRB c true _ hV0).mono ?_
    rintro e wm ⟨rfl, hbm⟩
    refine ⟨_, rfl, ?_⟩
    have hz := hKx () wm trivial hbm
    dsimp only [detS] at hz
    exact hz
  rintro ⟨⟩
  dsimp only [detS]
  simp only [Act.put, putS]
  refine wpRL_chunk 4 (by kernel_rfl) ?_
  simp only [takS, Nat.reduceAdd]
  repeat (first | go_big_quiet_skip | (go_big_quiet_want; first | (refine quiet_loadAny (t := 66) rfl _ _ _ rfl (fun w hw => run_load_slp (imgC_u (ov_B m3 w hw))) (by first | rfl | omega) ?_; simp only [Act.put, putS]; go_big_quiet_on) | (go_big_quiet_op; go_big_quiet_on)))
  refine wpQuiet_nil ?_
  refine wpRL_callB (by rfl) ?hw3_6 ?_ ?_
  case hw3_6 => kernel_rfl
  · intro wn hbn hE Kx hKx
    have hsz := B.size
    have hzn := hbn.size
    replace B := B.trans (hbn.mono B.size)
    (try first | replace r2 := r2.of_eq (hbn.block _ r2.lt) | replace r2 := r2.below hbn)
    (try first | replace m3 := m3.of_eq (hbn.block _ m3.lt) | replace m3 := m3.below hbn)
    (try first | replace r4 := r4.of_eq (hbn.block _ r4.lt) | replace r4 := r4.below hbn)
    (try first | replace c6 := c6.of_eq (hbn.block _ c6.lt) | replace c6 := c6.below hbn)
    refine wp_lenS rfl Try.underlying66 rfl ?_
    exact hKx () _ trivial (Below.refl _ _)
  rintro ⟨⟩
  dsimp only [detS]
  simp only [Act.put, putS]
  refine wpRL_chunk 1 (by kernel_rfl) ?_
  simp only [takS, Nat.reduceAdd]
  repeat (first | go_big_quiet_skip | (go_big_quiet_want; first | (refine quiet_loadAny (t := 64) rfl _ _ _ rfl (fun w hw => run_load_imR (ov_B m3 w hw)) (by first | rfl | omega) ?_; simp only [Act.put, putS]; go_big_quiet_on) | (refine quiet_loadAny (t := 64) rfl _ _ _ rfl (fun w hw => run_load_B (ov_B c6 w hw) Try.isAgg64 (by kernel_rfl)) (by rfl) ?_; simp only [Act.put, putS]; go_big_quiet_on) | (go_big_quiet_op; go_big_quiet_on)))
  refine wpQuiet_nil ?_
  refine wpRL_callB (by rfl) ?hw3_8 ?_ ?_
  case hw3_8 => kernel_rfl
  · intro wn hbn hE Kx hKx
    have hsz := B.size
    have hzn := hbn.size
    replace B := B.trans (hbn.mono B.size)
    (try first | replace r2 := r2.of_eq (hbn.block _ r2.lt) | replace r2 := r2.below hbn)
    (try first | replace m3 := m3.of_eq (hbn.block _ m3.lt) | replace m3 := m3.below hbn)
    (try first | replace r4 := r4.of_eq (hbn.block _ r4.lt) | replace r4 := r4.below hbn)
    (try first | replace c6 := c6.of_eq (hbn.block _ c6.lt) | replace c6 := c6.below hbn)
    refine wp_callF rfl (enters_of Try.func78 (by kernel_rfl) rfl) (by simp only [List.map_toArray, List.map_cons, List.map_nil, Act.eval, Array.getD_eq_getD_getElem?, List.getElem?_toArray, List.getElem?_cons_succ, List.getElem?_cons_zero, Option.getD_some]; rfl) ?_
    refine (P_AreaB c (n : Int) _ hV0 HA.out).mono ?_
    rintro e wm ⟨rfl, hbm⟩
    refine ⟨_, rfl, ?_⟩
    have hz := hKx () wm trivial hbm
    dsimp only [detS] at hz
    exact hz
  rintro ⟨⟩
  dsimp only [detS]
  simp only [Act.put, putS]
  refine wpRL_chunk 2 (by kernel_rfl) ?_
  simp only [takS, Nat.reduceAdd]
  repeat (first | go_big_quiet_skip | (go_big_quiet_want; first | (go_big_quiet_op; go_big_quiet_on)))
  refine wpQuiet_nil ?_
  refine wpRL_nil ?_
  intro wn hbn hE
  have hsz := B.size
  have hzn := hbn.size
  replace B := B.trans (hbn.mono B.size)
  (try first | replace r2 := r2.of_eq (hbn.block _ r2.lt) | replace r2 := r2.below hbn)
  (try first | replace m3 := m3.of_eq (hbn.block _ m3.lt) | replace m3 := m3.below hbn)
  (try first | replace r4 := r4.of_eq (hbn.block _ r4.lt) | replace r4 := r4.below hbn)
  (try first | replace c6 := c6.of_eq (hbn.block _ c6.lt) | replace c6 := c6.below hbn)
  clear hE
  try simp only [List.drop_succ_cons, List.drop_zero]
  refine NoPan.normal ?_
  go_upto_region 4 with fail
  refine wp_region_lit ?_
  try simp only [List.getElem_toArray, List.getElem_cons_zero, List.getElem_cons_succ]
  refine wpList_chunk 1 (by kernel_rfl) ?_
  simp only [takS, Nat.reduceAdd]
  repeat (first | go_big_quiet_skip | (go_big_quiet_want; first | (refine quiet_loadAny (t := 64) rfl _ _ _ rfl (fun w hw => run_load_imR (ov_B m3 w hw)) (by first | rfl | omega) ?_; simp only [Act.put, putS]; go_big_quiet_on) | (refine quiet_loadAny (t := 64) rfl _ _ _ rfl (fun w hw => run_load_B (ov_B c6 w hw) Try.isAgg64 (by kernel_rfl)) (by rfl) ?_; simp only [Act.put, putS]; go_big_quiet_on) | (go_big_quiet_op; go_big_quiet_on)))
  refine wpQuiet_nil ?_
  refine wpList_callF (by first | rfl | simp [Region.wanted, yielded]) rfl (enters_of Try.func77 (by kernel_rfl) rfl) (by simp only [List.map_toArray, List.map_cons, List.map_nil, Act.eval, Array.getD_eq_getD_getElem?, List.getElem?_toArray, List.getElem?_cons_succ, List.getElem?_cons_zero, Option.getD_some]; rfl) ?_
  refine (P_fitsB c e0 _ HF.out).mono ?_
  rintro e wn ⟨rfl, hbn⟩
  have hsz := B.size
  have hzn := hbn.size
  replace B := B.trans (hbn.mono B.size)
  (try first | replace r2 := r2.of_eq (hbn.block _ r2.lt) | replace r2 := r2.below hbn)
  (try first | replace m3 := m3.of_eq (hbn.block _ m3.lt) | replace m3 := m3.below hbn)
  (try first | replace r4 := r4.of_eq (hbn.block _ r4.lt) | replace r4 := r4.below hbn)
  (try first | replace c6 := c6.of_eq (hbn.block _ c6.lt) | replace c6 := c6.below hbn)
  refine ⟨_, rfl, ?_⟩
  simp only [Act.put, putS]
  refine wpList_chunk 1 (by kernel_rfl) ?_
  simp only [takS, Nat.reduceAdd]
  repeat (first | go_big_quiet_skip | (go_big_quiet_want; first | (go_big_quiet_op; go_big_quiet_on)))
  refine wpQuiet_nil ?_
  refine wpList_nil ?_
  go_upto_region 5 with fail
  refine wp_region_lit ?_
  try simp only [List.getElem_toArray, List.getElem_cons_zero, List.getElem_cons_succ]
  refine wpList_chunk 2 (by kernel_rfl) ?_
  simp only [takS, Nat.reduceAdd]
  repeat (first | go_big_quiet_skip | (go_big_quiet_want; first | (go_big_quiet_op; go_big_quiet_on)))
  refine wpQuiet_nil ?_
  refine wpList_nil ?_
  go_upto_region 6 with fail
  refine wp_region_lit ?_
  try simp only [List.getElem_toArray, List.getElem_cons_zero, List.getElem_cons_succ]
  refine wpList_chunk 2 (by kernel_rfl) ?_
  simp only [takS, Nat.reduceAdd]
  repeat (first | go_big_quiet_skip | (go_big_quiet_want; first | (go_big_quiet_op; go_big_quiet_on)))
  refine wpQuiet_nil ?_
  (refine wpList_storeB (t := 30) rfl _ _ rfl _ rfl _ rfl r4 (by kernel_rfl) rfl (by simp [rcA, imgC, Value.oneCell']) ?_; clear r4; intro wn ht hcn hzn; have hsz := B.size; replace hzn := Nat.le_of_eq hzn.symm; replace B := Chg.below B hcn (by omega) B.size; (try replace r2 := r2.of_eq (hcn.block _ r2.lt (by omega))); (try replace m3 := m3.of_eq (hcn.block _ m3.lt (by omega))); (try replace c6 := c6.of_eq (hcn.block _ c6.lt (by omega))); have r4 := ht; clear ht; simp only [Act.put, putS])
  refine wpList_chunk 1 (by kernel_rfl) ?_
  simp only [takS, Nat.reduceAdd]
  repeat (first | go_big_quiet_skip | (go_big_quiet_want; first | (go_big_quiet_op; go_big_quiet_on)))
  refine wpQuiet_nil ?_
  refine wpList_nil ?_
  go_wp2
  refine bodyPost_ret (results_B2 (t := 30) rfl _ _ (b_r4) rfl _ rfl r4 Try.isAgg30 (by kernel_rfl)) rfl ?_
  exact ⟨rfl, B⟩
end Go.Proofs.Ytppccnjckiedlaa
/- Same of package raster, where the images are equal. -/
namespace Go.Proofs.Ytppccnjckiedlaa
open Go.RowKit Go.Shelf Pl
set_option linter.unusedVariables false
set_option linter.unusedSimpArgs false
set_option maxRecDepth 20000
theorem eqls_rcA (r : Rc) (w : World) : (binOp .eql 64 (.agg (rcA r)) (.agg (rcA r))).run Try.prog w = .ok (.bool true) w := by
  have := eql_rc r r w
  rw [decide_eq_true rfl] at this
  exact this
set_option maxHeartbeats 2000000 in
theorem P_EqPx (u u' : Value) (L : List Px) (w : World) (h : RSE pxE u L w) (h' : RSE pxE u' L w) (hn : L.length ≤ 100000) : Calls Try.prog 98 #[u, u'] w fun e w' => e = .returned (.bool true) ∧ Below w.heap.size w w' := by
  have B := Below.refl w.heap.size w
  obtain ⟨a, cp, rfl, hc⟩ := h.len
  obtain ⟨a', cp', rfl, hc'⟩ := h'.len
  have HA := Lib.hid (fun k => h.at k)
  have HA' := Lib.hid (fun k => h'.at k)
  clear h h'
  have hq2 := neqs_px2
  have d1 : ((L.length : Int) != (L.length : Int)) = false := by simp
  go_enter Try.func98, Try.ntmps98
  go_upto_region 0 with fail
  refine wp_region_lit ?_
  try simp only [List.getElem_toArray, List.getElem_cons_zero, List.getElem_cons_succ]
  refine wpList_chunk 1 (by kernel_rfl) ?_
  simp only [takS, Nat.reduceAdd]
  repeat (first | go_big_quiet_skip | (go_big_quiet_want; first | (go_big_quiet_op; go_big_quiet_on)))
  refine wpQuiet_nil ?_
  refine wpList_nil ?_
  go_upto_region 1 with fail
  refine wp_region_lit ?_
  try simp only [List.getElem_toArray, List.getElem_cons_zero, List.getElem_cons_succ]
  refine wpList_chunk 1 (by kernel_rfl) ?_
  simp only [takS, Nat.reduceAdd]
  repeat (first | go_big_quiet_skip | (go_big_quiet_want; first | (go_big_quiet_op; go_big_quiet_on)))
  refine wpQuiet_nil ?_
  refine wpList_lenS (by first | rfl | simp [Region.wanted, yielded]) rfl Try.underlying66 rfl ?_
  simp only [Act.put, putS]
  refine wpList_chunk 1 (by kernel_rfl) ?_
  simp only [takS, Nat.reduceAdd]
  repeat (first | go_big_quiet_skip | (go_big_quiet_want; first | (go_big_quiet_op; go_big_quiet_on)))
  refine wpQuiet_nil ?_
  refine wpList_lenS (by first | rfl | simp [Region.wanted, yielded]) rfl Try.underlying66 rfl ?_
  simp only [Act.put, putS]
  refine wpList_chunk 1 (by kernel_rfl) ?_
  simp only [takS, Nat.reduceAdd]
  repeat (first | go_big_quiet_skip | (go_big_quiet_want; first | (go_big_quiet_op; go_big_quiet_on)))
  refine wpQuiet_nil ?_
  refine wpList_nil ?_
  go_upto_region 3 with fail
  refine wp_region_lit ?_
  try simp only [List.getElem_toArray, List.getElem_cons_zero, List.getElem_cons_succ]
  refine wpList_chunk 1 (by kernel_rfl) ?_
  simp only [takS, Nat.reduceAdd]
  repeat (first | go_big_quiet_skip | (go_big_quiet_want; first | (go_big_quiet_op; go_big_quiet_on)))
  refine wpQuiet_nil ?_
  refine wpList_lenS (by first | rfl | simp [Region.wanted, yielded]) rfl Try.underlying66 rfl ?_
  simp only [Act.put, putS]
  refine wpList_chunk 1 (by kernel_rfl) ?_
  simp only [takS, Nat.reduceAdd]
  repeat (first | go_big_quiet_skip | (go_big_quiet_want; first | (go_big_quiet_op; go_big_quiet_on)))
  refine wpQuiet_nil ?_
  refine wpList_nil ?_
  go_wp2
  go_loopw [13] (fun i wr => ∃ k : Nat, k ≤ L.length ∧ i = .int .i64 k ∧ Below w.heap.size w wr) (fun i _ => (L.length - intOf i).toNat)
  case atStart => exact ⟨0, by omega, rfl, B⟩
  case round =>
    clear B
    obtain ⟨k, hkl, rfl, B⟩ := hrel
    by_cases hk : k < L.length
    · have q1 : decide ((k : Int) < (L.length : Int)) = true := decide_eq_true (by omega)
      have q2 : decide (k < L.length) = true := decide_eq_true hk
      obtain ⟨g, o, rfl, rc1⟩ := HA.out (by omega)
      obtain ⟨g', o', rfl, rc2⟩ := HA'.out (by omega)
      replace rc1 := rc1.of_eq (B.block _ rc1.lt)
      replace rc2 := rc2.of_eq (B.block _ rc2.lt)
      obtain ⟨p, hp⟩ : ∃ p, L[k]? = some p := ⟨_, List.getElem?_eq_getElem hk⟩
      go_upto_region 4 with fail
      refine wp_region_lit ?_
      try simp only [List.getElem_toArray, List.getElem_cons_zero, List.getElem_cons_succ]
      refine wpList_chunk 1 (by kernel_rfl) ?_
      simp only [takS, Nat.reduceAdd]
      repeat (first | go_big_quiet_skip | (go_big_quiet_want; first | (go_big_quiet_op; go_big_quiet_on)))
      refine wpQuiet_nil ?_
      refine wpList_nil ?_
      go_upto_region 5 with fail
      refine wp_region_lit ?_
      try simp only [List.getElem_toArray, List.getElem_cons_zero, List.getElem_cons_succ]
      refine wpList_chunk 2 (by kernel_rfl) ?_
      simp only [takS, Nat.reduceAdd]
      repeat (first | go_big_quiet_skip | (go_big_quiet_want; first | (go_big_quiet_op; go_big_quiet_on)))
      refine wpQuiet_nil ?_
      refine wpList_nil ?_
      go_upto_region 6 with fail
      try simp only [List.getElem_toArray, List.getElem_cons_zero, List.getElem_cons_succ]
      refine wp_region_RL 9 [] (by kernel_rfl) (by kernel_rfl) (by kernel_rfl) ?_
      rotate_left 0
      simp only [takS, Nat.reduceAdd]
      refine wpRL_chunk 9 (by kernel_rfl) ?_
      simp only [takS, Nat.reduceAdd]
      repeat (first | go_big_quiet_skip | (go_big_quiet_want; first | (refine quiet_loadAny (t := 37) rfl _ _ _ rfl (fun w hw => rce_px (ov_rce rc1 w hw) hp) (by first | rfl | omega) ?_; simp only [Act.put, putS]; go_big_quiet_on) | (refine quiet_loadAny (t := 37) rfl _ _ _ rfl (fun w hw => rce_px (ov_rce rc2 w hw) hp) (by first | rfl | omega) ?_; simp only [Act.put, putS]; go_big_quiet_on) | (go_big_quiet_op; go_big_quiet_on)))
      refine wpQuiet_nil ?_
      refine wpRL_nil ?_
      intro wn hbn hE
      have hsz := B.size
      have hzn := hbn.size
      replace B := B.trans (hbn.mono B.size)
      clear hE
      try simp only [List.drop_succ_cons, List.drop_zero]
      refine NoPan.normal ?_
      go_wp2
      go_roundw
      case rel => exact ⟨k + 1, by omega, by go_num, B⟩
      case measure => simp [intOf]; omega
    · obtain rfl : k = L.length := by omega
      have q1 : decide (((L.length : Nat) : Int) < (L.length : Int)) = false := decide_eq_false (by omega)
      have q2 : decide (L.length < L.length) = false := decide_eq_false (by omega)
      go_upto_region 4 with fail
      refine wp_region_lit ?_
      try simp only [List.getElem_toArray, List.getElem_cons_zero, List.getElem_cons_succ]
      refine wpList_chunk 1 (by kernel_rfl) ?_
      simp only [takS, Nat.reduceAdd]
      repeat (first | go_big_quiet_skip | (go_big_quiet_want; first | (go_big_quiet_op; go_big_quiet_on)))
      refine wpQuiet_nil ?_
      refine wpList_nil ?_
      go_wp2
      go_ret
      exact ⟨rfl, B⟩
set_option maxHeartbeats 2000000 in
theorem P_SameS (c : Rc) (u u' : Value) (L : List Px) (w : World) (h : RSE pxE u L w) (h' : RSE pxE u' L w) (hn : L.length ≤ 100000) : Calls Try.prog 50 #[.agg (imgC c u), .agg (imgC c u')] w fun e w' => e = .returned (.bool true) ∧ Below w.heap.size w w' := by
  have B := Below.refl w.heap.size w
  have H1 := Lib.hid h
  have H2 := Lib.hid h'
  obtain ⟨a, cp, rfl, hc⟩ := h.len
  obtain ⟨a', cp', rfl, hc'⟩ := h'.len
  clear h h'
  have hq1 := eqls_rcA
  go_enter Try.func50, Try.ntmps50
  go_upto_region 0 with fail
  refine wp_region_lit ?_
  try simp only [List.getElem_toArray, List.getElem_cons_zero, List.getElem_cons_succ]
  (refine wpList_boxB (t := 68) rfl _ rfl _ rfl ?_; intro b_m2 wn hle hge ht hbn hzn; have hsz := B.size; replace B := B.trans (hbn.mono (by omega)); have hln := Nat.lt_of_lt_of_eq (Nat.lt_succ_self _) hzn.symm; clear hzn; have m2 := ht; clear ht; simp only [Act.put, putS])
  (refine wpList_boxB (t := 68) rfl _ rfl _ rfl ?_; intro b_m3 wn hle hge ht hbn hzn; have hsz := B.size; replace B := B.trans (hbn.mono (by omega)); have hln := Nat.lt_of_lt_of_eq (Nat.lt_succ_self _) hzn.symm; clear hzn; (try first | (have hlt := m2.lt; replace m2 := m2.of_eq (hbn.block _ (by omega))) | replace m2 := m2.below (hbn.mono hle)); have m3 := ht; clear ht; simp only [Act.put, putS])
  refine wpList_chunk 1 (by kernel_rfl) ?_
  simp only [takS, Nat.reduceAdd]
  repeat (first | go_big_quiet_skip | (go_big_quiet_want; first | (go_big_quiet_op; go_big_quiet_on)))
  refine wpQuiet_nil ?_
  refine wpList_nil ?_
  go_upto_region 1 with fail
  refine wp_region_lit ?_
  try simp only [List.getElem_toArray, List.getElem_cons_zero, List.getElem_cons_succ]
  refine wpList_chunk 10 (by kernel_rfl) ?_
  simp only [takS, Nat.reduceAdd]
  repeat (first | go_big_quiet_skip | (go_big_quiet_want; first | (refine quiet_loadAny (t := 64) rfl _ _ _ rfl (fun w hw => run_load_imR (ov_B m2 w hw)) (by first | rfl | omega) ?_; simp only [Act.put, putS]; go_big_quiet_on) | (refine quiet_loadAny (t := 64) rfl _ _ _ rfl (fun w hw => run_load_imR (ov_B m3 w hw)) (by first | rfl | omega) ?_; simp only [Act.put, putS]; go_big_quiet_on) | (refine quiet_loadAny (t := 66) rfl _ _ _ rfl (fun w hw => run_load_slp (imgC_u (ov_B m2 w hw))) (by first | rfl | omega) ?_; simp only [Act.put, putS]; go_big_quiet_on) | (refine quiet_loadAny (t := 66) rfl _ _ _ rfl (fun w hw => run_load_slp (imgC_u (ov_B m3 w hw))) (by first | rfl | omega) ?_; simp only [Act.put, putS]; go_big_quiet_on) | (go_big_quiet_op; go_big_quiet_on)))
  refine wpQuiet_nil ?_
  refine wpList_callF (by first | rfl | simp [Region.wanted, yielded]) rfl (enters_of Try.func98 (by kernel_rfl) rfl) (by simp only [List.map_toArray, List.map_cons, List.map_nil, Act.eval, Array.getD_eq_getD_getElem?, List.getElem?_toArray, List.getElem?_cons_succ, List.getElem?_cons_zero, Option.getD_some]; rfl) ?_
  refine (P_EqPx _ _ L _ (H1.out.below B) (H2.out.below B) hn).mono ?_
  rintro e wn ⟨rfl, hbn⟩
  have hsz := B.size
  have hzn := hbn.size
  replace B := B.trans (hbn.mono B.size)
  (try first | replace m2 := m2.of_eq (hbn.block _ m2.lt) | replace m2 := m2.below hbn)
  (try first | replace m3 := m3.of_eq (hbn.block _ m3.lt) | replace m3 := m3.below hbn)
  refine ⟨_, rfl, ?_⟩
  simp only [Act.put, putS]
  refine wpList_chunk 2 (by kernel_rfl) ?_
  simp only [takS, Nat.reduceAdd]
  repeat (first | go_big_quiet_skip | (go_big_quiet_want; first | (go_big_quiet_op; go_big_quiet_on)))
  refine wpQuiet_nil ?_
  refine wpList_nil ?_
  iterate 3 go_step
  go_ret
  exact ⟨rfl, B⟩
end Go.Proofs.Ytppccnjckiedlaa
/- A range over a function whose loop variable lies in memory: the round's head makes its block. -/
namespace Go.Proofs.Ytppccnjckiedlaa
open Go Go.RowKit
set_option linter.unusedVariables false
set_option linter.unusedSimpArgs false
section
variable {F : Fence} {n : Nat} {P : Program}
/-- The statement 'for x := range seq { .. }' whose head may lay new blocks: 'As x' says what the head leaves. -/
theorem rangeFunc_made {α : Type} {g : Operand} {ps : Array Tmp} {assign body : Code} {Q : Exit → Act → World → Prop} {a : Act} {w : World}
    (hro : F.round = none) (h1 : 1 ≤ n) {gf : Nat} {lb : Array Value} (hg : a.eval g = .func (.func gf) #[] lb) (hFg : F.fn gf) (eg : ∀ args w, (callFunc gf args).run P w = .ok (.enter gf args) w)
    {encs : α → Array Value} {Kp : World → World → Prop} {S Sp : List α → Prop} {N : Nat} {w0 : World} (hseq : SeqStopsK F (n - 1) P gf lb encs Kp S Sp N w0)
    (hKt : ∀ {A B C : World}, Kp A B → Kp B C → Kp A C) (hKb : ∀ (W : World) (l : Nat) (o o' : Obj), w.heap.size ≤ l → W.heap[l]? = some o → o.isCells = false → o.isWalk = false → Kp W (W.putObj l o'))
    (hKg : ∀ (A B : World), Below A.heap.size A B → Kp A B) (hb0 : Below w0.heap.size w0 w) (hps : ∀ x, (encs x).size = ps.size)
    (I : List α → World → Prop) (hI : OwnFrom w.heap.size I) (h0 : I [] w) (As : α → Act → World → Prop) (hAs : ∀ x, OwnFrom w.heap.size (As x))
    (hassign : ∀ (l : Nat) (pre : List α) (x : α) (W : World) (K : Act → World → Prop), I pre W → (∀ a' W', Below W.heap.size W W' → As x a' W' → K a' W') →
      assign.wpIn (F.inRound l) (n - 1 - 1) P (Exit.then K (fun _ _ _ => False)) { tmps := (ps.zip (encs x)).foldl (fun t (p, v) => t.setIfInBounds p v) a.tmps, defers := [] } W)
    (hbody : ∀ (l : Nat) (pre : List α) (x : α) (W : World) (a' : Act), I pre W → As x a' W → pre.length < N → body.wpIn (F.inRound l) (n - 1 - 1) P (ownPostK Kp I (fun _ _ _ => False) (pre ++ [x]) W) a' W)
    (hdone : ∀ (D : Nat) (xs : List α) (W : World), w.heap.size ≤ D → S xs → I xs W → W.heap[D]? = some (.deferred (some [])) → Q .normal { a with defers := { target := .collected D, args := #[] } :: a.defers } W) :
    (Code.rangeFunc g ps assign body).wpIn F n P Q a w := by
  refine wpIn_rangeFunc fun fn hfn => ?_
  rw [hro]
  obtain ⟨rc, hrc⟩ : ∃ rc : LoopState → Option Code → Loop, rc = fun st pe => { state := st, pending := pe, fn, tmps := a.tmps, params := ps, assign, body, defers := w.heap.size } := ⟨_, rfl⟩
  obtain ⟨W1, hW1⟩ : ∃ W1, (w.alloc (.deferred (some []))).alloc (.loop (rc .ready none)) = W1 := ⟨_, rfl⟩
  have blkL : W1.heap[w.heap.size + 1]? = some (.loop (rc .ready none)) := by
    have := World.alloc_heap_new (w.alloc (.deferred (some []))) (.loop (rc .ready none))
    rw [← hW1]
    rwa [World.size_alloc] at this
  have blkD : W1.heap[w.heap.size]? = some (.deferred (some [])) := by
    rw [← hW1]
    exact (Below.heap_alloc _ _ _ (by simp)).trans (World.alloc_heap_new w _)
  have grown : Below w0.heap.size w0 W1 := by
    rw [← hW1]
    exact hb0.trans ((((Below.refl _ w).alloc (Nat.le_refl _) _).alloc (by simp) _).mono hb0.size)
  have szW1 : w.heap.size ≤ W1.heap.size := by rw [← hW1]; simp; omega
  have start : I [] W1 := by rw [← hW1]; exact hI.alloc _ (hI.alloc _ h0)
  refine ⟨w.heap.size + 1, [{ target := .collected w.heap.size, args := #[] }], W1, { target := .fn (.func gf) lb, args := #[.func (.yield (w.heap.size + 1)) #[] #[]] }, W1, gf,
    #[.func (.yield (w.heap.size + 1)) #[] #[]] ++ lb, W1, ?_, ?_, ?_, ?_, fun _ => h1, ?_⟩
  · rw [← hW1, hrc]; exact run_enterLoop_outer _ _ _ _ _
  · simp only [resolve, hg]
    simp [go_sem]
  · intro f' hf'
    simp [Target.leads] at hf'
    subst hf'
    exact hFg
  · simp [invoke, go_sem, eg]
  have walks : ∀ {A : World} {row : Option Nat}, (∀ r, row = some r → W1.heap.size ≤ r ∧ ∃ o : Obj, A.heap[r]? = some o ∧ o.isWalk = true) → (∀ r, row = some r → w.heap.size ≤ r ∧ ∃ o : Obj, A.heap[r]? = some o ∧ o.isCells = false) := fun hr r e => by
    obtain ⟨hB, o, ho, hw⟩ := hr r e
    exact ⟨by omega, o, ho, Obj.not_cells_of_walk hw⟩
  refine (hseq (w.heap.size + 1)
    (fun pre W => I pre W ∧ W.heap[w.heap.size + 1]? = some (.loop (rc .ready none)) ∧ W.heap[w.heap.size]? = some (.deferred (some [])))
    (fun _ _ => False) W1 grown
    (fun s A B row hs hg' hr => ⟨hI s A B row hs.1 hg' (walks hr), (grownBy_keeps hg' (fun r e => (hr r e).2) hs.2.1 rfl).trans hs.2.1, (grownBy_keeps hg' (fun r e => (hr r e).2) hs.2.2 rfl).trans hs.2.2⟩)
    (fun _ _ _ _ hs _ _ => hs) ?_ ⟨start, blkL, blkD⟩).mono ?_
  · rintro pre x W ⟨hi, hl, hk⟩ hlen
    have hy := run_yield (P := P) (args := encs x) hl (by rw [hrc]; exact hps x)
    rw [hrc] at hy
    refine ⟨fn, _, assign, body, hy, roundIn_of_wpIn hfn (hassign _ pre x W _ hi fun a' V hb ha => ?_)⟩
    have hlV : V.heap[w.heap.size + 1]? = some (.loop (rc .ready none)) := (hb.block _ (Array.getElem?_eq_some_iff.1 hl).1).trans hl
    have hkV : V.heap[w.heap.size]? = some (.deferred (some [])) := (hb.block _ (Array.getElem?_eq_some_iff.1 hk).1).trans hk
    have hiV : I pre V := hI pre W V none hi (grown_of_below hb) (fun r e => by cases e)
    refine ⟨_, run_beginRound hlV (by rw [hrc]), ?_⟩
    obtain ⟨V1, hV1⟩ : ∃ V1, V.putObj (w.heap.size + 1) (.loop { rc .ready none with state := .busy }) = V1 := ⟨_, rfl⟩
    have hl1 : V1.heap[w.heap.size + 1]? = some (.loop { rc .ready none with state := .busy }) := by rw [← hV1]; exact World.putObj_heap_same (Array.getElem?_eq_some_iff.1 hlV).1
    have hk1 : V1.heap[w.heap.size]? = some (.deferred (some [])) := by rw [← hV1]; exact (World.putObj_heap_other (by omega)).trans hkV
    have hKp1 : Kp W V1 := hKt (hKg _ _ hb) (by rw [← hV1]; exact hKb _ _ _ _ (by omega) hlV rfl rfl)
    have hi1 : I pre V1 := by rw [← hV1]; exact hI.putObj _ hiV (by omega) hlV rfl
    have ha1 : As x a' V1 := by rw [← hV1]; exact (hAs x).putObj _ ha (by omega) hlV rfl
    rw [hV1]
    refine wpIn_mono (hbody _ pre x V1 a' hi1 ha1 hlen) ?_
    rintro e a3 W3 hp
    cases e with
    | normal =>
      obtain ⟨ko, kp, hi3⟩ := hp
      have hl3 := ko.same _ _ hl1 rfl
      have hk3 := ko.same _ _ hk1 rfl
      have he := run_endRound (P := P) none hl3
      rw [hrc] at he
      refine ⟨_, _, he, .inl ⟨rfl, ⟨hI.putObj _ hi3 (by omega) hl3 rfl, ?_, (World.putObj_heap_other (by omega)).trans hk3⟩, hKt (hKt hKp1 kp) (hKb _ _ _ _ (by omega) hl3 rfl rfl)⟩⟩
      rw [World.putObj_heap_same (Array.getElem?_eq_some_iff.1 hl3).1, hrc]
      rfl
    | ret => exact hp.2.elim
    | exit id => exact hp.2.elim
    | goto t => exact hp.2.elim
    | panic ch => exact hp.elim
    | outgrown => exact hp.elim
  · rintro e W2 ⟨⟨v, rfl⟩, ⟨xs, hS, hi, hl, hk⟩ | ⟨_, _, hf⟩⟩
    · have he := run_endLoop (P := P) hl (by rw [hrc]; simp)
      rw [hrc] at he
      exact ⟨none, _, he, hdone _ xs _ (Nat.le_refl _) hS (hI.putObj _ hi (by omega) hl rfl) ((World.putObj_heap_other (by omega)).trans hk)⟩
    · exact hf.elim
end
section
variable {P : Program} {ops : Array Oper} {md : Region.Mode} {Q : Exit → Act → World → Prop} {S : World → Prop} {t0 f : Nat} {a : Act} {w : World} {T : Array Bool}
theorem anyX_three (i j k : Nat) {oi oj ok : Oper} (hi : ops[i]? = some oi) (hj : ops[j]? = some oj) (hk : ops[k]? = some ok) (hr : Region.ready md ops T = [i, j, k]) (hgi : oi.guard = none) (hgj : oj.guard = none) (hgk : ok.guard = none)
    (Hi : ∀ K : Act → World → Prop, (∀ a w, (i < t0 → S w) ∧ wpAnyX P md ops (NoPan Q) S t0 f (T.setIfInBounds i true) a w → K a w) → oi.wp P a w K (NoPan Q))
    (Hj : ∀ K : Act → World → Prop, (∀ a w, (j < t0 → S w) ∧ wpAnyX P md ops (NoPan Q) S t0 f (T.setIfInBounds j true) a w → K a w) → oj.wp P a w K (NoPan Q))
    (Hk : ∀ K : Act → World → Prop, (∀ a w, (k < t0 → S w) ∧ wpAnyX P md ops (NoPan Q) S t0 f (T.setIfInBounds k true) a w → K a w) → ok.wp P a w K (NoPan Q)) : wpAnyX P md ops (NoPan Q) S t0 (f + 1) T a w := by
  refine ⟨fun h => (by rw [hr] at h; cases h), fun n hn => ?_⟩
  rw [hr] at hn
  have hn : n = i ∨ n = j ∨ n = k := by simpa using hn
  rcases hn with rfl | rfl | rfl
  · unfold wpOp
    rw [hi]
    simp only []
    rw [if_pos (by simp [Region.wanted, hgi])]
    exact .inl (Hi _ fun _ _ h => h)
  · unfold wpOp
    rw [hj]
    simp only []
    rw [if_pos (by simp [Region.wanted, hgj])]
    exact .inl (Hj _ fun _ _ h => h)
  · unfold wpOp
    rw [hk]
    simp only []
    rw [if_pos (by simp [Region.wanted, hgk])]
    exact .inl (Hk _ fun _ _ h => h)
end
/-- What keeps all but one block of cells, keeps whatever is no cells. -/
theorem KeepsOthers.chgB {b : Nat} {t : TypeId} {cs : Array Value} {W W' : World} (h : Chg b W W') (hb : AtB t W b cs) : KeepsOthers W W' :=
  ⟨h.size, fun k o hk ho => by
    by_cases e : k = b
    · subst e
      rw [show W.heap[k]? = _ from hb] at hk
      cases hk
      cases ho
    · exact (h.block k (Array.getElem?_eq_some_iff.1 hk).1 e).trans hk⟩
theorem KpB.below {b : Nat} {W W' : World} (h : Below W.heap.size W W') : KpB b W W' :=
  ⟨h.size, fun k o _ ho _ => (h.block k (Array.getElem?_eq_some_iff.1 ho).1).trans ho⟩
theorem RCells.own {g o : Nat} {ls : List TA} {A B : World} {row : Option Nat} (h : RCells g o ls A) (hn : 0 < ls.length) (hg : A.grownBy B row) (hr : ∀ r, row = some r → ∃ o : Obj, A.heap[r]? = some o ∧ o.isCells = false) : RCells g o ls B := by
  refine h.of_eq (hg.block g h.lt fun e => ?_)
  obtain ⟨x, hx, hc⟩ := hr g e.symm
  have h0 := h.2 0 hn 0 (by omega)
  have hs : ∃ v, (taC (aT ls 0))[0]? = some v := ⟨_, taC_x _⟩
  obtain ⟨v, hv⟩ := hs
  rw [hv] at h0
  have := cell_not h0 x hx
  rw [hc] at this
  cases this
theorem RS.own {v : Value} {ls : List TA} {A B : World} {row : Option Nat} (h : RS v ls A) (hg : A.grownBy B row) (hr : ∀ r, row = some r → ∃ o : Obj, A.heap[r]? = some o ∧ o.isCells = false) : RS v ls B := by
  rcases h with h | ⟨g, o, c, e, hc, sc⟩
  · exact .inl h
  · exact .inr ⟨g, o, c, e, hc, fun hn => (sc hn).own hn hg hr⟩
end Go.Proofs.Ytppccnjckiedlaa
/- The iterator over the tiles of a rectangle: its contract. -/
namespace Go.Proofs.Ytppccnjckiedlaa
open Go.RowKit Go.Shelf Pl
attribute [local go_sem] Oper.semAt_some
set_option linter.unusedVariables false
set_option linter.unusedSimpArgs false
set_option maxRecDepth 20000
/-- The first k of N. -/
def fpre (N k : Nat) : List (Fin N) := (List.finRange N).take k
theorem fpre_succ {N k : Nat} (h : k < N) : fpre N (k + 1) = fpre N k ++ [⟨k, h⟩] := by
  unfold fpre
  rw [List.take_succ_eq_append_getElem (by simp; omega)]
  simp
theorem fpre_length {N k : Nat} (h : k ≤ N) : (fpre N k).length = k := by unfold fpre; simp; omega
theorem fpre_zero (N : Nat) : fpre N 0 = [] := rfl
theorem fpre_all (N : Nat) : fpre N N = List.finRange N := by unfold fpre; rw [List.take_of_length_le (by simp)]
def posF (c : Rc) (i : Fin (tlN c)) : Int × Int := posP c i.val
theorem posF_all (c : Rc) : (List.finRange (tlN c)).map (posF c) = posL c := by
  unfold posL
  refine List.ext_getElem (by simp) fun i h1 h2 => ?_
  simp [posF]
set_option maxHeartbeats 4000000 in
theorem tiles_stops (c : Rc) (HF : Fits c) (bc b8 n : Nat) (hn1 : 1 ≤ n) (w : World) (r0 : AtB 64 w bc (rcA c)) (hb8 : b8 < w.heap.size) :
    SeqStopsK Fence.wide n Try.prog 108 #[.pointer (some ⟨bc, 0, none⟩)] (fun i : Fin (tlN c) => #[.agg #[.int .i64 (posF c i).1, .int .i64 (posF c i).2]]) (KpB b8) (fun xs => xs = List.finRange (tlN c)) (fun _ => True) (tlN c) w := fun l J Jx W0 hW hJa hJxa hY h0 => by
  have hb8 := Nat.lt_of_lt_of_le hb8 hW.size
  have r0 := r0.of_eq (hW.block _ r0.lt)
  have B := Below.refl W0.heap.size W0
  clear hW hJxa
  have hf := Lib.hid HF
  have HJ := Lib.hid (fun (W' : World) (hb : Below W0.heap.size W0 W') => AbidesFrom.below hJa h0 hb)
  have HY := Lib.hid hY
  clear h0 hJa hY
  obtain ⟨hew, hw0⟩ := area_wid (tl_fits HF)
  have hNle := tlN_le HF
  obtain ⟨f1, f2, f3, f4, f5, f6, f7, f8⟩ := HF
  have hE := Lib.hid (show emptyR c = false from (emptyR_not _).2 ⟨f1, f2⟩)
  obtain ⟨W, hW⟩ : ∃ W : Nat, (c.x1 - 1) / 8 + 1 - c.x0 / 8 = (W : Int) := ⟨((c.x1 - 1) / 8 + 1 - c.x0 / 8).toNat, by omega⟩
  obtain ⟨H, hH⟩ : ∃ H : Nat, (c.y1 - 1) / 8 + 1 - c.y0 / 8 = (H : Int) := ⟨((c.y1 - 1) / 8 + 1 - c.y0 / 8).toNat, by omega⟩
  have eW : widN (tlR c) = W := by unfold widN tlR; simp only; rw [hW]; exact Int.toNat_natCast _
  have eH : ((tlR c).y1 - (tlR c).y0).toNat = H := by unfold tlR; simp only; rw [hH]; exact Int.toNat_natCast _
  rw [eW, eH] at hew
  rw [eW] at hw0
  change tlN c = W * H at hew
  have HR := Lib.hid (fun (k j : Nat) (hj : j < W) => by
    have := tl_row (c := c) hf.out (k := k) (j := j) (by rw [eW]; exact hj)
    rw [eW] at this
    exact this)
  have wf1 := Lib.hid (show (Lit.int .i64 c.x0).wf = true from wf_mk (by omega) (by omega))
  have wf2 := Lib.hid (show (Lit.int .i64 c.y0).wf = true from wf_mk (by omega) (by omega))
  have wf3 := Lib.hid (show (Lit.int .i64 (c.x1 - 1)).wf = true from wf_mk (by omega) (by omega))
  have wf4 := Lib.hid (show (Lit.int .i64 (c.y1 - 1)).wf = true from wf_mk (by omega) (by omega))
  refine callsIn_wide.2 ?_
  show Calls Try.prog 108 #[.func (.yield l) #[] #[], .pointer (some ⟨bc, 0, none⟩)] W0 _
  go_enter Try.func108, Try.ntmps108
  go_upto_region 0 with fail
  refine wp_region_lit ?_
  try simp only [List.getElem_toArray, List.getElem_cons_zero, List.getElem_cons_succ]
  refine wpList_chunk 1 (by kernel_rfl) ?_
  simp only [takS, Nat.reduceAdd]
  repeat (first | go_big_quiet_skip | (go_big_quiet_want; first | (refine quiet_loadAny (t := 64) rfl _ _ _ rfl (fun w hw => run_load_B (ov_B r0 w hw) Try.isAgg64 (by kernel_rfl)) (by rfl) ?_; simp only [Act.put, putS]; go_big_quiet_on) | (go_big_quiet_op; go_big_quiet_on)))
  refine wpQuiet_nil ?_
  refine wpList_callF (by first | rfl | simp [Region.wanted, yielded]) rfl (enters_of Try.func105 (by kernel_rfl) rfl) (by simp only [List.map_toArray, List.map_cons, List.map_nil, Act.eval, Array.getD_eq_getD_getElem?, List.getElem?_toArray, List.getElem?_cons_succ, List.getElem?_cons_zero, Option.getD_some]; rfl) ?_
  refine (P_EmptyB c false _ hE.out).mono ?_
  rintro e wn ⟨rfl, hbn⟩
  have hsz := B.size
  have hzn := hbn.size
  replace B := B.trans (hbn.mono B.size)
  (try first | replace r0 := r0.of_eq (hbn.block _ r0.lt) | replace r0 := r0.below hbn)
  refine ⟨_, rfl, ?_⟩
  simp only [Act.put, putS]
  refine wpList_nil ?_
  have hsw := hbn.size
  go_upto_region 1 with fail
  have r0B := r0
  go_cut [3, 4] from 9 to 29 (fun s3 s4 wx => ∃ b_p3 b_p4, s3 = .pointer (some ⟨b_p3, 0, none⟩) ∧ s4 = .pointer (some ⟨b_p4, 0, none⟩) ∧ Below W0.heap.size W0 wx ∧ W0.heap.size ≤ b_p3 ∧ W0.heap.size ≤ b_p4 ∧ AtB 24 wx b_p3 #[.int .i64 (c.x0 / 8), .int .i64 (c.y0 / 8)] ∧ AtB 24 wx b_p4 #[.int .i64 ((c.x1 - 1) / 8), .int .i64 ((c.y1 - 1) / 8)])
  case first =>
    refine wp_region_X0 16 #[false, false, false, false, false, false, false, false, false, false, false, false, false, false, false, false, false, false] (by kernel_rfl) (by kernel_rfl) ?_
    intro wn hbn
    have hX := hbn
    have hsz := B.size
    have hzn := hbn.size
    replace B := B.trans (hbn.mono B.size)
    try first | replace r0 := r0.of_eq (hbn.block _ r0.lt) | replace r0 := r0.below hbn
    simp only [List.length_cons, List.length_nil, Nat.reduceAdd]
    refine anyX_take 0 rfl (by kernel_rfl) ⟨_, ov_of hX⟩ ?_
    intro K hK
    try simp only [List.getElem_toArray, List.getElem_cons_zero, List.getElem_cons_succ]
    (first | (refine quiet_loadAny (t := 64) rfl _ _ _ rfl (fun w hw => run_load_B (ov_B r0B w hw) Try.isAgg64 (by kernel_rfl)) (by rfl) ?_; simp only [Act.put, putS]; go_big_quiet_on) | (refine quiet_loadAny (t := 3) rfl _ _ _ rfl (fun w hw => run_load_int ((ov_B r0B w hw).cellL 0 rfl)) (by rfl) ?_; simp only [Act.put, putS]; go_big_quiet_on) | (refine quiet_loadAny (t := 3) rfl _ _ _ rfl (fun w hw => run_load_int ((ov_B r0B w hw).cellL 1 rfl)) (by rfl) ?_; simp only [Act.put, putS]; go_big_quiet_on) | (refine quiet_loadAny (t := 3) rfl _ _ _ rfl (fun w hw => run_load_int ((ov_B r0B w hw).cellL 2 rfl)) (by rfl) ?_; simp only [Act.put, putS]; go_big_quiet_on) | (refine quiet_loadAny (t := 3) rfl _ _ _ rfl (fun w hw => run_load_int ((ov_B r0B w hw).cellL 3 rfl)) (by rfl) ?_; simp only [Act.put, putS]; go_big_quiet_on) | (go_big_quiet_op; go_big_quiet_on))
    simp only [Act.put, putS]
    refine anyX_take 1 rfl (by kernel_rfl) ⟨_, ov_of hX⟩ ?_
    intro K hK
    try simp only [List.getElem_toArray, List.getElem_cons_zero, List.getElem_cons_succ]
    (first | (refine quiet_loadAny (t := 64) rfl _ _ _ rfl (fun w hw => run_load_B (ov_B r0B w hw) Try.isAgg64 (by kernel_rfl)) (by rfl) ?_; simp only [Act.put, putS]; go_big_quiet_on) | (refine quiet_loadAny (t := 3) rfl _ _ _ rfl (fun w hw => run_load_int ((ov_B r0B w hw).cellL 0 rfl)) (by rfl) ?_; simp only [Act.put, putS]; go_big_quiet_on) | (refine quiet_loadAny (t := 3) rfl _ _ _ rfl (fun w hw => run_load_int ((ov_B r0B w hw).cellL 1 rfl)) (by rfl) ?_; simp only [Act.put, putS]; go_big_quiet_on) | (refine quiet_loadAny (t := 3) rfl _ _ _ rfl (fun w hw => run_load_int ((ov_B r0B w hw).cellL 2 rfl)) (by rfl) ?_; simp only [Act.put, putS]; go_big_quiet_on) | (refine quiet_loadAny (t := 3) rfl _ _ _ rfl (fun w hw => run_load_int ((ov_B r0B w hw).cellL 3 rfl)) (by rfl) ?_; simp only [Act.put, putS]; go_big_quiet_on) | (go_big_quiet_op; go_big_quiet_on))
    simp only [Act.put, putS]
    refine anyX_take 2 rfl (by kernel_rfl) ⟨_, ov_of hX⟩ ?_
    intro K hK
    try simp only [List.getElem_toArray, List.getElem_cons_zero, List.getElem_cons_succ]
    (first | (refine quiet_loadAny (t := 64) rfl _ _ _ rfl (fun w hw => run_load_B (ov_B r0B w hw) Try.isAgg64 (by kernel_rfl)) (by rfl) ?_; simp only [Act.put, putS]; go_big_quiet_on) | (refine quiet_loadAny (t := 3) rfl _ _ _ rfl (fun w hw => run_load_int ((ov_B r0B w hw).cellL 0 rfl)) (by rfl) ?_; simp only [Act.put, putS]; go_big_quiet_on) | (refine quiet_loadAny (t := 3) rfl _ _ _ rfl (fun w hw => run_load_int ((ov_B r0B w hw).cellL 1 rfl)) (by rfl) ?_; simp only [Act.put, putS]; go_big_quiet_on) | (refine quiet_loadAny (t := 3) rfl _ _ _ rfl (fun w hw => run_load_int ((ov_B r0B w hw).cellL 2 rfl)) (by rfl) ?_; simp only [Act.put, putS]; go_big_quiet_on) | (refine quiet_loadAny (t := 3) rfl _ _ _ rfl (fun w hw => run_load_int ((ov_B r0B w hw).cellL 3 rfl)) (by rfl) ?_; simp only [Act.put, putS]; go_big_quiet_on) | (go_big_quiet_op; go_big_quiet_on))
    simp only [Act.put, putS]
    refine anyX_take 3 rfl (by kernel_rfl) ⟨_, ov_of hX⟩ ?_
    intro K hK
    try simp only [List.getElem_toArray, List.getElem_cons_zero, List.getElem_cons_succ]
    (first | (refine quiet_loadAny (t := 64) rfl _ _ _ rfl (fun w hw => run_load_B (ov_B r0B w hw) Try.isAgg64 (by kernel_rfl)) (by rfl) ?_; simp only [Act.put, putS]; go_big_quiet_on) | (refine quiet_loadAny (t := 3) rfl _ _ _ rfl (fun w hw => run_load_int ((ov_B r0B w hw).cellL 0 rfl)) (by rfl) ?_; simp only [Act.put, putS]; go_big_quiet_on) | (refine quiet_loadAny (t := 3) rfl _ _ _ rfl (fun w hw => run_load_int ((ov_B r0B w hw).cellL 1 rfl)) (by rfl) ?_; simp only [Act.put, putS]; go_big_quiet_on) | (refine quiet_loadAny (t := 3) rfl _ _ _ rfl (fun w hw => run_load_int ((ov_B r0B w hw).cellL 2 rfl)) (by rfl) ?_; simp only [Act.put, putS]; go_big_quiet_on) | (refine quiet_loadAny (t := 3) rfl _ _ _ rfl (fun w hw => run_load_int ((ov_B r0B w hw).cellL 3 rfl)) (by rfl) ?_; simp only [Act.put, putS]; go_big_quiet_on) | (go_big_quiet_op; go_big_quiet_on))
    simp only [Act.put, putS]
    refine anyX_take 4 rfl (by kernel_rfl) ⟨_, ov_of hX⟩ ?_
    intro K hK
    try simp only [List.getElem_toArray, List.getElem_cons_zero, List.getElem_cons_succ]
    (first | (refine quiet_loadAny (t := 64) rfl _ _ _ rfl (fun w hw => run_load_B (ov_B r0B w hw) Try.isAgg64 (by kernel_rfl)) (by rfl) ?_; simp only [Act.put, putS]; go_big_quiet_on) | (refine quiet_loadAny (t := 3) rfl _ _ _ rfl (fun w hw => run_load_int ((ov_B r0B w hw).cellL 0 rfl)) (by rfl) ?_; simp only [Act.put, putS]; go_big_quiet_on) | (refine quiet_loadAny (t := 3) rfl _ _ _ rfl (fun w hw => run_load_int ((ov_B r0B w hw).cellL 1 rfl)) (by rfl) ?_; simp only [Act.put, putS]; go_big_quiet_on) | (refine quiet_loadAny (t := 3) rfl _ _ _ rfl (fun w hw => run_load_int ((ov_B r0B w hw).cellL 2 rfl)) (by rfl) ?_; simp only [Act.put, putS]; go_big_quiet_on) | (refine quiet_loadAny (t := 3) rfl _ _ _ rfl (fun w hw => run_load_int ((ov_B r0B w hw).cellL 3 rfl)) (by rfl) ?_; simp only [Act.put, putS]; go_big_quiet_on) | (go_big_quiet_op; go_big_quiet_on))
    simp only [Act.put, putS]
    refine anyX_take 6 rfl (by kernel_rfl) ⟨_, ov_of hX⟩ ?_
    intro K hK
    try simp only [List.getElem_toArray, List.getElem_cons_zero, List.getElem_cons_succ]
    (first | (refine quiet_loadAny (t := 64) rfl _ _ _ rfl (fun w hw => run_load_B (ov_B r0B w hw) Try.isAgg64 (by kernel_rfl)) (by rfl) ?_; simp only [Act.put, putS]; go_big_quiet_on) | (refine quiet_loadAny (t := 3) rfl _ _ _ rfl (fun w hw => run_load_int ((ov_B r0B w hw).cellL 0 rfl)) (by rfl) ?_; simp only [Act.put, putS]; go_big_quiet_on) | (refine quiet_loadAny (t := 3) rfl _ _ _ rfl (fun w hw => run_load_int ((ov_B r0B w hw).cellL 1 rfl)) (by rfl) ?_; simp only [Act.put, putS]; go_big_quiet_on) | (refine quiet_loadAny (t := 3) rfl _ _ _ rfl (fun w hw => run_load_int ((ov_B r0B w hw).cellL 2 rfl)) (by rfl) ?_; simp only [Act.put, putS]; go_big_quiet_on) | (refine quiet_loadAny (t := 3) rfl _ _ _ rfl (fun w hw => run_load_int ((ov_B r0B w hw).cellL 3 rfl)) (by rfl) ?_; simp only [Act.put, putS]; go_big_quiet_on) | (go_big_quiet_op; go_big_quiet_on))
    simp only [Act.put, putS]
    refine anyX_take 7 rfl (by kernel_rfl) ⟨_, ov_of hX⟩ ?_
    intro K hK
    try simp only [List.getElem_toArray, List.getElem_cons_zero, List.getElem_cons_succ]
    (first | (refine quiet_loadAny (t := 64) rfl _ _ _ rfl (fun w hw => run_load_B (ov_B r0B w hw) Try.isAgg64 (by kernel_rfl)) (by rfl) ?_; simp only [Act.put, putS]; go_big_quiet_on) | (refine quiet_loadAny (t := 3) rfl _ _ _ rfl (fun w hw => run_load_int ((ov_B r0B w hw).cellL 0 rfl)) (by rfl) ?_; simp only [Act.put, putS]; go_big_quiet_on) | (refine quiet_loadAny (t := 3) rfl _ _ _ rfl (fun w hw => run_load_int ((ov_B r0B w hw).cellL 1 rfl)) (by rfl) ?_; simp only [Act.put, putS]; go_big_quiet_on) | (refine quiet_loadAny (t := 3) rfl _ _ _ rfl (fun w hw => run_load_int ((ov_B r0B w hw).cellL 2 rfl)) (by rfl) ?_; simp only [Act.put, putS]; go_big_quiet_on) | (refine quiet_loadAny (t := 3) rfl _ _ _ rfl (fun w hw => run_load_int ((ov_B r0B w hw).cellL 3 rfl)) (by rfl) ?_; simp only [Act.put, putS]; go_big_quiet_on) | (go_big_quiet_op; go_big_quiet_on))
    simp only [Act.put, putS]
    refine anyX_take 8 rfl (by kernel_rfl) ⟨_, ov_of hX⟩ ?_
    intro K hK
    try simp only [List.getElem_toArray, List.getElem_cons_zero, List.getElem_cons_succ]
    (first | (refine quiet_loadAny (t := 64) rfl _ _ _ rfl (fun w hw => run_load_B (ov_B r0B w hw) Try.isAgg64 (by kernel_rfl)) (by rfl) ?_; simp only [Act.put, putS]; go_big_quiet_on) | (refine quiet_loadAny (t := 3) rfl _ _ _ rfl (fun w hw => run_load_int ((ov_B r0B w hw).cellL 0 rfl)) (by rfl) ?_; simp only [Act.put, putS]; go_big_quiet_on) | (refine quiet_loadAny (t := 3) rfl _ _ _ rfl (fun w hw => run_load_int ((ov_B r0B w hw).cellL 1 rfl)) (by rfl) ?_; simp only [Act.put, putS]; go_big_quiet_on) | (refine quiet_loadAny (t := 3) rfl _ _ _ rfl (fun w hw => run_load_int ((ov_B r0B w hw).cellL 2 rfl)) (by rfl) ?_; simp only [Act.put, putS]; go_big_quiet_on) | (refine quiet_loadAny (t := 3) rfl _ _ _ rfl (fun w hw => run_load_int ((ov_B r0B w hw).cellL 3 rfl)) (by rfl) ?_; simp only [Act.put, putS]; go_big_quiet_on) | (go_big_quiet_op; go_big_quiet_on))
    simp only [Act.put, putS]
    refine anyX_take 9 rfl (by kernel_rfl) ⟨_, ov_of hX⟩ ?_
    intro K hK
    try simp only [List.getElem_toArray, List.getElem_cons_zero, List.getElem_cons_succ]
    (first | (refine quiet_loadAny (t := 64) rfl _ _ _ rfl (fun w hw => run_load_B (ov_B r0B w hw) Try.isAgg64 (by kernel_rfl)) (by rfl) ?_; simp only [Act.put, putS]; go_big_quiet_on) | (refine quiet_loadAny (t := 3) rfl _ _ _ rfl (fun w hw => run_load_int ((ov_B r0B w hw).cellL 0 rfl)) (by rfl) ?_; simp only [Act.put, putS]; go_big_quiet_on) | (refine quiet_loadAny (t := 3) rfl _ _ _ rfl (fun w hw => run_load_int ((ov_B r0B w hw).cellL 1 rfl)) (by rfl) ?_; simp only [Act.put, putS]; go_big_quiet_on) | (refine quiet_loadAny (t := 3) rfl _ _ _ rfl (fun w hw => run_load_int ((ov_B r0B w hw).cellL 2 rfl)) (by rfl) ?_; simp only [Act.put, putS]; go_big_quiet_on) | (refine quiet_loadAny (t := 3) rfl _ _ _ rfl (fun w hw => run_load_int ((ov_B r0B w hw).cellL 3 rfl)) (by rfl) ?_; simp only [Act.put, putS]; go_big_quiet_on) | (go_big_quiet_op; go_big_quiet_on))
    simp only [Act.put, putS]
    refine anyX_take 10 rfl (by kernel_rfl) ⟨_, ov_of hX⟩ ?_
    intro K hK
    try simp only [List.getElem_toArray, List.getElem_cons_zero, List.getElem_cons_succ]
    (first | (refine quiet_loadAny (t := 64) rfl _ _ _ rfl (fun w hw => run_load_B (ov_B r0B w hw) Try.isAgg64 (by kernel_rfl)) (by rfl) ?_; simp only [Act.put, putS]; go_big_quiet_on) | (refine quiet_loadAny (t := 3) rfl _ _ _ rfl (fun w hw => run_load_int ((ov_B r0B w hw).cellL 0 rfl)) (by rfl) ?_; simp only [Act.put, putS]; go_big_quiet_on) | (refine quiet_loadAny (t := 3) rfl _ _ _ rfl (fun w hw => run_load_int ((ov_B r0B w hw).cellL 1 rfl)) (by rfl) ?_; simp only [Act.put, putS]; go_big_quiet_on) | (refine quiet_loadAny (t := 3) rfl _ _ _ rfl (fun w hw => run_load_int ((ov_B r0B w hw).cellL 2 rfl)) (by rfl) ?_; simp only [Act.put, putS]; go_big_quiet_on) | (refine quiet_loadAny (t := 3) rfl _ _ _ rfl (fun w hw => run_load_int ((ov_B r0B w hw).cellL 3 rfl)) (by rfl) ?_; simp only [Act.put, putS]; go_big_quiet_on) | (go_big_quiet_op; go_big_quiet_on))
    simp only [Act.put, putS]
    refine anyX_take 11 rfl (by kernel_rfl) ⟨_, ov_of hX⟩ ?_
    intro K hK
    try simp only [List.getElem_toArray, List.getElem_cons_zero, List.getElem_cons_succ]
    (first | (refine quiet_loadAny (t := 64) rfl _ _ _ rfl (fun w hw => run_load_B (ov_B r0B w hw) Try.isAgg64 (by kernel_rfl)) (by rfl) ?_; simp only [Act.put, putS]; go_big_quiet_on) | (refine quiet_loadAny (t := 3) rfl _ _ _ rfl (fun w hw => run_load_int ((ov_B r0B w hw).cellL 0 rfl)) (by rfl) ?_; simp only [Act.put, putS]; go_big_quiet_on) | (refine quiet_loadAny (t := 3) rfl _ _ _ rfl (fun w hw => run_load_int ((ov_B r0B w hw).cellL 1 rfl)) (by rfl) ?_; simp only [Act.put, putS]; go_big_quiet_on) | (refine quiet_loadAny (t := 3) rfl _ _ _ rfl (fun w hw => run_load_int ((ov_B r0B w hw).cellL 2 rfl)) (by rfl) ?_; simp only [Act.put, putS]; go_big_quiet_on) | (refine quiet_loadAny (t := 3) rfl _ _ _ rfl (fun w hw => run_load_int ((ov_B r0B w hw).cellL 3 rfl)) (by rfl) ?_; simp only [Act.put, putS]; go_big_quiet_on) | (go_big_quiet_op; go_big_quiet_on))
    simp only [Act.put, putS]
    refine anyX_take 12 rfl (by kernel_rfl) ⟨_, ov_of hX⟩ ?_
    intro K hK
    try simp only [List.getElem_toArray, List.getElem_cons_zero, List.getElem_cons_succ]
    (first | (refine quiet_loadAny (t := 64) rfl _ _ _ rfl (fun w hw => run_load_B (ov_B r0B w hw) Try.isAgg64 (by kernel_rfl)) (by rfl) ?_; simp only [Act.put, putS]; go_big_quiet_on) | (refine quiet_loadAny (t := 3) rfl _ _ _ rfl (fun w hw => run_load_int ((ov_B r0B w hw).cellL 0 rfl)) (by rfl) ?_; simp only [Act.put, putS]; go_big_quiet_on) | (refine quiet_loadAny (t := 3) rfl _ _ _ rfl (fun w hw => run_load_int ((ov_B r0B w hw).cellL 1 rfl)) (by rfl) ?_; simp only [Act.put, putS]; go_big_quiet_on) | (refine quiet_loadAny (t := 3) rfl _ _ _ rfl (fun w hw => run_load_int ((ov_B r0B w hw).cellL 2 rfl)) (by rfl) ?_; simp only [Act.put, putS]; go_big_quiet_on) | (refine quiet_loadAny (t := 3) rfl _ _ _ rfl (fun w hw => run_load_int ((ov_B r0B w hw).cellL 3 rfl)) (by rfl) ?_; simp only [Act.put, putS]; go_big_quiet_on) | (go_big_quiet_op; go_big_quiet_on))
    simp only [Act.put, putS]
    refine anyX_three 5 14 15 rfl rfl rfl (by kernel_rfl) rfl rfl rfl (fun K hK => ?_) (fun K hK => ?_) (fun K hK => ?_)
    · skip
      try simp only [List.getElem_toArray, List.getElem_cons_zero, List.getElem_cons_succ]
      go_simp
      go_at_call 63
      refine (P_AtO c.x0 c.y0 _ wf1.out wf2.out).mono ?_
      rintro e wn ⟨rfl, hbn⟩
      have hsz := B.size
      have hzn := hbn.size
      have hsx := hX.size
      replace B := B.trans (hbn.mono B.size)
      replace hX := hX.trans (hbn.mono hX.size)
      try first | replace p3 := p3.of_eq (hbn.block _ p3.lt) | replace p3 := p3.below hbn
      try first | replace p4 := p4.of_eq (hbn.block _ p4.lt) | replace p4 := p4.below hbn
      refine hK _ _ ⟨fun _ => ⟨_, ov_of hX⟩, ?_⟩
      clear hK K
      try simp only [List.getElem_toArray, List.getElem_cons_zero, List.getElem_cons_succ]
      simp only [Act.put, putS]
      refine anyX_three 13 14 15 rfl rfl rfl (by kernel_rfl) rfl rfl rfl (fun K hK => ?_) (fun K hK => ?_) (fun K hK => ?_)
      · skip
        try simp only [List.getElem_toArray, List.getElem_cons_zero, List.getElem_cons_succ]
        go_simp
        go_at_call 63
        refine (P_AtO (c.x1 - 1) (c.y1 - 1) _ wf3.out wf4.out).mono ?_
        rintro e wn ⟨rfl, hbn⟩
        have hsz := B.size
        have hzn := hbn.size
        have hsx := hX.size
        replace B := B.trans (hbn.mono B.size)
        replace hX := hX.trans (hbn.mono hX.size)
        try first | replace p3 := p3.of_eq (hbn.block _ p3.lt) | replace p3 := p3.below hbn
        try first | replace p4 := p4.of_eq (hbn.block _ p4.lt) | replace p4 := p4.below hbn
        refine hK _ _ ⟨fun _ => ⟨_, ov_of hX⟩, ?_⟩
        clear hK K
        try simp only [List.getElem_toArray, List.getElem_cons_zero, List.getElem_cons_succ]
        simp only [Act.put, putS]
        refine anyX_two 14 15 rfl rfl (by kernel_rfl) rfl rfl (fun K hK => ?_) (fun K hK => ?_)
        · skip
          try simp only [List.getElem_toArray, List.getElem_cons_zero, List.getElem_cons_succ]
          refine owp_allocBk (t := 24) _ (run_alloc_Ps _ _ rfl) ?_
          intro b_p3 wn hle hge ht hbn hzn
          have hsz := B.size
          have hsx := hX.size
          replace B := B.trans (hbn.mono (by omega))
          replace hX := hX.trans (hbn.mono (by omega))
          try first | (have hlt := p3.lt; replace p3 := p3.of_eq (hbn.block _ (by omega))) | replace p3 := p3.below (hbn.mono hle)
          try first | (have hlt := p4.lt; replace p4 := p4.of_eq (hbn.block _ (by omega))) | replace p4 := p4.below (hbn.mono hle)
          have p3 := ht
          clear ht
          refine hK _ _ ⟨fun _ => ⟨_, ov_of hX⟩, ?_⟩
          clear hK K
          try simp only [List.getElem_toArray, List.getElem_cons_zero, List.getElem_cons_succ]
          simp only [Act.put, putS]
          refine anyX_next 15 rfl (by kernel_rfl) rfl (fun K hK => ?_)
          try simp only [List.getElem_toArray, List.getElem_cons_zero, List.getElem_cons_succ]
          refine owp_allocBk (t := 24) _ (run_alloc_Ps _ _ rfl) ?_
          intro b_p4 wn hle hge ht hbn hzn
          have hsz := B.size
          have hsx := hX.size
          replace B := B.trans (hbn.mono (by omega))
          replace hX := hX.trans (hbn.mono (by omega))
          try first | (have hlt := p3.lt; replace p3 := p3.of_eq (hbn.block _ (by omega))) | replace p3 := p3.below (hbn.mono hle)
          try first | (have hlt := p4.lt; replace p4 := p4.of_eq (hbn.block _ (by omega))) | replace p4 := p4.below (hbn.mono hle)
          have p4 := ht
          clear ht
          refine hK _ _ ⟨fun _ => ⟨_, ov_of hX⟩, ?_⟩
          clear hK K
          try simp only [List.getElem_toArray, List.getElem_cons_zero, List.getElem_cons_succ]
          simp only [Act.put, putS]
          refine anyX_seq (by kernel_rfl) (by kernel_rfl) ?_
          simp only [List.drop_succ_cons, List.drop_zero]
          go_wp2_with (first | (refine wpList_storeB (t := 24) rfl _ _ rfl _ rfl _ rfl p3 (by kernel_rfl) rfl (by simp [Value.oneCell']) ?_; clear p3; intro wn ht hcn hzn; have hsz := B.size; replace hzn := Nat.le_of_eq hzn.symm; replace B := Chg.below B hcn (by omega) B.size; (try replace p4 := p4.of_eq (hcn.block _ p4.lt (by omega))); have p3 := ht; clear ht; simp only [Act.put, putS]) | (refine wpList_storeB (t := 24) rfl _ _ rfl _ rfl _ rfl p4 (by kernel_rfl) rfl (by simp [Value.oneCell']) ?_; clear p4; intro wn ht hcn hzn; have hsz := B.size; replace hzn := Nat.le_of_eq hzn.symm; replace B := Chg.below B hcn (by omega) B.size; (try replace p3 := p3.of_eq (hcn.block _ p3.lt (by omega))); have p4 := ht; clear ht; simp only [Act.put, putS]) | fail)
          refine NoPan.normal ?_
          go_wp2_with fail
          go_meet
          exact ⟨b_p3, b_p4, rfl, rfl, B, by omega, by omega, p3, p4⟩
        · skip
          try simp only [List.getElem_toArray, List.getElem_cons_zero, List.getElem_cons_succ]
          refine owp_allocBk (t := 24) _ (run_alloc_Ps _ _ rfl) ?_
          intro b_p4 wn hle hge ht hbn hzn
          have hsz := B.size
          have hsx := hX.size
          replace B := B.trans (hbn.mono (by omega))
          replace hX := hX.trans (hbn.mono (by omega))
          try first | (have hlt := p3.lt; replace p3 := p3.of_eq (hbn.block _ (by omega))) | replace p3 := p3.below (hbn.mono hle)
          try first | (have hlt := p4.lt; replace p4 := p4.of_eq (hbn.block _ (by omega))) | replace p4 := p4.below (hbn.mono hle)
          have p4 := ht
          clear ht
          refine hK _ _ ⟨fun _ => ⟨_, ov_of hX⟩, ?_⟩
          clear hK K
          try simp only [List.getElem_toArray, List.getElem_cons_zero, List.getElem_cons_succ]
          simp only [Act.put, putS]
          refine anyX_next 14 rfl (by kernel_rfl) rfl (fun K hK => ?_)
          try simp only [List.getElem_toArray, List.getElem_cons_zero, List.getElem_cons_succ]
          refine owp_allocBk (t := 24) _ (run_alloc_Ps _ _ rfl) ?_
          intro b_p3 wn hle hge ht hbn hzn
          have hsz := B.size
          have hsx := hX.size
          replace B := B.trans (hbn.mono (by omega))
          replace hX := hX.trans (hbn.mono (by omega))
          try first | (have hlt := p3.lt; replace p3 := p3.of_eq (hbn.block _ (by omega))) | replace p3 := p3.below (hbn.mono hle)
          try first | (have hlt := p4.lt; replace p4 := p4.of_eq (hbn.block _ (by omega))) | replace p4 := p4.below (hbn.mono hle)
          have p3 := ht
          clear ht
          refine hK _ _ ⟨fun _ => ⟨_, ov_of hX⟩, ?_⟩
          clear hK K
          try simp only [List.getElem_toArray, List.getElem_cons_zero, List.getElem_cons_succ]
          simp only [Act.put, putS]
          refine anyX_seq (by kernel_rfl) (by kernel_rfl) ?_
          simp only [List.drop_succ_cons, List.drop_zero]
          go_wp2_with (first | (refine wpList_storeB (t := 24) rfl _ _ rfl _ rfl _ rfl p3 (by kernel_rfl) rfl (by simp [Value.oneCell']) ?_; clear p3; intro wn ht hcn hzn; have hsz := B.size; replace hzn := Nat.le_of_eq hzn.symm; replace B := Chg.below B hcn (by omega) B.size; (try replace p4 := p4.of_eq (hcn.block _ p4.lt (by omega))); have p3 := ht; clear ht; simp only [Act.put, putS]) | (refine wpList_storeB (t := 24) rfl _ _ rfl _ rfl _ rfl p4 (by kernel_rfl) rfl (by simp [Value.oneCell']) ?_; clear p4; intro wn ht hcn hzn; have hsz := B.size; replace hzn := Nat.le_of_eq hzn.symm; replace B := Chg.below B hcn (by omega) B.size; (try replace p3 := p3.of_eq (hcn.block _ p3.lt (by omega))); have p4 := ht; clear ht; simp only [Act.put, putS]) | fail)
          refine NoPan.normal ?_
          go_wp2_with fail
          go_meet
          exact ⟨b_p3, b_p4, rfl, rfl, B, by omega, by omega, p3, p4⟩
      · skip
        try simp only [List.getElem_toArray, List.getElem_cons_zero, List.getElem_cons_succ]
        refine owp_allocBk (t := 24) _ (run_alloc_Ps _ _ rfl) ?_
        intro b_p3 wn hle hge ht hbn hzn
        have hsz := B.size
        have hsx := hX.size
        replace B := B.trans (hbn.mono (by omega))
        replace hX := hX.trans (hbn.mono (by omega))
        try first | (have hlt := p3.lt; replace p3 := p3.of_eq (hbn.block _ (by omega))) | replace p3 := p3.below (hbn.mono hle)
        try first | (have hlt := p4.lt; replace p4 := p4.of_eq (hbn.block _ (by omega))) | replace p4 := p4.below (hbn.mono hle)
        have p3 := ht
        clear ht
        refine hK _ _ ⟨fun _ => ⟨_, ov_of hX⟩, ?_⟩
        clear hK K
        try simp only [List.getElem_toArray, List.getElem_cons_zero, List.getElem_cons_succ]
        simp only [Act.put, putS]
        refine anyX_two 13 15 rfl rfl (by kernel_rfl) rfl rfl (fun K hK => ?_) (fun K hK => ?_)
        · skip
          try simp only [List.getElem_toArray, List.getElem_cons_zero, List.getElem_cons_succ]
          go_simp
          go_at_call 63
          refine (P_AtO (c.x1 - 1) (c.y1 - 1) _ wf3.out wf4.out).mono ?_
          rintro e wn ⟨rfl, hbn⟩
          have hsz := B.size
          have hzn := hbn.size
          have hsx := hX.size
          replace B := B.trans (hbn.mono B.size)
          replace hX := hX.trans (hbn.mono hX.size)
          try first | replace p3 := p3.of_eq (hbn.block _ p3.lt) | replace p3 := p3.below hbn
          try first | replace p4 := p4.of_eq (hbn.block _ p4.lt) | replace p4 := p4.below hbn
          refine hK _ _ ⟨fun _ => ⟨_, ov_of hX⟩, ?_⟩
          clear hK K
          try simp only [List.getElem_toArray, List.getElem_cons_zero, List.getElem_cons_succ]
          simp only [Act.put, putS]
          refine anyX_next 15 rfl (by kernel_rfl) rfl (fun K hK => ?_)
          try simp only [List.getElem_toArray, List.getElem_cons_zero, List.getElem_cons_succ]
          refine owp_allocBk (t := 24) _ (run_alloc_Ps _ _ rfl) ?_
          intro b_p4 wn hle hge ht hbn hzn
          have hsz := B.size
          have hsx := hX.size
          replace B := B.trans (hbn.mono (by omega))
          replace hX := hX.trans (hbn.mono (by omega))
          try first | (have hlt := p3.lt; replace p3 := p3.of_eq (hbn.block _ (by omega))) | replace p3 := p3.below (hbn.mono hle)
          try first | (have hlt := p4.lt; replace p4 := p4.of_eq (hbn.block _ (by omega))) | replace p4 := p4.below (hbn.mono hle)
          have p4 := ht
          clear ht
          refine hK _ _ ⟨fun _ => ⟨_, ov_of hX⟩, ?_⟩
          clear hK K
          try simp only [List.getElem_toArray, List.getElem_cons_zero, List.getElem_cons_succ]
          simp only [Act.put, putS]
          refine anyX_seq (by kernel_rfl) (by kernel_rfl) ?_
          simp only [List.drop_succ_cons, List.drop_zero]
          go_wp2_with (first | (refine wpList_storeB (t := 24) rfl _ _ rfl _ rfl _ rfl p3 (by kernel_rfl) rfl (by simp [Value.oneCell']) ?_; clear p3; intro wn ht hcn hzn; have hsz := B.size; replace hzn := Nat.le_of_eq hzn.symm; replace B := Chg.below B hcn (by omega) B.size; (try replace p4 := p4.of_eq (hcn.block _ p4.lt (by omega))); have p3 := ht; clear ht; simp only [Act.put, putS]) | (refine wpList_storeB (t := 24) rfl _ _ rfl _ rfl _ rfl p4 (by kernel_rfl) rfl (by simp [Value.oneCell']) ?_; clear p4; intro wn ht hcn hzn; have hsz := B.size; replace hzn := Nat.le_of_eq hzn.symm; replace B := Chg.below B hcn (by omega) B.size; (try replace p3 := p3.of_eq (hcn.block _ p3.lt (by omega))); have p4 := ht; clear ht; simp only [Act.put, putS]) | fail)
          refine NoPan.normal ?_
          go_wp2_with fail
          go_meet
          exact ⟨b_p3, b_p4, rfl, rfl, B, by omega, by omega, p3, p4⟩
        · skip
          try simp only [List.getElem_toArray, List.getElem_cons_zero, List.getElem_cons_succ]
          refine owp_allocBk (t := 24) _ (run_alloc_Ps _ _ rfl) ?_
          intro b_p4 wn hle hge ht hbn hzn
          have hsz := B.size
          have hsx := hX.size
          replace B := B.trans (hbn.mono (by omega))
          replace hX := hX.trans (hbn.mono (by omega))
          try first | (have hlt := p3.lt; replace p3 := p3.of_eq (hbn.block _ (by omega))) | replace p3 := p3.below (hbn.mono hle)
          try first | (have hlt := p4.lt; replace p4 := p4.of_eq (hbn.block _ (by omega))) | replace p4 := p4.below (hbn.mono hle)
          have p4 := ht
          clear ht
          refine hK _ _ ⟨fun _ => ⟨_, ov_of hX⟩, ?_⟩
          clear hK K
          try simp only [List.getElem_toArray, List.getElem_cons_zero, List.getElem_cons_succ]
          simp only [Act.put, putS]
          refine anyX_next 13 rfl (by kernel_rfl) rfl (fun K hK => ?_)
          try simp only [List.getElem_toArray, List.getElem_cons_zero, List.getElem_cons_succ]
          go_simp
          go_at_call 63
          refine (P_AtO (c.x1 - 1) (c.y1 - 1) _ wf3.out wf4.out).mono ?_
          rintro e wn ⟨rfl, hbn⟩
          have hsz := B.size
          have hzn := hbn.size
          have hsx := hX.size
          replace B := B.trans (hbn.mono B.size)
          replace hX := hX.trans (hbn.mono hX.size)
          try first | replace p3 := p3.of_eq (hbn.block _ p3.lt) | replace p3 := p3.below hbn
          try first | replace p4 := p4.of_eq (hbn.block _ p4.lt) | replace p4 := p4.below hbn
          refine hK _ _ ⟨fun _ => ⟨_, ov_of hX⟩, ?_⟩
          clear hK K
          try simp only [List.getElem_toArray, List.getElem_cons_zero, List.getElem_cons_succ]
          simp only [Act.put, putS]
          refine anyX_seq (by kernel_rfl) (by kernel_rfl) ?_
          simp only [List.drop_succ_cons, List.drop_zero]
          go_wp2_with (first | (refine wpList_storeB (t := 24) rfl _ _ rfl _ rfl _ rfl p3 (by kernel_rfl) rfl (by simp [Value.oneCell']) ?_; clear p3; intro wn ht hcn hzn; have hsz := B.size; replace hzn := Nat.le_of_eq hzn.symm; replace B := Chg.below B hcn (by omega) B.size; (try replace p4 := p4.of_eq (hcn.block _ p4.lt (by omega))); have p3 := ht; clear ht; simp only [Act.put, putS]) | (refine wpList_storeB (t := 24) rfl _ _ rfl _ rfl _ rfl p4 (by kernel_rfl) rfl (by simp [Value.oneCell']) ?_; clear p4; intro wn ht hcn hzn; have hsz := B.size; replace hzn := Nat.le_of_eq hzn.symm; replace B := Chg.below B hcn (by omega) B.size; (try replace p3 := p3.of_eq (hcn.block _ p3.lt (by omega))); have p4 := ht; clear ht; simp only [Act.put, putS]) | fail)
          refine NoPan.normal ?_
          go_wp2_with fail
          go_meet
          exact ⟨b_p3, b_p4, rfl, rfl, B, by omega, by omega, p3, p4⟩
      · skip
        try simp only [List.getElem_toArray, List.getElem_cons_zero, List.getElem_cons_succ]
        refine owp_allocBk (t := 24) _ (run_alloc_Ps _ _ rfl) ?_
        intro b_p4 wn hle hge ht hbn hzn
        have hsz := B.size
        have hsx := hX.size
        replace B := B.trans (hbn.mono (by omega))
        replace hX := hX.trans (hbn.mono (by omega))
        try first | (have hlt := p3.lt; replace p3 := p3.of_eq (hbn.block _ (by omega))) | replace p3 := p3.below (hbn.mono hle)
        try first | (have hlt := p4.lt; replace p4 := p4.of_eq (hbn.block _ (by omega))) | replace p4 := p4.below (hbn.mono hle)
        have p4 := ht
        clear ht
        refine hK _ _ ⟨fun _ => ⟨_, ov_of hX⟩, ?_⟩
        clear hK K
        try simp only [List.getElem_toArray, List.getElem_cons_zero, List.getElem_cons_succ]
        simp only [Act.put, putS]
        refine anyX_two 13 14 rfl rfl (by kernel_rfl) rfl rfl (fun K hK => ?_) (fun K hK => ?_)
        · skip
          try simp only [List.getElem_toArray, List.getElem_cons_zero, List.getElem_cons_succ]
          go_simp
          go_at_call 63
          refine (P_AtO (c.x1 - 1) (c.y1 - 1) _ wf3.out wf4.out).mono ?_
          rintro e wn ⟨rfl, hbn⟩
          have hsz := B.size
          have hzn := hbn.size
          have hsx := hX.size
          replace B := B.trans (hbn.mono B.size)
          replace hX := hX.trans (hbn.mono hX.size)
          try first | replace p3 := p3.of_eq (hbn.block _ p3.lt) | replace p3 := p3.below hbn
          try first | replace p4 := p4.of_eq (hbn.block _ p4.lt) | replace p4 := p4.below hbn
          refine hK _ _ ⟨fun _ => ⟨_, ov_of hX⟩, ?_⟩
          clear hK K
          try simp only [List.getElem_toArray, List.getElem_cons_zero, List.getElem_cons_succ]
          simp only [Act.put, putS]
          refine anyX_next 14 rfl (by kernel_rfl) rfl (fun K hK => ?_)
          try simp only [List.getElem_toArray, List.getElem_cons_zero, List.getElem_cons_succ]
          refine owp_allocBk (t := 24) _ (run_alloc_Ps _ _ rfl) ?_
          intro b_p3 wn hle hge ht hbn hzn
          have hsz := B.size
          have hsx := hX.size
          replace B := B.trans (hbn.mono (by omega))
          replace hX := hX.trans (hbn.mono (by omega))
          try first | (have hlt := p3.lt; replace p3 := p3.of_eq (hbn.block _ (by omega))) | replace p3 := p3.below (hbn.mono hle)
          try first | (have hlt := p4.lt; replace p4 := p4.of_eq (hbn.block _ (by omega))) | replace p4 := p4.below (hbn.mono hle)
          have p3 := ht
          clear ht
          refine hK _ _ ⟨fun _ => ⟨_, ov_of hX⟩, ?_⟩
          clear hK K
          try simp only [List.getElem_toArray, List.getElem_cons_zero, List.getElem_cons_succ]
          simp only [Act.put, putS]
          refine anyX_seq (by kernel_rfl) (by kernel_rfl) ?_
          simp only [List.drop_succ_cons, List.drop_zero]
          go_wp2_with (first | (refine wpList_storeB (t := 24) rfl _ _ rfl _ rfl _ rfl p3 (by kernel_rfl) rfl (by simp [Value.oneCell']) ?_; clear p3; intro wn ht hcn hzn; have hsz := B.size; replace hzn := Nat.le_of_eq hzn.symm; replace B := Chg.below B hcn (by omega) B.size; (try replace p4 := p4.of_eq (hcn.block _ p4.lt (by omega))); have p3 := ht; clear ht; simp only [Act.put, putS]) | (refine wpList_storeB (t := 24) rfl _ _ rfl _ rfl _ rfl p4 (by kernel_rfl) rfl (by simp [Value.oneCell']) ?_; clear p4; intro wn ht hcn hzn; have hsz := B.size; replace hzn := Nat.le_of_eq hzn.symm; replace B := Chg.below B hcn (by omega) B.size; (try replace p3 := p3.of_eq (hcn.block _ p3.lt (by omega))); have p4 := ht; clear ht; simp only [Act.put, putS]) | fail)
          refine NoPan.normal ?_
          go_wp2_with fail
          go_meet
          exact ⟨b_p3, b_p4, rfl, rfl, B, by omega, by omega, p3, p4⟩
        · skip
          try simp only [List.getElem_toArray, List.getElem_cons_zero, List.getElem_cons_succ]
          refine owp_allocBk (t := 24) _ (run_alloc_Ps _ _ rfl) ?_
          intro b_p3 wn hle hge ht hbn hzn
          have hsz := B.size
          have hsx := hX.size
          replace B := B.trans (hbn.mono (by omega))
          replace hX := hX.trans (hbn.mono (by omega))
          try first | (have hlt := p3.lt; replace p3 := p3.of_eq (hbn.block _ (by omega))) | replace p3 := p3.below (hbn.mono hle)
          try first | (have hlt := p4.lt; replace p4 := p4.of_eq (hbn.block _ (by omega))) | replace p4 := p4.below (hbn.mono hle)
          have p3 := ht
          clear ht
          refine hK _ _ ⟨fun _ => ⟨_, ov_of hX⟩, ?_⟩
          clear hK K
          try simp only [List.getElem_toArray, List.getElem_cons_zero, List.getElem_cons_succ]
          simp only [Act.put, putS]
          refine anyX_next 13 rfl (by kernel_rfl) rfl (fun K hK => ?_)
          try simp only [List.getElem_toArray, List.getElem_cons_zero, List.getElem_cons_succ]
          go_simp
          go_at_call 63
          refine (P_AtO (c.x1 - 1) (c.y1 - 1) _ wf3.out wf4.out).mono ?_
          rintro e wn ⟨rfl, hbn⟩
          have hsz := B.size
          have hzn := hbn.size
          have hsx := hX.size
          replace B := B.trans (hbn.mono B.size)
          replace hX := hX.trans (hbn.mono hX.size)
          try first | replace p3 := p3.of_eq (hbn.block _ p3.lt) | replace p3 := p3.below hbn
          try first | replace p4 := p4.of_eq (hbn.block _ p4.lt) | replace p4 := p4.below hbn
          refine hK _ _ ⟨fun _ => ⟨_, ov_of hX⟩, ?_⟩
          clear hK K
          try simp only [List.getElem_toArray, List.getElem_cons_zero, List.getElem_cons_succ]
          simp only [Act.put, putS]
          refine anyX_seq (by kernel_rfl) (by kernel_rfl) ?_
          simp only [List.drop_succ_cons, List.drop_zero]
          go_wp2_with (first | (refine wpList_storeB (t := 24) rfl _ _ rfl _ rfl _ rfl p3 (by kernel_rfl) rfl (by simp [Value.oneCell']) ?_; clear p3; intro wn ht hcn hzn; have hsz := B.size; replace hzn := Nat.le_of_eq hzn.symm; replace B := Chg.below B hcn (by omega) B.size; (try replace p4 := p4.of_eq (hcn.block _ p4.lt (by omega))); have p3 := ht; clear ht; simp only [Act.put, putS]) | (refine wpList_storeB (t := 24) rfl _ _ rfl _ rfl _ rfl p4 (by kernel_rfl) rfl (by simp [Value.oneCell']) ?_; clear p4; intro wn ht hcn hzn; have hsz := B.size; replace hzn := Nat.le_of_eq hzn.symm; replace B := Chg.below B hcn (by omega) B.size; (try replace p3 := p3.of_eq (hcn.block _ p3.lt (by omega))); have p4 := ht; clear ht; simp only [Act.put, putS]) | fail)
          refine NoPan.normal ?_
          go_wp2_with fail
          go_meet
          exact ⟨b_p3, b_p4, rfl, rfl, B, by omega, by omega, p3, p4⟩
    · skip
      try simp only [List.getElem_toArray, List.getElem_cons_zero, List.getElem_cons_succ]
      refine owp_allocBk (t := 24) _ (run_alloc_Ps _ _ rfl) ?_
      intro b_p3 wn hle hge ht hbn hzn
      have hsz := B.size
      have hsx := hX.size
      replace B := B.trans (hbn.mono (by omega))
      replace hX := hX.trans (hbn.mono (by omega))
      try first | (have hlt := p3.lt; replace p3 := p3.of_eq (hbn.block _ (by omega))) | replace p3 := p3.below (hbn.mono hle)
      try first | (have hlt := p4.lt; replace p4 := p4.of_eq (hbn.block _ (by omega))) | replace p4 := p4.below (hbn.mono hle)
      have p3 := ht
      clear ht
      refine hK _ _ ⟨fun _ => ⟨_, ov_of hX⟩, ?_⟩
      clear hK K
      try simp only [List.getElem_toArray, List.getElem_cons_zero, List.getElem_cons_succ]
      simp only [Act.put, putS]
      refine anyX_two 5 15 rfl rfl (by kernel_rfl) rfl rfl (fun K hK => ?_) (fun K hK => ?_)
      · skip
        try simp only [List.getElem_toArray, List.getElem_cons_zero, List.getElem_cons_succ]
        go_simp
        go_at_call 63
        refine (P_AtO c.x0 c.y0 _ wf1.out wf2.out).mono ?_
        rintro e wn ⟨rfl, hbn⟩
        have hsz := B.size
        have hzn := hbn.size
        have hsx := hX.size
        replace B := B.trans (hbn.mono B.size)
        replace hX := hX.trans (hbn.mono hX.size)
        try first | replace p3 := p3.of_eq (hbn.block _ p3.lt) | replace p3 := p3.below hbn
        try first | replace p4 := p4.of_eq (hbn.block _ p4.lt) | replace p4 := p4.below hbn
        refine hK _ _ ⟨fun _ => ⟨_, ov_of hX⟩, ?_⟩
        clear hK K
        try simp only [List.getElem_toArray, List.getElem_cons_zero, List.getElem_cons_succ]
        simp only [Act.put, putS]
        refine anyX_two 13 15 rfl rfl (by kernel_rfl) rfl rfl (fun K hK => ?_) (fun K hK => ?_)
        · skip
          try simp only [List.getElem_toArray, List.getElem_cons_zero, List.getElem_cons_succ]
          go_simp
          go_at_call 63
          refine (P_AtO (c.x1 - 1) (c.y1 - 1) _ wf3.out wf4.out).mono ?_
          rintro e wn ⟨rfl, hbn⟩
          have hsz := B.size
          have hzn := hbn.size
          have hsx := hX.size
          replace B := B.trans (hbn.mono B.size)
          replace hX := hX.trans (hbn.mono hX.size)
          try first | replace p3 := p3.of_eq (hbn.block _ p3.lt) | replace p3 := p3.below hbn
          try first | replace p4 := p4.of_eq (hbn.block _ p4.lt) | replace p4 := p4.below hbn
          refine hK _ _ ⟨fun _ => ⟨_, ov_of hX⟩, ?_⟩
          clear hK K
          try simp only [List.getElem_toArray, List.getElem_cons_zero, List.getElem_cons_succ]
          simp only [Act.put, putS]
          refine anyX_next 15 rfl (by kernel_rfl) rfl (fun K hK => ?_)
          try simp only [List.getElem_toArray, List.getElem_cons_zero, List.getElem_cons_succ]
          refine owp_allocBk (t := 24) _ (run_alloc_Ps _ _ rfl) ?_
          intro b_p4 wn hle hge ht hbn hzn
          have hsz := B.size
          have hsx := hX.size
          replace B := B.trans (hbn.mono (by omega))
          replace hX := hX.trans (hbn.mono (by omega))
          try first | (have hlt := p3.lt; replace p3 := p3.of_eq (hbn.block _ (by omega))) | replace p3 := p3.below (hbn.mono hle)
          try first | (have hlt := p4.lt; replace p4 := p4.of_eq (hbn.block _ (by omega))) | replace p4 := p4.below (hbn.mono hle)
          have p4 := ht
          clear ht
          refine hK _ _ ⟨fun _ => ⟨_, ov_of hX⟩, ?_⟩
          clear hK K
          try simp only [List.getElem_toArray, List.getElem_cons_zero, List.getElem_cons_succ]
          simp only [Act.put, putS]
          refine anyX_seq (by kernel_rfl) (by kernel_rfl) ?_
          simp only [List.drop_succ_cons, List.drop_zero]
          go_wp2_with (first | (refine wpList_storeB (t := 24) rfl _ _ rfl _ rfl _ rfl p3 (by kernel_rfl) rfl (by simp [Value.oneCell']) ?_; clear p3; intro wn ht hcn hzn; have hsz := B.size; replace hzn := Nat.le_of_eq hzn.symm; replace B := Chg.below B hcn (by omega) B.size; (try replace p4 := p4.of_eq (hcn.block _ p4.lt (by omega))); have p3 := ht; clear ht; simp only [Act.put, putS]) | (refine wpList_storeB (t := 24) rfl _ _ rfl _ rfl _ rfl p4 (by kernel_rfl) rfl (by simp [Value.oneCell']) ?_; clear p4; intro wn ht hcn hzn; have hsz := B.size; replace hzn := Nat.le_of_eq hzn.symm; replace B := Chg.below B hcn (by omega) B.size; (try replace p3 := p3.of_eq (hcn.block _ p3.lt (by omega))); have p4 := ht; clear ht; simp only [Act.put, putS]) | fail)
          refine NoPan.normal ?_
          go_wp2_with fail
          go_meet
          exact ⟨b_p3, b_p4, rfl, rfl, B, by omega, by omega, p3, p4⟩
        · skip
          try simp only [List.getElem_toArray, List.getElem_cons_zero, List.getElem_cons_succ]
          refine owp_allocBk (t := 24) _ (run_alloc_Ps _ _ rfl) ?_
          intro b_p4 wn hle hge ht hbn hzn
          have hsz := B.size
          have hsx := hX.size
          replace B := B.trans (hbn.mono (by omega))
          replace hX := hX.trans (hbn.mono (by omega))
          try first | (have hlt := p3.lt; replace p3 := p3.of_eq (hbn.block _ (by omega))) | replace p3 := p3.below (hbn.mono hle)
          try first | (have hlt := p4.lt; replace p4 := p4.of_eq (hbn.block _ (by omega))) | replace p4 := p4.below (hbn.mono hle)
          have p4 := ht
          clear ht
          refine hK _ _ ⟨fun _ => ⟨_, ov_of hX⟩, ?_⟩
          clear hK K
          try simp only [List.getElem_toArray, List.getElem_cons_zero, List.getElem_cons_succ]
          simp only [Act.put, putS]
          refine anyX_next 13 rfl (by kernel_rfl) rfl (fun K hK => ?_)
          try simp only [List.getElem_toArray, List.getElem_cons_zero, List.getElem_cons_succ]
          go_simp
          go_at_call 63
          refine (P_AtO (c.x1 - 1) (c.y1 - 1) _ wf3.out wf4.out).mono ?_
          rintro e wn ⟨rfl, hbn⟩
          have hsz := B.size
          have hzn := hbn.size
          have hsx := hX.size
          replace B := B.trans (hbn.mono B.size)
          replace hX := hX.trans (hbn.mono hX.size)
          try first | replace p3 := p3.of_eq (hbn.block _ p3.lt) | replace p3 := p3.below hbn
          try first | replace p4 := p4.of_eq (hbn.block _ p4.lt) | replace p4 := p4.below hbn
          refine hK _ _ ⟨fun _ => ⟨_, ov_of hX⟩, ?_⟩
          clear hK K
          try simp only [List.getElem_toArray, List.getElem_cons_zero, List.getElem_cons_succ]
          simp only [Act.put, putS]
          refine anyX_seq (by kernel_rfl) (by kernel_rfl) ?_
          simp only [List.drop_succ_cons, List.drop_zero]
          go_wp2_with (first | (refine wpList_storeB (t := 24) rfl _ _ rfl _ rfl _ rfl p3 (by kernel_rfl) rfl (by simp [Value.oneCell']) ?_; clear p3; intro wn ht hcn hzn; have hsz := B.size; replace hzn := Nat.le_of_eq hzn.symm; replace B := Chg.below B hcn (by omega) B.size; (try replace p4 := p4.of_eq (hcn.block _ p4.lt (by omega))); have p3 := ht; clear ht; simp only [Act.put, putS]) | (refine wpList_storeB (t := 24) rfl _ _ rfl _ rfl _ rfl p4 (by kernel_rfl) rfl (by simp [Value.oneCell']) ?_; clear p4; intro wn ht hcn hzn; have hsz := B.size; replace hzn := Nat.le_of_eq hzn.symm; replace B := Chg.below B hcn (by omega) B.size; (try replace p3 := p3.of_eq (hcn.block _ p3.lt (by omega))); have p4 := ht; clear ht; simp only [Act.put, putS]) | fail)
          refine NoPan.normal ?_
          go_wp2_with fail
          go_meet
          exact ⟨b_p3, b_p4, rfl, rfl, B, by omega, by omega, p3, p4⟩
      · skip
        try simp only [List.getElem_toArray, List.getElem_cons_zero, List.getElem_cons_succ]
        refine owp_allocBk (t := 24) _ (run_alloc_Ps _ _ rfl) ?_
        intro b_p4 wn hle hge ht hbn hzn
        have hsz := B.size
        have hsx := hX.size
        replace B := B.trans (hbn.mono (by omega))
        replace hX := hX.trans (hbn.mono (by omega))
        try first | (have hlt := p3.lt; replace p3 := p3.of_eq (hbn.block _ (by omega))) | replace p3 := p3.below (hbn.mono hle)
        try first | (have hlt := p4.lt; replace p4 := p4.of_eq (hbn.block _ (by omega))) | replace p4 := p4.below (hbn.mono hle)
        have p4 := ht
        clear ht
        refine hK _ _ ⟨fun _ => ⟨_, ov_of hX⟩, ?_⟩
        clear hK K
        try simp only [List.getElem_toArray, List.getElem_cons_zero, List.getElem_cons_succ]
        simp only [Act.put, putS]
        refine anyX_next 5 rfl (by kernel_rfl) rfl (fun K hK => ?_)
        try simp only [List.getElem_toArray, List.getElem_cons_zero, List.getElem_cons_succ]
        go_simp
        go_at_call 63
        refine (P_AtO c.x0 c.y0 _ wf1.out wf2.out).mono ?_
        rintro e wn ⟨rfl, hbn⟩
        have hsz := B.size
        have hzn := hbn.size
        have hsx := hX.size
        replace B := B.trans (hbn.mono B.size)
        replace hX := hX.trans (hbn.mono hX.size)
        try first | replace p3 := p3.of_eq (hbn.block _ p3.lt) | replace p3 := p3.below hbn
        try first | replace p4 := p4.of_eq (hbn.block _ p4.lt) | replace p4 := p4.below hbn
        refine hK _ _ ⟨fun _ => ⟨_, ov_of hX⟩, ?_⟩
        clear hK K
        try simp only [List.getElem_toArray, List.getElem_cons_zero, List.getElem_cons_succ]
        simp only [Act.put, putS]
        refine anyX_next 13 rfl (by kernel_rfl) rfl (fun K hK => ?_)
        try simp only [List.getElem_toArray, List.getElem_cons_zero, List.getElem_cons_succ]
        go_simp
        go_at_call 63
        refine (P_AtO (c.x1 - 1) (c.y1 - 1) _ wf3.out wf4.out).mono ?_
        rintro e wn ⟨rfl, hbn⟩
        have hsz := B.size
        have hzn := hbn.size
        have hsx := hX.size
        replace B := B.trans (hbn.mono B.size)
        replace hX := hX.trans (hbn.mono hX.size)
        try first | replace p3 := p3.of_eq (hbn.block _ p3.lt) | replace p3 := p3.below hbn
        try first | replace p4 := p4.of_eq (hbn.block _ p4.lt) | replace p4 := p4.below hbn
        refine hK _ _ ⟨fun _ => ⟨_, ov_of hX⟩, ?_⟩
        clear hK K
        try simp only [List.getElem_toArray, List.getElem_cons_zero, List.getElem_cons_succ]
        simp only [Act.put, putS]
        refine anyX_seq (by kernel_rfl) (by kernel_rfl) ?_
        simp only [List.drop_succ_cons, List.drop_zero]
        go_wp2_with (first | (refine wpList_storeB (t := 24) rfl _ _ rfl _ rfl _ rfl p3 (by kernel_rfl) rfl (by simp [Value.oneCell']) ?_; clear p3; intro wn ht hcn hzn; have hsz := B.size; replace hzn := Nat.le_of_eq hzn.symm; replace B := Chg.below B hcn (by omega) B.size; (try replace p4 := p4.of_eq (hcn.block _ p4.lt (by omega))); have p3 := ht; clear ht; simp only [Act.put, putS]) | (refine wpList_storeB (t := 24) rfl _ _ rfl _ rfl _ rfl p4 (by kernel_rfl) rfl (by simp [Value.oneCell']) ?_; clear p4; intro wn ht hcn hzn; have hsz := B.size; replace hzn := Nat.le_of_eq hzn.symm; replace B := Chg.below B hcn (by omega) B.size; (try replace p3 := p3.of_eq (hcn.block _ p3.lt (by omega))); have p4 := ht; clear ht; simp only [Act.put, putS]) | fail)
        refine NoPan.normal ?_
        go_wp2_with fail
        go_meet
        exact ⟨b_p3, b_p4, rfl, rfl, B, by omega, by omega, p3, p4⟩
    · skip
      try simp only [List.getElem_toArray, List.getElem_cons_zero, List.getElem_cons_succ]
      refine owp_allocBk (t := 24) _ (run_alloc_Ps _ _ rfl) ?_
      intro b_p4 wn hle hge ht hbn hzn
      have hsz := B.size
      have hsx := hX.size
      replace B := B.trans (hbn.mono (by omega))
      replace hX := hX.trans (hbn.mono (by omega))
      try first | (have hlt := p3.lt; replace p3 := p3.of_eq (hbn.block _ (by omega))) | replace p3 := p3.below (hbn.mono hle)
      try first | (have hlt := p4.lt; replace p4 := p4.of_eq (hbn.block _ (by omega))) | replace p4 := p4.below (hbn.mono hle)
      have p4 := ht
      clear ht
      refine hK _ _ ⟨fun _ => ⟨_, ov_of hX⟩, ?_⟩
      clear hK K
      try simp only [List.getElem_toArray, List.getElem_cons_zero, List.getElem_cons_succ]
      simp only [Act.put, putS]
      refine anyX_two 5 14 rfl rfl (by kernel_rfl) rfl rfl (fun K hK => ?_) (fun K hK => ?_)
      · skip
        try simp only [List.getElem_toArray, List.getElem_cons_zero, List.getElem_cons_succ]
        go_simp
        go_at_call 63
        refine (P_AtO c.x0 c.y0 _ wf1.out wf2.out).mono ?_
        rintro e wn ⟨rfl, hbn⟩
        have hsz := B.size
        have hzn := hbn.size
        have hsx := hX.size
        replace B := B.trans (hbn.mono B.size)
        replace hX := hX.trans (hbn.mono hX.size)
        try first | replace p3 := p3.of_eq (hbn.block _ p3.lt) | replace p3 := p3.below hbn
        try first | replace p4 := p4.of_eq (hbn.block _ p4.lt) | replace p4 := p4.below hbn
        refine hK _ _ ⟨fun _ => ⟨_, ov_of hX⟩, ?_⟩
        clear hK K
        try simp only [List.getElem_toArray, List.getElem_cons_zero, List.getElem_cons_succ]
        simp only [Act.put, putS]
        refine anyX_two 13 14 rfl rfl (by kernel_rfl) rfl rfl (fun K hK => ?_) (fun K hK => ?_)
        · skip
          try simp only [List.getElem_toArray, List.getElem_cons_zero, List.getElem_cons_succ]
          go_simp
          go_at_call 63
          refine (P_AtO (c.x1 - 1) (c.y1 - 1) _ wf3.out wf4.out).mono ?_
          rintro e wn ⟨rfl, hbn⟩
          have hsz := B.size
          have hzn := hbn.size
          have hsx := hX.size
          replace B := B.trans (hbn.mono B.size)
          replace hX := hX.trans (hbn.mono hX.size)
          try first | replace p3 := p3.of_eq (hbn.block _ p3.lt) | replace p3 := p3.below hbn
          try first | replace p4 := p4.of_eq (hbn.block _ p4.lt) | replace p4 := p4.below hbn
          refine hK _ _ ⟨fun _ => ⟨_, ov_of hX⟩, ?_⟩
          clear hK K
          try simp only [List.getElem_toArray, List.getElem_cons_zero, List.getElem_cons_succ]
          simp only [Act.put, putS]
          refine anyX_next 14 rfl (by kernel_rfl) rfl (fun K hK => ?_)
          try simp only [List.getElem_toArray, List.getElem_cons_zero, List.getElem_cons_succ]
          refine owp_allocBk (t := 24) _ (run_alloc_Ps _ _ rfl) ?_
          intro b_p3 wn hle hge ht hbn hzn
          have hsz := B.size
          have hsx := hX.size
          replace B := B.trans (hbn.mono (by omega))
          replace hX := hX.trans (hbn.mono (by omega))
          try first | (have hlt := p3.lt; replace p3 := p3.of_eq (hbn.block _ (by omega))) | replace p3 := p3.below (hbn.mono hle)
          try first | (have hlt := p4.lt; replace p4 := p4.of_eq (hbn.block _ (by omega))) | replace p4 := p4.below (hbn.mono hle)
          have p3 := ht
          clear ht
          refine hK _ _ ⟨fun _ => ⟨_, ov_of hX⟩, ?_⟩
          clear hK K
          try simp only [List.getElem_toArray, List.getElem_cons_zero, List.getElem_cons_succ]
          simp only [Act.put, putS]
          refine anyX_seq (by kernel_rfl) (by kernel_rfl) ?_
          simp only [List.drop_succ_cons, List.drop_zero]
          go_wp2_with (first | (refine wpList_storeB (t := 24) rfl _ _ rfl _ rfl _ rfl p3 (by kernel_rfl) rfl (by simp [Value.oneCell']) ?_; clear p3; intro wn ht hcn hzn; have hsz := B.size; replace hzn := Nat.le_of_eq hzn.symm; replace B := Chg.below B hcn (by omega) B.size; (try replace p4 := p4.of_eq (hcn.block _ p4.lt (by omega))); have p3 := ht; clear ht; simp only [Act.put, putS]) | (refine wpList_storeB (t := 24) rfl _ _ rfl _ rfl _ rfl p4 (by kernel_rfl) rfl (by simp [Value.oneCell']) ?_; clear p4; intro wn ht hcn hzn; have hsz := B.size; replace hzn := Nat.le_of_eq hzn.symm; replace B := Chg.below B hcn (by omega) B.size; (try replace p3 := p3.of_eq (hcn.block _ p3.lt (by omega))); have p4 := ht; clear ht; simp only [Act.put, putS]) | fail)
          refine NoPan.normal ?_
          go_wp2_with fail
          go_meet
          exact ⟨b_p3, b_p4, rfl, rfl, B, by omega, by omega, p3, p4⟩
        · skip
          try simp only [List.getElem_toArray, List.getElem_cons_zero, List.getElem_cons_succ]
          refine owp_allocBk (t := 24) _ (run_alloc_Ps _ _ rfl) ?_
          intro b_p3 wn hle hge ht hbn hzn
          have hsz := B.size
          have hsx := hX.size
          replace B := B.trans (hbn.mono (by omega))
          replace hX := hX.trans (hbn.mono (by omega))
          try first | (have hlt := p3.lt; replace p3 := p3.of_eq (hbn.block _ (by omega))) | replace p3 := p3.below (hbn.mono hle)
          try first | (have hlt := p4.lt; replace p4 := p4.of_eq (hbn.block _ (by omega))) | replace p4 := p4.below (hbn.mono hle)
          have p3 := ht
          clear ht
          refine hK _ _ ⟨fun _ => ⟨_, ov_of hX⟩, ?_⟩
          clear hK K
          try simp only [List.getElem_toArray, List.getElem_cons_zero, List.getElem_cons_succ]
          simp only [Act.put, putS]
          refine anyX_next 13 rfl (by kernel_rfl) rfl (fun K hK => ?_)
          try simp only [List.getElem_toArray, List.getElem_cons_zero, List.getElem_cons_succ]
          go_simp
          go_at_call 63
          refine (P_AtO (c.x1 - 1) (c.y1 - 1) _ wf3.out wf4.out).mono ?_
          rintro e wn ⟨rfl, hbn⟩
          have hsz := B.size
          have hzn := hbn.size
          have hsx := hX.size
          replace B := B.trans (hbn.mono B.size)
          replace hX := hX.trans (hbn.mono hX.size)
          try first | replace p3 := p3.of_eq (hbn.block _ p3.lt) | replace p3 := p3.below hbn
          try first | replace p4 := p4.of_eq (hbn.block _ p4.lt) | replace p4 := p4.below hbn
          refine hK _ _ ⟨fun _ => ⟨_, ov_of hX⟩, ?_⟩
          clear hK K
          try simp only [List.getElem_toArray, List.getElem_cons_zero, List.getElem_cons_succ]
          simp only [Act.put, putS]
          refine anyX_seq (by kernel_rfl) (by kernel_rfl) ?_
          simp only [List.drop_succ_cons, List.drop_zero]
          go_wp2_with (first | (refine wpList_storeB (t := 24) rfl _ _ rfl _ rfl _ rfl p3 (by kernel_rfl) rfl (by simp [Value.oneCell']) ?_; clear p3; intro wn ht hcn hzn; have hsz := B.size; replace hzn := Nat.le_of_eq hzn.symm; replace B := Chg.below B hcn (by omega) B.size; (try replace p4 := p4.of_eq (hcn.block _ p4.lt (by omega))); have p3 := ht; clear ht; simp only [Act.put, putS]) | (refine wpList_storeB (t := 24) rfl _ _ rfl _ rfl _ rfl p4 (by kernel_rfl) rfl (by simp [Value.oneCell']) ?_; clear p4; intro wn ht hcn hzn; have hsz := B.size; replace hzn := Nat.le_of_eq hzn.symm; replace B := Chg.below B hcn (by omega) B.size; (try replace p3 := p3.of_eq (hcn.block _ p3.lt (by omega))); have p4 := ht; clear ht; simp only [Act.put, putS]) | fail)
          refine NoPan.normal ?_
          go_wp2_with fail
          go_meet
          exact ⟨b_p3, b_p4, rfl, rfl, B, by omega, by omega, p3, p4⟩
      · skip
        try simp only [List.getElem_toArray, List.getElem_cons_zero, List.getElem_cons_succ]
        refine owp_allocBk (t := 24) _ (run_alloc_Ps _ _ rfl) ?_
        intro b_p3 wn hle hge ht hbn hzn
        have hsz := B.size
        have hsx := hX.size
        replace B := B.trans (hbn.mono (by omega))
        replace hX := hX.trans (hbn.mono (by omega))
        try first | (have hlt := p3.lt; replace p3 := p3.of_eq (hbn.block _ (by omega))) | replace p3 := p3.below (hbn.mono hle)
        try first | (have hlt := p4.lt; replace p4 := p4.of_eq (hbn.block _ (by omega))) | replace p4 := p4.below (hbn.mono hle)
        have p3 := ht
        clear ht
        refine hK _ _ ⟨fun _ => ⟨_, ov_of hX⟩, ?_⟩
        clear hK K
        try simp only [List.getElem_toArray, List.getElem_cons_zero, List.getElem_cons_succ]
        simp only [Act.put, putS]
        refine anyX_next 5 rfl (by kernel_rfl) rfl (fun K hK => ?_)
        try simp only [List.getElem_toArray, List.getElem_cons_zero, List.getElem_cons_succ]
        go_simp
        go_at_call 63
        refine (P_AtO c.x0 c.y0 _ wf1.out wf2.out).mono ?_
        rintro e wn ⟨rfl, hbn⟩
        have hsz := B.size
        have hzn := hbn.size
        have hsx := hX.size
        replace B := B.trans (hbn.mono B.size)
        replace hX := hX.trans (hbn.mono hX.size)
        try first | replace p3 := p3.of_eq (hbn.block _ p3.lt) | replace p3 := p3.below hbn
        try first | replace p4 := p4.of_eq (hbn.block _ p4.lt) | replace p4 := p4.below hbn
        refine hK _ _ ⟨fun _ => ⟨_, ov_of hX⟩, ?_⟩
        clear hK K
        try simp only [List.getElem_toArray, List.getElem_cons_zero, List.getElem_cons_succ]
        simp only [Act.put, putS]
        refine anyX_next 13 rfl (by kernel_rfl) rfl (fun K hK => ?_)
        try simp only [List.getElem_toArray, List.getElem_cons_zero, List.getElem_cons_succ]
        go_simp
        go_at_call 63
        refine (P_AtO (c.x1 - 1) (c.y1 - 1) _ wf3.out wf4.out).mono ?_
        rintro e wn ⟨rfl, hbn⟩
        have hsz := B.size
        have hzn := hbn.size
        have hsx := hX.size
        replace B := B.trans (hbn.mono B.size)
        replace hX := hX.trans (hbn.mono hX.size)
        try first | replace p3 := p3.of_eq (hbn.block _ p3.lt) | replace p3 := p3.below hbn
        try first | replace p4 := p4.of_eq (hbn.block _ p4.lt) | replace p4 := p4.below hbn
        refine hK _ _ ⟨fun _ => ⟨_, ov_of hX⟩, ?_⟩
        clear hK K
        try simp only [List.getElem_toArray, List.getElem_cons_zero, List.getElem_cons_succ]
        simp only [Act.put, putS]
        refine anyX_seq (by kernel_rfl) (by kernel_rfl) ?_
        simp only [List.drop_succ_cons, List.drop_zero]
        go_wp2_with (first | (refine wpList_storeB (t := 24) rfl _ _ rfl _ rfl _ rfl p3 (by kernel_rfl) rfl (by simp [Value.oneCell']) ?_; clear p3; intro wn ht hcn hzn; have hsz := B.size; replace hzn := Nat.le_of_eq hzn.symm; replace B := Chg.below B hcn (by omega) B.size; (try replace p4 := p4.of_eq (hcn.block _ p4.lt (by omega))); have p3 := ht; clear ht; simp only [Act.put, putS]) | (refine wpList_storeB (t := 24) rfl _ _ rfl _ rfl _ rfl p4 (by kernel_rfl) rfl (by simp [Value.oneCell']) ?_; clear p4; intro wn ht hcn hzn; have hsz := B.size; replace hzn := Nat.le_of_eq hzn.symm; replace B := Chg.below B hcn (by omega) B.size; (try replace p3 := p3.of_eq (hcn.block _ p3.lt (by omega))); have p4 := ht; clear ht; simp only [Act.put, putS]) | fail)
        refine NoPan.normal ?_
        go_wp2_with fail
        go_meet
        exact ⟨b_p3, b_p4, rfl, rfl, B, by omega, by omega, p3, p4⟩
  case rest =>
  clear B r0 r0B
  obtain ⟨b_p3, b_p4, rfl, rfl, B, k3, k4, p3, p4⟩ := hcut
  have hJ := HJ.out _ B
  have n3 : b_p3 ≠ b8 := by omega
  have n4 : b_p4 ≠ b8 := by omega
  clear B HJ
  go_upto_region 2 with fail
  refine wp_region_lit ?_
  try simp only [List.getElem_toArray, List.getElem_cons_zero, List.getElem_cons_succ]
  refine wpList_chunk 7 (by kernel_rfl) ?_
  simp only [takS, Nat.reduceAdd]
  repeat (first | go_big_quiet_skip | (go_big_quiet_want; first | (refine quiet_loadAny (t := 3) rfl _ _ _ rfl (fun w hw => run_load_int ((ov_B p3 w hw).cellL 0 rfl)) (by rfl) ?_; simp only [Act.put, putS]; go_big_quiet_on) | (refine quiet_loadAny (t := 3) rfl _ _ _ rfl (fun w hw => run_load_int ((ov_B p3 w hw).cellL 1 rfl)) (by rfl) ?_; simp only [Act.put, putS]; go_big_quiet_on) | (refine quiet_loadAny (t := 3) rfl _ _ _ rfl (fun w hw => run_load_int ((ov_B p4 w hw).cellL 0 rfl)) (by rfl) ?_; simp only [Act.put, putS]; go_big_quiet_on) | (refine quiet_loadAny (t := 3) rfl _ _ _ rfl (fun w hw => run_load_int ((ov_B p4 w hw).cellL 1 rfl)) (by rfl) ?_; simp only [Act.put, putS]; go_big_quiet_on) | (go_big_quiet_op; go_big_quiet_on)))
  refine wpQuiet_nil ?_
  refine wpList_nil ?_
  go_wp2
  go_loopw [5, 6, 29] (fun _ _ iv wr => ∃ k : Nat, k ≤ H ∧ iv = .int .i64 (k : Int) ∧ J (fpre (tlN c) (W * k)) wr ∧ AtB 24 wr b_p3 #[.int .i64 (c.x0 / 8), .int .i64 (c.y0 / 8)] ∧ AtB 24 wr b_p4 #[.int .i64 ((c.x1 - 1) / 8), .int .i64 ((c.y1 - 1) / 8)]) (fun _ _ iv _ => (H - intOf iv).toNat)
  case atStart => exact ⟨0, by omega, by simp, by rw [Nat.mul_zero, fpre_zero]; exact hJ, p3, p4⟩
  case round =>
    clear p3 p4 hJ
    obtain ⟨k, hk, rfl, hJ, p3, p4⟩ := hrel
    by_cases hkH : k < H
    · have q1 : decide ((k : Int) < (c.y1 - 1) / 8 - c.y0 / 8 + 1) = true := decide_eq_true (by omega)
      have hn2 : W * k + W ≤ W * H := by
        have := Nat.mul_le_mul_left W (show k + 1 ≤ H from hkH)
        rw [Nat.mul_succ] at this
        exact this
      go_upto_region 3 with fail
      refine wp_region_lit ?_
      try simp only [List.getElem_toArray, List.getElem_cons_zero, List.getElem_cons_succ]
      refine wpList_chunk 1 (by kernel_rfl) ?_
      simp only [takS, Nat.reduceAdd]
      repeat (first | go_big_quiet_skip | (go_big_quiet_want; first | (go_big_quiet_op; go_big_quiet_on)))
      refine wpQuiet_nil ?_
      refine wpList_nil ?_
      go_upto_region 4 with fail
      refine wp_region_lit ?_
      try simp only [List.getElem_toArray, List.getElem_cons_zero, List.getElem_cons_succ]
      refine wpList_chunk 2 (by kernel_rfl) ?_
      simp only [takS, Nat.reduceAdd]
      repeat (first | go_big_quiet_skip | (go_big_quiet_want; first | (go_big_quiet_op; go_big_quiet_on)))
      refine wpQuiet_nil ?_
      refine wpList_nil ?_
      go_upto_region 5 with fail
      refine wp_region_lit ?_
      try simp only [List.getElem_toArray, List.getElem_cons_zero, List.getElem_cons_succ]
      refine wpList_chunk 7 (by kernel_rfl) ?_
      simp only [takS, Nat.reduceAdd]
      repeat (first | go_big_quiet_skip | (go_big_quiet_want; first | (refine quiet_loadAny (t := 3) rfl _ _ _ rfl (fun w hw => run_load_int ((ov_B p3 w hw).cellL 0 rfl)) (by rfl) ?_; simp only [Act.put, putS]; go_big_quiet_on) | (refine quiet_loadAny (t := 3) rfl _ _ _ rfl (fun w hw => run_load_int ((ov_B p3 w hw).cellL 1 rfl)) (by rfl) ?_; simp only [Act.put, putS]; go_big_quiet_on) | (refine quiet_loadAny (t := 3) rfl _ _ _ rfl (fun w hw => run_load_int ((ov_B p4 w hw).cellL 0 rfl)) (by rfl) ?_; simp only [Act.put, putS]; go_big_quiet_on) | (refine quiet_loadAny (t := 3) rfl _ _ _ rfl (fun w hw => run_load_int ((ov_B p4 w hw).cellL 1 rfl)) (by rfl) ?_; simp only [Act.put, putS]; go_big_quiet_on) | (go_big_quiet_op; go_big_quiet_on)))
      refine wpQuiet_nil ?_
      refine wpList_nil ?_
      go_wp2
      go_loopw [6, 38] (fun _ iv wr => ∃ j : Nat, j ≤ W ∧ iv = .int .i64 (j : Int) ∧ J (fpre (tlN c) (W * k + j)) wr ∧ AtB 24 wr b_p3 #[.int .i64 (c.x0 / 8), .int .i64 (c.y0 / 8)] ∧ AtB 24 wr b_p4 #[.int .i64 ((c.x1 - 1) / 8), .int .i64 ((c.y1 - 1) / 8)]) (fun _ iv _ => (W - intOf iv).toNat)
      case atStart => exact ⟨0, by omega, by simp, hJ, p3, p4⟩
      case round =>
        clear p3 p4 hJ
        obtain ⟨j, hj, rfl, hJ, p3, p4⟩ := hrel
        by_cases hjW : j < W
        · have q2 : decide ((j : Int) < (c.x1 - 1) / 8 - c.x0 / 8 + 1) = true := decide_eq_true (by omega)
          have hlt : W * k + j < tlN c := by omega
          go_upto_region 6 with fail
          refine wp_region_lit ?_
          try simp only [List.getElem_toArray, List.getElem_cons_zero, List.getElem_cons_succ]
          refine wpList_chunk 1 (by kernel_rfl) ?_
          simp only [takS, Nat.reduceAdd]
          repeat (first | go_big_quiet_skip | (go_big_quiet_want; first | (go_big_quiet_op; go_big_quiet_on)))
          refine wpQuiet_nil ?_
          refine wpList_nil ?_
          go_upto_region 7 with fail
          refine wp_region_lit ?_
          try simp only [List.getElem_toArray, List.getElem_cons_zero, List.getElem_cons_succ]
          refine wpList_chunk 2 (by kernel_rfl) ?_
          simp only [takS, Nat.reduceAdd]
          repeat (first | go_big_quiet_skip | (go_big_quiet_want; first | (go_big_quiet_op; go_big_quiet_on)))
          refine wpQuiet_nil ?_
          refine wpList_nil ?_
          go_upto_region 8 with fail
          obtain ⟨fn, tmps, assign, body, hy, hR⟩ := HY.out (fpre (tlN c) (W * k + j)) ⟨W * k + j, hlt⟩ _ hJ (by rw [fpre_length (by omega)]; exact hlt)
          have ep : posF c ⟨W * k + j, hlt⟩ = (c.x0 / 8 + (j : Int), c.y0 / 8 + (k : Int)) := HR.out k j hjW
          rw [ep] at hy
          try dsimp only at hy
          rw [← fpre_succ hlt] at hR
          have c0 := p3.cellL 0 rfl
          have c1 := p3.cellL 1 rfl
          try dsimp only at c0 c1
          refine (wpIn_wide (n := n)).1 ?_
          gi_wp2
          refine hR.mono ?_
          rintro e W1 (⟨rfl, hJ1, hkp⟩ | ⟨rfl, hx1⟩)
          · replace p3 := hkp.atB n3 p3
            replace p4 := hkp.atB n4 p4
            clear c0 c1
            gi_wp2
            go_wp2
            go_roundw
            case rel => exact ⟨j + 1, by omega, by go_num, hJ1, p3, p4⟩
            case measure => simp [intOf]; omega
          · gi_wp2
            go_wp2
            refine bodyPost_ret (results_none rfl _ _ _) rfl ?_
            exact ⟨⟨_, rfl⟩, .inr ⟨_, trivial, hx1⟩⟩
        · obtain rfl : j = W := by omega
          have q2 : decide ((j : Int) < (c.x1 - 1) / 8 - c.x0 / 8 + 1) = false := decide_eq_false (by omega)
          go_upto_region 6 with fail
          refine wp_region_lit ?_
          try simp only [List.getElem_toArray, List.getElem_cons_zero, List.getElem_cons_succ]
          refine wpList_chunk 1 (by kernel_rfl) ?_
          simp only [takS, Nat.reduceAdd]
          repeat (first | go_big_quiet_skip | (go_big_quiet_want; first | (go_big_quiet_op; go_big_quiet_on)))
          refine wpQuiet_nil ?_
          refine wpList_nil ?_
          go_upto_region 10 with fail
          refine wp_region_lit ?_
          try simp only [List.getElem_toArray, List.getElem_cons_zero, List.getElem_cons_succ]
          refine wpList_chunk 2 (by kernel_rfl) ?_
          simp only [takS, Nat.reduceAdd]
          repeat (first | go_big_quiet_skip | (go_big_quiet_want; first | (go_big_quiet_op; go_big_quiet_on)))
          refine wpQuiet_nil ?_
          refine wpList_nil ?_
          go_wp2
          go_roundw
          case rel => exact ⟨k + 1, by omega, by go_num, by rw [Nat.mul_succ]; exact hJ, p3, p4⟩
          case measure => simp [intOf]; omega
    · obtain rfl : k = H := by omega
      have q1 : decide ((k : Int) < (c.y1 - 1) / 8 - c.y0 / 8 + 1) = false := decide_eq_false (by omega)
      go_upto_region 3 with fail
      refine wp_region_lit ?_
      try simp only [List.getElem_toArray, List.getElem_cons_zero, List.getElem_cons_succ]
      refine wpList_chunk 1 (by kernel_rfl) ?_
      simp only [takS, Nat.reduceAdd]
      repeat (first | go_big_quiet_skip | (go_big_quiet_want; first | (go_big_quiet_op; go_big_quiet_on)))
      refine wpQuiet_nil ?_
      refine wpList_nil ?_
      go_wp2
      go_end0
      have eF : fpre (tlN c) (W * k) = List.finRange (tlN c) := by rw [← hew]; exact fpre_all _
      rw [eF] at hJ
      exact ⟨⟨_, rfl⟩, .inl ⟨_, rfl, hJ⟩⟩
end Go.Proofs.Ytppccnjckiedlaa
/- Contract of Paste of package raster, where the rectangle fits. -/
namespace Go.Proofs.Ytppccnjckiedlaa
open Go.RowKit Go.Shelf Pl
attribute [local go_sem] Oper.semAt_some
set_option linter.unusedVariables false
set_option linter.unusedSimpArgs false
set_option maxRecDepth 20000
theorem run_alloc_Sl (w : World) (o : Oper) (ho : o.op = .alloc 28) (ev : Operand → Value) : (execOp ev o).run Try.prog w = .ok (.value (.pointer (some ⟨w.heap.size, 0, none⟩))) (w.alloc (.cells #[.slice none 0 0] 28)) := by
  obtain ⟨d, p, t, ps, af, gd⟩ := o
  simp only at ho
  subst ho
  kernel_rfl
/-- A slice stored into its own cell. -/
theorem wpList_storeSl {v : Value} {ops : Array Oper} {rest : List Oper} {o : Oper} {a : Act} {w : World} {Q : Exit → Act → World → Prop} (hg : o.guard = none) (x y : Operand) (ho : o.op = .store 28 x y) (b : Nat) (hx : a.eval x = .pointer (some ⟨b, 0, none⟩)) (a' : Option Addr) (n' c' : Nat) (hy : a.eval y = .slice a' n' c') (ht : AtB 28 w b #[v])
    (h : ∀ w', AtB 28 w' b #[.slice a' n' c'] → Chg b w w' → w'.heap.size = w.heap.size → wpList Try.prog ops Q rest (a.put o.dst undef) w') : wpList Try.prog ops Q (o :: rest) a w := by
  have c0 := ht.cell 0 rfl
  have f0 := ht.frozen 0
  refine wpList_storeAny hg x y ho (w.setCell ⟨b, 0, none⟩ (.slice a' n' c')) ?_ (h _ ?_ ((Chg.refl b w).setCell _) (by simp only [World.size_setCell]))
  · rw [hx, hy]
    simp [go_sem, c0, f0]
  · exact heap_setCell_same w b 0 #[v] _ _ ht
theorem wpList_val {ops : Array Oper} {rest : List Oper} {o : Oper} {a : Act} {w : World} {Q : Exit → Act → World → Prop} (hg : o.guard = none) (v : Value) (hrun : (execOp a.eval o).run Try.prog w = .ok (.value v) w)
    (h : wpList Try.prog ops Q rest (a.put o.dst v) w) : wpList Try.prog ops Q (o :: rest) a w :=
  wpList_plain hg fun K hK => by
    unfold Oper.wp
    rw [hrun]
    exact hK _ _ h
theorem fill_TA0 (x y : Int) : Instr.fill (fun i => #[(0, 2), (2, 256)][i]?) zTA [(0, Ps.v x y)] = some (taC ⟨x, y, zT⟩) := by
  obtain ⟨r, hs, hr, e⟩ := fill_cons (place := fun i => #[(0, 2), (2, 256)][i]?) (cells := zTA) (i := 0) (v := Ps.v x y) (rest := []) (off := 0) (sz := 2) rfl (by rw [cells_ps]; rfl) (by rw [size_zTA]; omega)
  rw [e]
  show some r = _
  congr 1
  apply Array.ext_getElem?
  intro k
  rw [hr k, taC_get, cells_ps]
  by_cases h2 : k < 2
  · rw [if_pos (by omega), if_pos h2, Nat.sub_zero]
  · rw [if_neg (by omega), if_neg h2]
    have hz : zTA[k]? = (tileC zT)[k - 2]? := by
      have e : zTA = #[.int .i64 0, .int .i64 0] ++ tileC zT := by unfold zTA; kernel_rfl
      rw [e, Array.getElem?_append_right (by simp; omega)]
      rfl
    exact hz
theorem run_build_TA0 (w : World) (x y : Int) : (Instr.build 79 #[(0, Ps.v x y)]).run Try.prog w = .ok (.agg (taC ⟨x, y, zT⟩)) w :=
  run_build w 79 #[(0, Ps.v x y)] _ ((built_TA _).trans (fill_TA0 x y))
theorem quiet_buildTA0 {o : Oper} {a : Act} {C : World → Prop} {K : Act → Prop} {p : Operand} (h : o.op = .build 79 #[(0, p)]) (x y : Int) (hp : a.eval p = .agg #[.int .i64 x, .int .i64 y]) (hk : K (a.put o.dst (.agg (taC ⟨x, y, zT⟩)))) : o.quiet Try.prog a C K :=
  ⟨_, fun w hw => by
    have r := run_build_TA0 w x y
    simp only [Ps.v] at r
    unfold Oper.quietAt execOp
    simp only [h, List.map_toArray, List.map_cons, List.map_nil, hp, Sem.run_bind, r, Result.andThen_ok, Sem.run_pure]
    exact ⟨rfl, rfl⟩, hk⟩
theorem below_same {b : Nat} {w w' : World} (h : Chg b w w') (e : w'.heap[b]? = w.heap[b]?) : Below w.heap.size w w' :=
  ⟨h.os, h.tape, h.output, h.size, fun k hk => by
    by_cases hb : k = b
    · subst hb; exact e
    · exact h.block k hk hb⟩
theorem RCellsE.ownP {g o : Nat} {ls : List Px} {A B : World} {row : Option Nat} (h : RCellsE pxE g o ls A) (hn : 0 < ls.length) (hg : A.grownBy B row) (hr : ∀ r, row = some r → ∃ o : Obj, A.heap[r]? = some o ∧ o.isCells = false) : RCellsE pxE g o ls B := by
  refine h.of_eq (hg.block g h.lt fun e => ?_)
  obtain ⟨x, hx, hc⟩ := hr g e.symm
  have h0 := h.2 0 _ (List.getElem?_eq_getElem hn) 0 (by omega)
  have hs : ∃ v, (pxE.enc ls[0])[0]? = some v := ⟨_, rfl⟩
  obtain ⟨v, hv⟩ := hs
  rw [hv] at h0
  have := cell_not h0 x hx
  rw [hc] at this
  cases this
/-- The pixels of one tile turned by the paste. -/
theorem P_mapPst (c : Rc) (hf : Fits c) (L : List Px) (hL : L.length = areaN c) (okL : OkL L) (e : TA) (a : Option Addr) (cp0 : Nat) (bc bm cb g o cp : Nat) (z : Nat → Px) (w : World) (rs : RS (.slice a 1 cp0) [e] w) (tk : Tok e.t) (hw : withinB e.x e.y = true) (r0 : AtB 64 w bc (rcA c)) (m0 : AtB 68 w bm (imgC c (.slice (some ⟨g, o, none⟩) (areaN c) cp))) (ce : RCellsE pxE g o L w) (tz : TileAt w cb z) (hsep : (Value.slice a 1 cp0).ownBlock ≠ some cb) :
    Calls Try.prog 79 #[.slice a 1 cp0, .func (.func 94) #[] #[.pointer (some ⟨bc, 0, none⟩), .pointer (some ⟨bm, 0, none⟩)]] w fun e' w' => ∃ a' cp', e' = .returned (.slice a' (newA e.x e.y (pstT c L e.x e.y e.t)).length cp') ∧ RS (.slice a' (newA e.x e.y (pstT c L e.x e.y e.t)).length cp') (newA e.x e.y (pstT c L e.x e.y e.t)) w' ∧ Below w.heap.size w w' := by
  have eg := enters_of Try.func94 (by kernel_rfl) rfl
  have l1 := r0.lt
  have l2 := m0.lt
  have l3 := ce.lt
  have l4 := tz.lt
  refine (P_mapped (pstF c L) (fun _ W => AtB 64 W bc (rcA c) ∧ AtB 68 W bm (imgC c (.slice (some ⟨g, o, none⟩) (areaN c) cp)) ∧ RCellsE pxE g o L W ∧ TileAt W cb z) cb 94 #[.pointer (some ⟨bc, 0, none⟩), .pointer (some ⟨bm, 0, none⟩)] eg _ [e] () w rs (fun x hx => by rcases List.mem_singleton.1 hx with rfl; exact tk) (by simp) (fun x hx => by rcases List.mem_singleton.1 hx with rfl; exact hw) l4 (fun _ => hsep) ⟨r0, m0, ce, tz⟩
    (fun s W W' hI hk => ⟨hI.1.of_eq (hk _ l1), hI.2.1.of_eq (hk _ l2), hI.2.2.1.of_eq (hk _ l3), hI.2.2.2.of_eq (hk _ l4)⟩)
    (fun s W x y p _ hI h1 h2 h3 h4 hp => (P_Paste1 c hf L hL okL x y p hp bc bm g o cp W hI.1 hI.2.1 hI.2.2.1).mono fun e' W' ⟨he, hb⟩ => ⟨he, ⟨hI.1.of_eq (hb.block _ hI.1.lt), hI.2.1.of_eq (hb.block _ hI.2.1.lt), hI.2.2.1.of_eq (hb.block _ hI.2.2.1.lt), hI.2.2.2.of_eq (hb.block _ hI.2.2.2.lt)⟩, Chg.of_below hb⟩)
    (fun s x y p hp => pstP_ok okL x y p hp)).mono ?_
  rintro e' w' ⟨v', rfl, od, hI, hcc⟩
  have hm : (mapK (pstF c L) [e] () [e].length).2 = newA e.x e.y (pstT c L e.x e.y e.t) := mapK_pst c L e
  rw [hm] at od
  have hb := below_same hcc (by rw [show w'.heap[cb]? = _ from hI.2.2.2, show w.heap[cb]? = _ from tz])
  obtain ⟨a', cp', rfl, _⟩ := od.len
  exact ⟨a', cp', rfl, od.rs, hb⟩
theorem P_findB (v : Value) (ls : List TA) (x y : Int) (k : Nat) (b : Bool) (w : World) (h : RS v ls w) (hs : Srt ls) (hn : ls.length ≤ 1000000) (hk : cutL ls x y = k) (hb : hitL ls x y = b) : Calls Try.prog 93 #[v, .agg #[.int .i64 x, .int .i64 y]] w fun e w' => e = .returned (.tuple #[.int .i64 (k : Int), .bool b]) ∧ Below w.heap.size w w' := by
  subst hk hb
  exact P_find v ls x y w h hs hn
theorem zip1_wp {F : Fence} {n : Nat} {P : Program} {c : Code} {Q : Exit → Act → World → Prop} {W : World} {t : Array Value} {p : Tmp} {v : Value} (h : c.wpIn F n P Q { tmps := t.setIfInBounds p v, defers := [] } W) :
    c.wpIn F n P Q { tmps := (#[p].zip #[v]).foldl (fun t (p, v) => t.setIfInBounds p v) t, defers := [] } W := by
  have e : (#[p].zip #[v]).foldl (fun t (p, v) => t.setIfInBounds p v) t = t.setIfInBounds p v := by
    show Array.foldl _ t (Array.zip (List.toArray [p]) (List.toArray [v])) = _
    rw [List.zip_toArray]
    simp
  rw [e]
  exact h
theorem arr_fn (t : Array Value) (n : Nat) (h : t.size = n) : ∃ U : Nat → Value, t = ((List.range n).map U).toArray ∧ ∀ i, U i = t.getD i undef := by
  refine ⟨fun i => t.getD i undef, ?_, fun _ => rfl⟩
  apply Array.ext_getElem?
  intro k
  by_cases hk : k < n
  · simp [hk, h]
  · simp [hk, h]
/-- A block of deferred calls, empty. -/
def DefAt (w : World) (D : Nat) : Prop := w.heap[D]? = some (.deferred (some []))
theorem DefAt.of_eq {w w' : World} {D : Nat} (h : DefAt w D) (e : w'.heap[D]? = w.heap[D]?) : DefAt w' D := e.trans h
theorem DefAt.lt {w : World} {D : Nat} (h : DefAt w D) : D < w.heap.size := (Array.getElem?_eq_some_iff.1 h).1
theorem DefAt.ne {w : World} {D b : Nat} {t : TypeId} {cs : Array Value} (h : DefAt w D) (k : AtB t w b cs) : b ≠ D := fun e => by
  subst e
  have k' : w.heap[b]? = _ := k
  rw [show w.heap[b]? = _ from h] at k'
  cases k'
theorem rs_mid {g o : Nat} {ls : List TA} {w : World} (sc : RCells g o ls w) {k : Nat} (hk : k < ls.length) : RS (.slice (some ⟨g, o + k * 258, none⟩) 1 1) [aT ls k] w := by
  refine .inr ⟨g, o + k * 258, 1, rfl, Nat.le_refl _, fun _ => ⟨sc.1, fun i hi j hj => ?_⟩⟩
  obtain rfl : i = 0 := by simpa using hi
  have := sc.2 k hk j hj
  rw [show o + k * 258 + (0 * 258 + j) = o + (k * 258 + j) by omega, this]
  rfl
set_option maxHeartbeats 8000000 in
theorem P_Paste_ok (v : Value) (ls : List TA) (c : Rc) (u : Value) (L : List Px) (w : World) (h : RS v ls w) (tk : TokL ls) (hn : ls.length ≤ maxLen) (hE : fitsE c = 0) (hu : RSE pxE u L w) (hL : L.length = areaN c) (okL : OkL L) : Calls Try.prog 48 #[.agg #[v], .agg (imgC c u)] w fun e w' => ∃ a cp, e = .returned (.tuple #[.agg #[.slice a (manyL (pstL c L (fineL ls) (posL c))).length cp], .int .i64 (manyE (pstL c L (fineL ls) (posL c)))]) ∧ RS (.slice a (manyL (pstL c L (fineL ls) (posL c))).length cp) (manyL (pstL c L (fineL ls) (posL c))) w' ∧ Below w.heap.size w w' := by
  have B := Below.refl w.heap.size w
  obtain ⟨a', c', hT⟩ := P_tiles v ls w h tk hn
  have HT := Lib.hid hT
  clear hT
  obtain ⟨a, cpv, rfl, hc⟩ := h.len
  have HF := fitsE_zero hE
  have FT := Lib.hid HF
  obtain ⟨an1, an2⟩ := area_bd HF
  have hAN := Lib.hid (area_N HF)
  have HV := Lib.hid HF.valid
  obtain ⟨ad, cu, rfl, hcu⟩ := hu.len
  obtain ⟨g, o, rfl, ce⟩ := hu.at (by have := area_N HF; omega)
  have SR := Lib.hid (validL_srt (fineL_valid ls))
  have TK := Lib.hid (fineL_tok tk)
  have hfl := fineL_length ls
  have hNle := tlN_le HF
  have OK := Lib.hid okL
  have HL := Lib.hid hL
  have HEE := Lib.hid hE
  have d1 : ((areaN c : Int) != (areaN c : Int)) = false := by simp
  rw [hL]
  rw [hL] at hcu
  clear h tk hu okL hL hE HF
  generalize hks : fineL ls = KS at *
  refine (callsIn_wide (n := 3)).1 ?_
  refine callsIn_of_wp_marks Try.func48 rfl trivial ?_ rfl
  simp only [Try.ntmps48, List.size_toArray, List.length_cons, List.length_nil, Nat.reduceAdd, Nat.reduceSub, Array.replicate_succ, Array.replicate_zero, List.push_toArray, List.append_toArray, List.nil_append, List.cons_append]
  refine wpIn_wide.2 ?_
  go_upto_region 0 with fail
  refine wp_region_lit ?_
  try simp only [List.getElem_toArray, List.getElem_cons_zero, List.getElem_cons_succ]
  (refine wpList_boxB (t := 30) rfl _ rfl _ rfl ?_; intro b_r2 wn hle hge ht hbn hzn; have hsz := B.size; replace B := B.trans (hbn.mono (by omega)); have hln := Nat.lt_of_lt_of_eq (Nat.lt_succ_self _) hzn.symm; clear hzn; (try first | (have hlt := ce.lt; replace ce := ce.of_eq (hbn.block _ (by omega))) | replace ce := ce.below (hbn.mono hle)); have r2 := ht; clear ht; simp only [Act.put, putS])
  (refine wpList_boxB (t := 68) rfl _ rfl _ rfl ?_; intro b_m3 wn hle hge ht hbn hzn; have hsz := B.size; replace B := B.trans (hbn.mono (by omega)); have hln := Nat.lt_of_lt_of_eq (Nat.lt_succ_self _) hzn.symm; clear hzn; (try first | (have hlt := r2.lt; replace r2 := r2.of_eq (hbn.block _ (by omega))) | replace r2 := r2.below (hbn.mono hle)); (try first | (have hlt := ce.lt; replace ce := ce.of_eq (hbn.block _ (by omega))) | replace ce := ce.below (hbn.mono hle)); have m3 := ht; clear ht; simp only [Act.put, putS])
  (refine wpList_allocBk (t := 30) rfl _ (run_alloc_R _ _ rfl) ?_; intro b_r4 wn hle hge ht hbn hzn; have hsz := B.size; replace B := B.trans (hbn.mono (by omega)); have hln := Nat.lt_of_lt_of_eq (Nat.lt_succ_self _) hzn.symm; clear hzn; (try first | (have hlt := r2.lt; replace r2 := r2.of_eq (hbn.block _ (by omega))) | replace r2 := r2.below (hbn.mono hle)); (try first | (have hlt := m3.lt; replace m3 := m3.of_eq (hbn.block _ (by omega))) | replace m3 := m3.below (hbn.mono hle)); (try first | (have hlt := ce.lt; replace ce := ce.of_eq (hbn.block _ (by omega))) | replace ce := ce.below (hbn.mono hle)); have r4 := ht; clear ht; simp only [Act.put, putS])
  refine wpList_chunk 1 (by kernel_rfl) ?_
  simp only [takS, Nat.reduceAdd]
  repeat (first | go_big_quiet_skip | (go_big_quiet_want; first | (go_big_quiet_op; go_big_quiet_on)))
  refine wpQuiet_nil ?_
  refine wpList_nil ?_
  go_upto_region 1 with fail
  refine wp_region_lit ?_
  try simp only [List.getElem_toArray, List.getElem_cons_zero, List.getElem_cons_succ]
  refine wpList_chunk 2 (by kernel_rfl) ?_
  simp only [takS, Nat.reduceAdd]
  repeat (first | go_big_quiet_skip | (go_big_quiet_want; first | (refine quiet_loadAny (t := 64) rfl _ _ _ rfl (fun w hw => run_load_imR (ov_B m3 w hw)) (by first | rfl | omega) ?_; simp only [Act.put, putS]; go_big_quiet_on) | (refine quiet_loadAny (t := 64) rfl _ _ _ rfl (fun w hw => run_load_B (ov_B c6 w hw) Try.isAgg64 (by kernel_rfl)) (by rfl) ?_; simp only [Act.put, putS]; go_big_quiet_on) | (go_big_quiet_op; go_big_quiet_on)))
  refine wpQuiet_nil ?_
  (refine wpList_allocBk (t := 64) rfl _ (run_alloc_Rc _ _ rfl) ?_; intro b_c6 wn hle hge ht hbn hzn; have hsz := B.size; replace B := B.trans (hbn.mono (by omega)); have hln := Nat.lt_of_lt_of_eq (Nat.lt_succ_self _) hzn.symm; clear hzn; (try first | (have hlt := r2.lt; replace r2 := r2.of_eq (hbn.block _ (by omega))) | replace r2 := r2.below (hbn.mono hle)); (try first | (have hlt := m3.lt; replace m3 := m3.of_eq (hbn.block _ (by omega))) | replace m3 := m3.below (hbn.mono hle)); (try first | (have hlt := r4.lt; replace r4 := r4.of_eq (hbn.block _ (by omega))) | replace r4 := r4.below (hbn.mono hle)); (try first | (have hlt := c6.lt; replace c6 := c6.of_eq (hbn.block _ (by omega))) | replace c6 := c6.below (hbn.mono hle)); (try first | (have hlt := ce.lt; replace ce := ce.of_eq (hbn.block _ (by omega))) | replace ce := ce.below (hbn.mono hle)); have c6 := ht; clear ht; simp only [Act.put, putS])
  (refine wpList_storeB (t := 64) rfl _ _ rfl _ rfl _ rfl c6 (by kernel_rfl) rfl (by simp [rcA, imgC, Value.oneCell']) ?_; clear c6; intro wn ht hcn hzn; have hsz := B.size; replace hzn := Nat.le_of_eq hzn.symm; replace B := Chg.below B hcn (by omega) B.size; (try replace r2 := r2.of_eq (hcn.block _ r2.lt (by omega))); (try replace m3 := m3.of_eq (hcn.block _ m3.lt (by omega))); (try replace r4 := r4.of_eq (hcn.block _ r4.lt (by omega))); (try replace ce := ce.of_eq (hcn.block _ ce.lt (by omega))); have c6 := ht; clear ht; simp only [Act.put, putS])
  refine wpList_nil ?_
  replace c6 : AtB 64 _ b_c6 (rcA c) := c6
  go_upto_region 2 with fail
  try simp only [List.getElem_toArray, List.getElem_cons_zero, List.getElem_cons_succ]
  try have lx_r2 := r2.lt
  try have lx_m3 := m3.lt
  try have lx_r4 := r4.lt
  try have lx_c6 := c6.lt
  try have lx_ce := ce.lt
  refine wp_region_RL 11 [(1, detS ?v1_1), (6, detS ?v1_6), (8, detS ?v1_8)] (by kernel_rfl) (by kernel_rfl) (by kernel_rfl) ?_
  rotate_left 3
  simp only [takS, Nat.reduceAdd]
  refine wpRL_chunk 1 (by kernel_rfl) ?_
  simp only [takS, Nat.reduceAdd]
  repeat (first | go_big_quiet_skip | (go_big_quiet_want; first | (refine quiet_loadAny (t := 64) rfl _ _ _ rfl (fun w hw => run_load_imR (ov_B m3 w hw)) (by first | rfl | omega) ?_; simp only [Act.put, putS]; go_big_quiet_on) | (refine quiet_loadAny (t := 64) rfl _ _ _ rfl (fun w hw => run_load_B (ov_B c6 w hw) Try.isAgg64 (by kernel_rfl)) (by rfl) ?_; simp only [Act.put, putS]; go_big_quiet_on) | (go_big_quiet_op; go_big_quiet_on)))
  refine wpQuiet_nil ?_
  refine wpRL_callB (by rfl) (by first | rfl | simp [Region.wanted, yielded]) ?_ ?_
  · intro wn hbn hE Kx hKx
    have hsz := B.size
    have hzn := hbn.size
    replace B := B.trans (hbn.mono B.size)
    (try first | replace r2 := r2.of_eq (hbn.block _ r2.lt) | replace r2 := r2.below hbn)
    (try first | replace m3 := m3.of_eq (hbn.block _ m3.lt) | replace m3 := m3.below hbn)
    (try first | replace r4 := r4.of_eq (hbn.block _ r4.lt) | replace r4 := r4.below hbn)
    (try first | replace c6 := c6.of_eq (hbn.block _ c6.lt) | replace c6 := c6.below hbn)
    (try first | replace ce := ce.of_eq (hbn.block _ ce.lt) | replace ce := ce.below hbn)
    refine wp_callF rfl (enters_of Try.func91 (by kernel_rfl) rfl) (by simp only [List.map_toArray, List.map_cons, List.map_nil, Act.eval, Array.getD_eq_getD_getElem?, List.getElem?_toArray, List.getElem?_cons_succ, List.getElem?_cons_zero, Option.getD_some]; rfl) ?_
    refine (P_ValidRB c true _ HV.out).mono ?_
    rintro e wm ⟨rfl, hbm⟩
    refine ⟨_, rfl, ?_⟩
    have hz := hKx () wm trivial hbm
    dsimp only [detS] at hz
    exact hz
  rintro ⟨⟩
  dsimp only [detS]
  simp only [Act.put, putS]
  refine wpRL_chunk 4 (by kernel_rfl) ?_
  simp only [takS, Nat.reduceAdd]
  repeat (first | go_big_quiet_skip | (go_big_quiet_want; first | (refine quiet_loadAny (t := 66) rfl _ _ _ rfl (fun w hw => run_load_slp (imgC_u (ov_B m3 w hw))) (by first | rfl | omega) ?_; simp only [Act.put, putS]; go_big_quiet_on) | (go_big_quiet_op; go_big_quiet_on)))
  refine wpQuiet_nil ?_
  refine wpRL_callB (by rfl) ?hw1_6 ?_ ?_
  case hw1_6 => kernel_rfl
  · intro wn hbn hE Kx hKx
    have hsz := B.size
    have hzn := hbn.size
    replace B := B.trans (hbn.mono B.size)
    (try first | replace r2 := r2.of_eq (hbn.block _ r2.lt) | replace r2 := r2.below hbn)
    (try first | replace m3 := m3.of_eq (hbn.block _ m3.lt) | replace m3 := m3.below hbn)
    (try first | replace r4 := r4.of_eq (hbn.block _ r4.lt) | replace r4 := r4.below hbn)
    (try first | replace c6 := c6.of_eq (hbn.block _ c6.lt) | replace c6 := c6.below hbn)
    (try first | replace ce := ce.of_eq (hbn.block _ ce.lt) | replace ce := ce.below hbn)
    refine wp_lenS rfl Try.underlying66 rfl ?_
    exact hKx () _ trivial (Below.refl _ _)
  rintro ⟨⟩
  dsimp only [detS]
  simp only [Act.put, putS]
  refine wpRL_chunk 1 (by kernel_rfl) ?_
  simp only [takS, Nat.reduceAdd]
  repeat (first | go_big_quiet_skip | (go_big_quiet_want; first | (refine quiet_loadAny (t := 64) rfl _ _ _ rfl (fun w hw => run_load_imR (ov_B m3 w hw)) (by first | rfl | omega) ?_; simp only [Act.put, putS]; go_big_quiet_on) | (refine quiet_loadAny (t := 64) rfl _ _ _ rfl (fun w hw => run_load_B (ov_B c6 w hw) Try.isAgg64 (by kernel_rfl)) (by rfl) ?_; simp only [Act.put, putS]; go_big_quiet_on) | (go_big_quiet_op; go_big_quiet_on)))
  refine wpQuiet_nil ?_
  refine wpRL_callB (by rfl) ?hw1_8 ?_ ?_
  case hw1_8 => kernel_rfl
  · intro wn hbn hE Kx hKx
    have hsz := B.size
    have hzn := hbn.size
    replace B := B.trans (hbn.mono B.size)
    (try first | replace r2 := r2.of_eq (hbn.block _ r2.lt) | replace r2 := r2.below hbn)
    (try first | replace m3 := m3.of_eq (hbn.block _ m3.lt) | replace m3 := m3.below hbn)
    (try first | replace r4 := r4.of_eq (hbn.block _ r4.lt) | replace r4 := r4.below hbn)
    (try first | replace c6 := c6.of_eq (hbn.block _ c6.lt) | replace c6 := c6.below hbn)
    (try first | replace ce := ce.of_eq (hbn.block _ ce.lt) | replace ce := ce.below hbn)
    refine wp_callF rfl (enters_of Try.func78 (by kernel_rfl) rfl) (by simp only [List.map_toArray, List.map_cons, List.map_nil, Act.eval, Array.getD_eq_getD_getElem?, List.getElem?_toArray, List.getElem?_cons_succ, List.getElem?_cons_zero, Option.getD_some]; rfl) ?_
    refine (P_AreaB c (areaN c : Int) _ HV.out hAN.out).mono ?_
    rintro e wm ⟨rfl, hbm⟩
    refine ⟨_, rfl, ?_⟩
    have hz := hKx () wm trivial hbm
    dsimp only [detS] at hz
    exact hz
  rintro ⟨⟩
  dsimp only [detS]
  simp only [Act.put, putS]
  refine wpRL_chunk 2 (by kernel_rfl) ?_
  simp only [takS, Nat.reduceAdd]
  repeat (first | go_big_quiet_skip | (go_big_quiet_want; first | (go_big_quiet_op; go_big_quiet_on)))
  refine wpQuiet_nil ?_
  refine wpRL_nil ?_
  intro wn hbn hE
  have hsz := B.size
  have hzn := hbn.size
  replace B := B.trans (hbn.mono B.size)
  (try first | replace r2 := r2.of_eq (hbn.block _ r2.lt) | replace r2 := r2.below hbn)
  (try first | replace m3 := m3.of_eq (hbn.block _ m3.lt) | replace m3 := m3.below hbn)
  (try first | replace r4 := r4.of_eq (hbn.block _ r4.lt) | replace r4 := r4.below hbn)
  (try first | replace c6 := c6.of_eq (hbn.block _ c6.lt) | replace c6 := c6.below hbn)
  (try first | replace ce := ce.of_eq (hbn.block _ ce.lt) | replace ce := ce.below hbn)
  clear hE
  try simp only [List.drop_succ_cons, List.drop_zero]
  refine NoPan.normal ?_
  go_upto_region 4 with fail
  refine wp_region_lit ?_
  try simp only [List.getElem_toArray, List.getElem_cons_zero, List.getElem_cons_succ]
  refine wpList_chunk 1 (by kernel_rfl) ?_
  simp only [takS, Nat.reduceAdd]
  repeat (first | go_big_quiet_skip | (go_big_quiet_want; first | (refine quiet_loadAny (t := 64) rfl _ _ _ rfl (fun w hw => run_load_imR (ov_B m3 w hw)) (by first | rfl | omega) ?_; simp only [Act.put, putS]; go_big_quiet_on) | (refine quiet_loadAny (t := 64) rfl _ _ _ rfl (fun w hw => run_load_B (ov_B c6 w hw) Try.isAgg64 (by kernel_rfl)) (by rfl) ?_; simp only [Act.put, putS]; go_big_quiet_on) | (go_big_quiet_op; go_big_quiet_on)))
  refine wpQuiet_nil ?_
  refine wpList_callF (by first | rfl | simp [Region.wanted, yielded]) rfl (enters_of Try.func77 (by kernel_rfl) rfl) (by simp only [List.map_toArray, List.map_cons, List.map_nil, Act.eval, Array.getD_eq_getD_getElem?, List.getElem?_toArray, List.getElem?_cons_succ, List.getElem?_cons_zero, Option.getD_some]; rfl) ?_
  refine (P_fitsB c 0 _ HEE.out).mono ?_
  rintro e wn ⟨rfl, hbn⟩
  have hsz := B.size
  have hzn := hbn.size
  replace B := B.trans (hbn.mono B.size)
  (try first | replace r2 := r2.of_eq (hbn.block _ r2.lt) | replace r2 := r2.below hbn)
  (try first | replace m3 := m3.of_eq (hbn.block _ m3.lt) | replace m3 := m3.below hbn)
  (try first | replace r4 := r4.of_eq (hbn.block _ r4.lt) | replace r4 := r4.below hbn)
  (try first | replace c6 := c6.of_eq (hbn.block _ c6.lt) | replace c6 := c6.below hbn)
  (try first | replace ce := ce.of_eq (hbn.block _ ce.lt) | replace ce := ce.below hbn)
  refine ⟨_, rfl, ?_⟩
  simp only [Act.put, putS]
  refine wpList_chunk 1 (by kernel_rfl) ?_
  simp only [takS, Nat.reduceAdd]
  repeat (first | go_big_quiet_skip | (go_big_quiet_want; first | (go_big_quiet_op; go_big_quiet_on)))
  refine wpQuiet_nil ?_
  refine wpList_nil ?_
  go_upto_region 5 with fail
  refine wp_region_lit ?_
  try simp only [List.getElem_toArray, List.getElem_cons_zero, List.getElem_cons_succ]
  refine wpList_chunk 2 (by kernel_rfl) ?_
  simp only [takS, Nat.reduceAdd]
  repeat (first | go_big_quiet_skip | (go_big_quiet_want; first | (go_big_quiet_op; go_big_quiet_on)))
  refine wpQuiet_nil ?_
  refine wpList_nil ?_
  go_upto_region 7 with fail
  have rs1 := (HT.out _ B).2
  refine wp_region_lit ?_
  try simp only [List.getElem_toArray, List.getElem_cons_zero, List.getElem_cons_succ]
  refine wpList_chunk 1 (by kernel_rfl) ?_
  simp only [takS, Nat.reduceAdd]
  repeat (first | go_big_quiet_skip | (go_big_quiet_want; first | (refine quiet_loadAny (t := 30) rfl _ _ _ rfl (fun w hw => run_load_B (ov_B r2 w hw) Try.isAgg30 (by kernel_rfl)) (by rfl) ?_; simp only [Act.put, putS]; go_big_quiet_on) | (go_big_quiet_op; go_big_quiet_on)))
  refine wpQuiet_nil ?_
  refine wpList_callF (by first | rfl | simp [Region.wanted, yielded]) rfl (enters_of Try.func68 (by kernel_rfl) rfl) (by simp only [List.map_toArray, List.map_cons, List.map_nil, Act.eval, Array.getD_eq_getD_getElem?, List.getElem?_toArray, List.getElem?_cons_succ, List.getElem?_cons_zero, Option.getD_some]; rfl) ?_
  refine ((HT.out _ B).1).mono ?_
  rintro e wn ⟨rfl, hbn⟩
  have hsz := B.size
  have hzn := hbn.size
  replace B := B.trans (hbn.mono B.size)
  (try first | replace r2 := r2.of_eq (hbn.block _ r2.lt) | replace r2 := r2.below hbn)
  (try first | replace m3 := m3.of_eq (hbn.block _ m3.lt) | replace m3 := m3.below hbn)
  (try first | replace r4 := r4.of_eq (hbn.block _ r4.lt) | replace r4 := r4.below hbn)
  (try first | replace c6 := c6.of_eq (hbn.block _ c6.lt) | replace c6 := c6.below hbn)
  (try first | replace ce := ce.of_eq (hbn.block _ ce.lt) | replace ce := ce.below hbn)
  replace rs1 := rs1.below hbn
  refine ⟨_, rfl, ?_⟩
  simp only [Act.put, putS]
  (refine wpList_allocBk (t := 28) rfl _ (run_alloc_Sl _ _ rfl) ?_; intro b_l8 wn hle hge ht hbn hzn; have hsz := B.size; replace B := B.trans (hbn.mono (by omega)); have hln := Nat.lt_of_lt_of_eq (Nat.lt_succ_self _) hzn.symm; clear hzn; (try first | (have hlt := r2.lt; replace r2 := r2.of_eq (hbn.block _ (by omega))) | replace r2 := r2.below (hbn.mono hle)); (try first | (have hlt := m3.lt; replace m3 := m3.of_eq (hbn.block _ (by omega))) | replace m3 := m3.below (hbn.mono hle)); (try first | (have hlt := r4.lt; replace r4 := r4.of_eq (hbn.block _ (by omega))) | replace r4 := r4.below (hbn.mono hle)); (try first | (have hlt := c6.lt; replace c6 := c6.of_eq (hbn.block _ (by omega))) | replace c6 := c6.below (hbn.mono hle)); (try first | (have hlt := ce.lt; replace ce := ce.of_eq (hbn.block _ (by omega))) | replace ce := ce.below (hbn.mono hle)); (try first | (have hlt := rs1.lt; replace rs1 := rs1.of_eq (hbn.block _ (by omega))) | replace rs1 := rs1.below (hbn.mono hle)); have l8 := ht; clear ht; simp only [Act.put, putS])
  (refine wpList_storeSl rfl _ _ rfl _ rfl _ _ _ rfl l8 ?_; have l8o := l8; clear l8; intro wn ht hcn hzn; (try replace rs1 := rs1.chg l8o (by simp) hcn); have hsz := B.size; replace hzn := Nat.le_of_eq hzn.symm; replace B := Chg.below B hcn (by omega) B.size; (try replace r2 := r2.of_eq (hcn.block _ r2.lt (by omega))); (try replace m3 := m3.of_eq (hcn.block _ m3.lt (by omega))); (try replace r4 := r4.of_eq (hcn.block _ r4.lt (by omega))); (try replace c6 := c6.of_eq (hcn.block _ c6.lt (by omega))); (try replace ce := ce.of_eq (hcn.block _ ce.lt (by omega))); have l8 := ht; clear ht; simp only [Act.put, putS])
  refine wpList_nil ?_
  have k2 : w.heap.size ≤ b_r2 := by omega
  have k3 : b_r2 < b_m3 := by have := r2.lt; omega
  have k4 : b_m3 < b_r4 := by have := m3.lt; omega
  have k6 : b_r4 < b_c6 := by have := r4.lt; omega
  have k8 : b_c6 < b_l8 := by have := c6.lt; omega
  have k9 := l8.lt
  have kg := ce.lt
  go_upto_region 8 with fail
  refine wp_region_lit ?_
  try simp only [List.getElem_toArray, List.getElem_cons_zero, List.getElem_cons_succ]
  refine wpList_chunk 1 (by kernel_rfl) ?_
  simp only [takS, Nat.reduceAdd]
  repeat (first | go_big_quiet_skip | (go_big_quiet_want; first | (refine quiet_loadAny (t := 64) rfl _ _ _ rfl (fun w hw => run_load_imR (ov_B m3 w hw)) (by first | rfl | omega) ?_; simp only [Act.put, putS]; go_big_quiet_on) | (refine quiet_loadAny (t := 64) rfl _ _ _ rfl (fun w hw => run_load_B (ov_B c6 w hw) Try.isAgg64 (by kernel_rfl)) (by rfl) ?_; simp only [Act.put, putS]; go_big_quiet_on) | (go_big_quiet_op; go_big_quiet_on)))
  refine wpQuiet_nil ?_
  refine wpList_callF (by first | rfl | simp [Region.wanted, yielded]) rfl (enters_of Try.func92 (by kernel_rfl) rfl) (by simp only [List.map_toArray, List.map_cons, List.map_nil, Act.eval, Array.getD_eq_getD_getElem?, List.getElem?_toArray, List.getElem?_cons_succ, List.getElem?_cons_zero, Option.getD_some]; rfl) ?_
  refine (P_Tiles c _).mono ?_
  rintro e wn ⟨b_t, rfl, hbt, rt, hbn⟩
  have hsz := B.size
  have hzn := hbn.size
  replace B := B.trans (hbn.mono B.size)
  (try first | replace r2 := r2.of_eq (hbn.block _ r2.lt) | replace r2 := r2.below hbn)
  (try first | replace m3 := m3.of_eq (hbn.block _ m3.lt) | replace m3 := m3.below hbn)
  (try first | replace r4 := r4.of_eq (hbn.block _ r4.lt) | replace r4 := r4.below hbn)
  (try first | replace c6 := c6.of_eq (hbn.block _ c6.lt) | replace c6 := c6.below hbn)
  (try first | replace ce := ce.of_eq (hbn.block _ ce.lt) | replace ce := ce.below hbn)
  (try first | replace l8 := l8.of_eq (hbn.block _ l8.lt) | replace l8 := l8.below hbn)
  (try first | replace rs1 := rs1.of_eq (hbn.block _ rs1.lt) | replace rs1 := rs1.below hbn)
  refine ⟨_, rfl, ?_⟩
  simp only [Act.put, putS]
  refine wpList_nil ?_
  go_wp2
  refine (wpIn_wide (n := 3)).1 ?_
  refine rangeFunc_made (F := Fence.wide) rfl (by omega) (gf := 108) (lb := #[.pointer (some ⟨b_t, 0, none⟩)]) rfl trivial (enters_of Try.func108 (by kernel_rfl) rfl) (tiles_stops c FT.out b_t b_l8 _ (by omega) _ rt l8.lt) (fun h k => KpB.trans h k) (fun W l o o' _ hl ho _ => KpB.putObj b_l8 o' hl ho) (fun A B h => KpB.below h) (Below.refl _ _) (fun _ => rfl)
    (fun pre W => ∃ (a : Option Addr) (cp : Nat), AtB 28 W b_l8 #[.slice a (pstL c L KS (pre.map (posF c))).length cp] ∧ RS (.slice a (pstL c L KS (pre.map (posF c))).length cp) (pstL c L KS (pre.map (posF c))) W ∧ AtB 68 W b_m3 (imgC c (.slice (some ⟨g, o, none⟩) (areaN c) cu)) ∧ AtB 64 W b_c6 (rcA c) ∧ AtB 30 W b_r4 #[.slice none 0 0] ∧ RCellsE pxE g o L W ∧ Below w.heap.size w W)
    (fun pre W W' row hI hg hr => ?own)
    ⟨a', c', l8, rs1, m3, c6, r4, ce, B⟩
    (fun x a' W => ∃ b9 : Nat, a'.defers = [] ∧ a'.tmps.size = 78 ∧ a'.tmps.getD 3 undef = .pointer (some ⟨b_m3, 0, none⟩) ∧ a'.tmps.getD 6 undef = .pointer (some ⟨b_c6, 0, none⟩) ∧ a'.tmps.getD 8 undef = .pointer (some ⟨b_l8, 0, none⟩) ∧ a'.tmps.getD 9 undef = .pointer (some ⟨b9, 0, none⟩) ∧ AtB 24 W b9 #[.int .i64 (posF c x).1, .int .i64 (posF c x).2] ∧ b_l8 < b9)
    (fun x a' W W' row hA hg hr => ?own2) ?assign ?body ?done
  case own =>
    obtain ⟨a, cp, h1, h2, h3, h4, h5, h6, h7⟩ := hI
    have hr' : ∀ r, row = some r → ∃ o : Obj, W.heap[r]? = some o ∧ o.isCells = false := fun r e => (hr r e).2
    have hsz1 := B.size
    exact ⟨a, cp, h1.own hg hr', h2.own hg hr', h3.own hg hr', h4.own hg hr', h5.own hg hr', h6.ownP (by rw [HL.out]; omega) hg hr', below_own h7 h7.size hg (fun r e => Nat.le_trans hsz1 (hr r e).1)⟩
  case own2 =>
    obtain ⟨b9, e1, e2, e3, e4, e5, e6, h1, h2⟩ := hA
    exact ⟨b9, e1, e2, e3, e4, e5, e6, h1.own hg (fun r e => (hr r e).2), h2⟩
  case assign =>
    intro l pre x W K ⟨_, _, hl8, _⟩ hK
    have B := Below.refl W.heap.size W
    have hl := hl8.lt
    obtain ⟨⟨X, Y⟩, hxy⟩ : ∃ p, posF c x = p := ⟨_, rfl⟩
    rw [hxy] at hK
    dsimp only at hK
    rw [hxy]
    dsimp only
    refine zip1_wp ?_
    simp only [List.setIfInBounds_toArray, List.set_cons_succ, List.set_cons_zero]
    refine round_lit (by kernel_rfl) ?_
    try simp only [List.getElem_toArray, List.getElem_cons_zero, List.getElem_cons_succ]
    (refine wpList_allocBk (t := 24) rfl _ (run_alloc_Ps _ _ rfl) ?_; intro b_p9 wn hle hge ht hbn hzn; have hsz := B.size; replace B := B.trans (hbn.mono (by omega)); have hln := Nat.lt_of_lt_of_eq (Nat.lt_succ_self _) hzn.symm; clear hzn; have p9 := ht; clear ht; simp only [Act.put, putS])
    (refine wpList_storeB (t := 24) rfl _ _ rfl _ rfl _ rfl p9 (by kernel_rfl) rfl (by simp [Value.oneCell']) ?_; clear p9; intro wn ht hcn hzn; have hsz := B.size; replace hzn := Nat.le_of_eq hzn.symm; replace B := Chg.below B hcn (by omega) B.size; have p9 := ht; clear ht; simp only [Act.put, putS])
    refine wpList_nil ?_
    refine Only.at ?_
    refine hK _ _ B ⟨_, rfl, rfl, rfl, rfl, rfl, rfl, p9, by omega⟩
  case body =>
    rintro l pre x W ⟨tm, df⟩ ⟨a, cp, l8, rs1, m3, c6, r4, ce, BW⟩ ⟨b9, e1, e2, e3, e4, e5, e6, p9, k10⟩ hpre
    obtain ⟨U, hU, hUi⟩ := arr_fn tm 78 e2
    rw [← hUi] at e3 e4 e5 e6
    have eL : ((List.range 78).map U).toArray = #[U 0, U 1, U 2, U 3, U 4, U 5, U 6, U 7, U 8, U 9, U 10, U 11, U 12, U 13, U 14, U 15, U 16, U 17, U 18, U 19, U 20, U 21, U 22, U 23, U 24, U 25, U 26, U 27, U 28, U 29, U 30, U 31, U 32, U 33, U 34, U 35, U 36, U 37, U 38, U 39, U 40, U 41, U 42, U 43, U 44, U 45, U 46, U 47, U 48, U 49, U 50, U 51, U 52, U 53, U 54, U 55, U 56, U 57, U 58, U 59, U 60, U 61, U 62, U 63, U 64, U 65, U 66, U 67, U 68, U 69, U 70, U 71, U 72, U 73, U 74, U 75, U 76, U 77] := rfl
    rw [eL] at hU
    rw [e3, e4, e5, e6] at hU
    subst hU
    have e1 : df = [] := e1
    subst e1
    clear e2 e3 e4 e5 e6 hUi eL
    obtain ⟨⟨X, Y⟩, hxy⟩ : ∃ p, posF c x = p := ⟨_, rfl⟩
    have hwi := posP_in FT.out x.isLt
    rw [show posP c x.val = (X, Y) from hxy] at hwi
    have HWI := Lib.hid hwi
    rw [hxy] at p9
    dsimp only at p9
    have hMn := pstL_len c L (pre.map (posF c)) KS
    rw [List.length_map] at hMn
    have SM0 := pstL_srt c L (pre.map (posF c)) KS SR.out
    have TM0 := pstL_tok OK.out (pre.map (posF c)) KS TK.out (c := c)
    have HNEW0 : pstL c L KS ((pre ++ [x]).map (posF c)) = putL (pstL c L KS (pre.map (posF c))) X Y (pstT c L X Y (tileL (pstL c L KS (pre.map (posF c))) X Y)) := by
      rw [List.map_append, show [x].map (posF c) = [(X, Y)] from by rw [← hxy]; rfl, pstL_snoc]
      rfl
    generalize pstL c L KS (pre.map (posF c)) = M at *
    have SM := Lib.hid SM0
    have TM := Lib.hid TM0
    have HNEW := Lib.hid HNEW0
    have L8 := Lib.hid l8
    have HTK := Lib.hid (tileL_tok TM0 X Y)
    have HTT := Lib.hid (pstT_tok OK.out X Y (tileL_tok TM0 X Y) (c := c))
    have hM3 : M.length ≤ 3000 := by omega
    have hws := BW.size
    have l8lt := l8.lt
    have m3lt := m3.lt
    have c6lt := c6.lt
    have r4lt := r4.lt
    have p9lt := p9.lt
    have hpl := putL_length M X Y (pstT c L X Y (tileL M X Y))
    obtain ⟨_, _, e1, hcp⟩ := rs1.len
    simp only [Value.slice.injEq] at e1
    obtain ⟨rfl, _, rfl⟩ := e1
    have RS1W := Lib.hid rs1
    have B := Exc.refl b_l8 W
    clear SM0 TM0 HNEW0 hMn hwi hxy
    cases hh : hitL M X Y with
    | true =>
      have HH := Lib.hid hh
      obtain ⟨hc1, hc2⟩ := hit_at SM.out hh
      obtain ⟨k, hk⟩ : ∃ k, cutL M X Y = k := ⟨_, rfl⟩
      rw [hk] at hc1 hc2
      have HK := Lib.hid hk
      obtain ⟨gg, oo, rfl, rc⟩ := rs1.at (by omega)
      have HC2 := Lib.hid hc2
      clear hh hk hc2
      gi_upto_region 10 with fail
      refine round_lit (by kernel_rfl) ?_
      try simp only [List.getElem_toArray, List.getElem_cons_zero, List.getElem_cons_succ]
      refine wpList_chunk 2 (by kernel_rfl) ?_
      simp only [takS, Nat.reduceAdd]
      repeat (first | go_big_quiet_skip | (go_big_quiet_want; first | (refine quiet_loadAny (t := 28) rfl _ _ _ rfl (fun w hw => run_load_sl ((ov_B l8 w hw).cellL 0 rfl)) (by rfl) ?_; simp only [Act.put, putS]; go_big_quiet_on) | (refine quiet_loadAny (t := 24) rfl _ _ _ rfl (fun w hw => run_load_B (ov_B p9 w hw) Try.isAgg24 (by kernel_rfl)) (by rfl) ?_; simp only [Act.put, putS]; go_big_quiet_on) | (refine quiet_buildTA0 rfl X Y rfl ?_; simp only [Act.put, putS]; go_big_quiet_on) | (go_big_quiet_op; go_big_quiet_on)))
      refine wpQuiet_nil ?_
      refine wpList_callF (by first | rfl | simp [Region.wanted, yielded]) rfl (enters_of Try.func93 (by kernel_rfl) rfl) (by simp only [List.map_toArray, List.map_cons, List.map_nil, Act.eval, Array.getD_eq_getD_getElem?, List.getElem?_toArray, List.getElem?_cons_succ, List.getElem?_cons_zero, Option.getD_some]; rfl) ?_
      refine (P_findB _ M X Y k true _ rs1 SM.out (by omega) HK.out HH.out).mono ?_
      rintro e wn ⟨rfl, hbn⟩
      have hsz := B.size
      have hzn := hbn.size
      replace B := B.trans (hbn.mono B.size)
      (try first | replace l8 := l8.of_eq (hbn.block _ l8.lt) | replace l8 := l8.below hbn)
      (try first | replace m3 := m3.of_eq (hbn.block _ m3.lt) | replace m3 := m3.below hbn)
      (try first | replace c6 := c6.of_eq (hbn.block _ c6.lt) | replace c6 := c6.below hbn)
      (try first | replace r4 := r4.of_eq (hbn.block _ r4.lt) | replace r4 := r4.below hbn)
      (try first | replace ce := ce.of_eq (hbn.block _ ce.lt) | replace ce := ce.below hbn)
      (try first | replace p9 := p9.of_eq (hbn.block _ p9.lt) | replace p9 := p9.below hbn)
      (try first | replace rs1 := rs1.of_eq (hbn.block _ rs1.lt) | replace rs1 := rs1.below hbn)
      refine ⟨_, rfl, ?_⟩
      simp only [Act.put, putS]
      refine wpList_chunk 5 (by kernel_rfl) ?_
      simp only [takS, Nat.reduceAdd]
      repeat (first | go_big_quiet_skip | (go_big_quiet_want; first | (refine quiet_buildTA0 rfl X Y rfl ?_; simp only [Act.put, putS]; go_big_quiet_on) | (go_big_quiet_op; go_big_quiet_on)))
      refine wpQuiet_nil ?_
      refine wpList_nil ?_
      refine Only.at ?_
      try dsimp only
      gi_upto_region 11 with fail
      refine round_lit (by kernel_rfl) ?_
      try simp only [List.getElem_toArray, List.getElem_cons_zero, List.getElem_cons_succ]
      refine wpList_chunk 2 (by kernel_rfl) ?_
      simp only [takS, Nat.reduceAdd]
      repeat (first | go_big_quiet_skip | (go_big_quiet_want; first | (refine quiet_loadAny (t := 24) rfl _ _ _ rfl (fun w hw => run_load_B (ov_B p9 w hw) Try.isAgg24 (by kernel_rfl)) (by rfl) ?_; simp only [Act.put, putS]; go_big_quiet_on) | (refine quiet_buildTA0 rfl X Y rfl ?_; simp only [Act.put, putS]; go_big_quiet_on) | (go_big_quiet_op; go_big_quiet_on)))
      refine wpQuiet_nil ?_
      (refine wpList_bs1T rfl _ rfl ⟨X, Y, zT⟩ (by rfl) ?_; intro b_s1 wn hle hge ht hbn hzn; have hsz := B.size; replace B := B.trans (hbn.mono (by omega)); have hln := Nat.lt_of_lt_of_eq (Nat.lt_succ_self _) hzn.symm; clear hzn; (try first | (have hlt := l8.lt; replace l8 := l8.of_eq (hbn.block _ (by omega))) | replace l8 := l8.below (hbn.mono hle)); (try first | (have hlt := m3.lt; replace m3 := m3.of_eq (hbn.block _ (by omega))) | replace m3 := m3.below (hbn.mono hle)); (try first | (have hlt := c6.lt; replace c6 := c6.of_eq (hbn.block _ (by omega))) | replace c6 := c6.below (hbn.mono hle)); (try first | (have hlt := r4.lt; replace r4 := r4.of_eq (hbn.block _ (by omega))) | replace r4 := r4.below (hbn.mono hle)); (try first | (have hlt := ce.lt; replace ce := ce.of_eq (hbn.block _ (by omega))) | replace ce := ce.below (hbn.mono hle)); (try first | (have hlt := p9.lt; replace p9 := p9.of_eq (hbn.block _ (by omega))) | replace p9 := p9.below (hbn.mono hle)); (try first | (have hlt := rs1.lt; replace rs1 := rs1.of_eq (hbn.block _ (by omega))) | replace rs1 := rs1.below (hbn.mono hle)); have s1 := ht; clear ht; simp only [Act.put, putS])
      refine wpList_chunk 1 (by kernel_rfl) ?_
      simp only [takS, Nat.reduceAdd]
      repeat (first | go_big_quiet_skip | (go_big_quiet_want; first | (refine quiet_buildTA0 rfl X Y rfl ?_; simp only [Act.put, putS]; go_big_quiet_on) | (go_big_quiet_op; go_big_quiet_on)))
      refine wpQuiet_nil ?_
      refine wpList_nil ?_
      refine Only.at ?_
      try dsimp only
      gi_upto_region 12 with fail
      refine round_lit (by kernel_rfl) ?_
      try simp only [List.getElem_toArray, List.getElem_cons_zero, List.getElem_cons_succ]
      refine wpList_chunk 1 (by kernel_rfl) ?_
      simp only [takS, Nat.reduceAdd]
      repeat (first | go_big_quiet_skip | (go_big_quiet_want; first | (refine quiet_buildTA0 rfl X Y rfl ?_; simp only [Act.put, putS]; go_big_quiet_on) | (go_big_quiet_op; go_big_quiet_on)))
      refine wpQuiet_nil ?_
      refine wpList_nil ?_
      refine Only.at ?_
      try dsimp only
      gi_upto_region 13 with fail
      refine round_lit (by kernel_rfl) ?_
      try simp only [List.getElem_toArray, List.getElem_cons_zero, List.getElem_cons_succ]
      refine wpList_chunk 8 (by kernel_rfl) ?_
      simp only [takS, Nat.reduceAdd]
      repeat (first | go_big_quiet_skip | (go_big_quiet_want; first | (refine quiet_loadAny (t := 28) rfl _ _ _ rfl (fun w hw => run_load_sl ((ov_B l8 w hw).cellL 0 rfl)) (by rfl) ?_; simp only [Act.put, putS]; go_big_quiet_on) | (refine quiet_buildTA0 rfl X Y rfl ?_; simp only [Act.put, putS]; go_big_quiet_on) | (go_big_quiet_op; go_big_quiet_on)))
      refine wpQuiet_nil ?_
      refine wpList_nil ?_
      refine Only.at ?_
      try dsimp only
      obtain ⟨g2, o2, e2, rc'⟩ := rs1.at (by omega)
      obtain ⟨rfl, rfl⟩ : gg = g2 ∧ oo = o2 := by simpa using e2
      have rsm := rs_mid rc' hc1
      rw [HC2.out] at rsm
      have rsm0 := rsm
      gi_upto_region 14 with fail
      refine round_lit (by kernel_rfl) ?_
      try simp only [List.getElem_toArray, List.getElem_cons_zero, List.getElem_cons_succ]
      (refine wpList_allocT' rfl rfl ?_; intro b_t13 wn hle hge ht hbn hzn; have hsz := B.size; replace B := B.trans (hbn.mono (by omega)); have hln := Nat.lt_of_lt_of_eq (Nat.lt_succ_self _) hzn.symm; clear hzn; (try first | (have hlt := l8.lt; replace l8 := l8.of_eq (hbn.block _ (by omega))) | replace l8 := l8.below (hbn.mono hle)); (try first | (have hlt := m3.lt; replace m3 := m3.of_eq (hbn.block _ (by omega))) | replace m3 := m3.below (hbn.mono hle)); (try first | (have hlt := c6.lt; replace c6 := c6.of_eq (hbn.block _ (by omega))) | replace c6 := c6.below (hbn.mono hle)); (try first | (have hlt := r4.lt; replace r4 := r4.of_eq (hbn.block _ (by omega))) | replace r4 := r4.below (hbn.mono hle)); (try first | (have hlt := ce.lt; replace ce := ce.of_eq (hbn.block _ (by omega))) | replace ce := ce.below (hbn.mono hle)); (try first | (have hlt := p9.lt; replace p9 := p9.of_eq (hbn.block _ (by omega))) | replace p9 := p9.below (hbn.mono hle)); (try first | (have hlt := rs1.lt; replace rs1 := rs1.of_eq (hbn.block _ (by omega))) | replace rs1 := rs1.below (hbn.mono hle)); (try first | (have hlt := rsm.lt; replace rsm := rsm.of_eq (hbn.block _ (by omega))) | replace rsm := rsm.below (hbn.mono hle)); have t13 := ht; clear ht; simp only [Act.put, putS])
      refine wpList_nil ?_
      refine Only.at ?_
      try dsimp only
      have HSEP := Lib.hid (rs_sep rsm0 hle (by simp))
      clear rsm0
      gi_upto_region 15 with fail
      refine round_lit (by kernel_rfl) ?_
      try simp only [List.getElem_toArray, List.getElem_cons_zero, List.getElem_cons_succ]
      refine wpList_chunk 1 (by kernel_rfl) ?_
      simp only [takS, Nat.reduceAdd]
      repeat (first | go_big_quiet_skip | (go_big_quiet_want; first | (refine quiet_buildTA0 rfl X Y rfl ?_; simp only [Act.put, putS]; go_big_quiet_on) | (go_big_quiet_op; go_big_quiet_on)))
      refine wpQuiet_nil ?_
      (refine wpList_val rfl (.func (.func 94) #[] #[.pointer (some ⟨b_c6, 0, none⟩), .pointer (some ⟨b_m3, 0, none⟩)]) (by first | rfl | simp [go_sem, Act.eval]) ?_; simp only [Act.put, putS])
      refine wpList_callF (by first | rfl | simp [Region.wanted, yielded]) rfl (enters_of Try.func79 (by kernel_rfl) rfl) (by simp only [List.map_toArray, List.map_cons, List.map_nil, Act.eval, Array.getD_eq_getD_getElem?, List.getElem?_toArray, List.getElem?_cons_succ, List.getElem?_cons_zero, Option.getD_some]; rfl) ?_
      refine (P_mapPst c FT.out L HL.out OK.out ⟨X, Y, tileL M X Y⟩ _ _ b_c6 b_m3 b_t13 g o cu _ _ rsm HTK.out HWI.out c6 m3 ce t13 HSEP.out).mono ?_
      rintro e wn ⟨a5, cp5, rfl, rs5, hbn⟩
      have hsz := B.size
      have hzn := hbn.size
      replace B := B.trans (hbn.mono B.size)
      (try first | replace l8 := l8.of_eq (hbn.block _ l8.lt) | replace l8 := l8.below hbn)
      (try first | replace m3 := m3.of_eq (hbn.block _ m3.lt) | replace m3 := m3.below hbn)
      (try first | replace c6 := c6.of_eq (hbn.block _ c6.lt) | replace c6 := c6.below hbn)
      (try first | replace r4 := r4.of_eq (hbn.block _ r4.lt) | replace r4 := r4.below hbn)
      (try first | replace ce := ce.of_eq (hbn.block _ ce.lt) | replace ce := ce.below hbn)
      (try first | replace p9 := p9.of_eq (hbn.block _ p9.lt) | replace p9 := p9.below hbn)
      (try first | replace t13 := t13.of_eq (hbn.block _ t13.lt) | replace t13 := t13.below hbn)
      (try first | replace rs1 := rs1.of_eq (hbn.block _ rs1.lt) | replace rs1 := rs1.below hbn)
      (try first | replace rsm := rsm.of_eq (hbn.block _ rsm.lt) | replace rsm := rsm.below hbn)
      refine ⟨_, rfl, ?_⟩
      simp only [Act.put, putS]
      refine wpList_lenS (by first | rfl | simp [Region.wanted, yielded]) rfl Try.underlying28 rfl ?_
      simp only [Act.put, putS]
      refine wpList_chunk 1 (by kernel_rfl) ?_
      simp only [takS, Nat.reduceAdd]
      repeat (first | go_big_quiet_skip | (go_big_quiet_want; first | (refine quiet_buildTA0 rfl X Y rfl ?_; simp only [Act.put, putS]; go_big_quiet_on) | (go_big_quiet_op; go_big_quiet_on)))
      refine wpQuiet_nil ?_
      refine wpList_nil ?_
      refine Only.at ?_
      try dsimp only
      clear rsm HSEP
      cases hz : zeroB (pstT c L X Y (tileL M X Y)) with
      | true =>
        have HN : newA X Y (pstT c L X Y (tileL M X Y)) = [] := by unfold newA; rw [hz]; rfl
        rw [HN] at rs5
        simp only [HN, List.length_nil]
        clear rs5 HN
        have HZ := Lib.hid hz
        clear hz
        gi_wp2
        refine wpIn_loop_rounds 2 ?_
        rw [roundsIn_succ]
        gi_upto_region 16 with fail
        refine round_lit (by kernel_rfl) ?_
        try simp only [List.getElem_toArray, List.getElem_cons_zero, List.getElem_cons_succ]
        refine wpList_chunk 1 (by kernel_rfl) ?_
        simp only [takS, Nat.reduceAdd]
        repeat (first | go_big_quiet_skip | (go_big_quiet_want; first | (refine quiet_buildTA0 rfl X Y rfl ?_; simp only [Act.put, putS]; go_big_quiet_on) | (go_big_quiet_op; go_big_quiet_on)))
        refine wpQuiet_nil ?_
        refine wpList_nil ?_
        refine Only.at ?_
        try dsimp only
        clear rs1
        have rs1 := RS1W.out.chg L8.out (by simp) B.toChg
        gi_upto_region 20 with fail
        refine round_lit (by kernel_rfl) ?_
        try simp only [List.getElem_toArray, List.getElem_cons_zero, List.getElem_cons_succ]
        refine wpList_chunk 3 (by kernel_rfl) ?_
        simp only [takS, Nat.reduceAdd]
        repeat (first | go_big_quiet_skip | (go_big_quiet_want; first | (refine quiet_loadAny (t := 28) rfl _ _ _ rfl (fun w hw => run_load_sl ((ov_B l8 w hw).cellL 0 rfl)) (by rfl) ?_; simp only [Act.put, putS]; go_big_quiet_on) | (refine quiet_loadAny (t := 24) rfl _ _ _ rfl (fun w hw => run_load_B (ov_B p9 w hw) Try.isAgg24 (by kernel_rfl)) (by rfl) ?_; simp only [Act.put, putS]; go_big_quiet_on) | (refine quiet_buildTA0 rfl X Y rfl ?_; simp only [Act.put, putS]; go_big_quiet_on) | (refine quiet_loadT rfl _ rfl (ov_tile t13) ?_; simp only [Act.put, putS]; go_big_quiet_on) | (refine quiet_loadAny (t := 40) rfl _ _ _ rfl (fun w hw => ta_tile (ov_B t15 w hw)) (by first | rfl | omega) ?_; simp only [Act.put, putS]; go_big_quiet_on) | (go_big_quiet_op; go_big_quiet_on)))
        refine wpQuiet_nil ?_
        refine wpList_callF (by first | rfl | simp [Region.wanted, yielded]) rfl (enters_of Try.func73 (by kernel_rfl) rfl) (by simp only [List.map_toArray, List.map_cons, List.map_nil, Act.eval, Array.getD_eq_getD_getElem?, List.getElem?_toArray, List.getElem?_cons_succ, List.getElem?_cons_zero, Option.getD_some]; rfl) ?_
        refine (P_with _ M X Y (fun _ => Px.zero) _ rs1 SM.out (fun i _ => Px.zero_ok) (by omega)).mono ?_
        rintro e wn ⟨v8, rfl, rs8, hbn⟩
        have hsz := B.size
        have hzn := hbn.size
        replace B := B.trans (hbn.mono B.size)
        (try first | replace l8 := l8.of_eq (hbn.block _ l8.lt) | replace l8 := l8.below hbn)
        (try first | replace m3 := m3.of_eq (hbn.block _ m3.lt) | replace m3 := m3.below hbn)
        (try first | replace c6 := c6.of_eq (hbn.block _ c6.lt) | replace c6 := c6.below hbn)
        (try first | replace r4 := r4.of_eq (hbn.block _ r4.lt) | replace r4 := r4.below hbn)
        (try first | replace ce := ce.of_eq (hbn.block _ ce.lt) | replace ce := ce.below hbn)
        (try first | replace p9 := p9.of_eq (hbn.block _ p9.lt) | replace p9 := p9.below hbn)
        (try first | replace t13 := t13.of_eq (hbn.block _ t13.lt) | replace t13 := t13.below hbn)
        (try first | replace t15 := t15.of_eq (hbn.block _ t15.lt) | replace t15 := t15.below hbn)
        (try first | replace rs1 := rs1.of_eq (hbn.block _ rs1.lt) | replace rs1 := rs1.below hbn)
        (try first | replace rsm := rsm.of_eq (hbn.block _ rsm.lt) | replace rsm := rsm.below hbn)
        obtain ⟨a8, c8, rfl, hc8⟩ := rs8.len
        refine ⟨_, rfl, ?_⟩
        simp only [Act.put, putS]
        (refine wpList_storeSl rfl _ _ rfl _ rfl _ _ _ rfl l8 ?_; have l8o := l8; clear l8; intro wn ht hcn hzn; (try replace rs8 := rs8.chg l8o (by simp) hcn); have hsz := B.size; replace hzn := Nat.le_of_eq hzn.symm; replace B := Exc.chg B hcn; (try replace m3 := m3.of_eq (hcn.block _ m3.lt (by omega))); (try replace c6 := c6.of_eq (hcn.block _ c6.lt (by omega))); (try replace r4 := r4.of_eq (hcn.block _ r4.lt (by omega))); (try replace ce := ce.of_eq (hcn.block _ ce.lt (by omega))); (try replace p9 := p9.of_eq (hcn.block _ p9.lt (by omega))); (try replace t13 := t13.of_eq (hcn.block _ t13.lt (by omega))); (try replace t15 := t15.of_eq (hcn.block _ t15.lt (by omega))); have l8 := ht; clear ht; simp only [Act.put, putS])
        refine wpList_nil ?_
        refine Only.at ?_
        try dsimp only
        gi_wp2
        refine ⟨KeepsOthers.chgB B.toChg L8.out, KpB.chg B.toChg, ?_⟩
        dsimp only
        rw [HNEW.out]
        have e := putL_zero M X Y (t := fun _ => Px.zero) (u := pstT c L X Y (tileL M X Y)) ((zeroB_iff _).2 fun _ _ => rfl) HZ.out
        rw [e] at rs8 l8
        exact ⟨a8, c8, l8, rs8, m3, c6, r4, ce, Chg.below BW B.toChg (by omega) BW.size⟩
      | false =>
        have HN : newA X Y (pstT c L X Y (tileL M X Y)) = [⟨X, Y, pstT c L X Y (tileL M X Y)⟩] := by unfold newA; rw [hz]; rfl
        rw [HN] at rs5
        simp only [HN, List.length_cons, List.length_nil, Nat.zero_add]
        obtain ⟨g5, o5, rfl, rc5⟩ := rs5.at (by simp)
        clear rs5 HN hz
        have hlen1 : 0 < [(⟨X, Y, pstT c L X Y (tileL M X Y)⟩ : TA)].length := by simp
        gi_wp2
        refine wpIn_loop_rounds 2 ?_
        rw [roundsIn_succ]
        gi_upto_region 16 with fail
        refine round_lit (by kernel_rfl) ?_
        try simp only [List.getElem_toArray, List.getElem_cons_zero, List.getElem_cons_succ]
        refine wpList_chunk 1 (by kernel_rfl) ?_
        simp only [takS, Nat.reduceAdd]
        repeat (first | go_big_quiet_skip | (go_big_quiet_want; first | (refine quiet_buildTA0 rfl X Y rfl ?_; simp only [Act.put, putS]; go_big_quiet_on) | (go_big_quiet_op; go_big_quiet_on)))
        refine wpQuiet_nil ?_
        refine wpList_nil ?_
        refine Only.at ?_
        try dsimp only
        gi_upto_region 17 with fail
        refine round_lit (by kernel_rfl) ?_
        try simp only [List.getElem_toArray, List.getElem_cons_zero, List.getElem_cons_succ]
        refine wpList_chunk 2 (by kernel_rfl) ?_
        simp only [takS, Nat.reduceAdd]
        repeat (first | go_big_quiet_skip | (go_big_quiet_want; first | (refine quiet_buildTA0 rfl X Y rfl ?_; simp only [Act.put, putS]; go_big_quiet_on) | (refine quiet_loadAny (t := 79) rfl _ _ _ rfl (fun w hw => rc_ta (ov_rc rc5 w hw) hlen1 rfl) (by first | rfl | omega) ?_; simp only [Act.put, putS]; go_big_quiet_on) | (go_big_quiet_op; go_big_quiet_on)))
        refine wpQuiet_nil ?_
        (refine wpList_allocBk (t := 79) rfl _ (run_alloc_TA _ _ rfl) ?_; intro b_t15 wn hle hge ht hbn hzn; have hsz := B.size; replace B := B.trans (hbn.mono (by omega)); have hln := Nat.lt_of_lt_of_eq (Nat.lt_succ_self _) hzn.symm; clear hzn; (try first | (have hlt := l8.lt; replace l8 := l8.of_eq (hbn.block _ (by omega))) | replace l8 := l8.below (hbn.mono hle)); (try first | (have hlt := m3.lt; replace m3 := m3.of_eq (hbn.block _ (by omega))) | replace m3 := m3.below (hbn.mono hle)); (try first | (have hlt := c6.lt; replace c6 := c6.of_eq (hbn.block _ (by omega))) | replace c6 := c6.below (hbn.mono hle)); (try first | (have hlt := r4.lt; replace r4 := r4.of_eq (hbn.block _ (by omega))) | replace r4 := r4.below (hbn.mono hle)); (try first | (have hlt := ce.lt; replace ce := ce.of_eq (hbn.block _ (by omega))) | replace ce := ce.below (hbn.mono hle)); (try first | (have hlt := p9.lt; replace p9 := p9.of_eq (hbn.block _ (by omega))) | replace p9 := p9.below (hbn.mono hle)); (try first | (have hlt := t13.lt; replace t13 := t13.of_eq (hbn.block _ (by omega))) | replace t13 := t13.below (hbn.mono hle)); (try first | (have hlt := t15.lt; replace t15 := t15.of_eq (hbn.block _ (by omega))) | replace t15 := t15.below (hbn.mono hle)); (try first | (have hlt := rs1.lt; replace rs1 := rs1.of_eq (hbn.block _ (by omega))) | replace rs1 := rs1.below (hbn.mono hle)); (try first | (have hlt := rsm.lt; replace rsm := rsm.of_eq (hbn.block _ (by omega))) | replace rsm := rsm.below (hbn.mono hle)); (try first | (have hlt := rc5.lt; replace rc5 := rc5.of_eq (hbn.block _ (by omega))) | replace rc5 := rc5.below (hbn.mono hle)); have t15 := ht; clear ht; simp only [Act.put, putS])
        (refine wpList_storeB (t := 79) rfl _ _ rfl _ rfl _ rfl t15 (by rw [size_taC]; kernel_rfl) (by simp only [size_taC, size_zTA]) (taC_all _) ?_; clear t15; intro wn ht hcn hzn; have hsz := B.size; replace hzn := Nat.le_of_eq hzn.symm; replace B := Exc.store B hcn (by omega); (try replace l8 := l8.of_eq (hcn.block _ l8.lt (by omega))); (try replace m3 := m3.of_eq (hcn.block _ m3.lt (by omega))); (try replace c6 := c6.of_eq (hcn.block _ c6.lt (by omega))); (try replace r4 := r4.of_eq (hcn.block _ r4.lt (by omega))); (try replace ce := ce.of_eq (hcn.block _ ce.lt (by omega))); (try replace p9 := p9.of_eq (hcn.block _ p9.lt (by omega))); (try replace t13 := t13.of_eq (hcn.block _ t13.lt (by omega))); (try replace rs1 := rs1.of_eq (hcn.block _ rs1.lt (by omega))); (try replace rsm := rsm.of_eq (hcn.block _ rsm.lt (by omega))); (try replace rc5 := rc5.of_eq (hcn.block _ rc5.lt (by omega))); have t15 := ht; clear ht; simp only [Act.put, putS])
        refine wpList_nil ?_
        refine Only.at ?_
        try dsimp only
        replace t15 : AtB 79 _ b_t15 (taC ⟨X, Y, pstT c L X Y (tileL M X Y)⟩) := t15
        gi_upto_region 18 with fail
        refine round_lit (by kernel_rfl) ?_
        try simp only [List.getElem_toArray, List.getElem_cons_zero, List.getElem_cons_succ]
        refine wpList_chunk 2 (by kernel_rfl) ?_
        simp only [takS, Nat.reduceAdd]
        repeat (first | go_big_quiet_skip | (go_big_quiet_want; first | (refine quiet_buildTA0 rfl X Y rfl ?_; simp only [Act.put, putS]; go_big_quiet_on) | (refine quiet_loadT rfl _ rfl (ov_tile t13) ?_; simp only [Act.put, putS]; go_big_quiet_on) | (refine quiet_loadAny (t := 40) rfl _ _ _ rfl (fun w hw => ta_tile (ov_B t15 w hw)) (by first | rfl | omega) ?_; simp only [Act.put, putS]; go_big_quiet_on) | (go_big_quiet_op; go_big_quiet_on)))
        refine wpQuiet_nil ?_
        (refine wpList_storeT rfl _ _ rfl _ rfl _ rfl t13 ?_; clear t13; intro wn ht hcn hzn; have hsz := B.size; replace hzn := Nat.le_of_eq hzn.symm; replace B := Exc.store B hcn (by omega); (try replace l8 := l8.of_eq (hcn.block _ l8.lt (by omega))); (try replace m3 := m3.of_eq (hcn.block _ m3.lt (by omega))); (try replace c6 := c6.of_eq (hcn.block _ c6.lt (by omega))); (try replace r4 := r4.of_eq (hcn.block _ r4.lt (by omega))); (try replace ce := ce.of_eq (hcn.block _ ce.lt (by omega))); (try replace p9 := p9.of_eq (hcn.block _ p9.lt (by omega))); (try replace t15 := t15.of_eq (hcn.block _ t15.lt (by omega))); (try replace rs1 := rs1.of_eq (hcn.block _ rs1.lt (by omega))); (try replace rsm := rsm.of_eq (hcn.block _ rsm.lt (by omega))); (try replace rc5 := rc5.of_eq (hcn.block _ rc5.lt (by omega))); have t13 := ht; clear ht; simp only [Act.put, putS])
        refine wpList_nil ?_
        refine Only.at ?_
        try dsimp only
        gi_upto_region 19 with fail
        refine round_lit (by kernel_rfl) ?_
        try simp only [List.getElem_toArray, List.getElem_cons_zero, List.getElem_cons_succ]
        refine wpList_chunk 2 (by kernel_rfl) ?_
        simp only [takS, Nat.reduceAdd]
        repeat (first | go_big_quiet_skip | (go_big_quiet_want; first | (refine quiet_buildTA0 rfl X Y rfl ?_; simp only [Act.put, putS]; go_big_quiet_on) | (go_big_quiet_op; go_big_quiet_on)))
        refine wpQuiet_nil ?_
        refine wpList_nil ?_
        refine Only.at ?_
        try dsimp only
        gi_wp2
        rw [roundsIn_succ]
        gi_upto_region 16 with fail
        refine round_lit (by kernel_rfl) ?_
        try simp only [List.getElem_toArray, List.getElem_cons_zero, List.getElem_cons_succ]
        refine wpList_chunk 1 (by kernel_rfl) ?_
        simp only [takS, Nat.reduceAdd]
        repeat (first | go_big_quiet_skip | (go_big_quiet_want; first | (refine quiet_buildTA0 rfl X Y rfl ?_; simp only [Act.put, putS]; go_big_quiet_on) | (go_big_quiet_op; go_big_quiet_on)))
        refine wpQuiet_nil ?_
        refine wpList_nil ?_
        refine Only.at ?_
        try dsimp only
        clear rs1
        have rs1 := RS1W.out.chg L8.out (by simp) B.toChg
        gi_upto_region 20 with fail
        refine round_lit (by kernel_rfl) ?_
        try simp only [List.getElem_toArray, List.getElem_cons_zero, List.getElem_cons_succ]
        refine wpList_chunk 3 (by kernel_rfl) ?_
        simp only [takS, Nat.reduceAdd]
        repeat (first | go_big_quiet_skip | (go_big_quiet_want; first | (refine quiet_loadAny (t := 28) rfl _ _ _ rfl (fun w hw => run_load_sl ((ov_B l8 w hw).cellL 0 rfl)) (by rfl) ?_; simp only [Act.put, putS]; go_big_quiet_on) | (refine quiet_loadAny (t := 24) rfl _ _ _ rfl (fun w hw => run_load_B (ov_B p9 w hw) Try.isAgg24 (by kernel_rfl)) (by rfl) ?_; simp only [Act.put, putS]; go_big_quiet_on) | (refine quiet_buildTA0 rfl X Y rfl ?_; simp only [Act.put, putS]; go_big_quiet_on) | (refine quiet_loadT rfl _ rfl (ov_tile t13) ?_; simp only [Act.put, putS]; go_big_quiet_on) | (refine quiet_loadAny (t := 40) rfl _ _ _ rfl (fun w hw => ta_tile (ov_B t15 w hw)) (by first | rfl | omega) ?_; simp only [Act.put, putS]; go_big_quiet_on) | (go_big_quiet_op; go_big_quiet_on)))
        refine wpQuiet_nil ?_
        refine wpList_callF (by first | rfl | simp [Region.wanted, yielded]) rfl (enters_of Try.func73 (by kernel_rfl) rfl) (by simp only [List.map_toArray, List.map_cons, List.map_nil, Act.eval, Array.getD_eq_getD_getElem?, List.getElem?_toArray, List.getElem?_cons_succ, List.getElem?_cons_zero, Option.getD_some]; rfl) ?_
        refine (P_with _ M X Y (pstT c L X Y (tileL M X Y)) _ rs1 SM.out HTT.out (by omega)).mono ?_
        rintro e wn ⟨v8, rfl, rs8, hbn⟩
        have hsz := B.size
        have hzn := hbn.size
        replace B := B.trans (hbn.mono B.size)
        (try first | replace l8 := l8.of_eq (hbn.block _ l8.lt) | replace l8 := l8.below hbn)
        (try first | replace m3 := m3.of_eq (hbn.block _ m3.lt) | replace m3 := m3.below hbn)
        (try first | replace c6 := c6.of_eq (hbn.block _ c6.lt) | replace c6 := c6.below hbn)
        (try first | replace r4 := r4.of_eq (hbn.block _ r4.lt) | replace r4 := r4.below hbn)
        (try first | replace ce := ce.of_eq (hbn.block _ ce.lt) | replace ce := ce.below hbn)
        (try first | replace p9 := p9.of_eq (hbn.block _ p9.lt) | replace p9 := p9.below hbn)
        (try first | replace t13 := t13.of_eq (hbn.block _ t13.lt) | replace t13 := t13.below hbn)
        (try first | replace t15 := t15.of_eq (hbn.block _ t15.lt) | replace t15 := t15.below hbn)
        (try first | replace rs1 := rs1.of_eq (hbn.block _ rs1.lt) | replace rs1 := rs1.below hbn)
        (try first | replace rsm := rsm.of_eq (hbn.block _ rsm.lt) | replace rsm := rsm.below hbn)
        (try first | replace rc5 := rc5.of_eq (hbn.block _ rc5.lt) | replace rc5 := rc5.below hbn)
        obtain ⟨a8, c8, rfl, hc8⟩ := rs8.len
        refine ⟨_, rfl, ?_⟩
        simp only [Act.put, putS]
        (refine wpList_storeSl rfl _ _ rfl _ rfl _ _ _ rfl l8 ?_; have l8o := l8; clear l8; intro wn ht hcn hzn; (try replace rs8 := rs8.chg l8o (by simp) hcn); have hsz := B.size; replace hzn := Nat.le_of_eq hzn.symm; replace B := Exc.chg B hcn; (try replace m3 := m3.of_eq (hcn.block _ m3.lt (by omega))); (try replace c6 := c6.of_eq (hcn.block _ c6.lt (by omega))); (try replace r4 := r4.of_eq (hcn.block _ r4.lt (by omega))); (try replace ce := ce.of_eq (hcn.block _ ce.lt (by omega))); (try replace p9 := p9.of_eq (hcn.block _ p9.lt (by omega))); (try replace t13 := t13.of_eq (hcn.block _ t13.lt (by omega))); (try replace t15 := t15.of_eq (hcn.block _ t15.lt (by omega))); (try replace rc5 := rc5.of_eq (hcn.block _ rc5.lt (by omega))); have l8 := ht; clear ht; simp only [Act.put, putS])
        refine wpList_nil ?_
        refine Only.at ?_
        try dsimp only
        gi_wp2
        refine ⟨KeepsOthers.chgB B.toChg L8.out, KpB.chg B.toChg, ?_⟩
        dsimp only
        rw [HNEW.out]
        exact ⟨a8, c8, l8, rs8, m3, c6, r4, ce, Chg.below BW B.toChg (by omega) BW.size⟩
    | false =>
      have HH := Lib.hid hh
      have hz0 := Lib.hid (hit_not SM.out hh)
      obtain ⟨k, hk⟩ : ∃ k, cutL M X Y = k := ⟨_, rfl⟩
      have HK := Lib.hid hk
      have hkl := cutL_le M X Y
      rw [hk] at hkl
      clear hh hk
      gi_upto_region 10 with fail
      refine round_lit (by kernel_rfl) ?_
      try simp only [List.getElem_toArray, List.getElem_cons_zero, List.getElem_cons_succ]
      refine wpList_chunk 2 (by kernel_rfl) ?_
      simp only [takS, Nat.reduceAdd]
      repeat (first | go_big_quiet_skip | (go_big_quiet_want; first | (refine quiet_loadAny (t := 28) rfl _ _ _ rfl (fun w hw => run_load_sl ((ov_B l8 w hw).cellL 0 rfl)) (by rfl) ?_; simp only [Act.put, putS]; go_big_quiet_on) | (refine quiet_loadAny (t := 24) rfl _ _ _ rfl (fun w hw => run_load_B (ov_B p9 w hw) Try.isAgg24 (by kernel_rfl)) (by rfl) ?_; simp only [Act.put, putS]; go_big_quiet_on) | (refine quiet_buildTA0 rfl X Y rfl ?_; simp only [Act.put, putS]; go_big_quiet_on) | (go_big_quiet_op; go_big_quiet_on)))
      refine wpQuiet_nil ?_
      refine wpList_callF (by first | rfl | simp [Region.wanted, yielded]) rfl (enters_of Try.func93 (by kernel_rfl) rfl) (by simp only [List.map_toArray, List.map_cons, List.map_nil, Act.eval, Array.getD_eq_getD_getElem?, List.getElem?_toArray, List.getElem?_cons_succ, List.getElem?_cons_zero, Option.getD_some]; rfl) ?_
      refine (P_findB _ M X Y k false _ rs1 SM.out (by omega) HK.out HH.out).mono ?_
      rintro e wn ⟨rfl, hbn⟩
      have hsz := B.size
      have hzn := hbn.size
      replace B := B.trans (hbn.mono B.size)
      (try first | replace l8 := l8.of_eq (hbn.block _ l8.lt) | replace l8 := l8.below hbn)
      (try first | replace m3 := m3.of_eq (hbn.block _ m3.lt) | replace m3 := m3.below hbn)
      (try first | replace c6 := c6.of_eq (hbn.block _ c6.lt) | replace c6 := c6.below hbn)
      (try first | replace r4 := r4.of_eq (hbn.block _ r4.lt) | replace r4 := r4.below hbn)
      (try first | replace ce := ce.of_eq (hbn.block _ ce.lt) | replace ce := ce.below hbn)
      (try first | replace p9 := p9.of_eq (hbn.block _ p9.lt) | replace p9 := p9.below hbn)
      (try first | replace t13 := t13.of_eq (hbn.block _ t13.lt) | replace t13 := t13.below hbn)
      (try first | replace t15 := t15.of_eq (hbn.block _ t15.lt) | replace t15 := t15.below hbn)
      (try first | replace rs1 := rs1.of_eq (hbn.block _ rs1.lt) | replace rs1 := rs1.below hbn)
      (try first | replace rsm := rsm.of_eq (hbn.block _ rsm.lt) | replace rsm := rsm.below hbn)
      (try first | replace rc5 := rc5.of_eq (hbn.block _ rc5.lt) | replace rc5 := rc5.below hbn)
      refine ⟨_, rfl, ?_⟩
      simp only [Act.put, putS]
      refine wpList_chunk 5 (by kernel_rfl) ?_
      simp only [takS, Nat.reduceAdd]
      repeat (first | go_big_quiet_skip | (go_big_quiet_want; first | (refine quiet_buildTA0 rfl X Y rfl ?_; simp only [Act.put, putS]; go_big_quiet_on) | (go_big_quiet_op; go_big_quiet_on)))
      refine wpQuiet_nil ?_
      refine wpList_nil ?_
      refine Only.at ?_
      try dsimp only
      gi_upto_region 11 with fail
      refine round_lit (by kernel_rfl) ?_
      try simp only [List.getElem_toArray, List.getElem_cons_zero, List.getElem_cons_succ]
      refine wpList_chunk 2 (by kernel_rfl) ?_
      simp only [takS, Nat.reduceAdd]
      repeat (first | go_big_quiet_skip | (go_big_quiet_want; first | (refine quiet_loadAny (t := 24) rfl _ _ _ rfl (fun w hw => run_load_B (ov_B p9 w hw) Try.isAgg24 (by kernel_rfl)) (by rfl) ?_; simp only [Act.put, putS]; go_big_quiet_on) | (refine quiet_buildTA0 rfl X Y rfl ?_; simp only [Act.put, putS]; go_big_quiet_on) | (go_big_quiet_op; go_big_quiet_on)))
      refine wpQuiet_nil ?_
      (refine wpList_bs1T rfl _ rfl ⟨X, Y, zT⟩ (by rfl) ?_; intro b_s1 wn hle hge ht hbn hzn; have hsz := B.size; replace B := B.trans (hbn.mono (by omega)); have hln := Nat.lt_of_lt_of_eq (Nat.lt_succ_self _) hzn.symm; clear hzn; (try first | (have hlt := l8.lt; replace l8 := l8.of_eq (hbn.block _ (by omega))) | replace l8 := l8.below (hbn.mono hle)); (try first | (have hlt := m3.lt; replace m3 := m3.of_eq (hbn.block _ (by omega))) | replace m3 := m3.below (hbn.mono hle)); (try first | (have hlt := c6.lt; replace c6 := c6.of_eq (hbn.block _ (by omega))) | replace c6 := c6.below (hbn.mono hle)); (try first | (have hlt := r4.lt; replace r4 := r4.of_eq (hbn.block _ (by omega))) | replace r4 := r4.below (hbn.mono hle)); (try first | (have hlt := ce.lt; replace ce := ce.of_eq (hbn.block _ (by omega))) | replace ce := ce.below (hbn.mono hle)); (try first | (have hlt := p9.lt; replace p9 := p9.of_eq (hbn.block _ (by omega))) | replace p9 := p9.below (hbn.mono hle)); (try first | (have hlt := t13.lt; replace t13 := t13.of_eq (hbn.block _ (by omega))) | replace t13 := t13.below (hbn.mono hle)); (try first | (have hlt := t15.lt; replace t15 := t15.of_eq (hbn.block _ (by omega))) | replace t15 := t15.below (hbn.mono hle)); (try first | (have hlt := rs1.lt; replace rs1 := rs1.of_eq (hbn.block _ (by omega))) | replace rs1 := rs1.below (hbn.mono hle)); (try first | (have hlt := rsm.lt; replace rsm := rsm.of_eq (hbn.block _ (by omega))) | replace rsm := rsm.below (hbn.mono hle)); (try first | (have hlt := rc5.lt; replace rc5 := rc5.of_eq (hbn.block _ (by omega))) | replace rc5 := rc5.below (hbn.mono hle)); have s1 := ht; clear ht; simp only [Act.put, putS])
      refine wpList_chunk 1 (by kernel_rfl) ?_
      simp only [takS, Nat.reduceAdd]
      repeat (first | go_big_quiet_skip | (go_big_quiet_want; first | (refine quiet_buildTA0 rfl X Y rfl ?_; simp only [Act.put, putS]; go_big_quiet_on) | (go_big_quiet_op; go_big_quiet_on)))
      refine wpQuiet_nil ?_
      refine wpList_nil ?_
      refine Only.at ?_
      try dsimp only
      gi_upto_region 12 with fail
      refine round_lit (by kernel_rfl) ?_
      try simp only [List.getElem_toArray, List.getElem_cons_zero, List.getElem_cons_succ]
      refine wpList_chunk 1 (by kernel_rfl) ?_
      simp only [takS, Nat.reduceAdd]
      repeat (first | go_big_quiet_skip | (go_big_quiet_want; first | (refine quiet_buildTA0 rfl X Y rfl ?_; simp only [Act.put, putS]; go_big_quiet_on) | (go_big_quiet_op; go_big_quiet_on)))
      refine wpQuiet_nil ?_
      refine wpList_nil ?_
      refine Only.at ?_
      try dsimp only
      have rsm := RS.one s1
      have rsm0 := rsm
      gi_upto_region 14 with fail
      refine round_lit (by kernel_rfl) ?_
      try simp only [List.getElem_toArray, List.getElem_cons_zero, List.getElem_cons_succ]
      (refine wpList_allocT' rfl rfl ?_; intro b_t13 wn hle hge ht hbn hzn; have hsz := B.size; replace B := B.trans (hbn.mono (by omega)); have hln := Nat.lt_of_lt_of_eq (Nat.lt_succ_self _) hzn.symm; clear hzn; (try first | (have hlt := l8.lt; replace l8 := l8.of_eq (hbn.block _ (by omega))) | replace l8 := l8.below (hbn.mono hle)); (try first | (have hlt := m3.lt; replace m3 := m3.of_eq (hbn.block _ (by omega))) | replace m3 := m3.below (hbn.mono hle)); (try first | (have hlt := c6.lt; replace c6 := c6.of_eq (hbn.block _ (by omega))) | replace c6 := c6.below (hbn.mono hle)); (try first | (have hlt := r4.lt; replace r4 := r4.of_eq (hbn.block _ (by omega))) | replace r4 := r4.below (hbn.mono hle)); (try first | (have hlt := ce.lt; replace ce := ce.of_eq (hbn.block _ (by omega))) | replace ce := ce.below (hbn.mono hle)); (try first | (have hlt := p9.lt; replace p9 := p9.of_eq (hbn.block _ (by omega))) | replace p9 := p9.below (hbn.mono hle)); (try first | (have hlt := t13.lt; replace t13 := t13.of_eq (hbn.block _ (by omega))) | replace t13 := t13.below (hbn.mono hle)); (try first | (have hlt := t15.lt; replace t15 := t15.of_eq (hbn.block _ (by omega))) | replace t15 := t15.below (hbn.mono hle)); (try first | (have hlt := rs1.lt; replace rs1 := rs1.of_eq (hbn.block _ (by omega))) | replace rs1 := rs1.below (hbn.mono hle)); (try first | (have hlt := rsm.lt; replace rsm := rsm.of_eq (hbn.block _ (by omega))) | replace rsm := rsm.below (hbn.mono hle)); (try first | (have hlt := rc5.lt; replace rc5 := rc5.of_eq (hbn.block _ (by omega))) | replace rc5 := rc5.below (hbn.mono hle)); have t13 := ht; clear ht; simp only [Act.put, putS])
      refine wpList_nil ?_
      refine Only.at ?_
      try dsimp only
      have HSEP := Lib.hid (rs_sep rsm0 hle (by simp))
      clear rsm0
      gi_upto_region 15 with fail
      refine round_lit (by kernel_rfl) ?_
      try simp only [List.getElem_toArray, List.getElem_cons_zero, List.getElem_cons_succ]
      refine wpList_chunk 1 (by kernel_rfl) ?_
      simp only [takS, Nat.reduceAdd]
      repeat (first | go_big_quiet_skip | (go_big_quiet_want; first | (refine quiet_buildTA0 rfl X Y rfl ?_; simp only [Act.put, putS]; go_big_quiet_on) | (go_big_quiet_op; go_big_quiet_on)))
      refine wpQuiet_nil ?_
      (refine wpList_val rfl (.func (.func 94) #[] #[.pointer (some ⟨b_c6, 0, none⟩), .pointer (some ⟨b_m3, 0, none⟩)]) (by first | rfl | simp [go_sem, Act.eval]) ?_; simp only [Act.put, putS])
      refine wpList_callF (by first | rfl | simp [Region.wanted, yielded]) rfl (enters_of Try.func79 (by kernel_rfl) rfl) (by simp only [List.map_toArray, List.map_cons, List.map_nil, Act.eval, Array.getD_eq_getD_getElem?, List.getElem?_toArray, List.getElem?_cons_succ, List.getElem?_cons_zero, Option.getD_some]; rfl) ?_
      refine (P_mapPst c FT.out L HL.out OK.out ⟨X, Y, zT⟩ _ _ b_c6 b_m3 b_t13 g o cu _ _ rsm (fun i _ => Px.zero_ok) HWI.out c6 m3 ce t13 HSEP.out).mono ?_
      rintro e wn ⟨a5, cp5, rfl, rs5, hbn⟩
      have hsz := B.size
      have hzn := hbn.size
      replace B := B.trans (hbn.mono B.size)
      (try first | replace l8 := l8.of_eq (hbn.block _ l8.lt) | replace l8 := l8.below hbn)
      (try first | replace m3 := m3.of_eq (hbn.block _ m3.lt) | replace m3 := m3.below hbn)
      (try first | replace c6 := c6.of_eq (hbn.block _ c6.lt) | replace c6 := c6.below hbn)
      (try first | replace r4 := r4.of_eq (hbn.block _ r4.lt) | replace r4 := r4.below hbn)
      (try first | replace ce := ce.of_eq (hbn.block _ ce.lt) | replace ce := ce.below hbn)
      (try first | replace p9 := p9.of_eq (hbn.block _ p9.lt) | replace p9 := p9.below hbn)
      (try first | replace t13 := t13.of_eq (hbn.block _ t13.lt) | replace t13 := t13.below hbn)
      (try first | replace t15 := t15.of_eq (hbn.block _ t15.lt) | replace t15 := t15.below hbn)
      (try first | replace rs1 := rs1.of_eq (hbn.block _ rs1.lt) | replace rs1 := rs1.below hbn)
      (try first | replace rsm := rsm.of_eq (hbn.block _ rsm.lt) | replace rsm := rsm.below hbn)
      (try first | replace rc5 := rc5.of_eq (hbn.block _ rc5.lt) | replace rc5 := rc5.below hbn)
      refine ⟨_, rfl, ?_⟩
      simp only [Act.put, putS]
      refine wpList_lenS (by first | rfl | simp [Region.wanted, yielded]) rfl Try.underlying28 rfl ?_
      simp only [Act.put, putS]
      refine wpList_chunk 1 (by kernel_rfl) ?_
      simp only [takS, Nat.reduceAdd]
      repeat (first | go_big_quiet_skip | (go_big_quiet_want; first | (refine quiet_buildTA0 rfl X Y rfl ?_; simp only [Act.put, putS]; go_big_quiet_on) | (go_big_quiet_op; go_big_quiet_on)))
      refine wpQuiet_nil ?_
      refine wpList_nil ?_
      refine Only.at ?_
      try dsimp only
      rw [← hz0.out] at rs5
      simp only [← hz0.out]
      clear rsm HSEP
      cases hz : zeroB (pstT c L X Y (tileL M X Y)) with
      | true =>
        have HN : newA X Y (pstT c L X Y (tileL M X Y)) = [] := by unfold newA; rw [hz]; rfl
        rw [HN] at rs5
        simp only [HN, List.length_nil]
        clear rs5 HN
        have HZ := Lib.hid hz
        clear hz
        gi_wp2
        refine wpIn_loop_rounds 2 ?_
        rw [roundsIn_succ]
        gi_upto_region 16 with fail
        refine round_lit (by kernel_rfl) ?_
        try simp only [List.getElem_toArray, List.getElem_cons_zero, List.getElem_cons_succ]
        refine wpList_chunk 1 (by kernel_rfl) ?_
        simp only [takS, Nat.reduceAdd]
        repeat (first | go_big_quiet_skip | (go_big_quiet_want; first | (refine quiet_buildTA0 rfl X Y rfl ?_; simp only [Act.put, putS]; go_big_quiet_on) | (go_big_quiet_op; go_big_quiet_on)))
        refine wpQuiet_nil ?_
        refine wpList_nil ?_
        refine Only.at ?_
        try dsimp only
        clear rs1
        have rs1 := RS1W.out.chg L8.out (by simp) B.toChg
        gi_upto_region 20 with fail
        refine round_lit (by kernel_rfl) ?_
        try simp only [List.getElem_toArray, List.getElem_cons_zero, List.getElem_cons_succ]
        refine wpList_chunk 3 (by kernel_rfl) ?_
        simp only [takS, Nat.reduceAdd]
        repeat (first | go_big_quiet_skip | (go_big_quiet_want; first | (refine quiet_loadAny (t := 28) rfl _ _ _ rfl (fun w hw => run_load_sl ((ov_B l8 w hw).cellL 0 rfl)) (by rfl) ?_; simp only [Act.put, putS]; go_big_quiet_on) | (refine quiet_loadAny (t := 24) rfl _ _ _ rfl (fun w hw => run_load_B (ov_B p9 w hw) Try.isAgg24 (by kernel_rfl)) (by rfl) ?_; simp only [Act.put, putS]; go_big_quiet_on) | (refine quiet_buildTA0 rfl X Y rfl ?_; simp only [Act.put, putS]; go_big_quiet_on) | (refine quiet_loadT rfl _ rfl (ov_tile t13) ?_; simp only [Act.put, putS]; go_big_quiet_on) | (refine quiet_loadAny (t := 40) rfl _ _ _ rfl (fun w hw => ta_tile (ov_B t15 w hw)) (by first | rfl | omega) ?_; simp only [Act.put, putS]; go_big_quiet_on) | (go_big_quiet_op; go_big_quiet_on)))
        refine wpQuiet_nil ?_
        refine wpList_callF (by first | rfl | simp [Region.wanted, yielded]) rfl (enters_of Try.func73 (by kernel_rfl) rfl) (by simp only [List.map_toArray, List.map_cons, List.map_nil, Act.eval, Array.getD_eq_getD_getElem?, List.getElem?_toArray, List.getElem?_cons_succ, List.getElem?_cons_zero, Option.getD_some]; rfl) ?_
        refine (P_with _ M X Y (fun _ => Px.zero) _ rs1 SM.out (fun i _ => Px.zero_ok) (by omega)).mono ?_
        rintro e wn ⟨v8, rfl, rs8, hbn⟩
        have hsz := B.size
        have hzn := hbn.size
        replace B := B.trans (hbn.mono B.size)
        (try first | replace l8 := l8.of_eq (hbn.block _ l8.lt) | replace l8 := l8.below hbn)
        (try first | replace m3 := m3.of_eq (hbn.block _ m3.lt) | replace m3 := m3.below hbn)
        (try first | replace c6 := c6.of_eq (hbn.block _ c6.lt) | replace c6 := c6.below hbn)
        (try first | replace r4 := r4.of_eq (hbn.block _ r4.lt) | replace r4 := r4.below hbn)
        (try first | replace ce := ce.of_eq (hbn.block _ ce.lt) | replace ce := ce.below hbn)
        (try first | replace p9 := p9.of_eq (hbn.block _ p9.lt) | replace p9 := p9.below hbn)
        (try first | replace t13 := t13.of_eq (hbn.block _ t13.lt) | replace t13 := t13.below hbn)
        (try first | replace t15 := t15.of_eq (hbn.block _ t15.lt) | replace t15 := t15.below hbn)
        (try first | replace rs1 := rs1.of_eq (hbn.block _ rs1.lt) | replace rs1 := rs1.below hbn)
        (try first | replace rsm := rsm.of_eq (hbn.block _ rsm.lt) | replace rsm := rsm.below hbn)
        (try first | replace rc5 := rc5.of_eq (hbn.block _ rc5.lt) | replace rc5 := rc5.below hbn)
        obtain ⟨a8, c8, rfl, hc8⟩ := rs8.len
        refine ⟨_, rfl, ?_⟩
        simp only [Act.put, putS]
        (refine wpList_storeSl rfl _ _ rfl _ rfl _ _ _ rfl l8 ?_; have l8o := l8; clear l8; intro wn ht hcn hzn; (try replace rs8 := rs8.chg l8o (by simp) hcn); have hsz := B.size; replace hzn := Nat.le_of_eq hzn.symm; replace B := Exc.chg B hcn; (try replace m3 := m3.of_eq (hcn.block _ m3.lt (by omega))); (try replace c6 := c6.of_eq (hcn.block _ c6.lt (by omega))); (try replace r4 := r4.of_eq (hcn.block _ r4.lt (by omega))); (try replace ce := ce.of_eq (hcn.block _ ce.lt (by omega))); (try replace p9 := p9.of_eq (hcn.block _ p9.lt (by omega))); (try replace t13 := t13.of_eq (hcn.block _ t13.lt (by omega))); (try replace t15 := t15.of_eq (hcn.block _ t15.lt (by omega))); (try replace rc5 := rc5.of_eq (hcn.block _ rc5.lt (by omega))); have l8 := ht; clear ht; simp only [Act.put, putS])
        refine wpList_nil ?_
        refine Only.at ?_
        try dsimp only
        gi_wp2
        refine ⟨KeepsOthers.chgB B.toChg L8.out, KpB.chg B.toChg, ?_⟩
        dsimp only
        rw [HNEW.out]
        have e := putL_zero M X Y (t := fun _ => Px.zero) (u := pstT c L X Y (tileL M X Y)) ((zeroB_iff _).2 fun _ _ => rfl) HZ.out
        rw [e] at rs8 l8
        exact ⟨a8, c8, l8, rs8, m3, c6, r4, ce, Chg.below BW B.toChg (by omega) BW.size⟩
      | false =>
        have HN : newA X Y (pstT c L X Y (tileL M X Y)) = [⟨X, Y, pstT c L X Y (tileL M X Y)⟩] := by unfold newA; rw [hz]; rfl
        rw [HN] at rs5
        simp only [HN, List.length_cons, List.length_nil, Nat.zero_add]
        obtain ⟨g5, o5, rfl, rc5⟩ := rs5.at (by simp)
        clear rs5 HN hz
        have hlen1 : 0 < [(⟨X, Y, pstT c L X Y (tileL M X Y)⟩ : TA)].length := by simp
        gi_wp2
        refine wpIn_loop_rounds 2 ?_
        rw [roundsIn_succ]
        gi_upto_region 16 with fail
        refine round_lit (by kernel_rfl) ?_
        try simp only [List.getElem_toArray, List.getElem_cons_zero, List.getElem_cons_succ]
        refine wpList_chunk 1 (by kernel_rfl) ?_
        simp only [takS, Nat.reduceAdd]
        repeat (first | go_big_quiet_skip | (go_big_quiet_want; first | (refine quiet_buildTA0 rfl X Y rfl ?_; simp only [Act.put, putS]; go_big_quiet_on) | (go_big_quiet_op; go_big_quiet_on)))
        refine wpQuiet_nil ?_
        refine wpList_nil ?_
        refine Only.at ?_
        try dsimp only
        gi_upto_region 17 with fail
        refine round_lit (by kernel_rfl) ?_
        try simp only [List.getElem_toArray, List.getElem_cons_zero, List.getElem_cons_succ]
        refine wpList_chunk 2 (by kernel_rfl) ?_
        simp only [takS, Nat.reduceAdd]
        repeat (first | go_big_quiet_skip | (go_big_quiet_want; first | (refine quiet_buildTA0 rfl X Y rfl ?_; simp only [Act.put, putS]; go_big_quiet_on) | (refine quiet_loadAny (t := 79) rfl _ _ _ rfl (fun w hw => rc_ta (ov_rc rc5 w hw) hlen1 rfl) (by first | rfl | omega) ?_; simp only [Act.put, putS]; go_big_quiet_on) | (go_big_quiet_op; go_big_quiet_on)))
        refine wpQuiet_nil ?_
        (refine wpList_allocBk (t := 79) rfl _ (run_alloc_TA _ _ rfl) ?_; intro b_t15 wn hle hge ht hbn hzn; have hsz := B.size; replace B := B.trans (hbn.mono (by omega)); have hln := Nat.lt_of_lt_of_eq (Nat.lt_succ_self _) hzn.symm; clear hzn; (try first | (have hlt := l8.lt; replace l8 := l8.of_eq (hbn.block _ (by omega))) | replace l8 := l8.below (hbn.mono hle)); (try first | (have hlt := m3.lt; replace m3 := m3.of_eq (hbn.block _ (by omega))) | replace m3 := m3.below (hbn.mono hle)); (try first | (have hlt := c6.lt; replace c6 := c6.of_eq (hbn.block _ (by omega))) | replace c6 := c6.below (hbn.mono hle)); (try first | (have hlt := r4.lt; replace r4 := r4.of_eq (hbn.block _ (by omega))) | replace r4 := r4.below (hbn.mono hle)); (try first | (have hlt := ce.lt; replace ce := ce.of_eq (hbn.block _ (by omega))) | replace ce := ce.below (hbn.mono hle)); (try first | (have hlt := p9.lt; replace p9 := p9.of_eq (hbn.block _ (by omega))) | replace p9 := p9.below (hbn.mono hle)); (try first | (have hlt := t13.lt; replace t13 := t13.of_eq (hbn.block _ (by omega))) | replace t13 := t13.below (hbn.mono hle)); (try first | (have hlt := t15.lt; replace t15 := t15.of_eq (hbn.block _ (by omega))) | replace t15 := t15.below (hbn.mono hle)); (try first | (have hlt := rs1.lt; replace rs1 := rs1.of_eq (hbn.block _ (by omega))) | replace rs1 := rs1.below (hbn.mono hle)); (try first | (have hlt := rsm.lt; replace rsm := rsm.of_eq (hbn.block _ (by omega))) | replace rsm := rsm.below (hbn.mono hle)); (try first | (have hlt := rc5.lt; replace rc5 := rc5.of_eq (hbn.block _ (by omega))) | replace rc5 := rc5.below (hbn.mono hle)); have t15 := ht; clear ht; simp only [Act.put, putS])
        (refine wpList_storeB (t := 79) rfl _ _ rfl _ rfl _ rfl t15 (by rw [size_taC]; kernel_rfl) (by simp only [size_taC, size_zTA]) (taC_all _) ?_; clear t15; intro wn ht hcn hzn; have hsz := B.size; replace hzn := Nat.le_of_eq hzn.symm; replace B := Exc.store B hcn (by omega); (try replace l8 := l8.of_eq (hcn.block _ l8.lt (by omega))); (try replace m3 := m3.of_eq (hcn.block _ m3.lt (by omega))); (try replace c6 := c6.of_eq (hcn.block _ c6.lt (by omega))); (try replace r4 := r4.of_eq (hcn.block _ r4.lt (by omega))); (try replace ce := ce.of_eq (hcn.block _ ce.lt (by omega))); (try replace p9 := p9.of_eq (hcn.block _ p9.lt (by omega))); (try replace t13 := t13.of_eq (hcn.block _ t13.lt (by omega))); (try replace rs1 := rs1.of_eq (hcn.block _ rs1.lt (by omega))); (try replace rsm := rsm.of_eq (hcn.block _ rsm.lt (by omega))); (try replace rc5 := rc5.of_eq (hcn.block _ rc5.lt (by omega))); have t15 := ht; clear ht; simp only [Act.put, putS])
        refine wpList_nil ?_
        refine Only.at ?_
        try dsimp only
        replace t15 : AtB 79 _ b_t15 (taC ⟨X, Y, pstT c L X Y (tileL M X Y)⟩) := t15
        gi_upto_region 18 with fail
        refine round_lit (by kernel_rfl) ?_
        try simp only [List.getElem_toArray, List.getElem_cons_zero, List.getElem_cons_succ]
        refine wpList_chunk 2 (by kernel_rfl) ?_
        simp only [takS, Nat.reduceAdd]
        repeat (first | go_big_quiet_skip | (go_big_quiet_want; first | (refine quiet_buildTA0 rfl X Y rfl ?_; simp only [Act.put, putS]; go_big_quiet_on) | (refine quiet_loadT rfl _ rfl (ov_tile t13) ?_; simp only [Act.put, putS]; go_big_quiet_on) | (refine quiet_loadAny (t := 40) rfl _ _ _ rfl (fun w hw => ta_tile (ov_B t15 w hw)) (by first | rfl | omega) ?_; simp only [Act.put, putS]; go_big_quiet_on) | (go_big_quiet_op; go_big_quiet_on)))
        refine wpQuiet_nil ?_
        (refine wpList_storeT rfl _ _ rfl _ rfl _ rfl t13 ?_; clear t13; intro wn ht hcn hzn; have hsz := B.size; replace hzn := Nat.le_of_eq hzn.symm; replace B := Exc.store B hcn (by omega); (try replace l8 := l8.of_eq (hcn.block _ l8.lt (by omega))); (try replace m3 := m3.of_eq (hcn.block _ m3.lt (by omega))); (try replace c6 := c6.of_eq (hcn.block _ c6.lt (by omega))); (try replace r4 := r4.of_eq (hcn.block _ r4.lt (by omega))); (try replace ce := ce.of_eq (hcn.block _ ce.lt (by omega))); (try replace p9 := p9.of_eq (hcn.block _ p9.lt (by omega))); (try replace t15 := t15.of_eq (hcn.block _ t15.lt (by omega))); (try replace rs1 := rs1.of_eq (hcn.block _ rs1.lt (by omega))); (try replace rsm := rsm.of_eq (hcn.block _ rsm.lt (by omega))); (try replace rc5 := rc5.of_eq (hcn.block _ rc5.lt (by omega))); have t13 := ht; clear ht; simp only [Act.put, putS])
        refine wpList_nil ?_
        refine Only.at ?_
        try dsimp only
        gi_upto_region 19 with fail
        refine round_lit (by kernel_rfl) ?_
        try simp only [List.getElem_toArray, List.getElem_cons_zero, List.getElem_cons_succ]
        refine wpList_chunk 2 (by kernel_rfl) ?_
        simp only [takS, Nat.reduceAdd]
        repeat (first | go_big_quiet_skip | (go_big_quiet_want; first | (refine quiet_buildTA0 rfl X Y rfl ?_; simp only [Act.put, putS]; go_big_quiet_on) | (go_big_quiet_op; go_big_quiet_on)))
        refine wpQuiet_nil ?_
        refine wpList_nil ?_
        refine Only.at ?_
        try dsimp only
        gi_wp2
        rw [roundsIn_succ]
        gi_upto_region 16 with fail
        refine round_lit (by kernel_rfl) ?_
        try simp only [List.getElem_toArray, List.getElem_cons_zero, List.getElem_cons_succ]
        refine wpList_chunk 1 (by kernel_rfl) ?_
        simp only [takS, Nat.reduceAdd]
        repeat (first | go_big_quiet_skip | (go_big_quiet_want; first | (refine quiet_buildTA0 rfl X Y rfl ?_; simp only [Act.put, putS]; go_big_quiet_on) | (go_big_quiet_op; go_big_quiet_on)))
        refine wpQuiet_nil ?_
        refine wpList_nil ?_
        refine Only.at ?_
        try dsimp only
        clear rs1
        have rs1 := RS1W.out.chg L8.out (by simp) B.toChg
        gi_upto_region 20 with fail
        refine round_lit (by kernel_rfl) ?_
        try simp only [List.getElem_toArray, List.getElem_cons_zero, List.getElem_cons_succ]
        refine wpList_chunk 3 (by kernel_rfl) ?_
        simp only [takS, Nat.reduceAdd]
        repeat (first | go_big_quiet_skip | (go_big_quiet_want; first | (refine quiet_loadAny (t := 28) rfl _ _ _ rfl (fun w hw => run_load_sl ((ov_B l8 w hw).cellL 0 rfl)) (by rfl) ?_; simp only [Act.put, putS]; go_big_quiet_on) | (refine quiet_loadAny (t := 24) rfl _ _ _ rfl (fun w hw => run_load_B (ov_B p9 w hw) Try.isAgg24 (by kernel_rfl)) (by rfl) ?_; simp only [Act.put, putS]; go_big_quiet_on) | (refine quiet_buildTA0 rfl X Y rfl ?_; simp only [Act.put, putS]; go_big_quiet_on) | (refine quiet_loadT rfl _ rfl (ov_tile t13) ?_; simp only [Act.put, putS]; go_big_quiet_on) | (refine quiet_loadAny (t := 40) rfl _ _ _ rfl (fun w hw => ta_tile (ov_B t15 w hw)) (by first | rfl | omega) ?_; simp only [Act.put, putS]; go_big_quiet_on) | (go_big_quiet_op; go_big_quiet_on)))
        refine wpQuiet_nil ?_
        refine wpList_callF (by first | rfl | simp [Region.wanted, yielded]) rfl (enters_of Try.func73 (by kernel_rfl) rfl) (by simp only [List.map_toArray, List.map_cons, List.map_nil, Act.eval, Array.getD_eq_getD_getElem?, List.getElem?_toArray, List.getElem?_cons_succ, List.getElem?_cons_zero, Option.getD_some]; rfl) ?_
        refine (P_with _ M X Y (pstT c L X Y (tileL M X Y)) _ rs1 SM.out HTT.out (by omega)).mono ?_
        rintro e wn ⟨v8, rfl, rs8, hbn⟩
        have hsz := B.size
        have hzn := hbn.size
        replace B := B.trans (hbn.mono B.size)
        (try first | replace l8 := l8.of_eq (hbn.block _ l8.lt) | replace l8 := l8.below hbn)
        (try first | replace m3 := m3.of_eq (hbn.block _ m3.lt) | replace m3 := m3.below hbn)
        (try first | replace c6 := c6.of_eq (hbn.block _ c6.lt) | replace c6 := c6.below hbn)
        (try first | replace r4 := r4.of_eq (hbn.block _ r4.lt) | replace r4 := r4.below hbn)
        (try first | replace ce := ce.of_eq (hbn.block _ ce.lt) | replace ce := ce.below hbn)
        (try first | replace p9 := p9.of_eq (hbn.block _ p9.lt) | replace p9 := p9.below hbn)
        (try first | replace t13 := t13.of_eq (hbn.block _ t13.lt) | replace t13 := t13.below hbn)
        (try first | replace t15 := t15.of_eq (hbn.block _ t15.lt) | replace t15 := t15.below hbn)
        (try first | replace rs1 := rs1.of_eq (hbn.block _ rs1.lt) | replace rs1 := rs1.below hbn)
        (try first | replace rsm := rsm.of_eq (hbn.block _ rsm.lt) | replace rsm := rsm.below hbn)
        (try first | replace rc5 := rc5.of_eq (hbn.block _ rc5.lt) | replace rc5 := rc5.below hbn)
        obtain ⟨a8, c8, rfl, hc8⟩ := rs8.len
        refine ⟨_, rfl, ?_⟩
        simp only [Act.put, putS]
        (refine wpList_storeSl rfl _ _ rfl _ rfl _ _ _ rfl l8 ?_; have l8o := l8; clear l8; intro wn ht hcn hzn; (try replace rs8 := rs8.chg l8o (by simp) hcn); have hsz := B.size; replace hzn := Nat.le_of_eq hzn.symm; replace B := Exc.chg B hcn; (try replace m3 := m3.of_eq (hcn.block _ m3.lt (by omega))); (try replace c6 := c6.of_eq (hcn.block _ c6.lt (by omega))); (try replace r4 := r4.of_eq (hcn.block _ r4.lt (by omega))); (try replace ce := ce.of_eq (hcn.block _ ce.lt (by omega))); (try replace p9 := p9.of_eq (hcn.block _ p9.lt (by omega))); (try replace t13 := t13.of_eq (hcn.block _ t13.lt (by omega))); (try replace t15 := t15.of_eq (hcn.block _ t15.lt (by omega))); (try replace rc5 := rc5.of_eq (hcn.block _ rc5.lt (by omega))); have l8 := ht; clear ht; simp only [Act.put, putS])
        refine wpList_nil ?_
        refine Only.at ?_
        try dsimp only
        gi_wp2
        refine ⟨KeepsOthers.chgB B.toChg L8.out, KpB.chg B.toChg, ?_⟩
        dsimp only
        rw [HNEW.out]
        exact ⟨a8, c8, l8, rs8, m3, c6, r4, ce, Chg.below BW B.toChg (by omega) BW.size⟩
  case done =>
    have hszB := B.size
    rintro D xs W hD rfl ⟨a, cp, l8, rs1, m3, c6, r4, ce, BW⟩ hDD
    have kd : DefAt W D := hDD
    rw [posF_all] at l8 rs1
    have B := BW
    have hMn := pstL_len c L (posL c) KS
    rw [posL_len] at hMn
    obtain ⟨M, hM⟩ : ∃ M, pstL c L KS (posL c) = M := ⟨_, rfl⟩
    rw [hM] at l8 rs1 hMn
    have HM := Lib.hid hM
    clear hM
    have hwD : w.heap.size ≤ D := by omega
    have hne := kd.ne r4
    clear BW m3 c6 ce hD
    go_upto_region 21 with fail
    by_cases hm : M.length ≤ 1024
    · have e1 : manyL M = M := if_pos hm
      have e2 : manyE M = 0 := if_pos hm
      refine wp_region_lit ?_
      try simp only [List.getElem_toArray, List.getElem_cons_zero, List.getElem_cons_succ]
      refine wpList_chunk 1 (by kernel_rfl) ?_
      simp only [takS, Nat.reduceAdd]
      repeat (first | go_big_quiet_skip | (go_big_quiet_want; first | (refine quiet_loadAny (t := 28) rfl _ _ _ rfl (fun w hw => run_load_sl ((ov_B l8 w hw).cellL 0 rfl)) (by rfl) ?_; simp only [Act.put, putS]; go_big_quiet_on) | (go_big_quiet_op; go_big_quiet_on)))
      refine wpQuiet_nil ?_
      refine wpList_callF (by first | rfl | simp [Region.wanted, yielded]) rfl (enters_of Try.func96 (by kernel_rfl) rfl) (by simp only [List.map_toArray, List.map_cons, List.map_nil, Act.eval, Array.getD_eq_getD_getElem?, List.getElem?_toArray, List.getElem?_cons_succ, List.getElem?_cons_zero, Option.getD_some]; rfl) ?_
      refine (P_CloneO _ M _ rs1 (by omega)).mono ?_
      rintro e wn ⟨v2, b2, rfl, _, _, od2, hbn⟩
      have hsz := B.size
      have hzn := hbn.size
      replace B := B.trans (hbn.mono B.size)
      (try first | replace l8 := l8.of_eq (hbn.block _ l8.lt) | replace l8 := l8.below hbn)
      (try first | replace r4 := r4.of_eq (hbn.block _ r4.lt) | replace r4 := r4.below hbn)
      (try first | replace kd := kd.of_eq (hbn.block _ kd.lt) | replace kd := kd.below hbn)
      have rs2 := od2.rs
      clear od2
      obtain ⟨a2, c2, rfl, hc2⟩ := rs2.len
      refine ⟨_, rfl, ?_⟩
      simp only [Act.put, putS]
      refine wpList_callF (by first | rfl | simp [Region.wanted, yielded]) rfl (enters_of Try.func72 (by kernel_rfl) rfl) (by simp only [List.map_toArray, List.map_cons, List.map_nil, Act.eval, Array.getD_eq_getD_getElem?, List.getElem?_toArray, List.getElem?_cons_succ, List.getElem?_cons_zero, Option.getD_some]; rfl) ?_
      refine (P_made _ _ _ _ (by unfold maxLen; omega)).mono ?_
      rintro e wn ⟨rfl, hbn⟩
      have hsz := B.size
      have hzn := hbn.size
      replace B := B.trans (hbn.mono B.size)
      (try first | replace l8 := l8.of_eq (hbn.block _ l8.lt) | replace l8 := l8.below hbn)
      (try first | replace r4 := r4.of_eq (hbn.block _ r4.lt) | replace r4 := r4.below hbn)
      (try first | replace kd := kd.of_eq (hbn.block _ kd.lt) | replace kd := kd.below hbn)
      replace rs2 := rs2.below hbn
      rw [if_pos hm]
      refine ⟨_, rfl, ?_⟩
      simp only [Act.put, putS]
      refine wpList_chunk 2 (by kernel_rfl) ?_
      simp only [takS, Nat.reduceAdd]
      repeat (first | go_big_quiet_skip | (go_big_quiet_want; first | (go_big_quiet_op; go_big_quiet_on)))
      refine wpQuiet_nil ?_
      (refine wpList_storeB (t := 30) rfl _ _ rfl _ rfl _ rfl r4 (by kernel_rfl) rfl (by simp [Value.oneCell']) ?_; have r4o := r4; clear r4; intro wn ht hcn hzn; (try replace rs2 := rs2.chg r4o (by simp) hcn); have hsz := B.size; replace hzn := Nat.le_of_eq hzn.symm; replace B := Chg.below B hcn (by omega) B.size; (try replace l8 := l8.of_eq (hcn.block _ l8.lt (by omega))); (try replace kd := kd.of_eq (hcn.block _ kd.lt (by omega))); have r4 := ht; clear ht; simp only [Act.put, putS])
      refine wpList_chunk 1 (by kernel_rfl) ?_
      simp only [takS, Nat.reduceAdd]
      repeat (first | go_big_quiet_skip | (go_big_quiet_want; first | (go_big_quiet_op; go_big_quiet_on)))
      refine wpQuiet_nil ?_
      refine wpList_nil ?_
      go_wp2
      refine ⟨by simp, .inl ⟨_, _, rfl, run_takeDeferred kd, ?_⟩⟩
      refine ⟨_, results_B2 (t := 30) rfl _ _ b_r4 rfl _ rfl ((World.putObj_heap_other (fun e => hne (by omega))).trans r4) Try.isAgg30 (by kernel_rfl), ?_⟩
      have BF := B.trans (belowK_b (w := w) (Nat.le_refl _) wn D _ (.deferred none) hwD kd rfl rfl)
      dsimp only
      rw [HM.out, e1, e2]
      exact ⟨_, _, rfl, rs2.own (grownBy_putObj' _ _ _) (fun r e => by cases e; exact ⟨_, kd, rfl⟩), BF⟩
    · have e1 : manyL M = [] := if_neg hm
      have e2 : manyE M = 2 := if_neg hm
      refine wp_region_lit ?_
      try simp only [List.getElem_toArray, List.getElem_cons_zero, List.getElem_cons_succ]
      refine wpList_chunk 1 (by kernel_rfl) ?_
      simp only [takS, Nat.reduceAdd]
      repeat (first | go_big_quiet_skip | (go_big_quiet_want; first | (refine quiet_loadAny (t := 28) rfl _ _ _ rfl (fun w hw => run_load_sl ((ov_B l8 w hw).cellL 0 rfl)) (by rfl) ?_; simp only [Act.put, putS]; go_big_quiet_on) | (go_big_quiet_op; go_big_quiet_on)))
      refine wpQuiet_nil ?_
      refine wpList_callF (by first | rfl | simp [Region.wanted, yielded]) rfl (enters_of Try.func96 (by kernel_rfl) rfl) (by simp only [List.map_toArray, List.map_cons, List.map_nil, Act.eval, Array.getD_eq_getD_getElem?, List.getElem?_toArray, List.getElem?_cons_succ, List.getElem?_cons_zero, Option.getD_some]; rfl) ?_
      refine (P_CloneO _ M _ rs1 (by omega)).mono ?_
      rintro e wn ⟨v2, b2, rfl, _, _, od2, hbn⟩
      have hsz := B.size
      have hzn := hbn.size
      replace B := B.trans (hbn.mono B.size)
      (try first | replace l8 := l8.of_eq (hbn.block _ l8.lt) | replace l8 := l8.below hbn)
      (try first | replace r4 := r4.of_eq (hbn.block _ r4.lt) | replace r4 := r4.below hbn)
      (try first | replace kd := kd.of_eq (hbn.block _ kd.lt) | replace kd := kd.below hbn)
      have rs2 := od2.rs
      clear od2
      obtain ⟨a2, c2, rfl, hc2⟩ := rs2.len
      refine ⟨_, rfl, ?_⟩
      simp only [Act.put, putS]
      refine wpList_callF (by first | rfl | simp [Region.wanted, yielded]) rfl (enters_of Try.func72 (by kernel_rfl) rfl) (by simp only [List.map_toArray, List.map_cons, List.map_nil, Act.eval, Array.getD_eq_getD_getElem?, List.getElem?_toArray, List.getElem?_cons_succ, List.getElem?_cons_zero, Option.getD_some]; rfl) ?_
      refine (P_made _ _ _ _ (by unfold maxLen; omega)).mono ?_
      rintro e wn ⟨rfl, hbn⟩
      have hsz := B.size
      have hzn := hbn.size
      replace B := B.trans (hbn.mono B.size)
      (try first | replace l8 := l8.of_eq (hbn.block _ l8.lt) | replace l8 := l8.below hbn)
      (try first | replace r4 := r4.of_eq (hbn.block _ r4.lt) | replace r4 := r4.below hbn)
      (try first | replace kd := kd.of_eq (hbn.block _ kd.lt) | replace kd := kd.below hbn)
      replace rs2 := rs2.below hbn
      rw [if_neg hm]
      refine ⟨_, rfl, ?_⟩
      simp only [Act.put, putS]
      refine wpList_chunk 2 (by kernel_rfl) ?_
      simp only [takS, Nat.reduceAdd]
      repeat (first | go_big_quiet_skip | (go_big_quiet_want; first | (go_big_quiet_op; go_big_quiet_on)))
      refine wpQuiet_nil ?_
      (refine wpList_storeB (t := 30) rfl _ _ rfl _ rfl _ rfl r4 (by kernel_rfl) rfl (by simp [Value.oneCell']) ?_; have r4o := r4; clear r4; intro wn ht hcn hzn; (try replace rs2 := rs2.chg r4o (by simp) hcn); have hsz := B.size; replace hzn := Nat.le_of_eq hzn.symm; replace B := Chg.below B hcn (by omega) B.size; (try replace l8 := l8.of_eq (hcn.block _ l8.lt (by omega))); (try replace kd := kd.of_eq (hcn.block _ kd.lt (by omega))); have r4 := ht; clear ht; simp only [Act.put, putS])
      refine wpList_chunk 1 (by kernel_rfl) ?_
      simp only [takS, Nat.reduceAdd]
      repeat (first | go_big_quiet_skip | (go_big_quiet_want; first | (go_big_quiet_op; go_big_quiet_on)))
      refine wpQuiet_nil ?_
      refine wpList_nil ?_
      go_wp2
      refine ⟨by simp, .inl ⟨_, _, rfl, run_takeDeferred kd, ?_⟩⟩
      refine ⟨_, results_B2 (t := 30) rfl _ _ b_r4 rfl _ rfl ((World.putObj_heap_other (fun e => hne (by omega))).trans r4) Try.isAgg30 (by kernel_rfl), ?_⟩
      have BF := B.trans (belowK_b (w := w) (Nat.le_refl _) wn D _ (.deferred none) hwD kd rfl rfl)
      dsimp only
      rw [HM.out, e1, e2]
      exact ⟨_, _, rfl, RS.nil _, BF⟩
end Go.Proofs.Ytppccnjckiedlaa
/- Contract of Paste of the reference. -/
namespace Go.Proofs.Ytppccnjckiedlaa
open Go.RowKit Go.Shelf Pl
set_option linter.unusedVariables false
set_option linter.unusedSimpArgs false
set_option maxRecDepth 20000
end Go.Proofs.Ytppccnjckiedlaa
/- Paste of both packages, whether the rectangle fits or not. -/
namespace Go.Proofs.Ytppccnjckiedlaa
open Go.RowKit Go.Shelf Pl
set_option linter.unusedVariables false
set_option linter.unusedSimpArgs false
theorem P_PasteA (v : Value) (ls : List TA) (c : Rc) (u : Value) (L : List Px) (w : World) (h : RS v ls w) (tk : TokL ls) (hn : ls.length ≤ maxLen) (hu : RSE pxE u L w) (hLn : L.length ≤ maxLen) (okL : OkL L) : Calls Try.prog 48 #[.agg #[v], .agg (imgC c u)] w fun e w' => ∃ a cp, e = .returned (.tuple #[.agg #[.slice a (pstR c L ls).length cp], .int .i64 (pstE c L ls)]) ∧ RS (.slice a (pstR c L ls).length cp) (pstR c L ls) w' ∧ Below w.heap.size w w' := by
  obtain ⟨ad, cu, rfl, hcu⟩ := hu.len
  by_cases hV : validR c = true
  · by_cases hA : (L.length : Int) = areaR c
    · have e1 : pstR c L ls = if fitsE c = 0 then manyL (pstL c L (fineL ls) (posL c)) else [] := if_pos ⟨hV, hA⟩
      have e2 : pstE c L ls = if fitsE c = 0 then manyE (pstL c L (fineL ls) (posL c)) else fitsE c := if_pos ⟨hV, hA⟩
      by_cases hF : fitsE c = 0
      · rw [e1, e2, if_pos hF, if_pos hF]
        have hL : L.length = areaN c := by have := area_N (fitsE_zero hF); omega
        exact P_Paste_ok v ls c _ L w h tk hn hF hu hL okL
      · rw [e1, e2, if_neg hF, if_neg hF]
        refine (P_Paste_big v ls c ad L.length cu w h hLn hV hA.symm _ rfl hF).mono fun e w' ⟨he, hb⟩ => ?_
        exact ⟨none, 0, he, RS.nil _, hb⟩
    · have e1 : pstR c L ls = [] := if_neg (fun e => hA e.2)
      have e2 : pstE c L ls = 1 := if_neg (fun e => hA e.2)
      rw [e1, e2]
      refine (P_Paste_len v ls c ad L.length cu w h hLn hV _ rfl hA).mono fun e w' ⟨he, hb⟩ => ?_
      exact ⟨none, 0, he, RS.nil _, hb⟩
  · have e1 : pstR c L ls = [] := if_neg (fun e => hV e.1)
    have e2 : pstE c L ls = 1 := if_neg (fun e => hV e.1)
    rw [e1, e2]
    refine (P_Paste_inv v ls c ad L.length cu w h hLn (by simpa using hV)).mono fun e w' ⟨he, hb⟩ => ?_
    exact ⟨none, 0, he, RS.nil _, hb⟩
theorem P_PasteB (v : Value) (ls ks : List TA) (E : Int) (c : Rc) (u : Value) (L : List Px) (w : World) (h : RS v ls w) (tk : TokL ls) (hn : ls.length ≤ maxLen) (hu : RSE pxE u L w) (hLn : L.length ≤ maxLen) (okL : OkL L) (e1 : pstR c L ls = ks) (e2 : pstE c L ls = E) : Calls Try.prog 48 #[.agg #[v], .agg (imgC c u)] w fun e w' => ∃ a cp, e = .returned (.tuple #[.agg #[.slice a ks.length cp], .int .i64 E]) ∧ RS (.slice a ks.length cp) ks w' ∧ Below w.heap.size w w' := by
  subst e1 e2
  exact P_PasteA v ls c u L w h tk hn hu hLn okL
theorem pstR_len (c : Rc) (L : List Px) (ls : List TA) : (pstR c L ls).length ≤ 1024 := (validL_iff.1 (pstR_valid c L ls)).1
end Go.Proofs.Ytppccnjckiedlaa
