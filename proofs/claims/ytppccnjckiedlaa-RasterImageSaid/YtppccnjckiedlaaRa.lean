/- Plain: rectangles; rasters as lists of tiles at positions; what package raster computes. -/
import Derived.Test.YtppccnjckiedlaaTz
namespace Go.Proofs.Ytppccnjckiedlaa
open Go.RowKit Pl
set_option linter.unusedVariables false
set_option linter.unusedSimpArgs false
set_option maxRecDepth 20000

/-! ### Rectangles -/
structure Rc where
  x0 : Int
  y0 : Int
  x1 : Int
  y1 : Int
def Rc.zero : Rc := ⟨0, 0, 0, 0⟩
def Rc.v (r : Rc) : Value := .agg #[.int .i64 r.x0, .int .i64 r.y0, .int .i64 r.x1, .int .i64 r.y1]
def emptyR (r : Rc) : Bool := decide (r.x1 ≤ r.x0 ∨ r.y1 ≤ r.y0)
def hasR (r : Rc) (x y : Int) : Bool := decide (r.x0 ≤ x ∧ x < r.x1 ∧ r.y0 ≤ y ∧ y < r.y1)
def limR (r : Rc) : Bool := decide (-65536 ≤ r.x0 ∧ -65536 ≤ r.y0 ∧ r.x1 ≤ 65536 ∧ r.y1 ≤ 65536)
def validR (r : Rc) : Bool := !emptyR r && limR r
def normR (r : Rc) : Rc := if emptyR r = true then Rc.zero else r
def interR (a b : Rc) : Rc := normR ⟨max a.x0 b.x0, max a.y0 b.y0, min a.x1 b.x1, min a.y1 b.y1⟩
def unionR (a b : Rc) : Rc := if emptyR a = true then normR b else if emptyR b = true then a else ⟨min a.x0 b.x0, min a.y0 b.y0, max a.x1 b.x1, max a.y1 b.y1⟩
def areaR (r : Rc) : Int := if emptyR r = true then 0 else (r.x1 - r.x0) * (r.y1 - r.y0)

/-! ### Positions, tiles at positions -/
def lessB (ax ay bx bv : Int) : Bool := decide (ay < bv ∨ (ay = bv ∧ ax < bx))
def eqB (ax ay bx bv : Int) : Bool := decide (ax = bx ∧ ay = bv)
def withinB (x y : Int) : Bool := decide (-8192 ≤ x ∧ x ≤ 8191 ∧ -8192 ≤ y ∧ y ≤ 8191)
structure TA where
  x : Int
  y : Int
  t : Nat → Px
def TA.none : TA := ⟨0, 0, fun _ => Px.zero⟩
def aT (ls : List TA) (k : Nat) : TA := ls.getD k TA.none
theorem aT_at {ls : List TA} {k : Nat} (h : k < ls.length) : ls[k]? = some (aT ls k) := by
  unfold aT
  rw [List.getD_eq_getElem?_getD, List.getElem?_eq_getElem h]
  rfl
theorem aT_drop (ls : List TA) (i k : Nat) : aT (ls.drop i) k = aT ls (i + k) := by
  unfold aT
  rw [List.getD_eq_getElem?_getD, List.getD_eq_getElem?_getD, List.getElem?_drop]
theorem aT_cons (e : TA) (r : List TA) (k : Nat) : aT (e :: r) (k + 1) = aT r k := rfl
theorem drop_eq {ls : List TA} {k : Nat} (h : k < ls.length) : ls.drop k = aT ls k :: ls.drop (k + 1) := by
  rw [List.drop_eq_getElem_cons h]
  have := aT_at h
  rw [List.getElem?_eq_getElem h] at this
  rw [Option.some.inj this]
def beforeA (a b : TA) : Bool := lessB a.x a.y b.x b.y
def goodA (e : TA) : Bool := withinB e.x e.y && (!zeroB e.t && eqT (cleanT e.t) e.t)
def stepA (ls : List TA) (j : Nat) : Bool := goodA (aT ls j) && (decide (j = 0) || beforeA (aT ls (j - 1)) (aT ls j))
def validL (ls : List TA) : Bool := decide (ls.length ≤ 1024) && decide (∀ j ∈ List.range ls.length, stepA ls j = true)
def fineL (ls : List TA) : List TA := if validL ls = true then ls else []
def TokL (ls : List TA) : Prop := ∀ e ∈ ls, Tok e.t
theorem TokL.at {ls : List TA} (h : TokL ls) {k : Nat} (hk : k < ls.length) : Tok (aT ls k).t := h _ (List.mem_iff_getElem?.2 ⟨k, aT_at hk⟩)
theorem TokL.nil : TokL [] := fun e h => by cases h
theorem TokL.append {a b : List TA} (h : TokL a) (k : TokL b) : TokL (a ++ b) := fun e he => by
  rcases List.mem_append.1 he with he | he
  · exact h e he
  · exact k e he
theorem TokL.take {a : List TA} (h : TokL a) (n : Nat) : TokL (a.take n) := fun e he => h e (List.mem_of_mem_take he)
theorem TokL.drop {a : List TA} (h : TokL a) (n : Nat) : TokL (a.drop n) := fun e he => h e (List.mem_of_mem_drop he)
theorem validL_big {ls : List TA} (h : 1024 < ls.length) : validL ls = false := by
  unfold validL; rw [decide_eq_false (by omega)]; rfl
theorem validL_no {ls : List TA} {j : Nat} (hj : j < ls.length) (h : stepA ls j = false) : validL ls = false := by
  unfold validL
  rw [Bool.and_eq_false_iff]
  right
  exact decide_eq_false fun e => by rw [e j (List.mem_range.2 hj)] at h; cases h
theorem validL_yes {ls : List TA} (h : ls.length ≤ 1024) (k : ∀ j, j < ls.length → stepA ls j = true) : validL ls = true := by
  unfold validL
  rw [decide_eq_true h, Bool.true_and]
  exact decide_eq_true fun j hj => k j (List.mem_range.1 hj)
theorem validL_iff {ls : List TA} : validL ls = true ↔ ls.length ≤ 1024 ∧ ∀ j, j < ls.length → stepA ls j = true := by
  constructor
  · intro h
    unfold validL at h
    obtain ⟨h1, h2⟩ := Bool.and_eq_true_iff.1 h
    exact ⟨of_decide_eq_true h1, fun j hj => of_decide_eq_true h2 j (List.mem_range.2 hj)⟩
  · rintro ⟨h1, h2⟩; exact validL_yes h1 h2
theorem validL_nil : validL [] = true := validL_yes (by simp) (fun j hj => absurd hj (Nat.not_lt_zero _))
theorem fineL_of {ls : List TA} (h : validL ls = true) : fineL ls = ls := by unfold fineL; rw [if_pos h]
theorem fineL_no {ls : List TA} (h : validL ls = false) : fineL ls = [] := by unfold fineL; rw [h]; rfl
theorem fineL_valid (ls : List TA) : validL (fineL ls) = true := by
  by_cases h : validL ls = true
  · rw [fineL_of h]; exact h
  · rw [fineL_no (by simpa using h)]; exact validL_nil
theorem fineL_fine (ls : List TA) : fineL (fineL ls) = fineL ls := fineL_of (fineL_valid ls)
theorem fineL_tok {ls : List TA} (h : TokL ls) : TokL (fineL ls) := by
  unfold fineL; split
  · exact h
  · exact TokL.nil
theorem fineL_length (ls : List TA) : (fineL ls).length ≤ 1024 := (validL_iff.1 (fineL_valid ls)).1
theorem fineL_le (ls : List TA) : (fineL ls).length ≤ ls.length := by
  unfold fineL; split
  · exact Nat.le_refl _
  · exact Nat.zero_le _
/-- In increasing order. -/
def Srt (ls : List TA) : Prop := ls.Pairwise fun a b => beforeA a b = true
theorem before_trans {a b c : TA} (h : beforeA a b = true) (k : beforeA b c = true) : beforeA a c = true := by
  unfold beforeA lessB at *
  have h := of_decide_eq_true h
  have k := of_decide_eq_true k
  exact decide_eq_true (by omega)
theorem srt_of : ∀ (ls : List TA), (∀ j, 0 < j → j < ls.length → beforeA (aT ls (j - 1)) (aT ls j) = true) → Srt ls
  | [], _ => List.Pairwise.nil
  | [a], _ => List.pairwise_singleton _ _
  | a :: b :: r, h => by
    have ih := srt_of (b :: r) (fun j hj hl => by
      have := h (j + 1) (by omega) (by simp at hl ⊢; omega)
      rw [Nat.add_sub_cancel] at this
      rw [show j = (j - 1) + 1 by omega, aT_cons] at this
      rw [show j - 1 + 1 = j by omega] at this
      exact this)
    have hab : beforeA a b = true := h 1 (by omega) (by simp)
    refine List.Pairwise.cons (fun e he => ?_) ih
    rcases List.mem_cons.1 he with rfl | he
    · exact hab
    · exact before_trans hab ((List.pairwise_cons.1 ih).1 e he)
theorem validL_srt {ls : List TA} (h : validL ls = true) : Srt ls :=
  srt_of ls fun j h0 hj => by
    have := (validL_iff.1 h).2 j hj
    unfold stepA at this
    obtain ⟨_, h2⟩ := Bool.and_eq_true_iff.1 this
    rw [decide_eq_false (by omega), Bool.false_or] at h2
    exact h2
theorem validL_good {ls : List TA} (h : validL ls = true) : ∀ e ∈ ls, goodA e = true := fun e he => by
  obtain ⟨j, hj, rfl⟩ := List.mem_iff_getElem.1 he
  have := (validL_iff.1 h).2 j hj
  unfold stepA at this
  have g := (Bool.and_eq_true_iff.1 this).1
  have a := aT_at hj
  rw [List.getElem?_eq_getElem hj] at a
  rw [Option.some.inj a]
  exact g
theorem validL_mk {ls : List TA} (h : ls.length ≤ 1024) (hg : ∀ e ∈ ls, goodA e = true) (hs : Srt ls) : validL ls = true :=
  validL_yes h fun j hj => by
    unfold stepA
    rw [hg _ (List.mem_iff_getElem?.2 ⟨j, aT_at hj⟩), Bool.true_and]
    by_cases h0 : j = 0
    · rw [decide_eq_true h0]; rfl
    · rw [decide_eq_false h0, Bool.false_or]
      have := List.pairwise_iff_getElem.1 hs (j - 1) j (by omega) hj (by omega)
      have a := aT_at hj
      have b := aT_at (show j - 1 < ls.length by omega)
      rw [List.getElem?_eq_getElem hj] at a
      rw [List.getElem?_eq_getElem (show j - 1 < ls.length by omega)] at b
      rw [← Option.some.inj a, ← Option.some.inj b]
      exact this

/-! ### What stands at a position -/
def zT : Nat → Px := fun _ => Px.zero
def tileL : List TA → Int → Int → (Nat → Px)
  | [], _, _ => zT
  | e :: r, x, y => if eqB e.x e.y x y = true then e.t else tileL r x y
/-- The first place at which it stands; the length where it does not. -/
def idxL : List TA → Int → Int → Nat
  | [], _, _ => 0
  | e :: r, x, y => if eqB e.x e.y x y = true then 0 else idxL r x y + 1
theorem tileL_tok {ls : List TA} (h : TokL ls) (x y : Int) : Tok (tileL ls x y) := by
  induction ls with
  | nil => intro i hi; exact Px.zero_ok
  | cons e r ih =>
    unfold tileL
    split
    · exact h e (List.mem_cons_self ..)
    · exact ih (fun e he => h e (List.mem_cons_of_mem _ he))
def getL (ls : List TA) (x y : Int) : Px := tileL ls (x / 8) (y / 8) (8 * (y % 8) + x % 8).toNat

/-! ### A tile replaced -/
def newA (x y : Int) (t : Nat → Px) : List TA := if zeroB t = true then [] else [⟨x, y, t⟩]
def putL : List TA → Int → Int → (Nat → Px) → List TA
  | [], x, y, t => newA x y t
  | e :: r, x, y, t => if lessB e.x e.y x y = true then e :: putL r x y t else if eqB e.x e.y x y = true then newA x y t ++ r else newA x y t ++ e :: r
/-- How many stand before the position. -/
def cutL : List TA → Int → Int → Nat
  | [], _, _ => 0
  | e :: r, x, y => if lessB e.x e.y x y = true then cutL r x y + 1 else 0
def hitL (ls : List TA) (x y : Int) : Bool := decide (cutL ls x y < ls.length) && eqB (aT ls (cutL ls x y)).x (aT ls (cutL ls x y)).y x y
theorem cutL_le (ls : List TA) (x y : Int) : cutL ls x y ≤ ls.length := by
  induction ls with
  | nil => exact Nat.le_refl _
  | cons e r ih => unfold cutL; split <;> simp; omega
theorem cutL_lt {ls : List TA} {x y : Int} : ∀ {j : Nat}, j < cutL ls x y → lessB (aT ls j).x (aT ls j).y x y = true := by
  induction ls with
  | nil => intro j h; exact absurd h (Nat.not_lt_zero _)
  | cons e r ih =>
    intro j h
    unfold cutL at h
    split at h
    · rename_i hl
      cases j with
      | zero => exact hl
      | succ j => exact ih (by omega)
    · exact absurd h (Nat.not_lt_zero _)
theorem cutL_at {ls : List TA} {x y : Int} (h : cutL ls x y < ls.length) : lessB (aT ls (cutL ls x y)).x (aT ls (cutL ls x y)).y x y = false := by
  induction ls with
  | nil => exact absurd h (Nat.not_lt_zero _)
  | cons e r ih =>
    by_cases hl : lessB e.x e.y x y = true
    · have hc : cutL (e :: r) x y = cutL r x y + 1 := by show (if _ then _ else _) = _; rw [if_pos hl]
      rw [hc] at h ⊢
      exact ih (by simpa using h)
    · have hc : cutL (e :: r) x y = 0 := by show (if _ then _ else _) = _; rw [if_neg hl]
      rw [hc]
      show lessB e.x e.y x y = false
      simpa using hl
/-- A place before which all stand before the position, and behind which none does, is the cut. -/
theorem cutL_eq {ls : List TA} {x y : Int} {i : Nat} (hi : i ≤ ls.length) (h1 : ∀ j, j < i → lessB (aT ls j).x (aT ls j).y x y = true) (h2 : i < ls.length → lessB (aT ls i).x (aT ls i).y x y = false) : cutL ls x y = i := by
  have a := cutL_le ls x y
  rcases Nat.lt_trichotomy (cutL ls x y) i with h | h | h
  · have := h1 _ h
    rw [cutL_at (by omega)] at this; cases this
  · exact h
  · have := cutL_lt h
    rw [h2 (by omega)] at this; cases this
theorem putL_cut (ls : List TA) (x y : Int) (t : Nat → Px) : putL ls x y t = ls.take (cutL ls x y) ++ newA x y t ++ ls.drop (if hitL ls x y = true then cutL ls x y + 1 else cutL ls x y) := by
  induction ls with
  | nil => simp [putL, cutL, hitL]
  | cons e r ih =>
    by_cases hl : lessB e.x e.y x y = true
    · have hc : cutL (e :: r) x y = cutL r x y + 1 := by show (if _ then _ else _) = _; rw [if_pos hl]
      have hh : hitL (e :: r) x y = hitL r x y := by
        unfold hitL
        rw [hc, aT_cons]
        simp
      have hp : putL (e :: r) x y t = e :: putL r x y t := by show (if _ then _ else _) = _; rw [if_pos hl]
      rw [hp, hh, hc, ih, List.take_succ_cons]
      by_cases h : hitL r x y = true
      · rw [if_pos h, if_pos h, List.drop_succ_cons]; rfl
      · rw [if_neg h, if_neg h, List.drop_succ_cons]; rfl
    · have hc : cutL (e :: r) x y = 0 := by show (if _ then _ else _) = _; rw [if_neg hl]
      have hh : hitL (e :: r) x y = eqB e.x e.y x y := by
        unfold hitL
        rw [hc]
        show (decide (0 < r.length + 1) && eqB e.x e.y x y) = _
        rw [decide_eq_true (Nat.succ_pos _), Bool.true_and]
      have hp : putL (e :: r) x y t = if eqB e.x e.y x y = true then newA x y t ++ r else newA x y t ++ e :: r := by show (if _ then _ else _) = _; rw [if_neg hl]
      rw [hp, hh, hc]
      by_cases h : eqB e.x e.y x y = true
      · rw [if_pos h, if_pos h]; simp
      · rw [if_neg h, if_neg h]; simp
theorem newA_length (x y : Int) (t : Nat → Px) : (newA x y t).length ≤ 1 := by unfold newA; split <;> simp
theorem putL_length (ls : List TA) (x y : Int) (t : Nat → Px) : (putL ls x y t).length ≤ ls.length + 1 := by
  have h := newA_length x y t
  rw [putL_cut, List.length_append, List.length_append, List.length_take, List.length_drop]
  have := cutL_le ls x y
  split <;> omega
theorem newA_tok {x y : Int} {t : Nat → Px} (h : Tok t) : TokL (newA x y t) := by
  unfold newA; split
  · exact TokL.nil
  · intro e he
    rw [List.mem_singleton] at he
    rw [he]; exact h
theorem putL_tok {ls : List TA} {x y : Int} {t : Nat → Px} (h : TokL ls) (ht : Tok t) : TokL (putL ls x y t) := by
  rw [putL_cut]
  exact ((h.take _).append (newA_tok ht)).append (h.drop _)
/-- What the reference's put makes of the rest of a list, its tile laid or not. -/
def rputL (x y : Int) (t : Nat → Px) : Bool → List TA → List TA
  | d, [] => if d = true then [] else [⟨x, y, t⟩]
  | d, e :: r => if (!d && lessB x y e.x e.y) = true then ⟨x, y, t⟩ :: (if eqB e.x e.y x y = true then rputL x y t true r else e :: rputL x y t true r)
      else if eqB e.x e.y x y = true then rputL x y t d r else e :: rputL x y t d r
theorem rput_done (x y : Int) (t : Nat → Px) : ∀ (ls : List TA), (∀ e ∈ ls, eqB e.x e.y x y = false) → rputL x y t true ls = ls
  | [], _ => rfl
  | e :: r, h => by
    unfold rputL
    rw [h e (List.mem_cons_self ..)]
    simp
    exact rput_done x y t r fun e he => h e (List.mem_cons_of_mem _ he)
theorem rput_after (x y : Int) (t : Nat → Px) (ls : List TA) (h : ∀ e ∈ ls, lessB x y e.x e.y = true) : rputL x y t (zeroB t) ls = newA x y t ++ ls := by
  have hne : ∀ e ∈ ls, eqB e.x e.y x y = false := fun e he => by
    have := of_decide_eq_true (h e he)
    exact decide_eq_false (by omega)
  by_cases hz : zeroB t = true
  · rw [hz, rput_done x y t ls hne]; unfold newA; rw [if_pos hz]; rfl
  · have hz' : zeroB t = false := by simpa using hz
    unfold newA
    rw [hz', if_neg (by simp)]
    cases ls with
    | nil => rfl
    | cons e r =>
      unfold rputL
      rw [h e (List.mem_cons_self ..), hne e (List.mem_cons_self ..)]
      simp
      exact rput_done x y t r fun e he => hne e (List.mem_cons_of_mem _ he)
theorem rputL_eq (x y : Int) (t : Nat → Px) : ∀ (ls : List TA), Srt ls → rputL x y t (zeroB t) ls = putL ls x y t
  | [], _ => by unfold rputL putL newA; rfl
  | e :: r, h => by
    obtain ⟨h1, h2⟩ := List.pairwise_cons.1 h
    have ih := rputL_eq x y t r h2
    unfold putL
    by_cases hl : lessB e.x e.y x y = true
    · have l' := of_decide_eq_true hl
      have a1 : lessB x y e.x e.y = false := decide_eq_false (by omega)
      have a2 : eqB e.x e.y x y = false := decide_eq_false (by omega)
      rw [if_pos hl]
      unfold rputL
      rw [a1, a2, Bool.and_false]
      simp [ih]
    · rw [if_neg hl]
      have l' := of_decide_eq_false (show lessB e.x e.y x y = false by simpa using hl)
      by_cases he : eqB e.x e.y x y = true
      · have e' := of_decide_eq_true he
        rw [if_pos he]
        have a1 : lessB x y e.x e.y = false := decide_eq_false (by omega)
        unfold rputL
        rw [a1, he, Bool.and_false]
        simp
        exact rput_after x y t r fun f hf => by
          have := of_decide_eq_true (h1 f hf)
          exact decide_eq_true (by omega)
      · rw [if_neg he]
        have e' := of_decide_eq_false (show eqB e.x e.y x y = false by simpa using he)
        exact rput_after x y t (e :: r) fun f hf => by
          rcases List.mem_cons.1 hf with rfl | hf
          · exact decide_eq_true (by omega)
          · have := of_decide_eq_true (h1 f hf)
            exact decide_eq_true (by omega)
/-- What put returns, and its error. -/
def manyL (ls : List TA) : List TA := if ls.length ≤ 1024 then ls else []
def manyE (ls : List TA) : Int := if ls.length ≤ 1024 then 0 else 2
def putR (ls : List TA) (x y : Int) (t : Nat → Px) : List TA := if withinB x y = true then manyL (putL (fineL ls) x y (cleanT t)) else []
def putE (ls : List TA) (x y : Int) (t : Nat → Px) : Int := if withinB x y = true then manyE (putL (fineL ls) x y (cleanT t)) else 1
def setS (ls : List TA) (x y : Int) (p : Px) : Nat → Px := setT (tileL (fineL ls) (x / 8) (y / 8)) (x % 8) (y % 8) p
def setR (ls : List TA) (x y : Int) (p : Px) : List TA := putR ls (x / 8) (y / 8) (setS ls x y p)
def setE (ls : List TA) (x y : Int) (p : Px) : Int := putE ls (x / 8) (y / 8) (setS ls x y p)
end Go.Proofs.Ytppccnjckiedlaa
