import Derived.Test.YtepelndbbhdofaaGreatDoorKg2
import Derived.RangeFuncNested
import Derived.RangeFuncBound
import Derived.RangeFuncCalls
import Derived.RangeFuncLeaves
import Derived.OrdersIn
import Derived.OwnWalkIn
import Derived.TacticsInMore
import Derived.LoopNIn
import Derived.LoopIn
import Derived.RangeFuncFrom
import Derived.Sort.CutIn

/- Plain: strokes painted dab by dab. -/
namespace Go.Proofs.YtepelndbbhdofaaGreatDoor
open Go.RowKit Pl
set_option linter.unusedVariables false
set_option linter.unusedSimpArgs false
def paintL (c : Rc) (f : Int → Int → Px) : List Px := (List.range (areaN c)).map fun j => f (pxX c j) (pxY c j)
theorem paintL_len (c : Rc) (f : Int → Int → Px) : (paintL c f).length = areaN c := by unfold paintL; rw [List.length_map, List.length_range]
theorem paintL_at (c : Rc) (f : Int → Int → Px) {j : Nat} (h : j < areaN c) : (paintL c f)[j]? = some (f (pxX c j) (pxY c j)) := by
 unfold paintL
 rw [List.getElem?_map, List.getElem?_range h]
 rfl
theorem paintL_ok {c : Rc} {f : Int → Int → Px} (h : ∀ x y, (f x y).ok) : OkL (paintL c f) := fun p hp => by
 unfold paintL at hp
 obtain ⟨j, _, rfl⟩ := List.mem_map.1 hp
 exact h _ _
theorem pix_paint {c : Rc} (hf : Fits c) (f : Int → Int → Px) {x y : Int} (h : hasR c x y = true) : pixL c (paintL c f) x y = f x y := by
 have hh := (hasR_iff _ _ _).1 h
 obtain ⟨k, e1, e2, e3, e4⟩ := px_xy hf (X := (x - c.x0).toNat) (Y := (y - c.y0).toNat) (by omega) (by omega)
 have ek : (idxI c x y).toNat = k := by
  unfold idxI
  have hy : (((y - c.y0).toNat : Nat) : Int) = y - c.y0 := by omega
  have hx : (((x - c.x0).toNat : Nat) : Int) = x - c.x0 := by omega
  rw [hy, hx] at e1
  omega
 unfold pixL
 rw [ek, List.getD_eq_getElem?_getD, paintL_at c f e2, e3, e4]
 show f _ _ = _
 congr 1 <;> omega
theorem srt_len {R : Rc} (hR : Fits R) {ls : List TA} (hs : Srt ls) (h : ∀ e ∈ ls, hasR R e.x e.y = true) : ls.length ≤ areaN R := by
 obtain ⟨ea, hw⟩ := area_wid hR
 have hW : (widN R : Int) = R.x1 - R.x0 := by unfold widN; have := hR.h1; omega
 have key : ∀ e ∈ ls, (e.x - R.x0).toNat < widN R ∧ ((e.x - R.x0).toNat : Int) = e.x - R.x0 ∧ ((e.y - R.y0).toNat : Int) = e.y - R.y0 ∧ (e.y - R.y0).toNat < (R.y1 - R.y0).toNat := fun e he => by
  have := (hasR_iff _ _ _).1 (h e he)
  omega
 have hp : (ls.map fun e => (e.y - R.y0).toNat * widN R + (e.x - R.x0).toNat).Pairwise (· < ·) := by
  rw [List.pairwise_map]
  refine hs.imp_of_mem fun {a b} ha hb hab => ?_
  obtain ⟨a1, a2, a3, _⟩ := key a ha
  obtain ⟨b1, b2, b3, _⟩ := key b hb
  have hh := of_decide_eq_true hab
  rcases hh with hh | ⟨h1, h2⟩
  ·have : (a.y - R.y0).toNat + 1 ≤ (b.y - R.y0).toNat := by omega
   have := Nat.mul_le_mul_right (widN R) this
   rw [Nat.add_mul, Nat.one_mul] at this
   omega
  ·have : (a.y - R.y0).toNat = (b.y - R.y0).toNat := by omega
   rw [this]
   omega
 have := inc_len _ 0 (areaN R) hp fun x hx => by
  obtain ⟨e, he, rfl⟩ := List.mem_map.1 hx
  obtain ⟨a1, a2, a3, a4⟩ := key e he
  refine ⟨Nat.zero_le _, ?_⟩
  have := Nat.mul_le_mul_right (widN R) (show (e.y - R.y0).toNat + 1 ≤ (R.y1 - R.y0).toNat by omega)
  rw [Nat.add_mul, Nat.one_mul] at this
  rw [ea, Nat.mul_comm (widN R)]
  omega
 simpa using this
/-! ### One dab -/
def inkP (s : Stk) (n : Int) (p : Px) : Px := if 0 < n then (if s.era = true then fadeP p (255 - n) else overP p s.col 0 n) else p
def sqC (d : Db) : Rc := interR (sqrD d) limC
def skD (d : Db) : Bool := decide (d.r < 1) || emptyR (sqC d)
def inkL (s : Stk) (d : Db) (ls : List TA) : List Px := paintL (sqC d) (fun x y => inkP s (covD d x y) (getL ls x y))
def inkD (s : Stk) (st : List TA × Int) (d : Db) : List TA × Int :=
 if st.2 ≠ 0 ∨ skD d = true then st else (pstR (sqC d) (inkL s d st.1) st.1, pstE (sqC d) (inkL s d st.1) st.1)
def inkF (s : Stk) (l : List Db) (ls : List TA) : List TA × Int := l.foldl (inkD s) (ls, 0)
def paintS (s : Stk) (ls : List TA) : List TA × Int := if validS s = true then inkF s (dabsF s) (fineL ls) else ([], 1)
theorem inkP_ok {s : Stk} (hc : s.col.ok) (n : Int) {p : Px} (hp : p.ok) : (inkP s n p).ok := by
 unfold inkP
 split
 ·split
  ·exact fadeP_ok hp _
  ·exact overP_ok hp hc _ _
 ·exact hp
theorem emptyR_norm (r : Rc) : emptyR (normR r) = emptyR r := by
 unfold normR
 split
 ·rename_i h
  rw [h]; rfl
 ·rfl
theorem sq_lim (d : Db) : emptyR (sqC d) = false → sqC d = ⟨max (sqrD d).x0 (-65536), max (sqrD d).y0 (-65536), min (sqrD d).x1 65536, min (sqrD d).y1 65536⟩ := fun h => by
 unfold sqC interR at h ⊢
 rw [emptyR_norm] at h
 unfold normR
 rw [h]
 rfl
theorem sq_fits {d : Db} (ok : okD d) (h : skD d = false) : fitsE (sqC d) = 0 ∧ Fits (sqC d) := by
 unfold skD at h
 rw [Bool.or_eq_false_iff] at h
 obtain ⟨h1, h2⟩ := h
 have e := sq_lim d h2
 have hE := (emptyR_not _).1 h2
 obtain ⟨a1, a2, a3, a4, a5, a6⟩ := ok
 rw [e] at hE ⊢
 unfold sqrD at hE ⊢
 simp only at hE
 have hF : Fits ⟨max ((d.x - d.r) / 16) (-65536), max ((d.y - d.r) / 16) (-65536), min ((d.x + d.r) / 16 + 1) 65536, min ((d.y + d.r) / 16 + 1) 65536⟩ := by
  refine ⟨?_, ?_, ?_, ?_, ?_, ?_, ?_, ?_⟩ <;> (simp only; omega)
 refine ⟨?_, hF⟩
 unfold fitsE
 rw [if_pos hF.valid, if_neg (by have h7 := hF.h7; have h8 := hF.h8; simp only at h7 h8 ⊢; omega)]
theorem inkL_len (s : Stk) (d : Db) (ls : List TA) : (inkL s d ls).length = areaN (sqC d) := paintL_len _ _
theorem inkL_ok {s : Stk} (hc : s.col.ok) (d : Db) {ls : List TA} (h : TokL ls) : OkL (inkL s d ls) := paintL_ok fun x y => inkP_ok hc _ (tileL_tok h _ _ _ (by omega))
theorem pst_valid {c : Rc} {L : List Px} {ls : List TA} (hE : fitsE c = 0) (hL : L.length = areaN c) (hv : validL ls = true) : pstE c L ls = manyE (pstL c L ls (posL c)) ∧ pstR c L ls = manyL (pstL c L ls (posL c)) := by
 have hF := fitsE_zero hE
 have hAr : (L.length : Int) = areaR c := by rw [hL, area_N hF]
 have e1 : pstE c L ls = if fitsE c = 0 then manyE (pstL c L (fineL ls) (posL c)) else fitsE c := if_pos ⟨hF.valid, hAr⟩
 have e2 : pstR c L ls = if fitsE c = 0 then manyL (pstL c L (fineL ls) (posL c)) else [] := if_pos ⟨hF.valid, hAr⟩
 rw [e1, e2, if_pos hE, if_pos hE, fineL_of hv]
 exact ⟨rfl, rfl⟩
theorem manyE_zero {l : List TA} (h : manyE l = 0) : manyL l = l := by
 unfold manyE at h
 unfold manyL
 split at h
 ·rename_i k
  rw [if_pos k]
 ·cases h
theorem manyE_small {l : List TA} (h : l.length ≤ 1024) : manyE l = 0 ∧ manyL l = l := by
 unfold manyE manyL
 rw [if_pos h, if_pos h]
 exact ⟨rfl, rfl⟩
theorem inkD_err (s : Stk) {st : List TA × Int} (h : st.2 ≠ 0) (d : Db) : inkD s st d = st := by unfold inkD; rw [if_pos (.inl h)]
theorem inkD_skip (s : Stk) (st : List TA × Int) {d : Db} (h : skD d = true) : inkD s st d = st := by unfold inkD; rw [if_pos (.inr h)]
theorem inkD_go (s : Stk) {ls : List TA} {d : Db} (h : skD d = false) : inkD s (ls, 0) d = (pstR (sqC d) (inkL s d ls) ls, pstE (sqC d) (inkL s d ls) ls) := by
 unfold inkD
 rw [if_neg (by rw [h]; simp)]
theorem ink_err (s : Stk) : ∀ (l : List Db) {st : List TA × Int}, st.2 ≠ 0 → l.foldl (inkD s) st = st
 | [], _, _ => rfl
 | d :: r, st, h => by
  show r.foldl (inkD s) (inkD s st d) = st
  rw [inkD_err s h]
  exact ink_err s r h
theorem inkF_snoc (s : Stk) (l : List Db) (d : Db) (ls : List TA) : inkF s (l ++ [d]) ls = inkD s (inkF s l ls) d := by unfold inkF; rw [List.foldl_append]; rfl
/-- Valid it stays. -/
theorem inkD_valid (s : Stk) {st : List TA × Int} (h : validL st.1 = true) (d : Db) : validL (inkD s st d).1 = true := by
 unfold inkD
 split
 ·exact h
 ·exact pstR_valid _ _ _
theorem inkD_tok {s : Stk} (hc : s.col.ok) {st : List TA × Int} (h : TokL st.1) (d : Db) : TokL (inkD s st d).1 := by
 unfold inkD
 split
 ·exact h
 ·exact pstR_tok (inkL_ok hc d h) h
theorem ink_all {s : Stk} (hc : s.col.ok) : ∀ (l : List Db) (st : List TA × Int), validL st.1 = true → TokL st.1 → validL (l.foldl (inkD s) st).1 = true ∧ TokL (l.foldl (inkD s) st).1
 | [], st, h, k => ⟨h, k⟩
 | d :: r, st, h, k => ink_all hc r (inkD s st d) (inkD_valid s h d) (inkD_tok hc k d)
theorem inkF_valid {s : Stk} (hc : s.col.ok) (l : List Db) {ls : List TA} (h : validL ls = true) (k : TokL ls) : validL (inkF s l ls).1 = true ∧ TokL (inkF s l ls).1 := ink_all hc l (ls, 0) h k
theorem pst_errR (c : Rc) (L : List Px) (ls : List TA) (h : pstE c L ls ≠ 0) : pstR c L ls = [] := by
 unfold pstE at h
 unfold pstR
 split
 ·rename_i k
  rw [if_pos k] at h
  split
  ·rename_i k2
   rw [if_pos k2] at h
   unfold manyE at h
   unfold manyL
   split
   ·rename_i k3
    rw [if_pos k3] at h
    exact absurd rfl h
   ·rfl
  ·rfl
 ·rfl
theorem ink_errR (s : Stk) (l : List Db) : ∀ (st : List TA × Int), (st.2 ≠ 0 → st.1 = []) → ((l.foldl (inkD s) st).2 ≠ 0 → (l.foldl (inkD s) st).1 = []) := by
 induction l with
 | nil => intro st h; exact h
 | cons d r ih =>
  intro st h
  refine ih (inkD s st d) fun k => ?_
  unfold inkD at k ⊢
  split
  ·rename_i g
   rw [if_pos g] at k
   exact h k
  ·rename_i g
   rw [if_neg g] at k
   exact pst_errR _ _ _ k
theorem inkF_errR (s : Stk) (l : List Db) (ls : List TA) (h : (inkF s l ls).2 ≠ 0) : (inkF s l ls).1 = [] := ink_errR s l (ls, 0) (fun k => absurd rfl k) h
theorem paint_valid {s : Stk} (hc : s.col.ok) {ls : List TA} (k : TokL ls) : validL (paintS s ls).1 = true ∧ TokL (paintS s ls).1 := by
 unfold paintS
 split
 ·exact inkF_valid hc _ (fineL_valid ls) (fineL_tok k)
 ·exact ⟨validL_nil, TokL.nil⟩
/-! ### A pixel -/
def inkX (s : Stk) (x y : Int) (p : Px) (d : Db) : Px := if skD d = false ∧ hasR (sqC d) x y = true then cleanP (inkP s (covD d x y) p) else p
theorem ink_get {s : Stk} {d : Db} {ls : List TA} (ok : okD d) (hk : skD d = false) (hv : validL ls = true) (he : pstE (sqC d) (inkL s d ls) ls = 0) (x y : Int) : getL (pstR (sqC d) (inkL s d ls) ls) x y = inkX s x y (getL ls x y) d := by
 obtain ⟨hE, hF⟩ := sq_fits ok hk
 obtain ⟨e1, e2⟩ := pst_valid hE (inkL_len s d ls) hv
 rw [e1] at he
 rw [e2, manyE_zero he, getL_pst hF _ (validL_srt hv) (valid_clean hv)]
 unfold inkX
 by_cases hh : hasR (sqC d) x y = true
 ·rw [if_pos hh, if_pos ⟨hk, hh⟩]
  unfold inkL
  rw [pix_paint hF _ hh]
 ·rw [if_neg hh, if_neg (fun k => hh k.2)]
theorem inkF_get {s : Stk} (hc : s.col.ok) (x y : Int) : ∀ (l : List Db) (ls : List TA), (∀ d ∈ l, okD d) → validL ls = true → TokL ls → (inkF s l ls).2 = 0 → getL (inkF s l ls).1 x y = l.foldl (inkX s x y) (getL ls x y)
 | [], ls, _, _, _, _ => rfl
 | d :: r, ls, ok, hv, ht, he => by
  have e0 : inkF s (d :: r) ls = r.foldl (inkD s) (inkD s (ls, 0) d) := rfl
  rw [e0] at he ⊢
  show getL _ x y = r.foldl (inkX s x y) (inkX s x y (getL ls x y) d)
  by_cases hz : (inkD s (ls, 0) d).2 = 0
  ·have e1 : r.foldl (inkD s) (inkD s (ls, 0) d) = inkF s r (inkD s (ls, 0) d).1 := by
    unfold inkF
    congr 1
    exact Prod.ext rfl hz
   rw [e1] at he ⊢
   rw [inkF_get hc x y r _ (fun e h => ok e (List.mem_cons_of_mem _ h)) (inkD_valid s (st := (ls, 0)) hv d) (inkD_tok hc (st := (ls, 0)) ht d) he]
   congr 1
   cases hk : skD d with
   | true =>
    rw [inkD_skip s _ hk]
    unfold inkX
    rw [if_neg (by rw [hk]; simp)]
   | false =>
    rw [inkD_go s hk] at hz ⊢
    exact ink_get (ok d (List.mem_cons_self ..)) hk hv hz x y
  ·rw [ink_err s r hz] at he
   exact absurd he hz
/-! ### Few tiles -/
theorem pst1_mem {c : Rc} {L : List Px} {ls : List TA} {p : Int × Int} {e : TA} (h : e ∈ pst1 c L ls p) : e ∈ ls ∨ posA e = p := by
 rcases putL_mem h with h | ⟨rfl, _⟩
 ·exact .inl h
 ·exact .inr rfl
theorem pstL_mem {c : Rc} {L : List Px} : ∀ (ps : List (Int × Int)) (ls : List TA) {e : TA}, e ∈ pstL c L ls ps → e ∈ ls ∨ posA e ∈ ps
 | [], ls, e, h => .inl h
 | p :: r, ls, e, h => by
  rw [pstL_cons] at h
  rcases pstL_mem r _ h with h | h
  ·rcases pst1_mem h with h | h
   ·exact .inl h
   ·exact .inr (h ▸ List.mem_cons_self ..)
  ·exact .inr (List.mem_cons_of_mem _ h)
/-- A raster whose tiles lie in R. -/
def BoxA (R : Rc) (ls : List TA) : Prop := ∀ e ∈ ls, hasR R e.x e.y = true
def BoxD (R : Rc) (d : Db) : Prop := skD d = false → ∀ x y, hasR (tlR (sqC d)) x y = true → hasR R x y = true
theorem inkD_box {s : Stk} {R : Rc} (hR : Fits R) (hN : areaN R ≤ 1024) {ls : List TA} {d : Db} (ok : okD d) (hv : validL ls = true) (hb : BoxA R ls) (hd : BoxD R d) : (inkD s (ls, 0) d).2 = 0 ∧ BoxA R (inkD s (ls, 0) d).1 := by
 cases hk : skD d with
 | true => rw [inkD_skip s _ hk]; exact ⟨rfl, hb⟩
 | false =>
  rw [inkD_go s hk]
  obtain ⟨hE, hF⟩ := sq_fits ok hk
  obtain ⟨e1, e2⟩ := pst_valid hE (inkL_len s d ls) hv
  have hbx : BoxA R (pstL (sqC d) (inkL s d ls) ls (posL (sqC d))) := fun e he => by
   rcases pstL_mem _ _ he with h | h
   ·exact hb e h
   ·exact hd hk _ _ ((posL_mem hF).1 h)
  have hl := srt_len hR (pstL_srt (sqC d) (inkL s d ls) (posL (sqC d)) ls (validL_srt hv)) hbx
  obtain ⟨m1, m2⟩ := manyE_small (Nat.le_trans hl hN)
  simp only [e1, e2, m1, m2]
  exact ⟨trivial, hbx⟩
theorem inkF_box {s : Stk} {R : Rc} (hR : Fits R) (hN : areaN R ≤ 1024) : ∀ (l : List Db) (ls : List TA), (∀ d ∈ l, okD d) → (∀ d ∈ l, BoxD R d) → validL ls = true → BoxA R ls → (inkF s l ls).2 = 0 ∧ BoxA R (inkF s l ls).1
 | [], ls, _, _, _, hb => ⟨rfl, hb⟩
 | d :: r, ls, ok, hd, hv, hb => by
  obtain ⟨h1, h2⟩ := inkD_box (s := s) hR hN (ok d (List.mem_cons_self ..)) hv hb (hd d (List.mem_cons_self ..))
  have e1 : inkF s (d :: r) ls = inkF s r (inkD s (ls, 0) d).1 := by
   show r.foldl (inkD s) (inkD s (ls, 0) d) = r.foldl (inkD s) ((inkD s (ls, 0) d).1, 0)
   congr 1
   exact Prod.ext rfl h1
  rw [e1]
  exact inkF_box hR hN r _ (fun e h => ok e (List.mem_cons_of_mem _ h)) (fun e h => hd e (List.mem_cons_of_mem _ h)) (inkD_valid s (st := (ls, 0)) hv d) h2
/-! ### The area -/
/- Plain: a stroke divided at a point, a stroke shifted. -/
theorem pAt_take (l : List Sp) {n i : Nat} (h : i < n) : pAt (l.take n) i = pAt l i := by
 unfold pAt
 rw [List.getD_eq_getElem?_getD, List.getD_eq_getElem?_getD, List.getElem?_take_of_lt h]
theorem preI_take (l : List Sp) (n : Nat) : ∀ k, k < n → preI (l.take n) k = preI l k
 | 0, _ => rfl
 | k + 1, h => by
  show preI (l.take n) k + lenI (pAt (l.take n) k) (pAt (l.take n) (k + 1)) = preI l k + lenI (pAt l k) (pAt l (k + 1))
  rw [preI_take l n k (by omega), pAt_take l (by omega), pAt_take l h]
/-- The phase behind the point. -/
def phaB (s : Stk) (at_ : Nat) : Int :=
 if s.pha - totI (s.pts.take (at_ + 1)) < 0 then s.pha - totI (s.pts.take (at_ + 1)) + (s.spa - 1 - (s.pha - totI (s.pts.take (at_ + 1)))) / s.spa * s.spa
 else s.pha - totI (s.pts.take (at_ + 1))
def spA (s : Stk) (at_ : Nat) : Stk := { s with pts := s.pts.take (at_ + 1) }
def spB (s : Stk) (at_ : Nat) : Stk := { s with pts := s.pts.drop at_, pha := phaB s at_ }
section
variable {s : Stk} {at_ : Nat}
theorem tot_take (ha : at_ < s.pts.length) : totI (s.pts.take (at_ + 1)) = preI s.pts at_ := by
 unfold totI
 rw [List.length_take, show min (at_ + 1) s.pts.length - 1 = at_ by omega]
 exact preI_take _ _ _ (by omega)
end
/-! ### Shifted -/
def shP (X Y : Int) (a : Sp) : Sp := ⟨a.x + 16 * X, a.y + 16 * Y, a.p⟩
def shS (X Y : Int) (s : Stk) : Stk := { s with pts := s.pts.map (shP X Y) }
def shD (X Y : Int) (d : Db) : Db := ⟨d.x + 16 * X, d.y + 16 * Y, d.r⟩
section
variable {s : Stk} {X Y : Int}
theorem sh_len : (shS X Y s).pts.length = s.pts.length := List.length_map _
theorem pAt_sh {i : Nat} (h : i < s.pts.length) : pAt (shS X Y s).pts i = shP X Y (pAt s.pts i) := by
 show pAt (s.pts.map (shP X Y)) i = _
 unfold pAt
 rw [List.getD_eq_getElem?_getD, List.getElem?_map, List.getElem?_eq_getElem h, List.getD_eq_getElem?_getD, List.getElem?_eq_getElem h]
 rfl
theorem len_sh (a b : Sp) : lenI (shP X Y a) (shP X Y b) = lenI a b := by
 unfold lenI nrm2 shP
 simp only
 rw [show b.x + 16 * X - (a.x + 16 * X) = b.x - a.x by omega, show b.y + 16 * Y - (a.y + 16 * Y) = b.y - a.y by omega]
theorem pre_sh : ∀ k, k < s.pts.length → preI (shS X Y s).pts k = preI s.pts k
 | 0, _ => rfl
 | k + 1, h => by
  show preI (shS X Y s).pts k + lenI (pAt (shS X Y s).pts k) (pAt (shS X Y s).pts (k + 1)) = preI s.pts k + lenI (pAt s.pts k) (pAt s.pts (k + 1))
  rw [pre_sh k (by omega), pAt_sh (by omega), pAt_sh h, len_sh]
theorem tot_sh (h : 1 ≤ s.pts.length) : totI (shS X Y s).pts = totI s.pts := by
 unfold totI
 rw [sh_len]
 exact pre_sh _ (by omega)
theorem sh_ok (h : VSk s) (hok : ∀ a ∈ s.pts, okS (shP X Y a)) : VSk (shS X Y s) :=
 ⟨by rw [sh_len]; exact h.l1, by rw [sh_len]; exact h.l2, h.r1, h.r2, h.s1, h.s2, h.p1, h.p2, fun a k => by
  obtain ⟨b, hb, rfl⟩ := List.mem_map.1 k
  exact hok b hb, by rw [tot_sh h.l1]; exact h.fit⟩
theorem cnt_sh (h : VSk s) : cntS (shS X Y s) = cntS s := by
 unfold cntS
 rw [sh_len, tot_sh h.l1]
 rfl
theorem dabE_sh (a b : Sp) (e l : Int) : dabE (shS X Y s) (shP X Y a) (shP X Y b) e l = shD X Y (dabE s a b e l) := by
 unfold dabE dabA shD shP
 simp only
 rw [show b.x + 16 * X - (a.x + 16 * X) = b.x - a.x by omega, show b.y + 16 * Y - (a.y + 16 * Y) = b.y - a.y by omega]
 congr 1 <;> omega
theorem dab_sh (h : VSk s) {k : Nat} (hk : k < cntS s) : dabK (shS X Y s) k = shD X Y (dabK s k) := by
 by_cases hn : s.pts.length = 1
 ·unfold dabK
  rw [sh_len, if_pos hn, if_pos hn, pAt_sh (by omega)]
  rfl
 ·obtain ⟨j, j1, j2, j3, e⟩ := dab_loc h hn hk
  have p1 := pre_sh (s := s) (X := X) (Y := Y) j (by omega)
  have p2 := pre_sh (s := s) (X := X) (Y := Y) (j + 1) j1
  have := dabK_at (s := shS X Y s) (k := k) (j := j) (by rw [sh_len]; exact hn) (by rw [sh_len]; omega) (by rw [p1]; exact j2) (by rw [p2]; exact j3)
  rw [this, e, pAt_sh (by omega), pAt_sh j1, p1, len_sh, dabE_sh]
  rfl
theorem dabs_sh (h : VSk s) : dabsF (shS X Y s) = (dabsF s).map (shD X Y) := by
 unfold dabsF
 rw [cnt_sh h, List.map_map]
 exact List.map_congr_left fun k hk => dab_sh h (List.mem_range.1 hk)
theorem hit_sh (d : Db) (x y : Int) (i j : Nat) : hitS (shD X Y d) (x + X) (y + Y) i j = hitS d x y i j := by
 unfold hitS shD
 simp only
 rw [show 16 * (x + X) + dx4 i - (d.x + 16 * X) = 16 * x + dx4 i - d.x by omega, show 16 * (y + Y) + dx4 j - (d.y + 16 * Y) = 16 * y + dx4 j - d.y by omega]
theorem smp_sh (d : Db) (x y : Int) (σ : Nat → Nat × Nat) : ∀ k, smpK (shD X Y d) (x + X) (y + Y) σ k = smpK d x y σ k
 | 0 => rfl
 | k + 1 => by
  show smpK (shD X Y d) (x + X) (y + Y) σ k + _ = smpK d x y σ k + _
  rw [smp_sh d x y σ k, hit_sh]
theorem cov_sh {d : Db} (h1 : okD d) (h2 : okD (shD X Y d)) (x y : Int) : covD (shD X Y d) (x + X) (y + Y) = covD d x y := by
 have key : ∀ {e : Db}, okD e → okDB e = decide (1 ≤ e.r) := fun {e} h => by
  obtain ⟨a1, a2, a3, a4, a5, a6⟩ := h
  unfold okDB inB
  rw [decide_eq_true (show -1048576 ≤ e.x ∧ e.x ≤ 1048575 by omega), decide_eq_true (show -1048576 ≤ e.y ∧ e.y ≤ 1048575 by omega), Bool.and_true, Bool.and_true]
  rw [Bool.eq_iff_iff, decide_eq_true_iff, decide_eq_true_iff]
  omega
 unfold covD
 rw [key h1, key h2]
 have : smpP (shD X Y d) (x + X) (y + Y) = smpP d x y := smp_sh d x y _ 16
 rw [this]
 rfl
theorem sqr_sh (d : Db) : sqrD (shD X Y d) = ⟨(sqrD d).x0 + X, (sqrD d).y0 + Y, (sqrD d).x1 + X, (sqrD d).y1 + Y⟩ := by
 unfold sqrD shD
 simp only
 congr 1 <;> omega
/-- A pixel of a shifted dab, away from the limits. -/
theorem inkX_sh {d : Db} (h1 : okD d) (h2 : okD (shD X Y d)) (x y : Int) (hx : -65536 ≤ x ∧ x < 65536 ∧ -65536 ≤ y ∧ y < 65536) (hX : -65536 ≤ x + X ∧ x + X < 65536 ∧ -65536 ≤ y + Y ∧ y + Y < 65536) (p : Px) : inkX (shS X Y s) (x + X) (y + Y) p (shD X Y d) = inkX s x y p d := by
 have hin : ∀ {e : Db} {u v : Int}, (-65536 ≤ u ∧ u < 65536 ∧ -65536 ≤ v ∧ v < 65536) → hasR (sqC e) u v = hasR (sqrD e) u v := fun {e u v} h => by
  unfold sqC
  rw [hasR_inter, show hasR limC u v = true from decide_eq_true (by unfold limC; simp only; omega), Bool.and_true]
 have hsk : ∀ {e : Db} {u v : Int}, hasR (sqC e) u v = true → emptyR (sqC e) = false := fun {e u v} h => by
  rw [emptyR_not]
  have := (hasR_iff _ _ _).1 h
  omega
 have hh : hasR (sqC (shD X Y d)) (x + X) (y + Y) = hasR (sqC d) x y := by
  rw [hin hX, hin hx, sqr_sh, Bool.eq_iff_iff, hasR_iff, hasR_iff]
  simp only
  omega
 unfold inkX
 rw [hh, cov_sh h1 h2]
 by_cases hq : hasR (sqC d) x y = true
 ·have e1 : skD (shD X Y d) = skD d := by
   unfold skD
   rw [hsk hq, hsk (hh.trans hq)]
   rfl
  rw [e1]
  rfl
 ·rw [if_neg (fun k => hq k.2), if_neg (fun k => hq k.2)]
end
/- Plain: coverage by a disk, a straight stroke, erasing. -/
/-! ### Disk -/
/-- A stroke of one point: its area. -/
def oneS (x y r : Int) : Stk := ⟨[⟨x, y, 255⟩], r, 1, Px.zero, false, 0⟩
/-! ### A straight stroke -/
def strS (n r a p q c : Int) : Stk := ⟨[⟨0, 0, q⟩, ⟨n, 0, c⟩], r, a, Px.zero, false, p⟩
section
variable {n r a p q c : Int}
end
/-! ### Erasing -/
/-- What erasing keeps. -/
def Less (a b : Px) : Prop := b.a ≤ a.a ∧ (b.a = 0 ∨ (b.r = a.r ∧ b.g = a.g ∧ b.b = a.b))
theorem Less.refl (a : Px) : Less a a := ⟨Int.le_refl _, .inr ⟨rfl, rfl, rfl⟩⟩
theorem Less.trans {a b c : Px} (h0 : 0 ≤ c.a) (h : Less a b) (k : Less b c) : Less a c := by
 refine ⟨Int.le_trans k.1 h.1, ?_⟩
 rcases k.2 with k2 | ⟨k2, k3, k4⟩
 ·exact .inl k2
 ·rcases h.2 with h2 | ⟨h2, h3, h4⟩
  ·have := k.1
   exact .inl (by omega)
  ·exact .inr ⟨by omega, by omega, by omega⟩
end Go.Proofs.YtepelndbbhdofaaGreatDoor
/- Contract of the reference's Same at equal images. -/
namespace Go.Proofs.YtepelndbbhdofaaGreatDoor
open Go.RowKit Go.Shelf Pl
set_option linter.unusedVariables false
set_option linter.unusedSimpArgs false
set_option maxRecDepth 20000
/- Contract of the reference's Image. -/
def shC (c : Rc) (u : Value) (n : Int) : Array Value := #[.int .i64 c.x0, .int .i64 c.y0, .int .i64 c.x1, .int .i64 c.y1, u, .int .i64 n]
section
variable {o : Oper} {a : Act} {C : World → Prop} {K : Act → Prop}
end
theorem px_row {c : Rc} (hf : Fits c) {k j : Nat} (hj : j < widN c) : pxX c (widN c * k + j) = c.x0 + (j : Int) ∧ pxY c (widN c * k + j) = c.y0 + (k : Int) := by
 have hw := (area_wid hf).2
 unfold pxX pxY
 rw [Nat.mul_add_mod, Nat.mod_eq_of_lt hj, Nat.mul_add_div hw, Nat.div_eq_of_lt hj, Nat.add_zero]
 exact ⟨rfl, rfl⟩
theorem OwnE.chgB {α : Type} {k : Nat} {T S : TypeId} {E : Elt α k T S} {B b : Nat} {v : Value} {ls : List α} {w w' : World} (h : OwnE E B v ls w) (hc : Chg b w w') (hne : ∀ k, v.ownBlock = some k → k ≠ b) : OwnE E B v ls w' := by
 refine World.ownsRow.kept (row := some b) h ⟨hc.os, hc.tape, hc.output, hc.size, fun k hk hn => hc.block k hk (fun e => hn (by rw [e]))⟩ ?_
 cases hv : v.ownBlock with
 | none => exact .inl rfl
 | some k =>
  right
  intro e
  injection e with e
  exact hne k hv e
/- The positions of a rectangle's tiles: the reference's Tiles. -/
def psE : Elt (Int × Int) 2 95 90 where
 enc := fun p => #[.int .i64 p.1, .int .i64 p.2]
 bytes := 16
 zero := (0, 0)
 size := fun _ => rfl
 one := fun x u hu => by
  have : u ∈ [Value.int .i64 x.1, .int .i64 x.2] := hu
  simp at this
  rcases this with rfl | rfl <;> rfl
 pos := by omega
 small := by omega
 und := Tryz.underlying90
 info := by kernel_rfl
 zer := by kernel_rfl
theorem tl_row {c : Rc} (hf : Fits c) {k j : Nat} (hj : j < widN (tlR c)) : posP c (widN (tlR c) * k + j) = (c.x0 / 8 + (j : Int), c.y0 / 8 + (k : Int)) := by
 obtain ⟨h1, h2⟩ := px_row (tl_fits hf) (k := k) hj
 unfold posP
 rw [h1, h2]
 rfl
end Go.Proofs.YtepelndbbhdofaaGreatDoor
/- Regions within a round of a range over a function: walked as anywhere. What a loop's body keeps. -/
namespace Go.Proofs.YtepelndbbhdofaaGreatDoor
open Go.RowKit
set_option linter.unusedVariables false
set_option linter.unusedSimpArgs false
/-- The walk goes on, and in no other way. -/
def Only (K : Act → World → Prop) : Exit → Act → World → Prop
 | .normal, a, w => K a w
 | _, _, _ => False
theorem Only.out (K : Act → World → Prop) : ¬ LetsOut (Only K) := fun ⟨_, _, h⟩ => h
theorem Only.at {K : Act → World → Prop} {a : Act} {w : World} (h : K a w) : Only K .normal a w := h
def noDefer (l : List Oper) : Bool := l.all fun o => match o.op with
 | .defer _ => false
 | _ => true
theorem noDefer_at {l : List Oper} (h : noDefer l = true) {o : Oper} (ho : o ∈ l) : ∀ c, o.op ≠ .defer c := fun c e => by
 have := List.all_eq_true.1 h o ho
 rw [e] at this
 cases this
section
variable {P : Program} {r n : Nat}
theorem opIn_of {o : Oper} {a : Act} {w : World} {K K' : Act → World → Prop} {M : Act → World → Prop} {Q : Exit → Act → World → Prop} (hd : ∀ c, o.op ≠ .defer c) (hK : ∀ a w, K' a w → K a w) (h : o.wp P a w K' (Only M)) : o.wpIn (Fence.wide.inRound r) n P a w K Q := by
 refine ⟨fun _ _ => trivial, ?_⟩
 rw [Oper.semAt_eq _ _ _ hd]
 unfold Oper.wp at h
 generalize (execOp a.eval o).run P w = z at *
 cases z with
 | ok x w' =>
  cases x with
  | value v => exact hK _ _ h
  | skip => exact hK _ _ h
  | defer d => exact hK _ _ h
  | enter f args =>
   refine ⟨fun h => (by cases h), CallsIn.inRound r (callsIn_wide.2 (Calls.mono h fun e w'' he => ?_))⟩
   cases e with
   | returned v => exact hK _ _ he
   | panicked c => exact he.elim
   | outgrown => exact absurd he (Only.out M)
  | row s args =>
   refine ⟨fun h => (by cases h), fun c cs _ => ?_⟩
   obtain ⟨v, w'', h1, h2⟩ := h c cs
   exact ⟨v, w'', hK _ _ h1, stepsIn_wide.2 h2⟩
  | _ => exact absurd h (by simp [Oper.upon])
 | halt x w' =>
  cases x with
  | panic v => exact absurd h (by simp [Oper.upon, Only])
  | _ => exact absurd h (by simp [Oper.upon])
theorem wpListIn_of {ops : Array Oper} {K : Act → World → Prop} {Q : Exit → Act → World → Prop} (hK : ∀ a w, K a w → Q .normal a w) : ∀ (l : List Oper) (a : Act) (w : World), (∀ o ∈ l, ∀ c, o.op ≠ .defer c) → wpList P ops (Only K) l a w → wpListIn (Fence.wide.inRound r) n P ops Q l a w
 | [], a, w, _, h => hK _ _ h
 | o :: rest, a, w, hd, h => by
  unfold wpList at h
  unfold wpListIn
  have ih := wpListIn_of (ops := ops) hK rest
  by_cases hw : Region.wanted o (yielded ops a.tmps) = true
  ·rw [if_pos hw] at h ⊢
   rcases h with h | h
   ·exact opIn_of (hd o (List.mem_cons_self ..)) (fun a w hh => ih a w (fun o ho => hd o (List.mem_cons_of_mem _ ho)) hh) h
   ·exact absurd h.2 (Only.out K)
  ·rw [if_neg hw] at h ⊢
   exact ⟨fun _ _ => trivial, ih _ _ (fun o ho => hd o (List.mem_cons_of_mem _ ho)) h⟩
/-- A region within a round. -/
theorem round_lit {id : Nat} {l : List Oper} {Q : Exit → Act → World → Prop} {a : Act} {w : World} (hd : noDefer l = true) (h : wpList P l.toArray (Only fun a w => Q .normal a w) l a w) : (Code.region id l.toArray false).wpIn (Fence.wide.inRound r) n P Q a w :=
 wpIn_region_lit (wpListIn_of (fun _ _ h => h) l a w (fun o ho => noDefer_at hd ho) h)
theorem wpOpIn_of {ops : Array Oper} {K K' M : Act → World → Prop} {Q : Exit → Act → World → Prop} (hd : ∀ o ∈ ops.toList, ∀ c, o.op ≠ .defer c) (hK : ∀ a w, K' a w → K a w) {i : Nat} {a : Act} {w : World} (h : wpOp P ops (Only M) i K' a w) : wpOpIn (Fence.wide.inRound r) n P ops Q i K a w := by
 unfold wpOp at h
 unfold wpOpIn
 cases ho : ops[i]? with
 | none => rw [ho] at h; exact hK _ _ h
 | some o =>
  rw [ho] at h
  simp only at h ⊢
  by_cases hw : Region.wanted o (yielded ops a.tmps) = true
  ·rw [if_pos hw] at h ⊢
   rcases h with h | h
   ·exact opIn_of (hd o (by rw [Array.mem_toList_iff]; exact Array.mem_of_getElem? ho)) hK h
   ·exact absurd h.2 (Only.out M)
  ·rw [if_neg hw] at h ⊢
   exact ⟨fun _ _ => trivial, hK _ _ h⟩
theorem wpAnyIn_of {ops : Array Oper} {md : Region.Mode} {K : Act → World → Prop} {Q : Exit → Act → World → Prop} (hd : ∀ o ∈ ops.toList, ∀ c, o.op ≠ .defer c) (hK : ∀ a w, K a w → Q .normal a w) : ∀ (f : Nat) (done : Array Bool) (a : Act) (w : World), wpAny P md ops (Only K) f done a w → wpAnyIn (Fence.wide.inRound r) n P md ops Q f done a w
 | 0, _, _, _, h => ⟨h.1, hK _ _ h.2⟩
 | f + 1, done, a, w, h => ⟨fun h0 => hK _ _ (h.1 h0), fun i hi => wpOpIn_of hd (fun a w hh => wpAnyIn_of hd hK f _ a w hh) (h.2 i hi)⟩
/-- A region that draws its order, within a round. -/
theorem round_any {id : Nat} {l : List Oper} {Q : Exit → Act → World → Prop} {a : Act} {w : World} (hm : P.follows .mixedOrders = true) (hd : noDefer l = true) (h : wpAny P .any l.toArray (Only fun a w => Q .normal a w) l.toArray.size (Array.replicate l.toArray.size false) a w.drew) : (Code.region id l.toArray true).wpIn (Fence.wide.inRound r) n P Q a w :=
 wpIn_region_any hm (wpAnyIn_of (fun o ho => noDefer_at hd (by simpa using ho)) (fun _ _ h => h) _ _ _ _ h)
end
/-! ### What a body keeps that turns one block b of cells -/
structure KpB (b : Nat) (W W' : World) : Prop where
 size : W.heap.size ≤ W'.heap.size
 same : ∀ (k : Nat) (o : Obj), k ≠ b → W.heap[k]? = some o → o.isCells = true → W'.heap[k]? = some o
theorem KpB.trans {b : Nat} {X Y Z : World} (h : KpB b X Y) (k : KpB b Y Z) : KpB b X Z := ⟨Nat.le_trans h.size k.size, fun i o hi ho hc => k.same i o hi (h.same i o hi ho hc) hc⟩
theorem KpB.refl (b : Nat) (W : World) : KpB b W W := ⟨Nat.le_refl _, fun _ _ _ h _ => h⟩
theorem KpB.putObj (b : Nat) {W : World} {l : Nat} {o : Obj} (o' : Obj) (hl : W.heap[l]? = some o) (ho : o.isCells = false) : KpB b W (W.putObj l o') :=
 ⟨by simp [World.putObj], fun k x hk hx hc => by
  have : k ≠ l := fun e => by rw [e, hl] at hx; cases hx; rw [ho] at hc; cases hc
  exact (World.putObj_heap_other (by omega)).trans hx⟩
theorem KpB.chg {b : Nat} {W W' : World} (h : Chg b W W') : KpB b W W' :=
 ⟨h.size, fun k o hk ho _ => (h.block k (Array.getElem?_eq_some_iff.1 ho).1 hk).trans ho⟩
theorem KpB.atB {b k : Nat} {t : TypeId} {cs : Array Value} {W W' : World} (h : KpB b W W') (hk : k ≠ b) (ha : AtB t W k cs) : AtB t W' k cs := h.same k _ hk ha rfl
theorem KeepsFrom.chg {B b : Nat} {W W' : World} (h : Chg b W W') (hb : b < B) : KeepsFrom B W W' :=
 ⟨h.size, fun k o hB hk _ => (h.block k (Array.getElem?_eq_some_iff.1 hk).1 (by omega)).trans hk⟩
theorem grown_of_below {W W' : World} (h : Below W.heap.size W W') : W.grownBy W' none :=
 ⟨h.os, h.tape, h.output, h.size, fun k hk _ => h.block k hk⟩
theorem AbidesFrom.below {β : Type} {B : Nat} {J : β → World → Prop} (h : AbidesFrom B J) {s : β} {W W' : World} (hs : J s W) (hb : Below W.heap.size W W') : J s W' :=
 h s W W' none hs (grown_of_below hb) (fun r e => by cases e)
/-! ### Facts of cells abide the turn of what is no cells -/
theorem AtB.own {t : TypeId} {A B : World} {b : Nat} {cs : Array Value} {row : Option Nat} (h : AtB t A b cs) (hg : A.grownBy B row) (hr : ∀ r, row = some r → ∃ o : Obj, A.heap[r]? = some o ∧ o.isCells = false) : AtB t B b cs :=
 (hg.block b h.lt (fun e => by
  obtain ⟨o, ho, hc⟩ := hr b e.symm
  rw [show A.heap[b]? = _ from h] at ho
  cases ho
  cases hc)).trans h
theorem cell_not {w : World} {g o : Nat} {v : Value} (h : w.cell? ⟨g, o, none⟩ = some v) : ∀ x : Obj, w.heap[g]? = some x → x.isCells = true := fun x hx => by
 unfold World.cell? at h
 simp only [hx] at h
 cases x <;> first | rfl | (simp at h)
theorem below_own {n : Nat} {w A B : World} {row : Option Nat} (h : Below n w A) (hn : n ≤ A.heap.size) (hg : A.grownBy B row) (hr : ∀ r, row = some r → n ≤ r) : Below n w B :=
 ⟨hg.os.trans h.os, hg.tape.trans h.tape, hg.output.trans h.output, Nat.le_trans h.size hg.size, fun k hk => (hg.block k (by omega) (fun e => by have := hr k e.symm; omega)).trans (h.block k hk)⟩
end Go.Proofs.YtepelndbbhdofaaGreatDoor
/- Paste of package raster: what it does to one pixel; the iterator over the tiles of a rectangle. -/
namespace Go.Proofs.YtepelndbbhdofaaGreatDoor
open Go.RowKit Go.Shelf Pl
set_option linter.unusedVariables false
set_option linter.unusedSimpArgs false
set_option maxRecDepth 20000
theorem P_EmptyB (r : Rc) (b : Bool) (w : World) (e : emptyR r = b) : Calls Tryz.prog 45 #[.agg (rcA r)] w fun e w' => e = .returned (.bool b) ∧ Below w.heap.size w w' := by
 subst e
 exact P_Empty r w
theorem P_HasO (r : Rc) (x y : Int) (b : Bool) (w : World) (e : hasR r x y = b) : Calls Tryz.prog 25 #[.agg (rcA r), .agg #[.int .i64 x, .int .i64 y]] w fun e w' => e = .returned (.bool b) ∧ Below w.heap.size w w' := by
 subst e
 exact P_Has r x y w
theorem P_AtO (x y : Int) (w : World) (hx : (Lit.int .i64 x).wf = true) (hy : (Lit.int .i64 y).wf = true) : Calls Tryz.prog 81 #[.agg #[.int .i64 x, .int .i64 y]] w fun e w' => e = .returned (.agg #[.int .i64 (x / 8), .int .i64 (y / 8)]) ∧ Below w.heap.size w w' := P_At x y w hx hy
theorem P_CleanB (p : Px) (w : World) (hp : p.ok) : Calls Tryz.prog 123 #[Px.v p] w fun e w' => e = .returned (Px.v (cleanP p)) ∧ Below w.heap.size w w' := P_Clean p w hp
set_option maxHeartbeats 2000000 in
theorem P_Paste1 (c : Rc) (hf : Fits c) (L : List Px) (hL : L.length = areaN c) (okL : OkL L) (x y : Int) (p : Px) (hp : p.ok) (bc bm g o cp : Nat) (w : World) (r0 : AtB 38 w bc (rcA c)) (m0 : AtB 117 w bm (imgC c (.slice (some ⟨g, o, none⟩) (areaN c) cp))) (ce : RCellsE pxE g o L w) :
  Calls Tryz.prog 131 #[.int .i64 x, .int .i64 y, Px.v p, .pointer (some ⟨bc, 0, none⟩), .pointer (some ⟨bm, 0, none⟩)] w fun e w' => e = .returned (Px.v (pstP c L x y p)) ∧ Below w.heap.size w w' := by
 have B := Below.refl w.heap.size w
 have hb1 := r0.lt
 have hb2 := m0.lt
 have hb3 := ce.lt
 have OKL := Lib.hid okL
 cases hh : hasR c x y with
 | true =>
  have e1 := Lib.hid (show pstP c L x y p = cleanP (pixL c L x y) from by unfold pstP; rw [hh]; rfl)
  obtain ⟨m1, m2, m3, m4⟩ := idxI_bd hf hh
  have hix : (idxI c x y).toNat < L.length := by rw [hL]; exact m4
  have hpx : L[(idxI c x y).toNat]? = some (pixL c L x y) := by
   unfold pixL
   rw [List.getD_eq_getElem?_getD, List.getElem?_eq_getElem hix]
   rfl
  have hok := Lib.hid (pixL_ok okL (c := c) x y)
  generalize pixL c L x y = pp at *
  have hh2 := of_decide_eq_true hh
  obtain ⟨g1, g2, g3, g4⟩ := hh2
  obtain ⟨a1, a2, a3, a4, a5, a6, a7, a8⟩ := hf
  have hidx : (y - c.y0) * (c.x1 - c.x0) + x - c.x0 = idxI c x y := rfl
  have m5 : idxI c x y < (areaN c : Int) := by omega
  have m6 : (areaN c : Int) ≤ 65536 := by
   unfold areaN
   have := mul_bd (a := c.x1 - c.x0) (b := c.y1 - c.y0) (m := 256) (k := 256) (by omega) (by omega) (by omega) (by omega)
   omega
  have HH := Lib.hid hh
  clear okL hL hh
  go_enter Tryz.func131, Tryz.ntmps131
  go_upto_region 0 with fail
  refine wp_region_lit ?_
  try simp only [gelS]
  (refine wpList_boxPx' rfl _ rfl _ rfl (alK B ?_); clear B; intro b_q7 wn hle hge q7 hbn hsz hln B; (try have hlt := r0.lt); (try replace r0 := r0.below (hbn.mono hle)); (try have hlt := m0.lt); (try replace m0 := m0.below (hbn.mono hle)); (try have hlt := ce.lt); (try replace ce := ce.below (hbn.mono hle)); simp only [putS])
  (refine wpList_allocPx' rfl rfl (alK B ?_); clear B; intro b_q8 wn hle hge q8 hbn hsz hln B; (try have hlt := r0.lt); (try replace r0 := r0.below (hbn.mono hle)); (try have hlt := m0.lt); (try replace m0 := m0.below (hbn.mono hle)); (try have hlt := ce.lt); (try replace ce := ce.below (hbn.mono hle)); (try have hlt := q7.lt); (try replace q7 := q7.below (hbn.mono hle)); simp only [putS])
  refine wpList_nil ?_
  go_upto_region 1 with fail
  refine wp_region_lit ?_
  try simp only [gelS]
  refine chk 4 ?_
  refine clF (enters_of Tryz.func25 (by kernel_rfl) rfl) (c := P_HasO c x y true _ HH.out) (h := ?_)
  rintro e wn ⟨rfl, hbn⟩
  have hsz := B.size
  have hzn := hbn.size
  replace B := B.trans (hbn.mono B.size)
  (try replace r0 := r0.below hbn)
  (try replace m0 := m0.below hbn)
  (try replace ce := ce.below hbn)
  (try replace q7 := q7.below hbn)
  (try replace q8 := q8.below hbn)
  refine ⟨_, rfl, ?_⟩
  simp only [putS]
  refine wpList_nil ?_
  go_upto_region 2 with fail
  refine wp_region_lit ?_
  try simp only [gelS]
  refine chq 19 ?_
  repeat (first | go_big_quiet_skip | (go_big_quiet_want; first | ((first | refine quiet_loadAny (t := 115) rfl _ _ _ rfl (fun w hw => run_load_slp (imgC_u (ov_B m0 w hw))) (by first | rfl | omega) ?_ | refine quiet_loadAny (t := 28) rfl _ _ _ rfl (fun w hw => rce_px (ov_rce ce w hw) hpx) (by first | rfl | omega) ?_ | refine quiet_loadPx rfl _ rfl (ov_px q7) ?_ | refine qB ?_ | refine qC ?_); simp only [putS]; go_big_quiet_on) | (go_big_quiet_op; go_big_quiet_on)))
  refine wpQuiet_nil ?_
  refine clF (enters_of Tryz.func123 (by kernel_rfl) rfl) (c := P_CleanB pp _ hok.out) (h := ?_)
  rintro e wn ⟨rfl, hbn⟩
  have hsz := B.size
  have hzn := hbn.size
  replace B := B.trans (hbn.mono B.size)
  (try replace r0 := r0.below hbn)
  (try replace ce := ce.below hbn)
  (try replace q7 := q7.below hbn)
  (try replace q8 := q8.below hbn)
  refine ⟨_, rfl, ?_⟩
  simp only [putS]
  (refine wpList_storePx rfl _ _ rfl _ rfl (_) rfl q8 (stK B (by omega) ?_); clear q8 B; intro wn q8 hcn hsz hzn B; (try replace r0 := r0.of_eq (hcn.block _ r0.lt (by omega))); (try replace ce := ce.of_eq (hcn.block _ ce.lt (by omega))); (try replace q7 := q7.of_eq (hcn.block _ q7.lt (by omega))); simp only [putS])
  refine wpList_nil ?_
  go_wp2
  refine bodyPost_ret (results_px rfl _ _ (b_q8) rfl q8) rfl ?_
  exact ⟨by rw [e1.out], B⟩
 | false =>
  have e1 := Lib.hid (show pstP c L x y p = p from by unfold pstP; rw [hh]; rfl)
  have HH := Lib.hid hh
  clear okL hL hh
  go_enter Tryz.func131, Tryz.ntmps131
  go_upto_region 0 with fail
  refine wp_region_lit ?_
  try simp only [gelS]
  (refine wpList_boxPx' rfl _ rfl _ rfl (alK B ?_); clear B; intro b_q7 wn hle hge q7 hbn hsz hln B; (try have hlt := r0.lt); (try replace r0 := r0.below (hbn.mono hle)); (try have hlt := m0.lt); (try have hlt := ce.lt); (try replace ce := ce.below (hbn.mono hle)); (try have hlt := q7.lt); (try replace q7 := q7.below (hbn.mono hle)); (try have hlt := q8.lt); (try replace q8 := q8.below (hbn.mono hle)); simp only [putS])
  (refine wpList_allocPx' rfl rfl (alK B ?_); clear B; intro b_q8 wn hle hge q8 hbn hsz hln B; (try have hlt := r0.lt); (try replace r0 := r0.below (hbn.mono hle)); (try have hlt := m0.lt); (try have hlt := ce.lt); (try replace ce := ce.below (hbn.mono hle)); (try have hlt := q7.lt); (try replace q7 := q7.below (hbn.mono hle)); (try have hlt := q8.lt); (try replace q8 := q8.below (hbn.mono hle)); simp only [putS])
  refine wpList_nil ?_
  go_upto_region 1 with fail
  refine wp_region_lit ?_
  try simp only [gelS]
  refine chk 4 ?_
  refine clF (enters_of Tryz.func25 (by kernel_rfl) rfl) (c := P_HasO c x y false _ HH.out) (h := ?_)
  rintro e wn ⟨rfl, hbn⟩
  have hsz := B.size
  have hzn := hbn.size
  replace B := B.trans (hbn.mono B.size)
  (try replace ce := ce.below hbn)
  (try replace q7 := q7.below hbn)
  (try replace q8 := q8.below hbn)
  refine ⟨_, rfl, ?_⟩
  simp only [putS]
  refine wpList_nil ?_
  go_upto_region 3 with fail
  refine wp_region_lit ?_
  try simp only [gelS]
  refine chq 1 ?_
  repeat (first | go_big_quiet_skip | (go_big_quiet_want; first | ((first | refine quiet_loadAny (t := 28) rfl _ _ _ rfl (fun w hw => rce_px (ov_rce ce w hw) hpx) (by first | rfl | omega) ?_ | refine quiet_loadPx rfl _ rfl (ov_px q7) ?_ | refine qB ?_ | refine qC ?_); simp only [putS]; go_big_quiet_on) | (go_big_quiet_op; go_big_quiet_on)))
  refine wpQuiet_nil ?_
  (refine wpList_storePx rfl _ _ rfl _ rfl (_) rfl q8 (stK B (by omega) ?_); clear q8 B; intro wn q8 hcn hsz hzn B; simp only [putS])
  refine wpList_nil ?_
  go_wp2
  refine bodyPost_ret (results_px rfl _ _ (b_q8) rfl q8) rfl ?_
  exact ⟨by rw [e1.out], B⟩
theorem P_Tiles (c : Rc) (w : World) : Calls Tryz.prog 129 #[.agg (rcA c)] w fun e w' => ∃ b, e = .returned (.func (.func 163) #[] #[.pointer (some ⟨b, 0, none⟩)]) ∧ w.heap.size ≤ b ∧ AtB 38 w' b (rcA c) ∧ Below w.heap.size w w' := by
 have B := Below.refl w.heap.size w
 go_enter Tryz.func129, Tryz.ntmps129
 go_upto_region 0 with fail
 refine wp_region_lit ?_
 try simp only [gelS]
 (refine wpList_boxB (t := 38) rfl _ rfl _ rfl (alK B ?_); clear B; intro b_r1 wn hle hge r1 hbn hsz hln B; simp only [putS])
 refine chk 1 ?_
 refine wpList_nil ?_
 go_wp2
 go_ret
 exact ⟨_, rfl, by omega, r1, B⟩
/- Image of both packages, whether the rectangle fits or not. -/
def imR (c : Rc) : Rc := if fitsE c = 0 then c else Rc.zero
def imLs (c : Rc) (ks : List TA) : List Px := if fitsE c = 0 then imgL c ks else []
end Go.Proofs.YtepelndbbhdofaaGreatDoor
/- Contract of Paste of package raster. -/
namespace Go.Proofs.YtepelndbbhdofaaGreatDoor
open Go.RowKit Go.Shelf Pl
attribute [local go_sem] Oper.semAt_some
set_option linter.unusedVariables false
set_option linter.unusedSimpArgs false
set_option maxRecDepth 20000
theorem run_load_imR {w : World} {b : Nat} {c : Rc} {u : Value} (h : AtB 117 w b (imgC c u)) : (Instr.loadAt 38 (.pointer (some ⟨b, 0, none⟩))).run Tryz.prog w = .ok (.agg (rcA c)) w :=
 run_load_BP (cs' := rcA c) h 0 Tryz.isAgg38 (by kernel_rfl) (fun j hj => by
  have hj : j < 4 := hj
  have hc : j = 0 ∨ j = 1 ∨ j = 2 ∨ j = 3 := by omega
  rcases hc with rfl | rfl | rfl | rfl <;> rfl)
theorem P_ValidRB (r : Rc) (b : Bool) (w : World) (e : validR r = b) : Calls Tryz.prog 128 #[.agg (rcA r)] w fun e w' => e = .returned (.bool b) ∧ Below w.heap.size w w' := e ▸ P_ValidR r w
theorem P_AreaB (r : Rc) (n : Int) (w : World) (h : validR r = true) (e : areaR r = n) : Calls Tryz.prog 125 #[.agg (rcA r)] w fun e w' => e = .returned (.int .i64 n) ∧ Below w.heap.size w w' := e ▸ P_Area r w h
theorem P_fitsB (c : Rc) (n : Int) (w : World) (e : fitsE c = n) : Calls Tryz.prog 124 #[.agg (rcA c)] w fun e w' => e = .returned (.int .i64 n) ∧ Below w.heap.size w w' := e ▸ P_fits c w
set_option maxHeartbeats 4000000 in
theorem P_Paste_inv (v : Value) (ls : List TA) (c : Rc) (ad : Option Addr) (n cp : Nat) (w : World) (h : RS v ls w) (hn : n ≤ maxLen) (hV0 : validR c = false) : Calls Tryz.prog 77 #[.agg #[v], .agg (imgC c (.slice ad n cp))] w fun e w' => e = .returned (.tuple #[.agg #[.slice none 0 0], .int .i64 1]) ∧ Below w.heap.size w w' := by
 have B := Below.refl w.heap.size w
 obtain ⟨a, cpv, rfl, hc⟩ := h.len
 clear h
 go_enter Tryz.func77, Tryz.ntmps77
 go_upto_region 0 with fail
 refine wp_region_lit ?_
 try simp only [gelS]
 (refine wpList_boxB (t := 64) rfl _ rfl _ rfl (alK B ?_); clear B; intro b_r2 wn hle hge r2 hbn hsz hln B; simp only [putS])
 (refine wpList_boxB (t := 117) rfl _ rfl _ rfl (alK B ?_); clear B; intro b_m3 wn hle hge m3 hbn hsz hln B; (try have hlt := r2.lt); (try replace r2 := r2.below (hbn.mono hle)); simp only [putS])
 (refine wpList_allocBk (t := 64) rfl _ (run_alloc_R _ _ rfl) (alK B ?_); clear B; intro b_r4 wn hle hge r4 hbn hsz hln B; (try have hlt := r2.lt); (try replace r2 := r2.below (hbn.mono hle)); (try have hlt := m3.lt); (try replace m3 := m3.below (hbn.mono hle)); simp only [putS])
 refine chk 1 ?_
 refine wpList_nil ?_
 go_upto_region 1 with fail
 refine wp_region_lit ?_
 try simp only [gelS]
 refine chq 2 ?_
 repeat (first | go_big_quiet_skip | (go_big_quiet_want; first | ((first | refine quiet_loadAny (t := 38) rfl _ _ _ rfl (fun w hw => run_load_imR (ov_B m3 w hw)) (by first | rfl | omega) ?_ | refine qB ?_ | refine qC ?_); simp only [putS]; go_big_quiet_on) | (go_big_quiet_op; go_big_quiet_on)))
 refine wpQuiet_nil ?_
 (refine wpList_allocBk (t := 38) rfl _ (run_alloc_Rc _ _ rfl) (alK B ?_); clear B; intro b_c6 wn hle hge c6 hbn hsz hln B; (try have hlt := r2.lt); (try replace r2 := r2.below (hbn.mono hle)); (try have hlt := m3.lt); (try replace m3 := m3.below (hbn.mono hle)); (try have hlt := r4.lt); (try replace r4 := r4.below (hbn.mono hle)); (try have hlt := c6.lt); (try replace c6 := c6.below (hbn.mono hle)); simp only [putS])
 (refine wpList_storeB (t := 38) rfl _ _ rfl _ rfl _ rfl c6 (by kernel_rfl) rfl (by simp [rcA, imgC, Value.oneCell']) (stK B (by omega) ?_); clear c6 B; intro wn c6 hcn hsz hzn B; (try replace r2 := r2.of_eq (hcn.block _ r2.lt (by omega))); (try replace m3 := m3.of_eq (hcn.block _ m3.lt (by omega))); (try replace r4 := r4.of_eq (hcn.block _ r4.lt (by omega))); simp only [putS])
 refine wpList_nil ?_
 replace c6 : AtB 38 _ b_c6 (rcA c) := c6
 go_upto_region 2 with fail
 try simp only [gelS]
 try have lx_r2 := r2.lt
 try have lx_m3 := m3.lt
 try have lx_r4 := r4.lt
 try have lx_c6 := c6.lt
 refine wp_region_RL 11 [(1, detS ?v1_1)] (by kernel_rfl) (by kernel_rfl) (by kernel_rfl) ?_
 rotate_left 1
 simp only [takS, Nat.reduceAdd]
 refine crq 1 ?_
 repeat (first | go_big_quiet_skip | (go_big_quiet_want; first | ((first | refine quiet_loadAny (t := 38) rfl _ _ _ rfl (fun w hw => run_load_imR (ov_B m3 w hw)) (by first | rfl | omega) ?_ | refine qB ?_ | refine qC ?_); simp only [putS]; go_big_quiet_on) | (go_big_quiet_op; go_big_quiet_on)))
 refine wpQuiet_nil ?_
 refine wpRL_callB (by rfl) (by first | rfl | simp [Region.wanted, yielded]) ?_ ?_
 ·intro wn hbn hE Kx hKx
  have hsz := B.size
  have hzn := hbn.size
  replace B := B.trans (hbn.mono B.size)
  (try replace m3 := m3.below hbn)
  (try replace r4 := r4.below hbn)
  (try replace c6 := c6.below hbn)
  refine wp_callF rfl (enters_of Tryz.func128 (by kernel_rfl) rfl) (by simp only [Act.eval, evlS]; rfl) ?_
  refine (P_ValidRB c false _ hV0).mono ?_
  rintro e wm ⟨rfl, hbm⟩
  refine ⟨_, rfl, ?_⟩
  have hz := hKx () wm trivial hbm
  dsimp only [detS] at hz
  exact hz
 rintro ⟨⟩
 dsimp only [detS]
 simp only [putS]
 refine crq 4 ?_
 repeat (first | go_big_quiet_skip | (go_big_quiet_want; first | ((first | refine quiet_loadAny (t := 115) rfl _ _ _ rfl (fun w hw => run_load_slp (imgC_u (ov_B m3 w hw))) (by first | rfl | omega) ?_ | refine qB ?_ | refine qC ?_); simp only [putS]; go_big_quiet_on) | (go_big_quiet_op; go_big_quiet_on)))
 refine wpQuiet_nil ?_
 refine wpRL_skip ?hw1_6 ?_
 case hw1_6 => kernel_rfl
 simp only [putS]
 refine crq 1 ?_
 repeat (first | go_big_quiet_skip | (go_big_quiet_want; first | ((first | refine quiet_loadAny (t := 38) rfl _ _ _ rfl (fun w hw => run_load_imR (ov_B m3 w hw)) (by first | rfl | omega) ?_ | refine qB ?_ | refine qC ?_); simp only [putS]; go_big_quiet_on) | (go_big_quiet_op; go_big_quiet_on)))
 refine wpQuiet_nil ?_
 refine wpRL_skip ?hw1_8 ?_
 case hw1_8 => kernel_rfl
 simp only [putS]
 refine crk 2 ?_
 refine wpRL_nil ?_
 intro wn hbn hE
 have hsz := B.size
 have hzn := hbn.size
 replace B := B.trans (hbn.mono B.size)
 (try replace r4 := r4.below hbn)
 clear hE
 try simp only [List.drop_succ_cons, List.drop_zero]
 refine NoPan.normal ?_
 go_upto_region 3 with fail
 refine wp_region_lit ?_
 try simp only [gelS]
 refine chk 1 ?_
 (refine wpList_storeB (t := 64) rfl _ _ rfl _ rfl _ rfl r4 (by kernel_rfl) rfl (by simp [rcA, imgC, Value.oneCell']) (stK B (by omega) ?_); clear r4 B; intro wn r4 hcn hsz hzn B; simp only [putS])
 refine chk 1 ?_
 refine wpList_nil ?_
 go_wp2
 refine bodyPost_ret (results_B2 (t := 64) rfl _ _ (b_r4) rfl _ rfl r4 Tryz.isAgg64 (by kernel_rfl)) rfl ?_
 exact ⟨rfl, B⟩
set_option maxHeartbeats 4000000 in
theorem P_Paste_len (v : Value) (ls : List TA) (c : Rc) (ad : Option Addr) (n cp : Nat) (w : World) (h : RS v ls w) (hn : n ≤ maxLen) (hV0 : validR c = true) (A : Int) (hA : areaR c = A) (hlen : ¬ (n : Int) = A) : Calls Tryz.prog 77 #[.agg #[v], .agg (imgC c (.slice ad n cp))] w fun e w' => e = .returned (.tuple #[.agg #[.slice none 0 0], .int .i64 1]) ∧ Below w.heap.size w w' := by
 have B := Below.refl w.heap.size w
 obtain ⟨a, cpv, rfl, hc⟩ := h.len
 have d1 : ((n : Int) != A) = true := by simpa using hlen
 have HA := Lib.hid hA
 clear h hA
 go_enter Tryz.func77, Tryz.ntmps77
 go_upto_region 0 with fail
 refine wp_region_lit ?_
 try simp only [gelS]
 (refine wpList_boxB (t := 64) rfl _ rfl _ rfl (alK B ?_); clear B; intro b_r2 wn hle hge r2 hbn hsz hln B; simp only [putS])
 (refine wpList_boxB (t := 117) rfl _ rfl _ rfl (alK B ?_); clear B; intro b_m3 wn hle hge m3 hbn hsz hln B; (try have hlt := r2.lt); (try replace r2 := r2.below (hbn.mono hle)); simp only [putS])
 (refine wpList_allocBk (t := 64) rfl _ (run_alloc_R _ _ rfl) (alK B ?_); clear B; intro b_r4 wn hle hge r4 hbn hsz hln B; (try have hlt := r2.lt); (try replace r2 := r2.below (hbn.mono hle)); (try have hlt := m3.lt); (try replace m3 := m3.below (hbn.mono hle)); simp only [putS])
 refine chk 1 ?_
 refine wpList_nil ?_
 go_upto_region 1 with fail
 refine wp_region_lit ?_
 try simp only [gelS]
 refine chq 2 ?_
 repeat (first | go_big_quiet_skip | (go_big_quiet_want; first | ((first | refine quiet_loadAny (t := 38) rfl _ _ _ rfl (fun w hw => run_load_imR (ov_B m3 w hw)) (by first | rfl | omega) ?_ | refine qB ?_ | refine qC ?_); simp only [putS]; go_big_quiet_on) | (go_big_quiet_op; go_big_quiet_on)))
 refine wpQuiet_nil ?_
 (refine wpList_allocBk (t := 38) rfl _ (run_alloc_Rc _ _ rfl) (alK B ?_); clear B; intro b_c6 wn hle hge c6 hbn hsz hln B; (try have hlt := r2.lt); (try replace r2 := r2.below (hbn.mono hle)); (try have hlt := m3.lt); (try replace m3 := m3.below (hbn.mono hle)); (try have hlt := r4.lt); (try replace r4 := r4.below (hbn.mono hle)); (try have hlt := c6.lt); (try replace c6 := c6.below (hbn.mono hle)); simp only [putS])
 (refine wpList_storeB (t := 38) rfl _ _ rfl _ rfl _ rfl c6 (by kernel_rfl) rfl (by simp [rcA, imgC, Value.oneCell']) (stK B (by omega) ?_); clear c6 B; intro wn c6 hcn hsz hzn B; (try replace r2 := r2.of_eq (hcn.block _ r2.lt (by omega))); (try replace m3 := m3.of_eq (hcn.block _ m3.lt (by omega))); (try replace r4 := r4.of_eq (hcn.block _ r4.lt (by omega))); simp only [putS])
 refine wpList_nil ?_
 replace c6 : AtB 38 _ b_c6 (rcA c) := c6
 go_upto_region 2 with fail
 try simp only [gelS]
 try have lx_r2 := r2.lt
 try have lx_m3 := m3.lt
 try have lx_r4 := r4.lt
 try have lx_c6 := c6.lt
 refine wp_region_RL 11 [(1, detS ?v2_1), (6, detS ?v2_6), (8, detS ?v2_8)] (by kernel_rfl) (by kernel_rfl) (by kernel_rfl) ?_
 rotate_left 3
 simp only [takS, Nat.reduceAdd]
 refine crq 1 ?_
 repeat (first | go_big_quiet_skip | (go_big_quiet_want; first | ((first | refine quiet_loadAny (t := 38) rfl _ _ _ rfl (fun w hw => run_load_imR (ov_B m3 w hw)) (by first | rfl | omega) ?_ | refine qB ?_ | refine qC ?_); simp only [putS]; go_big_quiet_on) | (go_big_quiet_op; go_big_quiet_on)))
 refine wpQuiet_nil ?_
 refine wpRL_callB (by rfl) (by first | rfl | simp [Region.wanted, yielded]) ?_ ?_
 ·intro wn hbn hE Kx hKx
  have hsz := B.size
  have hzn := hbn.size
  replace B := B.trans (hbn.mono B.size)
  (try replace m3 := m3.below hbn)
  (try replace r4 := r4.below hbn)
  (try replace c6 := c6.below hbn)
  refine wp_callF rfl (enters_of Tryz.func128 (by kernel_rfl) rfl) (by simp only [Act.eval, evlS]; rfl) ?_
  refine (P_ValidRB c true _ hV0).mono ?_
  rintro e wm ⟨rfl, hbm⟩
  refine ⟨_, rfl, ?_⟩
  have hz := hKx () wm trivial hbm
  dsimp only [detS] at hz
  exact hz
 rintro ⟨⟩
 dsimp only [detS]
 simp only [putS]
 refine crq 4 ?_
 repeat (first | go_big_quiet_skip | (go_big_quiet_want; first | ((first | refine quiet_loadAny (t := 115) rfl _ _ _ rfl (fun w hw => run_load_slp (imgC_u (ov_B m3 w hw))) (by first | rfl | omega) ?_ | refine qB ?_ | refine qC ?_); simp only [putS]; go_big_quiet_on) | (go_big_quiet_op; go_big_quiet_on)))
 refine wpQuiet_nil ?_
 refine wpRL_callB (by rfl) ?hw2_6 ?_ ?_
 case hw2_6 => kernel_rfl
 ·intro wn hbn hE Kx hKx
  have hsz := B.size
  have hzn := hbn.size
  replace B := B.trans (hbn.mono B.size)
  (try replace m3 := m3.below hbn)
  (try replace r4 := r4.below hbn)
  (try replace c6 := c6.below hbn)
  refine wp_lenS rfl Tryz.underlying115 rfl ?_
  exact hKx () _ trivial (Below.refl _ _)
 rintro ⟨⟩
 dsimp only [detS]
 simp only [putS]
 refine crq 1 ?_
 repeat (first | go_big_quiet_skip | (go_big_quiet_want; first | ((first | refine quiet_loadAny (t := 38) rfl _ _ _ rfl (fun w hw => run_load_imR (ov_B m3 w hw)) (by first | rfl | omega) ?_ | refine qB ?_ | refine qC ?_); simp only [putS]; go_big_quiet_on) | (go_big_quiet_op; go_big_quiet_on)))
 refine wpQuiet_nil ?_
 refine wpRL_callB (by rfl) ?hw2_8 ?_ ?_
 case hw2_8 => kernel_rfl
 ·intro wn hbn hE Kx hKx
  have hsz := B.size
  have hzn := hbn.size
  replace B := B.trans (hbn.mono B.size)
  (try replace r4 := r4.below hbn)
  refine wp_callF rfl (enters_of Tryz.func125 (by kernel_rfl) rfl) (by simp only [Act.eval, evlS]; rfl) ?_
  refine (P_AreaB c A _ hV0 HA.out).mono ?_
  rintro e wm ⟨rfl, hbm⟩
  refine ⟨_, rfl, ?_⟩
  have hz := hKx () wm trivial hbm
  dsimp only [detS] at hz
  exact hz
 rintro ⟨⟩
 dsimp only [detS]
 simp only [putS]
 refine crk 2 ?_
 refine wpRL_nil ?_
 intro wn hbn hE
 have hsz := B.size
 have hzn := hbn.size
 replace B := B.trans (hbn.mono B.size)
 (try replace r4 := r4.below hbn)
 clear hE
 try simp only [List.drop_succ_cons, List.drop_zero]
 refine NoPan.normal ?_
 go_upto_region 3 with fail
 refine wp_region_lit ?_
 try simp only [gelS]
 refine chk 1 ?_
 (refine wpList_storeB (t := 64) rfl _ _ rfl _ rfl _ rfl r4 (by kernel_rfl) rfl (by simp [rcA, imgC, Value.oneCell']) (stK B (by omega) ?_); clear r4 B; intro wn r4 hcn hsz hzn B; simp only [putS])
 refine chk 1 ?_
 refine wpList_nil ?_
 go_wp2
 refine bodyPost_ret (results_B2 (t := 64) rfl _ _ (b_r4) rfl _ rfl r4 Tryz.isAgg64 (by kernel_rfl)) rfl ?_
 exact ⟨rfl, B⟩
set_option maxHeartbeats 4000000 in
theorem P_Paste_big (v : Value) (ls : List TA) (c : Rc) (ad : Option Addr) (n cp : Nat) (w : World) (h : RS v ls w) (hn : n ≤ maxLen) (hV0 : validR c = true) (hA : areaR c = (n : Int)) (e0 : Int) (hF : fitsE c = e0) (h0 : ¬ e0 = 0) : Calls Tryz.prog 77 #[.agg #[v], .agg (imgC c (.slice ad n cp))] w fun e w' => e = .returned (.tuple #[.agg #[.slice none 0 0], .int .i64 e0]) ∧ Below w.heap.size w w' := by
 have B := Below.refl w.heap.size w
 obtain ⟨a, cpv, rfl, hc⟩ := h.len
 have d1 : ((n : Int) != (n : Int)) = false := by simp
 have d2 : (e0 != 0) = true := by simpa using h0
 have HA := Lib.hid hA
 have HF := Lib.hid hF
 clear h hA hF
 go_enter Tryz.func77, Tryz.ntmps77
 go_upto_region 0 with fail
 refine wp_region_lit ?_
 try simp only [gelS]
 (refine wpList_boxB (t := 64) rfl _ rfl _ rfl (alK B ?_); clear B; intro b_r2 wn hle hge r2 hbn hsz hln B; simp only [putS])
 (refine wpList_boxB (t := 117) rfl _ rfl _ rfl (alK B ?_); clear B; intro b_m3 wn hle hge m3 hbn hsz hln B; (try have hlt := r2.lt); (try replace r2 := r2.below (hbn.mono hle)); simp only [putS])
 (refine wpList_allocBk (t := 64) rfl _ (run_alloc_R _ _ rfl) (alK B ?_); clear B; intro b_r4 wn hle hge r4 hbn hsz hln B; (try have hlt := r2.lt); (try replace r2 := r2.below (hbn.mono hle)); (try have hlt := m3.lt); (try replace m3 := m3.below (hbn.mono hle)); simp only [putS])
 refine chk 1 ?_
 refine wpList_nil ?_
 go_upto_region 1 with fail
 refine wp_region_lit ?_
 try simp only [gelS]
 refine chq 2 ?_
 repeat (first | go_big_quiet_skip | (go_big_quiet_want; first | ((first | refine quiet_loadAny (t := 38) rfl _ _ _ rfl (fun w hw => run_load_imR (ov_B m3 w hw)) (by first | rfl | omega) ?_ | refine qB ?_ | refine qC ?_); simp only [putS]; go_big_quiet_on) | (go_big_quiet_op; go_big_quiet_on)))
 refine wpQuiet_nil ?_
 (refine wpList_allocBk (t := 38) rfl _ (run_alloc_Rc _ _ rfl) (alK B ?_); clear B; intro b_c6 wn hle hge c6 hbn hsz hln B; (try have hlt := r2.lt); (try replace r2 := r2.below (hbn.mono hle)); (try have hlt := m3.lt); (try replace m3 := m3.below (hbn.mono hle)); (try have hlt := r4.lt); (try replace r4 := r4.below (hbn.mono hle)); (try have hlt := c6.lt); (try replace c6 := c6.below (hbn.mono hle)); simp only [putS])
 (refine wpList_storeB (t := 38) rfl _ _ rfl _ rfl _ rfl c6 (by kernel_rfl) rfl (by simp [rcA, imgC, Value.oneCell']) (stK B (by omega) ?_); clear c6 B; intro wn c6 hcn hsz hzn B; (try replace r2 := r2.of_eq (hcn.block _ r2.lt (by omega))); (try replace m3 := m3.of_eq (hcn.block _ m3.lt (by omega))); (try replace r4 := r4.of_eq (hcn.block _ r4.lt (by omega))); simp only [putS])
 refine wpList_nil ?_
 replace c6 : AtB 38 _ b_c6 (rcA c) := c6
 go_upto_region 2 with fail
 try simp only [gelS]
 try have lx_r2 := r2.lt
 try have lx_m3 := m3.lt
 try have lx_r4 := r4.lt
 try have lx_c6 := c6.lt
 refine wp_region_RL 11 [(1, detS ?v3_1), (6, detS ?v3_6), (8, detS ?v3_8)] (by kernel_rfl) (by kernel_rfl) (by kernel_rfl) ?_
 rotate_left 3
 simp only [takS, Nat.reduceAdd]
 refine crq 1 ?_
 repeat (first | go_big_quiet_skip | (go_big_quiet_want; first | ((first | refine quiet_loadAny (t := 38) rfl _ _ _ rfl (fun w hw => run_load_imR (ov_B m3 w hw)) (by first | rfl | omega) ?_ | refine qB ?_ | refine qC ?_); simp only [putS]; go_big_quiet_on) | (go_big_quiet_op; go_big_quiet_on)))
 refine wpQuiet_nil ?_
 refine wpRL_callB (by rfl) (by first | rfl | simp [Region.wanted, yielded]) ?_ ?_
 ·intro wn hbn hE Kx hKx
  have hsz := B.size
  have hzn := hbn.size
  replace B := B.trans (hbn.mono B.size)
  (try replace m3 := m3.below hbn)
  (try replace r4 := r4.below hbn)
  (try replace c6 := c6.below hbn)
  refine wp_callF rfl (enters_of Tryz.func128 (by kernel_rfl) rfl) (by simp only [Act.eval, evlS]; rfl) ?_
  refine (P_ValidRB c true _ hV0).mono ?_
  rintro e wm ⟨rfl, hbm⟩
  refine ⟨_, rfl, ?_⟩
  have hz := hKx () wm trivial hbm
  dsimp only [detS] at hz
  exact hz
 rintro ⟨⟩
 dsimp only [detS]
 simp only [putS]
 refine crq 4 ?_
 repeat (first | go_big_quiet_skip | (go_big_quiet_want; first | ((first | refine quiet_loadAny (t := 115) rfl _ _ _ rfl (fun w hw => run_load_slp (imgC_u (ov_B m3 w hw))) (by first | rfl | omega) ?_ | refine qB ?_ | refine qC ?_); simp only [putS]; go_big_quiet_on) | (go_big_quiet_op; go_big_quiet_on)))
 refine wpQuiet_nil ?_
 refine wpRL_callB (by rfl) ?hw3_6 ?_ ?_
 case hw3_6 => kernel_rfl
 ·intro wn hbn hE Kx hKx
  have hsz := B.size
  have hzn := hbn.size
  replace B := B.trans (hbn.mono B.size)
  (try replace m3 := m3.below hbn)
  (try replace r4 := r4.below hbn)
  (try replace c6 := c6.below hbn)
  refine wp_lenS rfl Tryz.underlying115 rfl ?_
  exact hKx () _ trivial (Below.refl _ _)
 rintro ⟨⟩
 dsimp only [detS]
 simp only [putS]
 refine crq 1 ?_
 repeat (first | go_big_quiet_skip | (go_big_quiet_want; first | ((first | refine quiet_loadAny (t := 38) rfl _ _ _ rfl (fun w hw => run_load_imR (ov_B m3 w hw)) (by first | rfl | omega) ?_ | refine qB ?_ | refine qC ?_); simp only [putS]; go_big_quiet_on) | (go_big_quiet_op; go_big_quiet_on)))
 refine wpQuiet_nil ?_
 refine wpRL_callB (by rfl) ?hw3_8 ?_ ?_
 case hw3_8 => kernel_rfl
 ·intro wn hbn hE Kx hKx
  have hsz := B.size
  have hzn := hbn.size
  replace B := B.trans (hbn.mono B.size)
  (try replace m3 := m3.below hbn)
  (try replace r4 := r4.below hbn)
  (try replace c6 := c6.below hbn)
  refine wp_callF rfl (enters_of Tryz.func125 (by kernel_rfl) rfl) (by simp only [Act.eval, evlS]; rfl) ?_
  refine (P_AreaB c (n : Int) _ hV0 HA.out).mono ?_
  rintro e wm ⟨rfl, hbm⟩
  refine ⟨_, rfl, ?_⟩
  have hz := hKx () wm trivial hbm
  dsimp only [detS] at hz
  exact hz
 rintro ⟨⟩
 dsimp only [detS]
 simp only [putS]
 refine crk 2 ?_
 refine wpRL_nil ?_
 intro wn hbn hE
 have hsz := B.size
 have hzn := hbn.size
 replace B := B.trans (hbn.mono B.size)
 (try replace m3 := m3.below hbn)
 (try replace r4 := r4.below hbn)
 (try replace c6 := c6.below hbn)
 clear hE
 try simp only [List.drop_succ_cons, List.drop_zero]
 refine NoPan.normal ?_
 go_upto_region 4 with fail
 refine wp_region_lit ?_
 try simp only [gelS]
 refine chq 1 ?_
 repeat (first | go_big_quiet_skip | (go_big_quiet_want; first | ((first | refine quiet_loadAny (t := 38) rfl _ _ _ rfl (fun w hw => run_load_imR (ov_B m3 w hw)) (by first | rfl | omega) ?_ | refine qB ?_ | refine qC ?_); simp only [putS]; go_big_quiet_on) | (go_big_quiet_op; go_big_quiet_on)))
 refine wpQuiet_nil ?_
 refine clF (enters_of Tryz.func124 (by kernel_rfl) rfl) (c := P_fitsB c e0 _ HF.out) (h := ?_)
 rintro e wn ⟨rfl, hbn⟩
 have hsz := B.size
 have hzn := hbn.size
 replace B := B.trans (hbn.mono B.size)
 (try replace r4 := r4.below hbn)
 refine ⟨_, rfl, ?_⟩
 simp only [putS]
 refine chk 1 ?_
 refine wpList_nil ?_
 go_upto_region 5 with fail
 refine wp_region_lit ?_
 try simp only [gelS]
 refine chk 2 ?_
 refine wpList_nil ?_
 go_upto_region 6 with fail
 refine wp_region_lit ?_
 try simp only [gelS]
 refine chk 2 ?_
 (refine wpList_storeB (t := 64) rfl _ _ rfl _ rfl _ rfl r4 (by kernel_rfl) rfl (by simp [rcA, imgC, Value.oneCell']) (stK B (by omega) ?_); clear r4 B; intro wn r4 hcn hsz hzn B; simp only [putS])
 refine chk 1 ?_
 refine wpList_nil ?_
 go_wp2
 refine bodyPost_ret (results_B2 (t := 64) rfl _ _ (b_r4) rfl _ rfl r4 Tryz.isAgg64 (by kernel_rfl)) rfl ?_
 exact ⟨rfl, B⟩
end Go.Proofs.YtepelndbbhdofaaGreatDoor
/- A range over a function whose loop variable lies in memory: the round's head makes its block. -/
namespace Go.Proofs.YtepelndbbhdofaaGreatDoor
open Go Go.RowKit
set_option linter.unusedVariables false
set_option linter.unusedSimpArgs false
section
variable {F : Fence} {n : Nat} {P : Program}
/-- The statement 'for x := range seq { .. }' whose head may lay new blocks: 'As x' says what the head leaves. -/
theorem rangeFunc_made {α : Type} {g : Operand} {ps : Array Tmp} {assign body : Code} {Q : Exit → Act → World → Prop} {a : Act} {w : World}
  (hro : F.round = none) (h1 : 1 ≤ n) {gf : Nat} {lb : Array Value} (hg : a.eval g = .func (.func gf) #[] lb) (hFg : F.fn gf) (eg : ∀ args w, (callFunc gf args).run P w = .ok (.enter gf args) w)
  {encs : α → Array Value} {Kp : World → World → Prop} {S Sp : List α → Prop} {N : Nat} {w0 : World} (hseq : SeqStopsK F (n - 1) P gf lb encs Kp S Sp N w0)
  (hKt : ∀ {A B C : World}, Kp A B → Kp B C → Kp A C) (hKb : ∀ (W : World) (l : Nat) (o o' : Obj), w.heap.size ≤ l → W.heap[l]? = some o → o.isCells = false → o.isWalk = false → Kp W (W.putObj l o'))
  (hKg : ∀ (A B : World), Below A.heap.size A B → Kp A B) (hb0 : Below w0.heap.size w0 w) (hps : ∀ x, (encs x).size = ps.size)
  (I : List α → World → Prop) (hI : OwnFrom w.heap.size I) (h0 : I [] w) (As : α → Act → World → Prop) (hAs : ∀ x, OwnFrom w.heap.size (As x))
  (hassign : ∀ (l : Nat) (pre : List α) (x : α) (W : World) (K : Act → World → Prop), I pre W → (∀ a' W', Below W.heap.size W W' → As x a' W' → K a' W') →
   assign.wpIn (F.inRound l) (n - 1 - 1) P (Exit.then K (fun _ _ _ => False)) { tmps := (ps.zip (encs x)).foldl (fun t (p, v) => t.setIfInBounds p v) a.tmps, defers := [] } W)
  (hbody : ∀ (l : Nat) (pre : List α) (x : α) (W : World) (a' : Act), I pre W → As x a' W → pre.length < N → body.wpIn (F.inRound l) (n - 1 - 1) P (ownPostK Kp I (fun _ _ _ => False) (pre ++ [x]) W) a' W)
  (hdone : ∀ (D : Nat) (xs : List α) (W : World), w.heap.size ≤ D → S xs → I xs W → W.heap[D]? = some (.deferred (some [])) → Q .normal { a with defers := { target := .collected D, args := #[] } :: a.defers } W) :
  (Code.rangeFunc g ps assign body).wpIn F n P Q a w := by
 refine wpIn_rangeFunc fun fn hfn => ?_
 rw [hro]
 obtain ⟨rc, hrc⟩ : ∃ rc : LoopState → Option Code → Loop, rc = fun st pe => { state := st, pending := pe, fn, tmps := a.tmps, params := ps, assign, body, defers := w.heap.size } := ⟨_, rfl⟩
 obtain ⟨W1, hW1⟩ : ∃ W1, (w.alloc (.deferred (some []))).alloc (.loop (rc .ready none)) = W1 := ⟨_, rfl⟩
 have blkL : W1.heap[w.heap.size + 1]? = some (.loop (rc .ready none)) := by
  have := World.alloc_heap_new (w.alloc (.deferred (some []))) (.loop (rc .ready none))
  rw [← hW1]
  rwa [World.size_alloc] at this
 have blkD : W1.heap[w.heap.size]? = some (.deferred (some [])) := by
  rw [← hW1]
  exact (Below.heap_alloc _ _ _ (by simp)).trans (World.alloc_heap_new w _)
 have grown : Below w0.heap.size w0 W1 := by
  rw [← hW1]
  exact hb0.trans ((((Below.refl _ w).alloc (Nat.le_refl _) _).alloc (by simp) _).mono hb0.size)
 have szW1 : w.heap.size ≤ W1.heap.size := by rw [← hW1]; simp; omega
 have start : I [] W1 := by rw [← hW1]; exact hI.alloc _ (hI.alloc _ h0)
 refine ⟨w.heap.size + 1, [{ target := .collected w.heap.size, args := #[] }], W1, { target := .fn (.func gf) lb, args := #[.func (.yield (w.heap.size + 1)) #[] #[]] }, W1, gf,
  #[.func (.yield (w.heap.size + 1)) #[] #[]] ++ lb, W1, ?_, ?_, ?_, ?_, fun _ => h1, ?_⟩
 ·rw [← hW1, hrc]; exact run_enterLoop_outer _ _ _ _ _
 ·simp only [resolve, hg]
  simp [go_sem]
 ·intro f' hf'
  simp [Target.leads] at hf'
  subst hf'
  exact hFg
 ·simp [invoke, go_sem, eg]
 have walks : ∀ {A : World} {row : Option Nat}, (∀ r, row = some r → W1.heap.size ≤ r ∧ ∃ o : Obj, A.heap[r]? = some o ∧ o.isWalk = true) → (∀ r, row = some r → w.heap.size ≤ r ∧ ∃ o : Obj, A.heap[r]? = some o ∧ o.isCells = false) := fun hr r e => by
  obtain ⟨hB, o, ho, hw⟩ := hr r e
  exact ⟨by omega, o, ho, Obj.not_cells_of_walk hw⟩
 refine (hseq (w.heap.size + 1)
  (fun pre W => I pre W ∧ W.heap[w.heap.size + 1]? = some (.loop (rc .ready none)) ∧ W.heap[w.heap.size]? = some (.deferred (some [])))
  (fun _ _ => False) W1 grown
  (fun s A B row hs hg' hr => ⟨hI s A B row hs.1 hg' (walks hr), (grownBy_keeps hg' (fun r e => (hr r e).2) hs.2.1 rfl).trans hs.2.1, (grownBy_keeps hg' (fun r e => (hr r e).2) hs.2.2 rfl).trans hs.2.2⟩)
  (fun _ _ _ _ hs _ _ => hs) ?_ ⟨start, blkL, blkD⟩).mono ?_
 ·rintro pre x W ⟨hi, hl, hk⟩ hlen
  have hy := run_yield (P := P) (args := encs x) hl (by rw [hrc]; exact hps x)
  rw [hrc] at hy
  refine ⟨fn, _, assign, body, hy, roundIn_of_wpIn hfn (hassign _ pre x W _ hi fun a' V hb ha => ?_)⟩
  have hlV : V.heap[w.heap.size + 1]? = some (.loop (rc .ready none)) := (hb.block _ (Array.getElem?_eq_some_iff.1 hl).1).trans hl
  have hkV : V.heap[w.heap.size]? = some (.deferred (some [])) := (hb.block _ (Array.getElem?_eq_some_iff.1 hk).1).trans hk
  have hiV : I pre V := hI pre W V none hi (grown_of_below hb) (fun r e => by cases e)
  refine ⟨_, run_beginRound hlV (by rw [hrc]), ?_⟩
  obtain ⟨V1, hV1⟩ : ∃ V1, V.putObj (w.heap.size + 1) (.loop { rc .ready none with state := .busy }) = V1 := ⟨_, rfl⟩
  have hl1 : V1.heap[w.heap.size + 1]? = some (.loop { rc .ready none with state := .busy }) := by rw [← hV1]; exact World.putObj_heap_same (Array.getElem?_eq_some_iff.1 hlV).1
  have hk1 : V1.heap[w.heap.size]? = some (.deferred (some [])) := by rw [← hV1]; exact (World.putObj_heap_other (by omega)).trans hkV
  have hKp1 : Kp W V1 := hKt (hKg _ _ hb) (by rw [← hV1]; exact hKb _ _ _ _ (by omega) hlV rfl rfl)
  have hi1 : I pre V1 := by rw [← hV1]; exact hI.putObj _ hiV (by omega) hlV rfl
  have ha1 : As x a' V1 := by rw [← hV1]; exact (hAs x).putObj _ ha (by omega) hlV rfl
  rw [hV1]
  refine wpIn_mono (hbody _ pre x V1 a' hi1 ha1 hlen) ?_
  rintro e a3 W3 hp
  cases e with
  | normal =>
   obtain ⟨ko, kp, hi3⟩ := hp
   have hl3 := ko.same _ _ hl1 rfl
   have hk3 := ko.same _ _ hk1 rfl
   have he := run_endRound (P := P) none hl3
   rw [hrc] at he
   refine ⟨_, _, he, .inl ⟨rfl, ⟨hI.putObj _ hi3 (by omega) hl3 rfl, ?_, (World.putObj_heap_other (by omega)).trans hk3⟩, hKt (hKt hKp1 kp) (hKb _ _ _ _ (by omega) hl3 rfl rfl)⟩⟩
   rw [World.putObj_heap_same (Array.getElem?_eq_some_iff.1 hl3).1, hrc]
   rfl
  | ret => exact hp.2.elim
  | exit id => exact hp.2.elim
  | goto t => exact hp.2.elim
  | panic ch => exact hp.elim
  | outgrown => exact hp.elim
 ·rintro e W2 ⟨⟨v, rfl⟩, ⟨xs, hS, hi, hl, hk⟩ | ⟨_, _, hf⟩⟩
  ·have he := run_endLoop (P := P) hl (by rw [hrc]; simp)
   rw [hrc] at he
   exact ⟨none, _, he, hdone _ xs _ (Nat.le_refl _) hS (hI.putObj _ hi (by omega) hl rfl) ((World.putObj_heap_other (by omega)).trans hk)⟩
  ·exact hf.elim
end
section
variable {P : Program} {ops : Array Oper} {md : Region.Mode} {Q : Exit → Act → World → Prop} {S : World → Prop} {t0 f : Nat} {a : Act} {w : World} {T : Array Bool}
theorem anyX_three (i j k : Nat) {oi oj ok : Oper} (hi : ops[i]? = some oi) (hj : ops[j]? = some oj) (hk : ops[k]? = some ok) (hr : Region.ready md ops T = [i, j, k]) (hgi : oi.guard = none) (hgj : oj.guard = none) (hgk : ok.guard = none)
  (Hi : ∀ K : Act → World → Prop, (∀ a w, (i < t0 → S w) ∧ wpAnyX P md ops (NoPan Q) S t0 f (T.setIfInBounds i true) a w → K a w) → oi.wp P a w K (NoPan Q))
  (Hj : ∀ K : Act → World → Prop, (∀ a w, (j < t0 → S w) ∧ wpAnyX P md ops (NoPan Q) S t0 f (T.setIfInBounds j true) a w → K a w) → oj.wp P a w K (NoPan Q))
  (Hk : ∀ K : Act → World → Prop, (∀ a w, (k < t0 → S w) ∧ wpAnyX P md ops (NoPan Q) S t0 f (T.setIfInBounds k true) a w → K a w) → ok.wp P a w K (NoPan Q)) : wpAnyX P md ops (NoPan Q) S t0 (f + 1) T a w := by
 refine ⟨fun h => (by rw [hr] at h; cases h), fun n hn => ?_⟩
 rw [hr] at hn
 have hn : n = i ∨ n = j ∨ n = k := by simpa using hn
 rcases hn with rfl | rfl | rfl
 ·unfold wpOp
  rw [hi]
  simp only []
  rw [if_pos (by simp [Region.wanted, hgi])]
  exact .inl (Hi _ fun _ _ h => h)
 ·unfold wpOp
  rw [hj]
  simp only []
  rw [if_pos (by simp [Region.wanted, hgj])]
  exact .inl (Hj _ fun _ _ h => h)
 ·unfold wpOp
  rw [hk]
  simp only []
  rw [if_pos (by simp [Region.wanted, hgk])]
  exact .inl (Hk _ fun _ _ h => h)
end
/-- What keeps all but one block of cells, keeps whatever is no cells. -/
theorem KeepsOthers.chgB {b : Nat} {t : TypeId} {cs : Array Value} {W W' : World} (h : Chg b W W') (hb : AtB t W b cs) : KeepsOthers W W' :=
 ⟨h.size, fun k o hk ho => by
  by_cases e : k = b
  ·subst e
   rw [show W.heap[k]? = _ from hb] at hk
   cases hk
   cases ho
  ·exact (h.block k (Array.getElem?_eq_some_iff.1 hk).1 e).trans hk⟩
theorem KpB.below {b : Nat} {W W' : World} (h : Below W.heap.size W W') : KpB b W W' :=
 ⟨h.size, fun k o _ ho _ => (h.block k (Array.getElem?_eq_some_iff.1 ho).1).trans ho⟩
theorem RCells.own {g o : Nat} {ls : List TA} {A B : World} {row : Option Nat} (h : RCells g o ls A) (hn : 0 < ls.length) (hg : A.grownBy B row) (hr : ∀ r, row = some r → ∃ o : Obj, A.heap[r]? = some o ∧ o.isCells = false) : RCells g o ls B := by
 refine h.of_eq (hg.block g h.lt fun e => ?_)
 obtain ⟨x, hx, hc⟩ := hr g e.symm
 have h0 := h.2 0 hn 0 (by omega)
 have hs : ∃ v, (taC (aT ls 0))[0]? = some v := ⟨_, taC_x _⟩
 obtain ⟨v, hv⟩ := hs
 rw [hv] at h0
 have := cell_not h0 x hx
 rw [hc] at this
 cases this
theorem RS.own {v : Value} {ls : List TA} {A B : World} {row : Option Nat} (h : RS v ls A) (hg : A.grownBy B row) (hr : ∀ r, row = some r → ∃ o : Obj, A.heap[r]? = some o ∧ o.isCells = false) : RS v ls B := by
 rcases h with h | ⟨g, o, c, e, hc, sc⟩
 ·exact .inl h
 ·exact .inr ⟨g, o, c, e, hc, fun hn => (sc hn).own hn hg hr⟩
end Go.Proofs.YtepelndbbhdofaaGreatDoor
/- The iterator over the tiles of a rectangle: its contract. -/
namespace Go.Proofs.YtepelndbbhdofaaGreatDoor
open Go.RowKit Go.Shelf Pl
attribute [local go_sem] Oper.semAt_some
set_option linter.unusedVariables false
set_option linter.unusedSimpArgs false
set_option maxRecDepth 20000
/-- The first k of N. -/
def fpre (N k : Nat) : List (Fin N) := (List.finRange N).take k
theorem fpre_succ {N k : Nat} (h : k < N) : fpre N (k + 1) = fpre N k ++ [⟨k, h⟩] := by
 unfold fpre
 rw [List.take_succ_eq_append_getElem (by simp; omega)]
 simp
theorem fpre_length {N k : Nat} (h : k ≤ N) : (fpre N k).length = k := by unfold fpre; simp; omega
theorem fpre_zero (N : Nat) : fpre N 0 = [] := rfl
theorem fpre_all (N : Nat) : fpre N N = List.finRange N := by unfold fpre; rw [List.take_of_length_le (by simp)]
def posF (c : Rc) (i : Fin (tlN c)) : Int × Int := posP c i.val
theorem posF_all (c : Rc) : (List.finRange (tlN c)).map (posF c) = posL c := by
 unfold posL
 refine List.ext_getElem (by simp) fun i h1 h2 => ?_
 simp [posF]
set_option maxHeartbeats 4000000 in
theorem tiles_stops (c : Rc) (HF : Fits c) (bc b8 n : Nat) (hn1 : 1 ≤ n) (w : World) (r0 : AtB 38 w bc (rcA c)) (hb8 : b8 < w.heap.size) :
  SeqStopsK Fence.wide n Tryz.prog 163 #[.pointer (some ⟨bc, 0, none⟩)] (fun i : Fin (tlN c) => #[.agg #[.int .i64 (posF c i).1, .int .i64 (posF c i).2]]) (KpB b8) (fun xs => xs = List.finRange (tlN c)) (fun _ => True) (tlN c) w := fun l J Jx W0 hW hJa hJxa hY h0 => by
 have hb8 := Nat.lt_of_lt_of_le hb8 hW.size
 have r0 := r0.of_eq (hW.block _ r0.lt)
 have B := Below.refl W0.heap.size W0
 clear hW hJxa
 have hf := Lib.hid HF
 have HJ := Lib.hid (fun (W' : World) (hb : Below W0.heap.size W0 W') => AbidesFrom.below hJa h0 hb)
 have HY := Lib.hid hY
 clear h0 hJa hY
 obtain ⟨hew, hw0⟩ := area_wid (tl_fits HF)
 have hNle := tlN_le HF
 obtain ⟨f1, f2, f3, f4, f5, f6, f7, f8⟩ := HF
 have hE := Lib.hid (show emptyR c = false from (emptyR_not _).2 ⟨f1, f2⟩)
 obtain ⟨W, hW⟩ : ∃ W : Nat, (c.x1 - 1) / 8 + 1 - c.x0 / 8 = (W : Int) := ⟨((c.x1 - 1) / 8 + 1 - c.x0 / 8).toNat, by omega⟩
 obtain ⟨H, hH⟩ : ∃ H : Nat, (c.y1 - 1) / 8 + 1 - c.y0 / 8 = (H : Int) := ⟨((c.y1 - 1) / 8 + 1 - c.y0 / 8).toNat, by omega⟩
 have eW : widN (tlR c) = W := by unfold widN tlR; simp only; rw [hW]; exact Int.toNat_natCast _
 have eH : ((tlR c).y1 - (tlR c).y0).toNat = H := by unfold tlR; simp only; rw [hH]; exact Int.toNat_natCast _
 rw [eW, eH] at hew
 rw [eW] at hw0
 change tlN c = W * H at hew
 have HR := Lib.hid (fun (k j : Nat) (hj : j < W) => by
  have := tl_row (c := c) hf.out (k := k) (j := j) (by rw [eW]; exact hj)
  rw [eW] at this
  exact this)
 have wf1 := Lib.hid (show (Lit.int .i64 c.x0).wf = true from wf_mk (by omega) (by omega))
 have wf2 := Lib.hid (show (Lit.int .i64 c.y0).wf = true from wf_mk (by omega) (by omega))
 have wf3 := Lib.hid (show (Lit.int .i64 (c.x1 - 1)).wf = true from wf_mk (by omega) (by omega))
 have wf4 := Lib.hid (show (Lit.int .i64 (c.y1 - 1)).wf = true from wf_mk (by omega) (by omega))
 refine callsIn_wide.2 ?_
 show Calls Tryz.prog 163 #[.func (.yield l) #[] #[], .pointer (some ⟨bc, 0, none⟩)] W0 _
 go_enter Tryz.func163, Tryz.ntmps163
 go_upto_region 0 with fail
 refine wp_region_lit ?_
 try simp only [gelS]
 refine chk 1 ?_
 refine clF (enters_of Tryz.func45 (by kernel_rfl) rfl) (c := P_EmptyB c false _ hE.out) (h := ?_)
 rintro e wn ⟨rfl, hbn⟩
 have hsz := B.size
 have hzn := hbn.size
 replace B := B.trans (hbn.mono B.size)
 (try replace r0 := r0.below hbn)
 refine ⟨_, rfl, ?_⟩
 simp only [putS]
 refine wpList_nil ?_
 have hsw := hbn.size
 go_upto_region 1 with fail
 have r0B := r0
 go_cut [3, 4] from 9 to 29 (fun s3 s4 wx => ∃ b_p3 b_p4, s3 = .pointer (some ⟨b_p3, 0, none⟩) ∧ s4 = .pointer (some ⟨b_p4, 0, none⟩) ∧ Below W0.heap.size W0 wx ∧ W0.heap.size ≤ b_p3 ∧ W0.heap.size ≤ b_p4 ∧ AtB 95 wx b_p3 #[.int .i64 (c.x0 / 8), .int .i64 (c.y0 / 8)] ∧ AtB 95 wx b_p4 #[.int .i64 ((c.x1 - 1) / 8), .int .i64 ((c.y1 - 1) / 8)])
 case first =>
  refine wp_region_X0 16 #[false, false, false, false, false, false, false, false, false, false, false, false, false, false, false, false, false, false] (by kernel_rfl) (by kernel_rfl) ?_
  intro wn hbn
  have hX := hbn
  have hsz := B.size
  have hzn := hbn.size
  replace B := B.trans (hbn.mono B.size)
  try replace r0 := r0.below hbn
  simp only [List.length_cons, List.length_nil, Nat.reduceAdd]
  refine anyX_take 0 rfl (by kernel_rfl) ⟨_, ov_of hX⟩ ?_
  intro K hK
  try simp only [gelS]
  (first | (refine quiet_loadAny (t := 38) rfl _ _ _ rfl (fun w hw => run_load_B (ov_B r0B w hw) Tryz.isAgg38 (by kernel_rfl)) (by rfl) ?_; simp only [putS]; go_big_quiet_on) | (refine quiet_loadAny (t := 3) rfl _ _ _ rfl (fun w hw => run_load_int ((ov_B r0B w hw).cellL 0 rfl)) (by rfl) ?_; simp only [putS]; go_big_quiet_on) | (refine quiet_loadAny (t := 3) rfl _ _ _ rfl (fun w hw => run_load_int ((ov_B r0B w hw).cellL 1 rfl)) (by rfl) ?_; simp only [putS]; go_big_quiet_on) | (refine quiet_loadAny (t := 3) rfl _ _ _ rfl (fun w hw => run_load_int ((ov_B r0B w hw).cellL 2 rfl)) (by rfl) ?_; simp only [putS]; go_big_quiet_on) | (refine quiet_loadAny (t := 3) rfl _ _ _ rfl (fun w hw => run_load_int ((ov_B r0B w hw).cellL 3 rfl)) (by rfl) ?_; simp only [putS]; go_big_quiet_on) | (go_big_quiet_op; go_big_quiet_on))
  simp only [putS]
  refine anyX_take 1 rfl (by kernel_rfl) ⟨_, ov_of hX⟩ ?_
  intro K hK
  try simp only [gelS]
  (first | (refine quiet_loadAny (t := 38) rfl _ _ _ rfl (fun w hw => run_load_B (ov_B r0B w hw) Tryz.isAgg38 (by kernel_rfl)) (by rfl) ?_; simp only [putS]; go_big_quiet_on) | (refine quiet_loadAny (t := 3) rfl _ _ _ rfl (fun w hw => run_load_int ((ov_B r0B w hw).cellL 0 rfl)) (by rfl) ?_; simp only [putS]; go_big_quiet_on) | (refine quiet_loadAny (t := 3) rfl _ _ _ rfl (fun w hw => run_load_int ((ov_B r0B w hw).cellL 1 rfl)) (by rfl) ?_; simp only [putS]; go_big_quiet_on) | (refine quiet_loadAny (t := 3) rfl _ _ _ rfl (fun w hw => run_load_int ((ov_B r0B w hw).cellL 2 rfl)) (by rfl) ?_; simp only [putS]; go_big_quiet_on) | (refine quiet_loadAny (t := 3) rfl _ _ _ rfl (fun w hw => run_load_int ((ov_B r0B w hw).cellL 3 rfl)) (by rfl) ?_; simp only [putS]; go_big_quiet_on) | (go_big_quiet_op; go_big_quiet_on))
  simp only [putS]
  refine anyX_take 2 rfl (by kernel_rfl) ⟨_, ov_of hX⟩ ?_
  intro K hK
  try simp only [gelS]
  (first | (refine quiet_loadAny (t := 38) rfl _ _ _ rfl (fun w hw => run_load_B (ov_B r0B w hw) Tryz.isAgg38 (by kernel_rfl)) (by rfl) ?_; simp only [putS]; go_big_quiet_on) | (refine quiet_loadAny (t := 3) rfl _ _ _ rfl (fun w hw => run_load_int ((ov_B r0B w hw).cellL 0 rfl)) (by rfl) ?_; simp only [putS]; go_big_quiet_on) | (refine quiet_loadAny (t := 3) rfl _ _ _ rfl (fun w hw => run_load_int ((ov_B r0B w hw).cellL 1 rfl)) (by rfl) ?_; simp only [putS]; go_big_quiet_on) | (refine quiet_loadAny (t := 3) rfl _ _ _ rfl (fun w hw => run_load_int ((ov_B r0B w hw).cellL 2 rfl)) (by rfl) ?_; simp only [putS]; go_big_quiet_on) | (refine quiet_loadAny (t := 3) rfl _ _ _ rfl (fun w hw => run_load_int ((ov_B r0B w hw).cellL 3 rfl)) (by rfl) ?_; simp only [putS]; go_big_quiet_on) | (go_big_quiet_op; go_big_quiet_on))
  simp only [putS]
  refine anyX_take 3 rfl (by kernel_rfl) ⟨_, ov_of hX⟩ ?_
  intro K hK
  try simp only [gelS]
  (first | (refine quiet_loadAny (t := 38) rfl _ _ _ rfl (fun w hw => run_load_B (ov_B r0B w hw) Tryz.isAgg38 (by kernel_rfl)) (by rfl) ?_; simp only [putS]; go_big_quiet_on) | (refine quiet_loadAny (t := 3) rfl _ _ _ rfl (fun w hw => run_load_int ((ov_B r0B w hw).cellL 0 rfl)) (by rfl) ?_; simp only [putS]; go_big_quiet_on) | (refine quiet_loadAny (t := 3) rfl _ _ _ rfl (fun w hw => run_load_int ((ov_B r0B w hw).cellL 1 rfl)) (by rfl) ?_; simp only [putS]; go_big_quiet_on) | (refine quiet_loadAny (t := 3) rfl _ _ _ rfl (fun w hw => run_load_int ((ov_B r0B w hw).cellL 2 rfl)) (by rfl) ?_; simp only [putS]; go_big_quiet_on) | (refine quiet_loadAny (t := 3) rfl _ _ _ rfl (fun w hw => run_load_int ((ov_B r0B w hw).cellL 3 rfl)) (by rfl) ?_; simp only [putS]; go_big_quiet_on) | (go_big_quiet_op; go_big_quiet_on))
  simp only [putS]
  refine anyX_take 4 rfl (by kernel_rfl) ⟨_, ov_of hX⟩ ?_
  intro K hK
  try simp only [gelS]
  (first | (refine quiet_loadAny (t := 38) rfl _ _ _ rfl (fun w hw => run_load_B (ov_B r0B w hw) Tryz.isAgg38 (by kernel_rfl)) (by rfl) ?_; simp only [putS]; go_big_quiet_on) | (refine quiet_loadAny (t := 3) rfl _ _ _ rfl (fun w hw => run_load_int ((ov_B r0B w hw).cellL 0 rfl)) (by rfl) ?_; simp only [putS]; go_big_quiet_on) | (refine quiet_loadAny (t := 3) rfl _ _ _ rfl (fun w hw => run_load_int ((ov_B r0B w hw).cellL 1 rfl)) (by rfl) ?_; simp only [putS]; go_big_quiet_on) | (refine quiet_loadAny (t := 3) rfl _ _ _ rfl (fun w hw => run_load_int ((ov_B r0B w hw).cellL 2 rfl)) (by rfl) ?_; simp only [putS]; go_big_quiet_on) | (refine quiet_loadAny (t := 3) rfl _ _ _ rfl (fun w hw => run_load_int ((ov_B r0B w hw).cellL 3 rfl)) (by rfl) ?_; simp only [putS]; go_big_quiet_on) | (go_big_quiet_op; go_big_quiet_on))
  simp only [putS]
  refine anyX_take 6 rfl (by kernel_rfl) ⟨_, ov_of hX⟩ ?_
  intro K hK
  try simp only [gelS]
  (first | (refine quiet_loadAny (t := 38) rfl _ _ _ rfl (fun w hw => run_load_B (ov_B r0B w hw) Tryz.isAgg38 (by kernel_rfl)) (by rfl) ?_; simp only [putS]; go_big_quiet_on) | (refine quiet_loadAny (t := 3) rfl _ _ _ rfl (fun w hw => run_load_int ((ov_B r0B w hw).cellL 0 rfl)) (by rfl) ?_; simp only [putS]; go_big_quiet_on) | (refine quiet_loadAny (t := 3) rfl _ _ _ rfl (fun w hw => run_load_int ((ov_B r0B w hw).cellL 1 rfl)) (by rfl) ?_; simp only [putS]; go_big_quiet_on) | (refine quiet_loadAny (t := 3) rfl _ _ _ rfl (fun w hw => run_load_int ((ov_B r0B w hw).cellL 2 rfl)) (by rfl) ?_; simp only [putS]; go_big_quiet_on) | (refine quiet_loadAny (t := 3) rfl _ _ _ rfl (fun w hw => run_load_int ((ov_B r0B w hw).cellL 3 rfl)) (by rfl) ?_; simp only [putS]; go_big_quiet_on) | (go_big_quiet_op; go_big_quiet_on))
  simp only [putS]
  refine anyX_take 7 rfl (by kernel_rfl) ⟨_, ov_of hX⟩ ?_
  intro K hK
  try simp only [gelS]
  (first | (refine quiet_loadAny (t := 38) rfl _ _ _ rfl (fun w hw => run_load_B (ov_B r0B w hw) Tryz.isAgg38 (by kernel_rfl)) (by rfl) ?_; simp only [putS]; go_big_quiet_on) | (refine quiet_loadAny (t := 3) rfl _ _ _ rfl (fun w hw => run_load_int ((ov_B r0B w hw).cellL 0 rfl)) (by rfl) ?_; simp only [putS]; go_big_quiet_on) | (refine quiet_loadAny (t := 3) rfl _ _ _ rfl (fun w hw => run_load_int ((ov_B r0B w hw).cellL 1 rfl)) (by rfl) ?_; simp only [putS]; go_big_quiet_on) | (refine quiet_loadAny (t := 3) rfl _ _ _ rfl (fun w hw => run_load_int ((ov_B r0B w hw).cellL 2 rfl)) (by rfl) ?_; simp only [putS]; go_big_quiet_on) | (refine quiet_loadAny (t := 3) rfl _ _ _ rfl (fun w hw => run_load_int ((ov_B r0B w hw).cellL 3 rfl)) (by rfl) ?_; simp only [putS]; go_big_quiet_on) | (go_big_quiet_op; go_big_quiet_on))
  simp only [putS]
  refine anyX_take 8 rfl (by kernel_rfl) ⟨_, ov_of hX⟩ ?_
  intro K hK
  try simp only [gelS]
  (first | (refine quiet_loadAny (t := 38) rfl _ _ _ rfl (fun w hw => run_load_B (ov_B r0B w hw) Tryz.isAgg38 (by kernel_rfl)) (by rfl) ?_; simp only [putS]; go_big_quiet_on) | (refine quiet_loadAny (t := 3) rfl _ _ _ rfl (fun w hw => run_load_int ((ov_B r0B w hw).cellL 0 rfl)) (by rfl) ?_; simp only [putS]; go_big_quiet_on) | (refine quiet_loadAny (t := 3) rfl _ _ _ rfl (fun w hw => run_load_int ((ov_B r0B w hw).cellL 1 rfl)) (by rfl) ?_; simp only [putS]; go_big_quiet_on) | (refine quiet_loadAny (t := 3) rfl _ _ _ rfl (fun w hw => run_load_int ((ov_B r0B w hw).cellL 2 rfl)) (by rfl) ?_; simp only [putS]; go_big_quiet_on) | (refine quiet_loadAny (t := 3) rfl _ _ _ rfl (fun w hw => run_load_int ((ov_B r0B w hw).cellL 3 rfl)) (by rfl) ?_; simp only [putS]; go_big_quiet_on) | (go_big_quiet_op; go_big_quiet_on))
  simp only [putS]
  refine anyX_take 9 rfl (by kernel_rfl) ⟨_, ov_of hX⟩ ?_
  intro K hK
  try simp only [gelS]
  (first | (refine quiet_loadAny (t := 38) rfl _ _ _ rfl (fun w hw => run_load_B (ov_B r0B w hw) Tryz.isAgg38 (by kernel_rfl)) (by rfl) ?_; simp only [putS]; go_big_quiet_on) | (refine quiet_loadAny (t := 3) rfl _ _ _ rfl (fun w hw => run_load_int ((ov_B r0B w hw).cellL 0 rfl)) (by rfl) ?_; simp only [putS]; go_big_quiet_on) | (refine quiet_loadAny (t := 3) rfl _ _ _ rfl (fun w hw => run_load_int ((ov_B r0B w hw).cellL 1 rfl)) (by rfl) ?_; simp only [putS]; go_big_quiet_on) | (refine quiet_loadAny (t := 3) rfl _ _ _ rfl (fun w hw => run_load_int ((ov_B r0B w hw).cellL 2 rfl)) (by rfl) ?_; simp only [putS]; go_big_quiet_on) | (refine quiet_loadAny (t := 3) rfl _ _ _ rfl (fun w hw => run_load_int ((ov_B r0B w hw).cellL 3 rfl)) (by rfl) ?_; simp only [putS]; go_big_quiet_on) | (go_big_quiet_op; go_big_quiet_on))
  simp only [putS]
  refine anyX_take 10 rfl (by kernel_rfl) ⟨_, ov_of hX⟩ ?_
  intro K hK
  try simp only [gelS]
  (first | (refine quiet_loadAny (t := 38) rfl _ _ _ rfl (fun w hw => run_load_B (ov_B r0B w hw) Tryz.isAgg38 (by kernel_rfl)) (by rfl) ?_; simp only [putS]; go_big_quiet_on) | (refine quiet_loadAny (t := 3) rfl _ _ _ rfl (fun w hw => run_load_int ((ov_B r0B w hw).cellL 0 rfl)) (by rfl) ?_; simp only [putS]; go_big_quiet_on) | (refine quiet_loadAny (t := 3) rfl _ _ _ rfl (fun w hw => run_load_int ((ov_B r0B w hw).cellL 1 rfl)) (by rfl) ?_; simp only [putS]; go_big_quiet_on) | (refine quiet_loadAny (t := 3) rfl _ _ _ rfl (fun w hw => run_load_int ((ov_B r0B w hw).cellL 2 rfl)) (by rfl) ?_; simp only [putS]; go_big_quiet_on) | (refine quiet_loadAny (t := 3) rfl _ _ _ rfl (fun w hw => run_load_int ((ov_B r0B w hw).cellL 3 rfl)) (by rfl) ?_; simp only [putS]; go_big_quiet_on) | (go_big_quiet_op; go_big_quiet_on))
  simp only [putS]
  refine anyX_take 11 rfl (by kernel_rfl) ⟨_, ov_of hX⟩ ?_
  intro K hK
  try simp only [gelS]
  (first | (refine quiet_loadAny (t := 38) rfl _ _ _ rfl (fun w hw => run_load_B (ov_B r0B w hw) Tryz.isAgg38 (by kernel_rfl)) (by rfl) ?_; simp only [putS]; go_big_quiet_on) | (refine quiet_loadAny (t := 3) rfl _ _ _ rfl (fun w hw => run_load_int ((ov_B r0B w hw).cellL 0 rfl)) (by rfl) ?_; simp only [putS]; go_big_quiet_on) | (refine quiet_loadAny (t := 3) rfl _ _ _ rfl (fun w hw => run_load_int ((ov_B r0B w hw).cellL 1 rfl)) (by rfl) ?_; simp only [putS]; go_big_quiet_on) | (refine quiet_loadAny (t := 3) rfl _ _ _ rfl (fun w hw => run_load_int ((ov_B r0B w hw).cellL 2 rfl)) (by rfl) ?_; simp only [putS]; go_big_quiet_on) | (refine quiet_loadAny (t := 3) rfl _ _ _ rfl (fun w hw => run_load_int ((ov_B r0B w hw).cellL 3 rfl)) (by rfl) ?_; simp only [putS]; go_big_quiet_on) | (go_big_quiet_op; go_big_quiet_on))
  simp only [putS]
  refine anyX_take 12 rfl (by kernel_rfl) ⟨_, ov_of hX⟩ ?_
  intro K hK
  try simp only [gelS]
  (first | (refine quiet_loadAny (t := 38) rfl _ _ _ rfl (fun w hw => run_load_B (ov_B r0B w hw) Tryz.isAgg38 (by kernel_rfl)) (by rfl) ?_; simp only [putS]; go_big_quiet_on) | (refine quiet_loadAny (t := 3) rfl _ _ _ rfl (fun w hw => run_load_int ((ov_B r0B w hw).cellL 0 rfl)) (by rfl) ?_; simp only [putS]; go_big_quiet_on) | (refine quiet_loadAny (t := 3) rfl _ _ _ rfl (fun w hw => run_load_int ((ov_B r0B w hw).cellL 1 rfl)) (by rfl) ?_; simp only [putS]; go_big_quiet_on) | (refine quiet_loadAny (t := 3) rfl _ _ _ rfl (fun w hw => run_load_int ((ov_B r0B w hw).cellL 2 rfl)) (by rfl) ?_; simp only [putS]; go_big_quiet_on) | (refine quiet_loadAny (t := 3) rfl _ _ _ rfl (fun w hw => run_load_int ((ov_B r0B w hw).cellL 3 rfl)) (by rfl) ?_; simp only [putS]; go_big_quiet_on) | (go_big_quiet_op; go_big_quiet_on))
  simp only [putS]
  refine anyX_three 5 14 15 rfl rfl rfl (by kernel_rfl) rfl rfl rfl (fun K hK => ?_) (fun K hK => ?_) (fun K hK => ?_)
  ·skip
   try simp only [gelS]
   go_simp
   go_at_call 81
   refine (P_AtO c.x0 c.y0 _ wf1.out wf2.out).mono ?_
   rintro e wn ⟨rfl, hbn⟩
   have hsz := B.size
   have hzn := hbn.size
   have hsx := hX.size
   replace B := B.trans (hbn.mono B.size)
   replace hX := hX.trans (hbn.mono hX.size)
   try replace p3 := p3.below hbn
   try replace p4 := p4.below hbn
   refine hK _ _ ⟨fun _ => ⟨_, ov_of hX⟩, ?_⟩
   clear hK K
   try simp only [gelS]
   simp only [putS]
   refine anyX_three 13 14 15 rfl rfl rfl (by kernel_rfl) rfl rfl rfl (fun K hK => ?_) (fun K hK => ?_) (fun K hK => ?_)
   ·skip
    try simp only [gelS]
    go_simp
    go_at_call 81
    refine (P_AtO (c.x1 - 1) (c.y1 - 1) _ wf3.out wf4.out).mono ?_
    rintro e wn ⟨rfl, hbn⟩
    have hsz := B.size
    have hzn := hbn.size
    have hsx := hX.size
    replace B := B.trans (hbn.mono B.size)
    replace hX := hX.trans (hbn.mono hX.size)
    try replace p3 := p3.below hbn
    try replace p4 := p4.below hbn
    refine hK _ _ ⟨fun _ => ⟨_, ov_of hX⟩, ?_⟩
    clear hK K
    try simp only [gelS]
    simp only [putS]
    refine anyX_two 14 15 rfl rfl (by kernel_rfl) rfl rfl (fun K hK => ?_) (fun K hK => ?_)
    ·skip
     try simp only [gelS]
     refine owp_allocBk (t := 95) _ (run_alloc_Ps _ _ rfl) ?_
     intro b_p3 wn hle hge ht hbn hzn
     have hsz := B.size
     have hsx := hX.size
     replace B := B.trans (hbn.mono (by omega))
     replace hX := hX.trans (hbn.mono (by omega))
     try first | (have hlt := p3.lt; replace p3 := p3.of_eq (hbn.block _ (by omega))) | replace p3 := p3.below (hbn.mono hle)
     try first | (have hlt := p4.lt; replace p4 := p4.of_eq (hbn.block _ (by omega))) | replace p4 := p4.below (hbn.mono hle)
     have p3 := ht
     clear ht
     refine hK _ _ ⟨fun _ => ⟨_, ov_of hX⟩, ?_⟩
     clear hK K
     try simp only [gelS]
     simp only [putS]
     refine anyX_next 15 rfl (by kernel_rfl) rfl (fun K hK => ?_)
     try simp only [gelS]
     refine owp_allocBk (t := 95) _ (run_alloc_Ps _ _ rfl) ?_
     intro b_p4 wn hle hge ht hbn hzn
     have hsz := B.size
     have hsx := hX.size
     replace B := B.trans (hbn.mono (by omega))
     replace hX := hX.trans (hbn.mono (by omega))
     try first | (have hlt := p3.lt; replace p3 := p3.of_eq (hbn.block _ (by omega))) | replace p3 := p3.below (hbn.mono hle)
     try first | (have hlt := p4.lt; replace p4 := p4.of_eq (hbn.block _ (by omega))) | replace p4 := p4.below (hbn.mono hle)
     have p4 := ht
     clear ht
     refine hK _ _ ⟨fun _ => ⟨_, ov_of hX⟩, ?_⟩
     clear hK K
     try simp only [gelS]
     simp only [putS]
     refine anyX_seq (by kernel_rfl) (by kernel_rfl) ?_
     simp only [List.drop_succ_cons, List.drop_zero]
     go_wp2_with (first | (refine wpList_storeB (t := 95) rfl _ _ rfl _ rfl _ rfl p3 (by kernel_rfl) rfl (by simp [Value.oneCell']) (stK B (by omega) ?_); clear p3 B; intro wn p3 hcn hsz hzn B; (try replace p4 := p4.of_eq (hcn.block _ p4.lt (by omega))); simp only [putS]) | (refine wpList_storeB (t := 95) rfl _ _ rfl _ rfl _ rfl p4 (by kernel_rfl) rfl (by simp [Value.oneCell']) (stK B (by omega) ?_); clear p4 B; intro wn p4 hcn hsz hzn B; (try replace p3 := p3.of_eq (hcn.block _ p3.lt (by omega))); simp only [putS]) | fail)
     refine NoPan.normal ?_
     go_wp2_with fail
     go_meet
     exact ⟨b_p3, b_p4, rfl, rfl, B, by omega, by omega, p3, p4⟩
    ·skip
     try simp only [gelS]
     refine owp_allocBk (t := 95) _ (run_alloc_Ps _ _ rfl) ?_
     intro b_p4 wn hle hge ht hbn hzn
     have hsz := B.size
     have hsx := hX.size
     replace B := B.trans (hbn.mono (by omega))
     replace hX := hX.trans (hbn.mono (by omega))
     try first | (have hlt := p3.lt; replace p3 := p3.of_eq (hbn.block _ (by omega))) | replace p3 := p3.below (hbn.mono hle)
     try first | (have hlt := p4.lt; replace p4 := p4.of_eq (hbn.block _ (by omega))) | replace p4 := p4.below (hbn.mono hle)
     have p4 := ht
     clear ht
     refine hK _ _ ⟨fun _ => ⟨_, ov_of hX⟩, ?_⟩
     clear hK K
     try simp only [gelS]
     simp only [putS]
     refine anyX_next 14 rfl (by kernel_rfl) rfl (fun K hK => ?_)
     try simp only [gelS]
     refine owp_allocBk (t := 95) _ (run_alloc_Ps _ _ rfl) ?_
     intro b_p3 wn hle hge ht hbn hzn
     have hsz := B.size
     have hsx := hX.size
     replace B := B.trans (hbn.mono (by omega))
     replace hX := hX.trans (hbn.mono (by omega))
     try first | (have hlt := p3.lt; replace p3 := p3.of_eq (hbn.block _ (by omega))) | replace p3 := p3.below (hbn.mono hle)
     try first | (have hlt := p4.lt; replace p4 := p4.of_eq (hbn.block _ (by omega))) | replace p4 := p4.below (hbn.mono hle)
     have p3 := ht
     clear ht
     refine hK _ _ ⟨fun _ => ⟨_, ov_of hX⟩, ?_⟩
     clear hK K
     try simp only [gelS]
     simp only [putS]
     refine anyX_seq (by kernel_rfl) (by kernel_rfl) ?_
     simp only [List.drop_succ_cons, List.drop_zero]
     go_wp2_with (first | (refine wpList_storeB (t := 95) rfl _ _ rfl _ rfl _ rfl p3 (by kernel_rfl) rfl (by simp [Value.oneCell']) (stK B (by omega) ?_); clear p3 B; intro wn p3 hcn hsz hzn B; (try replace p4 := p4.of_eq (hcn.block _ p4.lt (by omega))); simp only [putS]) | (refine wpList_storeB (t := 95) rfl _ _ rfl _ rfl _ rfl p4 (by kernel_rfl) rfl (by simp [Value.oneCell']) (stK B (by omega) ?_); clear p4 B; intro wn p4 hcn hsz hzn B; (try replace p3 := p3.of_eq (hcn.block _ p3.lt (by omega))); simp only [putS]) | fail)
     refine NoPan.normal ?_
     go_wp2_with fail
     go_meet
     exact ⟨b_p3, b_p4, rfl, rfl, B, by omega, by omega, p3, p4⟩
   ·skip
    try simp only [gelS]
    refine owp_allocBk (t := 95) _ (run_alloc_Ps _ _ rfl) ?_
    intro b_p3 wn hle hge ht hbn hzn
    have hsz := B.size
    have hsx := hX.size
    replace B := B.trans (hbn.mono (by omega))
    replace hX := hX.trans (hbn.mono (by omega))
    try first | (have hlt := p3.lt; replace p3 := p3.of_eq (hbn.block _ (by omega))) | replace p3 := p3.below (hbn.mono hle)
    try first | (have hlt := p4.lt; replace p4 := p4.of_eq (hbn.block _ (by omega))) | replace p4 := p4.below (hbn.mono hle)
    have p3 := ht
    clear ht
    refine hK _ _ ⟨fun _ => ⟨_, ov_of hX⟩, ?_⟩
    clear hK K
    try simp only [gelS]
    simp only [putS]
    refine anyX_two 13 15 rfl rfl (by kernel_rfl) rfl rfl (fun K hK => ?_) (fun K hK => ?_)
    ·skip
     try simp only [gelS]
     go_simp
     go_at_call 81
     refine (P_AtO (c.x1 - 1) (c.y1 - 1) _ wf3.out wf4.out).mono ?_
     rintro e wn ⟨rfl, hbn⟩
     have hsz := B.size
     have hzn := hbn.size
     have hsx := hX.size
     replace B := B.trans (hbn.mono B.size)
     replace hX := hX.trans (hbn.mono hX.size)
     try replace p3 := p3.below hbn
     try replace p4 := p4.below hbn
     refine hK _ _ ⟨fun _ => ⟨_, ov_of hX⟩, ?_⟩
     clear hK K
     try simp only [gelS]
     simp only [putS]
     refine anyX_next 15 rfl (by kernel_rfl) rfl (fun K hK => ?_)
     try simp only [gelS]
     refine owp_allocBk (t := 95) _ (run_alloc_Ps _ _ rfl) ?_
     intro b_p4 wn hle hge ht hbn hzn
     have hsz := B.size
     have hsx := hX.size
     replace B := B.trans (hbn.mono (by omega))
     replace hX := hX.trans (hbn.mono (by omega))
     try first | (have hlt := p3.lt; replace p3 := p3.of_eq (hbn.block _ (by omega))) | replace p3 := p3.below (hbn.mono hle)
     try first | (have hlt := p4.lt; replace p4 := p4.of_eq (hbn.block _ (by omega))) | replace p4 := p4.below (hbn.mono hle)
     have p4 := ht
     clear ht
     refine hK _ _ ⟨fun _ => ⟨_, ov_of hX⟩, ?_⟩
     clear hK K
     try simp only [gelS]
     simp only [putS]
     refine anyX_seq (by kernel_rfl) (by kernel_rfl) ?_
     simp only [List.drop_succ_cons, List.drop_zero]
     go_wp2_with (first | (refine wpList_storeB (t := 95) rfl _ _ rfl _ rfl _ rfl p3 (by kernel_rfl) rfl (by simp [Value.oneCell']) (stK B (by omega) ?_); clear p3 B; intro wn p3 hcn hsz hzn B; (try replace p4 := p4.of_eq (hcn.block _ p4.lt (by omega))); simp only [putS]) | (refine wpList_storeB (t := 95) rfl _ _ rfl _ rfl _ rfl p4 (by kernel_rfl) rfl (by simp [Value.oneCell']) (stK B (by omega) ?_); clear p4 B; intro wn p4 hcn hsz hzn B; (try replace p3 := p3.of_eq (hcn.block _ p3.lt (by omega))); simp only [putS]) | fail)
     refine NoPan.normal ?_
     go_wp2_with fail
     go_meet
     exact ⟨b_p3, b_p4, rfl, rfl, B, by omega, by omega, p3, p4⟩
    ·skip
     try simp only [gelS]
     refine owp_allocBk (t := 95) _ (run_alloc_Ps _ _ rfl) ?_
     intro b_p4 wn hle hge ht hbn hzn
     have hsz := B.size
     have hsx := hX.size
     replace B := B.trans (hbn.mono (by omega))
     replace hX := hX.trans (hbn.mono (by omega))
     try first | (have hlt := p3.lt; replace p3 := p3.of_eq (hbn.block _ (by omega))) | replace p3 := p3.below (hbn.mono hle)
     try first | (have hlt := p4.lt; replace p4 := p4.of_eq (hbn.block _ (by omega))) | replace p4 := p4.below (hbn.mono hle)
     have p4 := ht
     clear ht
     refine hK _ _ ⟨fun _ => ⟨_, ov_of hX⟩, ?_⟩
     clear hK K
     try simp only [gelS]
     simp only [putS]
     refine anyX_next 13 rfl (by kernel_rfl) rfl (fun K hK => ?_)
     try simp only [gelS]
     go_simp
     go_at_call 81
     refine (P_AtO (c.x1 - 1) (c.y1 - 1) _ wf3.out wf4.out).mono ?_
     rintro e wn ⟨rfl, hbn⟩
     have hsz := B.size
     have hzn := hbn.size
     have hsx := hX.size
     replace B := B.trans (hbn.mono B.size)
     replace hX := hX.trans (hbn.mono hX.size)
     try replace p3 := p3.below hbn
     try replace p4 := p4.below hbn
     refine hK _ _ ⟨fun _ => ⟨_, ov_of hX⟩, ?_⟩
     clear hK K
     try simp only [gelS]
     simp only [putS]
     refine anyX_seq (by kernel_rfl) (by kernel_rfl) ?_
     simp only [List.drop_succ_cons, List.drop_zero]
     go_wp2_with (first | (refine wpList_storeB (t := 95) rfl _ _ rfl _ rfl _ rfl p3 (by kernel_rfl) rfl (by simp [Value.oneCell']) (stK B (by omega) ?_); clear p3 B; intro wn p3 hcn hsz hzn B; (try replace p4 := p4.of_eq (hcn.block _ p4.lt (by omega))); simp only [putS]) | (refine wpList_storeB (t := 95) rfl _ _ rfl _ rfl _ rfl p4 (by kernel_rfl) rfl (by simp [Value.oneCell']) (stK B (by omega) ?_); clear p4 B; intro wn p4 hcn hsz hzn B; (try replace p3 := p3.of_eq (hcn.block _ p3.lt (by omega))); simp only [putS]) | fail)
     refine NoPan.normal ?_
     go_wp2_with fail
     go_meet
     exact ⟨b_p3, b_p4, rfl, rfl, B, by omega, by omega, p3, p4⟩
   ·skip
    try simp only [gelS]
    refine owp_allocBk (t := 95) _ (run_alloc_Ps _ _ rfl) ?_
    intro b_p4 wn hle hge ht hbn hzn
    have hsz := B.size
    have hsx := hX.size
    replace B := B.trans (hbn.mono (by omega))
    replace hX := hX.trans (hbn.mono (by omega))
    try first | (have hlt := p3.lt; replace p3 := p3.of_eq (hbn.block _ (by omega))) | replace p3 := p3.below (hbn.mono hle)
    try first | (have hlt := p4.lt; replace p4 := p4.of_eq (hbn.block _ (by omega))) | replace p4 := p4.below (hbn.mono hle)
    have p4 := ht
    clear ht
    refine hK _ _ ⟨fun _ => ⟨_, ov_of hX⟩, ?_⟩
    clear hK K
    try simp only [gelS]
    simp only [putS]
    refine anyX_two 13 14 rfl rfl (by kernel_rfl) rfl rfl (fun K hK => ?_) (fun K hK => ?_)
    ·skip
     try simp only [gelS]
     go_simp
     go_at_call 81
     refine (P_AtO (c.x1 - 1) (c.y1 - 1) _ wf3.out wf4.out).mono ?_
     rintro e wn ⟨rfl, hbn⟩
     have hsz := B.size
     have hzn := hbn.size
     have hsx := hX.size
     replace B := B.trans (hbn.mono B.size)
     replace hX := hX.trans (hbn.mono hX.size)
     try replace p3 := p3.below hbn
     try replace p4 := p4.below hbn
     refine hK _ _ ⟨fun _ => ⟨_, ov_of hX⟩, ?_⟩
     clear hK K
     try simp only [gelS]
     simp only [putS]
     refine anyX_next 14 rfl (by kernel_rfl) rfl (fun K hK => ?_)
     try simp only [gelS]
     refine owp_allocBk (t := 95) _ (run_alloc_Ps _ _ rfl) ?_
     intro b_p3 wn hle hge ht hbn hzn
     have hsz := B.size
     have hsx := hX.size
     replace B := B.trans (hbn.mono (by omega))
     replace hX := hX.trans (hbn.mono (by omega))
     try first | (have hlt := p3.lt; replace p3 := p3.of_eq (hbn.block _ (by omega))) | replace p3 := p3.below (hbn.mono hle)
     try first | (have hlt := p4.lt; replace p4 := p4.of_eq (hbn.block _ (by omega))) | replace p4 := p4.below (hbn.mono hle)
     have p3 := ht
     clear ht
     refine hK _ _ ⟨fun _ => ⟨_, ov_of hX⟩, ?_⟩
     clear hK K
     try simp only [gelS]
     simp only [putS]
     refine anyX_seq (by kernel_rfl) (by kernel_rfl) ?_
     simp only [List.drop_succ_cons, List.drop_zero]
     go_wp2_with (first | (refine wpList_storeB (t := 95) rfl _ _ rfl _ rfl _ rfl p3 (by kernel_rfl) rfl (by simp [Value.oneCell']) (stK B (by omega) ?_); clear p3 B; intro wn p3 hcn hsz hzn B; (try replace p4 := p4.of_eq (hcn.block _ p4.lt (by omega))); simp only [putS]) | (refine wpList_storeB (t := 95) rfl _ _ rfl _ rfl _ rfl p4 (by kernel_rfl) rfl (by simp [Value.oneCell']) (stK B (by omega) ?_); clear p4 B; intro wn p4 hcn hsz hzn B; (try replace p3 := p3.of_eq (hcn.block _ p3.lt (by omega))); simp only [putS]) | fail)
     refine NoPan.normal ?_
     go_wp2_with fail
     go_meet
     exact ⟨b_p3, b_p4, rfl, rfl, B, by omega, by omega, p3, p4⟩
    ·skip
     try simp only [gelS]
     refine owp_allocBk (t := 95) _ (run_alloc_Ps _ _ rfl) ?_
     intro b_p3 wn hle hge ht hbn hzn
     have hsz := B.size
     have hsx := hX.size
     replace B := B.trans (hbn.mono (by omega))
     replace hX := hX.trans (hbn.mono (by omega))
     try first | (have hlt := p3.lt; replace p3 := p3.of_eq (hbn.block _ (by omega))) | replace p3 := p3.below (hbn.mono hle)
     try first | (have hlt := p4.lt; replace p4 := p4.of_eq (hbn.block _ (by omega))) | replace p4 := p4.below (hbn.mono hle)
     have p3 := ht
     clear ht
     refine hK _ _ ⟨fun _ => ⟨_, ov_of hX⟩, ?_⟩
     clear hK K
     try simp only [gelS]
     simp only [putS]
     refine anyX_next 13 rfl (by kernel_rfl) rfl (fun K hK => ?_)
     try simp only [gelS]
     go_simp
     go_at_call 81
     refine (P_AtO (c.x1 - 1) (c.y1 - 1) _ wf3.out wf4.out).mono ?_
     rintro e wn ⟨rfl, hbn⟩
     have hsz := B.size
     have hzn := hbn.size
     have hsx := hX.size
     replace B := B.trans (hbn.mono B.size)
     replace hX := hX.trans (hbn.mono hX.size)
     try replace p3 := p3.below hbn
     try replace p4 := p4.below hbn
     refine hK _ _ ⟨fun _ => ⟨_, ov_of hX⟩, ?_⟩
     clear hK K
     try simp only [gelS]
     simp only [putS]
     refine anyX_seq (by kernel_rfl) (by kernel_rfl) ?_
     simp only [List.drop_succ_cons, List.drop_zero]
     go_wp2_with (first | (refine wpList_storeB (t := 95) rfl _ _ rfl _ rfl _ rfl p3 (by kernel_rfl) rfl (by simp [Value.oneCell']) (stK B (by omega) ?_); clear p3 B; intro wn p3 hcn hsz hzn B; (try replace p4 := p4.of_eq (hcn.block _ p4.lt (by omega))); simp only [putS]) | (refine wpList_storeB (t := 95) rfl _ _ rfl _ rfl _ rfl p4 (by kernel_rfl) rfl (by simp [Value.oneCell']) (stK B (by omega) ?_); clear p4 B; intro wn p4 hcn hsz hzn B; (try replace p3 := p3.of_eq (hcn.block _ p3.lt (by omega))); simp only [putS]) | fail)
     refine NoPan.normal ?_
     go_wp2_with fail
     go_meet
     exact ⟨b_p3, b_p4, rfl, rfl, B, by omega, by omega, p3, p4⟩
  ·skip
   try simp only [gelS]
   refine owp_allocBk (t := 95) _ (run_alloc_Ps _ _ rfl) ?_
   intro b_p3 wn hle hge ht hbn hzn
   have hsz := B.size
   have hsx := hX.size
   replace B := B.trans (hbn.mono (by omega))
   replace hX := hX.trans (hbn.mono (by omega))
   try first | (have hlt := p3.lt; replace p3 := p3.of_eq (hbn.block _ (by omega))) | replace p3 := p3.below (hbn.mono hle)
   try first | (have hlt := p4.lt; replace p4 := p4.of_eq (hbn.block _ (by omega))) | replace p4 := p4.below (hbn.mono hle)
   have p3 := ht
   clear ht
   refine hK _ _ ⟨fun _ => ⟨_, ov_of hX⟩, ?_⟩
   clear hK K
   try simp only [gelS]
   simp only [putS]
   refine anyX_two 5 15 rfl rfl (by kernel_rfl) rfl rfl (fun K hK => ?_) (fun K hK => ?_)
   ·skip
    try simp only [gelS]
    go_simp
    go_at_call 81
    refine (P_AtO c.x0 c.y0 _ wf1.out wf2.out).mono ?_
    rintro e wn ⟨rfl, hbn⟩
    have hsz := B.size
    have hzn := hbn.size
    have hsx := hX.size
    replace B := B.trans (hbn.mono B.size)
    replace hX := hX.trans (hbn.mono hX.size)
    try replace p3 := p3.below hbn
    try replace p4 := p4.below hbn
    refine hK _ _ ⟨fun _ => ⟨_, ov_of hX⟩, ?_⟩
    clear hK K
    try simp only [gelS]
    simp only [putS]
    refine anyX_two 13 15 rfl rfl (by kernel_rfl) rfl rfl (fun K hK => ?_) (fun K hK => ?_)
    ·skip
     try simp only [gelS]
     go_simp
     go_at_call 81
     refine (P_AtO (c.x1 - 1) (c.y1 - 1) _ wf3.out wf4.out).mono ?_
     rintro e wn ⟨rfl, hbn⟩
     have hsz := B.size
     have hzn := hbn.size
     have hsx := hX.size
     replace B := B.trans (hbn.mono B.size)
     replace hX := hX.trans (hbn.mono hX.size)
     try replace p3 := p3.below hbn
     try replace p4 := p4.below hbn
     refine hK _ _ ⟨fun _ => ⟨_, ov_of hX⟩, ?_⟩
     clear hK K
     try simp only [gelS]
     simp only [putS]
     refine anyX_next 15 rfl (by kernel_rfl) rfl (fun K hK => ?_)
     try simp only [gelS]
     refine owp_allocBk (t := 95) _ (run_alloc_Ps _ _ rfl) ?_
     intro b_p4 wn hle hge ht hbn hzn
     have hsz := B.size
     have hsx := hX.size
     replace B := B.trans (hbn.mono (by omega))
     replace hX := hX.trans (hbn.mono (by omega))
     try first | (have hlt := p3.lt; replace p3 := p3.of_eq (hbn.block _ (by omega))) | replace p3 := p3.below (hbn.mono hle)
     try first | (have hlt := p4.lt; replace p4 := p4.of_eq (hbn.block _ (by omega))) | replace p4 := p4.below (hbn.mono hle)
     have p4 := ht
     clear ht
     refine hK _ _ ⟨fun _ => ⟨_, ov_of hX⟩, ?_⟩
     clear hK K
     try simp only [gelS]
     simp only [putS]
     refine anyX_seq (by kernel_rfl) (by kernel_rfl) ?_
     simp only [List.drop_succ_cons, List.drop_zero]
     go_wp2_with (first | (refine wpList_storeB (t := 95) rfl _ _ rfl _ rfl _ rfl p3 (by kernel_rfl) rfl (by simp [Value.oneCell']) (stK B (by omega) ?_); clear p3 B; intro wn p3 hcn hsz hzn B; (try replace p4 := p4.of_eq (hcn.block _ p4.lt (by omega))); simp only [putS]) | (refine wpList_storeB (t := 95) rfl _ _ rfl _ rfl _ rfl p4 (by kernel_rfl) rfl (by simp [Value.oneCell']) (stK B (by omega) ?_); clear p4 B; intro wn p4 hcn hsz hzn B; (try replace p3 := p3.of_eq (hcn.block _ p3.lt (by omega))); simp only [putS]) | fail)
     refine NoPan.normal ?_
     go_wp2_with fail
     go_meet
     exact ⟨b_p3, b_p4, rfl, rfl, B, by omega, by omega, p3, p4⟩
    ·skip
     try simp only [gelS]
     refine owp_allocBk (t := 95) _ (run_alloc_Ps _ _ rfl) ?_
     intro b_p4 wn hle hge ht hbn hzn
     have hsz := B.size
     have hsx := hX.size
     replace B := B.trans (hbn.mono (by omega))
     replace hX := hX.trans (hbn.mono (by omega))
     try first | (have hlt := p3.lt; replace p3 := p3.of_eq (hbn.block _ (by omega))) | replace p3 := p3.below (hbn.mono hle)
     try first | (have hlt := p4.lt; replace p4 := p4.of_eq (hbn.block _ (by omega))) | replace p4 := p4.below (hbn.mono hle)
     have p4 := ht
     clear ht
     refine hK _ _ ⟨fun _ => ⟨_, ov_of hX⟩, ?_⟩
     clear hK K
     try simp only [gelS]
     simp only [putS]
     refine anyX_next 13 rfl (by kernel_rfl) rfl (fun K hK => ?_)
     try simp only [gelS]
     go_simp
     go_at_call 81
     refine (P_AtO (c.x1 - 1) (c.y1 - 1) _ wf3.out wf4.out).mono ?_
     rintro e wn ⟨rfl, hbn⟩
     have hsz := B.size
     have hzn := hbn.size
     have hsx := hX.size
     replace B := B.trans (hbn.mono B.size)
     replace hX := hX.trans (hbn.mono hX.size)
     try replace p3 := p3.below hbn
     try replace p4 := p4.below hbn
     refine hK _ _ ⟨fun _ => ⟨_, ov_of hX⟩, ?_⟩
     clear hK K
     try simp only [gelS]
     simp only [putS]
     refine anyX_seq (by kernel_rfl) (by kernel_rfl) ?_
     simp only [List.drop_succ_cons, List.drop_zero]
     go_wp2_with (first | (refine wpList_storeB (t := 95) rfl _ _ rfl _ rfl _ rfl p3 (by kernel_rfl) rfl (by simp [Value.oneCell']) (stK B (by omega) ?_); clear p3 B; intro wn p3 hcn hsz hzn B; (try replace p4 := p4.of_eq (hcn.block _ p4.lt (by omega))); simp only [putS]) | (refine wpList_storeB (t := 95) rfl _ _ rfl _ rfl _ rfl p4 (by kernel_rfl) rfl (by simp [Value.oneCell']) (stK B (by omega) ?_); clear p4 B; intro wn p4 hcn hsz hzn B; (try replace p3 := p3.of_eq (hcn.block _ p3.lt (by omega))); simp only [putS]) | fail)
     refine NoPan.normal ?_
     go_wp2_with fail
     go_meet
     exact ⟨b_p3, b_p4, rfl, rfl, B, by omega, by omega, p3, p4⟩
   ·skip
    try simp only [gelS]
    refine owp_allocBk (t := 95) _ (run_alloc_Ps _ _ rfl) ?_
    intro b_p4 wn hle hge ht hbn hzn
    have hsz := B.size
    have hsx := hX.size
    replace B := B.trans (hbn.mono (by omega))
    replace hX := hX.trans (hbn.mono (by omega))
    try first | (have hlt := p3.lt; replace p3 := p3.of_eq (hbn.block _ (by omega))) | replace p3 := p3.below (hbn.mono hle)
    try first | (have hlt := p4.lt; replace p4 := p4.of_eq (hbn.block _ (by omega))) | replace p4 := p4.below (hbn.mono hle)
    have p4 := ht
    clear ht
    refine hK _ _ ⟨fun _ => ⟨_, ov_of hX⟩, ?_⟩
    clear hK K
    try simp only [gelS]
    simp only [putS]
    refine anyX_next 5 rfl (by kernel_rfl) rfl (fun K hK => ?_)
    try simp only [gelS]
    go_simp
    go_at_call 81
    refine (P_AtO c.x0 c.y0 _ wf1.out wf2.out).mono ?_
    rintro e wn ⟨rfl, hbn⟩
    have hsz := B.size
    have hzn := hbn.size
    have hsx := hX.size
    replace B := B.trans (hbn.mono B.size)
    replace hX := hX.trans (hbn.mono hX.size)
    try replace p3 := p3.below hbn
    try replace p4 := p4.below hbn
    refine hK _ _ ⟨fun _ => ⟨_, ov_of hX⟩, ?_⟩
    clear hK K
    try simp only [gelS]
    simp only [putS]
    refine anyX_next 13 rfl (by kernel_rfl) rfl (fun K hK => ?_)
    try simp only [gelS]
    go_simp
    go_at_call 81
    refine (P_AtO (c.x1 - 1) (c.y1 - 1) _ wf3.out wf4.out).mono ?_
    rintro e wn ⟨rfl, hbn⟩
    have hsz := B.size
    have hzn := hbn.size
    have hsx := hX.size
    replace B := B.trans (hbn.mono B.size)
    replace hX := hX.trans (hbn.mono hX.size)
    try replace p3 := p3.below hbn
    try replace p4 := p4.below hbn
    refine hK _ _ ⟨fun _ => ⟨_, ov_of hX⟩, ?_⟩
    clear hK K
    try simp only [gelS]
    simp only [putS]
    refine anyX_seq (by kernel_rfl) (by kernel_rfl) ?_
    simp only [List.drop_succ_cons, List.drop_zero]
    go_wp2_with (first | (refine wpList_storeB (t := 95) rfl _ _ rfl _ rfl _ rfl p3 (by kernel_rfl) rfl (by simp [Value.oneCell']) (stK B (by omega) ?_); clear p3 B; intro wn p3 hcn hsz hzn B; (try replace p4 := p4.of_eq (hcn.block _ p4.lt (by omega))); simp only [putS]) | (refine wpList_storeB (t := 95) rfl _ _ rfl _ rfl _ rfl p4 (by kernel_rfl) rfl (by simp [Value.oneCell']) (stK B (by omega) ?_); clear p4 B; intro wn p4 hcn hsz hzn B; (try replace p3 := p3.of_eq (hcn.block _ p3.lt (by omega))); simp only [putS]) | fail)
    refine NoPan.normal ?_
    go_wp2_with fail
    go_meet
    exact ⟨b_p3, b_p4, rfl, rfl, B, by omega, by omega, p3, p4⟩
  ·skip
   try simp only [gelS]
   refine owp_allocBk (t := 95) _ (run_alloc_Ps _ _ rfl) ?_
   intro b_p4 wn hle hge ht hbn hzn
   have hsz := B.size
   have hsx := hX.size
   replace B := B.trans (hbn.mono (by omega))
   replace hX := hX.trans (hbn.mono (by omega))
   try first | (have hlt := p3.lt; replace p3 := p3.of_eq (hbn.block _ (by omega))) | replace p3 := p3.below (hbn.mono hle)
   try first | (have hlt := p4.lt; replace p4 := p4.of_eq (hbn.block _ (by omega))) | replace p4 := p4.below (hbn.mono hle)
   have p4 := ht
   clear ht
   refine hK _ _ ⟨fun _ => ⟨_, ov_of hX⟩, ?_⟩
   clear hK K
   try simp only [gelS]
   simp only [putS]
   refine anyX_two 5 14 rfl rfl (by kernel_rfl) rfl rfl (fun K hK => ?_) (fun K hK => ?_)
   ·skip
    try simp only [gelS]
    go_simp
    go_at_call 81
    refine (P_AtO c.x0 c.y0 _ wf1.out wf2.out).mono ?_
    rintro e wn ⟨rfl, hbn⟩
    have hsz := B.size
    have hzn := hbn.size
    have hsx := hX.size
    replace B := B.trans (hbn.mono B.size)
    replace hX := hX.trans (hbn.mono hX.size)
    try replace p3 := p3.below hbn
    try replace p4 := p4.below hbn
    refine hK _ _ ⟨fun _ => ⟨_, ov_of hX⟩, ?_⟩
    clear hK K
    try simp only [gelS]
    simp only [putS]
    refine anyX_two 13 14 rfl rfl (by kernel_rfl) rfl rfl (fun K hK => ?_) (fun K hK => ?_)
    ·skip
     try simp only [gelS]
     go_simp
     go_at_call 81
     refine (P_AtO (c.x1 - 1) (c.y1 - 1) _ wf3.out wf4.out).mono ?_
     rintro e wn ⟨rfl, hbn⟩
     have hsz := B.size
     have hzn := hbn.size
     have hsx := hX.size
     replace B := B.trans (hbn.mono B.size)
     replace hX := hX.trans (hbn.mono hX.size)
     try replace p3 := p3.below hbn
     try replace p4 := p4.below hbn
     refine hK _ _ ⟨fun _ => ⟨_, ov_of hX⟩, ?_⟩
     clear hK K
     try simp only [gelS]
     simp only [putS]
     refine anyX_next 14 rfl (by kernel_rfl) rfl (fun K hK => ?_)
     try simp only [gelS]
     refine owp_allocBk (t := 95) _ (run_alloc_Ps _ _ rfl) ?_
     intro b_p3 wn hle hge ht hbn hzn
     have hsz := B.size
     have hsx := hX.size
     replace B := B.trans (hbn.mono (by omega))
     replace hX := hX.trans (hbn.mono (by omega))
     try first | (have hlt := p3.lt; replace p3 := p3.of_eq (hbn.block _ (by omega))) | replace p3 := p3.below (hbn.mono hle)
     try first | (have hlt := p4.lt; replace p4 := p4.of_eq (hbn.block _ (by omega))) | replace p4 := p4.below (hbn.mono hle)
     have p3 := ht
     clear ht
     refine hK _ _ ⟨fun _ => ⟨_, ov_of hX⟩, ?_⟩
     clear hK K
     try simp only [gelS]
     simp only [putS]
     refine anyX_seq (by kernel_rfl) (by kernel_rfl) ?_
     simp only [List.drop_succ_cons, List.drop_zero]
     go_wp2_with (first | (refine wpList_storeB (t := 95) rfl _ _ rfl _ rfl _ rfl p3 (by kernel_rfl) rfl (by simp [Value.oneCell']) (stK B (by omega) ?_); clear p3 B; intro wn p3 hcn hsz hzn B; (try replace p4 := p4.of_eq (hcn.block _ p4.lt (by omega))); simp only [putS]) | (refine wpList_storeB (t := 95) rfl _ _ rfl _ rfl _ rfl p4 (by kernel_rfl) rfl (by simp [Value.oneCell']) (stK B (by omega) ?_); clear p4 B; intro wn p4 hcn hsz hzn B; (try replace p3 := p3.of_eq (hcn.block _ p3.lt (by omega))); simp only [putS]) | fail)
     refine NoPan.normal ?_
     go_wp2_with fail
     go_meet
     exact ⟨b_p3, b_p4, rfl, rfl, B, by omega, by omega, p3, p4⟩
    ·skip
     try simp only [gelS]
     refine owp_allocBk (t := 95) _ (run_alloc_Ps _ _ rfl) ?_
     intro b_p3 wn hle hge ht hbn hzn
     have hsz := B.size
     have hsx := hX.size
     replace B := B.trans (hbn.mono (by omega))
     replace hX := hX.trans (hbn.mono (by omega))
     try first | (have hlt := p3.lt; replace p3 := p3.of_eq (hbn.block _ (by omega))) | replace p3 := p3.below (hbn.mono hle)
     try first | (have hlt := p4.lt; replace p4 := p4.of_eq (hbn.block _ (by omega))) | replace p4 := p4.below (hbn.mono hle)
     have p3 := ht
     clear ht
     refine hK _ _ ⟨fun _ => ⟨_, ov_of hX⟩, ?_⟩
     clear hK K
     try simp only [gelS]
     simp only [putS]
     refine anyX_next 13 rfl (by kernel_rfl) rfl (fun K hK => ?_)
     try simp only [gelS]
     go_simp
     go_at_call 81
     refine (P_AtO (c.x1 - 1) (c.y1 - 1) _ wf3.out wf4.out).mono ?_
     rintro e wn ⟨rfl, hbn⟩
     have hsz := B.size
     have hzn := hbn.size
     have hsx := hX.size
     replace B := B.trans (hbn.mono B.size)
     replace hX := hX.trans (hbn.mono hX.size)
     try replace p3 := p3.below hbn
     try replace p4 := p4.below hbn
     refine hK _ _ ⟨fun _ => ⟨_, ov_of hX⟩, ?_⟩
     clear hK K
     try simp only [gelS]
     simp only [putS]
     refine anyX_seq (by kernel_rfl) (by kernel_rfl) ?_
     simp only [List.drop_succ_cons, List.drop_zero]
     go_wp2_with (first | (refine wpList_storeB (t := 95) rfl _ _ rfl _ rfl _ rfl p3 (by kernel_rfl) rfl (by simp [Value.oneCell']) (stK B (by omega) ?_); clear p3 B; intro wn p3 hcn hsz hzn B; (try replace p4 := p4.of_eq (hcn.block _ p4.lt (by omega))); simp only [putS]) | (refine wpList_storeB (t := 95) rfl _ _ rfl _ rfl _ rfl p4 (by kernel_rfl) rfl (by simp [Value.oneCell']) (stK B (by omega) ?_); clear p4 B; intro wn p4 hcn hsz hzn B; (try replace p3 := p3.of_eq (hcn.block _ p3.lt (by omega))); simp only [putS]) | fail)
     refine NoPan.normal ?_
     go_wp2_with fail
     go_meet
     exact ⟨b_p3, b_p4, rfl, rfl, B, by omega, by omega, p3, p4⟩
   ·skip
    try simp only [gelS]
    refine owp_allocBk (t := 95) _ (run_alloc_Ps _ _ rfl) ?_
    intro b_p3 wn hle hge ht hbn hzn
    have hsz := B.size
    have hsx := hX.size
    replace B := B.trans (hbn.mono (by omega))
    replace hX := hX.trans (hbn.mono (by omega))
    try first | (have hlt := p3.lt; replace p3 := p3.of_eq (hbn.block _ (by omega))) | replace p3 := p3.below (hbn.mono hle)
    try first | (have hlt := p4.lt; replace p4 := p4.of_eq (hbn.block _ (by omega))) | replace p4 := p4.below (hbn.mono hle)
    have p3 := ht
    clear ht
    refine hK _ _ ⟨fun _ => ⟨_, ov_of hX⟩, ?_⟩
    clear hK K
    try simp only [gelS]
    simp only [putS]
    refine anyX_next 5 rfl (by kernel_rfl) rfl (fun K hK => ?_)
    try simp only [gelS]
    go_simp
    go_at_call 81
    refine (P_AtO c.x0 c.y0 _ wf1.out wf2.out).mono ?_
    rintro e wn ⟨rfl, hbn⟩
    have hsz := B.size
    have hzn := hbn.size
    have hsx := hX.size
    replace B := B.trans (hbn.mono B.size)
    replace hX := hX.trans (hbn.mono hX.size)
    try replace p3 := p3.below hbn
    try replace p4 := p4.below hbn
    refine hK _ _ ⟨fun _ => ⟨_, ov_of hX⟩, ?_⟩
    clear hK K
    try simp only [gelS]
    simp only [putS]
    refine anyX_next 13 rfl (by kernel_rfl) rfl (fun K hK => ?_)
    try simp only [gelS]
    go_simp
    go_at_call 81
    refine (P_AtO (c.x1 - 1) (c.y1 - 1) _ wf3.out wf4.out).mono ?_
    rintro e wn ⟨rfl, hbn⟩
    have hsz := B.size
    have hzn := hbn.size
    have hsx := hX.size
    replace B := B.trans (hbn.mono B.size)
    replace hX := hX.trans (hbn.mono hX.size)
    try replace p3 := p3.below hbn
    try replace p4 := p4.below hbn
    refine hK _ _ ⟨fun _ => ⟨_, ov_of hX⟩, ?_⟩
    clear hK K
    try simp only [gelS]
    simp only [putS]
    refine anyX_seq (by kernel_rfl) (by kernel_rfl) ?_
    simp only [List.drop_succ_cons, List.drop_zero]
    go_wp2_with (first | (refine wpList_storeB (t := 95) rfl _ _ rfl _ rfl _ rfl p3 (by kernel_rfl) rfl (by simp [Value.oneCell']) (stK B (by omega) ?_); clear p3 B; intro wn p3 hcn hsz hzn B; (try replace p4 := p4.of_eq (hcn.block _ p4.lt (by omega))); simp only [putS]) | (refine wpList_storeB (t := 95) rfl _ _ rfl _ rfl _ rfl p4 (by kernel_rfl) rfl (by simp [Value.oneCell']) (stK B (by omega) ?_); clear p4 B; intro wn p4 hcn hsz hzn B; (try replace p3 := p3.of_eq (hcn.block _ p3.lt (by omega))); simp only [putS]) | fail)
    refine NoPan.normal ?_
    go_wp2_with fail
    go_meet
    exact ⟨b_p3, b_p4, rfl, rfl, B, by omega, by omega, p3, p4⟩
 case rest =>
 clear B r0 r0B
 obtain ⟨b_p3, b_p4, rfl, rfl, B, k3, k4, p3, p4⟩ := hcut
 have hJ := HJ.out _ B
 have n3 : b_p3 ≠ b8 := by omega
 have n4 : b_p4 ≠ b8 := by omega
 clear B HJ
 go_upto_region 2 with fail
 refine wp_region_lit ?_
 try simp only [gelS]
 refine chk 7 ?_
 refine wpList_nil ?_
 go_wp2
 go_loopw [5, 6, 29] (fun _ _ iv wr => ∃ k : Nat, k ≤ H ∧ iv = .int .i64 (k : Int) ∧ J (fpre (tlN c) (W * k)) wr ∧ AtB 95 wr b_p3 #[.int .i64 (c.x0 / 8), .int .i64 (c.y0 / 8)] ∧ AtB 95 wr b_p4 #[.int .i64 ((c.x1 - 1) / 8), .int .i64 ((c.y1 - 1) / 8)]) (fun _ _ iv _ => (H - intOf iv).toNat)
 case atStart => exact ⟨0, by omega, by simp, by rw [Nat.mul_zero, fpre_zero]; exact hJ, p3, p4⟩
 case round =>
  clear p3 p4 hJ
  obtain ⟨k, hk, rfl, hJ, p3, p4⟩ := hrel
  by_cases hkH : k < H
  ·have q1 : decide ((k : Int) < (c.y1 - 1) / 8 - c.y0 / 8 + 1) = true := decide_eq_true (by omega)
   have hn2 : W * k + W ≤ W * H := by
    have := Nat.mul_le_mul_left W (show k + 1 ≤ H from hkH)
    rw [Nat.mul_succ] at this
    exact this
   go_upto_region 3 with fail
   refine wp_region_lit ?_
   try simp only [gelS]
   refine chk 1 ?_
   refine wpList_nil ?_
   go_upto_region 4 with fail
   refine wp_region_lit ?_
   try simp only [gelS]
   refine chk 2 ?_
   refine wpList_nil ?_
   go_upto_region 5 with fail
   refine wp_region_lit ?_
   try simp only [gelS]
   refine chk 7 ?_
   refine wpList_nil ?_
   go_wp2
   go_loopw [6, 38] (fun _ iv wr => ∃ j : Nat, j ≤ W ∧ iv = .int .i64 (j : Int) ∧ J (fpre (tlN c) (W * k + j)) wr ∧ AtB 95 wr b_p3 #[.int .i64 (c.x0 / 8), .int .i64 (c.y0 / 8)] ∧ AtB 95 wr b_p4 #[.int .i64 ((c.x1 - 1) / 8), .int .i64 ((c.y1 - 1) / 8)]) (fun _ iv _ => (W - intOf iv).toNat)
   case atStart => exact ⟨0, by omega, by simp, hJ, p3, p4⟩
   case round =>
    clear p3 p4 hJ
    obtain ⟨j, hj, rfl, hJ, p3, p4⟩ := hrel
    by_cases hjW : j < W
    ·have q2 : decide ((j : Int) < (c.x1 - 1) / 8 - c.x0 / 8 + 1) = true := decide_eq_true (by omega)
     have hlt : W * k + j < tlN c := by omega
     go_upto_region 6 with fail
     refine wp_region_lit ?_
     try simp only [gelS]
     refine chk 1 ?_
     refine wpList_nil ?_
     go_upto_region 7 with fail
     refine wp_region_lit ?_
     try simp only [gelS]
     refine chk 2 ?_
     refine wpList_nil ?_
     go_upto_region 8 with fail
     obtain ⟨fn, tmps, assign, body, hy, hR⟩ := HY.out (fpre (tlN c) (W * k + j)) ⟨W * k + j, hlt⟩ _ hJ (by rw [fpre_length (by omega)]; exact hlt)
     have ep : posF c ⟨W * k + j, hlt⟩ = (c.x0 / 8 + (j : Int), c.y0 / 8 + (k : Int)) := HR.out k j hjW
     rw [ep] at hy
     try dsimp only at hy
     rw [← fpre_succ hlt] at hR
     have c0 := p3.cellL 0 rfl
     have c1 := p3.cellL 1 rfl
     try dsimp only at c0 c1
     refine (wpIn_wide (n := n)).1 ?_
     gi_wp2
     refine hR.mono ?_
     rintro e W1 (⟨rfl, hJ1, hkp⟩ | ⟨rfl, hx1⟩)
     ·replace p3 := hkp.atB n3 p3
      replace p4 := hkp.atB n4 p4
      clear c0 c1
      gi_wp2
      go_wp2
      go_roundw
      case rel => exact ⟨j + 1, by omega, by go_num, hJ1, p3, p4⟩
      case measure => simp [intOf]; omega
     ·gi_wp2
      go_wp2
      refine bodyPost_ret (results_none rfl _ _ _) rfl ?_
      exact ⟨⟨_, rfl⟩, .inr ⟨_, trivial, hx1⟩⟩
    ·obtain rfl : j = W := by omega
     have q2 : decide ((j : Int) < (c.x1 - 1) / 8 - c.x0 / 8 + 1) = false := decide_eq_false (by omega)
     go_upto_region 6 with fail
     refine wp_region_lit ?_
     try simp only [gelS]
     refine chk 1 ?_
     refine wpList_nil ?_
     go_upto_region 10 with fail
     refine wp_region_lit ?_
     try simp only [gelS]
     refine chk 2 ?_
     refine wpList_nil ?_
     go_wp2
     go_roundw
     case rel => exact ⟨k + 1, by omega, by go_num, by rw [Nat.mul_succ]; exact hJ, p3, p4⟩
     case measure => simp [intOf]; omega
  ·obtain rfl : k = H := by omega
   have q1 : decide ((k : Int) < (c.y1 - 1) / 8 - c.y0 / 8 + 1) = false := decide_eq_false (by omega)
   go_upto_region 3 with fail
   refine wp_region_lit ?_
   try simp only [gelS]
   refine chk 1 ?_
   refine wpList_nil ?_
   go_wp2
   go_end0
   have eF : fpre (tlN c) (W * k) = List.finRange (tlN c) := by rw [← hew]; exact fpre_all _
   rw [eF] at hJ
   exact ⟨⟨_, rfl⟩, .inl ⟨_, rfl, hJ⟩⟩
/- Contract of Paste of package raster, where the rectangle fits. -/
attribute [local go_sem] Oper.semAt_some
set_option linter.unusedVariables false
set_option linter.unusedSimpArgs false
set_option maxRecDepth 20000
theorem run_alloc_Sl (w : World) (o : Oper) (ho : o.op = .alloc 62) (ev : Operand → Value) : (execOp ev o).run Tryz.prog w = .ok (.value (.pointer (some ⟨w.heap.size, 0, none⟩))) (w.alloc (.cells #[.slice none 0 0] 62)) := by
 obtain ⟨d, p, t, ps, af, gd⟩ := o
 simp only at ho
 subst ho
 kernel_rfl
/-- A slice stored into its own cell. -/
theorem wpList_storeSl {v : Value} {ops : Array Oper} {rest : List Oper} {o : Oper} {a : Act} {w : World} {Q : Exit → Act → World → Prop} (hg : o.guard = none) (x y : Operand) (ho : o.op = .store 62 x y) (b : Nat) (hx : a.eval x = .pointer (some ⟨b, 0, none⟩)) (a' : Option Addr) (n' c' : Nat) (hy : a.eval y = .slice a' n' c') (ht : AtB 62 w b #[v])
  (h : ∀ w', AtB 62 w' b #[.slice a' n' c'] → Chg b w w' → w'.heap.size = w.heap.size → wpList Tryz.prog ops Q rest (a.put o.dst undef) w') : wpList Tryz.prog ops Q (o :: rest) a w := by
 have c0 := ht.cell 0 rfl
 have f0 := ht.frozen 0
 refine wpList_storeAny hg x y ho (w.setCell ⟨b, 0, none⟩ (.slice a' n' c')) ?_ (h _ ?_ ((Chg.refl b w).setCell _) (by simp only [World.size_setCell]))
 ·rw [hx, hy]
  simp [go_sem, c0, f0]
 ·exact heap_setCell_same w b 0 #[v] _ _ ht
theorem wpList_val {ops : Array Oper} {rest : List Oper} {o : Oper} {a : Act} {w : World} {Q : Exit → Act → World → Prop} (hg : o.guard = none) (v : Value) (hrun : (execOp a.eval o).run Tryz.prog w = .ok (.value v) w)
  (h : wpList Tryz.prog ops Q rest (a.put o.dst v) w) : wpList Tryz.prog ops Q (o :: rest) a w :=
 wpList_plain hg fun K hK => by
  unfold Oper.wp
  rw [hrun]
  exact hK _ _ h
theorem fill_TA0 (x y : Int) : Instr.fill (fun i => #[(0, 2), (2, 256)][i]?) zTA [(0, Ps.v x y)] = some (taC ⟨x, y, zT⟩) := by
 obtain ⟨r, hs, hr, e⟩ := fill_cons (place := fun i => #[(0, 2), (2, 256)][i]?) (cells := zTA) (i := 0) (v := Ps.v x y) (rest := []) (off := 0) (sz := 2) rfl (by rw [cells_ps]; rfl) (by rw [size_zTA]; omega)
 rw [e]
 show some r = _
 congr 1
 apply Array.ext_getElem?
 intro k
 rw [hr k, taC_get, cells_ps]
 by_cases h2 : k < 2
 ·rw [if_pos (by omega), if_pos h2, Nat.sub_zero]
 ·rw [if_neg (by omega), if_neg h2]
  have hz : zTA[k]? = (tileC zT)[k - 2]? := by
   have e : zTA = #[.int .i64 0, .int .i64 0] ++ tileC zT := by unfold zTA; kernel_rfl
   rw [e, Array.getElem?_append_right (by simp; omega)]
   rfl
  exact hz
theorem run_build_TA0 (w : World) (x y : Int) : (Instr.build 125 #[(0, Ps.v x y)]).run Tryz.prog w = .ok (.agg (taC ⟨x, y, zT⟩)) w :=
 run_build w 125 #[(0, Ps.v x y)] _ ((built_TA _).trans (fill_TA0 x y))
theorem quiet_buildTA0 {o : Oper} {a : Act} {C : World → Prop} {K : Act → Prop} {p : Operand} (h : o.op = .build 125 #[(0, p)]) (x y : Int) (hp : a.eval p = .agg #[.int .i64 x, .int .i64 y]) (hk : K (a.put o.dst (.agg (taC ⟨x, y, zT⟩)))) : o.quiet Tryz.prog a C K :=
 ⟨_, fun w hw => by
  have r := run_build_TA0 w x y
  simp only [Ps.v] at r
  unfold Oper.quietAt execOp
  simp only [h, List.map_toArray, List.map_cons, List.map_nil, hp, Sem.run_bind, r, Result.andThen_ok, Sem.run_pure]
  exact ⟨rfl, rfl⟩, hk⟩
theorem below_same {b : Nat} {w w' : World} (h : Chg b w w') (e : w'.heap[b]? = w.heap[b]?) : Below w.heap.size w w' :=
 ⟨h.os, h.tape, h.output, h.size, fun k hk => by
  by_cases hb : k = b
  ·subst hb; exact e
  ·exact h.block k hk hb⟩
theorem RCellsE.ownP {g o : Nat} {ls : List Px} {A B : World} {row : Option Nat} (h : RCellsE pxE g o ls A) (hn : 0 < ls.length) (hg : A.grownBy B row) (hr : ∀ r, row = some r → ∃ o : Obj, A.heap[r]? = some o ∧ o.isCells = false) : RCellsE pxE g o ls B := by
 refine h.of_eq (hg.block g h.lt fun e => ?_)
 obtain ⟨x, hx, hc⟩ := hr g e.symm
 have h0 := h.2 0 _ (List.getElem?_eq_getElem hn) 0 (by omega)
 have hs : ∃ v, (pxE.enc ls[0])[0]? = some v := ⟨_, rfl⟩
 obtain ⟨v, hv⟩ := hs
 rw [hv] at h0
 have := cell_not h0 x hx
 rw [hc] at this
 cases this
/-- The pixels of one tile turned by the paste. -/
theorem P_mapPst (c : Rc) (hf : Fits c) (L : List Px) (hL : L.length = areaN c) (okL : OkL L) (e : TA) (a : Option Addr) (cp0 : Nat) (bc bm cb g o cp : Nat) (z : Nat → Px) (w : World) (rs : RS (.slice a 1 cp0) [e] w) (tk : Tok e.t) (hw : withinB e.x e.y = true) (r0 : AtB 38 w bc (rcA c)) (m0 : AtB 117 w bm (imgC c (.slice (some ⟨g, o, none⟩) (areaN c) cp))) (ce : RCellsE pxE g o L w) (tz : TileAt w cb z) (hsep : (Value.slice a 1 cp0).ownBlock ≠ some cb) :
  Calls Tryz.prog 126 #[.slice a 1 cp0, .func (.func 131) #[] #[.pointer (some ⟨bc, 0, none⟩), .pointer (some ⟨bm, 0, none⟩)]] w fun e' w' => ∃ a' cp', e' = .returned (.slice a' (newA e.x e.y (pstT c L e.x e.y e.t)).length cp') ∧ RS (.slice a' (newA e.x e.y (pstT c L e.x e.y e.t)).length cp') (newA e.x e.y (pstT c L e.x e.y e.t)) w' ∧ Below w.heap.size w w' := by
 have eg := enters_of Tryz.func131 (by kernel_rfl) rfl
 have l1 := r0.lt
 have l2 := m0.lt
 have l3 := ce.lt
 have l4 := tz.lt
 refine (P_mapped (pstF c L) (fun _ W => AtB 38 W bc (rcA c) ∧ AtB 117 W bm (imgC c (.slice (some ⟨g, o, none⟩) (areaN c) cp)) ∧ RCellsE pxE g o L W ∧ TileAt W cb z) cb 131 #[.pointer (some ⟨bc, 0, none⟩), .pointer (some ⟨bm, 0, none⟩)] eg _ [e] () w rs (fun x hx => by rcases List.mem_singleton.1 hx with rfl; exact tk) (by simp) (fun x hx => by rcases List.mem_singleton.1 hx with rfl; exact hw) l4 (fun _ => hsep) ⟨r0, m0, ce, tz⟩
  (fun s W W' hI hk => ⟨hI.1.of_eq (hk _ l1), hI.2.1.of_eq (hk _ l2), hI.2.2.1.of_eq (hk _ l3), hI.2.2.2.of_eq (hk _ l4)⟩)
  (fun s W x y p _ hI h1 h2 h3 h4 hp => (P_Paste1 c hf L hL okL x y p hp bc bm g o cp W hI.1 hI.2.1 hI.2.2.1).mono fun e' W' ⟨he, hb⟩ => ⟨he, ⟨hI.1.of_eq (hb.block _ hI.1.lt), hI.2.1.of_eq (hb.block _ hI.2.1.lt), hI.2.2.1.of_eq (hb.block _ hI.2.2.1.lt), hI.2.2.2.of_eq (hb.block _ hI.2.2.2.lt)⟩, Chg.of_below hb⟩)
  (fun s x y p hp => pstP_ok okL x y p hp)).mono ?_
 rintro e' w' ⟨v', rfl, od, hI, hcc⟩
 have hm : (mapK (pstF c L) [e] () [e].length).2 = newA e.x e.y (pstT c L e.x e.y e.t) := mapK_pst c L e
 rw [hm] at od
 have hb := below_same hcc (by rw [show w'.heap[cb]? = _ from hI.2.2.2, show w.heap[cb]? = _ from tz])
 obtain ⟨a', cp', rfl, _⟩ := od.len
 exact ⟨a', cp', rfl, od.rs, hb⟩
theorem P_findB (v : Value) (ls : List TA) (x y : Int) (k : Nat) (b : Bool) (w : World) (h : RS v ls w) (hs : Srt ls) (hn : ls.length ≤ 1000000) (hk : cutL ls x y = k) (hb : hitL ls x y = b) : Calls Tryz.prog 130 #[v, .agg #[.int .i64 x, .int .i64 y]] w fun e w' => e = .returned (.tuple #[.int .i64 (k : Int), .bool b]) ∧ Below w.heap.size w w' := by
 subst hk hb
 exact P_find v ls x y w h hs hn
theorem zip1_wp {F : Fence} {n : Nat} {P : Program} {c : Code} {Q : Exit → Act → World → Prop} {W : World} {t : Array Value} {p : Tmp} {v : Value} (h : c.wpIn F n P Q { tmps := t.setIfInBounds p v, defers := [] } W) :
  c.wpIn F n P Q { tmps := (#[p].zip #[v]).foldl (fun t (p, v) => t.setIfInBounds p v) t, defers := [] } W := by
 have e : (#[p].zip #[v]).foldl (fun t (p, v) => t.setIfInBounds p v) t = t.setIfInBounds p v := by
  show Array.foldl _ t (Array.zip (List.toArray [p]) (List.toArray [v])) = _
  rw [List.zip_toArray]
  simp
 rw [e]
 exact h
theorem arr_fn (t : Array Value) (n : Nat) (h : t.size = n) : ∃ U : Nat → Value, t = ((List.range n).map U).toArray ∧ ∀ i, U i = t.getD i undef := by
 refine ⟨fun i => t.getD i undef, ?_, fun _ => rfl⟩
 apply Array.ext_getElem?
 intro k
 by_cases hk : k < n
 ·simp [hk, h]
 ·simp [hk, h]
/-- A block of deferred calls, empty. -/
def DefAt (w : World) (D : Nat) : Prop := w.heap[D]? = some (.deferred (some []))
theorem DefAt.of_eq {w w' : World} {D : Nat} (h : DefAt w D) (e : w'.heap[D]? = w.heap[D]?) : DefAt w' D := e.trans h
theorem DefAt.lt {w : World} {D : Nat} (h : DefAt w D) : D < w.heap.size := (Array.getElem?_eq_some_iff.1 h).1
theorem DefAt.below {w w' : World} {D : Nat} (h : DefAt w D) (e : Below w.heap.size w w') : DefAt w' D := h.of_eq (e.block _ h.lt)
theorem DefAt.ne {w : World} {D b : Nat} {t : TypeId} {cs : Array Value} (h : DefAt w D) (k : AtB t w b cs) : b ≠ D := fun e => by
 subst e
 have k' : w.heap[b]? = _ := k
 rw [show w.heap[b]? = _ from h] at k'
 cases k'
theorem rs_mid {g o : Nat} {ls : List TA} {w : World} (sc : RCells g o ls w) {k : Nat} (hk : k < ls.length) : RS (.slice (some ⟨g, o + k * 258, none⟩) 1 1) [aT ls k] w := by
 refine .inr ⟨g, o + k * 258, 1, rfl, Nat.le_refl _, fun _ => ⟨sc.1, fun i hi j hj => ?_⟩⟩
 obtain rfl : i = 0 := by simpa using hi
 have := sc.2 k hk j hj
 rw [show o + k * 258 + (0 * 258 + j) = o + (k * 258 + j) by omega, this]
 rfl
set_option maxHeartbeats 8000000 in
theorem P_Paste_ok (v : Value) (ls : List TA) (c : Rc) (u : Value) (L : List Px) (w : World) (h : RS v ls w) (tk : TokL ls) (hn : ls.length ≤ maxLen) (hE : fitsE c = 0) (hu : RSE pxE u L w) (hL : L.length = areaN c) (okL : OkL L) : Calls Tryz.prog 77 #[.agg #[v], .agg (imgC c u)] w fun e w' => ∃ a cp, e = .returned (.tuple #[.agg #[.slice a (manyL (pstL c L (fineL ls) (posL c))).length cp], .int .i64 (manyE (pstL c L (fineL ls) (posL c)))]) ∧ RS (.slice a (manyL (pstL c L (fineL ls) (posL c))).length cp) (manyL (pstL c L (fineL ls) (posL c))) w' ∧ Below w.heap.size w w' := by
 have B := Below.refl w.heap.size w
 obtain ⟨a', c', hT⟩ := P_tiles v ls w h tk hn
 have HT := Lib.hid hT
 clear hT
 obtain ⟨a, cpv, rfl, hc⟩ := h.len
 have HF := fitsE_zero hE
 have FT := Lib.hid HF
 obtain ⟨an1, an2⟩ := area_bd HF
 have hAN := Lib.hid (area_N HF)
 have HV := Lib.hid HF.valid
 obtain ⟨ad, cu, rfl, hcu⟩ := hu.len
 obtain ⟨g, o, rfl, ce⟩ := hu.at (by have := area_N HF; omega)
 have SR := Lib.hid (validL_srt (fineL_valid ls))
 have TK := Lib.hid (fineL_tok tk)
 have hfl := fineL_length ls
 have hNle := tlN_le HF
 have OK := Lib.hid okL
 have HL := Lib.hid hL
 have HEE := Lib.hid hE
 have d1 : ((areaN c : Int) != (areaN c : Int)) = false := by simp
 rw [hL]
 rw [hL] at hcu
 clear h tk hu okL hL hE HF
 generalize hks : fineL ls = KS at *
 refine (callsIn_wide (n := 3)).1 ?_
 refine callsIn_of_wp_marks Tryz.func77 rfl trivial ?_ rfl
 simp only [Tryz.ntmps77, List.size_toArray, List.length_cons, List.length_nil, Nat.reduceAdd, Nat.reduceSub, Array.replicate_succ, Array.replicate_zero, List.push_toArray, List.append_toArray, List.nil_append, List.cons_append]
 refine wpIn_wide.2 ?_
 go_upto_region 0 with fail
 refine wp_region_lit ?_
 try simp only [gelS]
 (refine wpList_boxB (t := 64) rfl _ rfl _ rfl ?_; intro b_r2 wn hle hge ht hbn hzn; have hsz := B.size; replace B := B.trans (hbn.mono (by omega)); have hln := Nat.lt_of_lt_of_eq (Nat.lt_succ_self _) hzn.symm; clear hzn; (try have hlt := ce.lt); (try replace ce := ce.below (hbn.mono hle)); have r2 := ht; clear ht; simp only [putS])
 (refine wpList_boxB (t := 117) rfl _ rfl _ rfl ?_; intro b_m3 wn hle hge ht hbn hzn; have hsz := B.size; replace B := B.trans (hbn.mono (by omega)); have hln := Nat.lt_of_lt_of_eq (Nat.lt_succ_self _) hzn.symm; clear hzn; (try have hlt := r2.lt); (try replace r2 := r2.below (hbn.mono hle)); (try have hlt := ce.lt); (try replace ce := ce.below (hbn.mono hle)); have m3 := ht; clear ht; simp only [putS])
 (refine wpList_allocBk (t := 64) rfl _ (run_alloc_R _ _ rfl) ?_; intro b_r4 wn hle hge ht hbn hzn; have hsz := B.size; replace B := B.trans (hbn.mono (by omega)); have hln := Nat.lt_of_lt_of_eq (Nat.lt_succ_self _) hzn.symm; clear hzn; (try have hlt := r2.lt); (try replace r2 := r2.below (hbn.mono hle)); (try have hlt := m3.lt); (try replace m3 := m3.below (hbn.mono hle)); (try have hlt := ce.lt); (try replace ce := ce.below (hbn.mono hle)); have r4 := ht; clear ht; simp only [putS])
 refine chk 1 ?_
 refine wpList_nil ?_
 go_upto_region 1 with fail
 refine wp_region_lit ?_
 try simp only [gelS]
 refine chq 2 ?_
 repeat (first | go_big_quiet_skip | (go_big_quiet_want; first | ((first | refine quiet_loadAny (t := 38) rfl _ _ _ rfl (fun w hw => run_load_imR (ov_B m3 w hw)) (by first | rfl | omega) ?_ | refine qB ?_ | refine qC ?_); simp only [putS]; go_big_quiet_on) | (go_big_quiet_op; go_big_quiet_on)))
 refine wpQuiet_nil ?_
 (refine wpList_allocBk (t := 38) rfl _ (run_alloc_Rc _ _ rfl) ?_; intro b_c6 wn hle hge ht hbn hzn; have hsz := B.size; replace B := B.trans (hbn.mono (by omega)); have hln := Nat.lt_of_lt_of_eq (Nat.lt_succ_self _) hzn.symm; clear hzn; (try have hlt := r2.lt); (try replace r2 := r2.below (hbn.mono hle)); (try have hlt := m3.lt); (try replace m3 := m3.below (hbn.mono hle)); (try have hlt := r4.lt); (try replace r4 := r4.below (hbn.mono hle)); (try have hlt := c6.lt); (try replace c6 := c6.below (hbn.mono hle)); (try have hlt := ce.lt); (try replace ce := ce.below (hbn.mono hle)); have c6 := ht; clear ht; simp only [putS])
 (refine wpList_storeB (t := 38) rfl _ _ rfl _ rfl _ rfl c6 (by kernel_rfl) rfl (by simp [rcA, imgC, Value.oneCell']) (stK B (by omega) ?_); clear c6 B; intro wn c6 hcn hsz hzn B; (try replace r2 := r2.of_eq (hcn.block _ r2.lt (by omega))); (try replace m3 := m3.of_eq (hcn.block _ m3.lt (by omega))); (try replace r4 := r4.of_eq (hcn.block _ r4.lt (by omega))); (try replace ce := ce.of_eq (hcn.block _ ce.lt (by omega))); simp only [putS])
 refine wpList_nil ?_
 replace c6 : AtB 38 _ b_c6 (rcA c) := c6
 go_upto_region 2 with fail
 try simp only [gelS]
 try have lx_r2 := r2.lt
 try have lx_m3 := m3.lt
 try have lx_r4 := r4.lt
 try have lx_c6 := c6.lt
 try have lx_ce := ce.lt
 refine wp_region_RL 11 [(1, detS ?v1_1), (6, detS ?v1_6), (8, detS ?v1_8)] (by kernel_rfl) (by kernel_rfl) (by kernel_rfl) ?_
 rotate_left 3
 simp only [takS, Nat.reduceAdd]
 refine crq 1 ?_
 repeat (first | go_big_quiet_skip | (go_big_quiet_want; first | ((first | refine quiet_loadAny (t := 38) rfl _ _ _ rfl (fun w hw => run_load_imR (ov_B m3 w hw)) (by first | rfl | omega) ?_ | refine qB ?_ | refine qC ?_); simp only [putS]; go_big_quiet_on) | (go_big_quiet_op; go_big_quiet_on)))
 refine wpQuiet_nil ?_
 refine wpRL_callB (by rfl) (by first | rfl | simp [Region.wanted, yielded]) ?_ ?_
 ·intro wn hbn hE Kx hKx
  have hsz := B.size
  have hzn := hbn.size
  replace B := B.trans (hbn.mono B.size)
  (try replace r2 := r2.below hbn)
  (try replace m3 := m3.below hbn)
  (try replace r4 := r4.below hbn)
  (try replace c6 := c6.below hbn)
  (try replace ce := ce.below hbn)
  refine wp_callF rfl (enters_of Tryz.func128 (by kernel_rfl) rfl) (by simp only [Act.eval, evlS]; rfl) ?_
  refine (P_ValidRB c true _ HV.out).mono ?_
  rintro e wm ⟨rfl, hbm⟩
  refine ⟨_, rfl, ?_⟩
  have hz := hKx () wm trivial hbm
  dsimp only [detS] at hz
  exact hz
 rintro ⟨⟩
 dsimp only [detS]
 simp only [putS]
 refine crq 4 ?_
 repeat (first | go_big_quiet_skip | (go_big_quiet_want; first | ((first | refine quiet_loadAny (t := 115) rfl _ _ _ rfl (fun w hw => run_load_slp (imgC_u (ov_B m3 w hw))) (by first | rfl | omega) ?_ | refine qB ?_ | refine qC ?_); simp only [putS]; go_big_quiet_on) | (go_big_quiet_op; go_big_quiet_on)))
 refine wpQuiet_nil ?_
 refine wpRL_callB (by rfl) ?hw1_6 ?_ ?_
 case hw1_6 => kernel_rfl
 ·intro wn hbn hE Kx hKx
  have hsz := B.size
  have hzn := hbn.size
  replace B := B.trans (hbn.mono B.size)
  (try replace r2 := r2.below hbn)
  (try replace m3 := m3.below hbn)
  (try replace r4 := r4.below hbn)
  (try replace c6 := c6.below hbn)
  (try replace ce := ce.below hbn)
  refine wp_lenS rfl Tryz.underlying115 rfl ?_
  exact hKx () _ trivial (Below.refl _ _)
 rintro ⟨⟩
 dsimp only [detS]
 simp only [putS]
 refine crq 1 ?_
 repeat (first | go_big_quiet_skip | (go_big_quiet_want; first | ((first | refine quiet_loadAny (t := 38) rfl _ _ _ rfl (fun w hw => run_load_imR (ov_B m3 w hw)) (by first | rfl | omega) ?_ | refine qB ?_ | refine qC ?_); simp only [putS]; go_big_quiet_on) | (go_big_quiet_op; go_big_quiet_on)))
 refine wpQuiet_nil ?_
 refine wpRL_callB (by rfl) ?hw1_8 ?_ ?_
 case hw1_8 => kernel_rfl
 ·intro wn hbn hE Kx hKx
  have hsz := B.size
  have hzn := hbn.size
  replace B := B.trans (hbn.mono B.size)
  (try replace r2 := r2.below hbn)
  (try replace m3 := m3.below hbn)
  (try replace r4 := r4.below hbn)
  (try replace c6 := c6.below hbn)
  (try replace ce := ce.below hbn)
  refine wp_callF rfl (enters_of Tryz.func125 (by kernel_rfl) rfl) (by simp only [Act.eval, evlS]; rfl) ?_
  refine (P_AreaB c (areaN c : Int) _ HV.out hAN.out).mono ?_
  rintro e wm ⟨rfl, hbm⟩
  refine ⟨_, rfl, ?_⟩
  have hz := hKx () wm trivial hbm
  dsimp only [detS] at hz
  exact hz
 rintro ⟨⟩
 dsimp only [detS]
 simp only [putS]
 refine crk 2 ?_
 refine wpRL_nil ?_
 intro wn hbn hE
 have hsz := B.size
 have hzn := hbn.size
 replace B := B.trans (hbn.mono B.size)
 (try replace r2 := r2.below hbn)
 (try replace m3 := m3.below hbn)
 (try replace r4 := r4.below hbn)
 (try replace c6 := c6.below hbn)
 (try replace ce := ce.below hbn)
 clear hE
 try simp only [List.drop_succ_cons, List.drop_zero]
 refine NoPan.normal ?_
 go_upto_region 4 with fail
 refine wp_region_lit ?_
 try simp only [gelS]
 refine chq 1 ?_
 repeat (first | go_big_quiet_skip | (go_big_quiet_want; first | ((first | refine quiet_loadAny (t := 38) rfl _ _ _ rfl (fun w hw => run_load_imR (ov_B m3 w hw)) (by first | rfl | omega) ?_ | refine qB ?_ | refine qC ?_); simp only [putS]; go_big_quiet_on) | (go_big_quiet_op; go_big_quiet_on)))
 refine wpQuiet_nil ?_
 refine clF (enters_of Tryz.func124 (by kernel_rfl) rfl) (c := P_fitsB c 0 _ HEE.out) (h := ?_)
 rintro e wn ⟨rfl, hbn⟩
 have hsz := B.size
 have hzn := hbn.size
 replace B := B.trans (hbn.mono B.size)
 (try replace r2 := r2.below hbn)
 (try replace m3 := m3.below hbn)
 (try replace r4 := r4.below hbn)
 (try replace c6 := c6.below hbn)
 (try replace ce := ce.below hbn)
 refine ⟨_, rfl, ?_⟩
 simp only [putS]
 refine chk 1 ?_
 refine wpList_nil ?_
 go_upto_region 5 with fail
 refine wp_region_lit ?_
 try simp only [gelS]
 refine chk 2 ?_
 refine wpList_nil ?_
 go_upto_region 7 with fail
 have rs1 := (HT.out _ B).2
 refine wp_region_lit ?_
 try simp only [gelS]
 refine chk 1 ?_
 refine clF (enters_of Tryz.func104 (by kernel_rfl) rfl) (c := (HT.out _ B).1) (h := ?_)
 rintro e wn ⟨rfl, hbn⟩
 have hsz := B.size
 have hzn := hbn.size
 replace B := B.trans (hbn.mono B.size)
 (try replace r2 := r2.below hbn)
 (try replace m3 := m3.below hbn)
 (try replace r4 := r4.below hbn)
 (try replace c6 := c6.below hbn)
 (try replace ce := ce.below hbn)
 replace rs1 := rs1.below hbn
 refine ⟨_, rfl, ?_⟩
 simp only [putS]
 (refine wpList_allocBk (t := 62) rfl _ (run_alloc_Sl _ _ rfl) ?_; intro b_l8 wn hle hge ht hbn hzn; have hsz := B.size; replace B := B.trans (hbn.mono (by omega)); have hln := Nat.lt_of_lt_of_eq (Nat.lt_succ_self _) hzn.symm; clear hzn; (try have hlt := r2.lt); (try replace r2 := r2.below (hbn.mono hle)); (try have hlt := m3.lt); (try replace m3 := m3.below (hbn.mono hle)); (try have hlt := r4.lt); (try replace r4 := r4.below (hbn.mono hle)); (try have hlt := c6.lt); (try replace c6 := c6.below (hbn.mono hle)); (try have hlt := ce.lt); (try replace ce := ce.below (hbn.mono hle)); (try have hlt := rs1.lt); (try replace rs1 := rs1.below (hbn.mono hle)); have l8 := ht; clear ht; simp only [putS])
 (refine wpList_storeSl rfl _ _ rfl _ rfl _ _ _ rfl l8 (stK B (by omega) ?_); have l8o := l8; clear l8 B; intro wn l8 hcn hsz hzn B; (try replace rs1 := rs1.chg l8o (by simp) hcn); (try replace r2 := r2.of_eq (hcn.block _ r2.lt (by omega))); (try replace m3 := m3.of_eq (hcn.block _ m3.lt (by omega))); (try replace r4 := r4.of_eq (hcn.block _ r4.lt (by omega))); (try replace c6 := c6.of_eq (hcn.block _ c6.lt (by omega))); (try replace ce := ce.of_eq (hcn.block _ ce.lt (by omega))); simp only [putS])
 refine wpList_nil ?_
 have k2 : w.heap.size ≤ b_r2 := by omega
 have k3 : b_r2 < b_m3 := by have := r2.lt; omega
 have k4 : b_m3 < b_r4 := by have := m3.lt; omega
 have k6 : b_r4 < b_c6 := by have := r4.lt; omega
 have k8 : b_c6 < b_l8 := by have := c6.lt; omega
 have k9 := l8.lt
 have kg := ce.lt
 go_upto_region 8 with fail
 refine wp_region_lit ?_
 try simp only [gelS]
 refine chq 1 ?_
 repeat (first | go_big_quiet_skip | (go_big_quiet_want; first | ((first | refine quiet_loadAny (t := 38) rfl _ _ _ rfl (fun w hw => run_load_imR (ov_B m3 w hw)) (by first | rfl | omega) ?_ | refine qB ?_ | refine qC ?_); simp only [putS]; go_big_quiet_on) | (go_big_quiet_op; go_big_quiet_on)))
 refine wpQuiet_nil ?_
 refine clF (enters_of Tryz.func129 (by kernel_rfl) rfl) (c := P_Tiles c _) (h := ?_)
 rintro e wn ⟨b_t, rfl, hbt, rt, hbn⟩
 have hsz := B.size
 have hzn := hbn.size
 replace B := B.trans (hbn.mono B.size)
 (try replace m3 := m3.below hbn)
 (try replace r4 := r4.below hbn)
 (try replace c6 := c6.below hbn)
 (try replace ce := ce.below hbn)
 (try replace l8 := l8.below hbn)
 (try replace rs1 := rs1.below hbn)
 refine ⟨_, rfl, ?_⟩
 simp only [putS]
 refine wpList_nil ?_
 go_wp2
 refine (wpIn_wide (n := 3)).1 ?_
 refine rangeFunc_made (F := Fence.wide) rfl (by omega) (gf := 163) (lb := #[.pointer (some ⟨b_t, 0, none⟩)]) rfl trivial (enters_of Tryz.func163 (by kernel_rfl) rfl) (tiles_stops c FT.out b_t b_l8 _ (by omega) _ rt l8.lt) (fun h k => KpB.trans h k) (fun W l o o' _ hl ho _ => KpB.putObj b_l8 o' hl ho) (fun A B h => KpB.below h) (Below.refl _ _) (fun _ => rfl)
  (fun pre W => ∃ (a : Option Addr) (cp : Nat), AtB 62 W b_l8 #[.slice a (pstL c L KS (pre.map (posF c))).length cp] ∧ RS (.slice a (pstL c L KS (pre.map (posF c))).length cp) (pstL c L KS (pre.map (posF c))) W ∧ AtB 117 W b_m3 (imgC c (.slice (some ⟨g, o, none⟩) (areaN c) cu)) ∧ AtB 38 W b_c6 (rcA c) ∧ AtB 64 W b_r4 #[.slice none 0 0] ∧ RCellsE pxE g o L W ∧ Below w.heap.size w W)
  (fun pre W W' row hI hg hr => ?own)
  ⟨a', c', l8, rs1, m3, c6, r4, ce, B⟩
  (fun x a' W => ∃ b9 : Nat, a'.defers = [] ∧ a'.tmps.size = 78 ∧ a'.tmps.getD 3 undef = .pointer (some ⟨b_m3, 0, none⟩) ∧ a'.tmps.getD 6 undef = .pointer (some ⟨b_c6, 0, none⟩) ∧ a'.tmps.getD 8 undef = .pointer (some ⟨b_l8, 0, none⟩) ∧ a'.tmps.getD 9 undef = .pointer (some ⟨b9, 0, none⟩) ∧ AtB 95 W b9 #[.int .i64 (posF c x).1, .int .i64 (posF c x).2] ∧ b_l8 < b9)
  (fun x a' W W' row hA hg hr => ?own2) ?assign ?body ?done
 case own =>
  obtain ⟨a, cp, h1, h2, h3, h4, h5, h6, h7⟩ := hI
  have hr' : ∀ r, row = some r → ∃ o : Obj, W.heap[r]? = some o ∧ o.isCells = false := fun r e => (hr r e).2
  have hsz1 := B.size
  exact ⟨a, cp, h1.own hg hr', h2.own hg hr', h3.own hg hr', h4.own hg hr', h5.own hg hr', h6.ownP (by rw [HL.out]; omega) hg hr', below_own h7 h7.size hg (fun r e => Nat.le_trans hsz1 (hr r e).1)⟩
 case own2 =>
  obtain ⟨b9, e1, e2, e3, e4, e5, e6, h1, h2⟩ := hA
  exact ⟨b9, e1, e2, e3, e4, e5, e6, h1.own hg (fun r e => (hr r e).2), h2⟩
 case assign =>
  intro l pre x W K ⟨_, _, hl8, _⟩ hK
  have B := Below.refl W.heap.size W
  have hl := hl8.lt
  obtain ⟨⟨X, Y⟩, hxy⟩ : ∃ p, posF c x = p := ⟨_, rfl⟩
  rw [hxy] at hK
  dsimp only at hK
  rw [hxy]
  dsimp only
  refine zip1_wp ?_
  simp only [List.setIfInBounds_toArray, List.set_cons_succ, List.set_cons_zero]
  refine round_lit (by kernel_rfl) ?_
  try simp only [gelS]
  (refine wpList_allocBk (t := 95) rfl _ (run_alloc_Ps _ _ rfl) ?_; intro b_p9 wn hle hge ht hbn hzn; have hsz := B.size; replace B := B.trans (hbn.mono (by omega)); have hln := Nat.lt_of_lt_of_eq (Nat.lt_succ_self _) hzn.symm; clear hzn; have p9 := ht; clear ht; simp only [putS])
  (refine wpList_storeB (t := 95) rfl _ _ rfl _ rfl _ rfl p9 (by kernel_rfl) rfl (by simp [Value.oneCell']) (stK B (by omega) ?_); clear p9 B; intro wn p9 hcn hsz hzn B; simp only [putS])
  refine wpList_nil ?_
  refine Only.at ?_
  refine hK _ _ B ⟨_, rfl, rfl, rfl, rfl, rfl, rfl, p9, by omega⟩
 case body =>
  rintro l pre x W ⟨tm, df⟩ ⟨a, cp, l8, rs1, m3, c6, r4, ce, BW⟩ ⟨b9, e1, e2, e3, e4, e5, e6, p9, k10⟩ hpre
  obtain ⟨U, hU, hUi⟩ := arr_fn tm 78 e2
  rw [← hUi] at e3 e4 e5 e6
  have eL : ((List.range 78).map U).toArray = #[U 0, U 1, U 2, U 3, U 4, U 5, U 6, U 7, U 8, U 9, U 10, U 11, U 12, U 13, U 14, U 15, U 16, U 17, U 18, U 19, U 20, U 21, U 22, U 23, U 24, U 25, U 26, U 27, U 28, U 29, U 30, U 31, U 32, U 33, U 34, U 35, U 36, U 37, U 38, U 39, U 40, U 41, U 42, U 43, U 44, U 45, U 46, U 47, U 48, U 49, U 50, U 51, U 52, U 53, U 54, U 55, U 56, U 57, U 58, U 59, U 60, U 61, U 62, U 63, U 64, U 65, U 66, U 67, U 68, U 69, U 70, U 71, U 72, U 73, U 74, U 75, U 76, U 77] := rfl
  rw [eL] at hU
  rw [e3, e4, e5, e6] at hU
  subst hU
  have e1 : df = [] := e1
  subst e1
  clear e2 e3 e4 e5 e6 hUi eL
  obtain ⟨⟨X, Y⟩, hxy⟩ : ∃ p, posF c x = p := ⟨_, rfl⟩
  have hwi := posP_in FT.out x.isLt
  rw [show posP c x.val = (X, Y) from hxy] at hwi
  have HWI := Lib.hid hwi
  rw [hxy] at p9
  dsimp only at p9
  have hMn := pstL_len c L (pre.map (posF c)) KS
  rw [List.length_map] at hMn
  have SM0 := pstL_srt c L (pre.map (posF c)) KS SR.out
  have TM0 := pstL_tok OK.out (pre.map (posF c)) KS TK.out (c := c)
  have HNEW0 : pstL c L KS ((pre ++ [x]).map (posF c)) = putL (pstL c L KS (pre.map (posF c))) X Y (pstT c L X Y (tileL (pstL c L KS (pre.map (posF c))) X Y)) := by
   rw [List.map_append, show [x].map (posF c) = [(X, Y)] from by rw [← hxy]; rfl, pstL_snoc]
   rfl
  generalize pstL c L KS (pre.map (posF c)) = M at *
  have SM := Lib.hid SM0
  have TM := Lib.hid TM0
  have HNEW := Lib.hid HNEW0
  have L8 := Lib.hid l8
  have HTK := Lib.hid (tileL_tok TM0 X Y)
  have HTT := Lib.hid (pstT_tok OK.out X Y (tileL_tok TM0 X Y) (c := c))
  have hM3 : M.length ≤ 3000 := by omega
  have hws := BW.size
  have l8lt := l8.lt
  have m3lt := m3.lt
  have c6lt := c6.lt
  have r4lt := r4.lt
  have p9lt := p9.lt
  have hpl := putL_length M X Y (pstT c L X Y (tileL M X Y))
  obtain ⟨_, _, e1, hcp⟩ := rs1.len
  simp only [Value.slice.injEq] at e1
  obtain ⟨rfl, _, rfl⟩ := e1
  have RS1W := Lib.hid rs1
  have B := Exc.refl b_l8 W
  clear SM0 TM0 HNEW0 hMn hwi hxy
  cases hh : hitL M X Y with
  | true =>
   have HH := Lib.hid hh
   obtain ⟨hc1, hc2⟩ := hit_at SM.out hh
   obtain ⟨k, hk⟩ : ∃ k, cutL M X Y = k := ⟨_, rfl⟩
   rw [hk] at hc1 hc2
   have HK := Lib.hid hk
   obtain ⟨gg, oo, rfl, rc⟩ := rs1.at (by omega)
   have HC2 := Lib.hid hc2
   clear hh hk hc2
   gi_upto_region 10 with fail
   refine round_lit (by kernel_rfl) ?_
   try simp only [gelS]
   refine chq 2 ?_
   repeat (first | go_big_quiet_skip | (go_big_quiet_want; first | ((first | refine quiet_buildTA0 rfl X Y rfl ?_ | refine qB ?_ | refine qC ?_); simp only [putS]; go_big_quiet_on) | (go_big_quiet_op; go_big_quiet_on)))
   refine wpQuiet_nil ?_
   refine clF (enters_of Tryz.func130 (by kernel_rfl) rfl) (c := P_findB _ M X Y k true _ rs1 SM.out (by omega) HK.out HH.out) (h := ?_)
   rintro e wn ⟨rfl, hbn⟩
   have hsz := B.size
   have hzn := hbn.size
   replace B := B.trans (hbn.mono B.size)
   (try replace l8 := l8.below hbn)
   (try replace m3 := m3.below hbn)
   (try replace c6 := c6.below hbn)
   (try replace r4 := r4.below hbn)
   (try replace ce := ce.below hbn)
   (try replace p9 := p9.below hbn)
   (try replace rs1 := rs1.below hbn)
   refine ⟨_, rfl, ?_⟩
   simp only [putS]
   refine chq 5 ?_
   repeat (first | go_big_quiet_skip | (go_big_quiet_want; first | ((first | refine quiet_buildTA0 rfl X Y rfl ?_ | refine qB ?_ | refine qC ?_); simp only [putS]; go_big_quiet_on) | (go_big_quiet_op; go_big_quiet_on)))
   refine wpQuiet_nil ?_
   refine wpList_nil ?_
   refine Only.at ?_
   try dsimp only
   gi_upto_region 11 with fail
   refine round_lit (by kernel_rfl) ?_
   try simp only [gelS]
   refine chq 2 ?_
   repeat (first | go_big_quiet_skip | (go_big_quiet_want; first | ((first | refine quiet_buildTA0 rfl X Y rfl ?_ | refine qB ?_ | refine qC ?_); simp only [putS]; go_big_quiet_on) | (go_big_quiet_op; go_big_quiet_on)))
   refine wpQuiet_nil ?_
   (refine wpList_bs1T rfl _ rfl ⟨X, Y, zT⟩ (by rfl) ?_; intro b_s1 wn hle hge ht hbn hzn; have hsz := B.size; replace B := B.trans (hbn.mono (by omega)); have hln := Nat.lt_of_lt_of_eq (Nat.lt_succ_self _) hzn.symm; clear hzn; (try have hlt := l8.lt); (try replace l8 := l8.below (hbn.mono hle)); (try have hlt := m3.lt); (try replace m3 := m3.below (hbn.mono hle)); (try have hlt := c6.lt); (try replace c6 := c6.below (hbn.mono hle)); (try have hlt := r4.lt); (try replace r4 := r4.below (hbn.mono hle)); (try have hlt := ce.lt); (try replace ce := ce.below (hbn.mono hle)); (try have hlt := p9.lt); (try replace p9 := p9.below (hbn.mono hle)); (try have hlt := rs1.lt); (try replace rs1 := rs1.below (hbn.mono hle)); have s1 := ht; clear ht; simp only [putS])
   refine chq 1 ?_
   repeat (first | go_big_quiet_skip | (go_big_quiet_want; first | ((first | refine quiet_buildTA0 rfl X Y rfl ?_ | refine qB ?_ | refine qC ?_); simp only [putS]; go_big_quiet_on) | (go_big_quiet_op; go_big_quiet_on)))
   refine wpQuiet_nil ?_
   refine wpList_nil ?_
   refine Only.at ?_
   try dsimp only
   gi_upto_region 12 with fail
   refine round_lit (by kernel_rfl) ?_
   try simp only [gelS]
   refine chq 1 ?_
   repeat (first | go_big_quiet_skip | (go_big_quiet_want; first | ((first | refine quiet_buildTA0 rfl X Y rfl ?_ | refine qB ?_ | refine qC ?_); simp only [putS]; go_big_quiet_on) | (go_big_quiet_op; go_big_quiet_on)))
   refine wpQuiet_nil ?_
   refine wpList_nil ?_
   refine Only.at ?_
   try dsimp only
   gi_upto_region 13 with fail
   refine round_lit (by kernel_rfl) ?_
   try simp only [gelS]
   refine chq 8 ?_
   repeat (first | go_big_quiet_skip | (go_big_quiet_want; first | ((first | refine quiet_buildTA0 rfl X Y rfl ?_ | refine qB ?_ | refine qC ?_); simp only [putS]; go_big_quiet_on) | (go_big_quiet_op; go_big_quiet_on)))
   refine wpQuiet_nil ?_
   refine wpList_nil ?_
   refine Only.at ?_
   try dsimp only
   obtain ⟨g2, o2, e2, rc'⟩ := rs1.at (by omega)
   obtain ⟨rfl, rfl⟩ : gg = g2 ∧ oo = o2 := by simpa using e2
   have rsm := rs_mid rc' hc1
   rw [HC2.out] at rsm
   have rsm0 := rsm
   gi_upto_region 14 with fail
   refine round_lit (by kernel_rfl) ?_
   try simp only [gelS]
   (refine wpList_allocT' rfl rfl ?_; intro b_t13 wn hle hge ht hbn hzn; have hsz := B.size; replace B := B.trans (hbn.mono (by omega)); have hln := Nat.lt_of_lt_of_eq (Nat.lt_succ_self _) hzn.symm; clear hzn; (try have hlt := l8.lt); (try replace l8 := l8.below (hbn.mono hle)); (try have hlt := m3.lt); (try replace m3 := m3.below (hbn.mono hle)); (try have hlt := c6.lt); (try replace c6 := c6.below (hbn.mono hle)); (try have hlt := r4.lt); (try replace r4 := r4.below (hbn.mono hle)); (try have hlt := ce.lt); (try replace ce := ce.below (hbn.mono hle)); (try have hlt := p9.lt); (try replace p9 := p9.below (hbn.mono hle)); (try have hlt := rs1.lt); (try replace rs1 := rs1.below (hbn.mono hle)); (try have hlt := rsm.lt); (try replace rsm := rsm.below (hbn.mono hle)); have t13 := ht; clear ht; simp only [putS])
   refine wpList_nil ?_
   refine Only.at ?_
   try dsimp only
   have HSEP := Lib.hid (rs_sep rsm0 hle (by simp))
   clear rsm0
   gi_upto_region 15 with fail
   refine round_lit (by kernel_rfl) ?_
   try simp only [gelS]
   refine chq 1 ?_
   repeat (first | go_big_quiet_skip | (go_big_quiet_want; first | ((first | refine quiet_buildTA0 rfl X Y rfl ?_ | refine qB ?_ | refine qC ?_); simp only [putS]; go_big_quiet_on) | (go_big_quiet_op; go_big_quiet_on)))
   refine wpQuiet_nil ?_
   (refine wpList_val rfl (.func (.func 131) #[] #[.pointer (some ⟨b_c6, 0, none⟩), .pointer (some ⟨b_m3, 0, none⟩)]) (by first | rfl | simp [go_sem, Act.eval]) ?_; simp only [putS])
   refine clF (enters_of Tryz.func126 (by kernel_rfl) rfl) (c := P_mapPst c FT.out L HL.out OK.out ⟨X, Y, tileL M X Y⟩ _ _ b_c6 b_m3 b_t13 g o cu _ _ rsm HTK.out HWI.out c6 m3 ce t13 HSEP.out) (h := ?_)
   rintro e wn ⟨a5, cp5, rfl, rs5, hbn⟩
   have hsz := B.size
   have hzn := hbn.size
   replace B := B.trans (hbn.mono B.size)
   (try replace l8 := l8.below hbn)
   (try replace m3 := m3.below hbn)
   (try replace c6 := c6.below hbn)
   (try replace r4 := r4.below hbn)
   (try replace ce := ce.below hbn)
   (try replace p9 := p9.below hbn)
   (try replace t13 := t13.below hbn)
   (try replace rs1 := rs1.below hbn)
   (try replace rsm := rsm.below hbn)
   refine ⟨_, rfl, ?_⟩
   simp only [putS]
   refine wpList_lenS (by first | rfl | simp [Region.wanted, yielded]) rfl Tryz.underlying62 rfl ?_
   simp only [putS]
   refine chq 1 ?_
   repeat (first | go_big_quiet_skip | (go_big_quiet_want; first | ((first | refine quiet_buildTA0 rfl X Y rfl ?_ | refine qB ?_ | refine qC ?_); simp only [putS]; go_big_quiet_on) | (go_big_quiet_op; go_big_quiet_on)))
   refine wpQuiet_nil ?_
   refine wpList_nil ?_
   refine Only.at ?_
   try dsimp only
   clear rsm HSEP
   cases hz : zeroB (pstT c L X Y (tileL M X Y)) with
   | true =>
    have HN : newA X Y (pstT c L X Y (tileL M X Y)) = [] := by unfold newA; rw [hz]; rfl
    rw [HN] at rs5
    simp only [HN, List.length_nil]
    clear rs5 HN
    have HZ := Lib.hid hz
    clear hz
    gi_wp2
    refine wpIn_loop_rounds 2 ?_
    rw [roundsIn_succ]
    gi_upto_region 16 with fail
    refine round_lit (by kernel_rfl) ?_
    try simp only [gelS]
    refine chq 1 ?_
    repeat (first | go_big_quiet_skip | (go_big_quiet_want; first | ((first | refine quiet_buildTA0 rfl X Y rfl ?_ | refine qB ?_ | refine qC ?_); simp only [putS]; go_big_quiet_on) | (go_big_quiet_op; go_big_quiet_on)))
    refine wpQuiet_nil ?_
    refine wpList_nil ?_
    refine Only.at ?_
    try dsimp only
    clear rs1
    have rs1 := RS1W.out.chg L8.out (by simp) B.toChg
    gi_upto_region 20 with fail
    refine round_lit (by kernel_rfl) ?_
    try simp only [gelS]
    refine chq 3 ?_
    repeat (first | go_big_quiet_skip | (go_big_quiet_want; first | ((first | refine quiet_buildTA0 rfl X Y rfl ?_ | refine quiet_loadT rfl _ rfl (ov_tile t13) ?_ | refine quiet_loadAny (t := 123) rfl _ _ _ rfl (fun w hw => ta_tile (ov_B t15 w hw)) (by first | rfl | omega) ?_ | refine qB ?_ | refine qC ?_); simp only [putS]; go_big_quiet_on) | (go_big_quiet_op; go_big_quiet_on)))
    refine wpQuiet_nil ?_
    refine clF (enters_of Tryz.func132 (by kernel_rfl) rfl) (c := P_with _ M X Y (fun _ => Px.zero) _ rs1 SM.out (fun i _ => Px.zero_ok) (by omega)) (h := ?_)
    rintro e wn ⟨v8, rfl, rs8, hbn⟩
    have hsz := B.size
    have hzn := hbn.size
    replace B := B.trans (hbn.mono B.size)
    (try replace l8 := l8.below hbn)
    (try replace m3 := m3.below hbn)
    (try replace c6 := c6.below hbn)
    (try replace r4 := r4.below hbn)
    (try replace ce := ce.below hbn)
    (try replace p9 := p9.below hbn)
    (try replace t13 := t13.below hbn)
    (try replace t15 := t15.below hbn)
    (try replace rs1 := rs1.below hbn)
    (try replace rsm := rsm.below hbn)
    obtain ⟨a8, c8, rfl, hc8⟩ := rs8.len
    refine ⟨_, rfl, ?_⟩
    simp only [putS]
    (refine wpList_storeSl rfl _ _ rfl _ rfl _ _ _ rfl l8 ?_; have l8o := l8; clear l8; intro wn ht hcn hzn; (try replace rs8 := rs8.chg l8o (by simp) hcn); have hsz := B.size; replace hzn := Nat.le_of_eq hzn.symm; replace B := Exc.chg B hcn; (try replace m3 := m3.of_eq (hcn.block _ m3.lt (by omega))); (try replace c6 := c6.of_eq (hcn.block _ c6.lt (by omega))); (try replace r4 := r4.of_eq (hcn.block _ r4.lt (by omega))); (try replace ce := ce.of_eq (hcn.block _ ce.lt (by omega))); (try replace p9 := p9.of_eq (hcn.block _ p9.lt (by omega))); (try replace t13 := t13.of_eq (hcn.block _ t13.lt (by omega))); (try replace t15 := t15.of_eq (hcn.block _ t15.lt (by omega))); have l8 := ht; clear ht; simp only [putS])
    refine wpList_nil ?_
    refine Only.at ?_
    try dsimp only
    gi_wp2
    refine ⟨KeepsOthers.chgB B.toChg L8.out, KpB.chg B.toChg, ?_⟩
    dsimp only
    rw [HNEW.out]
    have e := putL_zero M X Y (t := fun _ => Px.zero) (u := pstT c L X Y (tileL M X Y)) ((zeroB_iff _).2 fun _ _ => rfl) HZ.out
    rw [e] at rs8 l8
    exact ⟨a8, c8, l8, rs8, m3, c6, r4, ce, Chg.below BW B.toChg (by omega) BW.size⟩
   | false =>
    have HN : newA X Y (pstT c L X Y (tileL M X Y)) = [⟨X, Y, pstT c L X Y (tileL M X Y)⟩] := by unfold newA; rw [hz]; rfl
    rw [HN] at rs5
    simp only [HN, List.length_cons, List.length_nil, Nat.zero_add]
    obtain ⟨g5, o5, rfl, rc5⟩ := rs5.at (by simp)
    clear rs5 HN hz
    have hlen1 : 0 < [(⟨X, Y, pstT c L X Y (tileL M X Y)⟩ : TA)].length := by simp
    gi_wp2
    refine wpIn_loop_rounds 2 ?_
    rw [roundsIn_succ]
    gi_upto_region 16 with fail
    refine round_lit (by kernel_rfl) ?_
    try simp only [gelS]
    refine chq 1 ?_
    repeat (first | go_big_quiet_skip | (go_big_quiet_want; first | ((first | refine quiet_buildTA0 rfl X Y rfl ?_ | refine qB ?_ | refine qC ?_); simp only [putS]; go_big_quiet_on) | (go_big_quiet_op; go_big_quiet_on)))
    refine wpQuiet_nil ?_
    refine wpList_nil ?_
    refine Only.at ?_
    try dsimp only
    gi_upto_region 17 with fail
    refine round_lit (by kernel_rfl) ?_
    try simp only [gelS]
    refine chq 2 ?_
    repeat (first | go_big_quiet_skip | (go_big_quiet_want; first | ((first | refine quiet_buildTA0 rfl X Y rfl ?_ | refine quiet_loadAny (t := 125) rfl _ _ _ rfl (fun w hw => rc_ta (ov_rc rc5 w hw) hlen1 rfl) (by first | rfl | omega) ?_ | refine qB ?_ | refine qC ?_); simp only [putS]; go_big_quiet_on) | (go_big_quiet_op; go_big_quiet_on)))
    refine wpQuiet_nil ?_
    (refine wpList_allocBk (t := 125) rfl _ (run_alloc_TA _ _ rfl) ?_; intro b_t15 wn hle hge ht hbn hzn; have hsz := B.size; replace B := B.trans (hbn.mono (by omega)); have hln := Nat.lt_of_lt_of_eq (Nat.lt_succ_self _) hzn.symm; clear hzn; (try have hlt := l8.lt); (try replace l8 := l8.below (hbn.mono hle)); (try have hlt := m3.lt); (try replace m3 := m3.below (hbn.mono hle)); (try have hlt := c6.lt); (try replace c6 := c6.below (hbn.mono hle)); (try have hlt := r4.lt); (try replace r4 := r4.below (hbn.mono hle)); (try have hlt := ce.lt); (try replace ce := ce.below (hbn.mono hle)); (try have hlt := p9.lt); (try replace p9 := p9.below (hbn.mono hle)); (try have hlt := t13.lt); (try replace t13 := t13.below (hbn.mono hle)); (try have hlt := t15.lt); (try replace t15 := t15.below (hbn.mono hle)); (try have hlt := rs1.lt); (try replace rs1 := rs1.below (hbn.mono hle)); (try have hlt := rsm.lt); (try replace rsm := rsm.below (hbn.mono hle)); (try have hlt := rc5.lt); (try replace rc5 := rc5.below (hbn.mono hle)); have t15 := ht; clear ht; simp only [putS])
    (refine wpList_storeB (t := 125) rfl _ _ rfl _ rfl _ rfl t15 (by rw [size_taC]; kernel_rfl) (by simp only [size_taC, size_zTA]) (taC_all _) ?_; clear t15; intro wn ht hcn hzn; have hsz := B.size; replace hzn := Nat.le_of_eq hzn.symm; replace B := Exc.store B hcn (by omega); (try replace l8 := l8.of_eq (hcn.block _ l8.lt (by omega))); (try replace m3 := m3.of_eq (hcn.block _ m3.lt (by omega))); (try replace c6 := c6.of_eq (hcn.block _ c6.lt (by omega))); (try replace r4 := r4.of_eq (hcn.block _ r4.lt (by omega))); (try replace ce := ce.of_eq (hcn.block _ ce.lt (by omega))); (try replace p9 := p9.of_eq (hcn.block _ p9.lt (by omega))); (try replace t13 := t13.of_eq (hcn.block _ t13.lt (by omega))); (try replace rs1 := rs1.of_eq (hcn.block _ rs1.lt (by omega))); (try replace rsm := rsm.of_eq (hcn.block _ rsm.lt (by omega))); (try replace rc5 := rc5.of_eq (hcn.block _ rc5.lt (by omega))); have t15 := ht; clear ht; simp only [putS])
    refine wpList_nil ?_
    refine Only.at ?_
    try dsimp only
    replace t15 : AtB 125 _ b_t15 (taC ⟨X, Y, pstT c L X Y (tileL M X Y)⟩) := t15
    gi_upto_region 18 with fail
    refine round_lit (by kernel_rfl) ?_
    try simp only [gelS]
    refine chq 2 ?_
    repeat (first | go_big_quiet_skip | (go_big_quiet_want; first | ((first | refine quiet_buildTA0 rfl X Y rfl ?_ | refine quiet_loadT rfl _ rfl (ov_tile t13) ?_ | refine quiet_loadAny (t := 123) rfl _ _ _ rfl (fun w hw => ta_tile (ov_B t15 w hw)) (by first | rfl | omega) ?_ | refine qB ?_ | refine qC ?_); simp only [putS]; go_big_quiet_on) | (go_big_quiet_op; go_big_quiet_on)))
    refine wpQuiet_nil ?_
    (refine wpList_storeT rfl _ _ rfl _ rfl _ rfl t13 ?_; clear t13; intro wn ht hcn hzn; have hsz := B.size; replace hzn := Nat.le_of_eq hzn.symm; replace B := Exc.store B hcn (by omega); (try replace l8 := l8.of_eq (hcn.block _ l8.lt (by omega))); (try replace m3 := m3.of_eq (hcn.block _ m3.lt (by omega))); (try replace c6 := c6.of_eq (hcn.block _ c6.lt (by omega))); (try replace r4 := r4.of_eq (hcn.block _ r4.lt (by omega))); (try replace ce := ce.of_eq (hcn.block _ ce.lt (by omega))); (try replace p9 := p9.of_eq (hcn.block _ p9.lt (by omega))); (try replace t15 := t15.of_eq (hcn.block _ t15.lt (by omega))); (try replace rs1 := rs1.of_eq (hcn.block _ rs1.lt (by omega))); (try replace rsm := rsm.of_eq (hcn.block _ rsm.lt (by omega))); (try replace rc5 := rc5.of_eq (hcn.block _ rc5.lt (by omega))); have t13 := ht; clear ht; simp only [putS])
    refine wpList_nil ?_
    refine Only.at ?_
    try dsimp only
    gi_upto_region 19 with fail
    refine round_lit (by kernel_rfl) ?_
    try simp only [gelS]
    refine chq 2 ?_
    repeat (first | go_big_quiet_skip | (go_big_quiet_want; first | ((first | refine quiet_buildTA0 rfl X Y rfl ?_ | refine qB ?_ | refine qC ?_); simp only [putS]; go_big_quiet_on) | (go_big_quiet_op; go_big_quiet_on)))
    refine wpQuiet_nil ?_
    refine wpList_nil ?_
    refine Only.at ?_
    try dsimp only
    gi_wp2
    rw [roundsIn_succ]
    gi_upto_region 16 with fail
    refine round_lit (by kernel_rfl) ?_
    try simp only [gelS]
    refine chq 1 ?_
    repeat (first | go_big_quiet_skip | (go_big_quiet_want; first | ((first | refine quiet_buildTA0 rfl X Y rfl ?_ | refine qB ?_ | refine qC ?_); simp only [putS]; go_big_quiet_on) | (go_big_quiet_op; go_big_quiet_on)))
    refine wpQuiet_nil ?_
    refine wpList_nil ?_
    refine Only.at ?_
    try dsimp only
    clear rs1
    have rs1 := RS1W.out.chg L8.out (by simp) B.toChg
    gi_upto_region 20 with fail
    refine round_lit (by kernel_rfl) ?_
    try simp only [gelS]
    refine chq 3 ?_
    repeat (first | go_big_quiet_skip | (go_big_quiet_want; first | ((first | refine quiet_buildTA0 rfl X Y rfl ?_ | refine quiet_loadT rfl _ rfl (ov_tile t13) ?_ | refine quiet_loadAny (t := 123) rfl _ _ _ rfl (fun w hw => ta_tile (ov_B t15 w hw)) (by first | rfl | omega) ?_ | refine qB ?_ | refine qC ?_); simp only [putS]; go_big_quiet_on) | (go_big_quiet_op; go_big_quiet_on)))
    refine wpQuiet_nil ?_
    refine clF (enters_of Tryz.func132 (by kernel_rfl) rfl) (c := P_with _ M X Y (pstT c L X Y (tileL M X Y)) _ rs1 SM.out HTT.out (by omega)) (h := ?_)
    rintro e wn ⟨v8, rfl, rs8, hbn⟩
    have hsz := B.size
    have hzn := hbn.size
    replace B := B.trans (hbn.mono B.size)
    (try replace l8 := l8.below hbn)
    (try replace m3 := m3.below hbn)
    (try replace c6 := c6.below hbn)
    (try replace r4 := r4.below hbn)
    (try replace ce := ce.below hbn)
    (try replace p9 := p9.below hbn)
    (try replace t13 := t13.below hbn)
    (try replace t15 := t15.below hbn)
    (try replace rs1 := rs1.below hbn)
    (try replace rsm := rsm.below hbn)
    (try replace rc5 := rc5.below hbn)
    obtain ⟨a8, c8, rfl, hc8⟩ := rs8.len
    refine ⟨_, rfl, ?_⟩
    simp only [putS]
    (refine wpList_storeSl rfl _ _ rfl _ rfl _ _ _ rfl l8 ?_; have l8o := l8; clear l8; intro wn ht hcn hzn; (try replace rs8 := rs8.chg l8o (by simp) hcn); have hsz := B.size; replace hzn := Nat.le_of_eq hzn.symm; replace B := Exc.chg B hcn; (try replace m3 := m3.of_eq (hcn.block _ m3.lt (by omega))); (try replace c6 := c6.of_eq (hcn.block _ c6.lt (by omega))); (try replace r4 := r4.of_eq (hcn.block _ r4.lt (by omega))); (try replace ce := ce.of_eq (hcn.block _ ce.lt (by omega))); (try replace p9 := p9.of_eq (hcn.block _ p9.lt (by omega))); (try replace t13 := t13.of_eq (hcn.block _ t13.lt (by omega))); (try replace t15 := t15.of_eq (hcn.block _ t15.lt (by omega))); (try replace rc5 := rc5.of_eq (hcn.block _ rc5.lt (by omega))); have l8 := ht; clear ht; simp only [putS])
    refine wpList_nil ?_
    refine Only.at ?_
    try dsimp only
    gi_wp2
    refine ⟨KeepsOthers.chgB B.toChg L8.out, KpB.chg B.toChg, ?_⟩
    dsimp only
    rw [HNEW.out]
    exact ⟨a8, c8, l8, rs8, m3, c6, r4, ce, Chg.below BW B.toChg (by omega) BW.size⟩
  | false =>
   have HH := Lib.hid hh
   have hz0 := Lib.hid (hit_not SM.out hh)
   obtain ⟨k, hk⟩ : ∃ k, cutL M X Y = k := ⟨_, rfl⟩
   have HK := Lib.hid hk
   have hkl := cutL_le M X Y
   rw [hk] at hkl
   clear hh hk
   gi_upto_region 10 with fail
   refine round_lit (by kernel_rfl) ?_
   try simp only [gelS]
   refine chq 2 ?_
   repeat (first | go_big_quiet_skip | (go_big_quiet_want; first | ((first | refine quiet_buildTA0 rfl X Y rfl ?_ | refine qB ?_ | refine qC ?_); simp only [putS]; go_big_quiet_on) | (go_big_quiet_op; go_big_quiet_on)))
   refine wpQuiet_nil ?_
   refine clF (enters_of Tryz.func130 (by kernel_rfl) rfl) (c := P_findB _ M X Y k false _ rs1 SM.out (by omega) HK.out HH.out) (h := ?_)
   rintro e wn ⟨rfl, hbn⟩
   have hsz := B.size
   have hzn := hbn.size
   replace B := B.trans (hbn.mono B.size)
   (try replace l8 := l8.below hbn)
   (try replace m3 := m3.below hbn)
   (try replace c6 := c6.below hbn)
   (try replace r4 := r4.below hbn)
   (try replace ce := ce.below hbn)
   (try replace p9 := p9.below hbn)
   (try replace t13 := t13.below hbn)
   (try replace t15 := t15.below hbn)
   (try replace rs1 := rs1.below hbn)
   (try replace rsm := rsm.below hbn)
   (try replace rc5 := rc5.below hbn)
   refine ⟨_, rfl, ?_⟩
   simp only [putS]
   refine chq 5 ?_
   repeat (first | go_big_quiet_skip | (go_big_quiet_want; first | ((first | refine quiet_buildTA0 rfl X Y rfl ?_ | refine qB ?_ | refine qC ?_); simp only [putS]; go_big_quiet_on) | (go_big_quiet_op; go_big_quiet_on)))
   refine wpQuiet_nil ?_
   refine wpList_nil ?_
   refine Only.at ?_
   try dsimp only
   gi_upto_region 11 with fail
   refine round_lit (by kernel_rfl) ?_
   try simp only [gelS]
   refine chq 2 ?_
   repeat (first | go_big_quiet_skip | (go_big_quiet_want; first | ((first | refine quiet_buildTA0 rfl X Y rfl ?_ | refine qB ?_ | refine qC ?_); simp only [putS]; go_big_quiet_on) | (go_big_quiet_op; go_big_quiet_on)))
   refine wpQuiet_nil ?_
   (refine wpList_bs1T rfl _ rfl ⟨X, Y, zT⟩ (by rfl) ?_; intro b_s1 wn hle hge ht hbn hzn; have hsz := B.size; replace B := B.trans (hbn.mono (by omega)); have hln := Nat.lt_of_lt_of_eq (Nat.lt_succ_self _) hzn.symm; clear hzn; (try have hlt := l8.lt); (try replace l8 := l8.below (hbn.mono hle)); (try have hlt := m3.lt); (try replace m3 := m3.below (hbn.mono hle)); (try have hlt := c6.lt); (try replace c6 := c6.below (hbn.mono hle)); (try have hlt := r4.lt); (try replace r4 := r4.below (hbn.mono hle)); (try have hlt := ce.lt); (try replace ce := ce.below (hbn.mono hle)); (try have hlt := p9.lt); (try replace p9 := p9.below (hbn.mono hle)); (try have hlt := t13.lt); (try replace t13 := t13.below (hbn.mono hle)); (try have hlt := t15.lt); (try replace t15 := t15.below (hbn.mono hle)); (try have hlt := rs1.lt); (try replace rs1 := rs1.below (hbn.mono hle)); (try have hlt := rsm.lt); (try replace rsm := rsm.below (hbn.mono hle)); (try have hlt := rc5.lt); (try replace rc5 := rc5.below (hbn.mono hle)); have s1 := ht; clear ht; simp only [putS])
   refine chq 1 ?_
   repeat (first | go_big_quiet_skip | (go_big_quiet_want; first | ((first | refine quiet_buildTA0 rfl X Y rfl ?_ | refine qB ?_ | refine qC ?_); simp only [putS]; go_big_quiet_on) | (go_big_quiet_op; go_big_quiet_on)))
   refine wpQuiet_nil ?_
   refine wpList_nil ?_
   refine Only.at ?_
   try dsimp only
   gi_upto_region 12 with fail
   refine round_lit (by kernel_rfl) ?_
   try simp only [gelS]
   refine chq 1 ?_
   repeat (first | go_big_quiet_skip | (go_big_quiet_want; first | ((first | refine quiet_buildTA0 rfl X Y rfl ?_ | refine qB ?_ | refine qC ?_); simp only [putS]; go_big_quiet_on) | (go_big_quiet_op; go_big_quiet_on)))
   refine wpQuiet_nil ?_
   refine wpList_nil ?_
   refine Only.at ?_
   try dsimp only
   have rsm := RS.one s1
   have rsm0 := rsm
   gi_upto_region 14 with fail
   refine round_lit (by kernel_rfl) ?_
   try simp only [gelS]
   (refine wpList_allocT' rfl rfl ?_; intro b_t13 wn hle hge ht hbn hzn; have hsz := B.size; replace B := B.trans (hbn.mono (by omega)); have hln := Nat.lt_of_lt_of_eq (Nat.lt_succ_self _) hzn.symm; clear hzn; (try have hlt := l8.lt); (try replace l8 := l8.below (hbn.mono hle)); (try have hlt := m3.lt); (try replace m3 := m3.below (hbn.mono hle)); (try have hlt := c6.lt); (try replace c6 := c6.below (hbn.mono hle)); (try have hlt := r4.lt); (try replace r4 := r4.below (hbn.mono hle)); (try have hlt := ce.lt); (try replace ce := ce.below (hbn.mono hle)); (try have hlt := p9.lt); (try replace p9 := p9.below (hbn.mono hle)); (try have hlt := t13.lt); (try replace t13 := t13.below (hbn.mono hle)); (try have hlt := t15.lt); (try replace t15 := t15.below (hbn.mono hle)); (try have hlt := rs1.lt); (try replace rs1 := rs1.below (hbn.mono hle)); (try have hlt := rsm.lt); (try replace rsm := rsm.below (hbn.mono hle)); (try have hlt := rc5.lt); (try replace rc5 := rc5.below (hbn.mono hle)); have t13 := ht; clear ht; simp only [putS])
   refine wpList_nil ?_
   refine Only.at ?_
   try dsimp only
   have HSEP := Lib.hid (rs_sep rsm0 hle (by simp))
   clear rsm0
   gi_upto_region 15 with fail
   refine round_lit (by kernel_rfl) ?_
   try simp only [gelS]
   refine chq 1 ?_
   repeat (first | go_big_quiet_skip | (go_big_quiet_want; first | ((first | refine quiet_buildTA0 rfl X Y rfl ?_ | refine qB ?_ | refine qC ?_); simp only [putS]; go_big_quiet_on) | (go_big_quiet_op; go_big_quiet_on)))
   refine wpQuiet_nil ?_
   (refine wpList_val rfl (.func (.func 131) #[] #[.pointer (some ⟨b_c6, 0, none⟩), .pointer (some ⟨b_m3, 0, none⟩)]) (by first | rfl | simp [go_sem, Act.eval]) ?_; simp only [putS])
   refine clF (enters_of Tryz.func126 (by kernel_rfl) rfl) (c := P_mapPst c FT.out L HL.out OK.out ⟨X, Y, zT⟩ _ _ b_c6 b_m3 b_t13 g o cu _ _ rsm (fun i _ => Px.zero_ok) HWI.out c6 m3 ce t13 HSEP.out) (h := ?_)
   rintro e wn ⟨a5, cp5, rfl, rs5, hbn⟩
   have hsz := B.size
   have hzn := hbn.size
   replace B := B.trans (hbn.mono B.size)
   (try replace l8 := l8.below hbn)
   (try replace m3 := m3.below hbn)
   (try replace c6 := c6.below hbn)
   (try replace r4 := r4.below hbn)
   (try replace ce := ce.below hbn)
   (try replace p9 := p9.below hbn)
   (try replace t13 := t13.below hbn)
   (try replace t15 := t15.below hbn)
   (try replace rs1 := rs1.below hbn)
   (try replace rsm := rsm.below hbn)
   (try replace rc5 := rc5.below hbn)
   refine ⟨_, rfl, ?_⟩
   simp only [putS]
   refine wpList_lenS (by first | rfl | simp [Region.wanted, yielded]) rfl Tryz.underlying62 rfl ?_
   simp only [putS]
   refine chq 1 ?_
   repeat (first | go_big_quiet_skip | (go_big_quiet_want; first | ((first | refine quiet_buildTA0 rfl X Y rfl ?_ | refine qB ?_ | refine qC ?_); simp only [putS]; go_big_quiet_on) | (go_big_quiet_op; go_big_quiet_on)))
   refine wpQuiet_nil ?_
   refine wpList_nil ?_
   refine Only.at ?_
   try dsimp only
   rw [← hz0.out] at rs5
   simp only [← hz0.out]
   clear rsm HSEP
   cases hz : zeroB (pstT c L X Y (tileL M X Y)) with
   | true =>
    have HN : newA X Y (pstT c L X Y (tileL M X Y)) = [] := by unfold newA; rw [hz]; rfl
    rw [HN] at rs5
    simp only [HN, List.length_nil]
    clear rs5 HN
    have HZ := Lib.hid hz
    clear hz
    gi_wp2
    refine wpIn_loop_rounds 2 ?_
    rw [roundsIn_succ]
    gi_upto_region 16 with fail
    refine round_lit (by kernel_rfl) ?_
    try simp only [gelS]
    refine chq 1 ?_
    repeat (first | go_big_quiet_skip | (go_big_quiet_want; first | ((first | refine quiet_buildTA0 rfl X Y rfl ?_ | refine qB ?_ | refine qC ?_); simp only [putS]; go_big_quiet_on) | (go_big_quiet_op; go_big_quiet_on)))
    refine wpQuiet_nil ?_
    refine wpList_nil ?_
    refine Only.at ?_
    try dsimp only
    clear rs1
    have rs1 := RS1W.out.chg L8.out (by simp) B.toChg
    gi_upto_region 20 with fail
    refine round_lit (by kernel_rfl) ?_
    try simp only [gelS]
    refine chq 3 ?_
    repeat (first | go_big_quiet_skip | (go_big_quiet_want; first | ((first | refine quiet_buildTA0 rfl X Y rfl ?_ | refine quiet_loadT rfl _ rfl (ov_tile t13) ?_ | refine quiet_loadAny (t := 123) rfl _ _ _ rfl (fun w hw => ta_tile (ov_B t15 w hw)) (by first | rfl | omega) ?_ | refine qB ?_ | refine qC ?_); simp only [putS]; go_big_quiet_on) | (go_big_quiet_op; go_big_quiet_on)))
    refine wpQuiet_nil ?_
    refine clF (enters_of Tryz.func132 (by kernel_rfl) rfl) (c := P_with _ M X Y (fun _ => Px.zero) _ rs1 SM.out (fun i _ => Px.zero_ok) (by omega)) (h := ?_)
    rintro e wn ⟨v8, rfl, rs8, hbn⟩
    have hsz := B.size
    have hzn := hbn.size
    replace B := B.trans (hbn.mono B.size)
    (try replace l8 := l8.below hbn)
    (try replace m3 := m3.below hbn)
    (try replace c6 := c6.below hbn)
    (try replace r4 := r4.below hbn)
    (try replace ce := ce.below hbn)
    (try replace p9 := p9.below hbn)
    (try replace t13 := t13.below hbn)
    (try replace t15 := t15.below hbn)
    (try replace rs1 := rs1.below hbn)
    (try replace rc5 := rc5.below hbn)
    obtain ⟨a8, c8, rfl, hc8⟩ := rs8.len
    refine ⟨_, rfl, ?_⟩
    simp only [putS]
    (refine wpList_storeSl rfl _ _ rfl _ rfl _ _ _ rfl l8 ?_; have l8o := l8; clear l8; intro wn ht hcn hzn; (try replace rs8 := rs8.chg l8o (by simp) hcn); have hsz := B.size; replace hzn := Nat.le_of_eq hzn.symm; replace B := Exc.chg B hcn; (try replace m3 := m3.of_eq (hcn.block _ m3.lt (by omega))); (try replace c6 := c6.of_eq (hcn.block _ c6.lt (by omega))); (try replace r4 := r4.of_eq (hcn.block _ r4.lt (by omega))); (try replace ce := ce.of_eq (hcn.block _ ce.lt (by omega))); (try replace p9 := p9.of_eq (hcn.block _ p9.lt (by omega))); (try replace t13 := t13.of_eq (hcn.block _ t13.lt (by omega))); (try replace t15 := t15.of_eq (hcn.block _ t15.lt (by omega))); (try replace rc5 := rc5.of_eq (hcn.block _ rc5.lt (by omega))); have l8 := ht; clear ht; simp only [putS])
    refine wpList_nil ?_
    refine Only.at ?_
    try dsimp only
    gi_wp2
    refine ⟨KeepsOthers.chgB B.toChg L8.out, KpB.chg B.toChg, ?_⟩
    dsimp only
    rw [HNEW.out]
    have e := putL_zero M X Y (t := fun _ => Px.zero) (u := pstT c L X Y (tileL M X Y)) ((zeroB_iff _).2 fun _ _ => rfl) HZ.out
    rw [e] at rs8 l8
    exact ⟨a8, c8, l8, rs8, m3, c6, r4, ce, Chg.below BW B.toChg (by omega) BW.size⟩
   | false =>
    have HN : newA X Y (pstT c L X Y (tileL M X Y)) = [⟨X, Y, pstT c L X Y (tileL M X Y)⟩] := by unfold newA; rw [hz]; rfl
    rw [HN] at rs5
    simp only [HN, List.length_cons, List.length_nil, Nat.zero_add]
    obtain ⟨g5, o5, rfl, rc5⟩ := rs5.at (by simp)
    clear rs5 HN hz
    have hlen1 : 0 < [(⟨X, Y, pstT c L X Y (tileL M X Y)⟩ : TA)].length := by simp
    gi_wp2
    refine wpIn_loop_rounds 2 ?_
    rw [roundsIn_succ]
    gi_upto_region 16 with fail
    refine round_lit (by kernel_rfl) ?_
    try simp only [gelS]
    refine chq 1 ?_
    repeat (first | go_big_quiet_skip | (go_big_quiet_want; first | ((first | refine quiet_buildTA0 rfl X Y rfl ?_ | refine qB ?_ | refine qC ?_); simp only [putS]; go_big_quiet_on) | (go_big_quiet_op; go_big_quiet_on)))
    refine wpQuiet_nil ?_
    refine wpList_nil ?_
    refine Only.at ?_
    try dsimp only
    gi_upto_region 17 with fail
    refine round_lit (by kernel_rfl) ?_
    try simp only [gelS]
    refine chq 2 ?_
    repeat (first | go_big_quiet_skip | (go_big_quiet_want; first | ((first | refine quiet_buildTA0 rfl X Y rfl ?_ | refine quiet_loadAny (t := 125) rfl _ _ _ rfl (fun w hw => rc_ta (ov_rc rc5 w hw) hlen1 rfl) (by first | rfl | omega) ?_ | refine qB ?_ | refine qC ?_); simp only [putS]; go_big_quiet_on) | (go_big_quiet_op; go_big_quiet_on)))
    refine wpQuiet_nil ?_
    (refine wpList_allocBk (t := 125) rfl _ (run_alloc_TA _ _ rfl) ?_; intro b_t15 wn hle hge ht hbn hzn; have hsz := B.size; replace B := B.trans (hbn.mono (by omega)); have hln := Nat.lt_of_lt_of_eq (Nat.lt_succ_self _) hzn.symm; clear hzn; (try have hlt := l8.lt); (try replace l8 := l8.below (hbn.mono hle)); (try have hlt := m3.lt); (try replace m3 := m3.below (hbn.mono hle)); (try have hlt := c6.lt); (try replace c6 := c6.below (hbn.mono hle)); (try have hlt := r4.lt); (try replace r4 := r4.below (hbn.mono hle)); (try have hlt := ce.lt); (try replace ce := ce.below (hbn.mono hle)); (try have hlt := p9.lt); (try replace p9 := p9.below (hbn.mono hle)); (try have hlt := t13.lt); (try replace t13 := t13.below (hbn.mono hle)); (try have hlt := t15.lt); (try replace t15 := t15.below (hbn.mono hle)); (try have hlt := rs1.lt); (try replace rs1 := rs1.below (hbn.mono hle)); (try have hlt := rsm.lt); (try have hlt := rc5.lt); have t15 := ht; clear ht; simp only [putS])
    (refine wpList_storeB (t := 125) rfl _ _ rfl _ rfl _ rfl t15 (by rw [size_taC]; kernel_rfl) (by simp only [size_taC, size_zTA]) (taC_all _) ?_; clear t15; intro wn ht hcn hzn; have hsz := B.size; replace hzn := Nat.le_of_eq hzn.symm; replace B := Exc.store B hcn (by omega); (try replace l8 := l8.of_eq (hcn.block _ l8.lt (by omega))); (try replace m3 := m3.of_eq (hcn.block _ m3.lt (by omega))); (try replace c6 := c6.of_eq (hcn.block _ c6.lt (by omega))); (try replace r4 := r4.of_eq (hcn.block _ r4.lt (by omega))); (try replace ce := ce.of_eq (hcn.block _ ce.lt (by omega))); (try replace p9 := p9.of_eq (hcn.block _ p9.lt (by omega))); (try replace t13 := t13.of_eq (hcn.block _ t13.lt (by omega))); (try replace rs1 := rs1.of_eq (hcn.block _ rs1.lt (by omega))); have t15 := ht; clear ht; simp only [putS])
    refine wpList_nil ?_
    refine Only.at ?_
    try dsimp only
    replace t15 : AtB 125 _ b_t15 (taC ⟨X, Y, pstT c L X Y (tileL M X Y)⟩) := t15
    gi_upto_region 18 with fail
    refine round_lit (by kernel_rfl) ?_
    try simp only [gelS]
    refine chq 2 ?_
    repeat (first | go_big_quiet_skip | (go_big_quiet_want; first | ((first | refine quiet_buildTA0 rfl X Y rfl ?_ | refine quiet_loadT rfl _ rfl (ov_tile t13) ?_ | refine quiet_loadAny (t := 123) rfl _ _ _ rfl (fun w hw => ta_tile (ov_B t15 w hw)) (by first | rfl | omega) ?_ | refine qB ?_ | refine qC ?_); simp only [putS]; go_big_quiet_on) | (go_big_quiet_op; go_big_quiet_on)))
    refine wpQuiet_nil ?_
    (refine wpList_storeT rfl _ _ rfl _ rfl _ rfl t13 ?_; clear t13; intro wn ht hcn hzn; have hsz := B.size; replace hzn := Nat.le_of_eq hzn.symm; replace B := Exc.store B hcn (by omega); (try replace l8 := l8.of_eq (hcn.block _ l8.lt (by omega))); (try replace m3 := m3.of_eq (hcn.block _ m3.lt (by omega))); (try replace c6 := c6.of_eq (hcn.block _ c6.lt (by omega))); (try replace r4 := r4.of_eq (hcn.block _ r4.lt (by omega))); (try replace ce := ce.of_eq (hcn.block _ ce.lt (by omega))); (try replace p9 := p9.of_eq (hcn.block _ p9.lt (by omega))); (try replace t15 := t15.of_eq (hcn.block _ t15.lt (by omega))); (try replace rs1 := rs1.of_eq (hcn.block _ rs1.lt (by omega))); have t13 := ht; clear ht; simp only [putS])
    refine wpList_nil ?_
    refine Only.at ?_
    try dsimp only
    gi_upto_region 19 with fail
    refine round_lit (by kernel_rfl) ?_
    try simp only [gelS]
    refine chq 2 ?_
    repeat (first | go_big_quiet_skip | (go_big_quiet_want; first | ((first | refine quiet_buildTA0 rfl X Y rfl ?_ | refine qB ?_ | refine qC ?_); simp only [putS]; go_big_quiet_on) | (go_big_quiet_op; go_big_quiet_on)))
    refine wpQuiet_nil ?_
    refine wpList_nil ?_
    refine Only.at ?_
    try dsimp only
    gi_wp2
    rw [roundsIn_succ]
    gi_upto_region 16 with fail
    refine round_lit (by kernel_rfl) ?_
    try simp only [gelS]
    refine chq 1 ?_
    repeat (first | go_big_quiet_skip | (go_big_quiet_want; first | ((first | refine quiet_buildTA0 rfl X Y rfl ?_ | refine qB ?_ | refine qC ?_); simp only [putS]; go_big_quiet_on) | (go_big_quiet_op; go_big_quiet_on)))
    refine wpQuiet_nil ?_
    refine wpList_nil ?_
    refine Only.at ?_
    try dsimp only
    clear rs1
    have rs1 := RS1W.out.chg L8.out (by simp) B.toChg
    gi_upto_region 20 with fail
    refine round_lit (by kernel_rfl) ?_
    try simp only [gelS]
    refine chq 3 ?_
    repeat (first | go_big_quiet_skip | (go_big_quiet_want; first | ((first | refine quiet_buildTA0 rfl X Y rfl ?_ | refine quiet_loadT rfl _ rfl (ov_tile t13) ?_ | refine quiet_loadAny (t := 123) rfl _ _ _ rfl (fun w hw => ta_tile (ov_B t15 w hw)) (by first | rfl | omega) ?_ | refine qB ?_ | refine qC ?_); simp only [putS]; go_big_quiet_on) | (go_big_quiet_op; go_big_quiet_on)))
    refine wpQuiet_nil ?_
    refine clF (enters_of Tryz.func132 (by kernel_rfl) rfl) (c := P_with _ M X Y (pstT c L X Y (tileL M X Y)) _ rs1 SM.out HTT.out (by omega)) (h := ?_)
    rintro e wn ⟨v8, rfl, rs8, hbn⟩
    have hsz := B.size
    have hzn := hbn.size
    replace B := B.trans (hbn.mono B.size)
    (try replace l8 := l8.below hbn)
    (try replace m3 := m3.below hbn)
    (try replace c6 := c6.below hbn)
    (try replace r4 := r4.below hbn)
    (try replace ce := ce.below hbn)
    (try replace rs1 := rs1.below hbn)
    obtain ⟨a8, c8, rfl, hc8⟩ := rs8.len
    refine ⟨_, rfl, ?_⟩
    simp only [putS]
    (refine wpList_storeSl rfl _ _ rfl _ rfl _ _ _ rfl l8 ?_; have l8o := l8; clear l8; intro wn ht hcn hzn; (try replace rs8 := rs8.chg l8o (by simp) hcn); have hsz := B.size; replace hzn := Nat.le_of_eq hzn.symm; replace B := Exc.chg B hcn; (try replace m3 := m3.of_eq (hcn.block _ m3.lt (by omega))); (try replace c6 := c6.of_eq (hcn.block _ c6.lt (by omega))); (try replace r4 := r4.of_eq (hcn.block _ r4.lt (by omega))); (try replace ce := ce.of_eq (hcn.block _ ce.lt (by omega))); have l8 := ht; clear ht; simp only [putS])
    refine wpList_nil ?_
    refine Only.at ?_
    try dsimp only
    gi_wp2
    refine ⟨KeepsOthers.chgB B.toChg L8.out, KpB.chg B.toChg, ?_⟩
    dsimp only
    rw [HNEW.out]
    exact ⟨a8, c8, l8, rs8, m3, c6, r4, ce, Chg.below BW B.toChg (by omega) BW.size⟩
 case done =>
  have hszB := B.size
  rintro D xs W hD rfl ⟨a, cp, l8, rs1, m3, c6, r4, ce, BW⟩ hDD
  have kd : DefAt W D := hDD
  rw [posF_all] at l8 rs1
  have B := BW
  have hMn := pstL_len c L (posL c) KS
  rw [posL_len] at hMn
  obtain ⟨M, hM⟩ : ∃ M, pstL c L KS (posL c) = M := ⟨_, rfl⟩
  rw [hM] at l8 rs1 hMn
  have HM := Lib.hid hM
  clear hM
  have hwD : w.heap.size ≤ D := by omega
  have hne := kd.ne r4
  clear BW m3 c6 ce hD
  go_upto_region 21 with fail
  by_cases hm : M.length ≤ 1024
  ·have e1 : manyL M = M := if_pos hm
   have e2 : manyE M = 0 := if_pos hm
   refine wp_region_lit ?_
   try simp only [gelS]
   refine chk 1 ?_
   refine clF (enters_of Tryz.func78 (by kernel_rfl) rfl) (c := P_CloneO _ M _ rs1 (by omega)) (h := ?_)
   rintro e wn ⟨v2, b2, rfl, _, _, od2, hbn⟩
   have hsz := B.size
   have hzn := hbn.size
   replace B := B.trans (hbn.mono B.size)
   (try replace l8 := l8.below hbn)
   (try replace r4 := r4.below hbn)
   (try replace kd := kd.below hbn)
   have rs2 := od2.rs
   clear od2
   obtain ⟨a2, c2, rfl, hc2⟩ := rs2.len
   refine ⟨_, rfl, ?_⟩
   simp only [putS]
   refine clF (enters_of Tryz.func133 (by kernel_rfl) rfl) (c := P_made _ _ _ _ (by unfold maxLen; omega)) (h := ?_)
   rintro e wn ⟨rfl, hbn⟩
   have hsz := B.size
   have hzn := hbn.size
   replace B := B.trans (hbn.mono B.size)
   (try replace l8 := l8.below hbn)
   (try replace r4 := r4.below hbn)
   (try replace kd := kd.below hbn)
   replace rs2 := rs2.below hbn
   rw [if_pos hm]
   refine ⟨_, rfl, ?_⟩
   simp only [putS]
   refine chk 2 ?_
   (refine wpList_storeB (t := 64) rfl _ _ rfl _ rfl _ rfl r4 (by kernel_rfl) rfl (by simp [Value.oneCell']) (stK B (by omega) ?_); have r4o := r4; clear r4 B; intro wn r4 hcn hsz hzn B; (try replace rs2 := rs2.chg r4o (by simp) hcn); (try replace l8 := l8.of_eq (hcn.block _ l8.lt (by omega))); (try replace kd := kd.of_eq (hcn.block _ kd.lt (by omega))); simp only [putS])
   refine chk 1 ?_
   refine wpList_nil ?_
   go_wp2
   refine ⟨by simp, .inl ⟨_, _, rfl, run_takeDeferred kd, ?_⟩⟩
   refine ⟨_, results_B2 (t := 64) rfl _ _ b_r4 rfl _ rfl ((World.putObj_heap_other (fun e => hne (by omega))).trans r4) Tryz.isAgg64 (by kernel_rfl), ?_⟩
   have BF := B.trans (belowK_b (w := w) (Nat.le_refl _) wn D _ (.deferred none) hwD kd rfl rfl)
   dsimp only
   rw [HM.out, e1, e2]
   exact ⟨_, _, rfl, rs2.own (grownBy_putObj' _ _ _) (fun r e => by cases e; exact ⟨_, kd, rfl⟩), BF⟩
  ·have e1 : manyL M = [] := if_neg hm
   have e2 : manyE M = 2 := if_neg hm
   refine wp_region_lit ?_
   try simp only [gelS]
   refine chk 1 ?_
   refine clF (enters_of Tryz.func78 (by kernel_rfl) rfl) (c := P_CloneO _ M _ rs1 (by omega)) (h := ?_)
   rintro e wn ⟨v2, b2, rfl, _, _, od2, hbn⟩
   have hsz := B.size
   have hzn := hbn.size
   replace B := B.trans (hbn.mono B.size)
   (try replace r4 := r4.below hbn)
   (try replace kd := kd.below hbn)
   have rs2 := od2.rs
   clear od2
   obtain ⟨a2, c2, rfl, hc2⟩ := rs2.len
   refine ⟨_, rfl, ?_⟩
   simp only [putS]
   refine clF (enters_of Tryz.func133 (by kernel_rfl) rfl) (c := P_made _ _ _ _ (by unfold maxLen; omega)) (h := ?_)
   rintro e wn ⟨rfl, hbn⟩
   have hsz := B.size
   have hzn := hbn.size
   replace B := B.trans (hbn.mono B.size)
   (try replace r4 := r4.below hbn)
   (try replace kd := kd.below hbn)
   replace rs2 := rs2.below hbn
   rw [if_neg hm]
   refine ⟨_, rfl, ?_⟩
   simp only [putS]
   refine chk 2 ?_
   (refine wpList_storeB (t := 64) rfl _ _ rfl _ rfl _ rfl r4 (by kernel_rfl) rfl (by simp [Value.oneCell']) (stK B (by omega) ?_); have r4o := r4; clear r4 B; intro wn r4 hcn hsz hzn B; (try replace kd := kd.of_eq (hcn.block _ kd.lt (by omega))); simp only [putS])
   refine chk 1 ?_
   refine wpList_nil ?_
   go_wp2
   refine ⟨by simp, .inl ⟨_, _, rfl, run_takeDeferred kd, ?_⟩⟩
   refine ⟨_, results_B2 (t := 64) rfl _ _ b_r4 rfl _ rfl ((World.putObj_heap_other (fun e => hne (by omega))).trans r4) Tryz.isAgg64 (by kernel_rfl), ?_⟩
   have BF := B.trans (belowK_b (w := w) (Nat.le_refl _) wn D _ (.deferred none) hwD kd rfl rfl)
   dsimp only
   rw [HM.out, e1, e2]
   exact ⟨_, _, rfl, RS.nil _, BF⟩
end Go.Proofs.YtepelndbbhdofaaGreatDoor
/- Strokes, points and dabs in memory; contracts of Floor by any divisor, of round. -/
namespace Go.Proofs.YtepelndbbhdofaaGreatDoor
open Go.RowKit Go.Shelf Pl
set_option linter.unusedVariables false
set_option linter.unusedSimpArgs false
set_option maxRecDepth 20000
def spE : Elt Sp 3 43 26 where
 enc := fun a => #[.int .i64 a.x, .int .i64 a.y, .int .i64 a.p]
 bytes := 24
 zero := ⟨0, 0, 0⟩
 size := fun _ => rfl
 one := fun x u hu => by
  have : u ∈ [Value.int .i64 x.x, .int .i64 x.y, .int .i64 x.p] := hu
  simp at this
  rcases this with rfl | rfl | rfl <;> rfl
 pos := by omega
 small := by omega
 und := Tryz.underlying26
 info := by kernel_rfl
 zer := by kernel_rfl
theorem spE_r0 {g o : Nat} {ls : List Sp} {w : World} (h : RCellsE spE g o ls w) {i : Nat} {a : Sp} (hi : ls[i]? = some a) : w.cell? ⟨g, o + i * 3, none⟩ = some (.int .i64 a.x) := by
 have := h.2 i a hi 0 (by omega)
 rw [← Nat.add_assoc] at this
 exact this
theorem spE_r1 {g o : Nat} {ls : List Sp} {w : World} (h : RCellsE spE g o ls w) {i : Nat} {a : Sp} (hi : ls[i]? = some a) : w.cell? ⟨g, o + i * 3 + 1, none⟩ = some (.int .i64 a.y) := by
 have := h.2 i a hi 1 (by omega)
 rw [← Nat.add_assoc] at this
 exact this
theorem spE_c2 {t : TypeId} {w : World} {b : Nat} {a : Sp} (h : AtB t w b (spE.enc a)) : w.cell? ⟨b, 2, none⟩ = some (.int .i64 a.p) := h.cell 2 rfl
def dbE : Elt Db 3 45 35 where
 enc := fun a => #[.int .i64 a.x, .int .i64 a.y, .int .i64 a.r]
 bytes := 24
 zero := ⟨0, 0, 0⟩
 size := fun _ => rfl
 one := fun x u hu => by
  have : u ∈ [Value.int .i64 x.x, .int .i64 x.y, .int .i64 x.r] := hu
  simp at this
  rcases this with rfl | rfl | rfl <;> rfl
 pos := by omega
 small := by omega
 und := Tryz.underlying35
 info := by kernel_rfl
 zer := by kernel_rfl
theorem dbE_r0 {g o : Nat} {ls : List Db} {w : World} (h : RCellsE dbE g o ls w) {i : Nat} {a : Db} (hi : ls[i]? = some a) : w.cell? ⟨g, o + i * 3, none⟩ = some (.int .i64 a.x) := by
 have := h.2 i a hi 0 (by omega)
 rw [← Nat.add_assoc] at this
 exact this
theorem dbE_r1 {g o : Nat} {ls : List Db} {w : World} (h : RCellsE dbE g o ls w) {i : Nat} {a : Db} (hi : ls[i]? = some a) : w.cell? ⟨g, o + i * 3 + 1, none⟩ = some (.int .i64 a.y) := by
 have := h.2 i a hi 1 (by omega)
 rw [← Nat.add_assoc] at this
 exact this
theorem dbE_r2 {g o : Nat} {ls : List Db} {w : World} (h : RCellsE dbE g o ls w) {i : Nat} {a : Db} (hi : ls[i]? = some a) : w.cell? ⟨g, o + i * 3 + 2, none⟩ = some (.int .i64 a.r) := by
 have := h.2 i a hi 2 (by omega)
 rw [← Nat.add_assoc] at this
 exact this
def stC (v : Value) (s : Stk) : Array Value := #[v, .int .i64 s.rad, .int .i64 s.spa, .int .u8 s.col.r, .int .u8 s.col.g, .int .u8 s.col.b, .int .u8 s.col.a, .bool s.era, .int .i64 s.pha]
section
variable {t : TypeId} {w : World} {b : Nat} {v : Value} {s : Stk}
theorem stC_col (h : AtB t w b (stC v s)) : (Instr.loadAt 28 (.pointer (some ⟨b, 3, none⟩))).run Tryz.prog w = .ok (.agg #[.int .u8 s.col.r, .int .u8 s.col.g, .int .u8 s.col.b, .int .u8 s.col.a]) w :=
 run_load_BP h 3 Tryz.isAgg28 (by kernel_rfl) (fun j hj => by
  have hj : j < 4 := hj
  match j, hj with
  | 0, _ => rfl
  | 1, _ => rfl
  | 2, _ => rfl
  | 3, _ => rfl)
end
theorem run_alloc_I (w : World) (o : Oper) (ho : o.op = .alloc 3) (ev : Operand → Value) : (execOp ev o).run Tryz.prog w = .ok (.value (.pointer (some ⟨w.heap.size, 0, none⟩))) (w.alloc (.cells #[.int .i64 0] 3)) := by
 obtain ⟨d, p, t, ps, af, gd⟩ := o
 simp only at ho
 subst ho
 kernel_rfl
theorem run_alloc_Sp (w : World) (o : Oper) (ho : o.op = .alloc 43) (ev : Operand → Value) : (execOp ev o).run Tryz.prog w = .ok (.value (.pointer (some ⟨w.heap.size, 0, none⟩))) (w.alloc (.cells #[.int .i64 0, .int .i64 0, .int .i64 0] 43)) := by
 obtain ⟨d, p, t, ps, af, gd⟩ := o
 simp only at ho
 subst ho
 kernel_rfl
theorem run_alloc_Db (w : World) (o : Oper) (ho : o.op = .alloc 45) (ev : Operand → Value) : (execOp ev o).run Tryz.prog w = .ok (.value (.pointer (some ⟨w.heap.size, 0, none⟩))) (w.alloc (.cells #[.int .i64 0, .int .i64 0, .int .i64 0] 45)) := by
 obtain ⟨d, p, t, ps, af, gd⟩ := o
 simp only at ho
 subst ho
 kernel_rfl
theorem run_alloc_St (w : World) (o : Oper) (ho : o.op = .alloc 30) (ev : Operand → Value) : (execOp ev o).run Tryz.prog w = .ok (.value (.pointer (some ⟨w.heap.size, 0, none⟩))) (w.alloc (.cells #[.slice none 0 0, .int .i64 0, .int .i64 0, .int .u8 0, .int .u8 0, .int .u8 0, .int .u8 0, .bool false, .int .i64 0] 30)) := by
 obtain ⟨d, p, t, ps, af, gd⟩ := o
 simp only at ho
 subst ho
 kernel_rfl
/-- An integer stored into a cell of a block. -/
theorem wpList_stI {t : TypeId} {ops : Array Oper} {rest : List Oper} {o : Oper} {a : Act} {w : World} {Q : Exit → Act → World → Prop} (hg : o.guard = none) (x y : Operand) (ho : o.op = .store 3 x y) (b i : Nat) (hx : a.eval x = .pointer (some ⟨b, i, none⟩)) (z : Int) (hy : a.eval y = .int .i64 z) {cs : Array Value} (ht : AtB t w b cs) {c : Value} (hc : cs[i]? = some c)
  (h : ∀ w', AtB t w' b (cs.setIfInBounds i (.int .i64 z)) → Chg b w w' → w'.heap.size = w.heap.size → wpList Tryz.prog ops Q rest (a.put o.dst undef) w') : wpList Tryz.prog ops Q (o :: rest) a w := by
 have c0 := ht.cell i hc
 have f0 := ht.frozen i
 refine wpList_storeAny hg x y ho (w.setCell ⟨b, i, none⟩ (.int .i64 z)) ?_ (h _ ?_ ((Chg.refl b w).setCell _) (by simp only [World.size_setCell]))
 ·rw [hx, hy]
  simp [go_sem, c0, f0]
 ·exact heap_setCell_same w b i cs _ _ ht
theorem tneg_le {x d : Int} (hx : x ≤ 0) (hd : 0 < d) : x.tmod d ≤ 0 ∧ x.tdiv d ≤ 0 := by
 obtain ⟨n, rfl⟩ : ∃ n : Nat, x = -(n : Int) := ⟨(-x).toNat, by omega⟩
 rw [Int.neg_tmod, Int.neg_tdiv, Int.tmod_eq_emod_of_nonneg (by omega), Int.tdiv_eq_ediv_of_nonneg (by omega)]
 have h1 := Int.emod_nonneg (n : Int) (show d ≠ 0 by omega)
 have h2 : 0 ≤ (n : Int) / d := Int.ediv_nonneg (by omega) (by omega)
 omega
theorem tdiv_negD {x d : Int} (h : x < 0) (hd : 0 < d) : (x.tmod d = 0 → x.tdiv d = x / d) ∧ (x.tmod d ≠ 0 → x.tdiv d - 1 = x / d) := by
 have e : d * x.tdiv d + x.tmod d = x := by have := Int.tmod_def x d; omega
 have b1 : -d < x.tmod d := by have := Int.lt_tmod_of_pos x hd; omega
 have b2 : x.tmod d ≤ 0 := (tneg_le (x := x) (by omega) (show 0 < d by omega)).1
 generalize x.tmod d = r at *
 generalize x.tdiv d = q at *
 rw [Int.mul_comm] at e
 constructor
 ·intro h0
  exact ((Int.ediv_emod_unique (a := x) (q := q) (r := 0) hd).2 ⟨by rw [Int.mul_comm d q]; omega, by omega, hd⟩).1.symm
 ·intro h0
  exact ((Int.ediv_emod_unique (a := x) (q := q - 1) (r := r + d) hd).2 ⟨by rw [Int.mul_comm d (q - 1), Int.sub_mul]; omega, by omega, by omega⟩).1.symm
theorem tdiv_bdD {x d m : Int} (hd : 1 ≤ d) (h1 : -m ≤ x) (h2 : x ≤ 0) : -m ≤ x.tdiv d ∧ x.tdiv d ≤ 0 := by
 have e : d * x.tdiv d + x.tmod d = x := by have := Int.tmod_def x d; omega
 have b2 : x.tmod d ≤ 0 := (tneg_le (x := x) (by omega) (show 0 < d by omega)).1
 have hq : x.tdiv d ≤ 0 := (tneg_le h2 (show 0 < d by omega)).2
 refine ⟨?_, hq⟩
 have : d * x.tdiv d ≤ x.tdiv d := by
  have h := Int.mul_le_mul_of_nonneg_right hd (show 0 ≤ -x.tdiv d by omega)
  rw [Int.one_mul, Int.mul_neg] at h
  omega
 have hb : x ≤ d * x.tdiv d := by omega
 -- d * q = x - r, so -m ≤ x ≤ d * q ≤ q
 omega
set_option maxHeartbeats 1000000 in
theorem P_FloorD (x d : Int) (w : World) (hx1 : -4611686018427387904 ≤ x) (hx2 : x ≤ 4611686018427387904) (hd : 1 ≤ d) (hd2 : d ≤ 4611686018427387904) : Calls Tryz.prog 111 #[.int .i64 x, .int .i64 d] w fun e w' => e = .returned (.int .i64 (x / d)) ∧ Below w.heap.size w w' := by
 have e0 : (d == 0) = false := by simp; omega
 have e00 : d ≠ 0 := by omega
 have e01 : decide (d < 0) = false := decide_eq_false (by omega)
 have e02 : ¬ d < 0 := by omega
 by_cases h0 : 0 ≤ x
 ·have h1 : ¬ x < 0 := by omega
  have d1 : decide (x < 0) = false := decide_eq_false h1
  have t1 : x.tdiv d = x / d := Int.tdiv_eq_ediv_of_nonneg h0
  have t2 : x.tmod d = x % d := Int.tmod_eq_emod_of_nonneg h0
  have b1 : 0 ≤ x / d := Int.ediv_nonneg h0 (by omega)
  have b2 : x / d ≤ x := Int.ediv_le_self d h0
  by_cases hm : x % d = 0
  ·have e1 : (x % d == 0) = true := by simpa using hm
   have e2 : (x % d != 0) = false := by simpa using hm
   clear hm h0 h1
   go_enter Tryz.func111, Tryz.ntmps111
   go_wp2
   go_ret
   exact ⟨by first | rfl | rw [t1], by go_grown⟩
  ·have e1 : (x % d == 0) = false := by simpa using hm
   have e2 : (x % d != 0) = true := by simpa using hm
   clear hm h0 h1
   go_enter Tryz.func111, Tryz.ntmps111
   go_wp2
   go_ret
   exact ⟨by first | rfl | rw [t1], by go_grown⟩
 ·have h1 : x < 0 := by omega
  have d1 : decide (x < 0) = true := decide_eq_true h1
  obtain ⟨t1, t2⟩ := tdiv_negD h1 (show 0 < d by omega)
  have hb := tdiv_bdD (m := 4611686018427387904) hd hx1 (show x ≤ 0 by omega)
  by_cases hm : x.tmod d = 0
  ·have E := Lib.hid (t1 hm)
   have e1 : (x.tmod d == 0) = true := by simpa using hm
   have e2 : (x.tmod d != 0) = false := by simpa using hm
   clear t1 t2 h0 hm
   go_enter Tryz.func111, Tryz.ntmps111
   go_wp2
   go_ret
   exact ⟨ret_int E.out, by go_grown⟩
  ·have E := Lib.hid (t2 hm)
   have e1 : (x.tmod d == 0) = false := by simpa using hm
   have e2 : (x.tmod d != 0) = true := by simpa using hm
   clear t1 t2 h0 hm
   go_enter Tryz.func111, Tryz.ntmps111
   go_wp2
   go_ret
   exact ⟨ret_int E.out, by go_grown⟩
theorem P_FloorO (x d q : Int) (w : World) (hx1 : -4611686018427387904 ≤ x) (hx2 : x ≤ 4611686018427387904) (hd : 1 ≤ d) (hd2 : d ≤ 4611686018427387904) (e : x / d = q) : Calls Tryz.prog 111 #[.int .i64 x, .int .i64 d] w fun e w' => e = .returned (.int .i64 q) ∧ Below w.heap.size w w' := e ▸ P_FloorD x d w hx1 hx2 hd hd2
theorem P_round14 (x d q : Int) (w : World) (hx1 : -1000000000000000000 ≤ x) (hx2 : x ≤ 1000000000000000000) (hd : 1 ≤ d) (hd2 : d ≤ 1000000000000000000) (e : roundI x d = q) : Calls Tryz.prog 68 #[.int .i64 x, .int .i64 d] w fun e w' => e = .returned (.int .i64 q) ∧ Below w.heap.size w w' := by
 have B := Below.refl w.heap.size w
 have E := Lib.hid (show (2 * x + d) / (2 * d) = q from e)
 clear e
 go_enter Tryz.func68, Tryz.ntmps68
 go_upto_region 1 with fail
 refine wp_region_lit ?_
 try simp only [gelS]
 refine chk 6 ?_
 refine clF (enters_of Tryz.func111 (by kernel_rfl) rfl) (c := P_FloorO (2 * x + d) (2 * d) q _ (by omega) (by omega) (by omega) (by omega) E.out) (h := ?_)
 rintro e wn ⟨rfl, hbn⟩
 have hsz := B.size
 have hzn := hbn.size
 replace B := B.trans (hbn.mono B.size)
 refine ⟨_, rfl, ?_⟩
 simp only [putS]
 refine chk 1 ?_
 refine wpList_nil ?_
 go_wp2
 go_ret
 exact ⟨rfl, B⟩
end Go.Proofs.YtepelndbbhdofaaGreatDoor
/- A strings.Builder in use, told with what a write keeps: blocks of other kinds; the closure 'put' of Bytes. -/
namespace Go.Proofs.YtepelndbbhdofaaGreatDoor
open Go.RowKit Go.Lib Sha
set_option linter.unusedVariables false
set_option linter.unusedSimpArgs false
set_option maxRecDepth 20000
/-- A builder in use: it holds the bytes l. -/
def UB (B b : Nat) (l : List UInt8) (w : World) : Prop := Lib.BuilderAt 131 5 B b (.pointer (some ⟨b, 0, none⟩)) (Lib.byteCells l) w
/-- Blocks of other kinds than bytes stand, but one. -/
def KB (b : Nat) (w w' : World) : Prop := ∀ (k : Nat) (t : TypeId) (cs : Array Value), AtB t w k cs → k ≠ b → t ≠ 5 → AtB t w' k cs
theorem UB.holds {B b : Nat} {l : List UInt8} {w : World} (h : UB B b l w) : HoldsB B b l w := .inr h
theorem UB.lt {B b : Nat} {l : List UInt8} {w : World} (h : UB B b l w) : b < w.heap.size := h.holds.lt
theorem UB.below {B b : Nat} {l : List UInt8} {w w' : World} (h : UB B b l w) (hb : Below w.heap.size w w') : UB B b l w' := by
 have hlt := h.lt
 obtain ⟨hB, v, hv, hown, hne⟩ := h
 exact ⟨hB, v, (hb.block b hlt).trans hv, hown.kept (row := none) ⟨hb.os, hb.tape, hb.output, hb.size, fun k hk _ => hb.block k hk⟩ (Classical.em _), hne⟩
theorem KB.below {b : Nat} {w w' : World} (hb : Below w.heap.size w w') : KB b w w' := fun k t cs h _ _ => h.of_eq (hb.block k h.lt)
theorem KB.trans {b : Nat} {u v w : World} (h : KB b u v) (k : KB b v w) : KB b u w := fun i t cs hi hb ht => k i t cs (h i t cs hi hb ht) hb ht
theorem L_WSfirst (B b : Nat) (l : List UInt8) (s : ByteArray) (w : World) (h : HoldsB B b l w) (hlen : l.length + s.size ≤ 140737488355328) (hBw : B ≤ w.heap.size) :
  Calls Tryz.prog 83 #[.pointer (some ⟨b, 0, none⟩), .string s] w fun e w' => e = .returned (.tuple #[.int .i64 s.size, .nilIface]) ∧ UB B b (l ++ bytes s) w' ∧ Below B w w' :=
 (Any.Builder_WriteString lays166 extra B b (Lib.byteCells l) s w h (by simpa [Lib.byteCells] using hlen) hBw).mono fun e w' ⟨h1, h2, h3⟩ => ⟨h1, (by unfold UB; rw [bc_append]; exact h2), h3⟩
theorem P_copyC (B b : Nat) (l : List UInt8) (w : World) (h : UB B b l w) : Calls Tryz.prog 137 #[.pointer (some ⟨b, 0, none⟩)] w fun e w' => e = .returned (.tuple #[]) ∧ w' = w := Any.Builder_copyCheck_used { lays166 with } extra.toX72 b w h.cell0
set_option maxHeartbeats 2000000 in
theorem P_WS (B b : Nat) (l : List UInt8) (s : ByteArray) (w : World) (h : UB B b l w) (hlen : l.length + s.size ≤ 140737488355328) (hBw : B ≤ w.heap.size) :
  Calls Tryz.prog 83 #[.pointer (some ⟨b, 0, none⟩), .string s] w fun e w' => (∃ v, e = .returned v) ∧ UB B b (l ++ bytes s) w' ∧ Below B w w' ∧ KB b w w' := by
 have hlt := h.lt
 have HU := Lib.hid h
 obtain ⟨hB, v, hbk, hown, hne⟩ := h
 have c1 : w.cell? ⟨b, 1, none⟩ = some v := by rw [Lib.cell_of_heap hbk]; rfl
 have hcl : (Lib.byteCells l).length = l.length := by simp [Lib.byteCells]
 obtain ⟨i0, hi, hz0, hz1, hz2⟩ := info_parts extra.infoByte
 go_enter Tryz.func83, Tryz.ntmps83
 go_wp2_with (go_at_call 137; refine (P_copyC B b l _ HU.out).mono ?_)
 rintro e w1 ⟨rfl, hw⟩
 have hw2 := hw.symm
 clear hw
 subst hw2
 go_wp2_with (at_builtin; refine Lib.wpList_append_own_string _ rfl _ _ 75 9 rfl B 5 i0 Tryz.underlying75 Tryz.underlying9 hi hz0 hz1 hz2 _ _ _ rfl hown s rfl ?c3 ?c4 ?c5 ?_)
 case c3 => rw [hcl]; unfold maxLen; omega
 case c4 => rw [hcl]; omega
 case c5 => exact hBw
 intro v' w2 hown' hgrow _
 have hb2 : w2.heap[b]? = some (.cells #[.pointer (some ⟨b, 0, none⟩), v] 131 (0, 0)) := by
  rw [hgrow.block b hlt (fun e => hne e.symm)]
  exact hbk
 have d1 : w2.cell? ⟨b, 1, none⟩ = some v := by rw [Lib.cell_of_heap hb2]; rfl
 have f1 : w2.frozen? ⟨b, 1, none⟩ = false := Lib.frozen_of_heap hb2 1
 have KG : KB b w w2 := fun k t cs hk hkb ht => hk.of_eq (hgrow.block k hk.lt fun e => by
  rcases hown.2 with ⟨rfl, _⟩ | ⟨g, cap, cur, rfl, _, hgc, _⟩
  ·cases e
  ·have hgk : k = g := by simpa [Value.ownBlock] using e
   subst hgk
   rw [show w.heap[k]? = _ from hk] at hgc
   injection hgc with hgc
   injection hgc with _ e2 _
   exact ht e2)
 obtain ⟨ao, n', cap, rfl⟩ : ∃ ao n' cap, v' = .slice ao n' cap := by
  rcases hown'.2 with ⟨hv, _⟩ | ⟨g, cap, cur, hv, _⟩
  ·exact ⟨_, _, _, hv⟩
  ·exact ⟨_, _, _, hv⟩
 have HOW := Lib.hid hown
 clear hown hbk HU c1
 go_wp2
 go_ret2
 refine ⟨⟨_, rfl⟩, ?_, ?_, ?_⟩
 ·unfold UB
  rw [bc_append]
  exact Lib.BuilderAt.put (T := 131) (e := 5) hB hb2 (bs' := Lib.byteCells l ++ Lib.strCells s) (by rw [List.length_append, Lib.strCells_length, hcl]; exact hown') extra.neB5
 ·exact ((Below.refl B w).grown hgrow hBw (fun k hk => (World.ownsRow.lt HOW.out k hk).1)).setCell (p := ⟨b, 1, none⟩) hB _
 ·exact fun k t cs hk hkb ht => (KG k t cs hk hkb ht).of_eq (((Chg.refl b w2).setCell _).block k (KG k t cs hk hkb ht).lt hkb)
theorem bytes_big (n m : Nat) : bytes (ofL (big n m)) = big n m := rfl
theorem P_put1F (B0 b : Nat) (l : List UInt8) (n : Nat) (w : World) (h : HoldsB B0 b l w) (hn : n < 16777216) (hlen : l.length ≤ 100000) (hBw : B0 ≤ w.heap.size) : Calls Tryz.prog 82 #[.int .i64 (n : Int), .int .i64 1, .pointer (some ⟨b, 0, none⟩)] w fun e w' => (∃ v, e = .returned v) ∧ UB B0 b (l ++ big n 1) w' ∧ Below B0 w w' := by
 have B := Below.refl w.heap.size w
 go_enter Tryz.func82, Tryz.ntmps82
 go_upto_region 0 with fail
 refine wp_region_lit ?_
 try simp only [gelS]
 refine chk 2 ?_
 refine clF (enters_of Tryz.func84 (by kernel_rfl) rfl) (c := P_Put1 n (by omega) _) (h := ?_)
 rintro e wn ⟨rfl, hbn⟩
 have hsz := B.size
 have hzn := hbn.size
 replace B := B.trans (hbn.mono B.size)
 replace h := h.below hbn
 refine ⟨_, rfl, ?_⟩
 simp only [putS]
 refine clF (enters_of Tryz.func83 (by kernel_rfl) rfl) (c := L_WSfirst B0 b l _ wn h (by rw [ofL_size, big_length]; omega) (by have := B.size; omega)) (h := ?_)
 rintro e wm ⟨rfl, hu, hbm⟩
 rw [bytes_big] at hu
 refine ⟨_, rfl, ?_⟩
 simp only [putS]
 refine wpList_nil ?_
 go_wp2
 go_end0
 refine ⟨⟨_, rfl⟩, hu, (B.mono hBw).trans hbm⟩
theorem P_put1 (B0 b : Nat) (l : List UInt8) (n : Nat) (w : World) (h : UB B0 b l w) (hn : n < 16777216) (hlen : l.length ≤ 100000) (hBw : B0 ≤ w.heap.size) : Calls Tryz.prog 82 #[.int .i64 (n : Int), .int .i64 1, .pointer (some ⟨b, 0, none⟩)] w fun e w' => (∃ v, e = .returned v) ∧ UB B0 b (l ++ big n 1) w' ∧ Below B0 w w' ∧ KB b w w' := by
 have B := Below.refl w.heap.size w
 go_enter Tryz.func82, Tryz.ntmps82
 go_upto_region 0 with fail
 refine wp_region_lit ?_
 try simp only [gelS]
 refine chk 2 ?_
 refine clF (enters_of Tryz.func84 (by kernel_rfl) rfl) (c := P_Put1 n (by omega) _) (h := ?_)
 rintro e wn ⟨rfl, hbn⟩
 have hsz := B.size
 have hzn := hbn.size
 replace B := B.trans (hbn.mono B.size)
 replace h := h.below hbn
 refine ⟨_, rfl, ?_⟩
 simp only [putS]
 refine clF (enters_of Tryz.func83 (by kernel_rfl) rfl) (c := P_WS B0 b l _ wn h (by rw [ofL_size, big_length]; omega) (by have := B.size; omega)) (h := ?_)
 rintro e wm ⟨⟨v, rfl⟩, hu, hbm, hkm⟩
 rw [bytes_big] at hu
 refine ⟨_, rfl, ?_⟩
 simp only [putS]
 refine wpList_nil ?_
 go_wp2
 go_end0
 refine ⟨⟨_, rfl⟩, hu, (B.mono hBw).trans hbm, (KB.below B).trans hkm⟩
theorem P_put2 (B0 b : Nat) (l : List UInt8) (n : Nat) (w : World) (h : UB B0 b l w) (hn : n < 16777216) (hlen : l.length ≤ 100000) (hBw : B0 ≤ w.heap.size) : Calls Tryz.prog 82 #[.int .i64 (n : Int), .int .i64 2, .pointer (some ⟨b, 0, none⟩)] w fun e w' => (∃ v, e = .returned v) ∧ UB B0 b (l ++ big n 2) w' ∧ Below B0 w w' ∧ KB b w w' := by
 have B := Below.refl w.heap.size w
 go_enter Tryz.func82, Tryz.ntmps82
 go_upto_region 0 with fail
 refine wp_region_lit ?_
 try simp only [gelS]
 refine chk 2 ?_
 refine clF (enters_of Tryz.func84 (by kernel_rfl) rfl) (c := P_Put2 n (by omega) _) (h := ?_)
 rintro e wn ⟨rfl, hbn⟩
 have hsz := B.size
 have hzn := hbn.size
 replace B := B.trans (hbn.mono B.size)
 replace h := h.below hbn
 refine ⟨_, rfl, ?_⟩
 simp only [putS]
 refine clF (enters_of Tryz.func83 (by kernel_rfl) rfl) (c := P_WS B0 b l _ wn h (by rw [ofL_size, big_length]; omega) (by have := B.size; omega)) (h := ?_)
 rintro e wm ⟨⟨v, rfl⟩, hu, hbm, hkm⟩
 rw [bytes_big] at hu
 refine ⟨_, rfl, ?_⟩
 simp only [putS]
 refine wpList_nil ?_
 go_wp2
 go_end0
 refine ⟨⟨_, rfl⟩, hu, (B.mono hBw).trans hbm, (KB.below B).trans hkm⟩
theorem P_put3 (B0 b : Nat) (l : List UInt8) (n : Nat) (w : World) (h : UB B0 b l w) (hn : n < 16777216) (hlen : l.length ≤ 100000) (hBw : B0 ≤ w.heap.size) : Calls Tryz.prog 82 #[.int .i64 (n : Int), .int .i64 3, .pointer (some ⟨b, 0, none⟩)] w fun e w' => (∃ v, e = .returned v) ∧ UB B0 b (l ++ big n 3) w' ∧ Below B0 w w' ∧ KB b w w' := by
 have B := Below.refl w.heap.size w
 go_enter Tryz.func82, Tryz.ntmps82
 go_upto_region 0 with fail
 refine wp_region_lit ?_
 try simp only [gelS]
 refine chk 2 ?_
 refine clF (enters_of Tryz.func84 (by kernel_rfl) rfl) (c := P_Put3 n (by omega) _) (h := ?_)
 rintro e wn ⟨rfl, hbn⟩
 have hsz := B.size
 have hzn := hbn.size
 replace B := B.trans (hbn.mono B.size)
 replace h := h.below hbn
 refine ⟨_, rfl, ?_⟩
 simp only [putS]
 refine clF (enters_of Tryz.func83 (by kernel_rfl) rfl) (c := P_WS B0 b l _ wn h (by rw [ofL_size, big_length]; omega) (by have := B.size; omega)) (h := ?_)
 rintro e wm ⟨⟨v, rfl⟩, hu, hbm, hkm⟩
 rw [bytes_big] at hu
 refine ⟨_, rfl, ?_⟩
 simp only [putS]
 refine wpList_nil ?_
 go_wp2
 go_end0
 refine ⟨⟨_, rfl⟩, hu, (B.mono hBw).trans hbm, (KB.below B).trans hkm⟩
end Go.Proofs.YtepelndbbhdofaaGreatDoor
/- Plain: strokes as bytes. -/
namespace Go.Proofs.YtepelndbbhdofaaGreatDoor
open Go.RowKit Pl Sha
set_option linter.unusedVariables false
set_option linter.unusedSimpArgs false
/-- A number, big endian. -/
def beN (l : List UInt8) : Nat := l.foldl (fun n b => 256 * n + b.toNat) 0
theorem beN_snoc (l : List UInt8) (b : UInt8) : beN (l ++ [b]) = 256 * beN l + b.toNat := by unfold beN; rw [List.foldl_append]; rfl
theorem snocU_ind {P : List UInt8 → Prop} (h0 : P []) (h1 : ∀ l b, P l → P (l ++ [b])) : ∀ l, P l := fun l => by
 rw [← List.reverse_reverse l]
 induction l.reverse with
 | nil => exact h0
 | cons b r ih => rw [List.reverse_cons]; exact h1 _ _ ih
theorem beN_lt (l : List UInt8) : beN l < 256 ^ l.length := by
 induction l using snocU_ind with
 | h0 => show 0 < 256 ^ 0; decide
 | h1 l b ih =>
  rw [beN_snoc, List.length_append, List.length_singleton, Nat.pow_succ]
  have := b.toNat_lt
  omega
theorem beN_big : ∀ (m n : Nat), n < 256 ^ m → beN (big n m) = n
  | 0, n, h => by have : n = 0 := by simpa using h
                  subst this; rfl
  | m + 1, n, h => by
    rw [Nat.pow_succ] at h
    show beN (big (n / 256) m ++ [UInt8.ofNat n]) = n
    rw [beN_snoc, beN_big m (n / 256) (by omega), UInt8.toNat_ofNat']
    omega
def subL (l : List UInt8) (i m : Nat) : List UInt8 := (l.drop i).take m
theorem subL_len {l : List UInt8} {i m : Nat} (h : i + m ≤ l.length) : (subL l i m).length = m := by unfold subL; rw [List.length_take, List.length_drop]; omega
theorem subL_mid {l A B C : List UInt8} {i m : Nat} (h : l = A ++ B ++ C) (hi : A.length = i) (hm : B.length = m) : subL l i m = B := by
 subst h hi hm
 unfold subL
 rw [List.append_assoc, List.drop_left, List.take_left]
theorem subL_at {l : List UInt8} {i m j : Nat} (hj : j < m) : (subL l i m)[j]? = l[i + j]? := by
 unfold subL
 rw [List.getElem?_take, if_pos hj, List.getElem?_drop]
def ptB (p : Sp) : List UInt8 := big (p.x + 1048576).toNat 3 ++ big (p.y + 1048576).toNat 3 ++ big p.p.toNat 1
def ptsB (l : List Sp) : List UInt8 := l.flatMap ptB
def colB (c : Px) : List UInt8 := [bt c.r, bt c.g, bt c.b, bt c.a]
def eraN (s : Stk) : Nat := if s.era = true then 1 else 0
def tlB8 (s : Stk) : List UInt8 := big s.rad.toNat 2 ++ big s.spa.toNat 2 ++ colB s.col ++ big (eraN s) 1 ++ big s.pha.toNat 3
def bytesF (s : Stk) : List UInt8 := big s.pts.length 1 ++ ptsB s.pts ++ tlB8 s
def bytesL (s : Stk) : List UInt8 := if validS s = true then bytesF s else []
theorem ptB_len (p : Sp) : (ptB p).length = 7 := by unfold ptB; simp only [List.length_append, big_length]
theorem ptsB_len (l : List Sp) : (ptsB l).length = 7 * l.length := by
 induction l with
 | nil => rfl
 | cons p r ih =>
  show (ptB p ++ ptsB r).length = _
  rw [List.length_append, ptB_len, ih, List.length_cons]
  omega
theorem ptsB_append (a b : List Sp) : ptsB (a ++ b) = ptsB a ++ ptsB b := List.flatMap_append
theorem ptsB_snoc (a : List Sp) (p : Sp) : ptsB (a ++ [p]) = ptsB a ++ ptB p := by
 rw [ptsB_append]
 show ptsB a ++ (ptB p ++ []) = _
 rw [List.append_nil]
theorem tailB_len (s : Stk) : (tlB8 s).length = 12 := by unfold tlB8 colB; simp only [List.length_append, big_length, List.length_cons, List.length_nil]
theorem bytesF_len (s : Stk) : (bytesF s).length = 13 + 7 * s.pts.length := by
 unfold bytesF
 rw [List.length_append, List.length_append, big_length, ptsB_len, tailB_len]
 omega
/-! ### Reading -/
def parN (l : List UInt8) : Nat := beN (subL l 0 1)
def parP (l : List UInt8) (i : Nat) : Sp := ⟨(beN (subL l (1 + 7 * i) 3) : Int) - 1048576, (beN (subL l (4 + 7 * i) 3) : Int) - 1048576, (beN (subL l (7 + 7 * i) 1) : Int)⟩
def parC (l : List UInt8) (e : Nat) : Px := ⟨((l.getD e 0).toNat : Int), ((l.getD (e + 1) 0).toNat : Int), ((l.getD (e + 2) 0).toNat : Int), ((l.getD (e + 3) 0).toNat : Int)⟩
def pkS (l : List UInt8) (n : Nat) : Stk := ⟨(List.range n).map (parP l), (beN (subL l (1 + 7 * n) 2) : Int), (beN (subL l (3 + 7 * n) 2) : Int), parC l (5 + 7 * n), decide (beN (subL l (9 + 7 * n) 1) = 1), (beN (subL l (10 + 7 * n) 3) : Int)⟩
def parS (l : List UInt8) : Stk := pkS l (parN l)
def zSt : Stk := ⟨[], 0, 0, Px.zero, false, 0⟩
def readL (l : List UInt8) : Stk × Int := if l.length < 13 + 7 * parN l then (zSt, 10) else if bytesL (parS l) = l then (parS l, 0) else (zSt, 11)
theorem parC_ok (l : List UInt8) (e : Nat) : (parC l e).ok := by
 unfold parC
 have h : ∀ b : UInt8, 0 ≤ (b.toNat : Int) ∧ (b.toNat : Int) ≤ 255 := fun b => by have := b.toNat_lt; omega
 exact ⟨h _, h _, h _, h _⟩
theorem eraN_le (s : Stk) : eraN s ≤ 1 := by unfold eraN; split <;> omega
theorem bytesF_era (s : Stk) : subL (bytesF s) (9 + 7 * s.pts.length) 1 = big (eraN s) 1 :=
 subL_mid (A := big s.pts.length 1 ++ ptsB s.pts ++ (big s.rad.toNat 2 ++ big s.spa.toNat 2 ++ colB s.col)) (C := big s.pha.toNat 3) (by unfold bytesF tlB8; simp only [List.append_assoc]) (by simp only [List.length_append, big_length, ptsB_len, colB, List.length_cons, List.length_nil]; omega) (big_length _ _)
/-! ### Reading what was written -/
theorem bytesF_n (s : Stk) (h : s.pts.length ≤ 255) : parN (bytesF s) = s.pts.length := by
 unfold parN
 rw [subL_mid (i := 0) (m := 1) (A := []) (B := big s.pts.length 1) (C := ptsB s.pts ++ tlB8 s) (by unfold bytesF; simp only [List.append_assoc, List.nil_append]) rfl (big_length _ _)]
 exact beN_big 1 _ (by omega)
theorem bytesF_pt {s : Stk} {i : Nat} {p : Sp} (h : s.pts[i]? = some p) (ok : okS p) : parP (bytesF s) i = p := by
 have hi : i < s.pts.length := (List.getElem?_eq_some_iff.1 h).1
 have e : s.pts = s.pts.take i ++ (p :: s.pts.drop (i + 1)) := by
  have := List.take_append_drop i s.pts
  rw [List.drop_eq_getElem_cons hi] at this
  have hp : s.pts[i] = p := (List.getElem?_eq_some_iff.1 h).2
  rw [hp] at this
  exact this.symm
 have e2 : bytesF s = big s.pts.length 1 ++ ptsB (s.pts.take i) ++ ptB p ++ (ptsB (s.pts.drop (i + 1)) ++ tlB8 s) := by
  have e3 : ptsB s.pts = ptsB (s.pts.take i) ++ (ptB p ++ ptsB (s.pts.drop (i + 1))) := by
   conv => lhs; rw [e]
   rw [ptsB_append]
   rfl
  unfold bytesF
  rw [e3]
  simp only [List.append_assoc]
 have hA : (big s.pts.length 1 ++ ptsB (s.pts.take i)).length = 1 + 7 * i := by rw [List.length_append, big_length, ptsB_len, List.length_take]; omega
 obtain ⟨o1, o2, o3, o4, o5, o6⟩ := ok
 have h1 : subL (bytesF s) (1 + 7 * i) 3 = big (p.x + 1048576).toNat 3 := subL_mid (A := big s.pts.length 1 ++ ptsB (s.pts.take i)) (C := big (p.y + 1048576).toNat 3 ++ (big p.p.toNat 1 ++ (ptsB (s.pts.drop (i + 1)) ++ tlB8 s))) (by rw [e2]; unfold ptB; simp only [List.append_assoc]) hA (big_length _ _)
 have h2 : subL (bytesF s) (4 + 7 * i) 3 = big (p.y + 1048576).toNat 3 := subL_mid (A := big s.pts.length 1 ++ ptsB (s.pts.take i) ++ big (p.x + 1048576).toNat 3) (C := big p.p.toNat 1 ++ (ptsB (s.pts.drop (i + 1)) ++ tlB8 s)) (by rw [e2]; unfold ptB; simp only [List.append_assoc]) (by rw [List.length_append, hA, big_length]; omega) (big_length _ _)
 have h3 : subL (bytesF s) (7 + 7 * i) 1 = big p.p.toNat 1 := subL_mid (A := big s.pts.length 1 ++ ptsB (s.pts.take i) ++ big (p.x + 1048576).toNat 3 ++ big (p.y + 1048576).toNat 3) (C := ptsB (s.pts.drop (i + 1)) ++ tlB8 s) (by rw [e2]; unfold ptB; simp only [List.append_assoc]) (by rw [List.length_append, List.length_append, hA, big_length, big_length]; omega) (big_length _ _)
 unfold parP
 rw [h1, h2, h3, beN_big 3 _ (by omega), beN_big 3 _ (by omega), beN_big 1 _ (by omega)]
 obtain ⟨x, y, z⟩ := p
 simp only at o1 o2 o3 o4 o5 o6 ⊢
 congr 1 <;> omega
theorem par_bytes {s : Stk} (h : VSk s) (hc : s.col.ok) : parS (bytesF s) = s := by
 have hl1 := h.l1
 have hl2 := h.l2
 unfold parS
 rw [bytesF_n s (by omega)]
 have hpts : (List.range s.pts.length).map (parP (bytesF s)) = s.pts := by
  apply List.ext_getElem?
  intro i
  rw [List.getElem?_map]
  by_cases hi : i < s.pts.length
  ·rw [List.getElem?_range hi, List.getElem?_eq_getElem hi]
   show some _ = some _
   congr 1
   exact bytesF_pt (List.getElem?_eq_getElem hi) (h.ok _ (List.getElem_mem hi))
  ·rw [List.getElem?_eq_none (by rw [List.length_range]; omega), List.getElem?_eq_none (by omega)]
   rfl
 have hH : (big s.pts.length 1 ++ ptsB s.pts).length = 1 + 7 * s.pts.length := by rw [List.length_append, big_length, ptsB_len]
 have h1 : subL (bytesF s) (1 + 7 * s.pts.length) 2 = big s.rad.toNat 2 := subL_mid (A := big s.pts.length 1 ++ ptsB s.pts) (C := big s.spa.toNat 2 ++ (colB s.col ++ (big (eraN s) 1 ++ big s.pha.toNat 3))) (by unfold bytesF tlB8; simp only [List.append_assoc]) hH (big_length _ _)
 have h2 : subL (bytesF s) (3 + 7 * s.pts.length) 2 = big s.spa.toNat 2 := subL_mid (A := big s.pts.length 1 ++ ptsB s.pts ++ big s.rad.toNat 2) (C := colB s.col ++ (big (eraN s) 1 ++ big s.pha.toNat 3)) (by unfold bytesF tlB8; simp only [List.append_assoc]) (by rw [List.length_append, hH, big_length]; omega) (big_length _ _)
 have h3 : subL (bytesF s) (5 + 7 * s.pts.length) 4 = colB s.col := subL_mid (A := big s.pts.length 1 ++ ptsB s.pts ++ big s.rad.toNat 2 ++ big s.spa.toNat 2) (C := big (eraN s) 1 ++ big s.pha.toNat 3) (by unfold bytesF tlB8; simp only [List.append_assoc]) (by rw [List.length_append, List.length_append, hH, big_length, big_length]; omega) rfl
 have h4 := bytesF_era s
 have h5 : subL (bytesF s) (10 + 7 * s.pts.length) 3 = big s.pha.toNat 3 := subL_mid (A := big s.pts.length 1 ++ ptsB s.pts ++ (big s.rad.toNat 2 ++ big s.spa.toNat 2 ++ colB s.col ++ big (eraN s) 1)) (C := []) (by unfold bytesF tlB8; simp only [List.append_assoc, List.append_nil]) (by simp only [List.length_append, big_length, ptsB_len, colB, List.length_cons, List.length_nil]; omega) (big_length _ _)
 have hcol : parC (bytesF s) (5 + 7 * s.pts.length) = s.col := by
  have g : ∀ (j : Nat) (x : Int), j < 4 → (colB s.col)[j]? = some (bt x) → 0 ≤ x ∧ x ≤ 255 → (((bytesF s).getD (5 + 7 * s.pts.length + j) 0).toNat : Int) = x := fun j x hj hx hb => by
   rw [← h3, subL_at hj] at hx
   rw [List.getD_eq_getElem?_getD, hx]
   exact (bt_val hb).symm
  obtain ⟨c1, c2, c3, c4⟩ := hc
  have g0 := g 0 _ (by omega) rfl c1
  have g1 := g 1 _ (by omega) rfl c2
  have g2 := g 2 _ (by omega) rfl c3
  have g3 := g 3 _ (by omega) rfl c4
  rw [Nat.add_zero] at g0
  unfold parC
  rw [g0, g1, g2, g3]
 have r1 := h.r1
 have r2 := h.r2
 have s1 := h.s1
 have s2 := h.s2
 have p1 := h.p1
 have p2 := h.p2
 unfold pkS
 rw [hpts, h1, h2, h4, h5, hcol, beN_big 2 _ (by omega), beN_big 2 _ (by omega), beN_big 3 _ (by omega), beN_big 1 _ (by have := eraN_le s; omega)]
 obtain ⟨ps, r, sp, c, er, ph⟩ := s
 simp only at r1 r2 s1 s2 p1 p2 ⊢
 have e1 : (decide (eraN ⟨ps, r, sp, c, er, ph⟩ = 1)) = er := by unfold eraN; cases er <;> rfl
 rw [e1]
 congr 1 <;> omega
theorem read_bytes {s : Stk} (h : VSk s) (hc : s.col.ok) : readL (bytesL s) = (s, 0) := by
 have hb : bytesL s = bytesF s := if_pos ((validS_iff s).2 h)
 have hp := par_bytes h hc
 have hn := bytesF_n s (by have := h.l2; omega)
 unfold readL
 rw [hb, hp, hn, bytesF_len, if_neg (by omega), hb, if_pos rfl]
theorem read_short {l : List UInt8} (h : l.length < 13 + 7 * parN l) : readL l = (zSt, 10) := if_pos h
theorem read_form {l : List UInt8} (h : ¬ l.length < 13 + 7 * parN l) (k : ¬ bytesL (parS l) = l) : readL l = (zSt, 11) := by unfold readL; rw [if_neg h, if_neg k]
theorem read_ok {l : List UInt8} (h : ¬ l.length < 13 + 7 * parN l) (k : bytesL (parS l) = l) : readL l = (parS l, 0) := by unfold readL; rw [if_neg h, if_pos k]
end Go.Proofs.YtepelndbbhdofaaGreatDoor
/- Plain: polygons: which rays cross an edge, the coverage of a pixel, the rectangle from the least to the greatest coordinates. -/
namespace Go.Proofs.YtepelndbbhdofaaGreatDoor
open Go.RowKit Pl
set_option linter.unusedVariables false
set_option linter.unusedSimpArgs false
abbrev Pnt := Int × Int
def farP (p : Pnt) : Bool := decide (p.1 < -65536 ∨ p.2 < -65536 ∨ 65536 < p.1 ∨ 65536 < p.2)
def nearL (l : List Pnt) : Prop := ∀ p ∈ l, farP p = false
def validG (l : List Pnt) : Bool := decide (3 ≤ l.length ∧ l.length ≤ 64) && l.all fun p => !farP p
/-- The ray from (u, v) to the right crosses the edge from a up to b. -/
def crs0 (a b : Pnt) (u v : Int) : Bool := decide (a.2 ≤ v ∧ v < b.2 ∧ (u - a.1) * (b.2 - a.2) < (b.1 - a.1) * (v - a.2))
def crs (a b : Pnt) (u v : Int) : Bool := if b.2 < a.2 then crs0 b a u v else crs0 a b u v
def pt8 (p : Pnt) : Pnt := (8 * p.1, 8 * p.2)
def ptG (l : List Pnt) (i : Nat) : Pnt := l.getD i (0, 0)
def edgeB (l : List Pnt) (u v : Int) (i : Nat) : Bool := crs (pt8 (ptG l i)) (pt8 (ptG l ((i + 1) % l.length))) u v
/-- The parity of a sequence of answers. -/
def parK (f : Nat → Bool) : Nat → Bool
 | 0 => false
 | k + 1 => Bool.xor (parK f k) (f k)
def oddG (l : List Pnt) (u v : Int) : Bool := parK (edgeB l u v) l.length
def smpG (l : List Pnt) (x y : Int) (i : Nat) : Bool := oddG l (8 * x + 2 * ((i : Int) % 4) + 1) (8 * y + 2 * ((i : Int) / 4) + 1)
def cntK (f : Nat → Bool) : Nat → Nat
 | 0 => 0
 | k + 1 => cntK f k + (if f k = true then 1 else 0)
def covI (n : Nat) : Int := (255 * (n : Int) + 8) / 16
def covG (l : List Pnt) (x y : Int) : Int := covI (cntK (smpG l x y) 16)
/-! ### The rectangle from the least to the greatest coordinates -/
def growR (r : Rc) (p : Pnt) : Rc := ⟨min r.x0 p.1, min r.y0 p.2, max r.x1 p.1, max r.y1 p.2⟩
def ptR (p : Pnt) : Rc := ⟨p.1, p.2, p.1, p.2⟩
def hullG : List Pnt → Rc
 | [] => Rc.zero
 | p :: r => r.foldl growR (ptR p)
/-- Each point lies within the rectangle; each side bears one. -/
structure Around (r : Rc) (l : List Pnt) : Prop where
 h1 : ∀ p ∈ l, r.x0 ≤ p.1 ∧ p.1 ≤ r.x1 ∧ r.y0 ≤ p.2 ∧ p.2 ≤ r.y1
 l1 : ∃ p ∈ l, p.1 = r.x0
 l2 : ∃ p ∈ l, p.1 = r.x1
 l3 : ∃ p ∈ l, p.2 = r.y0
 l4 : ∃ p ∈ l, p.2 = r.y1
theorem Around.grow {r : Rc} {l : List Pnt} (h : Around r l) (p : Pnt) : Around (growR r p) (l ++ [p]) := by
 obtain ⟨h1, ⟨a, ha, ea⟩, ⟨b, hb, eb⟩, ⟨c, hc, ec⟩, ⟨d, hd, ed⟩⟩ := h
 have hp : p ∈ l ++ [p] := List.mem_append_right _ (List.mem_cons_self ..)
 have hl : ∀ {q}, q ∈ l → q ∈ l ++ [p] := fun hq => List.mem_append_left _ hq
 unfold growR
 constructor
 ·intro q hq
  show min r.x0 p.1 ≤ q.1 ∧ q.1 ≤ max r.x1 p.1 ∧ min r.y0 p.2 ≤ q.2 ∧ q.2 ≤ max r.y1 p.2
  rcases List.mem_append.1 hq with hq | hq
  ·have := h1 q hq; omega
  ·obtain rfl : q = p := by simpa using hq
   omega
 ·show ∃ q ∈ l ++ [p], q.1 = min r.x0 p.1
  by_cases h : r.x0 ≤ p.1
  ·exact ⟨a, hl ha, by omega⟩
  ·exact ⟨p, hp, by omega⟩
 ·show ∃ q ∈ l ++ [p], q.1 = max r.x1 p.1
  by_cases h : p.1 ≤ r.x1
  ·exact ⟨b, hl hb, by omega⟩
  ·exact ⟨p, hp, by omega⟩
 ·show ∃ q ∈ l ++ [p], q.2 = min r.y0 p.2
  by_cases h : r.y0 ≤ p.2
  ·exact ⟨c, hl hc, by omega⟩
  ·exact ⟨p, hp, by omega⟩
 ·show ∃ q ∈ l ++ [p], q.2 = max r.y1 p.2
  by_cases h : p.2 ≤ r.y1
  ·exact ⟨d, hl hd, by omega⟩
  ·exact ⟨p, hp, by omega⟩
/-- What the program's loop has behind k points; its first round takes the first point anew. -/
def hullK (l : List Pnt) (k : Nat) : Rc := (l.take k).foldl growR (ptR (ptG l 0))
def boundG (l : List Pnt) : Rc := if validG l = true then normR (hullG l) else Rc.zero
/-! ### A pixel outside of the rectangle is not covered -/
def coverP (l : List Pnt) (x y : Int) : Int := if hasR (boundG l) x y = true then covG l x y else 0
def coverR (l : List Pnt) (x y : Int) : Int := if validG l = true ∧ -70000 ≤ x ∧ -70000 ≤ y ∧ x ≤ 70000 ∧ y ≤ 70000 then covG l x y else 0
/- Plain: a polygon shifted, turned round, told from another point or in the other order: the same coverage. -/
def shp (d : Pnt) (p : Pnt) : Pnt := (p.1 + d.1, p.2 + d.2)
/-- The list of the points at k, k + 1 .. of another one, shifted. -/
def rotG (l : List Pnt) (k : Nat) (d : Pnt) : List Pnt := (List.range l.length).map fun i => shp d (ptG l ((i + k) % l.length))
def revG (l : List Pnt) (k : Nat) : List Pnt := (List.range l.length).map fun i => ptG l ((l.length + k - i) % l.length)
/-! ### The polygon that numbers describe -/
def numI (q : List Int) (i : Nat) : Int := q.getD i 0
def pathN (q : List Int) : Nat := min (q.length / 2) 12
def pathP (q : List Int) (j : Nat) : Pnt := (numI q (2 * j) % 28 - 8, numI q (2 * j + 1) % 28 - 8)
def pathK (q : List Int) (k : Nat) : List Pnt := (List.range k).map (pathP q)
def pathG (q : List Int) : List Pnt := pathK q (pathN q)
end Go.Proofs.YtepelndbbhdofaaGreatDoor
/- Slices of points; calls of function values. -/
namespace Go.Proofs.YtepelndbbhdofaaGreatDoor
open Go.RowKit Go.Shelf Pl
set_option linter.unusedVariables false
set_option linter.unusedSimpArgs false
set_option maxRecDepth 20000
section
variable {P : Program} {ops : Array Oper} {Q : Exit → Act → World → Prop} {w : World}
theorem wp_callV {g : FuncId} {x : Operand} {xs : Array Operand} {ats : Array TypeId} {o : Oper} {a : Act} {K : Act → World → Prop} {vals lb : Array Value} (ho : o.op = .call { callee := .value x, args := xs, argTypes := ats }) (hx : a.eval x = .func (.func g) #[] lb) (eg : Go.Proofs.Enters P g) (hv : xs.map a.eval = vals)
  (h : Calls P g (vals ++ lb) w fun e w' => ∃ v, e = .returned v ∧ K (a.put o.dst v) w') : o.wp P a w K Q := by
 subst hv
 obtain ⟨dst, op, ty, pos, after, guard⟩ := o
 simp only at ho
 subst ho
 unfold Oper.wp
 have key : ∀ ρ : Operand → Value, ρ x = .func (.func g) #[] lb → (execOp ρ { dst, op := .call { callee := .value x, args := xs, argTypes := ats }, type := ty, pos, after, guard : Oper }).run P w = .ok (.enter g (xs.map ρ ++ lb)) w := fun ρ hρ => by
  have := eg (xs.map ρ ++ lb) w
  simp [go_sem, hρ, this]
 rw [key a.eval hx]
 exact Calls.mono h fun e w' ⟨v, he, hk⟩ => by subst he; exact hk
theorem wpList_callV {g : FuncId} {x : Operand} {xs : Array Operand} {ats : Array TypeId} {o : Oper} {r : List Oper} {a : Act} {vals lb : Array Value} (hw : Region.wanted o (yielded ops a.tmps) = true) (ho : o.op = .call { callee := .value x, args := xs, argTypes := ats }) (hx : a.eval x = .func (.func g) #[] lb) (eg : Go.Proofs.Enters P g) (hv : xs.map a.eval = vals)
  (h : Calls P g (vals ++ lb) w fun e w' => ∃ v, e = .returned v ∧ wpList P ops Q r (a.put o.dst v) w') : wpList P ops Q (o :: r) a w := by
 unfold wpList
 rw [if_pos hw]
 exact .inl (wp_callV ho hx eg hv h)
end
/- Contracts of package stroke and of its reference: in, length, total. -/
theorem P_in14 (x : Int) (b : Bool) (w : World) (e : inB x = b) : Calls Tryz.prog 53 #[.int .i64 x] w fun e w' => e = .returned (.bool b) ∧ Below w.heap.size w w' := by
 by_cases h0 : -1048576 ≤ x
 ·by_cases h1 : x < 1048576
  ·obtain rfl : b = true := by rw [← e]; unfold inB; exact decide_eq_true (by omega)
   have d0 : decide (-1048576 ≤ x) = true := decide_eq_true h0
   have d1 : decide (x < 1048576) = true := decide_eq_true h1
   clear e
   go_enter Tryz.func53, Tryz.ntmps53
   go_wp2
   go_ret
   exact ⟨rfl, by go_grown⟩
  ·obtain rfl : b = false := by rw [← e]; unfold inB; exact decide_eq_false (by omega)
   have d0 : decide (-1048576 ≤ x) = true := decide_eq_true h0
   have d1 : decide (x < 1048576) = false := decide_eq_false h1
   clear e
   go_enter Tryz.func53, Tryz.ntmps53
   go_wp2
   go_ret
   exact ⟨rfl, by go_grown⟩
 ·obtain rfl : b = false := by rw [← e]; unfold inB; exact decide_eq_false (by omega)
  have d0 : decide (-1048576 ≤ x) = false := decide_eq_false h0
  clear e
  go_enter Tryz.func53, Tryz.ntmps53
  go_wp2
  go_ret
  exact ⟨rfl, by go_grown⟩
/-! ### length -/
theorem sq_dec {n : Nat} {l : Nat} : (decide ((n : Int) < ((l : Int) + 1) * ((l : Int) + 1))) = decide (sqN n ≤ l) := by
 rw [Bool.eq_iff_iff, decide_eq_true_iff, decide_eq_true_iff]
 have h := le_sqN (n := n) (s := l + 1)
 have e : ((l : Int) + 1) * ((l : Int) + 1) = (((l + 1) * (l + 1) : Nat) : Int) := by rw [Int.natCast_mul]; rfl
 rw [e]
 omega
theorem sqN_small {n : Nat} (h : n < 17592186044416) : sqN n < 4194304 := by
 rcases Nat.lt_or_ge (sqN n) 4194304 with k | k
 ·exact k
 ·have := le_sqN.1 k
  omega
theorem P_len1 (l n : Nat) (b : Nat) (r : Bool) (w : World) (n1 : AtB 3 w b #[.int .i64 (n : Int)]) (hl : l ≤ 4194304) (e : decide (sqN n ≤ l) = r) : Calls Tryz.prog 156 #[.int .i64 (l : Int), .pointer (some ⟨b, 0, none⟩)] w fun e w' => e = .returned (.bool r) ∧ Below w.heap.size w w' := by
 have B := Below.refl w.heap.size w
 have hm := mul_bd (a := (l : Int) + 1) (b := (l : Int) + 1) (m := 4194305) (k := 4194305) (by omega) (by omega) (by omega) (by omega)
 rw [← sq_dec] at e
 have E := Lib.hid e
 clear e
 go_enter Tryz.func156, Tryz.ntmps156
 go_upto_region 1 with fail
 refine wp_region_lit ?_
 try simp only [gelS]
 refine chk 8 ?_
 refine wpList_nil ?_
 go_wp2
 go_ret
 exact ⟨by (rw [← E.out]) <;> rfl, B⟩
set_option maxHeartbeats 1000000 in
theorem P_Search14 (n : Nat) (b : Nat) (w : World) (n1 : AtB 3 w b #[.int .i64 (n : Int)]) (hn : n < 17592186044416) : Calls Tryz.prog 155 #[.int .i64 4194304, .func (.func 156) #[] #[.pointer (some ⟨b, 0, none⟩)]] w fun e w' => e = .returned (.int .i64 (sqN n : Nat)) ∧ Below w.heap.size w w' := by
 have B := Below.refl w.heap.size w
 have hs := sqN_small hn
 obtain ⟨s, hsq⟩ : ∃ s, sqN n = s := ⟨_, rfl⟩
 rw [hsq] at hs ⊢
 have HSQ := Lib.hid hsq
 have N1 := Lib.hid n1
 clear hsq n1
 go_enter Tryz.func155, Tryz.ntmps155
 go_upto_region 1 with fail
 refine wp_region_lit ?_
 try simp only [gelS]
 refine chk 3 ?_
 refine wpList_nil ?_
 go_wp2
 go_loopw [5, 6, 7] (fun i j _ wr => ∃ p q : Nat, p ≤ s ∧ s ≤ q ∧ q ≤ 4194304 ∧ i = .int .i64 (p : Int) ∧ j = .int .i64 (q : Int) ∧ Below w.heap.size w wr) (fun i j _ _ => (intOf j - intOf i).toNat)
 case atStart => exact ⟨0, 4194304, by omega, by omega, Nat.le_refl _, rfl, rfl, B⟩
 case round =>
  clear B
  obtain ⟨p, q, h1, h2, h3, rfl, rfl, B⟩ := hrel
  have n1 := N1.out.of_eq (B.block _ N1.out.lt)
  by_cases hpq : p < q
  ·have q1 : decide ((p : Int) < (q : Int)) = true := decide_eq_true (by omega)
   have q2 : decide (p < q) = true := decide_eq_true hpq
   by_cases hcut : (p + q) / 2 < s
   ·have hm : (p + q) / 2 ≤ 4194304 := by omega
    obtain ⟨m, hmm⟩ : ∃ m, (p + q) / 2 = m := ⟨_, rfl⟩
    have HQ := Lib.hid (show decide (sqN n ≤ m) = false from by rw [HSQ.out, ← hmm]; exact decide_eq_false (by omega))
    have hmi : ((p : Int) + (q : Int)) / 2 = (m : Int) := by omega
    rw [hmm] at hm hcut
    have hmq : m < q := by omega
    clear hmm
    go_upto_region 2 with fail
    refine wp_region_lit ?_
    try simp only [gelS]
    refine chk 3 ?_
    refine wpList_nil ?_
    go_upto_region 3 with fail
    refine wp_region_lit ?_
    try simp only [gelS]
    refine chk 7 ?_
    refine wpList_nil ?_
    try rw [hmi]
    go_upto_region 4 with fail
    refine wp_region_lit ?_
    try simp only [gelS]
    refine chk 2 ?_
    refine wpList_callV (by first | rfl | simp [Region.wanted, yielded]) rfl (by simp only [Act.eval, evlS]; rfl) (enters_of Tryz.func156 (by kernel_rfl) rfl) (by simp only [Act.eval, evlS]; rfl) ?_
    refine (P_len1 m n b false _ n1 hm HQ.out).mono ?_
    rintro e wn ⟨rfl, hbn⟩
    have hsz := B.size
    have hzn := hbn.size
    replace B := B.trans (hbn.mono B.size)
    (try replace n1 := n1.below hbn)
    refine ⟨_, rfl, ?_⟩
    simp only [putS]
    refine chk 1 ?_
    refine wpList_nil ?_
    go_upto_region 5 with fail
    refine wp_region_lit ?_
    try simp only [gelS]
    refine chk 3 ?_
    refine wpList_nil ?_
    go_wp2
    go_roundw
    case rel => exact ⟨m + 1, q, by omega, h2, h3, by go_num, rfl, B⟩
    case measure => simp [intOf]; omega
   ·have hm : (p + q) / 2 ≤ 4194304 := by omega
    obtain ⟨m, hmm⟩ : ∃ m, (p + q) / 2 = m := ⟨_, rfl⟩
    have HQ := Lib.hid (show decide (sqN n ≤ m) = true from by rw [HSQ.out, ← hmm]; exact decide_eq_true (by omega))
    have hmi : ((p : Int) + (q : Int)) / 2 = (m : Int) := by omega
    rw [hmm] at hm hcut
    have hmq : p ≤ m ∧ m < q := by omega
    clear hmm
    go_upto_region 2 with fail
    refine wp_region_lit ?_
    try simp only [gelS]
    refine chk 3 ?_
    refine wpList_nil ?_
    go_upto_region 3 with fail
    refine wp_region_lit ?_
    try simp only [gelS]
    refine chk 7 ?_
    refine wpList_nil ?_
    try rw [hmi]
    go_upto_region 4 with fail
    refine wp_region_lit ?_
    try simp only [gelS]
    refine chk 2 ?_
    refine wpList_callV (by first | rfl | simp [Region.wanted, yielded]) rfl (by simp only [Act.eval, evlS]; rfl) (enters_of Tryz.func156 (by kernel_rfl) rfl) (by simp only [Act.eval, evlS]; rfl) ?_
    refine (P_len1 m n b true _ n1 hm HQ.out).mono ?_
    rintro e wn ⟨rfl, hbn⟩
    have hsz := B.size
    have hzn := hbn.size
    replace B := B.trans (hbn.mono B.size)
    refine ⟨_, rfl, ?_⟩
    simp only [putS]
    refine chk 1 ?_
    refine wpList_nil ?_
    go_upto_region 6 with fail
    refine wp_region_lit ?_
    try simp only [gelS]
    refine chk 2 ?_
    refine wpList_nil ?_
    go_wp2
    go_roundw
    case rel => exact ⟨p, m, h1, by omega, by omega, rfl, rfl, B⟩
    case measure => simp [intOf]; omega
  ·obtain rfl : p = s := by omega
   obtain rfl : q = p := by omega
   go_wp2
   go_ret
   exact ⟨rfl, B⟩
theorem nrm_nat (a b : Sp) : nrm2 a b = (((nrm2 a b).toNat : Nat) : Int) := by
 have h : 0 ≤ nrm2 a b := by
  have h1 := sq_nn (b.x - a.x)
  have h2 := sq_nn (b.y - a.y)
  unfold nrm2
  omega
 omega
set_option maxHeartbeats 1000000 in
theorem P_length (a b : Sp) (t : Int) (w : World) (ha : okS a) (hb : okS b) (e : lenI a b = t) : Calls Tryz.prog 107 #[.agg (spE.enc a), .agg (spE.enc b)] w fun e w' => e = .returned (.int .i64 t) ∧ Below w.heap.size w w' := by
 have B := Below.refl w.heap.size w
 obtain ⟨a1, a2, a3, a4, _, _⟩ := id ha
 obtain ⟨b1, b2, b3, b4, _, _⟩ := id hb
 have m1 := sq_bd (x := b.x - a.x) (m := 2097151) (by omega) (by omega)
 have m2 := sq_bd (x := b.y - a.y) (m := 2097151) (by omega) (by omega)
 have hq := nrm2_bd ha hb
 have HN := Lib.hid (show (b.x - a.x) * (b.x - a.x) + (b.y - a.y) * (b.y - a.y) = (((nrm2 a b).toNat : Nat) : Int) from nrm_nat a b)
 obtain ⟨n, hn⟩ : ∃ n, (nrm2 a b).toNat = n := ⟨_, rfl⟩
 have HS := Lib.hid (show ((sqN n : Nat) : Int) = t from by rw [← e]; unfold lenI; rw [hn])
 have hn2 : n < 17592186044416 := by omega
 rw [hn] at HN
 clear e ha hb hq hn
 go_enter Tryz.func107, Tryz.ntmps107
 go_upto_region 0 with fail
 refine wp_region_lit ?_
 try simp only [gelS]
 (refine wpList_boxB (t := 43) rfl _ rfl _ rfl (alK B ?_); clear B; intro b_r2 wn hle hge r2 hbn hsz hln B; simp only [putS])
 (refine wpList_boxB (t := 43) rfl _ rfl _ rfl (alK B ?_); clear B; intro b_r3 wn hle hge r3 hbn hsz hln B; (try have hlt := r2.lt); (try replace r2 := r2.below (hbn.mono hle)); simp only [putS])
 refine chk 1 ?_
 refine wpList_nil ?_
 go_upto_region 1 with fail
 try simp only [gelS]
 try have lx_r2 := r2.lt
 try have lx_r3 := r3.lt
 refine wp_region_RL 12 [] (by kernel_rfl) (by kernel_rfl) (by kernel_rfl) ?_
 rotate_left 0
 simp only [takS, Nat.reduceAdd]
 refine crk 12 ?_
 refine wpRL_nil ?_
 intro wn hbn hE
 have hsz := B.size
 have hzn := hbn.size
 replace B := B.trans (hbn.mono B.size)
 clear hE
 try simp only [List.drop_succ_cons, List.drop_zero]
 refine NoPan.normal ?_
 go_upto_region 2 with fail
 refine wp_region_lit ?_
 try simp only [gelS]
 refine chk 7 ?_
 (refine wpList_allocBk (t := 3) rfl _ (run_alloc_I _ _ rfl) (alK B ?_); clear B; intro b_n7 wn hle hge n7 hbn hsz hln B; (try have hlt := r2.lt); (try have hlt := r3.lt); simp only [putS])
 (refine wpList_stI (t := 3) rfl _ _ rfl _ 0 rfl _ rfl n7 rfl (stK B (by omega) ?_); clear n7 B; intro wn n7 hcn hsz hzn B; simp only [putS])
 refine wpList_nil ?_
 replace n7 : AtB 3 _ b_n7 #[.int .i64 ((b.x - a.x) * (b.x - a.x) + (b.y - a.y) * (b.y - a.y))] := n7
 rw [HN.out] at n7
 go_upto_region 3 with fail
 refine wp_region_lit ?_
 try simp only [gelS]
 (refine wpList_val rfl (.func (.func 156) #[] #[.pointer (some ⟨b_n7, 0, none⟩)]) (by first | rfl | simp [go_sem, Act.eval]) ?_; simp only [putS])
 refine clF (enters_of Tryz.func155 (by kernel_rfl) rfl) (c := P_Search14 n b_n7 _ n7 hn2) (h := ?_)
 rintro e wn ⟨rfl, hbn⟩
 have hsz := B.size
 have hzn := hbn.size
 replace B := B.trans (hbn.mono B.size)
 refine ⟨_, rfl, ?_⟩
 simp only [putS]
 refine chk 1 ?_
 refine wpList_nil ?_
 go_wp2
 go_ret
 exact ⟨by (rw [HS.out]) <;> rfl, B⟩
/-! ### total -/
theorem pre_step {l : List Sp} {k : Nat} {s t u : Int} (h : preI l k = s) (ht : lenI (pAt l k) (pAt l (k + 1)) = t) (hu : s + t = u) : preI l (k + 1) = u := by
 show preI l k + lenI (pAt l k) (pAt l (k + 1)) = u
 rw [h, ht, hu]
set_option maxHeartbeats 1000000 in
theorem P_total (v : Value) (l : List Sp) (t : Int) (w : World) (rs : RSE spE v l w) (hn : l.length ≤ 64) (hok : ∀ a ∈ l, okS a) (e : totI l = t) : Calls Tryz.prog 54 #[v] w fun e w' => e = .returned (.int .i64 t) ∧ Below w.heap.size w w' := by
 have B := Below.refl w.heap.size w
 obtain ⟨a, c, rfl, hc⟩ := rs.len
 have HS := Lib.hid rs
 have HOK := Lib.hid hok
 have HE := Lib.hid e
 clear rs hok e
 go_enter Tryz.func54, Tryz.ntmps54
 go_upto_region 2 with fail
 refine wp_region_lit ?_
 try simp only [gelS]
 refine chk 1 ?_
 refine wpList_nil ?_
 go_wp2
 go_loopw [3, 4] (fun sv iv wr => ∃ (k : Nat) (s : Int), (k = 0 ∨ k < l.length) ∧ Hid (preI l k = s) ∧ sv = .int .i64 s ∧ iv = .int .i64 ((k : Int) + 1) ∧ Below w.heap.size w wr) (fun _ iv _ => (l.length - intOf iv).toNat)
 case atStart => exact ⟨0, 0, .inl rfl, Lib.hid rfl, rfl, rfl, B⟩
 case round =>
  clear B
  obtain ⟨k, s, hk, HP, rfl, rfl, B⟩ := hrel
  by_cases hkl : k + 1 < l.length
  ·have q1 : decide ((k : Int) + 1 < (l.length : Int)) = true := decide_eq_true (by omega)
   have q2 : decide (k + 1 < l.length) = true := decide_eq_true hkl
   obtain ⟨g, o, rfl, pc0⟩ := HS.out.at (by omega)
   have pc := pc0.of_eq (B.block _ pc0.lt)
   clear pc0
   have hk0 : k < l.length := by omega
   have q3 : decide (k < l.length) = true := decide_eq_true hk0
   have hp := pAt_some hk0
   have hp2 := pAt_some hkl
   have A1 := Lib.hid (HOK.out _ (List.mem_of_getElem? hp))
   have A2 := Lib.hid (HOK.out _ (List.mem_of_getElem? hp2))
   obtain ⟨t2, ht2⟩ : ∃ t, lenI (pAt l k) (pAt l (k + 1)) = t := ⟨_, rfl⟩
   have bd1 := preI_bd HOK.out k (.inl hk0)
   have bd0 := preI_nn l k
   have bd2 := lenI_bd A1.out A2.out
   have bd3 := lenI_nn (pAt l k) (pAt l (k + 1))
   rw [HP.out] at bd1 bd0
   rw [ht2] at bd2 bd3
   have HST := Lib.hid (pre_step HP.out ht2 rfl)
   have HT2 := Lib.hid ht2
   have hkb : (k : Int) < 64 := by omega
   clear ht2
   generalize hx1 : pAt l k = x1 at *
   generalize hx2 : pAt l (k + 1) = x2 at *
   clear hx1 hx2
   go_upto_region 3 with fail
   refine wp_region_lit ?_
   try simp only [gelS]
   refine chk 2 ?_
   refine wpList_lenS (by first | rfl | simp [Region.wanted, yielded]) rfl Tryz.underlying26 rfl ?_
   simp only [putS]
   refine chk 1 ?_
   refine wpList_nil ?_
   go_upto_region 5 with fail
   try simp only [gelS]
   try have lx_pc := pc.lt
   refine wp_region_RL 13 [(10, detS ?v2_10)] (by kernel_rfl) (by kernel_rfl) (by kernel_rfl) ?_
   rotate_left 1
   simp only [takS, Nat.reduceAdd]
   refine crq 10 ?_
   repeat (first | go_big_quiet_skip | (go_big_quiet_want; first | ((first | refine quiet_loadAny (t := 43) rfl _ _ _ rfl (fun w hw => (ov_rce pc w hw).load Tryz.isAgg43 hp) (by first | rfl | omega) ?_ | refine quiet_loadAny (t := 43) rfl _ _ _ rfl (fun w hw => (ov_rce pc w hw).load Tryz.isAgg43 hp2) (by first | rfl | omega) ?_ | refine qB ?_ | refine qC ?_); simp only [putS]; go_big_quiet_on) | (go_big_quiet_op; go_big_quiet_on)))
   refine wpQuiet_nil ?_
   refine wpRL_callB (by rfl) (by first | rfl | simp [Region.wanted, yielded]) ?_ ?_
   ·intro wn hbn hE Kx hKx
    have hsz := B.size
    have hzn := hbn.size
    replace B := B.trans (hbn.mono B.size)
    refine wp_callF rfl (enters_of Tryz.func107 (by kernel_rfl) rfl) (by simp only [Act.eval, evlS]; rfl) ?_
    refine (P_length x1 x2 t2 wn A1.out A2.out HT2.out).mono ?_
    rintro e wm ⟨rfl, hbm⟩
    refine ⟨_, rfl, ?_⟩
    have hz := hKx () wm trivial hbm
    dsimp only [detS] at hz
    exact hz
   rintro ⟨⟩
   dsimp only [detS]
   simp only [putS]
   refine crk 2 ?_
   refine wpRL_nil ?_
   intro wn hbn hE
   have hsz := B.size
   have hzn := hbn.size
   replace B := B.trans (hbn.mono B.size)
   clear hE
   try simp only [List.drop_succ_cons, List.drop_zero]
   refine NoPan.normal ?_
   go_upto_region 4 with fail
   refine wp_region_lit ?_
   try simp only [gelS]
   refine chk 3 ?_
   refine wpList_nil ?_
   go_wp2
   go_roundw
   case rel => exact ⟨k + 1, s + t2, .inr hkl, HST, rfl, by go_num, B⟩
   case measure => simp [intOf]; omega
  ·have q1 : decide ((k : Int) + 1 < (l.length : Int)) = false := decide_eq_false (by omega)
   have q2 : decide (k + 1 < l.length) = false := decide_eq_false hkl
   have HF := Lib.hid (show s = t from by
    rw [← HE.out, ← HP.out]
    unfold totI
    congr 1
    omega)
   go_upto_region 3 with fail
   refine wp_region_lit ?_
   try simp only [gelS]
   refine chk 2 ?_
   refine wpList_lenS (by first | rfl | simp [Region.wanted, yielded]) rfl Tryz.underlying26 rfl ?_
   simp only [putS]
   refine chk 1 ?_
   refine wpList_nil ?_
   go_wp2
   go_ret
   exact ⟨by (rw [HF.out]) <;> rfl, B⟩
/- Contracts of Valid of package stroke and of its reference. -/
def badS (a : Sp) : Bool := !decide (okS a)
theorem bad_or (a : Sp) : badS a = (!inB a.x || (!inB a.y || (decide (a.p < 0) || decide (255 < a.p)))) := by
 have h1 : badS a = true ↔ ¬ okS a := by unfold badS; rw [Bool.not_eq_true', decide_eq_false_iff_not]
 have h2 : ∀ x, (!inB x) = true ↔ ¬ (-1048576 ≤ x ∧ x ≤ 1048575) := fun x => by unfold inB; rw [Bool.not_eq_true', decide_eq_false_iff_not]
 rw [Bool.eq_iff_iff, h1, Bool.or_eq_true, Bool.or_eq_true, Bool.or_eq_true, h2, h2, decide_eq_true_iff, decide_eq_true_iff]
 unfold okS
 omega
def idxS (l : List Sp) : Nat := l.findIdx badS
theorem idxS_le (l : List Sp) : idxS l ≤ l.length := List.findIdx_le_length
theorem idxS_lt {l : List Sp} {k : Nat} (h : k < idxS l) : badS (pAt l k) = false := by
 have hk : k < l.length := Nat.lt_of_lt_of_le h (idxS_le l)
 have := List.not_of_lt_findIdx (p := badS) (xs := l) h
 have e := pAt_some hk
 rw [List.getElem?_eq_getElem hk] at e
 rw [← Option.some.inj e]
 simpa using this
theorem idxS_at {l : List Sp} (h : idxS l < l.length) : badS (pAt l (idxS l)) = true := by
 have := List.findIdx_getElem (p := badS) (xs := l) (w := h)
 have e := pAt_some h
 rw [List.getElem?_eq_getElem h] at e
 rw [← Option.some.inj e]
 exact this
theorem ok_idx (l : List Sp) : okPts l = true ↔ idxS l = l.length := by
 unfold okPts
 rw [decide_eq_true_iff]
 constructor
 ·intro h
  rcases Nat.lt_or_ge (idxS l) l.length with k | k
  ·have h1 := idxS_at k
   unfold badS at h1
   rw [decide_eq_true (h _ (List.mem_of_getElem? (pAt_some k)))] at h1
   cases h1
  ·have := idxS_le l
   omega
 ·intro h a ha
  obtain ⟨k, hk⟩ := List.mem_iff_getElem?.1 ha
  have hkl : k < l.length := (List.getElem?_eq_some_iff.1 hk).1
  have h1 := idxS_lt (l := l) (k := k) (by omega)
  rw [pAt_some hkl] at hk
  obtain rfl := Option.some.inj hk
  unfold badS at h1
  simpa using h1
/-! ### One point -/
set_option maxHeartbeats 1000000 in
theorem P_bad (a : Sp) (b : Bool) (w : World) (e : badS a = b) : Calls Tryz.prog 52 #[.agg (spE.enc a)] w fun e w' => e = .returned (.bool b) ∧ Below w.heap.size w w' := by
 have B := Below.refl w.heap.size w
 rw [bad_or] at e
 obtain ⟨i1, hi1⟩ : ∃ i, inB a.x = i := ⟨_, rfl⟩
 obtain ⟨i2, hi2⟩ : ∃ i, inB a.y = i := ⟨_, rfl⟩
 obtain ⟨i3, hi3⟩ : ∃ i, decide (a.p < 0) = i := ⟨_, rfl⟩
 obtain ⟨i4, hi4⟩ : ∃ i, decide (255 < a.p) = i := ⟨_, rfl⟩
 rw [hi1, hi2, hi3, hi4] at e
 have H1 := Lib.hid hi1
 have H2 := Lib.hid hi2
 clear hi1 hi2
 cases i1 with
 | false =>
  obtain rfl : b = true := by rw [← e]; rfl
  clear e
  go_enter Tryz.func52, Tryz.ntmps52
  go_upto_region 0 with fail
  refine wp_region_lit ?_
  try simp only [gelS]
  (refine wpList_boxB (t := 43) rfl _ rfl _ rfl (alK B ?_); clear B; intro b_r1 wn hle hge r1 hbn hsz hln B; simp only [putS])
  refine chk 1 ?_
  refine wpList_nil ?_
  go_upto_region 1 with fail
  refine wp_region_lit ?_
  try simp only [gelS]
  refine chk 2 ?_
  refine clF (enters_of Tryz.func53 (by kernel_rfl) rfl) (c := P_in14 a.x false _ H1.out) (h := ?_)
  rintro e wn ⟨rfl, hbn⟩
  have hsz := B.size
  have hzn := hbn.size
  replace B := B.trans (hbn.mono B.size)
  (try replace r1 := r1.below hbn)
  refine ⟨_, rfl, ?_⟩
  simp only [putS]
  refine chk 4 ?_
  refine wpList_skip ?hs2_7 ?_
  case hs2_7 => kernel_rfl
  simp only [putS]
  refine chk 13 ?_
  refine wpList_nil ?_
  go_wp2
  go_ret
  exact ⟨rfl, B⟩
 | true =>
  cases i2 with
  | false =>
   obtain rfl : b = true := by rw [← e]; rfl
   clear e
   go_enter Tryz.func52, Tryz.ntmps52
   go_upto_region 0 with fail
   refine wp_region_lit ?_
   try simp only [gelS]
   (refine wpList_boxB (t := 43) rfl _ rfl _ rfl (alK B ?_); clear B; intro b_r1 wn hle hge r1 hbn hsz hln B; (try have hlt := r1.lt); (try replace r1 := r1.below (hbn.mono hle)); simp only [putS])
   refine chk 1 ?_
   refine wpList_nil ?_
   go_upto_region 1 with fail
   refine wp_region_lit ?_
   try simp only [gelS]
   refine chk 2 ?_
   refine clF (enters_of Tryz.func53 (by kernel_rfl) rfl) (c := P_in14 a.x true _ H1.out) (h := ?_)
   rintro e wn ⟨rfl, hbn⟩
   have hsz := B.size
   have hzn := hbn.size
   replace B := B.trans (hbn.mono B.size)
   (try replace r1 := r1.below hbn)
   refine ⟨_, rfl, ?_⟩
   simp only [putS]
   refine chk 4 ?_
   refine clF (enters_of Tryz.func53 (by kernel_rfl) rfl) (c := P_in14 a.y false _ H2.out) (h := ?_)
   rintro e wn ⟨rfl, hbn⟩
   have hsz := B.size
   have hzn := hbn.size
   replace B := B.trans (hbn.mono B.size)
   (try replace r1 := r1.below hbn)
   refine ⟨_, rfl, ?_⟩
   simp only [putS]
   refine chk 13 ?_
   refine wpList_nil ?_
   go_wp2
   go_ret
   exact ⟨rfl, B⟩
  | true =>
   obtain rfl : b = (i3 || i4) := by rw [← e]; cases i3 <;> cases i4 <;> rfl
   clear e
   cases i3 <;> cases i4 <;> (
    go_enter Tryz.func52, Tryz.ntmps52
    go_upto_region 0 with fail
    refine wp_region_lit ?_
    try simp only [gelS]
    (refine wpList_boxB (t := 43) rfl _ rfl _ rfl (alK B ?_); clear B; intro b_r1 wn hle hge r1 hbn hsz hln B; (try have hlt := r1.lt); (try replace r1 := r1.below (hbn.mono hle)); simp only [putS])
    refine chk 1 ?_
    refine wpList_nil ?_
    go_upto_region 1 with fail
    refine wp_region_lit ?_
    try simp only [gelS]
    refine chk 2 ?_
    refine clF (enters_of Tryz.func53 (by kernel_rfl) rfl) (c := P_in14 a.x true _ H1.out) (h := ?_)
    rintro e wn ⟨rfl, hbn⟩
    have hsz := B.size
    have hzn := hbn.size
    replace B := B.trans (hbn.mono B.size)
    (try replace r1 := r1.below hbn)
    refine ⟨_, rfl, ?_⟩
    simp only [putS]
    refine chk 4 ?_
    refine clF (enters_of Tryz.func53 (by kernel_rfl) rfl) (c := P_in14 a.y true _ H2.out) (h := ?_)
    rintro e wn ⟨rfl, hbn⟩
    have hsz := B.size
    have hzn := hbn.size
    replace B := B.trans (hbn.mono B.size)
    (try replace r1 := r1.below hbn)
    refine ⟨_, rfl, ?_⟩
    simp only [putS]
    refine chk 13 ?_
    refine wpList_nil ?_
    go_wp2
    go_ret
    exact ⟨rfl, B⟩)
set_option maxHeartbeats 1000000 in
theorem P_IndexS (v : Value) (l : List Sp) (r : Int) (w : World) (rs : RSE spE v l w) (hn : l.length ≤ 17592186044416) (e : (if idxS l < l.length then (idxS l : Int) else -1) = r) : Calls Tryz.prog 106 #[v, .func (.func 52) #[] #[]] w fun e w' => e = .returned (.int .i64 r) ∧ Below w.heap.size w w' := by
 have B := Below.refl w.heap.size w
 obtain ⟨a, c, rfl, hc⟩ := rs.len
 have HS := Lib.hid rs
 have hle := idxS_le l
 obtain ⟨m, hm⟩ : ∃ m, idxS l = m := ⟨_, rfl⟩
 have HLT := Lib.hid (fun k (h : k < idxS l) => idxS_lt h)
 have HAT := Lib.hid (fun (h : idxS l < l.length) => idxS_at h)
 rw [hm] at hle e HLT HAT
 have HE := Lib.hid e
 clear rs e hm
 go_enter Tryz.func106, Tryz.ntmps106
 go_upto_region 1 with fail
 refine wp_region_lit ?_
 try simp only [gelS]
 refine chk 1 ?_
 refine wpList_lenS (by first | rfl | simp [Region.wanted, yielded]) rfl Tryz.underlying26 rfl ?_
 simp only [putS]
 refine chk 1 ?_
 refine wpList_nil ?_
 go_wp2
 go_loopw [5, 8] (fun _ iv wr => ∃ k : Nat, k ≤ m ∧ iv = .int .i64 (k : Int) ∧ Below w.heap.size w wr) (fun _ iv _ => (l.length - intOf iv).toNat)
 case atStart => exact ⟨0, by omega, rfl, B⟩
 case round =>
  clear B
  obtain ⟨k, hk, rfl, B⟩ := hrel
  by_cases hkl : k < l.length
  ·have q1 : decide ((k : Int) < (l.length : Int)) = true := decide_eq_true (by omega)
   have q2 : decide (k < l.length) = true := decide_eq_true hkl
   obtain ⟨g, o, rfl, pc0⟩ := HS.out.at (by omega)
   have pc := pc0.of_eq (B.block _ pc0.lt)
   clear pc0
   have hp := pAt_some hkl
   by_cases hki : k < m
   ·have HB := Lib.hid (show badS (pAt l k) = false from HLT.out k hki)
    generalize hx1 : pAt l k = x1 at *
    clear hx1
    go_upto_region 2 with fail
    refine wp_region_lit ?_
    try simp only [gelS]
    refine chk 1 ?_
    refine wpList_nil ?_
    go_upto_region 3 with fail
    refine wp_region_lit ?_
    try simp only [gelS]
    refine chk 2 ?_
    refine wpList_nil ?_
    go_upto_region 4 with fail
    refine wp_region_lit ?_
    try simp only [gelS]
    refine chq 5 ?_
    repeat (first | go_big_quiet_skip | (go_big_quiet_want; first | ((first | refine quiet_loadAny (t := 43) rfl _ _ _ rfl (fun w hw => (ov_rce pc w hw).load Tryz.isAgg43 hp) (by first | rfl | omega) ?_ | refine qB ?_ | refine qC ?_); simp only [putS]; go_big_quiet_on) | (go_big_quiet_op; go_big_quiet_on)))
    refine wpQuiet_nil ?_
    refine wpList_callV (by first | rfl | simp [Region.wanted, yielded]) rfl (by simp only [Act.eval, evlS]; rfl) (enters_of Tryz.func52 (by kernel_rfl) rfl) (by simp only [Act.eval, evlS]; rfl) ?_
    refine (P_bad x1 false _ HB.out).mono ?_
    rintro e wn ⟨rfl, hbn⟩
    have hsz := B.size
    have hzn := hbn.size
    replace B := B.trans (hbn.mono B.size)
    (try replace pc := pc.below hbn)
    refine ⟨_, rfl, ?_⟩
    simp only [putS]
    refine wpList_nil ?_
    go_upto_region 6 with fail
    refine wp_region_lit ?_
    try simp only [gelS]
    refine chk 2 ?_
    refine wpList_nil ?_
    go_wp2
    go_roundw
    case rel => exact ⟨k + 1, by omega, by go_num, B⟩
    case measure => simp [intOf]; omega
   ·have HB := Lib.hid (show badS (pAt l k) = true from by rw [show k = m by omega]; exact HAT.out (by omega))
    generalize hx1 : pAt l k = x1 at *
    clear hx1
    go_upto_region 2 with fail
    refine wp_region_lit ?_
    try simp only [gelS]
    refine chk 1 ?_
    refine wpList_nil ?_
    go_upto_region 3 with fail
    refine wp_region_lit ?_
    try simp only [gelS]
    refine chk 2 ?_
    refine wpList_nil ?_
    go_upto_region 4 with fail
    refine wp_region_lit ?_
    try simp only [gelS]
    refine chq 5 ?_
    repeat (first | go_big_quiet_skip | (go_big_quiet_want; first | ((first | refine quiet_loadAny (t := 43) rfl _ _ _ rfl (fun w hw => (ov_rce pc w hw).load Tryz.isAgg43 hp) (by first | rfl | omega) ?_ | refine qB ?_ | refine qC ?_); simp only [putS]; go_big_quiet_on) | (go_big_quiet_op; go_big_quiet_on)))
    refine wpQuiet_nil ?_
    refine wpList_callV (by first | rfl | simp [Region.wanted, yielded]) rfl (by simp only [Act.eval, evlS]; rfl) (enters_of Tryz.func52 (by kernel_rfl) rfl) (by simp only [Act.eval, evlS]; rfl) ?_
    refine (P_bad x1 true _ HB.out).mono ?_
    rintro e wn ⟨rfl, hbn⟩
    have hsz := B.size
    have hzn := hbn.size
    replace B := B.trans (hbn.mono B.size)
    refine ⟨_, rfl, ?_⟩
    simp only [putS]
    refine wpList_nil ?_
    go_upto_region 5 with fail
    refine wp_region_lit ?_
    try simp only [gelS]
    refine chk 2 ?_
    refine wpList_nil ?_
    go_wp2
    go_ret
    exact ⟨by (rw [← HE.out, if_pos (by omega), show k = m by omega]) <;> rfl, B⟩
  ·have q1 : decide ((k : Int) < (l.length : Int)) = false := decide_eq_false (by omega)
   have q2 : decide (k < l.length) = false := decide_eq_false hkl
   go_upto_region 2 with fail
   refine wp_region_lit ?_
   try simp only [gelS]
   refine chk 1 ?_
   refine wpList_nil ?_
   go_upto_region 7 with fail
   refine wp_region_lit ?_
   try simp only [gelS]
   refine chk 1 ?_
   refine wpList_nil ?_
   go_wp2
   go_ret
   exact ⟨by (rw [← HE.out, if_neg (by omega)]) <;> rfl, B⟩
theorem P_ContainsS (v : Value) (l : List Sp) (b : Bool) (w : World) (rs : RSE spE v l w) (hn : l.length ≤ 17592186044416) (e : okPts l = !b) : Calls Tryz.prog 51 #[v, .func (.func 52) #[] #[]] w fun e w' => e = .returned (.bool b) ∧ Below w.heap.size w w' := by
 have B := Below.refl w.heap.size w
 have hle := idxS_le l
 have hi := ok_idx l
 cases b with
 | true =>
  have HE := Lib.hid (show (if idxS l < l.length then (idxS l : Int) else -1) = (idxS l : Int) from if_pos (by rw [e] at hi; have h3 : ¬ idxS l = l.length := (fun k => by have := hi.2 k; cases this); omega))
  have q1 : decide ((0 : Int) ≤ (idxS l : Int)) = true := decide_eq_true (by omega)
  clear hi e
  go_enter Tryz.func51, Tryz.ntmps51
  go_upto_region 1 with fail
  refine wp_region_lit ?_
  try simp only [gelS]
  refine chk 2 ?_
  refine clF (enters_of Tryz.func106 (by kernel_rfl) rfl) (c := P_IndexS _ l (idxS l : Int) _ rs hn HE.out) (h := ?_)
  rintro e wn ⟨rfl, hbn⟩
  have hsz := B.size
  have hzn := hbn.size
  replace B := B.trans (hbn.mono B.size)
  refine ⟨_, rfl, ?_⟩
  simp only [putS]
  refine chk 2 ?_
  refine wpList_nil ?_
  go_wp2
  go_ret
  exact ⟨by first | rfl | simp, B⟩
 | false =>
  have HE := Lib.hid (show (if idxS l < l.length then (idxS l : Int) else -1) = -1 from if_neg (by rw [e] at hi; have := hi.1 rfl; omega))
  have q1 : decide ((0 : Int) ≤ -1) = false := decide_eq_false (by omega)
  clear hi e
  go_enter Tryz.func51, Tryz.ntmps51
  go_upto_region 1 with fail
  refine wp_region_lit ?_
  try simp only [gelS]
  refine chk 2 ?_
  refine clF (enters_of Tryz.func106 (by kernel_rfl) rfl) (c := P_IndexS _ l (-1) _ rs hn HE.out) (h := ?_)
  rintro e wn ⟨rfl, hbn⟩
  have hsz := B.size
  have hzn := hbn.size
  replace B := B.trans (hbn.mono B.size)
  refine ⟨_, rfl, ?_⟩
  simp only [putS]
  refine chk 2 ?_
  refine wpList_nil ?_
  go_wp2
  go_ret
  exact ⟨by first | rfl | simp, B⟩
/-! ### Valid -/
theorem num_no {s : Stk} (h : (s.pts.length : Int) < 1 ∨ 64 < (s.pts.length : Int) ∨ s.rad < 1 ∨ 256 < s.rad ∨ s.spa < 1 ∨ 4096 < s.spa ∨ s.pha < 0 ∨ 1048575 < s.pha) : validS s = false := by
 unfold validS numB
 rw [decide_eq_false (by omega)]
 rfl
theorem num_yes {s : Stk} (h : ¬ ((s.pts.length : Int) < 1 ∨ 64 < (s.pts.length : Int) ∨ s.rad < 1 ∨ 256 < s.rad ∨ s.spa < 1 ∨ 4096 < s.spa ∨ s.pha < 0 ∨ 1048575 < s.pha)) : validS s = (okPts s.pts && decide (totI s.pts - s.pha ≤ 1024 * s.spa)) := by
 unfold validS numB
 rw [decide_eq_true (by omega)]
 rfl
theorem okPts_all {l : List Sp} (h : okPts l = true) : ∀ a ∈ l, okS a := of_decide_eq_true h
set_option maxHeartbeats 2000000 in
theorem P_Valid14 (v : Value) (s : Stk) (b : Bool) (w : World) (rs : RSE spE v s.pts w) (hn : s.pts.length ≤ 17592186044416) (e : validS s = b) : Calls Tryz.prog 16 #[.agg (stC v s)] w fun e w' => e = .returned (.bool b) ∧ Below w.heap.size w w' := by
 have B := Below.refl w.heap.size w
 obtain ⟨a, c, rfl, hc⟩ := rs.len
 by_cases h0 : (s.pts.length : Int) < 1
 ·have q0 : decide ((s.pts.length : Int) < 1) = true := decide_eq_true h0
  have p0 : decide (s.pts.length < 1) = true := decide_eq_true (by omega)
  obtain rfl : b = false := by rw [← e]; exact num_no (by omega)
  clear e
  go_enter Tryz.func16, Tryz.ntmps16
  go_upto_region 0 with fail
  refine wp_region_lit ?_
  try simp only [gelS]
  (refine wpList_boxB (t := 30) rfl _ rfl _ rfl (alK B ?_); clear B; intro b_r1 wn hle hge r1 hbn hsz hln B; (try have hlt := rs.lt); (try replace rs := rs.below (hbn.mono hle)); simp only [putS])
  refine chk 1 ?_
  refine wpList_nil ?_
  go_upto_region 1 with fail
  refine wp_region_lit ?_
  try simp only [gelS]
  refine chk 2 ?_
  refine wpList_lenS (by first | rfl | simp [Region.wanted, yielded]) rfl Tryz.underlying26 rfl ?_
  simp only [putS]
  refine chk 4 ?_
  refine wpList_skip ?hs21_7 ?_
  case hs21_7 => kernel_rfl
  simp only [putS]
  refine chk 32 ?_
  refine wpList_nil ?_
  go_upto_region 2 with fail
  refine wp_region_lit ?_
  try simp only [gelS]
  refine chk 1 ?_
  refine wpList_nil ?_
  go_wp2
  go_ret
  exact ⟨rfl, B⟩
 ·by_cases h1 : 64 < (s.pts.length : Int)
  ·have q0 : decide ((s.pts.length : Int) < 1) = false := decide_eq_false h0
   have q1 : decide (64 < (s.pts.length : Int)) = true := decide_eq_true h1
   have p0 : decide (s.pts.length < 1) = false := decide_eq_false (by omega)
   have p1 : decide (64 < s.pts.length) = true := decide_eq_true (by omega)
   obtain rfl : b = false := by rw [← e]; exact num_no (by omega)
   clear e
   go_enter Tryz.func16, Tryz.ntmps16
   go_upto_region 0 with fail
   refine wp_region_lit ?_
   try simp only [gelS]
   (refine wpList_boxB (t := 30) rfl _ rfl _ rfl (alK B ?_); clear B; intro b_r1 wn hle hge r1 hbn hsz hln B; (try have hlt := r1.lt); (try replace r1 := r1.below (hbn.mono hle)); (try have hlt := rs.lt); (try replace rs := rs.below (hbn.mono hle)); simp only [putS])
   refine chk 1 ?_
   refine wpList_nil ?_
   go_upto_region 1 with fail
   refine wp_region_lit ?_
   try simp only [gelS]
   refine chk 2 ?_
   refine wpList_lenS (by first | rfl | simp [Region.wanted, yielded]) rfl Tryz.underlying26 rfl ?_
   simp only [putS]
   refine chk 4 ?_
   refine wpList_lenS (by first | rfl | simp [Region.wanted, yielded]) rfl Tryz.underlying26 rfl ?_
   simp only [putS]
   refine chk 32 ?_
   refine wpList_nil ?_
   go_upto_region 2 with fail
   refine wp_region_lit ?_
   try simp only [gelS]
   refine chk 1 ?_
   refine wpList_nil ?_
   go_wp2
   go_ret
   exact ⟨rfl, B⟩
  ·by_cases h2 : s.rad < 1
   ·have q0 : decide ((s.pts.length : Int) < 1) = false := decide_eq_false h0
    have q1 : decide (64 < (s.pts.length : Int)) = false := decide_eq_false h1
    have q2 : decide (s.rad < 1) = true := decide_eq_true h2
    have p0 : decide (s.pts.length < 1) = false := decide_eq_false (by omega)
    have p1 : decide (64 < s.pts.length) = false := decide_eq_false (by omega)
    obtain rfl : b = false := by rw [← e]; exact num_no (by omega)
    clear e
    go_enter Tryz.func16, Tryz.ntmps16
    go_upto_region 0 with fail
    refine wp_region_lit ?_
    try simp only [gelS]
    (refine wpList_boxB (t := 30) rfl _ rfl _ rfl (alK B ?_); clear B; intro b_r1 wn hle hge r1 hbn hsz hln B; (try have hlt := r1.lt); (try replace r1 := r1.below (hbn.mono hle)); (try have hlt := rs.lt); (try replace rs := rs.below (hbn.mono hle)); simp only [putS])
    refine chk 1 ?_
    refine wpList_nil ?_
    go_upto_region 1 with fail
    refine wp_region_lit ?_
    try simp only [gelS]
    refine chk 2 ?_
    refine wpList_lenS (by first | rfl | simp [Region.wanted, yielded]) rfl Tryz.underlying26 rfl ?_
    simp only [putS]
    refine chk 4 ?_
    refine wpList_lenS (by first | rfl | simp [Region.wanted, yielded]) rfl Tryz.underlying26 rfl ?_
    simp only [putS]
    refine chk 32 ?_
    refine wpList_nil ?_
    go_upto_region 2 with fail
    refine wp_region_lit ?_
    try simp only [gelS]
    refine chk 1 ?_
    refine wpList_nil ?_
    go_wp2
    go_ret
    exact ⟨rfl, B⟩
   ·by_cases h3 : 256 < s.rad
    ·have q0 : decide ((s.pts.length : Int) < 1) = false := decide_eq_false h0
     have q1 : decide (64 < (s.pts.length : Int)) = false := decide_eq_false h1
     have q2 : decide (s.rad < 1) = false := decide_eq_false h2
     have q3 : decide (256 < s.rad) = true := decide_eq_true h3
     have p0 : decide (s.pts.length < 1) = false := decide_eq_false (by omega)
     have p1 : decide (64 < s.pts.length) = false := decide_eq_false (by omega)
     obtain rfl : b = false := by rw [← e]; exact num_no (by omega)
     clear e
     go_enter Tryz.func16, Tryz.ntmps16
     go_upto_region 0 with fail
     refine wp_region_lit ?_
     try simp only [gelS]
     (refine wpList_boxB (t := 30) rfl _ rfl _ rfl (alK B ?_); clear B; intro b_r1 wn hle hge r1 hbn hsz hln B; (try have hlt := r1.lt); (try replace r1 := r1.below (hbn.mono hle)); (try have hlt := rs.lt); (try replace rs := rs.below (hbn.mono hle)); simp only [putS])
     refine chk 1 ?_
     refine wpList_nil ?_
     go_upto_region 1 with fail
     refine wp_region_lit ?_
     try simp only [gelS]
     refine chk 2 ?_
     refine wpList_lenS (by first | rfl | simp [Region.wanted, yielded]) rfl Tryz.underlying26 rfl ?_
     simp only [putS]
     refine chk 4 ?_
     refine wpList_lenS (by first | rfl | simp [Region.wanted, yielded]) rfl Tryz.underlying26 rfl ?_
     simp only [putS]
     refine chk 32 ?_
     refine wpList_nil ?_
     go_upto_region 2 with fail
     refine wp_region_lit ?_
     try simp only [gelS]
     refine chk 1 ?_
     refine wpList_nil ?_
     go_wp2
     go_ret
     exact ⟨rfl, B⟩
    ·by_cases h4 : s.spa < 1
     ·have q0 : decide ((s.pts.length : Int) < 1) = false := decide_eq_false h0
      have q1 : decide (64 < (s.pts.length : Int)) = false := decide_eq_false h1
      have q2 : decide (s.rad < 1) = false := decide_eq_false h2
      have q3 : decide (256 < s.rad) = false := decide_eq_false h3
      have q4 : decide (s.spa < 1) = true := decide_eq_true h4
      have p0 : decide (s.pts.length < 1) = false := decide_eq_false (by omega)
      have p1 : decide (64 < s.pts.length) = false := decide_eq_false (by omega)
      obtain rfl : b = false := by rw [← e]; exact num_no (by omega)
      clear e
      go_enter Tryz.func16, Tryz.ntmps16
      go_upto_region 0 with fail
      refine wp_region_lit ?_
      try simp only [gelS]
      (refine wpList_boxB (t := 30) rfl _ rfl _ rfl (alK B ?_); clear B; intro b_r1 wn hle hge r1 hbn hsz hln B; (try have hlt := r1.lt); (try replace r1 := r1.below (hbn.mono hle)); (try have hlt := rs.lt); (try replace rs := rs.below (hbn.mono hle)); simp only [putS])
      refine chk 1 ?_
      refine wpList_nil ?_
      go_upto_region 1 with fail
      refine wp_region_lit ?_
      try simp only [gelS]
      refine chk 2 ?_
      refine wpList_lenS (by first | rfl | simp [Region.wanted, yielded]) rfl Tryz.underlying26 rfl ?_
      simp only [putS]
      refine chk 4 ?_
      refine wpList_lenS (by first | rfl | simp [Region.wanted, yielded]) rfl Tryz.underlying26 rfl ?_
      simp only [putS]
      refine chk 32 ?_
      refine wpList_nil ?_
      go_upto_region 2 with fail
      refine wp_region_lit ?_
      try simp only [gelS]
      refine chk 1 ?_
      refine wpList_nil ?_
      go_wp2
      go_ret
      exact ⟨rfl, B⟩
     ·by_cases h5 : 4096 < s.spa
      ·have q0 : decide ((s.pts.length : Int) < 1) = false := decide_eq_false h0
       have q1 : decide (64 < (s.pts.length : Int)) = false := decide_eq_false h1
       have q2 : decide (s.rad < 1) = false := decide_eq_false h2
       have q3 : decide (256 < s.rad) = false := decide_eq_false h3
       have q4 : decide (s.spa < 1) = false := decide_eq_false h4
       have q5 : decide (4096 < s.spa) = true := decide_eq_true h5
       have p0 : decide (s.pts.length < 1) = false := decide_eq_false (by omega)
       have p1 : decide (64 < s.pts.length) = false := decide_eq_false (by omega)
       obtain rfl : b = false := by rw [← e]; exact num_no (by omega)
       clear e
       go_enter Tryz.func16, Tryz.ntmps16
       go_upto_region 0 with fail
       refine wp_region_lit ?_
       try simp only [gelS]
       (refine wpList_boxB (t := 30) rfl _ rfl _ rfl (alK B ?_); clear B; intro b_r1 wn hle hge r1 hbn hsz hln B; (try have hlt := r1.lt); (try replace r1 := r1.below (hbn.mono hle)); (try have hlt := rs.lt); (try replace rs := rs.below (hbn.mono hle)); simp only [putS])
       refine chk 1 ?_
       refine wpList_nil ?_
       go_upto_region 1 with fail
       refine wp_region_lit ?_
       try simp only [gelS]
       refine chk 2 ?_
       refine wpList_lenS (by first | rfl | simp [Region.wanted, yielded]) rfl Tryz.underlying26 rfl ?_
       simp only [putS]
       refine chk 4 ?_
       refine wpList_lenS (by first | rfl | simp [Region.wanted, yielded]) rfl Tryz.underlying26 rfl ?_
       simp only [putS]
       refine chk 32 ?_
       refine wpList_nil ?_
       go_upto_region 2 with fail
       refine wp_region_lit ?_
       try simp only [gelS]
       refine chk 1 ?_
       refine wpList_nil ?_
       go_wp2
       go_ret
       exact ⟨rfl, B⟩
      ·by_cases h6 : s.pha < 0
       ·have q0 : decide ((s.pts.length : Int) < 1) = false := decide_eq_false h0
        have q1 : decide (64 < (s.pts.length : Int)) = false := decide_eq_false h1
        have q2 : decide (s.rad < 1) = false := decide_eq_false h2
        have q3 : decide (256 < s.rad) = false := decide_eq_false h3
        have q4 : decide (s.spa < 1) = false := decide_eq_false h4
        have q5 : decide (4096 < s.spa) = false := decide_eq_false h5
        have q6 : decide (s.pha < 0) = true := decide_eq_true h6
        have p0 : decide (s.pts.length < 1) = false := decide_eq_false (by omega)
        have p1 : decide (64 < s.pts.length) = false := decide_eq_false (by omega)
        obtain rfl : b = false := by rw [← e]; exact num_no (by omega)
        clear e
        go_enter Tryz.func16, Tryz.ntmps16
        go_upto_region 0 with fail
        refine wp_region_lit ?_
        try simp only [gelS]
        (refine wpList_boxB (t := 30) rfl _ rfl _ rfl (alK B ?_); clear B; intro b_r1 wn hle hge r1 hbn hsz hln B; (try have hlt := r1.lt); (try replace r1 := r1.below (hbn.mono hle)); (try have hlt := rs.lt); (try replace rs := rs.below (hbn.mono hle)); simp only [putS])
        refine chk 1 ?_
        refine wpList_nil ?_
        go_upto_region 1 with fail
        refine wp_region_lit ?_
        try simp only [gelS]
        refine chk 2 ?_
        refine wpList_lenS (by first | rfl | simp [Region.wanted, yielded]) rfl Tryz.underlying26 rfl ?_
        simp only [putS]
        refine chk 4 ?_
        refine wpList_lenS (by first | rfl | simp [Region.wanted, yielded]) rfl Tryz.underlying26 rfl ?_
        simp only [putS]
        refine chk 32 ?_
        refine wpList_nil ?_
        go_upto_region 2 with fail
        refine wp_region_lit ?_
        try simp only [gelS]
        refine chk 1 ?_
        refine wpList_nil ?_
        go_wp2
        go_ret
        exact ⟨rfl, B⟩
       ·by_cases h7 : 1048575 < s.pha
        ·have q0 : decide ((s.pts.length : Int) < 1) = false := decide_eq_false h0
         have q1 : decide (64 < (s.pts.length : Int)) = false := decide_eq_false h1
         have q2 : decide (s.rad < 1) = false := decide_eq_false h2
         have q3 : decide (256 < s.rad) = false := decide_eq_false h3
         have q4 : decide (s.spa < 1) = false := decide_eq_false h4
         have q5 : decide (4096 < s.spa) = false := decide_eq_false h5
         have q6 : decide (s.pha < 0) = false := decide_eq_false h6
         have q7 : decide (1048575 < s.pha) = true := decide_eq_true h7
         have p0 : decide (s.pts.length < 1) = false := decide_eq_false (by omega)
         have p1 : decide (64 < s.pts.length) = false := decide_eq_false (by omega)
         obtain rfl : b = false := by rw [← e]; exact num_no (by omega)
         clear e
         go_enter Tryz.func16, Tryz.ntmps16
         go_upto_region 0 with fail
         refine wp_region_lit ?_
         try simp only [gelS]
         (refine wpList_boxB (t := 30) rfl _ rfl _ rfl (alK B ?_); clear B; intro b_r1 wn hle hge r1 hbn hsz hln B; (try have hlt := r1.lt); (try replace r1 := r1.below (hbn.mono hle)); (try have hlt := rs.lt); (try replace rs := rs.below (hbn.mono hle)); simp only [putS])
         refine chk 1 ?_
         refine wpList_nil ?_
         go_upto_region 1 with fail
         refine wp_region_lit ?_
         try simp only [gelS]
         refine chk 2 ?_
         refine wpList_lenS (by first | rfl | simp [Region.wanted, yielded]) rfl Tryz.underlying26 rfl ?_
         simp only [putS]
         refine chk 4 ?_
         refine wpList_lenS (by first | rfl | simp [Region.wanted, yielded]) rfl Tryz.underlying26 rfl ?_
         simp only [putS]
         refine chk 32 ?_
         refine wpList_nil ?_
         go_upto_region 2 with fail
         refine wp_region_lit ?_
         try simp only [gelS]
         refine chk 1 ?_
         refine wpList_nil ?_
         go_wp2
         go_ret
         exact ⟨rfl, B⟩
        ·have q0 : decide ((s.pts.length : Int) < 1) = false := decide_eq_false h0
         have q1 : decide (64 < (s.pts.length : Int)) = false := decide_eq_false h1
         have q2 : decide (s.rad < 1) = false := decide_eq_false h2
         have q3 : decide (256 < s.rad) = false := decide_eq_false h3
         have q4 : decide (s.spa < 1) = false := decide_eq_false h4
         have q5 : decide (4096 < s.spa) = false := decide_eq_false h5
         have q6 : decide (s.pha < 0) = false := decide_eq_false h6
         have q7 : decide (1048575 < s.pha) = false := decide_eq_false h7
         have p0 : decide (s.pts.length < 1) = false := decide_eq_false (by omega)
         have p1 : decide (64 < s.pts.length) = false := decide_eq_false (by omega)
         have HV := num_yes (s := s) (by omega)
         rw [HV] at e
         clear HV
         cases hk : okPts s.pts with
         | false =>
          have HK := Lib.hid (show okPts s.pts = !true from hk)
          obtain rfl : b = false := by rw [← e, hk]; rfl
          clear e hk
          go_enter Tryz.func16, Tryz.ntmps16
          go_upto_region 0 with fail
          refine wp_region_lit ?_
          try simp only [gelS]
          (refine wpList_boxB (t := 30) rfl _ rfl _ rfl (alK B ?_); clear B; intro b_r1 wn hle hge r1 hbn hsz hln B; (try have hlt := r1.lt); (try replace r1 := r1.below (hbn.mono hle)); (try have hlt := rs.lt); (try replace rs := rs.below (hbn.mono hle)); simp only [putS])
          refine chk 1 ?_
          refine wpList_nil ?_
          go_upto_region 1 with fail
          refine wp_region_lit ?_
          try simp only [gelS]
          refine chk 2 ?_
          refine wpList_lenS (by first | rfl | simp [Region.wanted, yielded]) rfl Tryz.underlying26 rfl ?_
          simp only [putS]
          refine chk 4 ?_
          refine wpList_lenS (by first | rfl | simp [Region.wanted, yielded]) rfl Tryz.underlying26 rfl ?_
          simp only [putS]
          refine chk 32 ?_
          refine wpList_nil ?_
          go_upto_region 3 with fail
          refine wp_region_lit ?_
          try simp only [gelS]
          refine chk 2 ?_
          refine clF (enters_of Tryz.func51 (by kernel_rfl) rfl) (c := P_ContainsS _ s.pts true _ rs hn HK.out) (h := ?_)
          rintro e wn ⟨rfl, hbn⟩
          have hsz := B.size
          have hzn := hbn.size
          replace B := B.trans (hbn.mono B.size)
          (try replace r1 := r1.below hbn)
          (try replace rs := rs.below hbn)
          refine ⟨_, rfl, ?_⟩
          simp only [putS]
          refine wpList_nil ?_
          go_upto_region 4 with fail
          refine wp_region_lit ?_
          try simp only [gelS]
          refine chk 1 ?_
          refine wpList_nil ?_
          go_wp2
          go_ret
          exact ⟨rfl, B⟩
         | true =>
          have HK := Lib.hid (show okPts s.pts = !false from hk)
          have HO := Lib.hid (okPts_all hk)
          rw [hk, Bool.true_and] at e
          have E := Lib.hid e
          have HTT : 0 ≤ totI s.pts ∧ totI s.pts ≤ 189812544 := by
           have h1 := preI_bd HO.out (s.pts.length - 1) (by omega)
           exact ⟨preI_nn _ _, by show preI s.pts (s.pts.length - 1) ≤ _; omega⟩
          obtain ⟨t, ht⟩ : ∃ t, totI s.pts = t := ⟨_, rfl⟩
          rw [ht] at E HTT
          have HT := Lib.hid ht
          clear e hk ht
          go_enter Tryz.func16, Tryz.ntmps16
          go_upto_region 0 with fail
          refine wp_region_lit ?_
          try simp only [gelS]
          (refine wpList_boxB (t := 30) rfl _ rfl _ rfl (alK B ?_); clear B; intro b_r1 wn hle hge r1 hbn hsz hln B; (try have hlt := r1.lt); (try replace r1 := r1.below (hbn.mono hle)); (try have hlt := rs.lt); (try replace rs := rs.below (hbn.mono hle)); simp only [putS])
          refine chk 1 ?_
          refine wpList_nil ?_
          go_upto_region 1 with fail
          refine wp_region_lit ?_
          try simp only [gelS]
          refine chk 2 ?_
          refine wpList_lenS (by first | rfl | simp [Region.wanted, yielded]) rfl Tryz.underlying26 rfl ?_
          simp only [putS]
          refine chk 4 ?_
          refine wpList_lenS (by first | rfl | simp [Region.wanted, yielded]) rfl Tryz.underlying26 rfl ?_
          simp only [putS]
          refine chk 32 ?_
          refine wpList_nil ?_
          go_upto_region 3 with fail
          refine wp_region_lit ?_
          try simp only [gelS]
          refine chk 2 ?_
          refine clF (enters_of Tryz.func51 (by kernel_rfl) rfl) (c := P_ContainsS _ s.pts false _ rs hn HK.out) (h := ?_)
          rintro e wn ⟨rfl, hbn⟩
          have hsz := B.size
          have hzn := hbn.size
          replace B := B.trans (hbn.mono B.size)
          (try replace r1 := r1.below hbn)
          (try replace rs := rs.below hbn)
          refine ⟨_, rfl, ?_⟩
          simp only [putS]
          refine wpList_nil ?_
          go_upto_region 5 with fail
          try simp only [gelS]
          try have lx_r1 := r1.lt
          try have lx_rs := rs.lt
          refine wp_region_RL 11 [(2, detS ?v1_2)] (by kernel_rfl) (by kernel_rfl) (by kernel_rfl) ?_
          rotate_left 1
          simp only [takS, Nat.reduceAdd]
          refine crk 2 ?_
          refine wpRL_callB (by rfl) (by first | rfl | simp [Region.wanted, yielded]) ?_ ?_
          ·intro wn hbn hE Kx hKx
           have hsz := B.size
           have hzn := hbn.size
           replace B := B.trans (hbn.mono B.size)
           (try replace r1 := r1.below hbn)
           (try replace rs := rs.below hbn)
           refine wp_callF rfl (enters_of Tryz.func54 (by kernel_rfl) rfl) (by simp only [Act.eval, evlS]; rfl) ?_
           refine (P_total _ s.pts t wn rs (by omega) HO.out HT.out).mono ?_
           rintro e wm ⟨rfl, hbm⟩
           refine ⟨_, rfl, ?_⟩
           have hz := hKx () wm trivial hbm
           dsimp only [detS] at hz
           exact hz
          rintro ⟨⟩
          dsimp only [detS]
          simp only [putS]
          refine crk 8 ?_
          refine wpRL_nil ?_
          intro wn hbn hE
          have hsz := B.size
          have hzn := hbn.size
          replace B := B.trans (hbn.mono B.size)
          clear hE
          try simp only [List.drop_succ_cons, List.drop_zero]
          refine NoPan.normal ?_
          go_wp2
          go_ret
          exact ⟨by (rw [← E.out]) <;> rfl, B⟩
end Go.Proofs.YtepelndbbhdofaaGreatDoor
