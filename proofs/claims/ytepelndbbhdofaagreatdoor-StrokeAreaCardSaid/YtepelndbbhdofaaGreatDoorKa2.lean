import Derived.Test.YtepelndbbhdofaaGreatDoorKa1
import Derived.Laws.AppendOwn
import Derived.Laws.AppendOwnNone
import Derived.Deep.Onto
import Derived.Great.BuildSlice
import Derived.Lib.SliceRun

/- Plain: strokes, the lengths of their segments, their dabs. -/
namespace Go.Proofs.YtepelndbbhdofaaGreatDoor
open Go.RowKit Pl
set_option linter.unusedVariables false
set_option linter.unusedSimpArgs false
/-- The greatest number up to k whose square is at most n. -/
def sqF (n : Nat) : Nat → Nat
 | 0 => 0
 | k + 1 => if (k + 1) * (k + 1) ≤ n then k + 1 else sqF n k
def sqN (n : Nat) : Nat := sqF n n
theorem zdx (n : Nat) : ∀ k, sqF n k * sqF n k ≤ n
 | 0 => by show 0 * 0 ≤ n; omega
 | k + 1 => by
  unfold sqF; split
  ·assumption
  ·exact zdx n k
theorem zdw (n : Nat) : ∀ k, n < (k + 1) * (k + 1) → n < (sqF n k + 1) * (sqF n k + 1)
 | 0, h => h
 | k + 1, h => by
  unfold sqF; split
  ·exact h
  ·exact zdw n k (by omega)
theorem zdy (n : Nat) : sqN n * sqN n ≤ n := zdx n n
theorem zf6 (n : Nat) : n < (sqN n + 1) * (sqN n + 1) := zdw n n (by rw [Nat.add_mul, Nat.mul_add]; omega)
theorem VE {n s : Nat} : s ≤ sqN n ↔ s * s ≤ n := by
 constructor
 ·intro h
  exact Nat.le_trans (Nat.mul_le_mul h h) (zdy n)
 ·intro h
  rcases Nat.lt_or_ge (sqN n) s with k | k
  ·have := Nat.mul_le_mul (show sqN n + 1 ≤ s from k) (show sqN n + 1 ≤ s from k)
   have := zf6 n; omega
  ·exact k
/-- A point of a stroke. -/
structure Sp where
 x : Int
 y : Int
 p : Int
deriving DecidableEq
/-- A dab. -/
structure Db where
 x : Int
 y : Int
 r : Int
deriving DecidableEq
/-- A stroke. -/
structure jd where
 pts : List Sp
 rad : Int
 spa : Int
 col : Px
 era : Bool
 pha : Int
def Sp.zero : Sp := ⟨0, 0, 0⟩
def jJ (l : List Sp) (i : Nat) : Sp := l.getD i Sp.zero
theorem ju {l : List Sp} {i : Nat} (h : i < l.length) : l[i]? = some (jJ l i) := by
 unfold jJ
 rw [List.getD_eq_getElem?_getD, List.getElem?_eq_getElem h]
 rfl
def ZR (x : Int) : Bool := decide (-1048576 ≤ x ∧ x ≤ 1048575)
def Qs (a : Sp) : Prop := -1048576 ≤ a.x ∧ a.x ≤ 1048575 ∧ -1048576 ≤ a.y ∧ a.y ≤ 1048575 ∧ 0 ≤ a.p ∧ a.p ≤ 255
instance (a : Sp) : Decidable (Qs a) := by unfold Qs; infer_instance
def vn (a b : Sp) : Int := (b.x - a.x) * (b.x - a.x) + (b.y - a.y) * (b.y - a.y)
def yI (a b : Sp) : Int := (sqN (vn a b).toNat : Nat)
theorem KX (x : Int) : 0 ≤ x * x := by
 rcases Int.le_total 0 x with h | h
 ·exact Int.mul_nonneg h h
 ·have := Int.mul_nonneg (show 0 ≤ -x by omega) (show 0 ≤ -x by omega)
  rw [Int.neg_mul_neg] at this; exact this
theorem Xh {x m : Int} (h1 : -m ≤ x) (h2 : x ≤ m) : 0 ≤ x * x ∧ x * x ≤ m * m := by
 refine ⟨KX x, ?_⟩
 rcases Int.le_total 0 x with h | h
 ·exact (j5 h h2 h h2).2
 ·have := (j5 (a := -x) (b := -x) (m := m) (k := m) (by omega) (by omega) (by omega) (by omega)).2
  rw [Int.neg_mul_neg] at this; exact this
theorem WU {a b : Sp} (ha : Qs a) (hb : Qs b) : 0 ≤ vn a b ∧ vn a b ≤ 8796084633602 := by
 obtain ⟨a1, a2, a3, a4, _, _⟩ := ha
 obtain ⟨b1, b2, b3, b4, _, _⟩ := hb
 have h1 := Xh (x := b.x - a.x) (m := 2097151) (by omega) (by omega)
 have h2 := Xh (x := b.y - a.y) (m := 2097151) (by omega) (by omega)
 unfold vn
 omega
theorem Qo (a b : Sp) : 0 ≤ yI a b := by unfold yI; omega
theorem XR {a b : Sp} (ha : Qs a) (hb : Qs b) : yI a b ≤ 2965821 := by
 obtain ⟨h1, h2⟩ := WU ha hb
 have h := zdy (vn a b).toNat
 unfold yI
 have : ¬ (2965822 ≤ sqN (vn a b).toNat) := fun k => by
  have := Nat.mul_le_mul k k; omega
 omega
/-- The length of the first k segments. -/
def jq (l : List Sp) : Nat → Int
 | 0 => 0
 | k + 1 => jq l k + yI (jJ l k) (jJ l (k + 1))
def vc (l : List Sp) : Int := jq l (l.length - 1)
theorem u6 (l : List Sp) : ∀ k, 0 ≤ jq l k
 | 0 => Int.le_refl _
 | k + 1 => by
  have h1 := u6 l k; have h2 := Qo (jJ l k) (jJ l (k + 1)); show 0 ≤ jq l k + yI (jJ l k) (jJ l (k + 1))
  omega
theorem J8 (l : List Sp) {i j : Nat} (h : i ≤ j) : jq l i ≤ jq l j := by
  induction j with
  | zero => have : i = 0 := by omega
            subst this; exact Int.le_refl _
  | succ j ih =>
    rcases Nat.lt_or_ge j i with k | k
    · have : i = j + 1 := by omega
      subst this; exact Int.le_refl _
    · have h1 := ih k
      have h2 := Qo (jJ l j) (jJ l (j + 1)); show jq l i ≤ jq l j + yI (jJ l j) (jJ l (j + 1))
      omega
theorem Qu {l : List Sp} (h : ∀ a ∈ l, Qs a) : ∀ k, k < l.length ∨ k = 0 → jq l k ≤ 2965821 * k
 | 0, _ => by show (0 : Int) ≤ _; omega
 | k + 1, hk => by
  have hk : k + 1 < l.length := by omega
  have h1 := Qu h k (by omega); have h2 := XR (h _ (List.mem_of_getElem? (ju (show k < l.length by omega)))) (h _ (List.mem_of_getElem? (ju hk))); show jq l k + yI (jJ l k) (jJ l (k + 1)) ≤ _
  omega
def ug (l : List Sp) : Bool := decide (∀ a ∈ l, Qs a)
def zeL (s : jd) : Bool := decide (1 ≤ s.pts.length ∧ s.pts.length ≤ 64 ∧ 1 ≤ s.rad ∧ s.rad ≤ 256 ∧ 1 ≤ s.spa ∧ s.spa ≤ 4096 ∧ 0 ≤ s.pha ∧ s.pha ≤ 1048575)
def j2 (s : jd) : Bool := zeL s && (ug s.pts && decide (vc s.pts - s.pha ≤ 1024 * s.spa))
/-- What a valid stroke is. -/
structure JI (s : jd) : Prop where
 l1 : 1 ≤ s.pts.length
 l2 : s.pts.length ≤ 64
 r1 : 1 ≤ s.rad
 r2 : s.rad ≤ 256
 s1 : 1 ≤ s.spa
 s2 : s.spa ≤ 4096
 p1 : 0 ≤ s.pha
 p2 : s.pha ≤ 1048575
 ok : ∀ a ∈ s.pts, Qs a
 fit : vc s.pts - s.pha ≤ 1024 * s.spa
theorem xk (s : jd) : j2 s = true ↔ JI s := by
 unfold j2 zeL ug
 rw [Bool.and_eq_true, Bool.and_eq_true, decide_eq_true_iff, decide_eq_true_iff, decide_eq_true_iff]
 constructor
 ·rintro ⟨⟨a1, a2, a3, a4, a5, a6, a7, a8⟩, b, c⟩
  exact ⟨a1, a2, a3, a4, a5, a6, a7, a8, b, c⟩
 ·rintro ⟨a1, a2, a3, a4, a5, a6, a7, a8, b, c⟩
  exact ⟨⟨a1, a2, a3, a4, a5, a6, a7, a8⟩, b, c⟩
theorem JI.pt {s : jd} (h : JI s) {i : Nat} (hi : i < s.pts.length) : Qs (jJ s.pts i) := h.ok _ (List.mem_of_getElem? (ju hi))
theorem JI.pre {s : jd} (h : JI s) {k : Nat} (hk : k < s.pts.length) : 0 ≤ jq s.pts k ∧ jq s.pts k ≤ 189812544 := by
 have h1 := Qu h.ok k (.inl hk)
 have h2 := h.l2
 refine ⟨u6 _ _, ?_⟩
 omega
/-! ### Dabs -/
def zch (s : jd) (x y p : Int) : Db := ⟨x, y, qm (s.rad * p) 255⟩
def zcj (s : jd) (a b : Sp) (e l : Int) : Db := zch s (a.x + qm ((b.x - a.x) * e) l) (a.y + qm ((b.y - a.y) * e) l) (a.p + qm ((b.p - a.p) * e) l)
def zeE (l : List Sp) (d : Int) : Nat → Nat → Nat
 | 0, i => i
 | f + 1, i => if d < jq l (i + 1) then i else zeE l d f (i + 1)
def zaM (l : List Sp) (d : Int) : Nat := zeE l d l.length 0
theorem WQ {l : List Sp} {d : Int} {j : Nat} (h1 : jq l j ≤ d) (h2 : d < jq l (j + 1)) : ∀ f i, i ≤ j → j ≤ i + f → zeE l d f i = j
 | 0, i, h3, h4 => by show i = j; omega
 | f + 1, i, h3, h4 => by
  unfold zeE; by_cases h : i = j
  ·subst h
   rw [if_pos h2]
  ·have := J8 l (show i + 1 ≤ j by omega)
   rw [if_neg (by omega)]; exact WQ h1 h2 f (i + 1) (by omega) (by omega)
theorem WP {l : List Sp} {d : Int} {j : Nat} (h1 : jq l j ≤ d) (h2 : d < jq l (j + 1)) (hj : j ≤ l.length) : zaM l d = j := WQ h1 h2 _ _ (Nat.zero_le _) (by omega)
theorem zcL {l : List Sp} {d : Int} (h0 : 0 ≤ d) : ∀ k, d < jq l k → ∃ j, j < k ∧ jq l j ≤ d ∧ d < jq l (j + 1)
 | 0, h => by
  have : jq l 0 = 0 := rfl; omega
 | k + 1, h => by
  rcases Int.lt_or_le d (jq l k) with g | g
  ·obtain ⟨j, h1, h2⟩ := zcL h0 k g
   exact ⟨j, by omega, h2⟩
  ·exact ⟨k, by omega, g, h⟩
def zci (s : jd) (d : Int) : Db := zcj s (jJ s.pts (zaM s.pts d)) (jJ s.pts (zaM s.pts d + 1)) (d - jq s.pts (zaM s.pts d)) (yI (jJ s.pts (zaM s.pts d)) (jJ s.pts (zaM s.pts d + 1)))
def xg (s : jd) (k : Nat) : Db := if s.pts.length = 1 then zch s (jJ s.pts 0).x (jJ s.pts 0).y (jJ s.pts 0).p else zci s (s.pha + k * s.spa)
/-- How many dabs. -/
def Wp (t p a : Int) : Nat := ((t - p + a - 1) / a).toNat
def xl (s : jd) : Nat := if s.pts.length = 1 then 1 else Wp (vc s.pts) s.pha s.spa
def jR (s : jd) : List Db := (List.range (xl s)).map (xg s)
/-- The dabs of a stroke, none of an invalid one. -/
def y9 (s : jd) : List Db := if j2 s = true then jR s else []
theorem QO {t p a : Int} (ha : 1 ≤ a) {k : Nat} : k < Wp t p a ↔ p + k * a < t := by
 unfold Wp
 constructor
 ·intro h
  have h1 : ((k : Int) + 1) ≤ (t - p + a - 1) / a := by omega
  have h2 := (Int.le_ediv_iff_mul_le (by omega)).1 h1; rw [Int.add_mul, Int.one_mul] at h2; omega
 ·intro h
  have h1 : ((k : Int) + 1) ≤ (t - p + a - 1) / a := by
   rw [Int.le_ediv_iff_mul_le (by omega), Int.add_mul, Int.one_mul]; omega
  omega
theorem zcc {t p a : Int} (ha : 1 ≤ a) {k : Nat} : Wp t p a ≤ k ↔ t ≤ p + k * a := by
 have := QO (t := t) (p := p) ha (k := k)
 omega
theorem Vz {s : jd} (h : JI s) : xl s ≤ 1024 := by
 unfold xl
 split
 ·omega
 ·rw [zcc h.s1]
  have := h.fit; omega
theorem JY (s : jd) : (jR s).length = xl s := by unfold jR; rw [List.length_map, List.length_range]
/-- What lies between. -/
theorem za9 {D e l : Int} (he : 0 ≤ e) (hl : e < l) : (0 ≤ D → 0 ≤ qm (D * e) l ∧ qm (D * e) l ≤ D) ∧ (D ≤ 0 → D ≤ qm (D * e) l ∧ qm (D * e) l ≤ 0) := by
 unfold qm
 constructor
 ·intro h
  have h1 := Int.mul_nonneg h he; have h2 : D * e ≤ D * l := Int.mul_le_mul_of_nonneg_left (by omega) h; refine ⟨Int.ediv_nonneg (by omega) (by omega), ?_⟩; have : (2 * (D * e) + l) / (2 * l) < D + 1 := by
   apply Int.ediv_lt_of_lt_mul (by omega)
   have e1 : (D + 1) * (2 * l) = 2 * (D * l) + 2 * l := by rw [Int.add_mul, Int.one_mul, Int.mul_left_comm]
   omega
  omega
 ·intro h
  have h1 : D * e ≤ 0 := Int.mul_nonpos_of_nonpos_of_nonneg h he; have h2 : D * l ≤ D * e := by
   have := Int.mul_le_mul_of_nonneg_left (show e ≤ l by omega) (show 0 ≤ -D by omega); rw [Int.neg_mul, Int.neg_mul] at this; omega
  constructor
  ·rw [Int.le_ediv_iff_mul_le (by omega), Int.mul_left_comm]
   omega
  ·have : (2 * (D * e) + l) / (2 * l) < 1 := by
    apply Int.ediv_lt_of_lt_mul (by omega)
    omega
   omega
theorem vA {a b e l m n : Int} (he : 0 ≤ e) (hl : e < l) (ha : m ≤ a ∧ a ≤ n) (hb : m ≤ b ∧ b ≤ n) : m ≤ a + qm ((b - a) * e) l ∧ a + qm ((b - a) * e) l ≤ n := by
 have h := za9 (D := b - a) he hl
 rcases Int.le_total 0 (b - a) with k | k
 ·have := h.1 k
  omega
 ·have := h.2 k
  omega
def VJ (d : Db) : Prop := -1048576 ≤ d.x ∧ d.x ≤ 1048575 ∧ -1048576 ≤ d.y ∧ d.y ≤ 1048575 ∧ 0 ≤ d.r ∧ d.r ≤ 256
theorem Ww {s : jd} (h : JI s) {x y p : Int} (hk : Qs ⟨x, y, p⟩) : VJ (zch s x y p) := by
 obtain ⟨h1, h2, h3, h4, h5, h6⟩ := hk
 simp only at h1 h2 h3 h4 h5 h6
 have hr := h.r1
 have hr2 := h.r2
 have h7 := j5 (a := s.rad) (b := p) (m := 256) (k := 255) (by omega) (by omega) h5 h6
 have h8 := yh (n := s.rad * p) (d := 255) (m := 256) h7.1 (by omega) (by omega)
 exact ⟨h1, h2, h3, h4, h8.1, h8.2⟩
theorem zeg {s : jd} (h : JI s) {a b : Sp} (ha : Qs a) (hb : Qs b) {e l : Int} (he : 0 ≤ e) (hl : e < l) : VJ (zcj s a b e l) := by
 obtain ⟨a1, a2, a3, a4, a5, a6⟩ := ha
 obtain ⟨b1, b2, b3, b4, b5, b6⟩ := hb
 have h1 := vA he hl ⟨a1, a2⟩ ⟨b1, b2⟩
 have h2 := vA he hl ⟨a3, a4⟩ ⟨b3, b4⟩
 have h3 := vA he hl ⟨a5, a6⟩ ⟨b5, b6⟩
 exact Ww h ⟨h1.1, h1.2, h2.1, h2.2, h3.1, h3.2⟩
/-- Where the k-th dab lies. -/
theorem Wy {s : jd} (h : JI s) (hn : s.pts.length ≠ 1) {k : Nat} (hk : k < xl s) : ∃ j, j + 1 < s.pts.length ∧ jq s.pts j ≤ s.pha + k * s.spa ∧ s.pha + k * s.spa < jq s.pts (j + 1) ∧ xg s k = zcj s (jJ s.pts j) (jJ s.pts (j + 1)) (s.pha + k * s.spa - jq s.pts j) (yI (jJ s.pts j) (jJ s.pts (j + 1))) := by
 unfold xl at hk
 rw [if_neg hn, QO h.s1] at hk
 have h0 : 0 ≤ (k : Int) * s.spa := Int.mul_nonneg (by omega) (by have := h.s1; omega)
 have hp := h.p1
 obtain ⟨j, h1, h2, h3⟩ := zcL (l := s.pts) (d := s.pha + k * s.spa) (by omega) _ hk
 refine ⟨j, by omega, h2, h3, ?_⟩
 unfold xg zci
 rw [if_neg hn, WP h2 h3 (by omega)]
theorem zeh {s : jd} (hn : s.pts.length ≠ 1) {k j : Nat} (hj : j < s.pts.length) (h2 : jq s.pts j ≤ s.pha + k * s.spa) (h3 : s.pha + k * s.spa < jq s.pts (j + 1)) : xg s k = zcj s (jJ s.pts j) (jJ s.pts (j + 1)) (s.pha + k * s.spa - jq s.pts j) (yI (jJ s.pts j) (jJ s.pts (j + 1))) := by
 unfold xg zci
 rw [if_neg hn, WP h2 h3 (by omega)]
theorem Wx {s : jd} (h : JI s) {k : Nat} (hk : k < xl s) : VJ (xg s k) := by
 by_cases hn : s.pts.length = 1
 ·unfold xg
  rw [if_pos hn]; exact Ww h (h.pt (by omega))
 ·obtain ⟨j, h1, h2, h3, e⟩ := Wy h hn hk
  rw [e]; refine zeg h (h.pt (by omega)) (h.pt h1) (by omega) ?_; have : jq s.pts (j + 1) = jq s.pts j + yI (jJ s.pts j) (jJ s.pts (j + 1)) := rfl; omega
theorem QR {s : jd} (h : JI s) : ∀ d ∈ jR s, VJ d := fun d hd => by
 obtain ⟨k, hk, rfl⟩ := List.mem_map.1 hd
 exact Wx h (List.mem_range.1 hk)
theorem zcl (s : jd) : ∀ d ∈ y9 s, VJ d := fun d hd => by
 unfold y9 at hd
 split at hd
 ·rename_i hv
  exact QR ((xk s).1 hv) d hd
 ·cases hd
theorem zaz (s : jd) : (y9 s).length ≤ 1024 := by
 unfold y9
 split
 ·rename_i hv
  rw [JY]; exact Vz ((xk s).1 hv)
 ·simp
/-! ### Coverage -/
def dx4 (i : Nat) : Int := 4 * (i : Int) + 2
def Z9 (d : Db) (x y : Int) (i j : Nat) : Bool := decide ((16 * x + dx4 i - d.x) * (16 * x + dx4 i - d.x) + (16 * y + dx4 j - d.y) * (16 * y + dx4 j - d.y) ≤ d.r * d.r)
/-- How many of the first k samples lie in the disk. -/
def uG (d : Db) (x y : Int) (σ : Nat → Nat × Nat) : Nat → Int
 | 0 => 0
 | k + 1 => uG d x y σ k + (if Z9 d x y (σ k).1 (σ k).2 = true then 1 else 0)
def V3 (d : Db) (x y : Int) : Int := uG d x y (fun k => (k / 4, k % 4)) 16
def ziI (d : Db) (x y : Int) : Int := uG d x y (fun k => (k % 4, k / 4)) 16
theorem W9 (d : Db) (x y : Int) (σ : Nat → Nat × Nat) : ∀ k, 0 ≤ uG d x y σ k ∧ uG d x y σ k ≤ k
 | 0 => ⟨Int.le_refl _, Int.le_refl _⟩
 | k + 1 => by
  have := W9 d x y σ k; show 0 ≤ uG d x y σ k + (if Z9 d x y (σ k).1 (σ k).2 = true then 1 else 0) ∧ uG d x y σ k + (if Z9 d x y (σ k).1 (σ k).2 = true then 1 else 0) ≤ ((k + 1 : Nat) : Int)
  split <;> omega
def zaR (d : Db) : Bool := decide (1 ≤ d.r ∧ d.r ≤ 256) && (ZR d.x && ZR d.y)
def vR (d : Db) (x y : Int) : Int := if zaR d = true then qm (255 * V3 d x y) 16 else 0
theorem zdt {d : Db} {x y : Int} (h : ∀ i j, i < 4 → j < 4 → Z9 d x y i j = false) : V3 d x y = 0 := by
 unfold V3
 have : ∀ k, k ≤ 16 → uG d x y (fun k => (k / 4, k % 4)) k = 0 := by
  intro k
  induction k with
  | zero => intro _; rfl
  | succ k ih =>
   intro hk; show uG d x y _ k + (if Z9 d x y (k / 4) (k % 4) = true then 1 else 0) = 0
   rw [ih (by omega), h _ _ (by omega) (by omega)]
   rfl
 exact this 16 (Nat.le_refl _)
def kn (d : Db) : Rc := ⟨(d.x - d.r) / 16, (d.y - d.r) / 16, (d.x + d.r) / 16 + 1, (d.y + d.r) / 16 + 1⟩
theorem zfL {d : Db} {x y : Int} {i j : Nat} (hi : i < 4) (hj : j < 4) (hr : 0 ≤ d.r) (h : Z9 d x y i j = true) : qU (kn d) x y = true := by
 have h := of_decide_eq_true h
 have h1 := KX (16 * x + dx4 i - d.x)
 have h2 := KX (16 * y + dx4 j - d.y)
 have key : ∀ u : Int, u * u ≤ d.r * d.r → -d.r ≤ u ∧ u ≤ d.r := by
  intro u hu
  constructor
  ·rcases Int.lt_or_le u (-d.r) with k | k
   ·have := (j5 (a := d.r + 1) (b := d.r + 1) (m := -u) (k := -u) (by omega) (by omega) (by omega) (by omega)).2
    rw [Int.neg_mul_neg, Int.add_mul, Int.one_mul, Int.mul_add, Int.mul_one] at this; omega
   ·exact k
  ·rcases Int.lt_or_le d.r u with k | k
   ·have := (j5 (a := d.r + 1) (b := d.r + 1) (m := u) (k := u) (by omega) (by omega) (by omega) (by omega)).2
    rw [Int.add_mul, Int.one_mul, Int.mul_add, Int.mul_one] at this; omega
   ·exact k
 have k1 := key _ (show (16 * x + dx4 i - d.x) * (16 * x + dx4 i - d.x) ≤ d.r * d.r by omega)
 have k2 := key _ (show (16 * y + dx4 j - d.y) * (16 * y + dx4 j - d.y) ≤ d.r * d.r by omega)
 unfold dx4 at k1 k2
 unfold qU kn
 refine decide_eq_true ?_
 simp only
 omega
theorem ze0 {d : Db} {x y : Int} (hr : 0 ≤ d.r) (h : qU (kn d) x y = false) : V3 d x y = 0 := zdt fun i j hi hj => by
 cases hh : Z9 d x y i j with
 | false => rfl
 | true => rw [zfL hi hj hr hh] at h; cases h
theorem zf0 : qm (255 * 0) 16 = 0 := by decide
theorem zce {d : Db} {x y : Int} (h : qU (kn d) x y = false) : vR d x y = 0 := by
 unfold vR
 split
 ·rename_i hk
  unfold zaR at hk; rw [Bool.and_eq_true, decide_eq_true_iff] at hk; rw [ze0 (by omega) h]; exact zf0
 ·rfl
theorem zee (d : Db) (x y : Int) : 0 ≤ vR d x y ∧ vR d x y ≤ 255 := by
 unfold vR
 split
 ·have h := W9 d x y (fun k => (k / 4, k % 4)) 16
  change 0 ≤ V3 d x y ∧ V3 d x y ≤ 16 at h
  exact yh (by omega) (by omega) (by omega)
 ·omega
/-! ### Area -/
def ZN (l : List Db) : Rc := l.foldl (fun a d => if 0 < d.r then j0 a (kn d) else a) Rc.zero
def XS : Rc := ⟨-65536, -65536, 65536, 65536⟩
def uQ (s : jd) : Rc := yf (ZN (y9 s)) XS
end Go.Proofs.YtepelndbbhdofaaGreatDoor
/- Plain: laws of rasters: what put keeps, what is found behind it. -/
namespace Go.Proofs.YtepelndbbhdofaaGreatDoor
open Go.RowKit Pl
set_option linter.unusedVariables false
set_option linter.unusedSimpArgs false
set_option maxRecDepth 20000
theorem Za {ls : List TA} {x y : Int} {t : Nat → Px} {e : TA} (h : e ∈ xS ls x y t) : e ∈ ls ∨ (e = ⟨x, y, t⟩ ∧ jh t = false) := by
 have hn : ∀ {e : TA}, e ∈ jm x y t → e = ⟨x, y, t⟩ ∧ jh t = false := fun {e} he => by
  unfold jm at he; split at he
  ·cases he
  ·rename_i hz
   exact ⟨List.mem_singleton.1 he, by simpa using hz⟩
 induction ls with
 | nil => exact .inr (hn h)
 | cons f r ih =>
  unfold xS at h; split at h
  ·rcases List.mem_cons.1 h with rfl | h
   ·exact .inl (List.mem_cons_self ..)
   ·rcases ih h with h | h
    ·exact .inl (List.mem_cons_of_mem _ h)
    ·exact .inr h
  ·split at h
   ·rcases List.mem_append.1 h with h | h
    ·exact .inr (hn h)
    ·exact .inl (List.mem_cons_of_mem _ h)
   ·rcases List.mem_append.1 h with h | h
    ·exact .inr (hn h)
    ·exact .inl h
theorem Q8 {x y : Int} {t : Nat → Px} {ls : List TA} (h : uO ls) (k : ∀ e ∈ ls, qQ x y e.x e.y = true) : uO (jm x y t ++ ls) := by
 unfold jm
 split
 ·exact h
 ·exact List.Pairwise.cons k h
theorem Jf {ls : List TA} {x y : Int} {t : Nat → Px} (h : uO ls) : uO (xS ls x y t) := by
 induction ls with
 | nil =>
  have := Q8 (x := x) (y := y) (t := t) (ls := []) List.Pairwise.nil (fun e he => by cases he); rw [List.append_nil] at this; exact this
 | cons f r ih =>
  obtain ⟨h1, h2⟩ := List.pairwise_cons.1 h; unfold xS; split
  ·rename_i hl
   refine List.Pairwise.cons (fun e he => ?_) (ih h2); rcases Za he with he | ⟨rfl, _⟩
   ·exact h1 e he
   ·exact hl
  ·rename_i hl
   have l' := of_decide_eq_false (show qQ f.x f.y x y = false by simpa using hl); split
   ·rename_i hq
    have e' := of_decide_eq_true hq; exact Q8 h2 fun e he => by
     have := of_decide_eq_true (h1 e he); exact decide_eq_true (by omega)
   ·rename_i hq
    have e' := of_decide_eq_false (show xT f.x f.y x y = false by simpa using hq); refine Q8 h fun e he => ?_
    rcases List.mem_cons.1 he with rfl | he
    ·exact decide_eq_true (by omega)
    ·have := of_decide_eq_true (h1 e he)
     exact decide_eq_true (by omega)
theorem Xb {ls : List TA} {x y : Int} {t : Nat → Px} (h : ∀ e ∈ ls, ka e = true) (hw : z8 x y = true) (hc : kO (qF t) t = true) : ∀ e ∈ xS ls x y t, ka e = true := fun e he => by
 rcases Za he with he | ⟨rfl, hz⟩
 ·exact h e he
 ·unfold ka
  rw [hw, hz, hc]; rfl
theorem YW (t : Nat → Px) : kO (qF (qF t)) (qF t) = true := wh fun j hj => by
 unfold qF jj
 split
 ·split <;> rfl
 ·rfl
/-- Behind put the raster is valid, unless it has become too large. -/
theorem VT {ls : List TA} {x y : Int} {t : Nat → Px} (h : z2 ls = true) (hw : z8 x y = true) (hl : (xS ls x y (qF t)).length ≤ 1024) : z2 (xS ls x y (qF t)) = true :=
 Xo hl (Xb (xG h) hw (YW t)) (Jf (jC h))
theorem VU (ls : List TA) (x y : Int) (t : Nat → Px) : z2 (ud ls x y t) = true := by
 unfold ud
 split
 ·rename_i hw
  unfold xQ; split
  ·rename_i hl
   exact VT (jG ls) hw hl
  ·exact jO
 ·exact jO
theorem zda {ls : List TA} {x y : Int} {t : Nat → Px} (h : qN ls) (ht : Zr t) : qN (ud ls x y t) := by
 have hc : Zr (qF t) := fun i hi => wO (ht i hi)
 unfold ud xQ
 split
 ·split
  ·exact KA (yL h) hc
  ·exact qN.nil
 ·exact qN.nil
theorem zds {t : Nat → Px} {x y : Int} {p : Px} (h : Zr t) (hp : p.ok) : Zr (ZI t x y p) := by
 unfold ZI
 split
 ·intro i hi
  unfold Qc; split
  ·exact hp
  ·exact h i hi
 ·exact h
theorem KV {ls : List TA} {x y : Int} {p : Px} (h : qN ls) (hp : p.ok) : Zr (zf2 ls x y p) := zds (kt (yL h) _ _) hp
theorem zdr {ls : List TA} {x y : Int} {p : Px} (h : qN ls) (hp : p.ok) : qN (KU ls x y p) := zda h (KV h hp)
/-! ### What is found behind put -/
theorem vF {ls : List TA} {x y : Int} (h : ∀ e ∈ ls, xT e.x e.y x y = false) : zU ls x y = zT := by
 induction ls with
 | nil => rfl
 | cons e r ih =>
  unfold zU; rw [h e (List.mem_cons_self ..)]; exact ih fun e he => h e (List.mem_cons_of_mem _ he)
theorem vE (a b : List TA) (x y : Int) (h : ∀ e ∈ a, xT e.x e.y x y = false) : zU (a ++ b) x y = zU b x y := by
 induction a with
 | nil => rfl
 | cons e r ih =>
  rw [List.cons_append]; show (if _ then _ else _) = _
  rw [h e (List.mem_cons_self ..)]; exact ih fun e he => h e (List.mem_cons_of_mem _ he)
theorem uF {x y x' y' : Int} {t : Nat → Px} (h : xT x y x' y' = false) : ∀ e ∈ jm x y t, xT e.x e.y x' y' = false := fun e he => by
 unfold jm at he
 split at he
 ·cases he
 ·rw [List.mem_singleton.1 he]; exact h
theorem vO (ls : List TA) (x y : Int) (t : Nat → Px) {x' y' : Int} (h : xT x y x' y' = false) : zU (xS ls x y t) x' y' = zU ls x' y' := by
 have h' := of_decide_eq_false h
 induction ls with
 | nil => exact vF (uF h)
 | cons e r ih =>
  unfold xS; split
  ·show (if _ then _ else _) = (if _ then _ else _)
   rw [ih]
  ·split
   ·rename_i hq
    have q := of_decide_eq_true hq; rw [vE _ _ _ _ (uF h)]; show _ = if _ then _ else _
    rw [show xT e.x e.y x' y' = false from decide_eq_false (by omega)]
    rfl
   ·rw [vE _ _ _ _ (uF h)]
theorem Jw {ls : List TA} (hs : uO ls) (x y : Int) (t : Nat → Px) : zU (xS ls x y t) x y = if jh t = true then zT else t := by
 have hself : xT x y x y = true := decide_eq_true ⟨rfl, rfl⟩
 have hnew : ∀ r : List TA, (∀ e ∈ r, xT e.x e.y x y = false) → zU (jm x y t ++ r) x y = if jh t = true then zT else t := fun r hr => by
  unfold jm; split
  ·exact vF hr
  ·show (if _ then _ else _) = _
   rw [if_pos hself]
 induction ls with
 | nil =>
  have := hnew [] (fun e he => by cases he); rw [List.append_nil] at this; exact this
 | cons e r ih =>
  obtain ⟨h1, h2⟩ := List.pairwise_cons.1 hs; unfold xS; split
  ·rename_i hl
   have l := of_decide_eq_true hl; show (if _ then _ else _) = _
   rw [show xT e.x e.y x y = false from decide_eq_false (by omega)]; exact ih h2
  ·rename_i hl
   have l := of_decide_eq_false (show qQ e.x e.y x y = false by simpa using hl); split
   ·rename_i hq
    have q := of_decide_eq_true hq; exact hnew r fun f hf => by
     have := of_decide_eq_true (h1 f hf); exact decide_eq_false (by omega)
   ·rename_i hq
    have q := of_decide_eq_false (show xT e.x e.y x y = false by simpa using hq); refine hnew (e :: r) fun f hf => ?_
    rcases List.mem_cons.1 hf with rfl | hf
    ·exact decide_eq_false q
    ·have := of_decide_eq_true (h1 f hf)
     exact decide_eq_false (by omega)
/-- Sorted lists with the same tile at every position are equal in length and place by place. -/
theorem zbh {ls : List TA} (hs : uO ls) {e : TA} (he : e ∈ ls) : zU ls e.x e.y = e.t := by
 induction ls with
 | nil => cases he
 | cons f r ih =>
  obtain ⟨h1, h2⟩ := List.pairwise_cons.1 hs; show (if _ then _ else _) = _
  rcases List.mem_cons.1 he with rfl | he
  ·rw [show xT e.x e.y e.x e.y = true from decide_eq_true ⟨rfl, rfl⟩]; rfl
  ·have := of_decide_eq_true (h1 e he)
   rw [show xT f.x f.y e.x e.y = false from decide_eq_false (by omega)]; exact ih h2 he
theorem XM (ls : List TA) (x y : Int) : idxL ls x y ≤ ls.length := by
 induction ls with
 | nil => exact Nat.le_refl _
 | cons e r ih => unfold idxL; split <;> simp; omega
theorem wZ (ls : List TA) (x y : Int) : zU ls x y = if idxL ls x y < ls.length then (aT ls (idxL ls x y)).t else zT := by
 induction ls with
 | nil => rfl
 | cons e r ih =>
  unfold zU idxL; split
  ·rw [if_pos (by simp)]; rfl
  ·rw [ih, List.length_cons, Ql]
   by_cases h : idxL r x y < r.length
   ·rw [if_pos h, if_pos (by omega)]
   ·rw [if_neg h, if_neg (by omega)]
theorem WF {ls : List TA} {x y : Int} : ∀ {j : Nat}, j < idxL ls x y → xT (aT ls j).x (aT ls j).y x y = false := by
 induction ls with
 | nil => intro j h; exact absurd h (Nat.not_lt_zero _)
 | cons e r ih =>
  intro j h; unfold idxL at h; split at h
  ·exact absurd h (Nat.not_lt_zero _)
  ·rename_i hl
   cases j with
   | zero => show xT e.x e.y x y = false; simpa using hl
   | succ j => exact ih (by omega)
theorem WE {ls : List TA} {x y : Int} (h : idxL ls x y < ls.length) : xT (aT ls (idxL ls x y)).x (aT ls (idxL ls x y)).y x y = true := by
 induction ls with
 | nil => exact absurd h (Nat.not_lt_zero _)
 | cons e r ih =>
  by_cases hl : xT e.x e.y x y = true
  ·have hc : idxL (e :: r) x y = 0 := by show (if _ then _ else _) = _; rw [if_pos hl]
   rw [hc]; exact hl
  ·have hc : idxL (e :: r) x y = idxL r x y + 1 := by show (if _ then _ else _) = _; rw [if_neg hl]
   rw [hc] at h ⊢; exact ih (by simpa using h)
/- Tiles at positions, and slices of them, in memory. -/
/-- The 258 cells of a tile at a position. -/
def xX (e : TA) : Array Value := #[.int .i64 e.x, .int .i64 e.y] ++ qT e.t
def Ta.v (e : TA) : Value := .agg (xX e)
theorem zS (e : TA) : (xX e).size = 258 := by unfold xX; rw [Array.size_append, jN]; rfl
theorem Xl (e : TA) : (xX e)[0]? = some (.int .i64 e.x) := by unfold xX; rw [Array.getElem?_append_left (by simp)]; rfl
theorem K0 (e : TA) : (xX e)[1]? = some (.int .i64 e.y) := by unfold xX; rw [Array.getElem?_append_left (by simp)]; rfl
theorem zab (e : TA) (j : Nat) : (xX e)[2 + j]? = (qT e.t)[j]? := by
 unfold xX
 rw [Array.getElem?_append_right (by simp)]
 simp
theorem Z3 (e : TA) : ∀ u ∈ (xX e).toList, u.oneCell' = true := by
 intro u hu
 obtain ⟨i, h⟩ := List.mem_iff_getElem?.1 hu
 rw [Array.getElem?_toList] at h
 have hs : i < 258 := by rw [← zS e]; exact (Array.getElem?_eq_some_iff.1 h).1
 match i, hs with
 | 0, _ => rw [Xl] at h; rw [← Option.some.inj h]; rfl
 | 1, _ => rw [K0] at h; rw [← Option.some.inj h]; rfl
 | j + 2, hs =>
  rw [Nat.add_comm j 2, zab, yN, if_pos (by omega)] at h; rw [← Option.some.inj h]; unfold pxC; repeat' split
  all_goals rfl
attribute [irreducible] xX
/-- The cells of a row. -/
def wv : List TA → List Value
 | [] => []
 | e :: r => (xX e).toList ++ wv r
theorem KJ (a b : List TA) : wv (a ++ b) = wv a ++ wv b := by
 induction a with
 | nil => rfl
 | cons e r ih => rw [List.cons_append]; show _ ++ wv (r ++ b) = _; rw [ih]; show _ = (_ ++ _) ++ _; rw [List.append_assoc]
theorem ww (ls : List TA) : (wv ls).length = ls.length * 258 := by
 induction ls with
 | nil => rfl
 | cons e r ih => show ((xX e).toList ++ wv r).length = _; rw [List.length_append, ih, Array.length_toList, zS, List.length_cons]; omega
theorem Qx (ls : List TA) : ∀ i j, i < ls.length → j < 258 → (wv ls)[i * 258 + j]? = (xX (aT ls i))[j]? := by
 induction ls with
 | nil => intro i j hi; exact absurd hi (Nat.not_lt_zero _)
 | cons e r ih =>
  intro i j hi hj; show ((xX e).toList ++ wv r)[i * 258 + j]? = _
  cases i with
  | zero =>
   rw [List.getElem?_append_left (by rw [Array.length_toList, zS]; omega), Array.getElem?_toList, Nat.zero_mul, Nat.zero_add]
   rfl
  | succ i =>
   rw [List.getElem?_append_right (by rw [Array.length_toList, zS]; omega), Array.length_toList, zS, show (i + 1) * 258 + j - 258 = i * 258 + j by omega, ih i j (by simpa using hi) hj, Ql]
theorem X7 (ls : List TA) : ∀ u ∈ wv ls, u.oneCell' = true := by
 induction ls with
 | nil => intro u hu; cases hu
 | cons e r ih =>
  intro u hu; rcases List.mem_append.1 hu with hu | hu
  ·exact Z3 e u hu
  ·exact ih u hu
/-- The cells of block g from o on are those of the row ls. -/
def qt (g o : Nat) (ls : List TA) (w : World) : Prop := g < w.heap.size ∧ ∀ i, i < ls.length → ∀ j, j < 258 → w.cell? ⟨g, o + (i * 258 + j), none⟩ = (xX (aT ls i))[j]?
theorem qt.lt {g o : Nat} {ls : List TA} {w : World} (h : qt g o ls w) : g < w.heap.size := h.1
theorem qt.of_eq {g o : Nat} {ls : List TA} {w w' : World} (h : qt g o ls w) (e : w'.heap[g]? = w.heap[g]?) : qt g o ls w' := by
 refine ⟨?_, fun i hi j hj => ?_⟩
 ·have := h.1
  rcases Nat.lt_or_ge g w'.heap.size with k | k
  ·exact k
  ·rw [Array.getElem?_eq_none k, Array.getElem?_eq_getElem this] at e
   cases e
 ·rw [World.cell?_of_block (w := w) e]
  exact h.2 i hi j hj
theorem qt.below {g o : Nat} {ls : List TA} {w w' : World} (h : qt g o ls w) (e : Below w.heap.size w w') : qt g o ls w' := h.of_eq (e.block _ h.lt)
theorem qt.cg {g o : Nat} {ls : List TA} {w w' : World} (h : qt g o ls w) {zc : Nat} (e : qV zc w w') (hn : g ≠ zc := by omega) : qt g o ls w' := h.of_eq (e.block _ h.lt hn)
theorem qt.drop {g o : Nat} {ls : List TA} {w : World} (h : qt g o ls w) (k : Nat) : qt g (o + k * 258) (ls.drop k) w :=
 ⟨h.1, fun i hi j hj => by
  rw [List.length_drop] at hi; rw [zeb, ← h.2 (k + i) (by omega) j hj]
  congr 2
  rw [Nat.add_mul]; omega⟩
theorem qt.take {g o : Nat} {ls : List TA} {w : World} (h : qt g o ls w) (k : Nat) : qt g o (ls.take k) w :=
 ⟨h.1, fun i hi j hj => by
  rw [List.length_take] at hi; have e : aT (ls.take k) i = aT ls i := by
   unfold aT; rw [List.getD_eq_getElem?_getD, List.getD_eq_getElem?_getD, List.getElem?_take, if_pos (by omega)]
  rw [e]; exact h.2 i (by omega) j hj⟩
/-- The cells one by one. -/
theorem qt.row {g o : Nat} {ls : List TA} {w : World} (h : qt g o ls w) (j : Nat) (u : Value) (hu : (wv ls)[j]? = some u) : w.cell? ⟨g, o + j, none⟩ = some u := by
 have hj : j < ls.length * 258 := by rw [← ww]; exact (List.getElem?_eq_some_iff.1 hu).1
 have e : j = (j / 258) * 258 + j % 258 := by omega
 rw [e, Qx ls _ _ (by omega) (by omega)] at hu
 have := h.2 (j / 258) (by omega) (j % 258) (by omega)
 rw [hu, ← e] at this
 exact this
theorem qt.x {g o : Nat} {ls : List TA} {w : World} (h : qt g o ls w) {i : Nat} (hi : i < ls.length) : w.cell? ⟨g, o + i * 258, none⟩ = some (.int .i64 (aT ls i).x) := by
 have := h.2 i hi 0 (by omega)
 rw [Xl] at this
 exact this
theorem qt.y {g o : Nat} {ls : List TA} {w : World} (h : qt g o ls w) {i : Nat} (hi : i < ls.length) : w.cell? ⟨g, o + i * 258 + 1, none⟩ = some (.int .i64 (aT ls i).y) := by
 have := h.2 i hi 1 (by omega)
 rw [K0, ← Nat.add_assoc] at this
 exact this
theorem qt.t {g o : Nat} {ls : List TA} {w : World} (h : qt g o ls w) {i : Nat} (hi : i < ls.length) {j : Nat} (hj : j < 256) : w.cell? ⟨g, o + i * 258 + 2 + j, none⟩ = (qT (aT ls i).t)[j]? := by
 have := h.2 i hi (2 + j) (by omega)
 rw [zab, ← Nat.add_assoc, ← Nat.add_assoc] at this
 exact this
/-- v is a slice of the tiles ls. -/
def RS (v : Value) (ls : List TA) (w : World) : Prop := (v = .slice none 0 0 ∧ ls = []) ∨ ∃ g o c, v = .slice (some ⟨g, o, none⟩) ls.length c ∧ ls.length ≤ c ∧ (0 < ls.length → qt g o ls w)
section
variable {v : Value} {ls : List TA} {w w' : World}
theorem RS.below (h : RS v ls w) (hb : Below w.heap.size w w') : RS v ls w' := by
 rcases h with h | ⟨g, o, c, e, hc, sc⟩
 ·exact .inl h
 ·exact .inr ⟨g, o, c, e, hc, fun hn => (sc hn).of_eq (hb.block _ (sc hn).lt)⟩
theorem RS.len (h : RS v ls w) : ∃ a c, v = .slice a ls.length c ∧ ls.length ≤ c := by
 rcases h with ⟨rfl, rfl⟩ | ⟨g, o, c, e, hc, sc⟩
 ·exact ⟨none, 0, rfl, Nat.le_refl _⟩
 ·exact ⟨_, c, e, hc⟩
theorem RS.at {a : Option Addr} {n c : Nat} (h : RS (.slice a n c) ls w) (hn : 0 < ls.length) : ∃ g o, a = some ⟨g, o, none⟩ ∧ qt g o ls w := by
 rcases h with ⟨_, rfl⟩ | ⟨g, o, c', e, _, sc⟩
 ·exact absurd hn (by decide)
 ·injection e with e1 e2 e3
  exact ⟨g, o, e1, sc hn⟩
theorem RS.nil (w : World) : RS (.slice none 0 0) [] w := .inl ⟨rfl, rfl⟩
end
/-- v is a slice of the tiles ls, in a row that the call owns (from block B on). -/
def xr (B : Nat) (v : Value) (ls : List TA) (w : World) : Prop := w.ownsRow B 125 258 v ls.length (wv ls)
section
variable {B : Nat} {v : Value} {ls : List TA} {w : World}
theorem xr.below {w' : World} (h : xr B v ls w) (hb : Below w.heap.size w w') : xr B v ls w' :=
 World.ownsRow.kept (row := none) h ⟨hb.os, hb.tape, hb.output, hb.size, fun k hk _ => hb.block k hk⟩ (Classical.em _)
theorem xr.mono {B' : Nat} (h : xr B v ls w) (hb : B' ≤ B) : xr B' v ls w := World.ownsRow.mono h hb
theorem xr.nil (B : Nat) (w : World) : xr B (.slice none 0 0) [] w := World.ownsRow_nil w B _ _
theorem xr.rs (h : xr B v ls w) : RS v ls w := by
 obtain ⟨h1, h2⟩ := h
 rcases h2 with ⟨rfl, h0⟩ | ⟨g, cap, cur, rfl, hb, hg, hn, hm, hs, ht⟩
 ·exact .inl ⟨rfl, List.eq_nil_of_length_eq_zero h0⟩
 ·refine .inr ⟨g, 0, cap, rfl, hn, fun _ => ⟨(Array.getElem?_eq_some_iff.1 hg).1, fun i hi j hj => ?_⟩⟩
  rw [← Qx ls i j hi hj, Nat.zero_add, cell_of_row w g _ cur _ (0, 0) hg, ← ht, List.getElem?_take_of_lt (by omega), Array.getElem?_toList]
theorem xr.len (h : xr B v ls w) : ∃ a c, v = .slice a ls.length c ∧ ls.length ≤ c := h.rs.len
end
theorem wY : (Tryz.prog.info? 125).map (fun i => (i.size, i.bytes)) = some (258, 272) := by kernel_rfl
theorem Yl : (Tryz.prog.info? 125).bind (·.zero) = some (.agg (#[.int .i64 0, .int .i64 0] ++ Array.replicate 256 (.int .u8 0))) := by kernel_rfl
section
variable {ops : Array Oper} {rest : List Oper} {o : Oper} {a : Act} {w : World} {Q : Exit → Act → World → Prop}
/-- A slice of tiles appended to a row of the call's own. -/
theorem qe (hg : o.guard = none) (s x : Operand) (ho : o.op = .call { callee := .builtin .append, args := #[s, x], argTypes := #[62, 62] }) (v u : Value) (hs : a.eval s = v) (hx : a.eval x = u) {B : Nat} {ls ks : List TA} (hown : xr B v ls w) (hu : RS u ks w) (hlen : ls.length + ks.length ≤ 100000) (hB : B ≤ w.heap.size)
  (h : ∀ v' w', xr B v' (ls ++ ks) w' → Below B w w' → wpList Tryz.prog ops Q rest (a.put o.dst v') w') : wpList Tryz.prog ops Q (o :: rest) a w := by
 obtain ⟨i, hi⟩ : ∃ i, Tryz.prog.info? 125 = some i := by
  cases h : Tryz.prog.info? 125 with
  | some i => exact ⟨i, rfl⟩
  | none => have e := wY; rw [h] at e; cases e
 have e1 := wY
 rw [hi] at e1
 have e1' : i.size = 258 ∧ i.bytes = 272 := by simpa using e1
 have hz := Yl
 rw [hi] at hz
 rcases hu with ⟨rfl, rfl⟩ | ⟨g, of, c, rfl, hc, sc⟩
 ·refine wpList_append_own_none (P := Tryz.prog) hg s x 62 ho B 125 i 258 Tryz.underlying62 hi v ls.length (wv ls) hs hown hx ?_
  exact h v w (by rw [List.append_nil]; exact hown) (Below.refl _ _)
 ·refine wpList_append_own (P := Tryz.prog) w hg s x 62 ho B 125 i _ 258 272 Tryz.underlying62 hi hz e1'.1 e1'.2 (by simp [Value.cells]) (by omega) v ls.length (wv ls) hs hown ⟨g, of, none⟩ ks.length c (wv ks) hx (ww ks) ?_ (X7 ks) (by unfold maxLen; omega) (by omega) hB ?_
  ·intro j u hu
   have hj : j < ks.length * 258 := by rw [← ww]; exact (List.getElem?_eq_some_iff.1 hu).1
   have e : (⟨g, of, none⟩ : Addr).add j = ⟨g, of + j, none⟩ := by unfold Addr.add; split <;> simp_all
   rw [e]; exact (sc (by omega)).row j u hu
  ·intro v' w' h1 h2 h3
   refine h v' w' ?_ ?_
   ·unfold xr
    rw [KJ, List.length_append]; exact h1
   ·have zh := World.ownsRow.lt hown
    exact ⟨h2.os, h2.tape, h2.output, h2.size, fun k hk => h2.block k (by omega) (fun e => by have := zh k e.symm; omega)⟩
end
/- The small structs of rasters as values and blocks. -/
/-! ### The small types -/
theorem zZ (w : World) (o : Oper) (ho : o.op = .alloc 38) (ev : Operand → Value) : (execOp ev o).run Tryz.prog w = .ok (.value (.pointer (some ⟨w.heap.size, 0, none⟩))) (w.alloc (.cells #[.int .i64 0, .int .i64 0, .int .i64 0, .int .i64 0] 38)) := by
 obtain ⟨d, p, t, ps, af, gd⟩ := o
 simp only at ho
 subst ho
 kernel_rfl
theorem z6 (w : World) (o : Oper) (ho : o.op = .alloc 95) (ev : Operand → Value) : (execOp ev o).run Tryz.prog w = .ok (.value (.pointer (some ⟨w.heap.size, 0, none⟩))) (w.alloc (.cells #[.int .i64 0, .int .i64 0] 95)) := by
 obtain ⟨d, p, t, ps, af, gd⟩ := o
 simp only at ho
 subst ho
 kernel_rfl
def Ps.v (x y : Int) : Value := .agg #[.int .i64 x, .int .i64 y]
theorem Rc.v_mk (a b c d : Int) : Rc.v ⟨a, b, c, d⟩ = .agg #[.int .i64 a, .int .i64 b, .int .i64 c, .int .i64 d] := rfl
theorem Rc.v_def (r : Rc) : Rc.v r = .agg #[.int .i64 r.x0, .int .i64 r.y0, .int .i64 r.x1, .int .i64 r.y1] := rfl
/- Contracts of package rect and of its reference, as far as rasters want them. -/
theorem xL (r : Rc) (w : World) : Calls Tryz.prog 45 #[Rc.v r] w fun e w' => e = .returned (.bool (qn r)) ∧ Below w.heap.size w w' := by
 obtain ⟨a, b, c, d⟩ := r
 simp only [Rc.v_mk]
 by_cases h0 : c ≤ a
 ·rw [show qn ⟨a, b, c, d⟩ = true from by unfold qn; exact decide_eq_true (by simp only; omega)]
  have d0 : decide (c ≤ a) = true := decide_eq_true h0; go_enter Tryz.func45, Tryz.ntmps45
  go_wp2; go_ret; exact ⟨rfl, by go_grown⟩
 ·by_cases h1 : d ≤ b
  ·rw [show qn ⟨a, b, c, d⟩ = true from by unfold qn; exact decide_eq_true (by simp only; omega)]
   have d0 : decide (c ≤ a) = false := decide_eq_false h0; have d1 : decide (d ≤ b) = true := decide_eq_true h1; go_enter Tryz.func45, Tryz.ntmps45
   go_wp2; go_ret; exact ⟨rfl, by go_grown⟩
  ·rw [show qn ⟨a, b, c, d⟩ = false from by unfold qn; exact decide_eq_false (by simp only; omega)]
   have d0 : decide (c ≤ a) = false := decide_eq_false h0; have d1 : decide (d ≤ b) = false := decide_eq_false h1; go_enter Tryz.func45, Tryz.ntmps45
   go_wp2; go_ret; exact ⟨rfl, by go_grown⟩
theorem V8 (r : Rc) (x y : Int) (w : World) : Calls Tryz.prog 25 #[Rc.v r, Ps.v x y] w fun e w' => e = .returned (.bool (qU r x y)) ∧ Below w.heap.size w w' := by
 obtain ⟨a, b, c, d⟩ := r
 simp only [Rc.v_mk, Ps.v]
 by_cases h0 : a ≤ x
 ·by_cases h1 : x < c
  ·by_cases h2 : b ≤ y
   ·by_cases h3 : y < d
    ·rw [show qU ⟨a, b, c, d⟩ x y = true from by unfold qU; exact decide_eq_true (by simp only; omega)]
     have d0 : decide (a ≤ x) = true := decide_eq_true h0; have d1 : decide (x < c) = true := decide_eq_true h1; have d2 : decide (b ≤ y) = true := decide_eq_true h2; have d3 : decide (y < d) = true := decide_eq_true h3; go_enter Tryz.func25, Tryz.ntmps25
     go_wp2; go_ret; exact ⟨rfl, by go_grown⟩
    ·rw [show qU ⟨a, b, c, d⟩ x y = false from by unfold qU; exact decide_eq_false (by simp only; omega)]
     have d0 : decide (a ≤ x) = true := decide_eq_true h0; have d1 : decide (x < c) = true := decide_eq_true h1; have d2 : decide (b ≤ y) = true := decide_eq_true h2; have d3 : decide (y < d) = false := decide_eq_false h3; go_enter Tryz.func25, Tryz.ntmps25
     go_wp2; go_ret; exact ⟨rfl, by go_grown⟩
   ·rw [show qU ⟨a, b, c, d⟩ x y = false from by unfold qU; exact decide_eq_false (by simp only; omega)]
    have d0 : decide (a ≤ x) = true := decide_eq_true h0; have d1 : decide (x < c) = true := decide_eq_true h1; have d2 : decide (b ≤ y) = false := decide_eq_false h2; go_enter Tryz.func25, Tryz.ntmps25
    go_wp2; go_ret; exact ⟨rfl, by go_grown⟩
  ·rw [show qU ⟨a, b, c, d⟩ x y = false from by unfold qU; exact decide_eq_false (by simp only; omega)]
   have d0 : decide (a ≤ x) = true := decide_eq_true h0; have d1 : decide (x < c) = false := decide_eq_false h1; go_enter Tryz.func25, Tryz.ntmps25
   go_wp2; go_ret; exact ⟨rfl, by go_grown⟩
 ·rw [show qU ⟨a, b, c, d⟩ x y = false from by unfold qU; exact decide_eq_false (by simp only; omega)]
  have d0 : decide (a ≤ x) = false := decide_eq_false h0; go_enter Tryz.func25, Tryz.ntmps25
  go_wp2; go_ret; exact ⟨rfl, by go_grown⟩
theorem QC (r : Rc) (w : World) : Calls Tryz.prog 105 #[Rc.v r] w fun e w' => e = .returned (Rc.v (kQ r)) ∧ Below w.heap.size w w' := by
 obtain ⟨a, b, c, d⟩ := r
 have B := Below.refl w.heap.size w
 by_cases hE : qn ⟨a, b, c, d⟩ = true
 ·rw [show kQ ⟨a, b, c, d⟩ = Rc.zero from if_pos hE]
  simp only [Rc.v_mk]; go_enter Tryz.func105, Tryz.ntmps105
  go_wp2_with (first | (go_at_call 45; refine (xL ⟨a, b, c, d⟩ _).mono ?_; rintro e wn ⟨rfl, za⟩; have zf := B.size; have zg := za.size; replace B := B.trans (za.mono B.size); (try replace r1 := r1.below za); (try replace r2 := r2.below za)) | (refine zq (t := 38) rfl _ _ rfl _ rfl _ rfl r2 (by kernel_rfl) rfl (by simp [Value.oneCell']) (qG B (by omega) ?_); clear r2 B; intro wn r2 ze zf zg B; (try replace r1 := r1.of_eq (ze.block _ r1.lt (by omega))); simp only [zo]) | (have _ := r1; refine zr (t := 38) rfl _ (zZ _ _ rfl) (zY B ?_); clear B; intro b_r2 wn zb zd r2 za zf zk B; (try have zh := r1.lt); (try replace r1 := r1.below (za.mono zb)); (try have zh := r2.lt); (try replace r2 := r2.below (za.mono zb)); simp only [zo]) | (refine zt (t := 38) rfl _ rfl _ rfl (zY B ?_); clear B; intro b_r1 wn zb zd r1 za zf zk B; (try have zh := r1.lt); (try replace r1 := r1.below (za.mono zb)); (try have zh := r2.lt); (try replace r2 := r2.below (za.mono zb)); simp only [zo]) | (refine zp (t := 38) rfl _ rfl _ _ _ rfl (zv r1 Tryz.isAgg38 (by kernel_rfl)) (by rfl) ?_; simp only [zo]))
  refine bodyPost_ret (zz (t := 38) rfl _ _ (b_r2) rfl r2 Tryz.isAgg38 (by kernel_rfl)) rfl ?_; exact ⟨rfl, B⟩
 ·rw [show kQ ⟨a, b, c, d⟩ = ⟨a, b, c, d⟩ from if_neg hE]
  have hE' : qn ⟨a, b, c, d⟩ = false := by simpa using hE
  simp only [Rc.v_mk]; clear hE; go_enter Tryz.func105, Tryz.ntmps105
  go_wp2_with (first | (go_at_call 45; refine (xL ⟨a, b, c, d⟩ _).mono ?_; rintro e wn ⟨rfl, za⟩; have zf := B.size; have zg := za.size; replace B := B.trans (za.mono B.size); (try replace r1 := r1.below za); (try replace r2 := r2.below za)) | (refine zq (t := 38) rfl _ _ rfl _ rfl _ rfl r2 (by kernel_rfl) rfl (by simp [Value.oneCell']) (qG B (by omega) ?_); clear r2 B; intro wn r2 ze zf zg B; (try replace r1 := r1.of_eq (ze.block _ r1.lt (by omega))); simp only [zo]) | (have _ := r1; refine zr (t := 38) rfl _ (zZ _ _ rfl) (zY B ?_); clear B; intro b_r2 wn zb zd r2 za zf zk B; (try have zh := r1.lt); (try replace r1 := r1.below (za.mono zb)); (try have zh := r2.lt); (try replace r2 := r2.below (za.mono zb)); simp only [zo]) | (refine zt (t := 38) rfl _ rfl _ rfl (zY B ?_); clear B; intro b_r1 wn zb zd r1 za zf zk B; (try have zh := r1.lt); (try replace r1 := r1.below (za.mono zb)); (try have zh := r2.lt); (try replace r2 := r2.below (za.mono zb)); simp only [zo]) | (refine zp (t := 38) rfl _ rfl _ _ _ rfl (zv r1 Tryz.isAgg38 (by kernel_rfl)) (by rfl) ?_; simp only [zo]))
  refine bodyPost_ret (zz (t := 38) rfl _ _ (b_r2) rfl r2 Tryz.isAgg38 (by kernel_rfl)) rfl ?_; exact ⟨rfl, B⟩
/- Contracts of package rect and of its reference: Floor by 8, At, Valid, Area, Intersect, Union; fits of package raster and of its reference. -/
theorem Xm (x : Int) (h : x < 0) : (x.tmod 8 = 0 → x.tdiv 8 = x / 8) ∧ (x.tmod 8 ≠ 0 → x.tdiv 8 - 1 = x / 8) := by
 obtain ⟨n, rfl⟩ : ∃ n : Nat, x = -(n : Int) := ⟨(-x).toNat, by omega⟩
 have e1 : (-(n : Int)).tdiv 8 = -((n : Int) / 8) := by rw [Int.neg_tdiv]; rfl
 have e2 : (-(n : Int)).tmod 8 = -((n : Int) % 8) := by rw [Int.neg_tmod]; rfl
 rw [e1, e2]
 constructor <;> intro h2 <;> omega
set_option maxHeartbeats 1000000 in
theorem Yz (x : Int) (w : World) (hx : (Lit.int .i64 x).wf = true) : Calls Tryz.prog 111 #[.int .i64 x, .int .i64 8] w fun e w' => e = .returned (.int .i64 (x / 8)) ∧ w = w' := by
 have hmin : IntKind.i64.min = -9223372036854775808 := rfl
 have hmax : IntKind.i64.max = 9223372036854775807 := rfl
 simp only [Lit.wf, Bool.and_eq_true, decide_eq_true_eq] at hx
 rw [hmin, hmax] at hx
 obtain ⟨l1, l2⟩ := hx
 clear hmin hmax
 by_cases h0 : 0 ≤ x
 ·have h1 : ¬ x < 0 := by omega
  have d1 : decide (x < 0) = false := decide_eq_false h1; by_cases hm : x % 8 = 0
  ·have e1 : (x % 8 == 0) = true := by simpa using hm
   go_enter Tryz.func111, Tryz.ntmps111
   go_wp2; go_ret; exact ⟨rfl, rfl⟩
  ·have e1 : (x % 8 == 0) = false := by simpa using hm
   go_enter Tryz.func111, Tryz.ntmps111
   go_wp2; go_ret; exact ⟨rfl, rfl⟩
 ·have h1 : x < 0 := by omega
  have d1 : decide (x < 0) = true := decide_eq_true h1; obtain ⟨t1, t2⟩ := Xm x h1; by_cases hm : x.tmod 8 = 0
  ·have E := Lib.hid (t1 hm)
   have e1 : (x.tmod 8 == 0) = true := by simpa using hm
   have hb : -9223372036854775808 ≤ x.tdiv 8 ∧ x.tdiv 8 ≤ 0 := by rw [E.out]; omega
   clear t1 t2 h0; go_enter Tryz.func111, Tryz.ntmps111
   go_wp2; go_ret; exact ⟨js E.out, rfl⟩
  ·have E := Lib.hid (t2 hm)
   have e1 : (x.tmod 8 == 0) = false := by simpa using hm
   have hb : -9223372036854775807 ≤ x.tdiv 8 ∧ x.tdiv 8 ≤ 0 := by have := E.out; omega
   clear t1 t2 h0; go_enter Tryz.func111, Tryz.ntmps111
   go_wp2; go_ret; exact ⟨js E.out, rfl⟩
set_option maxHeartbeats 1000000 in
theorem YN (x : Int) (w : World) (hx : (Lit.int .i64 x).wf = true) : Calls Tryz.prog 67 #[.int .i64 x, .int .i64 8] w fun e w' => e = .returned (.int .i64 (x / 8)) ∧ w = w' := by
 have hmin : IntKind.i64.min = -9223372036854775808 := rfl
 have hmax : IntKind.i64.max = 9223372036854775807 := rfl
 simp only [Lit.wf, Bool.and_eq_true, decide_eq_true_eq] at hx
 rw [hmin, hmax] at hx
 obtain ⟨l1, l2⟩ := hx
 clear hmin hmax
 by_cases h0 : 0 ≤ x
 ·have h1 : ¬ x < 0 := by omega
  have d1 : decide (x < 0) = false := decide_eq_false h1; by_cases hm : x % 8 = 0
  ·have e1 : (x % 8 == 0) = true := by simpa using hm
   go_enter Tryz.func67, Tryz.ntmps67
   go_wp2; go_ret; exact ⟨rfl, rfl⟩
  ·have e1 : (x % 8 == 0) = false := by simpa using hm
   go_enter Tryz.func67, Tryz.ntmps67
   go_wp2; go_ret; exact ⟨rfl, rfl⟩
 ·have h1 : x < 0 := by omega
  have d1 : decide (x < 0) = true := decide_eq_true h1; obtain ⟨t1, t2⟩ := Xm x h1; by_cases hm : x.tmod 8 = 0
  ·have E := Lib.hid (t1 hm)
   have e1 : (x.tmod 8 == 0) = true := by simpa using hm
   have hb : -9223372036854775808 ≤ x.tdiv 8 ∧ x.tdiv 8 ≤ 0 := by rw [E.out]; omega
   clear t1 t2 h0; go_enter Tryz.func67, Tryz.ntmps67
   go_wp2; go_ret; exact ⟨js E.out, rfl⟩
  ·have E := Lib.hid (t2 hm)
   have e1 : (x.tmod 8 == 0) = false := by simpa using hm
   have hb : -9223372036854775807 ≤ x.tdiv 8 ∧ x.tdiv 8 ≤ 0 := by have := E.out; omega
   clear t1 t2 h0; go_enter Tryz.func67, Tryz.ntmps67
   go_wp2; go_ret; exact ⟨js E.out, rfl⟩
theorem zgn (x y : Int) (w : World) (hx : (Lit.int .i64 x).wf = true) (hy : (Lit.int .i64 y).wf = true) : Calls Tryz.prog 81 #[Ps.v x y] w fun e w' => e = .returned (Ps.v (x / 8) (y / 8)) ∧ Below w.heap.size w w' := by
 have B := Below.refl w.heap.size w
 simp only [Ps.v]
 go_enter Tryz.func81, Tryz.ntmps81
 go_wp2_with (first | (have _ := p1; refine zr (t := 95) rfl _ (z6 _ _ rfl) ?_; intro b_p2 wn zb zd ht za zg; have zf := B.size; replace B := B.trans (za.mono (by omega)); have zk := Nat.lt_of_lt_of_eq (Nat.lt_succ_self _) zg.symm; clear zg; (try have zh := p1.lt); (try replace p1 := p1.below (za.mono zb)); (try have zh := p2.lt); (try replace p2 := p2.below (za.mono zb)); have p2 := ht; clear ht; simp only [zo]) | (refine zt (t := 51) rfl _ rfl _ rfl ?_; intro b_p1 wn zb zd ht za zg; have zf := B.size; replace B := B.trans (za.mono (by omega)); have zk := Nat.lt_of_lt_of_eq (Nat.lt_succ_self _) zg.symm; clear zg; (try have zh := p1.lt); (try replace p1 := p1.below (za.mono zb)); (try have zh := p2.lt); (try replace p2 := p2.below (za.mono zb)); have p1 := ht; clear ht; simp only [zo]))
 refine qZ 7 (by kernel_rfl) (by kernel_rfl) ?_
 simp only [List.take_succ_cons, List.take_zero, List.drop_succ_cons, List.drop_zero]
 repeat (first | go_big_quiet_skip | (go_big_quiet_want; first | (refine zn (t := 3) rfl _ _ _ rfl (fun w hw => zu ((zB p1 w hw).cell 0 rfl)) (by rfl) ?_; simp only [zo]; go_big_quiet_on) | (refine zn (t := 3) rfl _ _ _ rfl (fun w hw => zu ((zB p1 w hw).cell 1 rfl)) (by rfl) ?_; simp only [zo]; go_big_quiet_on) | (go_big_quiet_op; first | go_big_quiet_on | go_big_quiet_call ((first | (go_at_call 111; exact xV (Yz _ _ hx)) | (go_at_call 111; exact xV (Yz _ _ hy)))))))
 refine wpQuiet_nil ?_
 intro wn za
 have zf := B.size
 have zg := za.size
 replace B := B.trans (za.mono B.size)
 try replace p2 := p2.below za
 go_wp2_with (first | (refine zq (t := 95) rfl _ _ rfl _ rfl _ rfl p2 (by kernel_rfl) rfl (by simp [Value.oneCell']) ?_; clear p2; intro wn ht ze zg; have zf := B.size; replace zg := Nat.le_of_eq zg.symm; replace B := qV.below B ze (by omega) B.size; have p2 := ht; clear ht; simp only [zo]))
 refine bodyPost_ret (zz (t := 95) rfl _ _ (b_p2) rfl p2 Tryz.isAgg95 (by kernel_rfl)) rfl ?_
 exact ⟨rfl, B⟩
theorem zhe (x y : Int) (w : World) (hx : (Lit.int .i64 x).wf = true) (hy : (Lit.int .i64 y).wf = true) : Calls Tryz.prog 114 #[.int .i64 x, .int .i64 y] w fun e w' => e = .returned (Ps.v (x / 8) (y / 8)) ∧ Below w.heap.size w w' := by
 have B := Below.refl w.heap.size w
 simp only [Ps.v]
 go_enter Tryz.func114, Tryz.ntmps114
 go_wp2_with (first | (refine zq (t := 95) rfl _ _ rfl _ rfl _ rfl p2 (by kernel_rfl) rfl (by simp [Value.oneCell']) ?_; clear p2; intro wn ht ze zg; have zf := B.size; replace zg := Nat.le_of_eq zg.symm; replace B := qV.below B ze (by omega) B.size; have p2 := ht; clear ht; simp only [zo]) | (go_at_call 67; ((with_reducible refine (YN x _ hx).mono ?_)); rintro e w' ⟨rfl, rfl⟩) | (go_at_call 67; ((with_reducible refine (YN y _ hy).mono ?_)); rintro e w' ⟨rfl, rfl⟩) | (refine zr (t := 95) rfl _ (z6 _ _ rfl) ?_; intro b_p2 wn zb zd ht za zg; have zf := B.size; replace B := B.trans (za.mono (by omega)); have zk := Nat.lt_of_lt_of_eq (Nat.lt_succ_self _) zg.symm; clear zg; (try have zh := p1.lt); (try have zh := p2.lt); (try replace p2 := p2.below (za.mono zb)); have p2 := ht; clear ht; simp only [zo]))
 refine bodyPost_ret (zz (t := 95) rfl _ _ (b_p2) rfl p2 Tryz.isAgg95 (by kernel_rfl)) rfl ?_
 exact ⟨rfl, B⟩
theorem vH (r : Rc) : j9 r = true ↔ (r.x0 < r.x1 ∧ r.y0 < r.y1) ∧ (-65536 ≤ r.x0 ∧ -65536 ≤ r.y0 ∧ r.x1 ≤ 65536 ∧ r.y1 ≤ 65536) := by
 unfold j9 qn uY
 rw [Bool.and_eq_true, Bool.not_eq_true', decide_eq_false_iff_not, decide_eq_true_iff]
 constructor <;> rintro ⟨h1, h2⟩ <;> refine ⟨?_, h2⟩ <;> omega
set_option maxHeartbeats 2000000 in
theorem JQ (r : Rc) (w : World) (hE : qn r = false) : Calls Tryz.prog 162 #[Rc.v r, Rc.v ⟨-65536, -65536, 65536, 65536⟩] w fun e w' => e = .returned (.bool (uY r)) ∧ Below w.heap.size w w' := by
 obtain ⟨a, b, c, d⟩ := r
 have B := Below.refl w.heap.size w
 simp only [Rc.v_mk]
 by_cases h0 : -65536 ≤ a
 ·by_cases h1 : c ≤ 65536
  ·by_cases h2 : -65536 ≤ b
   ·by_cases h3 : d ≤ 65536
    ·rw [show uY ⟨a, b, c, d⟩ = true from by unfold uY; exact decide_eq_true (by simp only; omega)]
     have d0 : decide (-65536 ≤ a) = true := decide_eq_true h0; have d1 : decide (c ≤ 65536) = true := decide_eq_true h1; have d2 : decide (-65536 ≤ b) = true := decide_eq_true h2; have d3 : decide (d ≤ 65536) = true := decide_eq_true h3; go_enter Tryz.func162, Tryz.ntmps162
     go_wp2_with (first | (go_at_call 45; refine (xL ⟨a, b, c, d⟩ _).mono ?_; rintro e wn ⟨rfl, za⟩; have zf := B.size; have zg := za.size; replace B := B.trans (za.mono B.size); (try replace r1 := r1.below za); (try replace r2 := r2.below za); have c_r1_0 := r1.cell 0 rfl; have c_r1_1 := r1.cell 1 rfl; have c_r1_2 := r1.cell 2 rfl; have c_r1_3 := r1.cell 3 rfl; have c_r2_0 := r2.cell 0 rfl; have c_r2_1 := r2.cell 1 rfl; have c_r2_2 := r2.cell 2 rfl; have c_r2_3 := r2.cell 3 rfl) | (have _ := r1; refine zt (t := 38) rfl _ rfl _ rfl ?_; intro b_r2 wn zb zd ht za zg; have zf := B.size; replace B := B.trans (za.mono (by omega)); have zk := Nat.lt_of_lt_of_eq (Nat.lt_succ_self _) zg.symm; clear zg; (try have zh := r1.lt); (try replace r1 := r1.below (za.mono zb)); (try have zh := r2.lt); (try replace r2 := r2.below (za.mono zb)); have r2 := ht; clear ht; simp only [zo]) | (refine zt (t := 38) rfl _ rfl _ rfl ?_; intro b_r1 wn zb zd ht za zg; have zf := B.size; replace B := B.trans (za.mono (by omega)); have zk := Nat.lt_of_lt_of_eq (Nat.lt_succ_self _) zg.symm; clear zg; (try have zh := r1.lt); (try replace r1 := r1.below (za.mono zb)); (try have zh := r2.lt); (try replace r2 := r2.below (za.mono zb)); have r1 := ht; clear ht; simp only [zo]) | (refine zp (t := 38) rfl _ rfl _ _ _ rfl (zv r1 Tryz.isAgg38 (by kernel_rfl)) (by rfl) ?_; simp only [zo]) | fail)
     go_ret; exact ⟨rfl, B⟩
    ·rw [show uY ⟨a, b, c, d⟩ = false from by unfold uY; exact decide_eq_false (by simp only; omega)]
     have d0 : decide (-65536 ≤ a) = true := decide_eq_true h0; have d1 : decide (c ≤ 65536) = true := decide_eq_true h1; have d2 : decide (-65536 ≤ b) = true := decide_eq_true h2; have d3 : decide (d ≤ 65536) = false := decide_eq_false h3; go_enter Tryz.func162, Tryz.ntmps162
     go_wp2_with (first | (go_at_call 45; refine (xL ⟨a, b, c, d⟩ _).mono ?_; rintro e wn ⟨rfl, za⟩; have zf := B.size; have zg := za.size; replace B := B.trans (za.mono B.size); (try replace r1 := r1.below za); (try replace r2 := r2.below za); have c_r1_0 := r1.cell 0 rfl; have c_r1_1 := r1.cell 1 rfl; have c_r1_2 := r1.cell 2 rfl; have c_r1_3 := r1.cell 3 rfl; have c_r2_0 := r2.cell 0 rfl; have c_r2_1 := r2.cell 1 rfl; have c_r2_2 := r2.cell 2 rfl; have c_r2_3 := r2.cell 3 rfl) | (have _ := r1; refine zt (t := 38) rfl _ rfl _ rfl ?_; intro b_r2 wn zb zd ht za zg; have zf := B.size; replace B := B.trans (za.mono (by omega)); have zk := Nat.lt_of_lt_of_eq (Nat.lt_succ_self _) zg.symm; clear zg; (try have zh := r1.lt); (try replace r1 := r1.below (za.mono zb)); (try have zh := r2.lt); (try replace r2 := r2.below (za.mono zb)); have r2 := ht; clear ht; simp only [zo]) | (refine zt (t := 38) rfl _ rfl _ rfl ?_; intro b_r1 wn zb zd ht za zg; have zf := B.size; replace B := B.trans (za.mono (by omega)); have zk := Nat.lt_of_lt_of_eq (Nat.lt_succ_self _) zg.symm; clear zg; (try have zh := r1.lt); (try replace r1 := r1.below (za.mono zb)); (try have zh := r2.lt); (try replace r2 := r2.below (za.mono zb)); have r1 := ht; clear ht; simp only [zo]) | (refine zp (t := 38) rfl _ rfl _ _ _ rfl (zv r1 Tryz.isAgg38 (by kernel_rfl)) (by rfl) ?_; simp only [zo]) | fail)
     go_ret; exact ⟨rfl, B⟩
   ·rw [show uY ⟨a, b, c, d⟩ = false from by unfold uY; exact decide_eq_false (by simp only; omega)]
    have d0 : decide (-65536 ≤ a) = true := decide_eq_true h0; have d1 : decide (c ≤ 65536) = true := decide_eq_true h1; have d2 : decide (-65536 ≤ b) = false := decide_eq_false h2; go_enter Tryz.func162, Tryz.ntmps162
    go_wp2_with (first | (go_at_call 45; refine (xL ⟨a, b, c, d⟩ _).mono ?_; rintro e wn ⟨rfl, za⟩; have zf := B.size; have zg := za.size; replace B := B.trans (za.mono B.size); (try replace r1 := r1.below za); (try replace r2 := r2.below za); have c_r1_0 := r1.cell 0 rfl; have c_r1_1 := r1.cell 1 rfl; have c_r1_2 := r1.cell 2 rfl; have c_r1_3 := r1.cell 3 rfl; have c_r2_0 := r2.cell 0 rfl; have c_r2_1 := r2.cell 1 rfl; have c_r2_2 := r2.cell 2 rfl; have c_r2_3 := r2.cell 3 rfl) | (have _ := r1; refine zt (t := 38) rfl _ rfl _ rfl ?_; intro b_r2 wn zb zd ht za zg; have zf := B.size; replace B := B.trans (za.mono (by omega)); have zk := Nat.lt_of_lt_of_eq (Nat.lt_succ_self _) zg.symm; clear zg; (try have zh := r1.lt); (try replace r1 := r1.below (za.mono zb)); (try have zh := r2.lt); (try replace r2 := r2.below (za.mono zb)); have r2 := ht; clear ht; simp only [zo]) | (refine zt (t := 38) rfl _ rfl _ rfl ?_; intro b_r1 wn zb zd ht za zg; have zf := B.size; replace B := B.trans (za.mono (by omega)); have zk := Nat.lt_of_lt_of_eq (Nat.lt_succ_self _) zg.symm; clear zg; (try have zh := r1.lt); (try replace r1 := r1.below (za.mono zb)); (try have zh := r2.lt); (try replace r2 := r2.below (za.mono zb)); have r1 := ht; clear ht; simp only [zo]) | (refine zp (t := 38) rfl _ rfl _ _ _ rfl (zv r1 Tryz.isAgg38 (by kernel_rfl)) (by rfl) ?_; simp only [zo]) | fail)
    go_ret; exact ⟨rfl, B⟩
  ·rw [show uY ⟨a, b, c, d⟩ = false from by unfold uY; exact decide_eq_false (by simp only; omega)]
   have d0 : decide (-65536 ≤ a) = true := decide_eq_true h0; have d1 : decide (c ≤ 65536) = false := decide_eq_false h1; go_enter Tryz.func162, Tryz.ntmps162
   go_wp2_with (first | (go_at_call 45; refine (xL ⟨a, b, c, d⟩ _).mono ?_; rintro e wn ⟨rfl, za⟩; have zf := B.size; have zg := za.size; replace B := B.trans (za.mono B.size); (try replace r1 := r1.below za); (try replace r2 := r2.below za); have c_r1_0 := r1.cell 0 rfl; have c_r1_1 := r1.cell 1 rfl; have c_r1_2 := r1.cell 2 rfl; have c_r1_3 := r1.cell 3 rfl; have c_r2_0 := r2.cell 0 rfl; have c_r2_1 := r2.cell 1 rfl; have c_r2_2 := r2.cell 2 rfl; have c_r2_3 := r2.cell 3 rfl) | (have _ := r1; refine zt (t := 38) rfl _ rfl _ rfl ?_; intro b_r2 wn zb zd ht za zg; have zf := B.size; replace B := B.trans (za.mono (by omega)); have zk := Nat.lt_of_lt_of_eq (Nat.lt_succ_self _) zg.symm; clear zg; (try have zh := r1.lt); (try replace r1 := r1.below (za.mono zb)); (try have zh := r2.lt); (try replace r2 := r2.below (za.mono zb)); have r2 := ht; clear ht; simp only [zo]) | (refine zt (t := 38) rfl _ rfl _ rfl ?_; intro b_r1 wn zb zd ht za zg; have zf := B.size; replace B := B.trans (za.mono (by omega)); have zk := Nat.lt_of_lt_of_eq (Nat.lt_succ_self _) zg.symm; clear zg; (try have zh := r1.lt); (try replace r1 := r1.below (za.mono zb)); (try have zh := r2.lt); (try replace r2 := r2.below (za.mono zb)); have r1 := ht; clear ht; simp only [zo]) | (refine zp (t := 38) rfl _ rfl _ _ _ rfl (zv r1 Tryz.isAgg38 (by kernel_rfl)) (by rfl) ?_; simp only [zo]) | fail)
   go_ret; exact ⟨rfl, B⟩
 ·rw [show uY ⟨a, b, c, d⟩ = false from by unfold uY; exact decide_eq_false (by simp only; omega)]
  have d0 : decide (-65536 ≤ a) = false := decide_eq_false h0; go_enter Tryz.func162, Tryz.ntmps162
  go_wp2_with (first | (go_at_call 45; refine (xL ⟨a, b, c, d⟩ _).mono ?_; rintro e wn ⟨rfl, za⟩; have zf := B.size; have zg := za.size; replace B := B.trans (za.mono B.size); (try replace r1 := r1.below za); (try replace r2 := r2.below za); have c_r1_0 := r1.cell 0 rfl; have c_r1_1 := r1.cell 1 rfl; have c_r1_2 := r1.cell 2 rfl; have c_r1_3 := r1.cell 3 rfl; have c_r2_0 := r2.cell 0 rfl; have c_r2_1 := r2.cell 1 rfl; have c_r2_2 := r2.cell 2 rfl; have c_r2_3 := r2.cell 3 rfl) | (have _ := r1; refine zt (t := 38) rfl _ rfl _ rfl ?_; intro b_r2 wn zb zd ht za zg; have zf := B.size; replace B := B.trans (za.mono (by omega)); have zk := Nat.lt_of_lt_of_eq (Nat.lt_succ_self _) zg.symm; clear zg; (try have zh := r1.lt); (try replace r1 := r1.below (za.mono zb)); (try have zh := r2.lt); (try replace r2 := r2.below (za.mono zb)); have r2 := ht; clear ht; simp only [zo]) | (refine zt (t := 38) rfl _ rfl _ rfl ?_; intro b_r1 wn zb zd ht za zg; have zf := B.size; replace B := B.trans (za.mono (by omega)); have zk := Nat.lt_of_lt_of_eq (Nat.lt_succ_self _) zg.symm; clear zg; (try have zh := r1.lt); (try replace r1 := r1.below (za.mono zb)); (try have zh := r2.lt); (try replace r2 := r2.below (za.mono zb)); have r1 := ht; clear ht; simp only [zo]) | (refine zp (t := 38) rfl _ rfl _ _ _ rfl (zv r1 Tryz.isAgg38 (by kernel_rfl)) (by rfl) ?_; simp only [zo]) | fail)
  go_ret; exact ⟨rfl, B⟩
theorem wd (r : Rc) (w : World) : Calls Tryz.prog 128 #[Rc.v r] w fun e w' => e = .returned (.bool (j9 r)) ∧ Below w.heap.size w w' := by
 obtain ⟨a, b, c, d⟩ := r
 have B := Below.refl w.heap.size w
 simp only [Rc.v_mk]
 by_cases hE : qn ⟨a, b, c, d⟩ = true
 ·rw [show j9 ⟨a, b, c, d⟩ = false from by unfold j9; rw [hE]; rfl]
  go_enter Tryz.func128, Tryz.ntmps128
  go_wp2_with (first | (go_at_call 45; refine (xL ⟨a, b, c, d⟩ _).mono ?_; rintro e wn ⟨rfl, za⟩; have zf := B.size; have zg := za.size; replace B := B.trans (za.mono B.size); (try replace r1 := r1.below za); have c_r1_0 := r1.cell 0 rfl; have c_r1_1 := r1.cell 1 rfl; have c_r1_2 := r1.cell 2 rfl; have c_r1_3 := r1.cell 3 rfl) | (go_at_call 162; refine (JQ ⟨a, b, c, d⟩ _ hE').mono ?_; rintro e wn ⟨rfl, za⟩; have zf := B.size; have zg := za.size; replace B := B.trans (za.mono B.size); (try replace r1 := r1.below za)) | (refine zt (t := 38) rfl _ rfl _ rfl ?_; intro b_r1 wn zb zd ht za zg; have zf := B.size; replace B := B.trans (za.mono (by omega)); have zk := Nat.lt_of_lt_of_eq (Nat.lt_succ_self _) zg.symm; clear zg; (try have zh := r1.lt); (try replace r1 := r1.below (za.mono zb)); have r1 := ht; clear ht; simp only [zo]) | (refine zp (t := 38) rfl _ rfl _ _ _ rfl (zv r1 Tryz.isAgg38 (by kernel_rfl)) (by rfl) ?_; simp only [zo]) | fail)
  go_ret; exact ⟨rfl, B⟩
 ·have hE' : qn ⟨a, b, c, d⟩ = false := by simpa using hE
  rw [show j9 ⟨a, b, c, d⟩ = uY ⟨a, b, c, d⟩ from by unfold j9; rw [hE']; rfl]
  clear hE; go_enter Tryz.func128, Tryz.ntmps128
  go_wp2_with (first | (go_at_call 45; refine (xL ⟨a, b, c, d⟩ _).mono ?_; rintro e wn ⟨rfl, za⟩; have zf := B.size; have zg := za.size; replace B := B.trans (za.mono B.size); (try replace r1 := r1.below za); have c_r1_0 := r1.cell 0 rfl; have c_r1_1 := r1.cell 1 rfl; have c_r1_2 := r1.cell 2 rfl; have c_r1_3 := r1.cell 3 rfl) | (go_at_call 162; refine (JQ ⟨a, b, c, d⟩ _ hE').mono ?_; rintro e wn ⟨rfl, za⟩; have zf := B.size; have zg := za.size; replace B := B.trans (za.mono B.size); (try replace r1 := r1.below za)) | (refine zt (t := 38) rfl _ rfl _ rfl ?_; intro b_r1 wn zb zd ht za zg; have zf := B.size; replace B := B.trans (za.mono (by omega)); have zk := Nat.lt_of_lt_of_eq (Nat.lt_succ_self _) zg.symm; clear zg; (try have zh := r1.lt); (try replace r1 := r1.below (za.mono zb)); have r1 := ht; clear ht; simp only [zo]) | (refine zp (t := 38) rfl _ rfl _ _ _ rfl (zv r1 Tryz.isAgg38 (by kernel_rfl)) (by rfl) ?_; simp only [zo]) | fail)
  go_ret; exact ⟨rfl, B⟩
theorem zbu (r : Rc) (w : World) (hv : j9 r = true) : Calls Tryz.prog 125 #[Rc.v r] w fun e w' => e = .returned (.int .i64 (vL r)) ∧ Below w.heap.size w w' := by
 have hv2 := (vH r).1 hv
 obtain ⟨a, b, c, d⟩ := r
 simp only at hv2
 obtain ⟨⟨l1, l2⟩, l3, l4, l5, l6⟩ := hv2
 have hE : qn ⟨a, b, c, d⟩ = false := by unfold qn; exact decide_eq_false (by simp only; omega)
 have hm := j5 (a := c - a) (b := d - b) (m := 131072) (k := 131072) (by omega) (by omega) (by omega) (by omega)
 obtain ⟨m1, m2⟩ := hm
 have B := Below.refl w.heap.size w
 rw [show vL ⟨a, b, c, d⟩ = (c - a) * (d - b) from by unfold vL; rw [hE]; rfl]
 clear hv
 simp only [Rc.v_mk]
 go_enter Tryz.func125, Tryz.ntmps125
 go_wp2_with (first | (go_at_call 45; refine (xL ⟨a, b, c, d⟩ _).mono ?_; rintro e wn ⟨rfl, za⟩; have zf := B.size; have zg := za.size; replace B := B.trans (za.mono B.size); (try replace r1 := r1.below za); have c_r1_0 := r1.cell 0 rfl; have c_r1_1 := r1.cell 1 rfl; have c_r1_2 := r1.cell 2 rfl; have c_r1_3 := r1.cell 3 rfl) | (refine zt (t := 38) rfl _ rfl _ rfl ?_; intro b_r1 wn zb zd ht za zg; have zf := B.size; replace B := B.trans (za.mono (by omega)); have zk := Nat.lt_of_lt_of_eq (Nat.lt_succ_self _) zg.symm; clear zg; (try have zh := r1.lt); (try replace r1 := r1.below (za.mono zb)); have r1 := ht; clear ht; simp only [zo]) | (refine zp (t := 38) rfl _ rfl _ _ _ rfl (zv r1 Tryz.isAgg38 (by kernel_rfl)) (by rfl) ?_; simp only [zo]) | fail)
 go_ret
 exact ⟨rfl, B⟩
/-- The error of a requested rectangle. -/
def jL (r : Rc) : Int := if j9 r = true then (if 256 < r.x1 - r.x0 ∨ 256 < r.y1 - r.y0 then 45 else 0) else 1
set_option maxHeartbeats 1000000 in
theorem zbU (r : Rc) (w : World) : Calls Tryz.prog 124 #[Rc.v r] w fun e w' => e = .returned (.int .i64 (jL r)) ∧ Below w.heap.size w w' := by
 have hv2 := (vH r).1
 obtain ⟨a, b, c, d⟩ := r
 have B := Below.refl w.heap.size w
 simp only [Rc.v_mk]
 by_cases hv : j9 ⟨a, b, c, d⟩ = true
 ·obtain ⟨⟨l1, l2⟩, l3, l4, l5, l6⟩ := hv2 hv
  simp only at l1 l2 l3 l4 l5 l6; clear hv2; by_cases h0 : 256 < c - a
  ·rw [show jL ⟨a, b, c, d⟩ = 45 from by unfold jL; rw [if_pos hv, if_pos (by simp only; omega)]]
   have d0 : decide (256 < c - a) = true := decide_eq_true h0; go_enter Tryz.func124, Tryz.ntmps124
   go_wp2_with (first | (go_at_call 128; refine (wd ⟨a, b, c, d⟩ _).mono ?_; rintro e wn ⟨rfl, za⟩; have zf := B.size; have zg := za.size; replace B := B.trans (za.mono B.size); (try replace r1 := r1.below za); have c_r1_0 := r1.cell 0 rfl; have c_r1_1 := r1.cell 1 rfl; have c_r1_2 := r1.cell 2 rfl; have c_r1_3 := r1.cell 3 rfl) | (refine zt (t := 38) rfl _ rfl _ rfl ?_; intro b_r1 wn zb zd ht za zg; have zf := B.size; replace B := B.trans (za.mono (by omega)); have zk := Nat.lt_of_lt_of_eq (Nat.lt_succ_self _) zg.symm; clear zg; (try have zh := r1.lt); (try replace r1 := r1.below (za.mono zb)); have r1 := ht; clear ht; simp only [zo]) | (refine zp (t := 38) rfl _ rfl _ _ _ rfl (zv r1 Tryz.isAgg38 (by kernel_rfl)) (by rfl) ?_; simp only [zo]) | fail)
   go_ret; exact ⟨rfl, B⟩
  ·by_cases h1 : 256 < d - b
   ·rw [show jL ⟨a, b, c, d⟩ = 45 from by unfold jL; rw [if_pos hv, if_pos (by simp only; omega)]]
    have d0 : decide (256 < c - a) = false := decide_eq_false h0; have d1 : decide (256 < d - b) = true := decide_eq_true h1; go_enter Tryz.func124, Tryz.ntmps124
    go_wp2_with (first | (go_at_call 128; refine (wd ⟨a, b, c, d⟩ _).mono ?_; rintro e wn ⟨rfl, za⟩; have zf := B.size; have zg := za.size; replace B := B.trans (za.mono B.size); (try replace r1 := r1.below za); have c_r1_0 := r1.cell 0 rfl; have c_r1_1 := r1.cell 1 rfl; have c_r1_2 := r1.cell 2 rfl; have c_r1_3 := r1.cell 3 rfl) | (refine zt (t := 38) rfl _ rfl _ rfl ?_; intro b_r1 wn zb zd ht za zg; have zf := B.size; replace B := B.trans (za.mono (by omega)); have zk := Nat.lt_of_lt_of_eq (Nat.lt_succ_self _) zg.symm; clear zg; (try have zh := r1.lt); (try replace r1 := r1.below (za.mono zb)); have r1 := ht; clear ht; simp only [zo]) | (refine zp (t := 38) rfl _ rfl _ _ _ rfl (zv r1 Tryz.isAgg38 (by kernel_rfl)) (by rfl) ?_; simp only [zo]) | fail)
    go_ret; exact ⟨rfl, B⟩
   ·rw [show jL ⟨a, b, c, d⟩ = 0 from by unfold jL; rw [if_pos hv, if_neg (by simp only; omega)]]
    have d0 : decide (256 < c - a) = false := decide_eq_false h0; have d1 : decide (256 < d - b) = false := decide_eq_false h1; go_enter Tryz.func124, Tryz.ntmps124
    go_wp2_with (first | (go_at_call 128; refine (wd ⟨a, b, c, d⟩ _).mono ?_; rintro e wn ⟨rfl, za⟩; have zf := B.size; have zg := za.size; replace B := B.trans (za.mono B.size); (try replace r1 := r1.below za); have c_r1_0 := r1.cell 0 rfl; have c_r1_1 := r1.cell 1 rfl; have c_r1_2 := r1.cell 2 rfl; have c_r1_3 := r1.cell 3 rfl) | (refine zt (t := 38) rfl _ rfl _ rfl ?_; intro b_r1 wn zb zd ht za zg; have zf := B.size; replace B := B.trans (za.mono (by omega)); have zk := Nat.lt_of_lt_of_eq (Nat.lt_succ_self _) zg.symm; clear zg; (try have zh := r1.lt); (try replace r1 := r1.below (za.mono zb)); have r1 := ht; clear ht; simp only [zo]) | (refine zp (t := 38) rfl _ rfl _ _ _ rfl (zv r1 Tryz.isAgg38 (by kernel_rfl)) (by rfl) ?_; simp only [zo]) | fail)
    go_ret; exact ⟨rfl, B⟩
 ·rw [show jL ⟨a, b, c, d⟩ = 1 from by unfold jL; rw [if_neg hv]]
  have hv' : j9 ⟨a, b, c, d⟩ = false := by simpa using hv
  clear hv2 hv; go_enter Tryz.func124, Tryz.ntmps124
  go_wp2_with (first | (go_at_call 128; refine (wd ⟨a, b, c, d⟩ _).mono ?_; rintro e wn ⟨rfl, za⟩; have zf := B.size; have zg := za.size; replace B := B.trans (za.mono B.size); (try replace r1 := r1.below za); have c_r1_0 := r1.cell 0 rfl; have c_r1_1 := r1.cell 1 rfl; have c_r1_2 := r1.cell 2 rfl; have c_r1_3 := r1.cell 3 rfl) | (refine zt (t := 38) rfl _ rfl _ rfl ?_; intro b_r1 wn zb zd ht za zg; have zf := B.size; replace B := B.trans (za.mono (by omega)); have zk := Nat.lt_of_lt_of_eq (Nat.lt_succ_self _) zg.symm; clear zg; (try have zh := r1.lt); (try replace r1 := r1.below (za.mono zb)); have r1 := ht; clear ht; simp only [zo]) | (refine zp (t := 38) rfl _ rfl _ _ _ rfl (zv r1 Tryz.isAgg38 (by kernel_rfl)) (by rfl) ?_; simp only [zo]) | fail)
  go_ret; exact ⟨rfl, B⟩
/- Contracts of Intersect and Union of package rect and of its reference; of cmp.Compare, cmp.Or at int; of order, within of package raster, of less, within of its reference. -/
set_option maxHeartbeats 2000000 in
theorem ZL (r s : Rc) (w : World) : Calls Tryz.prog 46 #[Rc.v r, Rc.v s] w fun e w' => e = .returned (Rc.v (yf r s)) ∧ Below w.heap.size w w' := by
 obtain ⟨a, b, c, d⟩ := r
 obtain ⟨a', b', c', d'⟩ := s
 have B := Below.refl w.heap.size w
 have hfin : yf ⟨a, b, c, d⟩ ⟨a', b', c', d'⟩ = kQ ⟨max a a', max b b', min c c', min d d'⟩ := rfl
 rw [hfin]
 clear hfin
 simp only [Rc.v_mk]
 go_enter Tryz.func46, Tryz.ntmps46
 go_wp2_with (first | (refine zq (t := 38) rfl _ _ rfl _ rfl _ rfl r3 (by kernel_rfl) rfl (by simp [Value.oneCell']) (qG B (by omega) ?_); clear r3 B; intro wn r3 ze zf zg B; (try replace r1 := r1.of_eq (ze.block _ r1.lt (by omega))); (try replace r2 := r2.of_eq (ze.block _ r2.lt (by omega))); simp only [zo]) | (go_at_call 105; refine (QC ⟨max a a', max b b', min c c', min d d'⟩ _).mono ?_; rintro e wn ⟨rfl, za⟩; have zf := B.size; have zg := za.size; replace B := B.trans (za.mono B.size); (try replace r1 := r1.below za); (try replace r2 := r2.below za); (try replace r3 := r3.below za)) | (have _ := r2; refine zr (t := 38) rfl _ (zZ _ _ rfl) (zY B ?_); clear B; intro b_r3 wn zb zd r3 za zf zk B; (try have zh := r1.lt); (try replace r1 := r1.below (za.mono zb)); (try have zh := r2.lt); (try replace r2 := r2.below (za.mono zb)); (try have zh := r3.lt); (try replace r3 := r3.below (za.mono zb)); simp only [zo]) | (have _ := r1; refine zt (t := 38) rfl _ rfl _ rfl (zY B ?_); clear B; intro b_r2 wn zb zd r2 za zf zk B; (try have zh := r1.lt); (try replace r1 := r1.below (za.mono zb)); (try have zh := r2.lt); (try replace r2 := r2.below (za.mono zb)); (try have zh := r3.lt); (try replace r3 := r3.below (za.mono zb)); simp only [zo]) | (refine zt (t := 38) rfl _ rfl _ rfl (zY B ?_); clear B; intro b_r1 wn zb zd r1 za zf zk B; (try have zh := r1.lt); (try replace r1 := r1.below (za.mono zb)); (try have zh := r2.lt); (try replace r2 := r2.below (za.mono zb)); (try have zh := r3.lt); (try replace r3 := r3.below (za.mono zb)); simp only [zo]) | (refine zp (t := 3) rfl _ rfl _ _ _ rfl (zu (r1.cell 0 rfl)) (by rfl) ?_; simp only [zo]) | (refine zp (t := 3) rfl _ rfl _ _ _ rfl (zu (r1.cell 1 rfl)) (by rfl) ?_; simp only [zo]) | (refine zp (t := 3) rfl _ rfl _ _ _ rfl (zu (r1.cell 2 rfl)) (by rfl) ?_; simp only [zo]) | (refine zp (t := 3) rfl _ rfl _ _ _ rfl (zu (r1.cell 3 rfl)) (by rfl) ?_; simp only [zo]) | (refine zp (t := 3) rfl _ rfl _ _ _ rfl (zu (r2.cell 0 rfl)) (by rfl) ?_; simp only [zo]) | (refine zp (t := 3) rfl _ rfl _ _ _ rfl (zu (r2.cell 1 rfl)) (by rfl) ?_; simp only [zo]) | (refine zp (t := 3) rfl _ rfl _ _ _ rfl (zu (r2.cell 2 rfl)) (by rfl) ?_; simp only [zo]) | (refine zp (t := 3) rfl _ rfl _ _ _ rfl (zu (r2.cell 3 rfl)) (by rfl) ?_; simp only [zo]) | fail)
 refine bodyPost_ret (zz (t := 38) rfl _ _ (b_r3) rfl r3 Tryz.isAgg38 (by kernel_rfl)) rfl ?_
 exact ⟨rfl, B⟩
theorem yV (a b c d : Int) (w : World) : Calls Tryz.prog 45 #[.agg #[.int .i64 a, .int .i64 b, .int .i64 c, .int .i64 d]] w fun e w' => e = .returned (.bool (qn ⟨a, b, c, d⟩)) ∧ Below w.heap.size w w' := xL ⟨a, b, c, d⟩ w
set_option maxHeartbeats 4000000 in
theorem zdX (r s : Rc) (w : World) : Calls Tryz.prog 61 #[Rc.v r, Rc.v s] w fun e w' => e = .returned (Rc.v (j0 r s)) ∧ Below w.heap.size w w' := by
 obtain ⟨a, b, c, d⟩ := r
 obtain ⟨a', b', c', d'⟩ := s
 have B := Below.refl w.heap.size w
 by_cases h1 : qn ⟨a, b, c, d⟩ = true
 ·rw [show j0 ⟨a, b, c, d⟩ ⟨a', b', c', d'⟩ = kQ ⟨a', b', c', d'⟩ from if_pos h1]
  by_cases h2 : qn ⟨a', b', c', d'⟩ = true
  ·simp only [Rc.v_mk]
   go_enter Tryz.func61, Tryz.ntmps61
   go_wp2_with (first | (refine zq (t := 38) rfl _ _ rfl _ rfl _ rfl r3 (by kernel_rfl) rfl (by simp [Value.oneCell']) (qG B (by omega) ?_); clear r3 B; intro wn r3 ze zf zg B; (try replace r1 := r1.of_eq (ze.block _ r1.lt (by omega))); (try replace r2 := r2.of_eq (ze.block _ r2.lt (by omega))); simp only [zo]) | (go_at_call 105; refine (QC ⟨a', b', c', d'⟩ _).mono ?_; rintro e wn ⟨rfl, za⟩; have zf := B.size; have zg := za.size; replace B := B.trans (za.mono B.size); (try replace r1 := r1.below za); (try replace r2 := r2.below za); (try replace r3 := r3.below za)) | (have _ := r2; refine zr (t := 38) rfl _ (zZ _ _ rfl) (zY B ?_); clear B; intro b_r3 wn zb zd r3 za zf zk B; (try have zh := r1.lt); (try replace r1 := r1.below (za.mono zb)); (try have zh := r2.lt); (try replace r2 := r2.below (za.mono zb)); (try have zh := r3.lt); (try replace r3 := r3.below (za.mono zb)); simp only [zo]) | (have _ := r1; refine zt (t := 38) rfl _ rfl _ rfl (zY B ?_); clear B; intro b_r2 wn zb zd r2 za zf zk B; (try have zh := r1.lt); (try replace r1 := r1.below (za.mono zb)); (try have zh := r2.lt); (try replace r2 := r2.below (za.mono zb)); (try have zh := r3.lt); (try replace r3 := r3.below (za.mono zb)); simp only [zo]) | (refine zt (t := 38) rfl _ rfl _ rfl (zY B ?_); clear B; intro b_r1 wn zb zd r1 za zf zk B; (try have zh := r1.lt); (try replace r1 := r1.below (za.mono zb)); (try have zh := r2.lt); (try replace r2 := r2.below (za.mono zb)); (try have zh := r3.lt); (try replace r3 := r3.below (za.mono zb)); simp only [zo]) | (go_at_call 45; ((with_reducible refine (yV a b c d _).mono ?_)); rintro e wn ⟨rfl, za⟩; have zf := B.size; have zg := za.size; replace B := B.trans (za.mono B.size); (try replace r1 := r1.below za); (try replace r2 := r2.below za); (try replace r3 := r3.below za)) | (go_at_call 45; ((with_reducible refine (yV a' b' c' d' _).mono ?_)); rintro e wn ⟨rfl, za⟩; have zf := B.size; have zg := za.size; replace B := B.trans (za.mono B.size); (try replace r1 := r1.below za); (try replace r2 := r2.below za); (try replace r3 := r3.below za)) | (refine zp (t := 38) rfl _ rfl _ _ _ rfl (zv r1 Tryz.isAgg38 (by kernel_rfl)) (by rfl) ?_; simp only [zo]) | (refine zp (t := 38) rfl _ rfl _ _ _ rfl (zv r2 Tryz.isAgg38 (by kernel_rfl)) (by rfl) ?_; simp only [zo]) | (refine zp (t := 3) rfl _ rfl _ _ _ rfl (zu (r1.cell 0 rfl)) (by rfl) ?_; simp only [zo]) | (refine zp (t := 3) rfl _ rfl _ _ _ rfl (zu (r1.cell 1 rfl)) (by rfl) ?_; simp only [zo]) | (refine zp (t := 3) rfl _ rfl _ _ _ rfl (zu (r1.cell 2 rfl)) (by rfl) ?_; simp only [zo]) | (refine zp (t := 3) rfl _ rfl _ _ _ rfl (zu (r1.cell 3 rfl)) (by rfl) ?_; simp only [zo]) | (refine zp (t := 3) rfl _ rfl _ _ _ rfl (zu (r2.cell 0 rfl)) (by rfl) ?_; simp only [zo]) | (refine zp (t := 3) rfl _ rfl _ _ _ rfl (zu (r2.cell 1 rfl)) (by rfl) ?_; simp only [zo]) | (refine zp (t := 3) rfl _ rfl _ _ _ rfl (zu (r2.cell 2 rfl)) (by rfl) ?_; simp only [zo]) | (refine zp (t := 3) rfl _ rfl _ _ _ rfl (zu (r2.cell 3 rfl)) (by rfl) ?_; simp only [zo]) | fail)
   refine bodyPost_ret (zz (t := 38) rfl _ _ (b_r3) rfl r3 Tryz.isAgg38 (by kernel_rfl)) rfl ?_; exact ⟨rfl, B⟩
  ·have h2' : qn ⟨a', b', c', d'⟩ = false := by simpa using h2
   clear h2; simp only [Rc.v_mk]; go_enter Tryz.func61, Tryz.ntmps61
   go_wp2_with (first | (refine zq (t := 38) rfl _ _ rfl _ rfl _ rfl r3 (by kernel_rfl) rfl (by simp [Value.oneCell']) (qG B (by omega) ?_); clear r3 B; intro wn r3 ze zf zg B; (try replace r1 := r1.of_eq (ze.block _ r1.lt (by omega))); (try replace r2 := r2.of_eq (ze.block _ r2.lt (by omega))); simp only [zo]) | (go_at_call 105; refine (QC ⟨a', b', c', d'⟩ _).mono ?_; rintro e wn ⟨rfl, za⟩; have zf := B.size; have zg := za.size; replace B := B.trans (za.mono B.size); (try replace r1 := r1.below za); (try replace r2 := r2.below za); (try replace r3 := r3.below za)) | (have _ := r2; refine zr (t := 38) rfl _ (zZ _ _ rfl) (zY B ?_); clear B; intro b_r3 wn zb zd r3 za zf zk B; (try have zh := r1.lt); (try replace r1 := r1.below (za.mono zb)); (try have zh := r2.lt); (try replace r2 := r2.below (za.mono zb)); (try have zh := r3.lt); (try replace r3 := r3.below (za.mono zb)); simp only [zo]) | (have _ := r1; refine zt (t := 38) rfl _ rfl _ rfl (zY B ?_); clear B; intro b_r2 wn zb zd r2 za zf zk B; (try have zh := r1.lt); (try replace r1 := r1.below (za.mono zb)); (try have zh := r2.lt); (try replace r2 := r2.below (za.mono zb)); (try have zh := r3.lt); (try replace r3 := r3.below (za.mono zb)); simp only [zo]) | (refine zt (t := 38) rfl _ rfl _ rfl (zY B ?_); clear B; intro b_r1 wn zb zd r1 za zf zk B; (try have zh := r1.lt); (try replace r1 := r1.below (za.mono zb)); (try have zh := r2.lt); (try replace r2 := r2.below (za.mono zb)); (try have zh := r3.lt); (try replace r3 := r3.below (za.mono zb)); simp only [zo]) | (go_at_call 45; ((with_reducible refine (yV a b c d _).mono ?_)); rintro e wn ⟨rfl, za⟩; have zf := B.size; have zg := za.size; replace B := B.trans (za.mono B.size); (try replace r1 := r1.below za); (try replace r2 := r2.below za); (try replace r3 := r3.below za)) | (go_at_call 45; ((with_reducible refine (yV a' b' c' d' _).mono ?_)); rintro e wn ⟨rfl, za⟩; have zf := B.size; have zg := za.size; replace B := B.trans (za.mono B.size); (try replace r1 := r1.below za); (try replace r2 := r2.below za); (try replace r3 := r3.below za)) | (refine zp (t := 38) rfl _ rfl _ _ _ rfl (zv r1 Tryz.isAgg38 (by kernel_rfl)) (by rfl) ?_; simp only [zo]) | (refine zp (t := 38) rfl _ rfl _ _ _ rfl (zv r2 Tryz.isAgg38 (by kernel_rfl)) (by rfl) ?_; simp only [zo]) | (refine zp (t := 3) rfl _ rfl _ _ _ rfl (zu (r1.cell 0 rfl)) (by rfl) ?_; simp only [zo]) | (refine zp (t := 3) rfl _ rfl _ _ _ rfl (zu (r1.cell 1 rfl)) (by rfl) ?_; simp only [zo]) | (refine zp (t := 3) rfl _ rfl _ _ _ rfl (zu (r1.cell 2 rfl)) (by rfl) ?_; simp only [zo]) | (refine zp (t := 3) rfl _ rfl _ _ _ rfl (zu (r1.cell 3 rfl)) (by rfl) ?_; simp only [zo]) | (refine zp (t := 3) rfl _ rfl _ _ _ rfl (zu (r2.cell 0 rfl)) (by rfl) ?_; simp only [zo]) | (refine zp (t := 3) rfl _ rfl _ _ _ rfl (zu (r2.cell 1 rfl)) (by rfl) ?_; simp only [zo]) | (refine zp (t := 3) rfl _ rfl _ _ _ rfl (zu (r2.cell 2 rfl)) (by rfl) ?_; simp only [zo]) | (refine zp (t := 3) rfl _ rfl _ _ _ rfl (zu (r2.cell 3 rfl)) (by rfl) ?_; simp only [zo]) | fail)
   refine bodyPost_ret (zz (t := 38) rfl _ _ (b_r3) rfl r3 Tryz.isAgg38 (by kernel_rfl)) rfl ?_; exact ⟨rfl, B⟩
 ·have h1' : qn ⟨a, b, c, d⟩ = false := by simpa using h1
  by_cases h2 : qn ⟨a', b', c', d'⟩ = true
  ·rw [show j0 ⟨a, b, c, d⟩ ⟨a', b', c', d'⟩ = ⟨a, b, c, d⟩ from by unfold j0; rw [if_neg h1, if_pos h2]]
   clear h1; simp only [Rc.v_mk]; go_enter Tryz.func61, Tryz.ntmps61
   go_wp2_with (first | (refine zq (t := 38) rfl _ _ rfl _ rfl _ rfl r3 (by kernel_rfl) rfl (by simp [Value.oneCell']) (qG B (by omega) ?_); clear r3 B; intro wn r3 ze zf zg B; (try replace r1 := r1.of_eq (ze.block _ r1.lt (by omega))); (try replace r2 := r2.of_eq (ze.block _ r2.lt (by omega))); simp only [zo]) | (go_at_call 105; refine (QC ⟨a', b', c', d'⟩ _).mono ?_; rintro e wn ⟨rfl, za⟩; have zf := B.size; have zg := za.size; replace B := B.trans (za.mono B.size); (try replace r1 := r1.below za); (try replace r2 := r2.below za); (try replace r3 := r3.below za)) | (have _ := r2; refine zr (t := 38) rfl _ (zZ _ _ rfl) (zY B ?_); clear B; intro b_r3 wn zb zd r3 za zf zk B; (try have zh := r1.lt); (try replace r1 := r1.below (za.mono zb)); (try have zh := r2.lt); (try replace r2 := r2.below (za.mono zb)); (try have zh := r3.lt); (try replace r3 := r3.below (za.mono zb)); simp only [zo]) | (have _ := r1; refine zt (t := 38) rfl _ rfl _ rfl (zY B ?_); clear B; intro b_r2 wn zb zd r2 za zf zk B; (try have zh := r1.lt); (try replace r1 := r1.below (za.mono zb)); (try have zh := r2.lt); (try replace r2 := r2.below (za.mono zb)); (try have zh := r3.lt); (try replace r3 := r3.below (za.mono zb)); simp only [zo]) | (refine zt (t := 38) rfl _ rfl _ rfl (zY B ?_); clear B; intro b_r1 wn zb zd r1 za zf zk B; (try have zh := r1.lt); (try replace r1 := r1.below (za.mono zb)); (try have zh := r2.lt); (try replace r2 := r2.below (za.mono zb)); (try have zh := r3.lt); (try replace r3 := r3.below (za.mono zb)); simp only [zo]) | (go_at_call 45; ((with_reducible refine (yV a b c d _).mono ?_)); rintro e wn ⟨rfl, za⟩; have zf := B.size; have zg := za.size; replace B := B.trans (za.mono B.size); (try replace r1 := r1.below za); (try replace r2 := r2.below za); (try replace r3 := r3.below za)) | (go_at_call 45; ((with_reducible refine (yV a' b' c' d' _).mono ?_)); rintro e wn ⟨rfl, za⟩; have zf := B.size; have zg := za.size; replace B := B.trans (za.mono B.size); (try replace r1 := r1.below za); (try replace r2 := r2.below za); (try replace r3 := r3.below za)) | (refine zp (t := 38) rfl _ rfl _ _ _ rfl (zv r1 Tryz.isAgg38 (by kernel_rfl)) (by rfl) ?_; simp only [zo]) | (refine zp (t := 38) rfl _ rfl _ _ _ rfl (zv r2 Tryz.isAgg38 (by kernel_rfl)) (by rfl) ?_; simp only [zo]) | (refine zp (t := 3) rfl _ rfl _ _ _ rfl (zu (r1.cell 0 rfl)) (by rfl) ?_; simp only [zo]) | (refine zp (t := 3) rfl _ rfl _ _ _ rfl (zu (r1.cell 1 rfl)) (by rfl) ?_; simp only [zo]) | (refine zp (t := 3) rfl _ rfl _ _ _ rfl (zu (r1.cell 2 rfl)) (by rfl) ?_; simp only [zo]) | (refine zp (t := 3) rfl _ rfl _ _ _ rfl (zu (r1.cell 3 rfl)) (by rfl) ?_; simp only [zo]) | (refine zp (t := 3) rfl _ rfl _ _ _ rfl (zu (r2.cell 0 rfl)) (by rfl) ?_; simp only [zo]) | (refine zp (t := 3) rfl _ rfl _ _ _ rfl (zu (r2.cell 1 rfl)) (by rfl) ?_; simp only [zo]) | (refine zp (t := 3) rfl _ rfl _ _ _ rfl (zu (r2.cell 2 rfl)) (by rfl) ?_; simp only [zo]) | (refine zp (t := 3) rfl _ rfl _ _ _ rfl (zu (r2.cell 3 rfl)) (by rfl) ?_; simp only [zo]) | fail)
   refine bodyPost_ret (zz (t := 38) rfl _ _ (b_r3) rfl r3 Tryz.isAgg38 (by kernel_rfl)) rfl ?_; exact ⟨rfl, B⟩
  ·have h2' : qn ⟨a', b', c', d'⟩ = false := by simpa using h2
   rw [show j0 ⟨a, b, c, d⟩ ⟨a', b', c', d'⟩ = ⟨min a a', min b b', max c c', max d d'⟩ from by unfold j0; rw [if_neg h1, if_neg h2]]
   clear h1 h2; simp only [Rc.v_mk]; go_enter Tryz.func61, Tryz.ntmps61
   go_wp2_with (first | (refine zq (t := 38) rfl _ _ rfl _ rfl _ rfl r3 (by kernel_rfl) rfl (by simp [Value.oneCell']) (qG B (by omega) ?_); clear r3 B; intro wn r3 ze zf zg B; (try replace r1 := r1.of_eq (ze.block _ r1.lt (by omega))); (try replace r2 := r2.of_eq (ze.block _ r2.lt (by omega))); simp only [zo]) | (go_at_call 105; refine (QC ⟨a', b', c', d'⟩ _).mono ?_; rintro e wn ⟨rfl, za⟩; have zf := B.size; have zg := za.size; replace B := B.trans (za.mono B.size); (try replace r1 := r1.below za); (try replace r2 := r2.below za); (try replace r3 := r3.below za)) | (have _ := r2; refine zr (t := 38) rfl _ (zZ _ _ rfl) (zY B ?_); clear B; intro b_r3 wn zb zd r3 za zf zk B; (try have zh := r1.lt); (try replace r1 := r1.below (za.mono zb)); (try have zh := r2.lt); (try replace r2 := r2.below (za.mono zb)); (try have zh := r3.lt); (try replace r3 := r3.below (za.mono zb)); simp only [zo]) | (have _ := r1; refine zt (t := 38) rfl _ rfl _ rfl (zY B ?_); clear B; intro b_r2 wn zb zd r2 za zf zk B; (try have zh := r1.lt); (try replace r1 := r1.below (za.mono zb)); (try have zh := r2.lt); (try replace r2 := r2.below (za.mono zb)); (try have zh := r3.lt); (try replace r3 := r3.below (za.mono zb)); simp only [zo]) | (refine zt (t := 38) rfl _ rfl _ rfl (zY B ?_); clear B; intro b_r1 wn zb zd r1 za zf zk B; (try have zh := r1.lt); (try replace r1 := r1.below (za.mono zb)); (try have zh := r2.lt); (try replace r2 := r2.below (za.mono zb)); (try have zh := r3.lt); (try replace r3 := r3.below (za.mono zb)); simp only [zo]) | (go_at_call 45; ((with_reducible refine (yV a b c d _).mono ?_)); rintro e wn ⟨rfl, za⟩; have zf := B.size; have zg := za.size; replace B := B.trans (za.mono B.size); (try replace r1 := r1.below za); (try replace r2 := r2.below za); (try replace r3 := r3.below za)) | (go_at_call 45; ((with_reducible refine (yV a' b' c' d' _).mono ?_)); rintro e wn ⟨rfl, za⟩; have zf := B.size; have zg := za.size; replace B := B.trans (za.mono B.size); (try replace r1 := r1.below za); (try replace r2 := r2.below za); (try replace r3 := r3.below za)) | (refine zp (t := 38) rfl _ rfl _ _ _ rfl (zv r1 Tryz.isAgg38 (by kernel_rfl)) (by rfl) ?_; simp only [zo]) | (refine zp (t := 38) rfl _ rfl _ _ _ rfl (zv r2 Tryz.isAgg38 (by kernel_rfl)) (by rfl) ?_; simp only [zo]) | (refine zp (t := 3) rfl _ rfl _ _ _ rfl (zu (r1.cell 0 rfl)) (by rfl) ?_; simp only [zo]) | (refine zp (t := 3) rfl _ rfl _ _ _ rfl (zu (r1.cell 1 rfl)) (by rfl) ?_; simp only [zo]) | (refine zp (t := 3) rfl _ rfl _ _ _ rfl (zu (r1.cell 2 rfl)) (by rfl) ?_; simp only [zo]) | (refine zp (t := 3) rfl _ rfl _ _ _ rfl (zu (r1.cell 3 rfl)) (by rfl) ?_; simp only [zo]) | (refine zp (t := 3) rfl _ rfl _ _ _ rfl (zu (r2.cell 0 rfl)) (by rfl) ?_; simp only [zo]) | (refine zp (t := 3) rfl _ rfl _ _ _ rfl (zu (r2.cell 1 rfl)) (by rfl) ?_; simp only [zo]) | (refine zp (t := 3) rfl _ rfl _ _ _ rfl (zu (r2.cell 2 rfl)) (by rfl) ?_; simp only [zo]) | (refine zp (t := 3) rfl _ rfl _ _ _ rfl (zu (r2.cell 3 rfl)) (by rfl) ?_; simp only [zo]) | fail)
   refine bodyPost_ret (zz (t := 38) rfl _ _ (b_r3) rfl r3 Tryz.isAgg38 (by kernel_rfl)) rfl ?_; exact ⟨rfl, B⟩
/- Contracts of cmp.isNaN, Compare, Or at int; of order, within of package raster; of less, within of its reference. -/
def Zy (x y : Int) : Int := if x < y then -1 else if y < x then 1 else 0
def orI (x y : Int) : Int := if x = 0 then y else x
theorem Kn {x y : Int} (h : x = 0) : orI x y = y := if_pos h
theorem zfR {x y : Int} (h : ¬ x = 0) : orI x y = x := if_neg h
def vo (ax ay bx bv : Int) : Int := orI (Zy ay bv) (Zy ax bx)
theorem Ja (ax ay bx bv : Int) : decide (vo ax ay bx bv < 0) = qQ ax ay bx bv := by
 unfold vo orI Zy qQ
 rw [Bool.eq_iff_iff, decide_eq_true_iff, decide_eq_true_iff]
 split <;> rename_i h <;> repeat' split
 all_goals (repeat' split at h)
 all_goals omega
theorem WX (ax ay bx bv : Int) : decide (vo ax ay bx bv = 0) = xT ax ay bx bv := by
 unfold vo orI Zy xT
 rw [Bool.eq_iff_iff, decide_eq_true_iff, decide_eq_true_iff]
 split <;> rename_i h <;> repeat' split
 all_goals (repeat' split at h)
 all_goals omega
theorem Qt (ax ay bx bv : Int) : decide (0 ≤ vo ax ay bx bv) = !qQ ax ay bx bv := by
 rw [← Ja, Bool.eq_iff_iff]
 simp
theorem Wr (x y : Int) : -1 ≤ Zy x y ∧ Zy x y ≤ 1 := by
 unfold Zy
 repeat' split
 all_goals omega
theorem zeP (ax ay bx bv : Int) : -1 ≤ vo ax ay bx bv ∧ vo ax ay bx bv ≤ 1 := by
 unfold vo orI
 split
 ·exact Wr _ _
 ·exact Wr _ _
theorem Xy (x : Int) (w : World) : Calls Tryz.prog 173 #[.int .i64 x] w fun e w' => e = .returned (.bool false) ∧ w = w' := by
 go_enter Tryz.func173, Tryz.ntmps173
 go_wp2
 go_ret
 exact ⟨rfl, rfl⟩
theorem zao (x y : Int) (w : World) : Calls Tryz.prog 154 #[.int .i64 x, .int .i64 y] w fun e w' => e = .returned (.int .i64 (Zy x y)) ∧ w = w' := by
 by_cases h1 : x < y
 ·rw [show Zy x y = -1 from if_pos h1]
  go_enter Tryz.func154, Tryz.ntmps154
  go_wp2_with ((go_at_call 173; refine (Xy _ _).mono ?_; rintro e w' ⟨rfl, rfl⟩))
  go_ret; exact ⟨rfl, rfl⟩
 ·by_cases h2 : y < x
  ·rw [show Zy x y = 1 from by unfold Zy; rw [if_neg h1, if_pos h2]]
   go_enter Tryz.func154, Tryz.ntmps154
   go_wp2_with ((go_at_call 173; refine (Xy _ _).mono ?_; rintro e w' ⟨rfl, rfl⟩))
   go_ret; exact ⟨rfl, rfl⟩
  ·rw [show Zy x y = 0 from by unfold Zy; rw [if_neg h1, if_neg h2]]
   go_enter Tryz.func154, Tryz.ntmps154
   go_wp2_with ((go_at_call 173; refine (Xy _ _).mono ?_; rintro e w' ⟨rfl, rfl⟩))
   go_ret; exact ⟨rfl, rfl⟩
theorem zgp (x y : Int) (b : Nat) (w : World) (h : zK 3 w b #[.int .i64 x, .int .i64 y]) : Calls Tryz.prog 153 #[.slice (some ⟨b, 0, none⟩) 2 2] w fun e w' => e = .returned (.int .i64 (orI x y)) ∧ w = w' := by
 have c0 := h.cell 0 rfl
 have c1 := h.cell 1 rfl
 clear h
 go_enter Tryz.func153, Tryz.ntmps153
 go_wp2
 go_loopw [8] (fun i wr => ∃ k : Nat, k ≤ 2 ∧ i = .int .i64 k ∧ wr = w ∧ (1 ≤ k → x = 0) ∧ (2 ≤ k → y = 0)) (fun i _ => (2 - intOf i).toNat)
 case atStart => exact ⟨0, by omega, rfl, rfl, by omega, by omega⟩
 case round =>
  obtain ⟨k, hk, rfl, rfl, h1, h2⟩ := hrel; have hc : k = 0 ∨ k = 1 ∨ k = 2 := by omega
  rcases hc with rfl | rfl | rfl
  ·clear h1 h2
   by_cases hx : x = 0
   ·have e1 : (x == 0) = true := by simpa using hx
    have e2 : (x != 0) = false := by simpa using hx
    have H := Lib.hid hx; clear hx; go_wp2; go_roundw
    case rel => exact ⟨1, by omega, rfl, by simp, fun _ => H.out, by omega⟩
    case measure => simp [intOf]
   ·have e1 : (x == 0) = false := by simpa using hx
    have e2 : (x != 0) = true := by simpa using hx
    have H := Lib.hid hx; clear hx; go_wp2; go_ret; exact ⟨by rw [zfR H.out]; rfl, rfl⟩
  ·have H1 := Lib.hid (h1 (by omega))
   clear h1 h2; by_cases hx : y = 0
   ·have e1 : (y == 0) = true := by simpa using hx
    have e2 : (y != 0) = false := by simpa using hx
    have H := Lib.hid hx; clear hx; go_wp2; go_roundw
    case rel => exact ⟨2, by omega, rfl, by simp, fun _ => H1.out, fun _ => H.out⟩
    case measure => simp [intOf]
   ·have e1 : (y == 0) = false := by simpa using hx
    have e2 : (y != 0) = true := by simpa using hx
    have H := Lib.hid hx; clear hx; go_wp2; go_ret; exact ⟨by rw [Kn H1.out]; rfl, rfl⟩
  ·have H1 := Lib.hid (h1 (by omega))
   have H2 := Lib.hid (h2 (by omega)); clear h1 h2; go_wp2; go_ret; exact ⟨by rw [Kn H1.out, H2.out]; rfl, rfl⟩
theorem zdk (w : World) (o : Oper) (x y : Operand) (ho : o.op = .buildSlice 22 2 #[(0, x), (1, y)]) (ev : Operand → Value) (p q : Int) (hx : ev x = .int .i64 p) (hy : ev y = .int .i64 q) : (execOp ev o).run Tryz.prog w = .ok (.value (.slice (some ⟨w.heap.size, 0, none⟩) 2 2)) (w.alloc (.cells #[.int .i64 p, .int .i64 q] 3)) := by
 obtain ⟨d, po, t, ps, af, gd⟩ := o
 simp only at ho
 subst ho
 unfold execOp
 simp only [List.map_toArray, List.map_cons, List.map_nil, hx, hy]
 kernel_rfl
theorem Vd {ops : Array Oper} {rest : List Oper} {o : Oper} {a : Act} {w : World} {Q : Exit → Act → World → Prop} (hg : o.guard = none) (x y : Operand) (ho : o.op = .buildSlice 22 2 #[(0, x), (1, y)]) (p q : Int) (hx : a.eval x = .int .i64 p) (hy : a.eval y = .int .i64 q)
  (h : ∀ b w', w.heap.size ≤ b → b ≤ w.heap.size → zK 3 w' b #[.int .i64 p, .int .i64 q] → Below b w w' → w'.heap.size = b + 1 → wpList Tryz.prog ops Q rest (a.put o.dst (.slice (some ⟨b, 0, none⟩) 2 2)) w') : wpList Tryz.prog ops Q (o :: rest) a w :=
 wpList_plain hg fun K hK => by
  unfold Oper.wp; rw [zdk w o x y ho _ p q hx hy]; exact hK _ _ (h _ _ (Nat.le_refl _) (Nat.le_refl _) (by unfold zK; rw [zO, if_pos rfl]) ((Below.refl _ _).alloc (Nat.le_refl _) _) (World.size_alloc _ _))
theorem kL (ax ay bx bv : Int) (w : World) : Calls Tryz.prog 102 #[Ps.v ax ay, Ps.v bx bv] w fun e w' => e = .returned (.int .i64 (vo ax ay bx bv)) ∧ Below w.heap.size w w' := by
 have B := Below.refl w.heap.size w
 simp only [Ps.v]
 go_enter Tryz.func102, Tryz.ntmps102
 go_wp2_with (first | (have _ := p1; refine zt (t := 95) rfl _ rfl _ rfl (zY B ?_); clear B; intro b_p2 wn zb zd p2 za zf zk B; (try have zh := p1.lt); (try replace p1 := p1.below (za.mono zb)); (try have zh := p2.lt); (try replace p2 := p2.below (za.mono zb)); (try have zh := bs.lt); (try replace bs := bs.below (za.mono zb)); simp only [zo]) | (refine zt (t := 95) rfl _ rfl _ rfl (zY B ?_); clear B; intro b_p1 wn zb zd p1 za zf zk B; (try have zh := p1.lt); (try replace p1 := p1.below (za.mono zb)); (try have zh := p2.lt); (try replace p2 := p2.below (za.mono zb)); (try have zh := bs.lt); (try replace bs := bs.below (za.mono zb)); simp only [zo]) | fail)
 refine qZ 10 (by kernel_rfl) (by kernel_rfl) ?_
 simp only [List.take_succ_cons, List.take_zero, List.drop_succ_cons, List.drop_zero]
 repeat (first | go_big_quiet_skip | (go_big_quiet_want; first | (refine zn (t := 3) rfl _ _ _ rfl (fun w hw => zu ((zB p1 w hw).cell 0 rfl)) (by rfl) ?_; simp only [zo]; go_big_quiet_on) | (refine zn (t := 3) rfl _ _ _ rfl (fun w hw => zu ((zB p1 w hw).cell 1 rfl)) (by rfl) ?_; simp only [zo]; go_big_quiet_on) | (refine zn (t := 3) rfl _ _ _ rfl (fun w hw => zu ((zB p2 w hw).cell 0 rfl)) (by rfl) ?_; simp only [zo]; go_big_quiet_on) | (refine zn (t := 3) rfl _ _ _ rfl (fun w hw => zu ((zB p2 w hw).cell 1 rfl)) (by rfl) ?_; simp only [zo]; go_big_quiet_on) | (go_big_quiet_op; first | go_big_quiet_on | go_big_quiet_call ((first | (go_at_call 154; exact xV (zao _ _ _)))))))
 refine wpQuiet_nil ?_
 intro wn za
 have zf := B.size
 have zg := za.size
 replace B := B.trans (za.mono B.size)
 try replace bs := bs.below za
 go_wp2_with (first | (refine Vd rfl _ _ rfl _ _ rfl rfl (zY B ?_); clear B; intro b_bs wn zb zd bs za zf zk B; (try have zh := p1.lt); (try have zh := p2.lt); (try have zh := bs.lt); (try replace bs := bs.below (za.mono zb)); simp only [zo]) | (go_at_call 153; refine (zgp _ _ _ _ bs).mono ?_; rintro e wq ⟨rfl, rfl⟩) | fail)
 go_ret
 exact ⟨rfl, B⟩
theorem vg (x y : Int) (w : World) : Calls Tryz.prog 99 #[Ps.v x y] w fun e w' => e = .returned (.bool (z8 x y)) ∧ Below w.heap.size w w' := by
 simp only [Ps.v]
 by_cases h0 : -8192 ≤ x
 ·by_cases h1 : x ≤ 8191
  ·by_cases h2 : -8192 ≤ y
   ·by_cases h3 : y ≤ 8191
    ·rw [show z8 x y = true from by unfold z8; exact decide_eq_true (by omega)]
     have d0 : decide (-8192 ≤ x) = true := decide_eq_true h0; have d1 : decide (x ≤ 8191) = true := decide_eq_true h1; have d2 : decide (-8192 ≤ y) = true := decide_eq_true h2; have d3 : decide (y ≤ 8191) = true := decide_eq_true h3; go_enter Tryz.func99, Tryz.ntmps99
     go_wp2; go_ret; exact ⟨rfl, by go_grown⟩
    ·rw [show z8 x y = false from by unfold z8; exact decide_eq_false (by omega)]
     have d0 : decide (-8192 ≤ x) = true := decide_eq_true h0; have d1 : decide (x ≤ 8191) = true := decide_eq_true h1; have d2 : decide (-8192 ≤ y) = true := decide_eq_true h2; have d3 : decide (y ≤ 8191) = false := decide_eq_false h3; go_enter Tryz.func99, Tryz.ntmps99
     go_wp2; go_ret; exact ⟨rfl, by go_grown⟩
   ·rw [show z8 x y = false from by unfold z8; exact decide_eq_false (by omega)]
    have d0 : decide (-8192 ≤ x) = true := decide_eq_true h0; have d1 : decide (x ≤ 8191) = true := decide_eq_true h1; have d2 : decide (-8192 ≤ y) = false := decide_eq_false h2; go_enter Tryz.func99, Tryz.ntmps99
    go_wp2; go_ret; exact ⟨rfl, by go_grown⟩
  ·rw [show z8 x y = false from by unfold z8; exact decide_eq_false (by omega)]
   have d0 : decide (-8192 ≤ x) = true := decide_eq_true h0; have d1 : decide (x ≤ 8191) = false := decide_eq_false h1; go_enter Tryz.func99, Tryz.ntmps99
   go_wp2; go_ret; exact ⟨rfl, by go_grown⟩
 ·rw [show z8 x y = false from by unfold z8; exact decide_eq_false (by omega)]
  have d0 : decide (-8192 ≤ x) = false := decide_eq_false h0; go_enter Tryz.func99, Tryz.ntmps99
  go_wp2; go_ret; exact ⟨rfl, by go_grown⟩
theorem yp (x y : Int) (w : World) : Calls Tryz.prog 157 #[Ps.v x y] w fun e w' => e = .returned (.bool (z8 x y)) ∧ Below w.heap.size w w' := by
 simp only [Ps.v]
 by_cases h0 : -8192 ≤ x
 ·by_cases h1 : x ≤ 8191
  ·by_cases h2 : -8192 ≤ y
   ·by_cases h3 : y ≤ 8191
    ·rw [show z8 x y = true from by unfold z8; exact decide_eq_true (by omega)]
     have d0 : decide (-8192 ≤ x) = true := decide_eq_true h0; have d1 : decide (x ≤ 8191) = true := decide_eq_true h1; have d2 : decide (-8192 ≤ y) = true := decide_eq_true h2; have d3 : decide (y ≤ 8191) = true := decide_eq_true h3; go_enter Tryz.func157, Tryz.ntmps157
     go_wp2; go_ret; exact ⟨rfl, by go_grown⟩
    ·rw [show z8 x y = false from by unfold z8; exact decide_eq_false (by omega)]
     have d0 : decide (-8192 ≤ x) = true := decide_eq_true h0; have d1 : decide (x ≤ 8191) = true := decide_eq_true h1; have d2 : decide (-8192 ≤ y) = true := decide_eq_true h2; have d3 : decide (y ≤ 8191) = false := decide_eq_false h3; go_enter Tryz.func157, Tryz.ntmps157
     go_wp2; go_ret; exact ⟨rfl, by go_grown⟩
   ·rw [show z8 x y = false from by unfold z8; exact decide_eq_false (by omega)]
    have d0 : decide (-8192 ≤ x) = true := decide_eq_true h0; have d1 : decide (x ≤ 8191) = true := decide_eq_true h1; have d2 : decide (-8192 ≤ y) = false := decide_eq_false h2; go_enter Tryz.func157, Tryz.ntmps157
    go_wp2; go_ret; exact ⟨rfl, by go_grown⟩
  ·rw [show z8 x y = false from by unfold z8; exact decide_eq_false (by omega)]
   have d0 : decide (-8192 ≤ x) = true := decide_eq_true h0; have d1 : decide (x ≤ 8191) = false := decide_eq_false h1; go_enter Tryz.func157, Tryz.ntmps157
   go_wp2; go_ret; exact ⟨rfl, by go_grown⟩
 ·rw [show z8 x y = false from by unfold z8; exact decide_eq_false (by omega)]
  have d0 : decide (-8192 ≤ x) = false := decide_eq_false h0; go_enter Tryz.func157, Tryz.ntmps157
  go_wp2; go_ret; exact ⟨rfl, by go_grown⟩
theorem vx (ax ay bx bv : Int) (w : World) : Calls Tryz.prog 170 #[Ps.v ax ay, Ps.v bx bv] w fun e w' => e = .returned (.bool (qQ ax ay bx bv)) ∧ Below w.heap.size w w' := by
 simp only [Ps.v]
 by_cases h1 : ay < bv
 ·rw [show qQ ax ay bx bv = true from decide_eq_true (Or.inl h1)]
  have d1 : decide (ay < bv) = true := decide_eq_true h1; go_enter Tryz.func170, Tryz.ntmps170
  go_wp2; go_ret; exact ⟨rfl, by go_grown⟩
 ·have d1 : decide (ay < bv) = false := decide_eq_false h1
  by_cases h2 : ay = bv
  ·subst h2
   by_cases h3 : ax < bx
   ·rw [show qQ ax ay bx ay = true from decide_eq_true (Or.inr ⟨rfl, h3⟩)]
    have d3 : decide (ax < bx) = true := decide_eq_true h3; go_enter Tryz.func170, Tryz.ntmps170
    go_wp2; go_ret; exact ⟨rfl, by go_grown⟩
   ·rw [show qQ ax ay bx ay = false from decide_eq_false (by omega)]
    have d3 : decide (ax < bx) = false := decide_eq_false h3; go_enter Tryz.func170, Tryz.ntmps170
    go_wp2; go_ret; exact ⟨rfl, by go_grown⟩
  ·rw [show qQ ax ay bx bv = false from decide_eq_false (by omega)]
   have d2 : (ay == bv) = false := by simpa using h2
   go_enter Tryz.func170, Tryz.ntmps170
   go_wp2; go_ret; exact ⟨rfl, by go_grown⟩
/- Arms for rasters: boxed rasters, tiles at a position, rows of them; contracts of Valid of package raster and of its reference. -/
theorem zK.cell0 {t : TypeId} {w : World} {b : Nat} {v : Value} (h : zK t w b #[v]) : w.cell? ⟨b, 0, none⟩ = some v := h.cell 0 rfl
theorem zx {w : World} {b j : Nat} {v : Value} (h : w.cell? ⟨b, j, none⟩ = some v) : (Instr.loadAt 62 (.pointer (some ⟨b, j, none⟩))).run Tryz.prog w = .ok v w := by
 simp [go_sem, h]
/-- Loaded from cells that are known one by one. -/
theorem xF {w : World} {b off : Nat} {cs : Array Value} {t : TypeId} (hagg : ∀ w : World, (isAgg t).run Tryz.prog w = .ok true w)
  (zf : (Tryz.prog.info? t).map (·.size) = some cs.size) (hc : ∀ j, j < cs.size → w.cell? ⟨b, off + j, none⟩ = cs[j]?) : (Instr.loadAt t (.pointer (some ⟨b, off, none⟩))).run Tryz.prog w = .ok (.agg cs) w := by
 simp only [Instr.loadAt, Instr.sureAddr, Sem.run_bind, Sem.run_pure, Result.andThen_ok]
 have hl : (loadCells ⟨b, off, none⟩ cs.toList.length).run Tryz.prog w = .ok cs.toList.toArray w :=
  run_loadCells_list (P := Tryz.prog) w ⟨b, off, none⟩ cs.toList (fun j v hv => by
   have hadd : (⟨b, off, none⟩ : Addr).add j = ⟨b, off + j, none⟩ := by unfold Addr.add; split <;> simp_all
   have hj : j < cs.size := by
    have := (List.getElem?_eq_some_iff.1 hv).1; rw [Array.length_toList] at this; exact this
   rw [hadd, hc j hj]
   simpa using hv)
 cases hq : Tryz.prog.info? t with
 | none => rw [hq] at zf; cases zf
 | some i =>
  have he : i.size = cs.size := by rw [hq] at zf; simpa using zf
  rw [Array.length_toList] at hl; simp only [Array.toArray_toList] at hl; simp only [loadVar, Sem.run_bind, hagg w, sizeOf, typeInfo, hq, he, hl, run_program, Result.andThen_ok, if_true, Sem.run_pure]
theorem zac (e : TA) : (Tryz.prog.info? 125).map (·.size) = some (xX e).size := by rw [zS]; kernel_rfl
theorem Kt (x y : Int) : (Tryz.prog.info? 95).map (·.size) = some (#[Value.int .i64 x, .int .i64 y] : Array Value).size := by kernel_rfl
section
variable {w : World} {b g o i : Nat} {e : TA} {ls : List TA}
theorem yD (h : zK 125 w b (xX e)) : (Instr.loadAt 95 (.pointer (some ⟨b, 0, none⟩))).run Tryz.prog w = .ok (Ps.v e.x e.y) w :=
 xF Tryz.isAgg95 (Kt _ _) (fun j hj => by
  have hj : j < 2 := hj; have hc : j = 0 ∨ j = 1 := by omega
  rcases hc with rfl | rfl
  ·exact h.cell 0 (Xl e)
  ·exact h.cell 1 (K0 e))
theorem qW (h : zK 125 w b (xX e)) : (Instr.loadAt 123 (.pointer (some ⟨b, 2, none⟩))).run Tryz.prog w = .ok (Tile.v e.t) w :=
 wB h 2 Tryz.isAgg123 (vu _) (fun j hj => zab e j)
theorem xq (h : qt g o ls w) (hi : i < ls.length) (he : aT ls i = e) : (Instr.loadAt 125 (.pointer (some ⟨g, o + i * 258, none⟩))).run Tryz.prog w = .ok (.agg (xX e)) w :=
 xF Tryz.isAgg125 (zac _) (fun j hj => by
  rw [zS] at hj; rw [← he, Nat.add_assoc]; exact h.2 i hi j hj)
theorem qj (h : qt g o ls w) (hi : i < ls.length) (he : aT ls i = e) : (Instr.loadAt 95 (.pointer (some ⟨g, o + i * 258, none⟩))).run Tryz.prog w = .ok (Ps.v e.x e.y) w :=
 xF Tryz.isAgg95 (Kt _ _) (fun j hj => by
  have hj : j < 2 := hj; have hc : j = 0 ∨ j = 1 := by omega
  subst he; rcases hc with rfl | rfl
  ·exact h.x hi
  ·exact h.y hi)
theorem jA (h : qt g o ls w) (hi : i < ls.length) (he : aT ls i = e) : (Instr.loadAt 123 (.pointer (some ⟨g, o + i * 258 + 2, none⟩))).run Tryz.prog w = .ok (Tile.v e.t) w :=
 xF Tryz.isAgg123 (vu _) (fun j hj => by
  rw [jN] at hj; subst he; exact h.t hi hj)
theorem z7 (h : qt g o ls w) : ∀ w', (∃ u, w' = ov w u) → qt g o ls w' := by
 rintro w' ⟨u, rfl⟩
 exact h.of_eq ((qS w u).block _ h.lt)
end
def zTA : Array Value := #[.int .i64 0, .int .i64 0] ++ Array.replicate 256 (.int .u8 0)
theorem jl : zTA.size = 258 := by unfold zTA; rw [Array.size_append, Array.size_replicate]; rfl
theorem xj (e : TA) : (xX e).all (·.oneCell') = true := by
 rw [← Array.all_toList]
 exact List.all_eq_true.2 (Z3 e)
theorem qK (w : World) (o : Oper) (ho : o.op = .alloc 125) (ev : Operand → Value) : (execOp ev o).run Tryz.prog w = .ok (.value (.pointer (some ⟨w.heap.size, 0, none⟩))) (w.alloc (.cells zTA 125)) := by
 obtain ⟨d, p, t, ps, af, gd⟩ := o
 simp only at ho
 subst ho
 kernel_rfl
attribute [irreducible] zTA
theorem Z1 {ls : List TA} {k : Nat} {x y : Int} {t : Nat → Px} (he : aT ls k = ⟨x, y, t⟩) (h : z8 x y = false) : yB ls k = false := by
 unfold yB ka; rw [he, h]; rfl
theorem Xk {ls : List TA} {k : Nat} {x y : Int} {t : Nat → Px} (he : aT ls k = ⟨x, y, t⟩) (h : jh t = true) : yB ls k = false := by
 unfold yB ka; rw [he, h]; simp
theorem Ju {ls : List TA} {k : Nat} {x y : Int} {t : Nat → Px} (he : aT ls k = ⟨x, y, t⟩) (h : kO (qF t) t = false) : yB ls k = false := by
 unfold yB ka; rw [he, h]; simp
theorem Jv {ls : List TA} {x y : Int} {t : Nat → Px} (he : aT ls 0 = ⟨x, y, t⟩) (h1 : z8 x y = true) (h2 : jh t = false) (h3 : kO (qF t) t = true) : yB ls 0 = true := by
 unfold yB ka; rw [he, h1, h2, h3]; rfl
theorem Xj {ls : List TA} {k : Nat} {x y x' y' : Int} {t t' : Nat → Px} (hk : 0 < k) (he : aT ls k = ⟨x, y, t⟩) (he' : aT ls (k - 1) = ⟨x', y', t'⟩) (h1 : z8 x y = true) (h2 : jh t = false) (h3 : kO (qF t) t = true) : yB ls k = qQ x' y' x y := by
 unfold yB ka yr; rw [he, he', h1, h2, h3, decide_eq_false (by omega)]; simp
set_option maxHeartbeats 4000000 in
theorem Xx (v : Value) (ls : List TA) (w : World) (h : RS v ls w) (tk : qN ls) (hn : ls.length ≤ maxLen) : Calls Tryz.prog 41 #[.agg #[v]] w fun e w' => e = .returned (.bool (z2 ls)) ∧ Below w.heap.size w w' := by
 unfold maxLen at hn
 obtain ⟨a, c, rfl, hc⟩ := h.len
 have B := Below.refl w.heap.size w
 have HS := Lib.hid h
 have HK := Lib.hid tk
 clear h tk
 by_cases hbig : 1024 < ls.length
 ·rw [Jz hbig]
  have d1 : decide (1024 < (ls.length : Int)) = true := decide_eq_true (by omega); go_enter Tryz.func41, Tryz.ntmps41
  go_wp2_with (first | (refine zp (t := 62) rfl _ rfl _ _ _ rfl (zx r1.cell0) (by rfl) ?_; simp only [zo]) | (refine zt (t := 64) rfl _ rfl _ rfl (zY B ?_); clear B; intro b_r1 wn zb zd r1 za zf zk B; (try have zh := r1.lt); (try replace r1 := r1.below (za.mono zb)); (try have zh := t1.lt); (try replace t1 := t1.below (za.mono zb)); (try have zh := rc.lt); (try replace rc := rc.below (za.mono zb)); simp only [zo]) | fail)
  go_ret; exact ⟨rfl, B⟩
 ·have d1 : decide (1024 < (ls.length : Int)) = false := decide_eq_false (by omega)
  go_enter Tryz.func41, Tryz.ntmps41
  go_wp2_with (first | (refine zp (t := 62) rfl _ rfl _ _ _ rfl (zx r1.cell0) (by rfl) ?_; simp only [zo]) | (refine zt (t := 64) rfl _ rfl _ rfl (zY B ?_); clear B; intro b_r1 wn zb zd r1 za zf zk B; (try have zh := r1.lt); (try replace r1 := r1.below (za.mono zb)); (try have zh := t1.lt); (try replace t1 := t1.below (za.mono zb)); (try have zh := rc.lt); (try replace rc := rc.below (za.mono zb)); simp only [zo]) | fail)
  clear d1; have hr1 := r1.lt; go_loopw [3, 4, 12] (fun _ _ i wr => ∃ k : Nat, k ≤ ls.length ∧ i = .int .i64 k ∧ Below w.heap.size w wr ∧ wn.heap.size ≤ wr.heap.size ∧ zK 64 wr b_r1 #[.slice a ls.length c] ∧ ∀ j, j < k → yB ls j = true) (fun _ _ i _ => (ls.length - intOf i).toNat)
  case atStart => exact ⟨0, by omega, rfl, B, Nat.le_refl _, r1, fun j hj => by omega⟩
  case round =>
   clear B r1; obtain ⟨k, hk, rfl, B, hwn, r1, hst⟩ := hrel; have Hst := Lib.hid hst; clear hst; by_cases hkl : k < ls.length
   ·obtain ⟨g, o, rfl, rc0⟩ := HS.out.at (by omega)
    have hg0 := rc0.lt; have rc := rc0.of_eq (B.block _ rc0.lt); clear rc0; obtain ⟨⟨x, y, t⟩, he⟩ : ∃ e, aT ls k = e := ⟨_, rfl⟩; have htk : Zr t := by have := HK.out.at hkl; rw [he] at this; exact this
    have HT := Lib.hid htk; obtain ⟨⟨x', y', t'⟩, he'⟩ : ∃ e, aT ls (k - 1) = e := ⟨_, rfl⟩; have hk1 : k - 1 < ls.length := by omega
    have dlt : decide ((k : Int) < (ls.length : Int)) = true := decide_eq_true (by omega); have hneq : ∀ w, (binOp .neq 123 (Tile.v (qF t)) (Tile.v t)).run Tryz.prog w = .ok (.bool (!kO (qF t) t)) w := fun w => Q7 _ _ w
    cases h1 : z8 x y with
    | false =>
     have E := Lib.hid (Z1 he h1); go_wp2_with (first | (refine zq (t := 125) rfl _ _ rfl _ rfl _ rfl t1 (by rw [zS]; kernel_rfl) (by simp only [zS, jl]) (xj _) (qG B (by omega) ?_); clear t1 B; intro wn t1 ze zf zg B; (try replace r1 := r1.of_eq (ze.block _ r1.lt (by omega))); (try replace rc := rc.of_eq (ze.block _ rc.lt (by omega))); simp only [zo]) | (refine zr (t := 125) rfl _ (qK _ _ rfl) (zY B ?_); clear B; intro b_t1 wn zb zd t1 za zf zk B; (try have zh := r1.lt); (try replace r1 := r1.below (za.mono zb)); (try have zh := t1.lt); (try replace t1 := t1.below (za.mono zb)); (try have zh := rc.lt); (try replace rc := rc.below (za.mono zb)); simp only [zo]) | (refine zp (t := 125) rfl _ rfl _ _ _ rfl (xq rc hkl he) (by first | rfl | omega) ?_; simp only [zo]) | (refine zp (t := 62) rfl _ rfl _ _ _ rfl (zx r1.cell0) (by rfl) ?_; simp only [zo]) | fail)
     refine zA (by kernel_rfl) (by kernel_rfl) ?_; repeat (first | go_big_quiet_skip | (go_big_quiet_want; first | (refine zn (t := 95) rfl _ _ _ rfl (fun w hw => yD (zB t1 w hw)) (by first | rfl | omega) ?_; simp only [zo]; go_big_quiet_on) | (refine zn (t := 123) rfl _ _ _ rfl (fun w hw => qW (zB t1 w hw)) (by first | rfl | omega) ?_; simp only [zo]; go_big_quiet_on) | (refine zn (t := 62) rfl _ _ _ rfl (fun w hw => zx (zB r1 w hw).cell0) (by rfl) ?_; simp only [zo]; go_big_quiet_on) | (refine zn (t := 95) rfl _ _ _ rfl (fun w hw => qj (z7 rc w hw) hk1 he') (by first | rfl | omega) ?_; simp only [zo]; go_big_quiet_on) | (go_big_quiet_op; first | go_big_quiet_on | go_big_quiet_call ((first | (go_at_call 99; exact zC (vg _ _ _)) | (go_at_call 100; exact zC (yn _ _ htk)) | (go_at_call 101; exact zC (yJ _ _ htk)) | (go_at_call 102; exact zC (kL _ _ _ _ _)))))))
     refine wpQuiet_nil ?_; intro wn za; have zf := B.size; have zg := za.size; replace B := B.trans (za.mono B.size); try replace r1 := r1.below za
     try replace t1 := t1.below za
     try replace rc := rc.below za
     go_wp2; go_ret; exact ⟨by rw [yj hkl E.out]; try rfl, B⟩
    | true =>
     cases h2 : jh t with
     | true =>
      have E := Lib.hid (Xk he h2); go_wp2_with (first | (refine zq (t := 125) rfl _ _ rfl _ rfl _ rfl t1 (by rw [zS]; kernel_rfl) (by simp only [zS, jl]) (xj _) (qG B (by omega) ?_); clear t1 B; intro wn t1 ze zf zg B; (try replace r1 := r1.of_eq (ze.block _ r1.lt (by omega))); (try replace rc := rc.of_eq (ze.block _ rc.lt (by omega))); simp only [zo]) | (refine zr (t := 125) rfl _ (qK _ _ rfl) (zY B ?_); clear B; intro b_t1 wn zb zd t1 za zf zk B; (try have zh := r1.lt); (try replace r1 := r1.below (za.mono zb)); (try have zh := t1.lt); (try replace t1 := t1.below (za.mono zb)); (try have zh := rc.lt); (try replace rc := rc.below (za.mono zb)); simp only [zo]) | (refine zp (t := 125) rfl _ rfl _ _ _ rfl (xq rc hkl he) (by first | rfl | omega) ?_; simp only [zo]) | (refine zp (t := 62) rfl _ rfl _ _ _ rfl (zx r1.cell0) (by rfl) ?_; simp only [zo]) | fail)
      refine zA (by kernel_rfl) (by kernel_rfl) ?_; repeat (first | go_big_quiet_skip | (go_big_quiet_want; first | (refine zn (t := 95) rfl _ _ _ rfl (fun w hw => yD (zB t1 w hw)) (by first | rfl | omega) ?_; simp only [zo]; go_big_quiet_on) | (refine zn (t := 123) rfl _ _ _ rfl (fun w hw => qW (zB t1 w hw)) (by first | rfl | omega) ?_; simp only [zo]; go_big_quiet_on) | (refine zn (t := 62) rfl _ _ _ rfl (fun w hw => zx (zB r1 w hw).cell0) (by rfl) ?_; simp only [zo]; go_big_quiet_on) | (refine zn (t := 95) rfl _ _ _ rfl (fun w hw => qj (z7 rc w hw) hk1 he') (by first | rfl | omega) ?_; simp only [zo]; go_big_quiet_on) | (go_big_quiet_op; first | go_big_quiet_on | go_big_quiet_call ((first | (go_at_call 99; exact zC (vg _ _ _)) | (go_at_call 100; exact zC (yn _ _ htk)) | (go_at_call 101; exact zC (yJ _ _ htk)) | (go_at_call 102; exact zC (kL _ _ _ _ _)))))))
      refine wpQuiet_nil ?_; intro wn za; have zf := B.size; have zg := za.size; replace B := B.trans (za.mono B.size); try replace r1 := r1.below za
      try replace t1 := t1.below za
      try replace rc := rc.below za
      go_wp2; go_ret; exact ⟨by rw [yj hkl E.out]; try rfl, B⟩
     | false =>
      cases h3 : kO (qF t) t with
      | false =>
       have E := Lib.hid (Ju he h3); go_wp2_with (first | (refine zq (t := 125) rfl _ _ rfl _ rfl _ rfl t1 (by rw [zS]; kernel_rfl) (by simp only [zS, jl]) (xj _) (qG B (by omega) ?_); clear t1 B; intro wn t1 ze zf zg B; (try replace r1 := r1.of_eq (ze.block _ r1.lt (by omega))); (try replace rc := rc.of_eq (ze.block _ rc.lt (by omega))); simp only [zo]) | (refine zr (t := 125) rfl _ (qK _ _ rfl) (zY B ?_); clear B; intro b_t1 wn zb zd t1 za zf zk B; (try have zh := r1.lt); (try replace r1 := r1.below (za.mono zb)); (try have zh := t1.lt); (try replace t1 := t1.below (za.mono zb)); (try have zh := rc.lt); (try replace rc := rc.below (za.mono zb)); simp only [zo]) | (refine zp (t := 125) rfl _ rfl _ _ _ rfl (xq rc hkl he) (by first | rfl | omega) ?_; simp only [zo]) | (refine zp (t := 62) rfl _ rfl _ _ _ rfl (zx r1.cell0) (by rfl) ?_; simp only [zo]) | fail)
       refine zA (by kernel_rfl) (by kernel_rfl) ?_; repeat (first | go_big_quiet_skip | (go_big_quiet_want; first | (refine zn (t := 95) rfl _ _ _ rfl (fun w hw => yD (zB t1 w hw)) (by first | rfl | omega) ?_; simp only [zo]; go_big_quiet_on) | (refine zn (t := 123) rfl _ _ _ rfl (fun w hw => qW (zB t1 w hw)) (by first | rfl | omega) ?_; simp only [zo]; go_big_quiet_on) | (refine zn (t := 62) rfl _ _ _ rfl (fun w hw => zx (zB r1 w hw).cell0) (by rfl) ?_; simp only [zo]; go_big_quiet_on) | (refine zn (t := 95) rfl _ _ _ rfl (fun w hw => qj (z7 rc w hw) hk1 he') (by first | rfl | omega) ?_; simp only [zo]; go_big_quiet_on) | (go_big_quiet_op; first | go_big_quiet_on | go_big_quiet_call ((first | (go_at_call 99; exact zC (vg _ _ _)) | (go_at_call 100; exact zC (yn _ _ htk)) | (go_at_call 101; exact zC (yJ _ _ htk)) | (go_at_call 102; exact zC (kL _ _ _ _ _)))))))
       refine wpQuiet_nil ?_; intro wn za; have zf := B.size; have zg := za.size; replace B := B.trans (za.mono B.size); try replace r1 := r1.below za
       try replace t1 := t1.below za
       try replace rc := rc.below za
       go_wp2; go_ret; exact ⟨by rw [yj hkl E.out]; try rfl, B⟩
      | true =>
       by_cases hk0 : 0 < k
       ·have E := Lib.hid (Xj hk0 he he' h1 h2 h3)
        have d3 : decide ((0 : Int) < (k : Int)) = true := decide_eq_true (by omega); have d4 : decide (0 < k) = true := decide_eq_true hk0; cases h4 : qQ x' y' x y with
        | false =>
         have hO : decide (0 ≤ vo x' y' x y) = true := by rw [Qt, h4]; rfl
         go_wp2_with (first | (refine zq (t := 125) rfl _ _ rfl _ rfl _ rfl t1 (by rw [zS]; kernel_rfl) (by simp only [zS, jl]) (xj _) (qG B (by omega) ?_); clear t1 B; intro wn t1 ze zf zg B; (try replace r1 := r1.of_eq (ze.block _ r1.lt (by omega))); (try replace rc := rc.of_eq (ze.block _ rc.lt (by omega))); simp only [zo]) | (refine zr (t := 125) rfl _ (qK _ _ rfl) (zY B ?_); clear B; intro b_t1 wn zb zd t1 za zf zk B; (try have zh := r1.lt); (try replace r1 := r1.below (za.mono zb)); (try have zh := t1.lt); (try replace t1 := t1.below (za.mono zb)); (try have zh := rc.lt); (try replace rc := rc.below (za.mono zb)); simp only [zo]) | (refine zp (t := 125) rfl _ rfl _ _ _ rfl (xq rc hkl he) (by first | rfl | omega) ?_; simp only [zo]) | (refine zp (t := 62) rfl _ rfl _ _ _ rfl (zx r1.cell0) (by rfl) ?_; simp only [zo]) | fail)
         refine zA (by kernel_rfl) (by kernel_rfl) ?_; repeat (first | go_big_quiet_skip | (go_big_quiet_want; first | (refine zn (t := 95) rfl _ _ _ rfl (fun w hw => yD (zB t1 w hw)) (by first | rfl | omega) ?_; simp only [zo]; go_big_quiet_on) | (refine zn (t := 123) rfl _ _ _ rfl (fun w hw => qW (zB t1 w hw)) (by first | rfl | omega) ?_; simp only [zo]; go_big_quiet_on) | (refine zn (t := 62) rfl _ _ _ rfl (fun w hw => zx (zB r1 w hw).cell0) (by rfl) ?_; simp only [zo]; go_big_quiet_on) | (refine zn (t := 95) rfl _ _ _ rfl (fun w hw => qj (z7 rc w hw) hk1 he') (by first | rfl | omega) ?_; simp only [zo]; go_big_quiet_on) | (go_big_quiet_op; first | go_big_quiet_on | go_big_quiet_call ((first | (go_at_call 99; exact zC (vg _ _ _)) | (go_at_call 100; exact zC (yn _ _ htk)) | (go_at_call 101; exact zC (yJ _ _ htk)) | (go_at_call 102; exact zC (kL _ _ _ _ _)))))))
         refine wpQuiet_nil ?_; intro wn za; have zf := B.size; have zg := za.size; replace B := B.trans (za.mono B.size); try replace r1 := r1.below za
         try replace t1 := t1.below za
         try replace rc := rc.below za
         go_wp2; go_ret; exact ⟨by rw [yj hkl (E.out.trans h4)]; try rfl, B⟩
        | true =>
         have hO : decide (0 ≤ vo x' y' x y) = false := by rw [Qt, h4]; rfl
         go_wp2_with (first | (refine zq (t := 125) rfl _ _ rfl _ rfl _ rfl t1 (by rw [zS]; kernel_rfl) (by simp only [zS, jl]) (xj _) (qG B (by omega) ?_); clear t1 B; intro wn t1 ze zf zg B; (try replace r1 := r1.of_eq (ze.block _ r1.lt (by omega))); (try replace rc := rc.of_eq (ze.block _ rc.lt (by omega))); simp only [zo]) | (refine zr (t := 125) rfl _ (qK _ _ rfl) (zY B ?_); clear B; intro b_t1 wn zb zd t1 za zf zk B; (try have zh := r1.lt); (try replace r1 := r1.below (za.mono zb)); (try have zh := t1.lt); (try replace t1 := t1.below (za.mono zb)); (try have zh := rc.lt); (try replace rc := rc.below (za.mono zb)); simp only [zo]) | (refine zp (t := 125) rfl _ rfl _ _ _ rfl (xq rc hkl he) (by first | rfl | omega) ?_; simp only [zo]) | (refine zp (t := 62) rfl _ rfl _ _ _ rfl (zx r1.cell0) (by rfl) ?_; simp only [zo]) | fail)
         refine zA (by kernel_rfl) (by kernel_rfl) ?_; repeat (first | go_big_quiet_skip | (go_big_quiet_want; first | (refine zn (t := 95) rfl _ _ _ rfl (fun w hw => yD (zB t1 w hw)) (by first | rfl | omega) ?_; simp only [zo]; go_big_quiet_on) | (refine zn (t := 123) rfl _ _ _ rfl (fun w hw => qW (zB t1 w hw)) (by first | rfl | omega) ?_; simp only [zo]; go_big_quiet_on) | (refine zn (t := 62) rfl _ _ _ rfl (fun w hw => zx (zB r1 w hw).cell0) (by rfl) ?_; simp only [zo]; go_big_quiet_on) | (refine zn (t := 95) rfl _ _ _ rfl (fun w hw => qj (z7 rc w hw) hk1 he') (by first | rfl | omega) ?_; simp only [zo]; go_big_quiet_on) | (go_big_quiet_op; first | go_big_quiet_on | go_big_quiet_call ((first | (go_at_call 99; exact zC (vg _ _ _)) | (go_at_call 100; exact zC (yn _ _ htk)) | (go_at_call 101; exact zC (yJ _ _ htk)) | (go_at_call 102; exact zC (kL _ _ _ _ _)))))))
         refine wpQuiet_nil ?_; intro wn za; have zf := B.size; have zg := za.size; replace B := B.trans (za.mono B.size); try replace r1 := r1.below za
         try replace t1 := t1.below za
         try replace rc := rc.below za
         go_wp2; go_roundw
         case rel => exact ⟨k + 1, by omega, by go_num, B, by omega, r1, fun j hj => by
          by_cases e : j = k
          ·rw [e, E.out, h4]
          ·exact Hst.out j (by omega)⟩
         case measure => simp [intOf]; omega
       ·obtain rfl : k = 0 := by omega
        have E := Lib.hid (Jv he h1 h2 h3); go_wp2_with (first | (refine zq (t := 125) rfl _ _ rfl _ rfl _ rfl t1 (by rw [zS]; kernel_rfl) (by simp only [zS, jl]) (xj _) (qG B (by omega) ?_); clear t1 B; intro wn t1 ze zf zg B; (try replace r1 := r1.of_eq (ze.block _ r1.lt (by omega))); (try replace rc := rc.of_eq (ze.block _ rc.lt (by omega))); simp only [zo]) | (refine zr (t := 125) rfl _ (qK _ _ rfl) (zY B ?_); clear B; intro b_t1 wn zb zd t1 za zf zk B; (try have zh := r1.lt); (try replace r1 := r1.below (za.mono zb)); (try have zh := t1.lt); (try replace t1 := t1.below (za.mono zb)); (try have zh := rc.lt); (try replace rc := rc.below (za.mono zb)); simp only [zo]) | (refine zp (t := 125) rfl _ rfl _ _ _ rfl (xq rc hkl he) (by first | rfl | omega) ?_; simp only [zo]) | (refine zp (t := 62) rfl _ rfl _ _ _ rfl (zx r1.cell0) (by rfl) ?_; simp only [zo]) | fail)
        refine zA (by kernel_rfl) (by kernel_rfl) ?_; repeat (first | go_big_quiet_skip | (go_big_quiet_want; first | (refine zn (t := 95) rfl _ _ _ rfl (fun w hw => yD (zB t1 w hw)) (by first | rfl | omega) ?_; simp only [zo]; go_big_quiet_on) | (refine zn (t := 123) rfl _ _ _ rfl (fun w hw => qW (zB t1 w hw)) (by first | rfl | omega) ?_; simp only [zo]; go_big_quiet_on) | (refine zn (t := 62) rfl _ _ _ rfl (fun w hw => zx (zB r1 w hw).cell0) (by rfl) ?_; simp only [zo]; go_big_quiet_on) | (refine zn (t := 95) rfl _ _ _ rfl (fun w hw => qj (z7 rc w hw) hk1 he') (by first | rfl | omega) ?_; simp only [zo]; go_big_quiet_on) | (go_big_quiet_op; first | go_big_quiet_on | go_big_quiet_call ((first | (go_at_call 99; exact zC (vg _ _ _)) | (go_at_call 100; exact zC (yn _ _ htk)) | (go_at_call 101; exact zC (yJ _ _ htk)) | (go_at_call 102; exact zC (kL _ _ _ _ _)))))))
        refine wpQuiet_nil ?_; intro wn za; have zf := B.size; have zg := za.size; replace B := B.trans (za.mono B.size); try replace r1 := r1.below za
        go_wp2; go_roundw
        case rel => exact ⟨1, by omega, by go_num, B, by omega, r1, fun j hj => by
         obtain rfl : j = 0 := by omega
         exact E.out⟩
        case measure => simp [intOf]; omega
   ·have dlt : decide ((k : Int) < (ls.length : Int)) = false := decide_eq_false (by omega)
    have e1 := Lib.hid (kD (by omega) (fun j hj => Hst.out j (by omega))); go_wp2_with (first | (refine zp (t := 62) rfl _ rfl _ _ _ rfl (zx r1.cell0) (by rfl) ?_; simp only [zo]) | fail)
    go_ret; exact ⟨by rw [e1.out]; try rfl, B⟩
set_option maxHeartbeats 4000000 in
theorem Wn (v : Value) (ls : List TA) (w : World) (h : RS v ls w) (tk : qN ls) (hn : ls.length ≤ maxLen) : Calls Tryz.prog 141 #[.agg #[v]] w fun e w' => e = .returned (.bool (z2 ls)) ∧ Below w.heap.size w w' := by
 unfold maxLen at hn
 obtain ⟨a, c, rfl, hc⟩ := h.len
 have B := Below.refl w.heap.size w
 have HS := Lib.hid h
 have HK := Lib.hid tk
 clear h tk
 by_cases hbig : 1024 < ls.length
 ·rw [Jz hbig]
  have d1 : decide (1024 < (ls.length : Int)) = true := decide_eq_true (by omega); go_enter Tryz.func141, Tryz.ntmps141
  go_wp2_with (first | (refine zp (t := 62) rfl _ rfl _ _ _ rfl (zx r1.cell0) (by rfl) ?_; simp only [zo]) | (refine zt (t := 64) rfl _ rfl _ rfl (zY B ?_); clear B; intro b_r1 wn zb zd r1 za zf zk B; (try have zh := r1.lt); (try replace r1 := r1.below (za.mono zb)); (try have zh := t1.lt); (try replace t1 := t1.below (za.mono zb)); (try have zh := rc.lt); (try replace rc := rc.below (za.mono zb)); simp only [zo]) | fail)
  go_ret; exact ⟨rfl, B⟩
 ·have d1 : decide (1024 < (ls.length : Int)) = false := decide_eq_false (by omega)
  go_enter Tryz.func141, Tryz.ntmps141
  go_wp2_with (first | (refine zp (t := 62) rfl _ rfl _ _ _ rfl (zx r1.cell0) (by rfl) ?_; simp only [zo]) | (refine zt (t := 64) rfl _ rfl _ rfl (zY B ?_); clear B; intro b_r1 wn zb zd r1 za zf zk B; (try have zh := r1.lt); (try replace r1 := r1.below (za.mono zb)); (try have zh := t1.lt); (try replace t1 := t1.below (za.mono zb)); (try have zh := rc.lt); (try replace rc := rc.below (za.mono zb)); simp only [zo]) | fail)
  clear d1; have hr1 := r1.lt; go_loopw [3, 4, 5, 6] (fun i _ _ _ wr => ∃ k : Nat, k ≤ ls.length ∧ i = .int .i64 k ∧ Below w.heap.size w wr ∧ wn.heap.size ≤ wr.heap.size ∧ zK 64 wr b_r1 #[.slice a ls.length c] ∧ ∀ j, j < k → yB ls j = true) (fun i _ _ _ _ => (ls.length - intOf i).toNat)
  case atStart => exact ⟨0, by omega, rfl, B, Nat.le_refl _, r1, fun j hj => by omega⟩
  case round =>
   clear B r1; obtain ⟨k, hk, rfl, B, hwn, r1, hst⟩ := hrel; have Hst := Lib.hid hst; clear hst; by_cases hkl : k < ls.length
   ·obtain ⟨g, o, rfl, rc0⟩ := HS.out.at (by omega)
    have hg0 := rc0.lt; have rc := rc0.of_eq (B.block _ rc0.lt); clear rc0; obtain ⟨⟨x, y, t⟩, he⟩ : ∃ e, aT ls k = e := ⟨_, rfl⟩; have htk : Zr t := by have := HK.out.at hkl; rw [he] at this; exact this
    have HT := Lib.hid htk; obtain ⟨⟨x', y', t'⟩, he'⟩ : ∃ e, aT ls (k - 1) = e := ⟨_, rfl⟩; have hk1 : k - 1 < ls.length := by omega
    have dlt : decide ((k : Int) < (ls.length : Int)) = true := decide_eq_true (by omega); have hneq : ∀ w, (binOp .neq 123 (Tile.v (qF t)) (Tile.v t)).run Tryz.prog w = .ok (.bool (!kO (qF t) t)) w := fun w => Q7 _ _ w
    cases h1 : z8 x y with
    | false =>
     have E := Lib.hid (Z1 he h1); go_wp2_with (first | (go_at_call 167; refine (uv _ _).mono ?_; rintro e wn ⟨rfl, za⟩; have zf := B.size; have zg := za.size; replace B := B.trans (za.mono B.size); (try replace r1 := r1.below za); (try replace t1 := t1.below za); (try replace rc := rc.below za)) | (refine zp (t := 123) rfl _ rfl _ _ _ rfl (qW t1) (by first | rfl | omega) ?_; simp only [zo]) | (refine zq (t := 125) rfl _ _ rfl _ rfl _ rfl t1 (by rw [zS]; kernel_rfl) (by simp only [zS, jl]) (xj _) (qG B (by omega) ?_); clear t1 B; intro wn t1 ze zf zg B; (try replace r1 := r1.of_eq (ze.block _ r1.lt (by omega))); (try replace rc := rc.of_eq (ze.block _ rc.lt (by omega))); simp only [zo]) | (refine zr (t := 125) rfl _ (qK _ _ rfl) (zY B ?_); clear B; intro b_t1 wn zb zd t1 za zf zk B; (try have zh := r1.lt); (try replace r1 := r1.below (za.mono zb)); (try have zh := t1.lt); (try replace t1 := t1.below (za.mono zb)); (try have zh := rc.lt); (try replace rc := rc.below (za.mono zb)); simp only [zo]) | (refine zp (t := 125) rfl _ rfl _ _ _ rfl (xq rc hkl he) (by first | rfl | omega) ?_; simp only [zo]) | (refine zp (t := 62) rfl _ rfl _ _ _ rfl (zx r1.cell0) (by rfl) ?_; simp only [zo]) | fail)
     refine zA (by kernel_rfl) (by kernel_rfl) ?_; repeat (first | go_big_quiet_skip | (go_big_quiet_want; first | (refine zn (t := 123) rfl _ _ _ rfl (fun w hw => qW (zB t1 w hw)) (by first | rfl | omega) ?_; simp only [zo]; go_big_quiet_on) | (go_big_quiet_op; first | go_big_quiet_on | go_big_quiet_call ((first | (go_at_call 169; exact zC (yK _ _ htk)) | (go_at_call 168; exact zC (Zp _ _ _)))))))
     refine wpQuiet_nil ?_; intro wn za; have zf := B.size; have zg := za.size; replace B := B.trans (za.mono B.size); try replace r1 := r1.below za
     try replace t1 := t1.below za
     try replace rc := rc.below za
     go_wp2; refine zA (by kernel_rfl) (by kernel_rfl) ?_; repeat (first | go_big_quiet_skip | (go_big_quiet_want; first | (refine zn (t := 95) rfl _ _ _ rfl (fun w hw => yD (zB t1 w hw)) (by first | rfl | omega) ?_; simp only [zo]; go_big_quiet_on) | (refine zn (t := 62) rfl _ _ _ rfl (fun w hw => zx (zB r1 w hw).cell0) (by rfl) ?_; simp only [zo]; go_big_quiet_on) | (refine zn (t := 95) rfl _ _ _ rfl (fun w hw => qj (z7 rc w hw) hk1 he') (by first | rfl | omega) ?_; simp only [zo]; go_big_quiet_on) | (go_big_quiet_op; first | go_big_quiet_on | go_big_quiet_call ((first | (go_at_call 157; exact zC (yp _ _ _)) | (go_at_call 170; exact zC (vx _ _ _ _ _)))))))
     refine wpQuiet_nil ?_; intro wn za; have zf := B.size; have zg := za.size; replace B := B.trans (za.mono B.size); try replace r1 := r1.below za
     try replace t1 := t1.below za
     try replace rc := rc.below za
     go_wp2; go_ret; exact ⟨by rw [yj hkl E.out]; try rfl, B⟩
    | true =>
     cases h2 : jh t with
     | true =>
      have E := Lib.hid (Xk he h2); go_wp2_with (first | (go_at_call 167; refine (uv _ _).mono ?_; rintro e wn ⟨rfl, za⟩; have zf := B.size; have zg := za.size; replace B := B.trans (za.mono B.size); (try replace r1 := r1.below za); (try replace t1 := t1.below za); (try replace rc := rc.below za)) | (refine zp (t := 123) rfl _ rfl _ _ _ rfl (qW t1) (by first | rfl | omega) ?_; simp only [zo]) | (refine zq (t := 125) rfl _ _ rfl _ rfl _ rfl t1 (by rw [zS]; kernel_rfl) (by simp only [zS, jl]) (xj _) (qG B (by omega) ?_); clear t1 B; intro wn t1 ze zf zg B; (try replace r1 := r1.of_eq (ze.block _ r1.lt (by omega))); (try replace rc := rc.of_eq (ze.block _ rc.lt (by omega))); simp only [zo]) | (refine zr (t := 125) rfl _ (qK _ _ rfl) (zY B ?_); clear B; intro b_t1 wn zb zd t1 za zf zk B; (try have zh := r1.lt); (try replace r1 := r1.below (za.mono zb)); (try have zh := t1.lt); (try replace t1 := t1.below (za.mono zb)); (try have zh := rc.lt); (try replace rc := rc.below (za.mono zb)); simp only [zo]) | (refine zp (t := 125) rfl _ rfl _ _ _ rfl (xq rc hkl he) (by first | rfl | omega) ?_; simp only [zo]) | (refine zp (t := 62) rfl _ rfl _ _ _ rfl (zx r1.cell0) (by rfl) ?_; simp only [zo]) | fail)
      refine zA (by kernel_rfl) (by kernel_rfl) ?_; repeat (first | go_big_quiet_skip | (go_big_quiet_want; first | (refine zn (t := 123) rfl _ _ _ rfl (fun w hw => qW (zB t1 w hw)) (by first | rfl | omega) ?_; simp only [zo]; go_big_quiet_on) | (go_big_quiet_op; first | go_big_quiet_on | go_big_quiet_call ((first | (go_at_call 169; exact zC (yK _ _ htk)) | (go_at_call 168; exact zC (Zp _ _ _)))))))
      refine wpQuiet_nil ?_; intro wn za; have zf := B.size; have zg := za.size; replace B := B.trans (za.mono B.size); try replace r1 := r1.below za
      try replace t1 := t1.below za
      try replace rc := rc.below za
      go_wp2; refine zA (by kernel_rfl) (by kernel_rfl) ?_; repeat (first | go_big_quiet_skip | (go_big_quiet_want; first | (refine zn (t := 95) rfl _ _ _ rfl (fun w hw => yD (zB t1 w hw)) (by first | rfl | omega) ?_; simp only [zo]; go_big_quiet_on) | (refine zn (t := 62) rfl _ _ _ rfl (fun w hw => zx (zB r1 w hw).cell0) (by rfl) ?_; simp only [zo]; go_big_quiet_on) | (refine zn (t := 95) rfl _ _ _ rfl (fun w hw => qj (z7 rc w hw) hk1 he') (by first | rfl | omega) ?_; simp only [zo]; go_big_quiet_on) | (go_big_quiet_op; first | go_big_quiet_on | go_big_quiet_call ((first | (go_at_call 157; exact zC (yp _ _ _)) | (go_at_call 170; exact zC (vx _ _ _ _ _)))))))
      refine wpQuiet_nil ?_; intro wn za; have zf := B.size; have zg := za.size; replace B := B.trans (za.mono B.size); try replace r1 := r1.below za
      try replace t1 := t1.below za
      try replace rc := rc.below za
      go_wp2; go_ret; exact ⟨by rw [yj hkl E.out]; try rfl, B⟩
     | false =>
      cases h3 : kO (qF t) t with
      | false =>
       have E := Lib.hid (Ju he h3); go_wp2_with (first | (go_at_call 167; refine (uv _ _).mono ?_; rintro e wn ⟨rfl, za⟩; have zf := B.size; have zg := za.size; replace B := B.trans (za.mono B.size); (try replace r1 := r1.below za); (try replace t1 := t1.below za); (try replace rc := rc.below za)) | (refine zp (t := 123) rfl _ rfl _ _ _ rfl (qW t1) (by first | rfl | omega) ?_; simp only [zo]) | (refine zq (t := 125) rfl _ _ rfl _ rfl _ rfl t1 (by rw [zS]; kernel_rfl) (by simp only [zS, jl]) (xj _) (qG B (by omega) ?_); clear t1 B; intro wn t1 ze zf zg B; (try replace r1 := r1.of_eq (ze.block _ r1.lt (by omega))); (try replace rc := rc.of_eq (ze.block _ rc.lt (by omega))); simp only [zo]) | (refine zr (t := 125) rfl _ (qK _ _ rfl) (zY B ?_); clear B; intro b_t1 wn zb zd t1 za zf zk B; (try have zh := r1.lt); (try replace r1 := r1.below (za.mono zb)); (try have zh := t1.lt); (try replace t1 := t1.below (za.mono zb)); (try have zh := rc.lt); (try replace rc := rc.below (za.mono zb)); simp only [zo]) | (refine zp (t := 125) rfl _ rfl _ _ _ rfl (xq rc hkl he) (by first | rfl | omega) ?_; simp only [zo]) | (refine zp (t := 62) rfl _ rfl _ _ _ rfl (zx r1.cell0) (by rfl) ?_; simp only [zo]) | fail)
       refine zA (by kernel_rfl) (by kernel_rfl) ?_; repeat (first | go_big_quiet_skip | (go_big_quiet_want; first | (refine zn (t := 123) rfl _ _ _ rfl (fun w hw => qW (zB t1 w hw)) (by first | rfl | omega) ?_; simp only [zo]; go_big_quiet_on) | (go_big_quiet_op; first | go_big_quiet_on | go_big_quiet_call ((first | (go_at_call 169; exact zC (yK _ _ htk)) | (go_at_call 168; exact zC (Zp _ _ _)))))))
       refine wpQuiet_nil ?_; intro wn za; have zf := B.size; have zg := za.size; replace B := B.trans (za.mono B.size); try replace r1 := r1.below za
       try replace t1 := t1.below za
       try replace rc := rc.below za
       go_wp2; refine zA (by kernel_rfl) (by kernel_rfl) ?_; repeat (first | go_big_quiet_skip | (go_big_quiet_want; first | (refine zn (t := 95) rfl _ _ _ rfl (fun w hw => yD (zB t1 w hw)) (by first | rfl | omega) ?_; simp only [zo]; go_big_quiet_on) | (refine zn (t := 62) rfl _ _ _ rfl (fun w hw => zx (zB r1 w hw).cell0) (by rfl) ?_; simp only [zo]; go_big_quiet_on) | (refine zn (t := 95) rfl _ _ _ rfl (fun w hw => qj (z7 rc w hw) hk1 he') (by first | rfl | omega) ?_; simp only [zo]; go_big_quiet_on) | (go_big_quiet_op; first | go_big_quiet_on | go_big_quiet_call ((first | (go_at_call 157; exact zC (yp _ _ _)) | (go_at_call 170; exact zC (vx _ _ _ _ _)))))))
       refine wpQuiet_nil ?_; intro wn za; have zf := B.size; have zg := za.size; replace B := B.trans (za.mono B.size); try replace r1 := r1.below za
       try replace t1 := t1.below za
       try replace rc := rc.below za
       go_wp2; go_ret; exact ⟨by rw [yj hkl E.out]; try rfl, B⟩
      | true =>
       by_cases hk0 : 0 < k
       ·have E := Lib.hid (Xj hk0 he he' h1 h2 h3)
        have d3 : decide ((0 : Int) < (k : Int)) = true := decide_eq_true (by omega); have d4 : decide (0 < k) = true := decide_eq_true hk0; cases h4 : qQ x' y' x y with
        | false =>
         have hO : decide (0 ≤ vo x' y' x y) = true := by rw [Qt, h4]; rfl
         go_wp2_with (first | (go_at_call 167; refine (uv _ _).mono ?_; rintro e wn ⟨rfl, za⟩; have zf := B.size; have zg := za.size; replace B := B.trans (za.mono B.size); (try replace r1 := r1.below za); (try replace t1 := t1.below za); (try replace rc := rc.below za)) | (refine zp (t := 123) rfl _ rfl _ _ _ rfl (qW t1) (by first | rfl | omega) ?_; simp only [zo]) | (refine zq (t := 125) rfl _ _ rfl _ rfl _ rfl t1 (by rw [zS]; kernel_rfl) (by simp only [zS, jl]) (xj _) (qG B (by omega) ?_); clear t1 B; intro wn t1 ze zf zg B; (try replace r1 := r1.of_eq (ze.block _ r1.lt (by omega))); (try replace rc := rc.of_eq (ze.block _ rc.lt (by omega))); simp only [zo]) | (refine zr (t := 125) rfl _ (qK _ _ rfl) (zY B ?_); clear B; intro b_t1 wn zb zd t1 za zf zk B; (try have zh := r1.lt); (try replace r1 := r1.below (za.mono zb)); (try have zh := t1.lt); (try replace t1 := t1.below (za.mono zb)); (try have zh := rc.lt); (try replace rc := rc.below (za.mono zb)); simp only [zo]) | (refine zp (t := 125) rfl _ rfl _ _ _ rfl (xq rc hkl he) (by first | rfl | omega) ?_; simp only [zo]) | (refine zp (t := 62) rfl _ rfl _ _ _ rfl (zx r1.cell0) (by rfl) ?_; simp only [zo]) | fail)
         refine zA (by kernel_rfl) (by kernel_rfl) ?_; repeat (first | go_big_quiet_skip | (go_big_quiet_want; first | (refine zn (t := 123) rfl _ _ _ rfl (fun w hw => qW (zB t1 w hw)) (by first | rfl | omega) ?_; simp only [zo]; go_big_quiet_on) | (go_big_quiet_op; first | go_big_quiet_on | go_big_quiet_call ((first | (go_at_call 169; exact zC (yK _ _ htk)) | (go_at_call 168; exact zC (Zp _ _ _)))))))
         refine wpQuiet_nil ?_; intro wn za; have zf := B.size; have zg := za.size; replace B := B.trans (za.mono B.size); try replace r1 := r1.below za
         try replace t1 := t1.below za
         try replace rc := rc.below za
         go_wp2; refine zA (by kernel_rfl) (by kernel_rfl) ?_; repeat (first | go_big_quiet_skip | (go_big_quiet_want; first | (refine zn (t := 95) rfl _ _ _ rfl (fun w hw => yD (zB t1 w hw)) (by first | rfl | omega) ?_; simp only [zo]; go_big_quiet_on) | (refine zn (t := 62) rfl _ _ _ rfl (fun w hw => zx (zB r1 w hw).cell0) (by rfl) ?_; simp only [zo]; go_big_quiet_on) | (refine zn (t := 95) rfl _ _ _ rfl (fun w hw => qj (z7 rc w hw) hk1 he') (by first | rfl | omega) ?_; simp only [zo]; go_big_quiet_on) | (go_big_quiet_op; first | go_big_quiet_on | go_big_quiet_call ((first | (go_at_call 157; exact zC (yp _ _ _)) | (go_at_call 170; exact zC (vx _ _ _ _ _)))))))
         refine wpQuiet_nil ?_; intro wn za; have zf := B.size; have zg := za.size; replace B := B.trans (za.mono B.size); try replace r1 := r1.below za
         try replace t1 := t1.below za
         try replace rc := rc.below za
         go_wp2; go_ret; exact ⟨by rw [yj hkl (E.out.trans h4)]; try rfl, B⟩
        | true =>
         have hO : decide (0 ≤ vo x' y' x y) = false := by rw [Qt, h4]; rfl
         go_wp2_with (first | (go_at_call 167; refine (uv _ _).mono ?_; rintro e wn ⟨rfl, za⟩; have zf := B.size; have zg := za.size; replace B := B.trans (za.mono B.size); (try replace r1 := r1.below za); (try replace t1 := t1.below za); (try replace rc := rc.below za)) | (refine zp (t := 123) rfl _ rfl _ _ _ rfl (qW t1) (by first | rfl | omega) ?_; simp only [zo]) | (refine zq (t := 125) rfl _ _ rfl _ rfl _ rfl t1 (by rw [zS]; kernel_rfl) (by simp only [zS, jl]) (xj _) (qG B (by omega) ?_); clear t1 B; intro wn t1 ze zf zg B; (try replace r1 := r1.of_eq (ze.block _ r1.lt (by omega))); (try replace rc := rc.of_eq (ze.block _ rc.lt (by omega))); simp only [zo]) | (refine zr (t := 125) rfl _ (qK _ _ rfl) (zY B ?_); clear B; intro b_t1 wn zb zd t1 za zf zk B; (try have zh := r1.lt); (try replace r1 := r1.below (za.mono zb)); (try have zh := t1.lt); (try replace t1 := t1.below (za.mono zb)); (try have zh := rc.lt); (try replace rc := rc.below (za.mono zb)); simp only [zo]) | (refine zp (t := 125) rfl _ rfl _ _ _ rfl (xq rc hkl he) (by first | rfl | omega) ?_; simp only [zo]) | (refine zp (t := 62) rfl _ rfl _ _ _ rfl (zx r1.cell0) (by rfl) ?_; simp only [zo]) | fail)
         refine zA (by kernel_rfl) (by kernel_rfl) ?_; repeat (first | go_big_quiet_skip | (go_big_quiet_want; first | (refine zn (t := 123) rfl _ _ _ rfl (fun w hw => qW (zB t1 w hw)) (by first | rfl | omega) ?_; simp only [zo]; go_big_quiet_on) | (go_big_quiet_op; first | go_big_quiet_on | go_big_quiet_call ((first | (go_at_call 169; exact zC (yK _ _ htk)) | (go_at_call 168; exact zC (Zp _ _ _)))))))
         refine wpQuiet_nil ?_; intro wn za; have zf := B.size; have zg := za.size; replace B := B.trans (za.mono B.size); try replace r1 := r1.below za
         try replace t1 := t1.below za
         try replace rc := rc.below za
         go_wp2; refine zA (by kernel_rfl) (by kernel_rfl) ?_; repeat (first | go_big_quiet_skip | (go_big_quiet_want; first | (refine zn (t := 95) rfl _ _ _ rfl (fun w hw => yD (zB t1 w hw)) (by first | rfl | omega) ?_; simp only [zo]; go_big_quiet_on) | (refine zn (t := 62) rfl _ _ _ rfl (fun w hw => zx (zB r1 w hw).cell0) (by rfl) ?_; simp only [zo]; go_big_quiet_on) | (refine zn (t := 95) rfl _ _ _ rfl (fun w hw => qj (z7 rc w hw) hk1 he') (by first | rfl | omega) ?_; simp only [zo]; go_big_quiet_on) | (go_big_quiet_op; first | go_big_quiet_on | go_big_quiet_call ((first | (go_at_call 157; exact zC (yp _ _ _)) | (go_at_call 170; exact zC (vx _ _ _ _ _)))))))
         refine wpQuiet_nil ?_; intro wn za; have zf := B.size; have zg := za.size; replace B := B.trans (za.mono B.size); try replace r1 := r1.below za
         try replace t1 := t1.below za
         try replace rc := rc.below za
         go_wp2; go_roundw
         case rel => exact ⟨k + 1, by omega, by go_num, B, by omega, r1, fun j hj => by
          by_cases e : j = k
          ·rw [e, E.out, h4]
          ·exact Hst.out j (by omega)⟩
         case measure => simp [intOf]; omega
       ·obtain rfl : k = 0 := by omega
        have E := Lib.hid (Jv he h1 h2 h3); go_wp2_with (first | (go_at_call 167; refine (uv _ _).mono ?_; rintro e wn ⟨rfl, za⟩; have zf := B.size; have zg := za.size; replace B := B.trans (za.mono B.size); (try replace r1 := r1.below za); (try replace t1 := t1.below za); (try replace rc := rc.below za)) | (refine zp (t := 123) rfl _ rfl _ _ _ rfl (qW t1) (by first | rfl | omega) ?_; simp only [zo]) | (refine zq (t := 125) rfl _ _ rfl _ rfl _ rfl t1 (by rw [zS]; kernel_rfl) (by simp only [zS, jl]) (xj _) (qG B (by omega) ?_); clear t1 B; intro wn t1 ze zf zg B; (try replace r1 := r1.of_eq (ze.block _ r1.lt (by omega))); (try replace rc := rc.of_eq (ze.block _ rc.lt (by omega))); simp only [zo]) | (refine zr (t := 125) rfl _ (qK _ _ rfl) (zY B ?_); clear B; intro b_t1 wn zb zd t1 za zf zk B; (try have zh := r1.lt); (try replace r1 := r1.below (za.mono zb)); (try have zh := t1.lt); (try replace t1 := t1.below (za.mono zb)); (try have zh := rc.lt); (try replace rc := rc.below (za.mono zb)); simp only [zo]) | (refine zp (t := 125) rfl _ rfl _ _ _ rfl (xq rc hkl he) (by first | rfl | omega) ?_; simp only [zo]) | (refine zp (t := 62) rfl _ rfl _ _ _ rfl (zx r1.cell0) (by rfl) ?_; simp only [zo]) | fail)
        refine zA (by kernel_rfl) (by kernel_rfl) ?_; repeat (first | go_big_quiet_skip | (go_big_quiet_want; first | (refine zn (t := 123) rfl _ _ _ rfl (fun w hw => qW (zB t1 w hw)) (by first | rfl | omega) ?_; simp only [zo]; go_big_quiet_on) | (go_big_quiet_op; first | go_big_quiet_on | go_big_quiet_call ((first | (go_at_call 169; exact zC (yK _ _ htk)) | (go_at_call 168; exact zC (Zp _ _ _)))))))
        refine wpQuiet_nil ?_; intro wn za; have zf := B.size; have zg := za.size; replace B := B.trans (za.mono B.size); try replace r1 := r1.below za
        try replace t1 := t1.below za
        try replace rc := rc.below za
        go_wp2; refine zA (by kernel_rfl) (by kernel_rfl) ?_; repeat (first | go_big_quiet_skip | (go_big_quiet_want; first | (refine zn (t := 95) rfl _ _ _ rfl (fun w hw => yD (zB t1 w hw)) (by first | rfl | omega) ?_; simp only [zo]; go_big_quiet_on) | (refine zn (t := 62) rfl _ _ _ rfl (fun w hw => zx (zB r1 w hw).cell0) (by rfl) ?_; simp only [zo]; go_big_quiet_on) | (refine zn (t := 95) rfl _ _ _ rfl (fun w hw => qj (z7 rc w hw) hk1 he') (by first | rfl | omega) ?_; simp only [zo]; go_big_quiet_on) | (go_big_quiet_op; first | go_big_quiet_on | go_big_quiet_call ((first | (go_at_call 157; exact zC (yp _ _ _)) | (go_at_call 170; exact zC (vx _ _ _ _ _)))))))
        refine wpQuiet_nil ?_; intro wn za; have zf := B.size; have zg := za.size; replace B := B.trans (za.mono B.size); try replace r1 := r1.below za
        go_wp2; go_roundw
        case rel => exact ⟨1, by omega, by go_num, B, by omega, r1, fun j hj => by
         obtain rfl : j = 0 := by omega
         exact E.out⟩
        case measure => simp [intOf]; omega
   ·have dlt : decide ((k : Int) < (ls.length : Int)) = false := decide_eq_false (by omega)
    have e1 := Lib.hid (kD (by omega) (fun j hj => Hst.out j (by omega))); go_wp2_with (first | (refine zp (t := 62) rfl _ rfl _ _ _ rfl (zx r1.cell0) (by rfl) ?_; simp only [zo]) | fail)
    go_ret; exact ⟨by rw [e1.out]; try rfl, B⟩
/- Boxing and making, with a name for the new block. -/
section
variable {ops : Array Oper} {rest : List Oper} {o : Oper} {a : Act} {w : World} {Q : Exit → Act → World → Prop}
theorem jt (hg : o.guard = none) (x : Operand) (ho : o.op = .box 123 x) (f : Nat → Px) (hx : a.eval x = Tile.v f)
  (h : ∀ b w', w.heap.size ≤ b → b ≤ w.heap.size → zX w' b f → Below b w w' → w'.heap.size = b + 1 → wpList Tryz.prog ops Q rest (a.put o.dst (.pointer (some ⟨b, 0, none⟩))) w') : wpList Tryz.prog ops Q (o :: rest) a w :=
 jx hg x ho f hx fun w' h1 h2 h3 => h _ w' (Nat.le_refl _) (Nat.le_refl _) h1 h2 h3
theorem x3 (hg : o.guard = none) (x : Operand) (ho : o.op = .box 28 x) (p : Px) (hx : a.eval x = Px.v p)
  (h : ∀ b w', w.heap.size ≤ b → b ≤ w.heap.size → jF w' b p → Below b w w' → w'.heap.size = b + 1 → wpList Tryz.prog ops Q rest (a.put o.dst (.pointer (some ⟨b, 0, none⟩))) w') : wpList Tryz.prog ops Q (o :: rest) a w :=
 vI hg x ho p hx fun w' h1 h2 h3 => h _ w' (Nat.le_refl _) (Nat.le_refl _) h1 h2 h3
theorem xH (hg : o.guard = none) (ho : o.op = .alloc 123)
  (h : ∀ b w', w.heap.size ≤ b → b ≤ w.heap.size → zX w' b (fun _ => Px.zero) → Below b w w' → w'.heap.size = b + 1 → wpList Tryz.prog ops Q rest (a.put o.dst (.pointer (some ⟨b, 0, none⟩))) w') : wpList Tryz.prog ops Q (o :: rest) a w :=
 xZ hg ho fun w' h1 h2 h3 => h _ w' (Nat.le_refl _) (Nat.le_refl _) h1 h2 h3
theorem qq (hg : o.guard = none) (ho : o.op = .alloc 28)
  (h : ∀ b w', w.heap.size ≤ b → b ≤ w.heap.size → jF w' b Px.zero → Below b w w' → w'.heap.size = b + 1 → wpList Tryz.prog ops Q rest (a.put o.dst (.pointer (some ⟨b, 0, none⟩))) w') : wpList Tryz.prog ops Q (o :: rest) a w :=
 yE hg ho fun w' h1 h2 h3 => h _ w' (Nat.le_refl _) (Nat.le_refl _) h1 h2 h3
end
end Go.Proofs.YtepelndbbhdofaaGreatDoor
/- Contracts of Tile and Get of package raster and of its reference; '&' with a mask; '==' of positions. -/
namespace Go.Proofs.YtepelndbbhdofaaGreatDoor
open Go.RowKit Go.Shelf Pl
set_option linter.unusedVariables false
set_option linter.unusedSimpArgs false
set_option maxRecDepth 20000
/-- '&' with 2^n - 1. -/
theorem Zt (x : Int) (n : Nat) (m : Nat) (hm : m = 2 ^ n - 1) (hn : n ≤ 32) : bits .and .i64 x (m : Int) = x % (((m + 1 : Nat)) : Int) := by
 have e : bits .and .i64 x (m : Int) = IntKind.i64.wrap ((BitVec.ofInt 64 x &&& BitVec.ofInt 64 (m : Int)).toNat : Int) := rfl
 have h1 : (2 : Nat) ^ n ≤ 2 ^ 32 := Nat.pow_le_pow_right (by omega) hn
 have h0 : 1 ≤ (2 : Nat) ^ n := Nat.one_le_two_pow
 have hm1 : m + 1 = 2 ^ n := by omega
 have hml : m < 2 ^ 32 := by omega
 have e2 : (BitVec.ofInt 64 (m : Int)).toNat = m := by
  rw [BitVec.toNat_ofInt]; have h3 : (2 : Nat) ^ 32 = 4294967296 := rfl; have h4 : ((2 : Nat) ^ 64 : Nat) = 18446744073709551616 := rfl; rw [h4]; omega
 have e3 : (BitVec.ofInt 64 x &&& BitVec.ofInt 64 (m : Int)).toNat = (BitVec.ofInt 64 x).toNat % 2 ^ n := by
  rw [BitVec.toNat_and, e2, hm, Nat.and_two_pow_sub_one_eq_mod]
 have e4 : (((BitVec.ofInt 64 x).toNat % 2 ^ n : Nat) : Int) = x % ((2 ^ n : Nat) : Int) := by
  rw [BitVec.toNat_ofInt]; have hd : ((2 ^ n : Nat) : Int) ∣ ((2 ^ 64 : Nat) : Int) := by
   refine Int.natCast_dvd_natCast.2 ?_; exact Nat.pow_dvd_pow 2 (by omega)
  have hpos : (0 : Int) < ((2 ^ 64 : Nat) : Int) := by
   have : (0 : Nat) < 2 ^ 64 := by decide
   omega
  have hnn : 0 ≤ x % ((2 ^ 64 : Nat) : Int) := Int.emod_nonneg _ (by omega); rw [Int.natCast_emod, Int.toNat_of_nonneg hnn, Int.emod_emod_of_dvd _ hd]
 have hkl : (BitVec.ofInt 64 x).toNat % 2 ^ n < 2 ^ n := Nat.mod_lt _ (by omega)
 rw [e, e3, IntKind.wrap_i64, hm1, ← e4]
 have h3 : (2 : Nat) ^ 32 = 4294967296 := rfl
 rw [h3] at h1
 generalize (BitVec.ofInt 64 x).toNat % 2 ^ n = z at hkl ⊢
 generalize (2 : Nat) ^ n = y at *
 omega
theorem JV (x : Int) : bits .and .i64 x 7 = x % 8 := Zt x 3 7 rfl (by decide)
theorem vM (x : Int) : bits .and .i64 x 1048575 = x % 1048576 := Zt x 20 1048575 rfl (by decide)
/-! ### '==' of positions -/
theorem ZO (d : Nat) (x y x' y' : Int) (w : World) : (Op.equalIn (d + 2) 95 (Ps.v x y) (Ps.v x' y')).run Tryz.prog w = .ok (xT x y x' y') w := by
 have h : (Op.equalIn (d + 2) 95 (Ps.v x y) (Ps.v x' y')).run Tryz.prog w = .ok (x == x' && y == y') w := by
  simp only [Ps.v]; by_cases h1 : x = x' <;> by_cases h2 : y = y' <;> simp [go_sem, h1, h2]
 rw [h]
 congr 1
 unfold xT
 rw [Bool.eq_iff_iff]
 simp
theorem Wz (x y x' y' : Int) (w : World) : (binOp .eql 95 (Ps.v x y) (Ps.v x' y')).run Tryz.prog w = .ok (.bool (xT x y x' y')) w := by
 have h := run_eql_struct (P := Tryz.prog) w 95 #[.int .i64 x, .int .i64 y] #[.int .i64 x', .int .i64 y']
 have e := ZO 9998 x y x' y' w
 unfold Ps.v at e ⊢
 rw [h, e]; rfl
theorem zeI (x y x' y' : Int) (w : World) : (binOp .neq 95 (Ps.v x y) (Ps.v x' y')).run Tryz.prog w = .ok (.bool (!xT x y x' y')) w := by
 have h := run_neq_struct (P := Tryz.prog) w 95 #[.int .i64 x, .int .i64 y] #[.int .i64 x', .int .i64 y']
 have e := ZO 9998 x y x' y' w
 unfold Ps.v at e ⊢
 rw [h, e]; rfl
@[go_sem] theorem zge (op : BinOp) (p q : Operand) (x y x' y' : Int) (w : World) : (eqGuard op 95 p q (Ps.v x y) (Ps.v x' y')).run Tryz.prog w = .ok () w := run_eqGuard_agg w op 95 p q _ _ (by kernel_rfl)
@[go_sem] theorem zfI (op : BinOp) (p q : Operand) (x y : Int) (cs : Array Value) (w : World) : (eqGuard op 95 p q (Ps.v x y) (.agg cs)).run Tryz.prog w = .ok () w := run_eqGuard_agg w op 95 p q _ _ (by kernel_rfl)
theorem zgU {v : Value} {ls : List TA} {w : World} (h : RS v ls w) : ∀ w', (∃ u, w' = ov w u) → RS v ls w' := by
 rintro w' ⟨u, rfl⟩
 exact h.below (qS w u)
/-! ### Tile -/
theorem Wc (e : TA) (x y : Int) (b : Nat) (w : World) (p1 : zK 95 w b #[.int .i64 x, .int .i64 y]) : Calls Tryz.prog 136 #[.agg (xX e), .pointer (some ⟨b, 0, none⟩)] w fun e' w' => e' = .returned (.bool (xT e.x e.y x y)) ∧ Below w.heap.size w w' := by
 have B := Below.refl w.heap.size w
 have hb0 := p1.lt
 have heq : ∀ w, (binOp .eql 95 (Ps.v e.x e.y) (.agg #[.int .i64 x, .int .i64 y])).run Tryz.prog w = .ok (.bool (xT e.x e.y x y)) w := fun w => Wz _ _ _ _ w
 go_enter Tryz.func136, Tryz.ntmps136
 go_wp2_with (first | (refine zp (t := 95) rfl _ rfl _ _ _ rfl (yD t1) (by first | rfl | omega) ?_; simp only [zo]) | (refine zp (t := 95) rfl _ rfl _ _ _ rfl (zv p1 Tryz.isAgg95 (by kernel_rfl)) (by rfl) ?_; simp only [zo]) | (refine zt (t := 125) rfl _ rfl _ rfl (zY B ?_); clear B; intro b_t1 wn zb zd t1 za zf zk B; (try have zh := t1.lt); (try replace t1 := t1.below (za.mono zb)); (try have zh := p1.lt); (try replace p1 := p1.below (za.mono zb)); simp only [zo]) | fail)
 go_ret
 exact ⟨rfl, B⟩
set_option maxHeartbeats 1000000 in
theorem ZK (v : Value) (ls : List TA) (x y : Int) (b : Nat) (w : World) (h : RS v ls w) (hn : ls.length ≤ maxLen) (p1 : zK 95 w b #[.int .i64 x, .int .i64 y]) : Calls Tryz.prog 135 #[v, .func (.func 136) #[] #[.pointer (some ⟨b, 0, none⟩)]] w fun e w' => e = .returned (.int .i64 (if idxL ls x y < ls.length then (idxL ls x y : Int) else -1)) ∧ Below w.heap.size w w' := by
 unfold maxLen at hn
 obtain ⟨a, c, rfl, hc⟩ := h.len
 have B := Below.refl w.heap.size w
 have HS := Lib.hid h
 have P1 := Lib.hid p1
 have zb := XM ls x y
 have eg := enters_of Tryz.func136 (by kernel_rfl) rfl
 clear h p1
 go_enter Tryz.func135, Tryz.ntmps135
 go_wp2
 go_loopw [5, 8] (fun _ i wr => ∃ k : Nat, k ≤ idxL ls x y ∧ i = .int .i64 k ∧ Below w.heap.size w wr) (fun _ i _ => (ls.length - intOf i).toNat)
 case atStart => exact ⟨0, by omega, rfl, B⟩
 case round =>
  clear B; obtain ⟨k, hk, rfl, B⟩ := hrel; have p1 := P1.out.of_eq (B.block _ P1.out.lt); by_cases hkl : k < ls.length
  ·obtain ⟨g, o, rfl, rc0⟩ := HS.out.at (by omega)
   have rc := rc0.of_eq (B.block _ rc0.lt); clear rc0; obtain ⟨e, he⟩ : ∃ e, aT ls k = e := ⟨_, rfl⟩; by_cases hki : k < idxL ls x y
   ·have hq : xT e.x e.y x y = false := by have := WF hki; rw [he] at this; exact this
    go_wp2_with (first | (go_at_call 136; refine (Wc e x y b _ p1).mono ?_; rintro e' wn ⟨rfl, za⟩; replace B := B.trans (za.mono B.size)) | (refine zp (t := 125) rfl _ rfl _ _ _ rfl (xq rc hkl he) (by first | rfl | omega) ?_; simp only [zo]) | fail)
    go_roundw
    case rel => exact ⟨k + 1, by omega, by go_num, B⟩
    case measure => simp [intOf]; omega
   ·obtain rfl : k = idxL ls x y := by omega
    have hq : xT e.x e.y x y = true := by have := WE hkl; rw [he] at this; exact this
    have H := Lib.hid hkl; go_wp2_with (first | (go_at_call 136; refine (Wc e x y b _ p1).mono ?_; rintro e' wn ⟨rfl, za⟩; replace B := B.trans (za.mono B.size)) | (refine zp (t := 125) rfl _ rfl _ _ _ rfl (xq rc hkl he) (by first | rfl | omega) ?_; simp only [zo]) | fail)
    go_ret; exact ⟨by first | rfl | (rw [if_pos H.out]; rfl), B⟩
  ·have H := Lib.hid (show ¬ idxL ls x y < ls.length by omega)
   go_wp2; go_ret; exact ⟨by first | rfl | (rw [if_neg H.out]; rfl), B⟩
set_option maxHeartbeats 1000000 in
theorem zft (v : Value) (ls : List TA) (x y : Int) (w : World) (h : RS v ls w) (hn : ls.length ≤ maxLen) : Calls Tryz.prog 80 #[.agg #[v], Ps.v x y] w fun e w' => e = .returned (Tile.v (zU ls x y)) ∧ Below w.heap.size w w' := by
 obtain ⟨a, c, rfl, hc⟩ := h.len
 have zb := XM ls x y
 have hml : (9223372036854775807 : Int) ≥ maxLen := by unfold maxLen; omega
 have B := Below.refl w.heap.size w
 have HS := Lib.hid h
 clear h
 simp only [Ps.v]
 by_cases hi : idxL ls x y < ls.length
 ·rw [wZ, if_pos hi]
  obtain ⟨g, o, rfl, rc⟩ := HS.out.at (by omega); have hg0 := rc.lt; obtain ⟨e, he⟩ : ∃ e, aT ls (idxL ls x y) = e := ⟨_, rfl⟩; rw [he]; have hif : (if idxL ls x y < ls.length then (idxL ls x y : Int) else -1) = (idxL ls x y : Int) := if_pos hi; go_enter Tryz.func80, Tryz.ntmps80
  go_wp2_with (first | (refine qH rfl _ _ rfl _ rfl _ rfl u1 (qG B (by omega) ?_); clear u1 B; intro wn u1 ze zf zg B; (try replace r1 := r1.of_eq (ze.block _ r1.lt (by omega))); (try replace p1 := p1.of_eq (ze.block _ p1.lt (by omega))); (try replace rc := rc.of_eq (ze.block _ rc.lt (by omega))); simp only [zo]) | (refine zp (t := 123) rfl _ rfl _ _ _ rfl (jA rc hi he) (by first | rfl | omega) ?_; simp only [zo]) | (go_at_call 135; refine (ZK _ ls x y _ _ (HS.out.below B) hn p1).mono ?_; rintro e wn ⟨rfl, za⟩; have zf := B.size; have zg := za.size; replace B := B.trans (za.mono B.size); (try replace r1 := r1.below za); (try replace p1 := p1.below za); (try replace u1 := u1.below za); (try replace rc := rc.below za)) | (refine zp (t := 62) rfl _ rfl _ _ _ rfl (zx r1.cell0) (by rfl) ?_; simp only [zo]) | (have _ := p1; refine xH rfl rfl (zY B ?_); clear B; intro b_u1 wn zb zd u1 za zf zk B; (try have zh := r1.lt); (try replace r1 := r1.below (za.mono zb)); (try have zh := p1.lt); (try replace p1 := p1.below (za.mono zb)); (try have zh := u1.lt); (try replace u1 := u1.below (za.mono zb)); (try have zh := rc.lt); (try replace rc := rc.below (za.mono zb)); simp only [zo]) | (have _ := r1; refine zt (t := 95) rfl _ rfl _ rfl (zY B ?_); clear B; intro b_p1 wn zb zd p1 za zf zk B; (try have zh := r1.lt); (try replace r1 := r1.below (za.mono zb)); (try have zh := p1.lt); (try replace p1 := p1.below (za.mono zb)); (try have zh := u1.lt); (try replace u1 := u1.below (za.mono zb)); (try have zh := rc.lt); (try replace rc := rc.below (za.mono zb)); simp only [zo]) | (refine zt (t := 64) rfl _ rfl _ rfl (zY B ?_); clear B; intro b_r1 wn zb zd r1 za zf zk B; (try have zh := r1.lt); (try replace r1 := r1.below (za.mono zb)); (try have zh := p1.lt); (try replace p1 := p1.below (za.mono zb)); (try have zh := u1.lt); (try replace u1 := u1.below (za.mono zb)); (try have zh := rc.lt); (try replace rc := rc.below (za.mono zb)); simp only [zo]) | fail)
  refine bodyPost_ret (jW rfl _ _ (b_u1) rfl u1) rfl ?_; exact ⟨rfl, B⟩
 ·rw [wZ, if_neg hi]
  have hif : (if idxL ls x y < ls.length then (idxL ls x y : Int) else -1) = -1 := if_neg hi; go_enter Tryz.func80, Tryz.ntmps80
  go_wp2_with (first | (refine qH rfl _ _ rfl _ rfl _ rfl u1 (qG B (by omega) ?_); clear u1 B; intro wn u1 ze zf zg B; (try replace r1 := r1.of_eq (ze.block _ r1.lt (by omega))); (try replace p1 := p1.of_eq (ze.block _ p1.lt (by omega))); simp only [zo]) | (refine vd rfl rfl ?_; simp only [zo]) | (go_at_call 135; refine (ZK _ ls x y _ _ (HS.out.below B) hn p1).mono ?_; rintro e wn ⟨rfl, za⟩; have zf := B.size; have zg := za.size; replace B := B.trans (za.mono B.size); (try replace r1 := r1.below za); (try replace p1 := p1.below za); (try replace u1 := u1.below za)) | (refine zp (t := 62) rfl _ rfl _ _ _ rfl (zx r1.cell0) (by rfl) ?_; simp only [zo]) | (have _ := p1; refine xH rfl rfl (zY B ?_); clear B; intro b_u1 wn zb zd u1 za zf zk B; (try have zh := r1.lt); (try replace r1 := r1.below (za.mono zb)); (try have zh := p1.lt); (try replace p1 := p1.below (za.mono zb)); (try have zh := u1.lt); (try replace u1 := u1.below (za.mono zb)); (try have zh := rc.lt); simp only [zo]) | (have _ := r1; refine zt (t := 95) rfl _ rfl _ rfl (zY B ?_); clear B; intro b_p1 wn zb zd p1 za zf zk B; (try have zh := r1.lt); (try replace r1 := r1.below (za.mono zb)); (try have zh := p1.lt); (try replace p1 := p1.below (za.mono zb)); (try have zh := u1.lt); (try replace u1 := u1.below (za.mono zb)); (try have zh := rc.lt); simp only [zo]) | (refine zt (t := 64) rfl _ rfl _ rfl (zY B ?_); clear B; intro b_r1 wn zb zd r1 za zf zk B; (try have zh := r1.lt); (try replace r1 := r1.below (za.mono zb)); (try have zh := p1.lt); (try replace p1 := p1.below (za.mono zb)); (try have zh := u1.lt); (try replace u1 := u1.below (za.mono zb)); (try have zh := rc.lt); simp only [zo]) | fail)
  refine bodyPost_ret (jW rfl _ _ (b_u1) rfl u1) rfl ?_; exact ⟨rfl, B⟩
set_option maxHeartbeats 1000000 in
theorem Vt (v : Value) (ls : List TA) (x y : Int) (w : World) (h : RS v ls w) (hn : ls.length ≤ maxLen) : Calls Tryz.prog 115 #[.agg #[v], Ps.v x y] w fun e w' => e = .returned (Tile.v (zU ls x y)) ∧ Below w.heap.size w w' := by
 unfold maxLen at hn
 obtain ⟨a, c, rfl, hc⟩ := h.len
 have zb := XM ls x y
 have B := Below.refl w.heap.size w
 have HS := Lib.hid h
 clear h
 simp only [Ps.v]
 go_enter Tryz.func115, Tryz.ntmps115
 go_wp2_with (first | (have _ := p1; refine xH rfl rfl (zY B ?_); clear B; intro b_u1 wn zb zd u1 za zf zk B; (try have zh := r1.lt); (try replace r1 := r1.below (za.mono zb)); (try have zh := p1.lt); (try replace p1 := p1.below (za.mono zb)); (try have zh := u1.lt); (try replace u1 := u1.below (za.mono zb)); (try have zh := rc.lt); (try replace rc := rc.below (za.mono zb)); simp only [zo]) | (have _ := r1; refine zt (t := 95) rfl _ rfl _ rfl (zY B ?_); clear B; intro b_p1 wn zb zd p1 za zf zk B; (try have zh := r1.lt); (try replace r1 := r1.below (za.mono zb)); (try have zh := p1.lt); (try replace p1 := p1.below (za.mono zb)); (try have zh := u1.lt); (try replace u1 := u1.below (za.mono zb)); (try have zh := rc.lt); (try replace rc := rc.below (za.mono zb)); simp only [zo]) | (refine zt (t := 64) rfl _ rfl _ rfl (zY B ?_); clear B; intro b_r1 wn zb zd r1 za zf zk B; (try have zh := r1.lt); (try replace r1 := r1.below (za.mono zb)); (try have zh := p1.lt); (try replace p1 := p1.below (za.mono zb)); (try have zh := u1.lt); (try replace u1 := u1.below (za.mono zb)); (try have zh := rc.lt); (try replace rc := rc.below (za.mono zb)); simp only [zo]) | fail)
 have hr1 := r1.lt
 have hp1 := p1.lt
 have hu1 := u1.lt
 have q1 : w.heap.size ≤ b_r1 := by omega
 have q2 : b_r1 < b_p1 := by omega
 have q3 : b_p1 < b_u1 := by omega
 go_loopw [5] (fun i wr => ∃ k : Nat, k ≤ idxL ls x y ∧ i = .int .i64 k ∧ Below w.heap.size w wr ∧ zK 64 wr b_r1 #[.slice a ls.length c] ∧ zK 95 wr b_p1 #[.int .i64 x, .int .i64 y] ∧ zX wr b_u1 (fun _ => Px.zero)) (fun i _ => (ls.length - intOf i).toNat)
 case atStart => exact ⟨0, by omega, rfl, B, r1, p1, u1⟩
 case round =>
  clear B r1 p1 u1; obtain ⟨k, hk, rfl, B, r1, p1, u1⟩ := hrel; by_cases hkl : k < ls.length
  ·obtain ⟨g, o, rfl, rc0⟩ := HS.out.at (by omega)
   have hg0 := rc0.lt; have rc := rc0.of_eq (B.block _ rc0.lt); clear rc0; obtain ⟨e, he⟩ : ∃ e, aT ls k = e := ⟨_, rfl⟩; have heq : ∀ w, (binOp .eql 95 (Ps.v e.x e.y) (.agg #[.int .i64 x, .int .i64 y])).run Tryz.prog w = .ok (.bool (xT e.x e.y x y)) w := fun w => Wz _ _ _ _ w
   by_cases hki : k < idxL ls x y
   ·have hq : xT e.x e.y x y = false := by have := WF hki; rw [he] at this; exact this
    go_wp2_with (first | (refine zp (t := 62) rfl _ rfl _ _ _ rfl (zx r1.cell0) (by rfl) ?_; simp only [zo]) | fail)
    refine zA (by kernel_rfl) (by kernel_rfl) ?_; repeat (first | go_big_quiet_skip | (go_big_quiet_want; first | (refine zn (t := 62) rfl _ _ _ rfl (fun w hw => zx (zB r1 w hw).cell0) (by rfl) ?_; simp only [zo]; go_big_quiet_on) | (refine zn (t := 95) rfl _ _ _ rfl (fun w hw => qj (z7 rc w hw) hkl he) (by first | rfl | omega) ?_; simp only [zo]; go_big_quiet_on) | (refine zn (t := 95) rfl _ _ _ rfl (fun w hw => zv (zB p1 w hw) Tryz.isAgg95 (by kernel_rfl)) (by rfl) ?_; simp only [zo]; go_big_quiet_on) | (go_big_quiet_op; first | go_big_quiet_on | go_big_quiet_call ((fail)))))
    refine wpQuiet_nil ?_; intro wn za; have zf := B.size; have zg := za.size; replace B := B.trans (za.mono B.size); try replace r1 := r1.below za
    try replace p1 := p1.below za
    try replace u1 := u1.below za
    try replace rc := rc.below za
    go_wp2; go_roundw
    case rel => exact ⟨k + 1, by omega, by go_num, B, r1, p1, u1⟩
    case measure => simp [intOf]; omega
   ·obtain rfl : k = idxL ls x y := by omega
    have hq : xT e.x e.y x y = true := by have := WE hkl; rw [he] at this; exact this
    have H := Lib.hid (show zU ls x y = e.t by rw [wZ, if_pos hkl, he]); go_wp2_with (first | (refine zp (t := 62) rfl _ rfl _ _ _ rfl (zx r1.cell0) (by rfl) ?_; simp only [zo]) | fail)
    refine zA (by kernel_rfl) (by kernel_rfl) ?_; repeat (first | go_big_quiet_skip | (go_big_quiet_want; first | (refine zn (t := 62) rfl _ _ _ rfl (fun w hw => zx (zB r1 w hw).cell0) (by rfl) ?_; simp only [zo]; go_big_quiet_on) | (refine zn (t := 95) rfl _ _ _ rfl (fun w hw => qj (z7 rc w hw) hkl he) (by first | rfl | omega) ?_; simp only [zo]; go_big_quiet_on) | (refine zn (t := 95) rfl _ _ _ rfl (fun w hw => zv (zB p1 w hw) Tryz.isAgg95 (by kernel_rfl)) (by rfl) ?_; simp only [zo]; go_big_quiet_on) | (go_big_quiet_op; first | go_big_quiet_on | go_big_quiet_call ((fail)))))
    refine wpQuiet_nil ?_; intro wn za; have zf := B.size; have zg := za.size; replace B := B.trans (za.mono B.size); try replace r1 := r1.below za
    try replace u1 := u1.below za
    try replace rc := rc.below za
    go_wp2_with (first | (refine qH rfl _ _ rfl _ rfl _ rfl u1 (qG B (by omega) ?_); clear u1 B; intro wn u1 ze zf zg B; (try replace r1 := r1.of_eq (ze.block _ r1.lt (by omega))); (try replace rc := rc.of_eq (ze.block _ rc.lt (by omega))); simp only [zo]) | (refine zp (t := 123) rfl _ rfl _ _ _ rfl (jA rc hkl he) (by first | rfl | omega) ?_; simp only [zo]) | (refine zp (t := 62) rfl _ rfl _ _ _ rfl (zx r1.cell0) (by rfl) ?_; simp only [zo]) | fail)
    refine bodyPost_ret (jW rfl _ _ (b_u1) rfl u1) rfl ?_; exact ⟨by rw [H.out], B⟩
  ·have H := Lib.hid (show zU ls x y = zT by rw [wZ, if_neg (by omega)])
   go_wp2_with (first | (refine qH rfl _ _ rfl _ rfl _ rfl u1 (qG B (by omega) ?_); clear u1 B; intro wn u1 ze zf zg B; (try replace r1 := r1.of_eq (ze.block _ r1.lt (by omega))); simp only [zo]) | (refine vd rfl rfl ?_; simp only [zo]) | (refine zp (t := 62) rfl _ rfl _ _ _ rfl (zx r1.cell0) (by rfl) ?_; simp only [zo]) | fail)
   refine bodyPost_ret (jW rfl _ _ (b_u1) rfl u1) rfl ?_; exact ⟨by rw [H.out]; rfl, B⟩
/- Tiles at a position built, put into slices; contracts of Get, BinarySearchFunc, find, Clone. -/
theorem wQ {place : Nat → Option (Nat × Nat)} {cells : Array Value} {i : Nat} {v : Value} {rest : List (Nat × Value)} {off sz : Nat} (hp : place i = some (off, sz)) (hv : v.cells.size = sz) (zb : off + sz ≤ cells.size) :
  ∃ r : Array Value, r.size = cells.size ∧ (∀ k, r[k]? = if off ≤ k ∧ k < off + sz then v.cells[k - off]? else cells[k]?) ∧ Instr.fill place cells ((i, v) :: rest) = Instr.fill place r rest := by
 obtain ⟨g1, g2⟩ := Great.foldl_set off v.cells.toList 0 cells
 refine ⟨v.cells.zipIdx.foldl (fun cs (x : Value × Nat) => cs.setIfInBounds (off + x.2) x.1) cells, ?_, fun k => ?_, ?_⟩
 ·rw [← Array.foldl_toList, Array.toList_zipIdx]; exact g1
 ·rw [← Array.foldl_toList, Array.toList_zipIdx]
  refine (g2 k).trans ?_; rw [Array.length_toList, hv, Nat.add_zero]; by_cases h : off ≤ k ∧ k < off + sz
  ·rw [if_pos h, if_pos ⟨h.1, h.2, by omega⟩, Array.getElem?_toList]
  ·rw [if_neg h, if_neg (by omega)]
 ·conv => lhs; unfold Instr.fill
  rw [hp]; simp only []; rw [if_neg (by simp [hv]; omega)]
theorem uS (x y : Int) : (Ps.v x y).cells = #[.int .i64 x, .int .i64 y] := by simp only [Ps.v, Value.cells]
theorem wX (x y : Int) (t : Nat → Px) (k : Nat) : (xX ⟨x, y, t⟩)[k]? = if k < 2 then (#[.int .i64 x, .int .i64 y] : Array Value)[k]? else (qT t)[k - 2]? := by
 by_cases h : k < 2
 ·rw [if_pos h]
  have hc : k = 0 ∨ k = 1 := by omega
  rcases hc with rfl | rfl
  ·exact Xl _
  ·exact K0 _
 ·rw [if_neg h]
  have := zab ⟨x, y, t⟩ (k - 2); rw [show 2 + (k - 2) = k by omega] at this; exact this
theorem YR (parts : List (Nat × Value)) : Tryz.prog.built 125 parts = Instr.fill (fun i => #[(0, 2), (2, 256)][i]?) zTA parts := by kernel_rfl
theorem zeo (x y : Int) (t : Nat → Px) : Instr.fill (fun i => #[(0, 2), (2, 256)][i]?) zTA [(0, Ps.v x y), (1, Tile.v t)] = some (xX ⟨x, y, t⟩) := by
 obtain ⟨r, hs, hr, e⟩ := wQ (place := fun i => #[(0, 2), (2, 256)][i]?) (cells := zTA) (i := 0) (v := Ps.v x y) (rest := [(1, Tile.v t)]) (off := 0) (sz := 2) rfl (by rw [uS]; rfl) (by rw [jl]; omega)
 obtain ⟨r', hs', hr', e'⟩ := wQ (place := fun i => #[(0, 2), (2, 256)][i]?) (cells := r) (i := 1) (v := Tile.v t) (rest := []) (off := 2) (sz := 256) rfl (by rw [uw, jN]) (by rw [hs, jl]; omega)
 rw [e, e']
 show some r' = _
 congr 1
 apply Array.ext_getElem?
 intro k
 rw [hr' k, hr k, wX, uw, uS]
 by_cases h2 : k < 2
 ·rw [if_neg (by omega), if_pos (by omega), if_pos h2, Nat.sub_zero]
 ·rw [if_neg h2]
  by_cases h3 : k < 258
  ·rw [if_pos (by omega)]
  ·rw [if_neg (by omega), if_neg (by omega), Array.getElem?_eq_none (by rw [jl]; omega), Array.getElem?_eq_none (by rw [jN]; omega)]
theorem Ye (w : World) (o : Oper) (p q : Operand) (ho : o.op = .build 125 #[(0, p), (1, q)]) (ev : Operand → Value) (x y : Int) (t : Nat → Px) (hp : ev p = Ps.v x y) (hq : ev q = Tile.v t) : (execOp ev o).run Tryz.prog w = .ok (.value (.agg (xX ⟨x, y, t⟩))) w := by
 unfold execOp
 have r := run_build w 125 #[(0, Ps.v x y), (1, Tile.v t)] _ ((YR _).trans (zeo x y t))
 simp only [ho, List.map_toArray, List.map_cons, List.map_nil, hp, hq]
 simp only [Sem.run_bind, r, Result.andThen_ok, Sem.run_pure]
section
variable {ops : Array Oper} {rest : List Oper} {o : Oper} {a : Act} {w : World} {Q : Exit → Act → World → Prop}
theorem xJ (hg : o.guard = none) (p q : Operand) (ho : o.op = .build 125 #[(0, p), (1, q)]) (x y : Int) (t : Nat → Px) (hp : a.eval p = Ps.v x y) (hq : a.eval q = Tile.v t)
  (h : wpList Tryz.prog ops Q rest (a.put o.dst (.agg (xX ⟨x, y, t⟩))) w) : wpList Tryz.prog ops Q (o :: rest) a w :=
 wpList_plain hg fun K hK => by
  unfold Oper.wp; rw [Ye w o p q ho _ x y t hp hq]; exact hK _ _ h
theorem Y7 (e : TA) (cs : Array Value) (hs : cs.size = 258) : Instr.fill (fun i => some (i * 258, 258)) cs [(0, .agg (xX e))] = some (xX e) := by
 have hc : (Value.agg (xX e)).cells = xX e := by simp only [Value.cells]
 obtain ⟨r, hs', hr, e'⟩ := wQ (place := fun i => some (i * 258, 258)) (cells := cs) (i := 0) (v := .agg (xX e)) (rest := []) (off := 0) (sz := 258) rfl (by rw [hc, zS]) (by omega)
 rw [e']
 show some r = _
 congr 1
 apply Array.ext_getElem?
 intro k
 rw [hr k, hc]
 by_cases h : k < 258
 ·rw [if_pos (by omega), Nat.sub_zero]
 ·rw [if_neg (by omega), Array.getElem?_eq_none (by omega), Array.getElem?_eq_none (by rw [zS]; omega)]
/-- A slice of one tile. -/
theorem jy (hg : o.guard = none) (x : Operand) (ho : o.op = .buildSlice 62 1 #[(0, x)]) (e : TA) (hx : a.eval x = .agg (xX e))
  (h : ∀ b w', w.heap.size ≤ b → b ≤ w.heap.size → zK 125 w' b (xX e) → Below b w w' → w'.heap.size = b + 1 → wpList Tryz.prog ops Q rest (a.put o.dst (.slice (some ⟨b, 0, none⟩) 1 1)) w') : wpList Tryz.prog ops Q (o :: rest) a w := by
 obtain ⟨i, hi⟩ : ∃ i, Tryz.prog.info? 125 = some i := by
  cases h : Tryz.prog.info? 125 with
  | some i => exact ⟨i, rfl⟩
  | none => have e := wY; rw [h] at e; cases e
 have e1 := wY
 rw [hi] at e1
 have e1' : i.size = 258 ∧ i.bytes = 272 := by simpa using e1
 have hz := Yl
 rw [hi] at hz
 refine wpList_buildSlice hg 62 125 1 #[(0, x)] ho (xX e) i _ Tryz.underlying62 hi hz (by rw [e1'.1]; omega) (by rw [e1'.1]; omega) ?_ (h _ _ (Nat.le_refl _) (Nat.le_refl _) (by unfold zK; rw [zO, if_pos rfl]) ((Below.refl _ _).alloc (Nat.le_refl _) _) (World.size_alloc _ _))
 rw [e1'.1]
 have hp : ((#[(0, x)] : Array (Nat × Operand)).map fun (i, x) => (i, a.eval x)).toList = [(0, Value.agg (xX e))] := by simp [hx]
 rw [hp]
 exact Y7 e _ (by simp)
theorem RS.one {b : Nat} {e : TA} {w : World} (h : zK 125 w b (xX e)) : RS (.slice (some ⟨b, 0, none⟩) 1 1) [e] w :=
 .inr ⟨b, 0, 1, rfl, Nat.le_refl _, fun _ => ⟨h.lt, fun i hi j hj => by
  have hi : i < 1 := hi; obtain rfl : i = 0 := by omega
  rw [show 0 + (0 * 258 + j) = j by omega]; exact (ql h).1 j⟩⟩
theorem zdj (w : World) (o : Oper) (ho : o.op = .buildSlice 62 0 #[]) (ev : Operand → Value) : (execOp ev o).run Tryz.prog w = .ok (.value (.slice (some ⟨w.heap.size, 0, none⟩) 0 0)) (w.alloc (.cells #[] 125)) := by
 obtain ⟨d, p, t, ps, af, gd⟩ := o
 simp only at ho
 subst ho
 kernel_rfl
/-- A slice of no tiles, in memory of the call's own. -/
theorem Vc (hg : o.guard = none) (ho : o.op = .buildSlice 62 0 #[])
  (h : ∀ b w', w.heap.size ≤ b → b ≤ w.heap.size → xr b (.slice (some ⟨b, 0, none⟩) 0 0) [] w' → Below b w w' → w'.heap.size = b + 1 → wpList Tryz.prog ops Q rest (a.put o.dst (.slice (some ⟨b, 0, none⟩) 0 0)) w') : wpList Tryz.prog ops Q (o :: rest) a w :=
 wpList_plain hg fun K hK => by
  unfold Oper.wp; rw [zdj w o ho]; exact hK _ _ (h _ _ (Nat.le_refl _) (Nat.le_refl _) ⟨rfl, .inr ⟨w.heap.size, 0, #[], rfl, Nat.le_refl _, by rw [zO, if_pos rfl], Nat.le_refl _, by unfold maxLen; omega, rfl, rfl⟩⟩ ((Below.refl _ _).alloc (Nat.le_refl _) _) (World.size_alloc _ _))
end
/-! ### Clone -/
set_option maxHeartbeats 1000000 in
theorem zdQ (v : Value) (ls : List TA) (w : World) (h : RS v ls w) (hn : ls.length ≤ 4000) : Calls Tryz.prog 78 #[v] w fun e w' => ∃ v', e = .returned v' ∧ xr w.heap.size v' ls w' ∧ Below w.heap.size w w' := by
 have B := Below.refl w.heap.size w
 have q22 : ∀ (w : World) (a : Option Addr) (n c n' c' : Nat), (binOp .eql 62 (.slice a n c) (.slice none n' c')).run Tryz.prog w = .ok (.bool a.isNone) w := fun w a n c n' c' => Lib.run_eql_slice_nil w _ _ a n c n' c' Tryz.underlying62
 rcases h with ⟨rfl, rfl⟩ | ⟨g, o, c, rfl, hc, sc⟩
 ·go_enter Tryz.func78, Tryz.ntmps78
  go_wp2; go_ret; exact ⟨_, rfl, xr.nil _ _, B⟩
 ·have h : RS (.slice (some ⟨g, o, none⟩) ls.length c) ls w := .inr ⟨g, o, c, rfl, hc, sc⟩
  clear sc; go_enter Tryz.func78, Tryz.ntmps78
  go_wp2_with (first | (at_builtin; refine qe rfl _ _ rfl _ _ rfl rfl od (h) (by simp only [List.length_nil]; omega) (by omega) ?_; intro v_od wn ht za; have zf := B.size; have zg := za.size; replace B := B.trans (za.mono (by omega)); clear od; have od := ht; clear ht; simp only [zo]) | (refine Vc rfl rfl ?_; intro b_od wn zb zd ht za zg; have zf := B.size; replace B := B.trans (za.mono (by omega)); have od := ht; clear ht; replace h := h.below (za.mono (by omega)); simp only [zo]) | fail)
  go_ret; exact ⟨_, rfl, by rw [List.nil_append] at od; exact od.mono (by omega), B⟩
/-! ### The search -/
theorem zcf {ls : List TA} (hs : uO ls) (x y : Int) {h : Nat} (hh : h < ls.length) : qQ (aT ls h).x (aT ls h).y x y = decide (h < cutL ls x y) := by
 by_cases hc : h < cutL ls x y
 ·rw [decide_eq_true hc, Wu hc]
 ·rw [decide_eq_false hc]
  have zb := uT ls x y; have h0 : cutL ls x y < ls.length := by omega
  have h1 := Wt h0; by_cases he : cutL ls x y = h
  ·rw [← he]; exact h1
  ·have h2 := List.pairwise_iff_getElem.1 hs (cutL ls x y) h h0 hh (by omega)
   have a := kN h0; have b := kN hh; rw [List.getElem?_eq_getElem h0] at a; rw [List.getElem?_eq_getElem hh] at b; rw [Option.some.inj a, Option.some.inj b] at h2; unfold yr qQ at h2; unfold qQ at h1 ⊢; have h2 := of_decide_eq_true h2; have h1 := of_decide_eq_false h1; exact decide_eq_false (by omega)
theorem Qh (e : TA) (x y : Int) (w : World) : Calls Tryz.prog 165 #[.agg (xX e), .agg #[.int .i64 x, .int .i64 y]] w fun e' w' => e' = .returned (.int .i64 (vo e.x e.y x y)) ∧ Below w.heap.size w w' := by
 have B := Below.refl w.heap.size w
 go_enter Tryz.func165, Tryz.ntmps165
 go_wp2_with (first | (go_at_call 102; refine (kL _ _ x y _).mono ?_; rintro e wn ⟨rfl, za⟩; have zf := B.size; have zg := za.size; replace B := B.trans (za.mono B.size); (try replace t1 := t1.below za); (try replace p1 := p1.below za)) | (refine zp (t := 95) rfl _ rfl _ _ _ rfl (yD t1) (by first | rfl | omega) ?_; simp only [zo]) | (refine zp (t := 95) rfl _ rfl _ _ _ rfl (zv p1 Tryz.isAgg95 (by kernel_rfl)) (by rfl) ?_; simp only [zo]) | (have _ := t1; refine zt (t := 95) rfl _ rfl _ rfl (zY B ?_); clear B; intro b_p1 wn zb zd p1 za zf zk B; (try have zh := t1.lt); (try replace t1 := t1.below (za.mono zb)); (try have zh := p1.lt); (try replace p1 := p1.below (za.mono zb)); simp only [zo]) | (refine zt (t := 125) rfl _ rfl _ rfl (zY B ?_); clear B; intro b_t1 wn zb zd t1 za zf zk B; (try have zh := t1.lt); (try replace t1 := t1.below (za.mono zb)); (try have zh := p1.lt); (try replace p1 := p1.below (za.mono zb)); simp only [zo]) | fail)
 go_ret
 exact ⟨rfl, B⟩
set_option maxHeartbeats 2000000 in
theorem zb2 (v : Value) (ls : List TA) (x y : Int) (w : World) (h : RS v ls w) (hs : uO ls) (hn : ls.length ≤ 1000000) : Calls Tryz.prog 164 #[v, .agg #[.int .i64 x, .int .i64 y], .func (.func 165) #[] #[]] w fun e w' => e = .returned (.tuple #[.int .i64 (cutL ls x y : Int), .bool (y6 ls x y)]) ∧ Below w.heap.size w w' := by
 obtain ⟨a, c, rfl, hc⟩ := h.len
 have hcl := uT ls x y
 have B := Below.refl w.heap.size w
 have HS := Lib.hid h
 have SR := Lib.hid hs
 have eg := enters_of Tryz.func165 (by kernel_rfl) rfl
 clear h hs
 generalize hfin : y6 ls x y = fin
 have FIN := Lib.hid hfin
 clear hfin
 go_enter Tryz.func164, Tryz.ntmps164
 go_wp2_with (first | (refine zt (t := 95) rfl _ rfl _ rfl (zY B ?_); clear B; intro b_p1 wn zb zd p1 za zf zk B; (try have zh := p1.lt); (try replace p1 := p1.below (za.mono zb)); (try have zh := rc.lt); (try replace rc := rc.below (za.mono zb)); simp only [zo]) | fail)
 have hp1 := p1.lt
 go_loopw [9, 10, 11] (fun i j _ wr => ∃ p q : Nat, p ≤ cutL ls x y ∧ cutL ls x y ≤ q ∧ q ≤ ls.length ∧ i = .int .i64 p ∧ j = .int .i64 q ∧ Below w.heap.size w wr ∧ zK 95 wr b_p1 #[.int .i64 x, .int .i64 y]) (fun i j _ _ => (intOf j - intOf i).toNat)
 case atStart => exact ⟨0, ls.length, by omega, hcl, Nat.le_refl _, rfl, rfl, B, p1⟩
 case round =>
  clear B p1; obtain ⟨p, q, h1, h2, h3, rfl, rfl, B, p1⟩ := hrel; by_cases hpq : p < q
  ·obtain ⟨g, o, rfl, rc0⟩ := HS.out.at (by omega)
   have hg0 := rc0.lt; have rc := rc0.of_eq (B.block _ rc0.lt); clear rc0; have hm : (p + q) / 2 < ls.length := by omega
   obtain ⟨e, he⟩ : ∃ e, aT ls ((p + q) / 2) = e := ⟨_, rfl⟩; have hl := zcf SR.out x y hm; rw [he, ← Ja] at hl; by_cases hcut : (p + q) / 2 < cutL ls x y
   ·rw [decide_eq_true hcut] at hl
    go_wp2; refine zA (by kernel_rfl) (by kernel_rfl) ?_; repeat (first | go_big_quiet_skip | (go_big_quiet_want; first | (refine zn (t := 125) rfl _ _ _ rfl (fun w hw => xq (z7 rc w hw) hm he) (by first | rfl | omega) ?_; simp only [zo]; go_big_quiet_on) | (refine zn (t := 95) rfl _ _ _ rfl (fun w hw => zv (zB p1 w hw) Tryz.isAgg95 (by kernel_rfl)) (by rfl) ?_; simp only [zo]; go_big_quiet_on) | (go_big_quiet_op; first | go_big_quiet_on | go_big_quiet_call ((first | (go_at_call 165; exact zC (Qh e x y _)))))))
    refine wpQuiet_nil ?_; intro wn za; have zf := B.size; have zg := za.size; replace B := B.trans (za.mono B.size); try replace p1 := p1.below za
    try replace rc := rc.below za
    go_wp2; go_roundw
    case rel => exact ⟨(p + q) / 2 + 1, q, by omega, h2, h3, by first | rfl | (rw [show ((p : Int) + (q : Int)) / 2 + 1 = (((p + q) / 2 + 1 : Nat) : Int) by omega]), rfl, B, p1⟩
    case measure => simp [intOf]; omega
   ·rw [decide_eq_false hcut] at hl
    go_wp2; refine zA (by kernel_rfl) (by kernel_rfl) ?_; repeat (first | go_big_quiet_skip | (go_big_quiet_want; first | (refine zn (t := 125) rfl _ _ _ rfl (fun w hw => xq (z7 rc w hw) hm he) (by first | rfl | omega) ?_; simp only [zo]; go_big_quiet_on) | (refine zn (t := 95) rfl _ _ _ rfl (fun w hw => zv (zB p1 w hw) Tryz.isAgg95 (by kernel_rfl)) (by rfl) ?_; simp only [zo]; go_big_quiet_on) | (go_big_quiet_op; first | go_big_quiet_on | go_big_quiet_call ((first | (go_at_call 165; exact zC (Qh e x y _)))))))
    refine wpQuiet_nil ?_; intro wn za; have zf := B.size; have zg := za.size; replace B := B.trans (za.mono B.size); try replace p1 := p1.below za
    try replace rc := rc.below za
    go_wp2; go_roundw
    case rel => exact ⟨p, (p + q) / 2, h1, by omega, by omega, rfl, by first | rfl | (rw [show ((p : Int) + (q : Int)) / 2 = (((p + q) / 2 : Nat) : Int) by omega]), B, p1⟩
    case measure => simp [intOf]; omega
  ·obtain rfl : p = cutL ls x y := by omega
   obtain rfl : q = cutL ls x y := by omega
   by_cases hin : cutL ls x y < ls.length
   ·obtain ⟨g, o, rfl, rc0⟩ := HS.out.at (by omega)
    have hg0 := rc0.lt; have rc := rc0.of_eq (B.block _ rc0.lt); clear rc0; obtain ⟨e, he⟩ : ∃ e, aT ls (cutL ls x y) = e := ⟨_, rfl⟩; have hh : y6 ls x y = xT e.x e.y x y := by unfold y6; rw [decide_eq_true hin, he]; rfl
    have d1 : decide ((cutL ls x y : Int) < (ls.length : Int)) = true := decide_eq_true (by omega); have d2 : decide (cutL ls x y < ls.length) = true := decide_eq_true hin; have ho := WX e.x e.y x y; cases hq : xT e.x e.y x y with
    | true =>
     rw [hq] at ho; have ho2 : (vo e.x e.y x y == 0) = true := ho; rw [hq] at hh; have HH := Lib.hid hh; clear hh; go_wp2; refine zA (by kernel_rfl) (by kernel_rfl) ?_; repeat (first | go_big_quiet_skip | (go_big_quiet_want; first | (refine zn (t := 125) rfl _ _ _ rfl (fun w hw => xq (z7 rc w hw) hin he) (by first | rfl | omega) ?_; simp only [zo]; go_big_quiet_on) | (refine zn (t := 95) rfl _ _ _ rfl (fun w hw => zv (zB p1 w hw) Tryz.isAgg95 (by kernel_rfl)) (by rfl) ?_; simp only [zo]; go_big_quiet_on) | (go_big_quiet_op; first | go_big_quiet_on | go_big_quiet_call ((first | (go_at_call 165; exact zC (Qh e x y _)))))))
     refine wpQuiet_nil ?_; intro wn za; have zf := B.size; have zg := za.size; replace B := B.trans (za.mono B.size); try replace p1 := p1.below za
     try replace rc := rc.below za
     go_wp2; go_ret2
     exact ⟨by rw [← FIN.out, HH.out]; try rfl, B⟩
    | false =>
     rw [hq] at ho; have ho2 : (vo e.x e.y x y == 0) = false := ho; rw [hq] at hh; have HH := Lib.hid hh; clear hh; go_wp2; refine zA (by kernel_rfl) (by kernel_rfl) ?_; repeat (first | go_big_quiet_skip | (go_big_quiet_want; first | (refine zn (t := 125) rfl _ _ _ rfl (fun w hw => xq (z7 rc w hw) hin he) (by first | rfl | omega) ?_; simp only [zo]; go_big_quiet_on) | (refine zn (t := 95) rfl _ _ _ rfl (fun w hw => zv (zB p1 w hw) Tryz.isAgg95 (by kernel_rfl)) (by rfl) ?_; simp only [zo]; go_big_quiet_on) | (go_big_quiet_op; first | go_big_quiet_on | go_big_quiet_call ((first | (go_at_call 165; exact zC (Qh e x y _)))))))
     refine wpQuiet_nil ?_; intro wn za; have zf := B.size; have zg := za.size; replace B := B.trans (za.mono B.size); try replace p1 := p1.below za
     go_wp2; go_ret2
     exact ⟨by rw [← FIN.out, HH.out]; try rfl, B⟩
   ·have hh : y6 ls x y = false := by unfold y6; rw [decide_eq_false hin]; rfl
    have d1 : decide ((cutL ls x y : Int) < (ls.length : Int)) = false := decide_eq_false (by omega); have d2 : decide (cutL ls x y < ls.length) = false := decide_eq_false hin; have HH := Lib.hid hh; clear hh; go_wp2; refine zA (by kernel_rfl) (by kernel_rfl) ?_; repeat (first | go_big_quiet_skip | (go_big_quiet_want; first | (refine zn (t := 95) rfl _ _ _ rfl (fun w hw => zv (zB p1 w hw) Tryz.isAgg95 (by kernel_rfl)) (by rfl) ?_; simp only [zo]; go_big_quiet_on) | (go_big_quiet_op; first | go_big_quiet_on | go_big_quiet_call ((fail)))))
    refine wpQuiet_nil ?_; intro wn za; have zf := B.size; have zg := za.size; replace B := B.trans (za.mono B.size); go_wp2; go_ret2
    exact ⟨by rw [← FIN.out, HH.out]; try rfl, B⟩
theorem uu (v : Value) (ls : List TA) (x y : Int) (w : World) (h : RS v ls w) (hs : uO ls) (hn : ls.length ≤ 1000000) : Calls Tryz.prog 130 #[v, .agg #[.int .i64 x, .int .i64 y]] w fun e w' => e = .returned (.tuple #[.int .i64 (cutL ls x y : Int), .bool (y6 ls x y)]) ∧ Below w.heap.size w w' := by
 have B := Below.refl w.heap.size w
 have HS := Lib.hid h
 have SR := Lib.hid hs
 clear h hs
 go_enter Tryz.func130, Tryz.ntmps130
 go_wp2_with (first | (go_at_call 164; refine (zb2 _ ls x y _ (HS.out.below B) SR.out hn).mono ?_; rintro e wn ⟨rfl, za⟩; have zf := B.size; have zg := za.size; replace B := B.trans (za.mono B.size); (try replace p1 := p1.below za)) | (refine zp (t := 95) rfl _ rfl _ _ _ rfl (zv p1 Tryz.isAgg95 (by kernel_rfl)) (by rfl) ?_; simp only [zo]) | (refine zt (t := 95) rfl _ rfl _ rfl (zY B ?_); clear B; intro b_p1 wn zb zd p1 za zf zk B; (try have zh := p1.lt); (try replace p1 := p1.below (za.mono zb)); simp only [zo]) | fail)
 go_ret2
 exact ⟨rfl, B⟩
/- Contracts of tiles, with, made, Put, Set, Get of package raster. -/
theorem xr.chg {B b : Nat} {v : Value} {ls : List TA} {w w' : World} (h : xr B v ls w) (hc : qV b w w') (hb : b < B) : xr B v ls w' := by
 refine World.ownsRow.kept (row := some b) h ⟨hc.os, hc.tape, hc.output, hc.size, fun k hk hne => hc.block k hk (fun e => hne (by rw [e]))⟩ ?_
 cases hv : v.ownBlock with
 | none => exact .inl rfl
 | some k =>
  right
  intro e
  injection e with e
  have := World.ownsRow.lt h k hv; omega
theorem zeW {g o : Nat} {ls : List TA} {w : World} (sc : 0 < ls.length → qt g o ls w) {k : Nat} (hk : k ≤ ls.length) : RS (.slice (some ⟨g, o, none⟩) k k) (ls.take k) w := by
 have hl : (ls.take k).length = k := by rw [List.length_take]; omega
 refine .inr ⟨g, o, k, by rw [hl], by omega, fun h => (sc (by omega)).take k⟩
theorem X8 {g o c : Nat} {ls : List TA} {w : World} (sc : 0 < ls.length → qt g o ls w) (hc : ls.length ≤ c) {k : Nat} (hk : k ≤ ls.length) : RS (.slice (if c = k then some ⟨g, o, none⟩ else some ⟨g, o + k * 258, none⟩) (ls.length - k) (c - k)) (ls.drop k) w := by
 have hl : (ls.drop k).length = ls.length - k := List.length_drop ..
 by_cases e : c = k
 ·rw [if_pos e]
  exact .inr ⟨g, o, c - k, by rw [hl], by omega, fun h => absurd h (by omega)⟩
 ·rw [if_neg e]
  exact .inr ⟨g, o + k * 258, c - k, by rw [hl], by omega, fun h => (sc (by omega)).drop k⟩
theorem qA (w : World) (o : Oper) (ho : o.op = .alloc 64) (ev : Operand → Value) : (execOp ev o).run Tryz.prog w = .ok (.value (.pointer (some ⟨w.heap.size, 0, none⟩))) (w.alloc (.cells #[.slice none 0 0] 64)) := by
 obtain ⟨d, p, t, ps, af, gd⟩ := o
 simp only at ho
 subst ho
 kernel_rfl
/-- A row of tiles is no small block. -/
theorem RS.chg {v : Value} {ls : List TA} {t : TypeId} {b : Nat} {cs : Array Value} {w w' : World} (h : RS v ls w) (hb : zK t w b cs) (hs : cs.size < 258) (hc : qV b w w') : RS v ls w' := by
 rcases h with h | ⟨g, o, c, e, hcap, sc⟩
 ·exact .inl h
 ·refine .inr ⟨g, o, c, e, hcap, fun hn => (sc hn).of_eq (hc.block g (sc hn).lt fun hg => ?_)⟩
  subst hg; have h1 := (sc hn).2 0 hn 257 (by omega); rw [cell_of_row w g _ cs _ (0, 0) hb] at h1; have h2 : (xX (aT ls 0))[257]? ≠ none := by
   rw [Ne, Array.getElem?_eq_none_iff, zS]; omega
  rw [← h1, Ne, Array.getElem?_eq_none_iff] at h2; omega
theorem qY {o : Oper} {a : Act} {w : World} {Q : Exit → Act → World → Prop} {K : Act → World → Prop} {t : TypeId} {cs : Array Value} (x y : Operand) (b : Nat) (cs' : Array Value) (ho : o.op = .store t x y) (hx : a.eval x = .pointer (some ⟨b, 0, none⟩)) (hy : a.eval y = .agg cs') (ht : zK t w b cs) (zf : (Tryz.prog.info? t).map (·.size) = some cs'.size) (hss : cs'.size = cs.size) (hone : cs'.all (·.oneCell') = true)
  (h : ∀ w', zK t w' b cs' → qV b w w' → w'.heap.size = w.heap.size → K (a.put o.dst undef) w') : o.wp Tryz.prog a w K Q := by
 unfold Oper.wp execOp
 simp only [ho, hx, hy, Z0 ht zf hss hone, Sem.run_bind, Sem.run_pure, Result.andThen_ok]
 exact h _ (ht.setRow cs') ((qV.refl b w).setRow _) (size_setRow _ _ _)
/-! ### tiles -/
theorem YM (a : Option Addr) (c : Nat) (ls : List TA) (w : World) (h : RS (.slice a ls.length c) ls w) (tk : qN ls) (hn : ls.length ≤ maxLen) : Calls Tryz.prog 104 #[.agg #[.slice a ls.length c]] w fun e w' => e = .returned (if z2 ls = true then .slice a ls.length c else .slice none 0 0) ∧ Below w.heap.size w w' := by
 have B := Below.refl w.heap.size w
 have HS := Lib.hid h
 clear h
 cases hv : z2 ls with
 | true =>
  rw [if_pos rfl]; go_enter Tryz.func104, Tryz.ntmps104
  go_wp2_with (first | (go_at_call 41; refine (Xx _ ls _ (HS.out.below B) tk hn).mono ?_; rintro e wn ⟨rfl, za⟩; have zf := B.size; have zg := za.size; replace B := B.trans (za.mono B.size); (try replace r1 := r1.below za)) | (refine zp (t := 64) rfl _ rfl _ _ _ rfl (zv r1 Tryz.isAgg64 (by kernel_rfl)) (by rfl) ?_; simp only [zo]) | (refine zp (t := 62) rfl _ rfl _ _ _ rfl (zx r1.cell0) (by rfl) ?_; simp only [zo]) | (refine zt (t := 64) rfl _ rfl _ rfl (zY B ?_); clear B; intro b_r1 wn zb zd r1 za zf zk B; (try have zh := r1.lt); (try replace r1 := r1.below (za.mono zb)); simp only [zo]) | fail)
  go_ret; exact ⟨rfl, B⟩
 | false =>
  rw [if_neg (by decide)]; go_enter Tryz.func104, Tryz.ntmps104
  go_wp2_with (first | (go_at_call 41; refine (Xx _ ls _ (HS.out.below B) tk hn).mono ?_; rintro e wn ⟨rfl, za⟩; have zf := B.size; have zg := za.size; replace B := B.trans (za.mono B.size); (try replace r1 := r1.below za)) | (refine zp (t := 64) rfl _ rfl _ _ _ rfl (zv r1 Tryz.isAgg64 (by kernel_rfl)) (by rfl) ?_; simp only [zo]) | (refine zp (t := 62) rfl _ rfl _ _ _ rfl (zx r1.cell0) (by rfl) ?_; simp only [zo]) | (refine zt (t := 64) rfl _ rfl _ rfl (zY B ?_); clear B; intro b_r1 wn zb zd r1 za zf zk B; (try have zh := r1.lt); (try replace r1 := r1.below (za.mono zb)); simp only [zo]) | fail)
  go_ret; exact ⟨rfl, B⟩
/-- The tiles of a valid raster: a slice that is known ahead of the walk. -/
theorem Qj (v : Value) (ls : List TA) (w : World) (h : RS v ls w) (tk : qN ls) (hn : ls.length ≤ maxLen) : ∃ a c, ∀ w', Below w.heap.size w w' → (Calls Tryz.prog 104 #[.agg #[v]] w' fun e w'' => e = .returned (.slice a (qc ls).length c) ∧ Below w'.heap.size w' w'') ∧ RS (.slice a (qc ls).length c) (qc ls) w' := by
 obtain ⟨a, c, rfl, hc⟩ := h.len
 cases hv : z2 ls with
 | true =>
  rw [xy hv]; refine ⟨a, c, fun w' hb => ⟨?_, h.below hb⟩⟩; have := YM a c ls w' (h.below hb) tk hn; rw [hv, if_pos rfl] at this; exact this
 | false =>
  rw [QV hv]; refine ⟨none, 0, fun w' hb => ⟨?_, RS.nil _⟩⟩; have := YM a c ls w' (h.below hb) tk hn; rw [hv, if_neg (by decide)] at this; exact this
/-! ### with -/
theorem ym (v : Value) (ls : List TA) (w : World) (h : RS v ls w) (hn : ls.length ≤ 4000) : Calls Tryz.prog 78 #[v] w fun e w' => ∃ v' b, e = .returned v' ∧ w.heap.size ≤ b ∧ b ≤ w.heap.size ∧ xr b v' ls w' ∧ Below w.heap.size w w' :=
 (zdQ v ls w h hn).mono fun e w' ⟨v', he, ho, hb⟩ => ⟨v', _, he, Nat.le_refl _, Nat.le_refl _, ho, hb⟩
set_option maxHeartbeats 1000000 in
theorem XA (v : Value) (ls : List TA) (x y : Int) (t : Nat → Px) (w : World) (h : RS v ls w) (hs : uO ls) (ht : Zr t) (hn : ls.length ≤ 4000) : Calls Tryz.prog 132 #[v, .agg #[.int .i64 x, .int .i64 y], Tile.v t] w fun e w' => ∃ v', e = .returned v' ∧ RS v' (xS ls x y t) w' ∧ Below w.heap.size w w' := by
 have B := Below.refl w.heap.size w
 have HS := Lib.hid h
 have SR := Lib.hid hs
 have hcl := uT ls x y
 rcases h with ⟨rfl, rfl⟩ | ⟨g, o, c, rfl, hc, sc⟩
 ·have hcut : cutL ([] : List TA) x y = 0 := rfl
  have hhit : y6 ([] : List TA) x y = false := rfl; have hp := vr ([] : List TA) x y t; rw [hhit, hcut] at hp; have HP := Lib.hid hp; clear hp hs hcl hn; cases hz : jh t with
  | true =>
   have HN := Lib.hid (show jm x y t = [] from by unfold jm; rw [hz]; rfl)
   go_enter Tryz.func132, Tryz.ntmps132
   go_wp2_with (first | (at_builtin; refine qe rfl _ _ rfl _ _ rfl rfl od ((RS.nil _)) (by simp) (by omega) ?_; intro v_od wn ht za; have zf := B.size; have zg := za.size; replace B := B.trans (za.mono (by omega)); clear od; (try replace p1 := p1.of_eq (za.block _ (by omega))); (try replace u1 := u1.of_eq (za.block _ (by omega))); have od := ht; clear ht; simp only [zo]) | (go_at_call 78; have qp := p1.lt; have qu := u1.lt; refine (ym _ ([]) _ (RS.nil _) (by first | (rw [List.length_take]; omega) | simp)).mono ?_; rintro e wn ⟨v_od, b_od, rfl, zb, zd, od, za⟩; have zf := B.size; have zg := za.size; replace B := B.trans (za.mono B.size); (try replace p1 := p1.below za); (try replace u1 := u1.below za); (try replace od := od.below za)) | (go_at_call 130; refine (uu _ [] x y _ (HS.out.below B) SR.out (by first | omega | simp)).mono ?_; rintro e wn ⟨rfl, za⟩; have zf := B.size; have zg := za.size; replace B := B.trans (za.mono B.size); (try replace p1 := p1.below za); (try replace u1 := u1.below za); (try replace od := od.below za)) | (go_at_call 100; refine (yn _ _ ht).mono ?_; rintro e wn ⟨rfl, za⟩; have zf := B.size; have zg := za.size; replace B := B.trans (za.mono B.size); (try replace p1 := p1.below za); (try replace u1 := u1.below za); (try replace od := od.below za)) | (refine qM rfl _ rfl _ rfl u1 ?_; simp only [zo]) | (refine zp (t := 95) rfl _ rfl _ _ _ rfl (zv p1 Tryz.isAgg95 (by kernel_rfl)) (by rfl) ?_; simp only [zo]) | (have _ := p1; refine jt rfl _ rfl _ rfl (zY B ?_); clear B; intro b_u1 wn zb zd u1 za zf zk B; (try have zh := p1.lt); (try replace p1 := p1.below (za.mono zb)); (try have zh := u1.lt); (try replace u1 := u1.below (za.mono zb)); (try have zh := od.lt); (try replace od := od.below (za.mono zb)); simp only [zo]) | (refine zt (t := 95) rfl _ rfl _ rfl (zY B ?_); clear B; intro b_p1 wn zb zd p1 za zf zk B; (try have zh := p1.lt); (try replace p1 := p1.below (za.mono zb)); (try have zh := u1.lt); (try replace u1 := u1.below (za.mono zb)); (try have zh := od.lt); (try replace od := od.below (za.mono zb)); simp only [zo]) | fail)
   go_ret; refine ⟨_, rfl, ?_, B⟩; have e := od.rs; rw [HP.out, HN.out]
   simpa using e
  | false =>
   have HN := Lib.hid (show jm x y t = [⟨x, y, t⟩] from by unfold jm; rw [hz]; rfl)
   go_enter Tryz.func132, Tryz.ntmps132
   go_wp2_with (first | (at_builtin; refine qe rfl _ _ rfl _ _ rfl rfl od ((RS.nil _)) (by simp) (by omega) ?_; intro v_od wn ht za; have zf := B.size; have zg := za.size; replace B := B.trans (za.mono (by omega)); clear od; (try replace p1 := p1.of_eq (za.block _ (by omega))); (try replace u1 := u1.of_eq (za.block _ (by omega))); have od := ht; clear ht; simp only [zo]) | (at_builtin; refine qe rfl _ _ rfl _ _ rfl rfl od ((RS.one s1)) (by simp) (by omega) ?_; intro v_od wn ht za; have zf := B.size; have zg := za.size; replace B := B.trans (za.mono (by omega)); clear od; (try replace p1 := p1.of_eq (za.block _ (by omega))); (try replace u1 := u1.of_eq (za.block _ (by omega))); have od := ht; clear ht; simp only [zo]) | (refine jy rfl _ rfl ⟨x, y, t⟩ (by rfl) (zY B ?_); clear B; intro b_s1 wn zb zd s1 za zf zk B; (try have zh := p1.lt); (try replace p1 := p1.below (za.mono zb)); (try have zh := u1.lt); (try replace u1 := u1.below (za.mono zb)); (try have zh := od.lt); (try replace od := od.below (za.mono zb)); simp only [zo]) | (refine xJ rfl _ _ rfl x y t (by rfl) (by rfl) ?_; simp only [zo]) | (go_at_call 78; have qp := p1.lt; have qu := u1.lt; refine (ym _ ([]) _ (RS.nil _) (by first | (rw [List.length_take]; omega) | simp)).mono ?_; rintro e wn ⟨v_od, b_od, rfl, zb, zd, od, za⟩; have zf := B.size; have zg := za.size; replace B := B.trans (za.mono B.size); (try replace p1 := p1.below za); (try replace u1 := u1.below za); (try replace od := od.below za)) | (go_at_call 130; refine (uu _ [] x y _ (HS.out.below B) SR.out (by first | omega | simp)).mono ?_; rintro e wn ⟨rfl, za⟩; have zf := B.size; have zg := za.size; replace B := B.trans (za.mono B.size); (try replace p1 := p1.below za); (try replace u1 := u1.below za); (try replace od := od.below za)) | (go_at_call 100; refine (yn _ _ ht).mono ?_; rintro e wn ⟨rfl, za⟩; have zf := B.size; have zg := za.size; replace B := B.trans (za.mono B.size); (try replace p1 := p1.below za); (try replace u1 := u1.below za); (try replace od := od.below za)) | (refine qM rfl _ rfl _ rfl u1 ?_; simp only [zo]) | (refine zp (t := 95) rfl _ rfl _ _ _ rfl (zv p1 Tryz.isAgg95 (by kernel_rfl)) (by rfl) ?_; simp only [zo]) | (have _ := p1; refine jt rfl _ rfl _ rfl (zY B ?_); clear B; intro b_u1 wn zb zd u1 za zf zk B; (try have zh := p1.lt); (try replace p1 := p1.below (za.mono zb)); (try have zh := u1.lt); (try replace u1 := u1.below (za.mono zb)); (try have zh := od.lt); (try replace od := od.below (za.mono zb)); simp only [zo]) | (refine zt (t := 95) rfl _ rfl _ rfl (zY B ?_); clear B; intro b_p1 wn zb zd p1 za zf zk B; (try have zh := p1.lt); (try replace p1 := p1.below (za.mono zb)); (try have zh := u1.lt); (try replace u1 := u1.below (za.mono zb)); (try have zh := od.lt); (try replace od := od.below (za.mono zb)); simp only [zo]) | fail)
   go_ret; refine ⟨_, rfl, ?_, B⟩; have e := od.rs; rw [HP.out, HN.out]
   simpa using e
 ·have h : RS (.slice (some ⟨g, o, none⟩) ls.length c) ls w := .inr ⟨g, o, c, rfl, hc, sc⟩
  have HT := Lib.hid (zeW sc hcl); have HC := Lib.hid (vr ls x y t); have ze : cutL ls x y ≤ c := by omega
  cases hh : y6 ls x y with
  | true =>
   have hk : cutL ls x y + 1 ≤ ls.length := by
    first
     | exact hcl
     | (unfold y6 at hh; have := of_decide_eq_true (Bool.and_eq_true_iff.1 hh).1; omega)
   have HR := Lib.hid (X8 sc hc hk); cases hz : jh t with
   | true =>
    have HN := Lib.hid (show jm x y t = [] from by unfold jm; rw [hz]; rfl)
    have HH := Lib.hid hh; clear hs sc h; go_enter Tryz.func132, Tryz.ntmps132
    go_wp2_with (first | (at_builtin; refine qe rfl _ _ rfl _ _ rfl rfl od ((HR.out.below B)) (by simp; omega) (by omega) ?_; intro v_od wn ht za; have zf := B.size; have zg := za.size; replace B := B.trans (za.mono (by omega)); clear od; (try replace p1 := p1.of_eq (za.block _ (by omega))); (try replace u1 := u1.of_eq (za.block _ (by omega))); have od := ht; clear ht; simp only [zo]) | (go_at_call 78; have qp := p1.lt; have qu := u1.lt; refine (ym _ (ls.take (cutL ls x y)) _ (HT.out.below B) (by first | (rw [List.length_take]; omega) | simp)).mono ?_; rintro e wn ⟨v_od, b_od, rfl, zb, zd, od, za⟩; have zf := B.size; have zg := za.size; replace B := B.trans (za.mono B.size); (try replace p1 := p1.below za); (try replace u1 := u1.below za); (try replace od := od.below za)) | (go_at_call 130; refine (uu _ ls x y _ (HS.out.below B) SR.out (by first | omega | simp)).mono ?_; rintro e wn ⟨rfl, za⟩; have zf := B.size; have zg := za.size; replace B := B.trans (za.mono B.size); (try replace p1 := p1.below za); (try replace u1 := u1.below za); (try replace od := od.below za)) | (go_at_call 100; refine (yn _ _ ht).mono ?_; rintro e wn ⟨rfl, za⟩; have zf := B.size; have zg := za.size; replace B := B.trans (za.mono B.size); (try replace p1 := p1.below za); (try replace u1 := u1.below za); (try replace od := od.below za)) | (refine qM rfl _ rfl _ rfl u1 ?_; simp only [zo]) | (refine zp (t := 95) rfl _ rfl _ _ _ rfl (zv p1 Tryz.isAgg95 (by kernel_rfl)) (by rfl) ?_; simp only [zo]) | (have _ := p1; refine jt rfl _ rfl _ rfl (zY B ?_); clear B; intro b_u1 wn zb zd u1 za zf zk B; (try have zh := p1.lt); (try replace p1 := p1.below (za.mono zb)); (try have zh := u1.lt); (try replace u1 := u1.below (za.mono zb)); (try have zh := od.lt); (try replace od := od.below (za.mono zb)); simp only [zo]) | (refine zt (t := 95) rfl _ rfl _ rfl (zY B ?_); clear B; intro b_p1 wn zb zd p1 za zf zk B; (try have zh := p1.lt); (try replace p1 := p1.below (za.mono zb)); (try have zh := u1.lt); (try replace u1 := u1.below (za.mono zb)); (try have zh := od.lt); (try replace od := od.below (za.mono zb)); simp only [zo]) | fail)
    all_goals
     go_ret; refine ⟨_, rfl, ?_, B⟩; have e := od.rs; rw [HC.out, HN.out, HH.out]
     simpa using e
   | false =>
    have HN := Lib.hid (show jm x y t = [⟨x, y, t⟩] from by unfold jm; rw [hz]; rfl)
    have HH := Lib.hid hh; clear hs sc h; go_enter Tryz.func132, Tryz.ntmps132
    go_wp2_with (first | (at_builtin; refine qe rfl _ _ rfl _ _ rfl rfl od ((HR.out.below B)) (by simp; omega) (by omega) ?_; intro v_od wn ht za; have zf := B.size; have zg := za.size; replace B := B.trans (za.mono (by omega)); clear od; (try replace p1 := p1.of_eq (za.block _ (by omega))); (try replace u1 := u1.of_eq (za.block _ (by omega))); have od := ht; clear ht; simp only [zo]) | (at_builtin; refine qe rfl _ _ rfl _ _ rfl rfl od ((RS.one s1)) (by simp; omega) (by omega) ?_; intro v_od wn ht za; have zf := B.size; have zg := za.size; replace B := B.trans (za.mono (by omega)); clear od; (try replace p1 := p1.of_eq (za.block _ (by omega))); (try replace u1 := u1.of_eq (za.block _ (by omega))); have od := ht; clear ht; simp only [zo]) | (refine jy rfl _ rfl ⟨x, y, t⟩ (by rfl) (zY B ?_); clear B; intro b_s1 wn zb zd s1 za zf zk B; (try have zh := p1.lt); (try replace p1 := p1.below (za.mono zb)); (try have zh := u1.lt); (try replace u1 := u1.below (za.mono zb)); (try have zh := od.lt); (try replace od := od.below (za.mono zb)); simp only [zo]) | (refine xJ rfl _ _ rfl x y t (by rfl) (by rfl) ?_; simp only [zo]) | (go_at_call 78; have qp := p1.lt; have qu := u1.lt; refine (ym _ (ls.take (cutL ls x y)) _ (HT.out.below B) (by first | (rw [List.length_take]; omega) | simp)).mono ?_; rintro e wn ⟨v_od, b_od, rfl, zb, zd, od, za⟩; have zf := B.size; have zg := za.size; replace B := B.trans (za.mono B.size); (try replace p1 := p1.below za); (try replace u1 := u1.below za); (try replace od := od.below za)) | (go_at_call 130; refine (uu _ ls x y _ (HS.out.below B) SR.out (by first | omega | simp)).mono ?_; rintro e wn ⟨rfl, za⟩; have zf := B.size; have zg := za.size; replace B := B.trans (za.mono B.size); (try replace p1 := p1.below za); (try replace u1 := u1.below za); (try replace od := od.below za)) | (go_at_call 100; refine (yn _ _ ht).mono ?_; rintro e wn ⟨rfl, za⟩; have zf := B.size; have zg := za.size; replace B := B.trans (za.mono B.size); (try replace p1 := p1.below za); (try replace u1 := u1.below za); (try replace od := od.below za)) | (refine qM rfl _ rfl _ rfl u1 ?_; simp only [zo]) | (refine zp (t := 95) rfl _ rfl _ _ _ rfl (zv p1 Tryz.isAgg95 (by kernel_rfl)) (by rfl) ?_; simp only [zo]) | (have _ := p1; refine jt rfl _ rfl _ rfl (zY B ?_); clear B; intro b_u1 wn zb zd u1 za zf zk B; (try have zh := p1.lt); (try replace p1 := p1.below (za.mono zb)); (try have zh := u1.lt); (try replace u1 := u1.below (za.mono zb)); (try have zh := od.lt); (try replace od := od.below (za.mono zb)); simp only [zo]) | (refine zt (t := 95) rfl _ rfl _ rfl (zY B ?_); clear B; intro b_p1 wn zb zd p1 za zf zk B; (try have zh := p1.lt); (try replace p1 := p1.below (za.mono zb)); (try have zh := u1.lt); (try replace u1 := u1.below (za.mono zb)); (try have zh := od.lt); (try replace od := od.below (za.mono zb)); simp only [zo]) | fail)
    all_goals
     go_ret; refine ⟨_, rfl, ?_, B⟩; have e := od.rs; rw [HC.out, HN.out, HH.out]
     simpa using e
  | false =>
   have hk : cutL ls x y ≤ ls.length := by
    first
     | exact hcl
     | (unfold y6 at hh; have := of_decide_eq_true (Bool.and_eq_true_iff.1 hh).1; omega)
   have HR := Lib.hid (X8 sc hc hk); cases hz : jh t with
   | true =>
    have HN := Lib.hid (show jm x y t = [] from by unfold jm; rw [hz]; rfl)
    have HH := Lib.hid hh; clear hs sc h; go_enter Tryz.func132, Tryz.ntmps132
    go_wp2_with (first | (at_builtin; refine qe rfl _ _ rfl _ _ rfl rfl od ((HR.out.below B)) (by simp; omega) (by omega) ?_; intro v_od wn ht za; have zf := B.size; have zg := za.size; replace B := B.trans (za.mono (by omega)); clear od; (try replace p1 := p1.of_eq (za.block _ (by omega))); (try replace u1 := u1.of_eq (za.block _ (by omega))); have od := ht; clear ht; simp only [zo]) | (go_at_call 78; have qp := p1.lt; have qu := u1.lt; refine (ym _ (ls.take (cutL ls x y)) _ (HT.out.below B) (by first | (rw [List.length_take]; omega) | simp)).mono ?_; rintro e wn ⟨v_od, b_od, rfl, zb, zd, od, za⟩; have zf := B.size; have zg := za.size; replace B := B.trans (za.mono B.size); (try replace p1 := p1.below za); (try replace u1 := u1.below za); (try replace od := od.below za)) | (go_at_call 130; refine (uu _ ls x y _ (HS.out.below B) SR.out (by first | omega | simp)).mono ?_; rintro e wn ⟨rfl, za⟩; have zf := B.size; have zg := za.size; replace B := B.trans (za.mono B.size); (try replace p1 := p1.below za); (try replace u1 := u1.below za); (try replace od := od.below za)) | (go_at_call 100; refine (yn _ _ ht).mono ?_; rintro e wn ⟨rfl, za⟩; have zf := B.size; have zg := za.size; replace B := B.trans (za.mono B.size); (try replace p1 := p1.below za); (try replace u1 := u1.below za); (try replace od := od.below za)) | (refine qM rfl _ rfl _ rfl u1 ?_; simp only [zo]) | (refine zp (t := 95) rfl _ rfl _ _ _ rfl (zv p1 Tryz.isAgg95 (by kernel_rfl)) (by rfl) ?_; simp only [zo]) | (have _ := p1; refine jt rfl _ rfl _ rfl (zY B ?_); clear B; intro b_u1 wn zb zd u1 za zf zk B; (try have zh := p1.lt); (try replace p1 := p1.below (za.mono zb)); (try have zh := u1.lt); (try replace u1 := u1.below (za.mono zb)); (try have zh := od.lt); (try replace od := od.below (za.mono zb)); simp only [zo]) | (refine zt (t := 95) rfl _ rfl _ rfl (zY B ?_); clear B; intro b_p1 wn zb zd p1 za zf zk B; (try have zh := p1.lt); (try replace p1 := p1.below (za.mono zb)); (try have zh := u1.lt); (try replace u1 := u1.below (za.mono zb)); (try have zh := od.lt); (try replace od := od.below (za.mono zb)); simp only [zo]) | fail)
    all_goals
     go_ret; refine ⟨_, rfl, ?_, B⟩; have e := od.rs; rw [HC.out, HN.out, HH.out]
     simpa using e
   | false =>
    have HN := Lib.hid (show jm x y t = [⟨x, y, t⟩] from by unfold jm; rw [hz]; rfl)
    have HH := Lib.hid hh; clear hs sc h; go_enter Tryz.func132, Tryz.ntmps132
    go_wp2_with (first | (at_builtin; refine qe rfl _ _ rfl _ _ rfl rfl od ((HR.out.below B)) (by simp; omega) (by omega) ?_; intro v_od wn ht za; have zf := B.size; have zg := za.size; replace B := B.trans (za.mono (by omega)); clear od; (try replace p1 := p1.of_eq (za.block _ (by omega))); (try replace u1 := u1.of_eq (za.block _ (by omega))); have od := ht; clear ht; simp only [zo]) | (at_builtin; refine qe rfl _ _ rfl _ _ rfl rfl od ((RS.one s1)) (by simp; omega) (by omega) ?_; intro v_od wn ht za; have zf := B.size; have zg := za.size; replace B := B.trans (za.mono (by omega)); clear od; (try replace p1 := p1.of_eq (za.block _ (by omega))); (try replace u1 := u1.of_eq (za.block _ (by omega))); have od := ht; clear ht; simp only [zo]) | (refine jy rfl _ rfl ⟨x, y, t⟩ (by rfl) (zY B ?_); clear B; intro b_s1 wn zb zd s1 za zf zk B; (try have zh := p1.lt); (try replace p1 := p1.below (za.mono zb)); (try have zh := u1.lt); (try replace u1 := u1.below (za.mono zb)); (try have zh := od.lt); (try replace od := od.below (za.mono zb)); simp only [zo]) | (refine xJ rfl _ _ rfl x y t (by rfl) (by rfl) ?_; simp only [zo]) | (go_at_call 78; have qp := p1.lt; have qu := u1.lt; refine (ym _ (ls.take (cutL ls x y)) _ (HT.out.below B) (by first | (rw [List.length_take]; omega) | simp)).mono ?_; rintro e wn ⟨v_od, b_od, rfl, zb, zd, od, za⟩; have zf := B.size; have zg := za.size; replace B := B.trans (za.mono B.size); (try replace p1 := p1.below za); (try replace u1 := u1.below za); (try replace od := od.below za)) | (go_at_call 130; refine (uu _ ls x y _ (HS.out.below B) SR.out (by first | omega | simp)).mono ?_; rintro e wn ⟨rfl, za⟩; have zf := B.size; have zg := za.size; replace B := B.trans (za.mono B.size); (try replace p1 := p1.below za); (try replace u1 := u1.below za); (try replace od := od.below za)) | (go_at_call 100; refine (yn _ _ ht).mono ?_; rintro e wn ⟨rfl, za⟩; have zf := B.size; have zg := za.size; replace B := B.trans (za.mono B.size); (try replace p1 := p1.below za); (try replace u1 := u1.below za); (try replace od := od.below za)) | (refine qM rfl _ rfl _ rfl u1 ?_; simp only [zo]) | (refine zp (t := 95) rfl _ rfl _ _ _ rfl (zv p1 Tryz.isAgg95 (by kernel_rfl)) (by rfl) ?_; simp only [zo]) | (have _ := p1; refine jt rfl _ rfl _ rfl (zY B ?_); clear B; intro b_u1 wn zb zd u1 za zf zk B; (try have zh := p1.lt); (try replace p1 := p1.below (za.mono zb)); (try have zh := u1.lt); (try replace u1 := u1.below (za.mono zb)); (try have zh := od.lt); (try replace od := od.below (za.mono zb)); simp only [zo]) | (refine zt (t := 95) rfl _ rfl _ rfl (zY B ?_); clear B; intro b_p1 wn zb zd p1 za zf zk B; (try have zh := p1.lt); (try replace p1 := p1.below (za.mono zb)); (try have zh := u1.lt); (try replace u1 := u1.below (za.mono zb)); (try have zh := od.lt); (try replace od := od.below (za.mono zb)); simp only [zo]) | fail)
    all_goals
     go_ret; refine ⟨_, rfl, ?_, B⟩; have e := od.rs; rw [HC.out, HN.out, HH.out]
     simpa using e
/-! ### made -/
theorem zbW (a : Option Addr) (n c : Nat) (w : World) (hn : n ≤ maxLen) : Calls Tryz.prog 133 #[.slice a n c] w fun e w' => e = .returned (if n ≤ 1024 then .tuple #[.agg #[.slice a n c], .int .i64 0] else .tuple #[.agg #[.slice none 0 0], .int .i64 2]) ∧ Below w.heap.size w w' := by
 have B := Below.refl w.heap.size w
 by_cases h : n ≤ 1024
 ·rw [if_pos h]
  have d1 : decide (1024 < (n : Int)) = false := decide_eq_false (by omega); go_enter Tryz.func133, Tryz.ntmps133
  go_wp2_with (first | (refine zq (t := 64) rfl _ _ rfl _ rfl _ rfl r1 (by kernel_rfl) rfl (by simp [Value.oneCell']) (qG B (by omega) ?_); clear r1 B; intro wn r1 ze zf zg B; simp only [zo]) | (refine zr (t := 64) rfl _ (qA _ _ rfl) (zY B ?_); clear B; intro b_r1 wn zb zd r1 za zf zk B; (try have zh := r1.lt); (try replace r1 := r1.below (za.mono zb)); simp only [zo]) | fail)
  refine bodyPost_ret (zV (t := 64) rfl _ _ (b_r1) rfl _ rfl r1 Tryz.isAgg64 (by kernel_rfl)) rfl ?_; exact ⟨rfl, B⟩
 ·rw [if_neg h]
  have d1 : decide (1024 < (n : Int)) = true := decide_eq_true (by omega); go_enter Tryz.func133, Tryz.ntmps133
  go_wp2_with (first | (refine zq (t := 64) rfl _ _ rfl _ rfl _ rfl r1 (by kernel_rfl) rfl (by simp [Value.oneCell']) (qG B (by omega) ?_); clear r1 B; intro wn r1 ze zf zg B; simp only [zo]) | (refine zr (t := 64) rfl _ (qA _ _ rfl) (zY B ?_); clear B; intro b_r1 wn zb zd r1 za zf zk B; (try have zh := r1.lt); (try replace r1 := r1.below (za.mono zb)); simp only [zo]) | fail)
  refine bodyPost_ret (zV (t := 64) rfl _ _ (b_r1) rfl _ rfl r1 Tryz.isAgg64 (by kernel_rfl)) rfl ?_; exact ⟨rfl, B⟩
/-! ### Put -/
/- Contracts of Set and Get of package raster. -/
theorem zaG (ls : List TA) (x y : Int) : VB (zU ls (x / 8) (y / 8)) (x % 8) (y % 8) = xm ls x y := by
 have : yu (x % 8) (y % 8) = true := decide_eq_true (by omega)
 unfold VB xm posI
 rw [if_pos this]
theorem us {x : Int} (h1 : -9223372036854775808 ≤ x) (h2 : x ≤ 9223372036854775807) : (Lit.int .i64 x).wf = true := by
 have hmin : IntKind.i64.min = -9223372036854775808 := rfl
 have hmax : IntKind.i64.max = 9223372036854775807 := rfl
 simp only [Lit.wf, Bool.and_eq_true, decide_eq_true_eq]
 rw [hmin, hmax]
 exact ⟨h1, h2⟩
theorem zfm {x : Int} (h : (Lit.int .i64 x).wf = true) : -9223372036854775808 ≤ x ∧ x ≤ 9223372036854775807 := by
 have hmin : IntKind.i64.min = -9223372036854775808 := rfl
 have hmax : IntKind.i64.max = 9223372036854775807 := rfl
 simp only [Lit.wf, Bool.and_eq_true, decide_eq_true_eq] at h
 rw [hmin, hmax] at h
 exact h
set_option maxHeartbeats 1000000 in
theorem zbI (v : Value) (ls : List TA) (x y : Int) (w : World) (h : RS v ls w) (hn : ls.length ≤ maxLen) (hx : (Lit.int .i64 x).wf = true) (hy : (Lit.int .i64 y).wf = true) : Calls Tryz.prog 31 #[.agg #[v], .int .i64 x, .int .i64 y] w fun e w' => e = .returned (Px.v (xm ls x y)) ∧ Below w.heap.size w w' := by
 have B := Below.refl w.heap.size w
 obtain ⟨a, c, rfl, hc⟩ := h.len
 have HS := Lib.hid h
 clear h
 rw [← zaG]
 have b1 := JV x
 have b2 := JV y
 go_enter Tryz.func31, Tryz.ntmps31
 go_wp2_with (first | (have _ := r1; refine qq rfl rfl (zY B ?_); clear B; intro b_q1 wn zb zd q1 za zf zk B; (try have zh := r1.lt); (try replace r1 := r1.below (za.mono zb)); (try have zh := q1.lt); (try replace q1 := q1.below (za.mono zb)); simp only [zo]) | (refine zt (t := 64) rfl _ rfl _ rfl (zY B ?_); clear B; intro b_r1 wn zb zd r1 za zf zk B; (try have zh := r1.lt); (try replace r1 := r1.below (za.mono zb)); (try have zh := q1.lt); (try replace q1 := q1.below (za.mono zb)); simp only [zo]) | fail)
 have rs := HS.out.below B
 refine qZ 11 (by kernel_rfl) (by kernel_rfl) ?_
 simp only [List.take_succ_cons, List.take_zero, List.drop_succ_cons, List.drop_zero]
 repeat (first | go_big_quiet_skip | (go_big_quiet_want; first | (refine zn (t := 64) rfl _ _ _ rfl (fun w hw => zv (zB r1 w hw) Tryz.isAgg64 (by kernel_rfl)) (by rfl) ?_; simp only [zo]; go_big_quiet_on) | (go_big_quiet_op; first | go_big_quiet_on | go_big_quiet_call ((first | (go_at_call 81; exact zC (zgn _ _ _ hx hy)) | (go_at_call 80; exact zC (zft _ ls _ _ _ (zgU rs _ ⟨_, rfl⟩) hn)) | (go_at_call 79; exact zC (zgo _ _ _ _)))))))
 refine wpQuiet_nil ?_
 intro wn za
 have zf := B.size
 have zg := za.size
 replace B := B.trans (za.mono B.size)
 try replace q1 := q1.below za
 go_wp2_with (first | (refine qf rfl _ _ rfl _ rfl (_) rfl q1 (qG B (by omega) ?_); clear q1 B; intro wn q1 ze zf zg B; simp only [zo]) | fail)
 refine bodyPost_ret (jY rfl _ _ (b_q1) rfl q1) rfl ?_
 exact ⟨rfl, B⟩
/- Contracts of the reference's Of, many, put, Put, Set, Get. -/
theorem zfa (a : Option Addr) (c : Nat) (ls : List TA) (w : World) (h : RS (.slice a ls.length c) ls w) (tk : qN ls) (hn : ls.length ≤ maxLen) : Calls Tryz.prog 92 #[.agg #[.slice a ls.length c]] w fun e w' => e = .returned (.agg #[if z2 ls = true then .slice a ls.length c else .slice none 0 0]) ∧ Below w.heap.size w w' := by
 have B := Below.refl w.heap.size w
 have HS := Lib.hid h
 clear h
 cases hv : z2 ls with
 | true =>
  rw [if_pos rfl]; go_enter Tryz.func92, Tryz.ntmps92
  go_wp2_with (first | (refine zq (t := 64) rfl _ _ rfl _ rfl _ rfl r2 (by kernel_rfl) rfl (by simp [Value.oneCell']) (qG B (by omega) ?_); clear r2 B; intro wn r2 ze zf zg B; (try replace r1 := r1.of_eq (ze.block _ r1.lt (by omega))); simp only [zo]) | (go_at_call 141; refine (Wn _ ls _ (HS.out.below B) tk hn).mono ?_; rintro e wn ⟨rfl, za⟩; have zf := B.size; have zg := za.size; replace B := B.trans (za.mono B.size); (try replace r1 := r1.below za); (try replace r2 := r2.below za)) | (refine zp (t := 64) rfl _ rfl _ _ _ rfl (zv r1 Tryz.isAgg64 (by kernel_rfl)) (by rfl) ?_; simp only [zo]) | (have _ := r1; refine zr (t := 64) rfl _ (qA _ _ rfl) (zY B ?_); clear B; intro b_r2 wn zb zd r2 za zf zk B; (try have zh := r1.lt); (try replace r1 := r1.below (za.mono zb)); (try have zh := r2.lt); (try replace r2 := r2.below (za.mono zb)); simp only [zo]) | (refine zt (t := 64) rfl _ rfl _ rfl (zY B ?_); clear B; intro b_r1 wn zb zd r1 za zf zk B; (try have zh := r1.lt); (try replace r1 := r1.below (za.mono zb)); (try have zh := r2.lt); (try replace r2 := r2.below (za.mono zb)); simp only [zo]) | fail)
  refine bodyPost_ret (zz (t := 64) rfl _ _ (b_r2) rfl r2 Tryz.isAgg64 (by kernel_rfl)) rfl ?_; exact ⟨rfl, B⟩
 | false =>
  rw [if_neg (by decide)]; go_enter Tryz.func92, Tryz.ntmps92
  go_wp2_with (first | (refine zq (t := 64) rfl _ _ rfl _ rfl _ rfl r2 (by kernel_rfl) rfl (by simp [Value.oneCell']) (qG B (by omega) ?_); clear r2 B; intro wn r2 ze zf zg B; (try replace r1 := r1.of_eq (ze.block _ r1.lt (by omega))); simp only [zo]) | (go_at_call 141; refine (Wn _ ls _ (HS.out.below B) tk hn).mono ?_; rintro e wn ⟨rfl, za⟩; have zf := B.size; have zg := za.size; replace B := B.trans (za.mono B.size); (try replace r1 := r1.below za); (try replace r2 := r2.below za)) | (refine zp (t := 64) rfl _ rfl _ _ _ rfl (zv r1 Tryz.isAgg64 (by kernel_rfl)) (by rfl) ?_; simp only [zo]) | (have _ := r1; refine zr (t := 64) rfl _ (qA _ _ rfl) (zY B ?_); clear B; intro b_r2 wn zb zd r2 za zf zk B; (try have zh := r1.lt); (try replace r1 := r1.below (za.mono zb)); (try have zh := r2.lt); (try replace r2 := r2.below (za.mono zb)); simp only [zo]) | (refine zt (t := 64) rfl _ rfl _ rfl (zY B ?_); clear B; intro b_r1 wn zb zd r1 za zf zk B; (try have zh := r1.lt); (try replace r1 := r1.below (za.mono zb)); (try have zh := r2.lt); (try replace r2 := r2.below (za.mono zb)); simp only [zo]) | fail)
  refine bodyPost_ret (zz (t := 64) rfl _ _ (b_r2) rfl r2 Tryz.isAgg64 (by kernel_rfl)) rfl ?_; exact ⟨rfl, B⟩
/-- The raster that Of returns: known ahead of the walk. -/
theorem zgq (v : Value) (ls : List TA) (w : World) (h : RS v ls w) (tk : qN ls) (hn : ls.length ≤ maxLen) : ∃ a c, ∀ w', Below w.heap.size w w' → (Calls Tryz.prog 92 #[.agg #[v]] w' fun e w'' => e = .returned (.agg #[.slice a (qc ls).length c]) ∧ Below w'.heap.size w' w'') ∧ RS (.slice a (qc ls).length c) (qc ls) w' := by
 obtain ⟨a, c, rfl, hc⟩ := h.len
 cases hv : z2 ls with
 | true =>
  rw [xy hv]; refine ⟨a, c, fun w' hb => ⟨?_, h.below hb⟩⟩; have := zfa a c ls w' (h.below hb) tk hn; rw [hv, if_pos rfl] at this; exact this
 | false =>
  rw [QV hv]; refine ⟨none, 0, fun w' hb => ⟨?_, RS.nil _⟩⟩; have := zfa a c ls w' (h.below hb) tk hn; rw [hv, if_neg (by decide)] at this; exact this
theorem jH (w : World) (o : Oper) (ho : o.op = .alloc 82) (ev : Operand → Value) : (execOp ev o).run Tryz.prog w = .ok (.value (.pointer (some ⟨w.heap.size, 0, none⟩))) (w.alloc (.cells #[.slice none 0 0, .int .i64 0] 82)) := by
 obtain ⟨d, p, t, ps, af, gd⟩ := o
 simp only at ho
 subst ho
 kernel_rfl
theorem zb6 (a : Option Addr) (n c : Nat) (w : World) (hn : n ≤ maxLen) : Calls Tryz.prog 152 #[.agg #[.slice a n c]] w fun e w' => e = .returned (if n ≤ 1024 then .agg #[.slice a n c, .int .i64 0] else .agg #[.slice none 0 0, .int .i64 2]) ∧ Below w.heap.size w w' := by
 have B := Below.refl w.heap.size w
 by_cases h : n ≤ 1024
 ·rw [if_pos h]
  have d1 : decide (1024 < (n : Int)) = false := decide_eq_false (by omega); go_enter Tryz.func152, Tryz.ntmps152
  go_wp2_with (first | (refine zq (t := 82) rfl _ _ rfl _ rfl _ rfl g2 (by kernel_rfl) rfl (by simp [Value.oneCell']) (qG B (by omega) ?_); clear g2 B; intro wn g2 ze zf zg B; (try replace r1 := r1.of_eq (ze.block _ r1.lt (by omega))); simp only [zo]) | (refine zp (t := 64) rfl _ rfl _ _ _ rfl (zv r1 Tryz.isAgg64 (by kernel_rfl)) (by rfl) ?_; simp only [zo]) | (refine zp (t := 62) rfl _ rfl _ _ _ rfl (zx r1.cell0) (by rfl) ?_; simp only [zo]) | (have _ := r1; refine zr (t := 82) rfl _ (jH _ _ rfl) (zY B ?_); clear B; intro b_g2 wn zb zd g2 za zf zk B; (try have zh := r1.lt); (try replace r1 := r1.below (za.mono zb)); (try have zh := g2.lt); (try replace g2 := g2.below (za.mono zb)); simp only [zo]) | (refine zt (t := 64) rfl _ rfl _ rfl (zY B ?_); clear B; intro b_r1 wn zb zd r1 za zf zk B; (try have zh := r1.lt); (try replace r1 := r1.below (za.mono zb)); (try have zh := g2.lt); (try replace g2 := g2.below (za.mono zb)); simp only [zo]) | fail)
  refine bodyPost_ret (zz (t := 82) rfl _ _ (b_g2) rfl g2 Tryz.isAgg82 (by kernel_rfl)) rfl ?_; exact ⟨rfl, B⟩
 ·rw [if_neg h]
  have d1 : decide (1024 < (n : Int)) = true := decide_eq_true (by omega); go_enter Tryz.func152, Tryz.ntmps152
  go_wp2_with (first | (refine zq (t := 82) rfl _ _ rfl _ rfl _ rfl g2 (by kernel_rfl) rfl (by simp [Value.oneCell']) (qG B (by omega) ?_); clear g2 B; intro wn g2 ze zf zg B; (try replace r1 := r1.of_eq (ze.block _ r1.lt (by omega))); simp only [zo]) | (refine zp (t := 64) rfl _ rfl _ _ _ rfl (zv r1 Tryz.isAgg64 (by kernel_rfl)) (by rfl) ?_; simp only [zo]) | (refine zp (t := 62) rfl _ rfl _ _ _ rfl (zx r1.cell0) (by rfl) ?_; simp only [zo]) | (have _ := r1; refine zr (t := 82) rfl _ (jH _ _ rfl) (zY B ?_); clear B; intro b_g2 wn zb zd g2 za zf zk B; (try have zh := r1.lt); (try replace r1 := r1.below (za.mono zb)); (try have zh := g2.lt); (try replace g2 := g2.below (za.mono zb)); simp only [zo]) | (refine zt (t := 64) rfl _ rfl _ rfl (zY B ?_); clear B; intro b_r1 wn zb zd r1 za zf zk B; (try have zh := r1.lt); (try replace r1 := r1.below (za.mono zb)); (try have zh := g2.lt); (try replace g2 := g2.below (za.mono zb)); simp only [zo]) | fail)
  refine bodyPost_ret (zz (t := 82) rfl _ _ (b_g2) rfl g2 Tryz.isAgg82 (by kernel_rfl)) rfl ?_; exact ⟨rfl, B⟩
/-! ### put -/
theorem x4 {v : Value} {ops : Array Oper} {rest : List Oper} {o : Oper} {a : Act} {w : World} {Q : Exit → Act → World → Prop} (hg : o.guard = none) (x y : Operand) (ho : o.op = .store 62 x y) (b : Nat) (hx : a.eval x = .pointer (some ⟨b, 0, none⟩)) (a' : Option Addr) (n' c' : Nat) (hy : a.eval y = .slice a' n' c') (ht : zK 64 w b #[v])
  (h : ∀ w', zK 64 w' b #[.slice a' n' c'] → qV b w w' → w'.heap.size = w.heap.size → wpList Tryz.prog ops Q rest (a.put o.dst undef) w') : wpList Tryz.prog ops Q (o :: rest) a w := by
 have c0 := ht.cell0
 have f0 := ht.frozen 0
 refine qk hg x y ho (w.setCell ⟨b, 0, none⟩ (.slice a' n' c')) ?_ (h _ ?_ ((qV.refl b w).setCell _) (by simp only [World.size_setCell]))
 ·rw [hx, hy]
  simp [go_sem, c0, f0]
 ·exact heap_setCell_same w b 0 #[v] _ _ ht
theorem Jb {o : Oper} {a : Act} {w : World} {Q : Exit → Act → World → Prop} {K : Act → World → Prop} (x : Operand) (ho : o.op = .buildSlice 62 1 #[(0, x)]) (e : TA) (hx : a.eval x = .agg (xX e))
  (h : ∀ b w', w.heap.size ≤ b → b ≤ w.heap.size → zK 125 w' b (xX e) → Below b w w' → w'.heap.size = b + 1 → K (a.put o.dst (.slice (some ⟨b, 0, none⟩) 1 1)) w') : o.wp Tryz.prog a w K Q := by
 obtain ⟨i, hi⟩ : ∃ i, Tryz.prog.info? 125 = some i := by
  cases h : Tryz.prog.info? 125 with
  | some i => exact ⟨i, rfl⟩
  | none => have e := wY; rw [h] at e; cases e
 have e1 := wY
 rw [hi] at e1
 have e1' : i.size = 258 ∧ i.bytes = 272 := by simpa using e1
 have hz := Yl
 rw [hi] at hz
 refine wp_buildSlice 62 125 1 #[(0, x)] ho (xX e) i _ Tryz.underlying62 hi hz (by rw [e1'.1]; omega) (by rw [e1'.1]; omega) ?_ (h _ _ (Nat.le_refl _) (Nat.le_refl _) (by unfold zK; rw [zO, if_pos rfl]) ((Below.refl _ _).alloc (Nat.le_refl _) _) (World.size_alloc _ _))
 rw [e1'.1]
 have hp : ((#[(0, x)] : Array (Nat × Operand)).map fun (i, x) => (i, a.eval x)).toList = [(0, Value.agg (xX e))] := by simp [hx]
 rw [hp]
 exact Y7 e _ (by simp)
/-- What is left of the reference's put, its rest told. -/
theorem zba (x y : Int) (t : Nat → Px) (d : Bool) (e : TA) (r : List TA) : yy x y t d (e :: r) = if (!d && qQ x y e.x e.y) = true then ⟨x, y, t⟩ :: (if xT e.x e.y x y = true then yy x y t true r else e :: yy x y t true r)
 else if xT e.x e.y x y = true then yy x y t d r else e :: yy x y t d r := rfl
set_option maxHeartbeats 2000000 in
theorem zfb (v : Value) (ls : List TA) (x y : Int) (t0 t : Nat → Px) (w : World) (h : RS v ls w) (hs : uO ls) (ht0 : Zr t0) (htc : t = qF t0) (hn : ls.length ≤ 4000) : Calls Tryz.prog 151 #[.agg #[v], .agg #[.int .i64 x, .int .i64 y], Tile.v t0] w fun e w' => ∃ v', e = .returned (.agg #[v']) ∧ RS v' (xS ls x y t) w' ∧ Below w.heap.size w w' := by
 have B := Below.refl w.heap.size w
 obtain ⟨a, c, rfl, hc⟩ := h.len
 have HS := Lib.hid h
 have FIN := Lib.hid (KL x y t ls hs)
 clear h hs
 go_enter Tryz.func151, Tryz.ntmps151
 subst htc
 generalize htt : qF t0 = t at *
 have CL : ∀ w, Calls Tryz.prog 169 #[Tile.v t0] w fun e w' => e = .returned (Tile.v t) ∧ Below w.heap.size w w' := fun w => htt ▸ yK t0 w ht0
 have CLH := Lib.hid CL
 clear CL htt
 go_wp2_with (first | (go_at_call 167; refine (uv _ _).mono ?_; rintro e wn ⟨rfl, za⟩; have zf := B.size; have zg := za.size; replace B := B.trans (za.mono B.size); (try replace r1 := r1.below za); (try replace p1 := p1.below za); (try replace u1 := u1.below za); (try replace r2 := r2.below za); (try replace r3 := r3.below za); (try replace od := od.below za); (try replace rc := rc.below za)) | (refine qH rfl _ _ rfl _ rfl _ rfl u1 (qG B (by omega) ?_); clear u1 B; intro wn u1 ze zf zg B; (try replace r1 := r1.of_eq (ze.block _ r1.lt (by omega))); (try replace p1 := p1.of_eq (ze.block _ p1.lt (by omega))); (try replace r2 := r2.of_eq (ze.block _ r2.lt (by omega))); (try replace r3 := r3.of_eq (ze.block _ r3.lt (by omega))); (try replace od := od.of_eq (ze.block _ od.lt (by omega))); (try replace rc := rc.of_eq (ze.block _ rc.lt (by omega))); simp only [zo]) | (go_at_call 169; refine (CLH.out _).mono ?_; rintro e wn ⟨rfl, za⟩; have zf := B.size; have zg := za.size; replace B := B.trans (za.mono B.size); (try replace r1 := r1.below za); (try replace p1 := p1.below za); (try replace u1 := u1.below za); (try replace r2 := r2.below za); (try replace r3 := r3.below za); (try replace od := od.below za); (try replace rc := rc.below za)) | (refine qM rfl _ rfl _ rfl u1 ?_; simp only [zo]) | (refine zq (t := 64) rfl _ _ rfl _ rfl _ rfl r3 (by kernel_rfl) rfl (by simp [Value.oneCell']) (qG B (by omega) ?_); clear r3 B; intro wn r3 ze zf zg B; (try replace r1 := r1.of_eq (ze.block _ r1.lt (by omega))); (try replace p1 := p1.of_eq (ze.block _ p1.lt (by omega))); (try replace u1 := u1.of_eq (ze.block _ u1.lt (by omega))); (try replace r2 := r2.of_eq (ze.block _ r2.lt (by omega))); (try replace od := od.of_eq (ze.block _ od.lt (by omega))); (try replace rc := rc.of_eq (ze.block _ rc.lt (by omega))); simp only [zo]) | (have _ := r2; refine zr (t := 64) rfl _ (qA _ _ rfl) (zY B ?_); clear B; intro b_r3 wn zb zd r3 za zf zk B; (try have zh := r1.lt); (try replace r1 := r1.below (za.mono zb)); (try have zh := p1.lt); (try replace p1 := p1.below (za.mono zb)); (try have zh := u1.lt); (try replace u1 := u1.below (za.mono zb)); (try have zh := r2.lt); (try replace r2 := r2.below (za.mono zb)); (try have zh := r3.lt); (try replace r3 := r3.below (za.mono zb)); (try have zh := od.lt); (try replace od := od.below (za.mono zb)); (try have zh := rc.lt); (try replace rc := rc.below (za.mono zb)); simp only [zo]) | (have _ := u1; refine zr (t := 64) rfl _ (qA _ _ rfl) (zY B ?_); clear B; intro b_r2 wn zb zd r2 za zf zk B; (try have zh := r1.lt); (try replace r1 := r1.below (za.mono zb)); (try have zh := p1.lt); (try replace p1 := p1.below (za.mono zb)); (try have zh := u1.lt); (try replace u1 := u1.below (za.mono zb)); (try have zh := r2.lt); (try replace r2 := r2.below (za.mono zb)); (try have zh := r3.lt); (try replace r3 := r3.below (za.mono zb)); (try have zh := od.lt); (try replace od := od.below (za.mono zb)); (try have zh := rc.lt); (try replace rc := rc.below (za.mono zb)); simp only [zo]) | (have _ := p1; refine jt rfl _ rfl _ rfl (zY B ?_); clear B; intro b_u1 wn zb zd u1 za zf zk B; (try have zh := r1.lt); (try replace r1 := r1.below (za.mono zb)); (try have zh := p1.lt); (try replace p1 := p1.below (za.mono zb)); (try have zh := u1.lt); (try replace u1 := u1.below (za.mono zb)); (try have zh := r2.lt); (try replace r2 := r2.below (za.mono zb)); (try have zh := r3.lt); (try replace r3 := r3.below (za.mono zb)); (try have zh := od.lt); (try replace od := od.below (za.mono zb)); (try have zh := rc.lt); (try replace rc := rc.below (za.mono zb)); simp only [zo]) | (have _ := r1; refine zt (t := 95) rfl _ rfl _ rfl (zY B ?_); clear B; intro b_p1 wn zb zd p1 za zf zk B; (try have zh := r1.lt); (try replace r1 := r1.below (za.mono zb)); (try have zh := p1.lt); (try replace p1 := p1.below (za.mono zb)); (try have zh := u1.lt); (try replace u1 := u1.below (za.mono zb)); (try have zh := r2.lt); (try replace r2 := r2.below (za.mono zb)); (try have zh := r3.lt); (try replace r3 := r3.below (za.mono zb)); (try have zh := od.lt); (try replace od := od.below (za.mono zb)); (try have zh := rc.lt); (try replace rc := rc.below (za.mono zb)); simp only [zo]) | (refine zt (t := 64) rfl _ rfl _ rfl (zY B ?_); clear B; intro b_r1 wn zb zd r1 za zf zk B; (try have zh := r1.lt); (try replace r1 := r1.below (za.mono zb)); (try have zh := p1.lt); (try replace p1 := p1.below (za.mono zb)); (try have zh := u1.lt); (try replace u1 := u1.below (za.mono zb)); (try have zh := r2.lt); (try replace r2 := r2.below (za.mono zb)); (try have zh := r3.lt); (try replace r3 := r3.below (za.mono zb)); (try have zh := od.lt); (try replace od := od.below (za.mono zb)); (try have zh := rc.lt); (try replace rc := rc.below (za.mono zb)); simp only [zo]) | fail)
 have qr1 := r1.lt
 have qp1 := p1.lt
 have qu1 := u1.lt
 have qr2 := r2.lt
 have qr3 := r3.lt
 obtain ⟨b0, hb0⟩ : ∃ n, n = wn.heap.size := ⟨_, rfl⟩
 have k1 : w.heap.size ≤ b_r1 := by omega
 have k2 : b_r1 < b_p1 := by omega
 have k3 : b_p1 < b_u1 := by omega
 have k4 : b_u1 < b_r2 := by omega
 have k5 : b_r2 < b_r3 := by omega
 have k6 : b_r3 < b0 := by omega
 have k7 : b0 ≤ wn.heap.size := by omega
 have od0 := xr.nil b0 wn
 go_loopw [9, 10] (fun d i wr => ∃ (k : Nat) (dd : Bool) (acc : List TA) (a3 : Option Addr) (n3 c3 : Nat), k ≤ ls.length ∧ i = .int .i64 k ∧ d = .bool dd ∧ acc ++ yy x y t dd (ls.drop k) = xS ls x y t ∧ acc.length ≤ 2 * k ∧ n3 = acc.length ∧ Below w.heap.size w wr ∧ b0 ≤ wr.heap.size ∧ zK 64 wr b_r1 #[.slice a ls.length c] ∧ zK 95 wr b_p1 #[.int .i64 x, .int .i64 y] ∧ zX wr b_u1 t ∧ zK 64 wr b_r2 #[.slice none 0 0] ∧ zK 64 wr b_r3 #[.slice a3 n3 c3] ∧ xr b0 (.slice a3 n3 c3) acc wr) (fun _ i _ => (ls.length - intOf i).toNat)
 case atStart => exact ⟨0, jh t, [], none, 0, 0, by omega, rfl, rfl, FIN.out, by simp, rfl, B, k7, r1, p1, u1, r2, r3, od0⟩
 case round =>
  clear B r1 p1 u1 r2 r3 od0 hb0 k7 qr1 qp1 qu1 qr2 qr3; obtain ⟨k, dd, acc, a3, n3, c3, hk, rfl, rfl, hacc, hal, rfl, B, hwb, r1, p1, u1, r2, r3, od⟩ := hrel; by_cases hkl : k < ls.length
  ·obtain ⟨g, o, rfl, rc0⟩ := HS.out.at (by omega)
   have hg0 := rc0.lt; have rc := rc0.of_eq (B.block _ rc0.lt); clear rc0; obtain ⟨e, he⟩ : ∃ e, aT ls k = e := ⟨_, rfl⟩; rw [zej hkl, he, zba] at hacc; have hneq : ∀ w, (binOp .neq 95 (Ps.v e.x e.y) (.agg #[.int .i64 x, .int .i64 y])).run Tryz.prog w = .ok (.bool (!xT e.x e.y x y)) w := fun w => zeI _ _ _ _ w
   cases h3 : xT e.x e.y x y with
   | true =>
    cases dd with
    | true =>
     rw [h3] at hacc; simp at hacc
     have HA := Lib.hid hacc; clear hacc; go_wp2_with (first | (refine zp (t := 62) rfl _ rfl _ _ _ rfl (zx r1.cell0) (by rfl) ?_; simp only [zo]) | fail)
     refine zA (by kernel_rfl) (by kernel_rfl) ?_; repeat (first | go_big_quiet_skip | (go_big_quiet_want; first | (refine zn (t := 95) rfl _ _ _ rfl (fun w hw => zv (zB p1 w hw) Tryz.isAgg95 (by kernel_rfl)) (by rfl) ?_; simp only [zo]; go_big_quiet_on) | (refine zn (t := 62) rfl _ _ _ rfl (fun w hw => zx (zB r1 w hw).cell0) (by rfl) ?_; simp only [zo]; go_big_quiet_on) | (refine zn (t := 95) rfl _ _ _ rfl (fun w hw => qj (z7 rc w hw) hkl he) (by first | rfl | omega) ?_; simp only [zo]; go_big_quiet_on) | (go_big_quiet_op; first | go_big_quiet_on | go_big_quiet_call ((fail)))))
     refine wpQuiet_nil ?_; intro wn za; have zf := B.size; have zg := za.size; replace B := B.trans (za.mono B.size); try replace r1 := r1.below za
     try replace p1 := p1.below za
     try replace u1 := u1.below za
     try replace r2 := r2.below za
     try replace r3 := r3.below za
     try replace od := od.below za
     try replace rc := rc.below za
     go_wp2; refine zA (by kernel_rfl) (by kernel_rfl) ?_; repeat (first | go_big_quiet_skip | (go_big_quiet_want; first | (refine zn (t := 95) rfl _ _ _ rfl (fun w hw => zv (zB p1 w hw) Tryz.isAgg95 (by kernel_rfl)) (by rfl) ?_; simp only [zo]; go_big_quiet_on) | (refine zn (t := 62) rfl _ _ _ rfl (fun w hw => zx (zB r1 w hw).cell0) (by rfl) ?_; simp only [zo]; go_big_quiet_on) | (refine zn (t := 95) rfl _ _ _ rfl (fun w hw => qj (z7 rc w hw) hkl he) (by first | rfl | omega) ?_; simp only [zo]; go_big_quiet_on) | (go_big_quiet_op; first | go_big_quiet_on | go_big_quiet_call ((fail)))))
     refine wpQuiet_nil ?_; intro wn za; have zf := B.size; have zg := za.size; replace B := B.trans (za.mono B.size); try replace r1 := r1.below za
     try replace p1 := p1.below za
     try replace u1 := u1.below za
     try replace r2 := r2.below za
     try replace r3 := r3.below za
     try replace od := od.below za
     try replace rc := rc.below za
     go_wp2; go_roundw
     case rel => exact ⟨k + 1, _, _, _, _, _, by omega, by go_num, rfl, by first | exact HA.out | (rw [← HA.out, List.append_assoc, List.append_assoc]; rfl) | (rw [← HA.out, List.append_assoc]; rfl) | (rw [← HA.out]; simp), by first | omega | (simp; omega), by first | rfl | simp, B, by omega, r1, p1, u1, r2, r3, od⟩
     case measure => simp [intOf]; omega
    | false =>
     cases h4 : qQ x y e.x e.y with
     | true =>
      have h3 := of_decide_eq_true h3; have h4 := of_decide_eq_true h4; omega
     | false =>
      rw [h3, h4] at hacc; simp at hacc
      have HA := Lib.hid hacc; clear hacc; go_wp2_with (first | (refine zp (t := 62) rfl _ rfl _ _ _ rfl (zx r1.cell0) (by rfl) ?_; simp only [zo]) | fail)
      refine zA (by kernel_rfl) (by kernel_rfl) ?_; repeat (first | go_big_quiet_skip | (go_big_quiet_want; first | (refine zn (t := 95) rfl _ _ _ rfl (fun w hw => zv (zB p1 w hw) Tryz.isAgg95 (by kernel_rfl)) (by rfl) ?_; simp only [zo]; go_big_quiet_on) | (refine zn (t := 62) rfl _ _ _ rfl (fun w hw => zx (zB r1 w hw).cell0) (by rfl) ?_; simp only [zo]; go_big_quiet_on) | (refine zn (t := 95) rfl _ _ _ rfl (fun w hw => qj (z7 rc w hw) hkl he) (by first | rfl | omega) ?_; simp only [zo]; go_big_quiet_on) | (go_big_quiet_op; first | go_big_quiet_on | go_big_quiet_call ((first | (go_at_call 170; exact zC (vx _ _ _ _ _)))))))
      refine wpQuiet_nil ?_; intro wn za; have zf := B.size; have zg := za.size; replace B := B.trans (za.mono B.size); try replace r1 := r1.below za
      try replace p1 := p1.below za
      try replace u1 := u1.below za
      try replace r2 := r2.below za
      try replace r3 := r3.below za
      try replace od := od.below za
      try replace rc := rc.below za
      go_wp2; refine zA (by kernel_rfl) (by kernel_rfl) ?_; repeat (first | go_big_quiet_skip | (go_big_quiet_want; first | (refine zn (t := 95) rfl _ _ _ rfl (fun w hw => zv (zB p1 w hw) Tryz.isAgg95 (by kernel_rfl)) (by rfl) ?_; simp only [zo]; go_big_quiet_on) | (refine zn (t := 62) rfl _ _ _ rfl (fun w hw => zx (zB r1 w hw).cell0) (by rfl) ?_; simp only [zo]; go_big_quiet_on) | (refine zn (t := 95) rfl _ _ _ rfl (fun w hw => qj (z7 rc w hw) hkl he) (by first | rfl | omega) ?_; simp only [zo]; go_big_quiet_on) | (go_big_quiet_op; first | go_big_quiet_on | go_big_quiet_call ((fail)))))
      refine wpQuiet_nil ?_; intro wn za; have zf := B.size; have zg := za.size; replace B := B.trans (za.mono B.size); try replace r1 := r1.below za
      try replace p1 := p1.below za
      try replace u1 := u1.below za
      try replace r2 := r2.below za
      try replace r3 := r3.below za
      try replace od := od.below za
      try replace rc := rc.below za
      go_wp2; go_roundw
      case rel => exact ⟨k + 1, _, _, _, _, _, by omega, by go_num, rfl, by first | exact HA.out | (rw [← HA.out, List.append_assoc, List.append_assoc]; rfl) | (rw [← HA.out, List.append_assoc]; rfl) | (rw [← HA.out]; simp), by first | omega | (simp; omega), by first | rfl | simp, B, by omega, r1, p1, u1, r2, r3, od⟩
      case measure => simp [intOf]; omega
   | false =>
    cases dd with
    | true =>
     rw [h3] at hacc; simp at hacc
     have HA := Lib.hid hacc; clear hacc; go_wp2_with (first | (refine zp (t := 62) rfl _ rfl _ _ _ rfl (zx r1.cell0) (by rfl) ?_; simp only [zo]) | fail)
     refine zA (by kernel_rfl) (by kernel_rfl) ?_; repeat (first | go_big_quiet_skip | (go_big_quiet_want; first | (refine zn (t := 95) rfl _ _ _ rfl (fun w hw => zv (zB p1 w hw) Tryz.isAgg95 (by kernel_rfl)) (by rfl) ?_; simp only [zo]; go_big_quiet_on) | (refine zn (t := 62) rfl _ _ _ rfl (fun w hw => zx (zB r1 w hw).cell0) (by rfl) ?_; simp only [zo]; go_big_quiet_on) | (refine zn (t := 95) rfl _ _ _ rfl (fun w hw => qj (z7 rc w hw) hkl he) (by first | rfl | omega) ?_; simp only [zo]; go_big_quiet_on) | (go_big_quiet_op; first | go_big_quiet_on | go_big_quiet_call ((fail)))))
     refine wpQuiet_nil ?_; intro wn za; have zf := B.size; have zg := za.size; replace B := B.trans (za.mono B.size); try replace r1 := r1.below za
     try replace p1 := p1.below za
     try replace u1 := u1.below za
     try replace r2 := r2.below za
     try replace r3 := r3.below za
     try replace od := od.below za
     try replace rc := rc.below za
     go_wp2; refine zA (by kernel_rfl) (by kernel_rfl) ?_; repeat (first | go_big_quiet_skip | (go_big_quiet_want; first | (refine zn (t := 95) rfl _ _ _ rfl (fun w hw => zv (zB p1 w hw) Tryz.isAgg95 (by kernel_rfl)) (by rfl) ?_; simp only [zo]; go_big_quiet_on) | (refine zn (t := 62) rfl _ _ _ rfl (fun w hw => zx (zB r1 w hw).cell0) (by rfl) ?_; simp only [zo]; go_big_quiet_on) | (refine zn (t := 95) rfl _ _ _ rfl (fun w hw => qj (z7 rc w hw) hkl he) (by first | rfl | omega) ?_; simp only [zo]; go_big_quiet_on) | (go_big_quiet_op; first | go_big_quiet_on | go_big_quiet_call ((fail)))))
     refine wpQuiet_nil ?_; intro wn za; have zf := B.size; have zg := za.size; replace B := B.trans (za.mono B.size); try replace r1 := r1.below za
     try replace p1 := p1.below za
     try replace u1 := u1.below za
     try replace r2 := r2.below za
     try replace r3 := r3.below za
     try replace od := od.below za
     try replace rc := rc.below za
     go_wp2; refine wG 7 8 #[true, true, true, true, true, true, true, false, false, false, false] (by kernel_rfl) (by kernel_rfl) ?_; simp only [List.length_cons, List.length_nil, Nat.reduceAdd, Nat.reduceSub, List.take_succ_cons, List.take_zero]; repeat (first | go_big_quiet_skip | (go_big_quiet_want; first | (refine zn (t := 62) rfl _ _ _ rfl (fun w hw => zx (zB r3 w hw).cell0) (by rfl) ?_; simp only [zo]; go_big_quiet_on) | (refine zn (t := 62) rfl _ _ _ rfl (fun w hw => zx (zB r1 w hw).cell0) (by rfl) ?_; simp only [zo]; go_big_quiet_on) | (refine zn (t := 125) rfl _ _ _ rfl (fun w hw => xq (z7 rc w hw) hkl he) (by first | rfl | omega) ?_; simp only [zo]; go_big_quiet_on) | (go_big_quiet_op; go_big_quiet_on)))
     refine wpQuiet_nil ?_; intro wn za; have hX := za; have zf := B.size; have zg := za.size; replace B := B.trans (za.mono B.size); try replace r1 := r1.below za
     try replace p1 := p1.below za
     try replace u1 := u1.below za
     try replace r2 := r2.below za
     try replace r3 := r3.below za
     try replace od := od.below za
     try replace rc := rc.below za
     refine zR 7 rfl (by kernel_rfl) rfl (fun K hK => ?_); refine Jb _ rfl e (by rfl) ?_; intro b_s1 wn zb zd ht za zg; have zf := B.size; have hsx := hX.size; replace B := B.trans (za.mono (by omega)); replace hX := hX.trans (za.mono (by omega)); try replace r1 := r1.below (za.mono zb)
     try replace p1 := p1.below (za.mono zb)
     try replace u1 := u1.below (za.mono zb)
     try replace r2 := r2.below (za.mono zb)
     try replace r3 := r3.below (za.mono zb)
     try replace od := od.below (za.mono zb)
     try replace rc := rc.below (za.mono zb)
     have s1 := ht; clear ht; refine hK _ _ ⟨fun _ => ⟨_, zG hX⟩, ?_⟩; clear hK K; simp only [zo]; refine qE (by kernel_rfl) (by kernel_rfl) ?_; simp only [List.drop_succ_cons, List.drop_zero]; go_wp2_with (first | (refine x4 rfl _ _ rfl _ rfl _ _ _ rfl r3 (qG B (by omega) ?_); clear r3 B; intro wn r3 ze zf zg B; (try replace r1 := r1.of_eq (ze.block _ r1.lt (by omega))); (try replace p1 := p1.of_eq (ze.block _ p1.lt (by omega))); (try replace u1 := u1.of_eq (ze.block _ u1.lt (by omega))); (try replace r2 := r2.of_eq (ze.block _ r2.lt (by omega))); (try replace rc := rc.of_eq (ze.block _ rc.lt (by omega))); replace od := od.chg ze (by omega); simp only [zo]) | (at_builtin; refine qe rfl _ _ rfl _ _ rfl rfl od ((RS.one s1)) (by simp only [List.length_append, List.length_cons, List.length_nil]; omega) (by omega) ?_; intro v_od wn ht za; have zf := B.size; have zg := za.size; replace B := B.trans (za.mono (by omega)); clear od; (try replace r1 := r1.of_eq (za.block _ (by omega))); (try replace p1 := p1.of_eq (za.block _ (by omega))); (try replace u1 := u1.of_eq (za.block _ (by omega))); (try replace r2 := r2.of_eq (za.block _ (by omega))); (try replace r3 := r3.of_eq (za.block _ (by omega))); (try replace rc := rc.of_eq (za.block _ (by omega))); have od := ht; clear ht; obtain ⟨a_od, c_od, hv, hco⟩ := od.len; (try simp only [List.length_append, List.length_cons, List.length_nil, Nat.zero_add] at hv hco); subst hv; simp only [zo]) | (refine jy rfl _ rfl e (by rfl) (zY B ?_); clear B; intro b_s1 wn zb zd s1 za zf zk B; (try have zh := r1.lt); (try replace r1 := r1.below (za.mono zb)); (try have zh := p1.lt); (try replace p1 := p1.below (za.mono zb)); (try have zh := u1.lt); (try replace u1 := u1.below (za.mono zb)); (try have zh := r2.lt); (try replace r2 := r2.below (za.mono zb)); (try have zh := r3.lt); (try replace r3 := r3.below (za.mono zb)); (try have zh := od.lt); (try replace od := od.below (za.mono zb)); (try have zh := rc.lt); (try replace rc := rc.below (za.mono zb)); simp only [zo]) | fail)
     refine zL.normal ?_; go_wp2; go_roundw
     case rel => exact ⟨k + 1, _, _, _, _, _, by omega, by go_num, rfl, by first | exact HA.out | (rw [← HA.out, List.append_assoc, List.append_assoc]; rfl) | (rw [← HA.out, List.append_assoc]; rfl) | (rw [← HA.out]; simp), by first | omega | (simp; omega), by first | rfl | simp, B, by omega, r1, p1, u1, r2, r3, od⟩
     case measure => simp [intOf]; omega
    | false =>
     cases h4 : qQ x y e.x e.y with
     | true =>
      rw [h3, h4] at hacc; simp at hacc
      have HA := Lib.hid hacc; clear hacc; go_wp2_with (first | (refine zp (t := 62) rfl _ rfl _ _ _ rfl (zx r1.cell0) (by rfl) ?_; simp only [zo]) | fail)
      refine zA (by kernel_rfl) (by kernel_rfl) ?_; repeat (first | go_big_quiet_skip | (go_big_quiet_want; first | (refine zn (t := 95) rfl _ _ _ rfl (fun w hw => zv (zB p1 w hw) Tryz.isAgg95 (by kernel_rfl)) (by rfl) ?_; simp only [zo]; go_big_quiet_on) | (refine zn (t := 62) rfl _ _ _ rfl (fun w hw => zx (zB r1 w hw).cell0) (by rfl) ?_; simp only [zo]; go_big_quiet_on) | (refine zn (t := 95) rfl _ _ _ rfl (fun w hw => qj (z7 rc w hw) hkl he) (by first | rfl | omega) ?_; simp only [zo]; go_big_quiet_on) | (go_big_quiet_op; first | go_big_quiet_on | go_big_quiet_call ((first | (go_at_call 170; exact zC (vx _ _ _ _ _)))))))
      refine wpQuiet_nil ?_; intro wn za; have zf := B.size; have zg := za.size; replace B := B.trans (za.mono B.size); try replace r1 := r1.below za
      try replace p1 := p1.below za
      try replace u1 := u1.below za
      try replace r2 := r2.below za
      try replace r3 := r3.below za
      try replace od := od.below za
      try replace rc := rc.below za
      go_wp2_with (first | (refine x4 rfl _ _ rfl _ rfl _ _ _ rfl r3 (qG B (by omega) ?_); clear r3 B; intro wn r3 ze zf zg B; (try replace r1 := r1.of_eq (ze.block _ r1.lt (by omega))); (try replace p1 := p1.of_eq (ze.block _ p1.lt (by omega))); (try replace u1 := u1.of_eq (ze.block _ u1.lt (by omega))); (try replace r2 := r2.of_eq (ze.block _ r2.lt (by omega))); (try replace rc := rc.of_eq (ze.block _ rc.lt (by omega))); replace od := od.chg ze (by omega); simp only [zo]) | (at_builtin; refine qe rfl _ _ rfl _ _ rfl rfl od ((RS.one s1)) (by simp only [List.length_cons, List.length_nil]; omega) (by omega) ?_; intro v_od wn ht za; have zf := B.size; have zg := za.size; replace B := B.trans (za.mono (by omega)); clear od; (try replace r1 := r1.of_eq (za.block _ (by omega))); (try replace p1 := p1.of_eq (za.block _ (by omega))); (try replace u1 := u1.of_eq (za.block _ (by omega))); (try replace r2 := r2.of_eq (za.block _ (by omega))); (try replace r3 := r3.of_eq (za.block _ (by omega))); (try replace rc := rc.of_eq (za.block _ (by omega))); have od := ht; clear ht; obtain ⟨a_od, c_od, hv, hco⟩ := od.len; (try simp only [List.length_append, List.length_cons, List.length_nil, Nat.zero_add] at hv hco); subst hv; simp only [zo]) | (refine jy rfl _ rfl ⟨x, y, t⟩ (by rfl) (zY B ?_); clear B; intro b_s1 wn zb zd s1 za zf zk B; (try have zh := r1.lt); (try replace r1 := r1.below (za.mono zb)); (try have zh := p1.lt); (try replace p1 := p1.below (za.mono zb)); (try have zh := u1.lt); (try replace u1 := u1.below (za.mono zb)); (try have zh := r2.lt); (try replace r2 := r2.below (za.mono zb)); (try have zh := r3.lt); (try replace r3 := r3.below (za.mono zb)); (try have zh := od.lt); (try replace od := od.below (za.mono zb)); (try have zh := rc.lt); (try replace rc := rc.below (za.mono zb)); simp only [zo]) | (refine xJ rfl _ _ rfl x y t (by rfl) (by rfl) ?_; simp only [zo]) | (refine qM rfl _ rfl _ rfl u1 ?_; simp only [zo]) | (refine zp (t := 95) rfl _ rfl _ _ _ rfl (zv p1 Tryz.isAgg95 (by kernel_rfl)) (by rfl) ?_; simp only [zo]) | (refine zp (t := 62) rfl _ rfl _ _ _ rfl (zx r3.cell0) (by rfl) ?_; simp only [zo]) | fail)
      refine zA (by kernel_rfl) (by kernel_rfl) ?_; repeat (first | go_big_quiet_skip | (go_big_quiet_want; first | (refine zn (t := 95) rfl _ _ _ rfl (fun w hw => zv (zB p1 w hw) Tryz.isAgg95 (by kernel_rfl)) (by rfl) ?_; simp only [zo]; go_big_quiet_on) | (refine zn (t := 62) rfl _ _ _ rfl (fun w hw => zx (zB r1 w hw).cell0) (by rfl) ?_; simp only [zo]; go_big_quiet_on) | (refine zn (t := 95) rfl _ _ _ rfl (fun w hw => qj (z7 rc w hw) hkl he) (by first | rfl | omega) ?_; simp only [zo]; go_big_quiet_on) | (go_big_quiet_op; first | go_big_quiet_on | go_big_quiet_call ((fail)))))
      refine wpQuiet_nil ?_; intro wn za; have zf := B.size; have zg := za.size; replace B := B.trans (za.mono B.size); try replace r1 := r1.below za
      try replace p1 := p1.below za
      try replace u1 := u1.below za
      try replace r2 := r2.below za
      try replace r3 := r3.below za
      try replace od := od.below za
      try replace rc := rc.below za
      go_wp2; refine wG 7 8 #[true, true, true, true, true, true, true, false, false, false, false] (by kernel_rfl) (by kernel_rfl) ?_; simp only [List.length_cons, List.length_nil, Nat.reduceAdd, Nat.reduceSub, List.take_succ_cons, List.take_zero]; repeat (first | go_big_quiet_skip | (go_big_quiet_want; first | (refine zn (t := 62) rfl _ _ _ rfl (fun w hw => zx (zB r3 w hw).cell0) (by rfl) ?_; simp only [zo]; go_big_quiet_on) | (refine zn (t := 62) rfl _ _ _ rfl (fun w hw => zx (zB r1 w hw).cell0) (by rfl) ?_; simp only [zo]; go_big_quiet_on) | (refine zn (t := 125) rfl _ _ _ rfl (fun w hw => xq (z7 rc w hw) hkl he) (by first | rfl | omega) ?_; simp only [zo]; go_big_quiet_on) | (go_big_quiet_op; go_big_quiet_on)))
      refine wpQuiet_nil ?_; intro wn za; have hX := za; have zf := B.size; have zg := za.size; replace B := B.trans (za.mono B.size); try replace r1 := r1.below za
      try replace p1 := p1.below za
      try replace u1 := u1.below za
      try replace r2 := r2.below za
      try replace r3 := r3.below za
      try replace od := od.below za
      try replace rc := rc.below za
      refine zR 7 rfl (by kernel_rfl) rfl (fun K hK => ?_); refine Jb _ rfl e (by rfl) ?_; intro b_s1 wn zb zd ht za zg; have zf := B.size; have hsx := hX.size; replace B := B.trans (za.mono (by omega)); replace hX := hX.trans (za.mono (by omega)); try replace r1 := r1.below (za.mono zb)
      try replace p1 := p1.below (za.mono zb)
      try replace u1 := u1.below (za.mono zb)
      try replace r2 := r2.below (za.mono zb)
      try replace r3 := r3.below (za.mono zb)
      try replace od := od.below (za.mono zb)
      try replace rc := rc.below (za.mono zb)
      have s1 := ht; clear ht; refine hK _ _ ⟨fun _ => ⟨_, zG hX⟩, ?_⟩; clear hK K; simp only [zo]; refine qE (by kernel_rfl) (by kernel_rfl) ?_; simp only [List.drop_succ_cons, List.drop_zero]; go_wp2_with (first | (refine x4 rfl _ _ rfl _ rfl _ _ _ rfl r3 (qG B (by omega) ?_); clear r3 B; intro wn r3 ze zf zg B; (try replace r1 := r1.of_eq (ze.block _ r1.lt (by omega))); (try replace p1 := p1.of_eq (ze.block _ p1.lt (by omega))); (try replace u1 := u1.of_eq (ze.block _ u1.lt (by omega))); (try replace r2 := r2.of_eq (ze.block _ r2.lt (by omega))); (try replace rc := rc.of_eq (ze.block _ rc.lt (by omega))); replace od := od.chg ze (by omega); simp only [zo]) | (at_builtin; refine qe rfl _ _ rfl _ _ rfl rfl od ((RS.one s1)) (by simp only [List.length_append, List.length_cons, List.length_nil]; omega) (by omega) ?_; intro v_od wn ht za; have zf := B.size; have zg := za.size; replace B := B.trans (za.mono (by omega)); clear od; (try replace r1 := r1.of_eq (za.block _ (by omega))); (try replace p1 := p1.of_eq (za.block _ (by omega))); (try replace u1 := u1.of_eq (za.block _ (by omega))); (try replace r2 := r2.of_eq (za.block _ (by omega))); (try replace r3 := r3.of_eq (za.block _ (by omega))); (try replace rc := rc.of_eq (za.block _ (by omega))); have od := ht; clear ht; obtain ⟨a_od, c_od, hv, hco⟩ := od.len; (try simp only [List.length_append, List.length_cons, List.length_nil, Nat.zero_add] at hv hco); subst hv; simp only [zo]) | (refine jy rfl _ rfl e (by rfl) (zY B ?_); clear B; intro b_s1 wn zb zd s1 za zf zk B; (try have zh := r1.lt); (try replace r1 := r1.below (za.mono zb)); (try have zh := p1.lt); (try replace p1 := p1.below (za.mono zb)); (try have zh := u1.lt); (try replace u1 := u1.below (za.mono zb)); (try have zh := r2.lt); (try replace r2 := r2.below (za.mono zb)); (try have zh := r3.lt); (try replace r3 := r3.below (za.mono zb)); (try have zh := od.lt); (try replace od := od.below (za.mono zb)); (try have zh := rc.lt); (try replace rc := rc.below (za.mono zb)); simp only [zo]) | fail)
      refine zL.normal ?_; go_wp2; go_roundw
      case rel => exact ⟨k + 1, _, _, _, _, _, by omega, by go_num, rfl, by first | exact HA.out | (rw [← HA.out, List.append_assoc, List.append_assoc]; rfl) | (rw [← HA.out, List.append_assoc]; rfl) | (rw [← HA.out]; simp), by first | omega | (simp; omega), by first | rfl | simp, B, by omega, r1, p1, u1, r2, r3, od⟩
      case measure => simp [intOf]; omega
     | false =>
      rw [h3, h4] at hacc; simp at hacc
      have HA := Lib.hid hacc; clear hacc; go_wp2_with (first | (refine zp (t := 62) rfl _ rfl _ _ _ rfl (zx r1.cell0) (by rfl) ?_; simp only [zo]) | fail)
      refine zA (by kernel_rfl) (by kernel_rfl) ?_; repeat (first | go_big_quiet_skip | (go_big_quiet_want; first | (refine zn (t := 95) rfl _ _ _ rfl (fun w hw => zv (zB p1 w hw) Tryz.isAgg95 (by kernel_rfl)) (by rfl) ?_; simp only [zo]; go_big_quiet_on) | (refine zn (t := 62) rfl _ _ _ rfl (fun w hw => zx (zB r1 w hw).cell0) (by rfl) ?_; simp only [zo]; go_big_quiet_on) | (refine zn (t := 95) rfl _ _ _ rfl (fun w hw => qj (z7 rc w hw) hkl he) (by first | rfl | omega) ?_; simp only [zo]; go_big_quiet_on) | (go_big_quiet_op; first | go_big_quiet_on | go_big_quiet_call ((first | (go_at_call 170; exact zC (vx _ _ _ _ _)))))))
      refine wpQuiet_nil ?_; intro wn za; have zf := B.size; have zg := za.size; replace B := B.trans (za.mono B.size); try replace r1 := r1.below za
      try replace p1 := p1.below za
      try replace u1 := u1.below za
      try replace r2 := r2.below za
      try replace r3 := r3.below za
      try replace od := od.below za
      try replace rc := rc.below za
      go_wp2; refine zA (by kernel_rfl) (by kernel_rfl) ?_; repeat (first | go_big_quiet_skip | (go_big_quiet_want; first | (refine zn (t := 95) rfl _ _ _ rfl (fun w hw => zv (zB p1 w hw) Tryz.isAgg95 (by kernel_rfl)) (by rfl) ?_; simp only [zo]; go_big_quiet_on) | (refine zn (t := 62) rfl _ _ _ rfl (fun w hw => zx (zB r1 w hw).cell0) (by rfl) ?_; simp only [zo]; go_big_quiet_on) | (refine zn (t := 95) rfl _ _ _ rfl (fun w hw => qj (z7 rc w hw) hkl he) (by first | rfl | omega) ?_; simp only [zo]; go_big_quiet_on) | (go_big_quiet_op; first | go_big_quiet_on | go_big_quiet_call ((fail)))))
      refine wpQuiet_nil ?_; intro wn za; have zf := B.size; have zg := za.size; replace B := B.trans (za.mono B.size); try replace r1 := r1.below za
      try replace p1 := p1.below za
      try replace u1 := u1.below za
      try replace r2 := r2.below za
      try replace r3 := r3.below za
      try replace od := od.below za
      try replace rc := rc.below za
      go_wp2; refine wG 7 8 #[true, true, true, true, true, true, true, false, false, false, false] (by kernel_rfl) (by kernel_rfl) ?_; simp only [List.length_cons, List.length_nil, Nat.reduceAdd, Nat.reduceSub, List.take_succ_cons, List.take_zero]; repeat (first | go_big_quiet_skip | (go_big_quiet_want; first | (refine zn (t := 62) rfl _ _ _ rfl (fun w hw => zx (zB r3 w hw).cell0) (by rfl) ?_; simp only [zo]; go_big_quiet_on) | (refine zn (t := 62) rfl _ _ _ rfl (fun w hw => zx (zB r1 w hw).cell0) (by rfl) ?_; simp only [zo]; go_big_quiet_on) | (refine zn (t := 125) rfl _ _ _ rfl (fun w hw => xq (z7 rc w hw) hkl he) (by first | rfl | omega) ?_; simp only [zo]; go_big_quiet_on) | (go_big_quiet_op; go_big_quiet_on)))
      refine wpQuiet_nil ?_; intro wn za; have hX := za; have zf := B.size; have zg := za.size; replace B := B.trans (za.mono B.size); try replace r1 := r1.below za
      try replace p1 := p1.below za
      try replace u1 := u1.below za
      try replace r2 := r2.below za
      try replace r3 := r3.below za
      try replace od := od.below za
      try replace rc := rc.below za
      refine zR 7 rfl (by kernel_rfl) rfl (fun K hK => ?_); refine Jb _ rfl e (by rfl) ?_; intro b_s1 wn zb zd ht za zg; have zf := B.size; have hsx := hX.size; replace B := B.trans (za.mono (by omega)); replace hX := hX.trans (za.mono (by omega)); try replace r1 := r1.below (za.mono zb)
      try replace p1 := p1.below (za.mono zb)
      try replace u1 := u1.below (za.mono zb)
      try replace r2 := r2.below (za.mono zb)
      try replace r3 := r3.below (za.mono zb)
      try replace od := od.below (za.mono zb)
      try replace rc := rc.below (za.mono zb)
      have s1 := ht; clear ht; refine hK _ _ ⟨fun _ => ⟨_, zG hX⟩, ?_⟩; clear hK K; simp only [zo]; refine qE (by kernel_rfl) (by kernel_rfl) ?_; simp only [List.drop_succ_cons, List.drop_zero]; go_wp2_with (first | (refine x4 rfl _ _ rfl _ rfl _ _ _ rfl r3 (qG B (by omega) ?_); clear r3 B; intro wn r3 ze zf zg B; (try replace r1 := r1.of_eq (ze.block _ r1.lt (by omega))); (try replace p1 := p1.of_eq (ze.block _ p1.lt (by omega))); (try replace u1 := u1.of_eq (ze.block _ u1.lt (by omega))); (try replace r2 := r2.of_eq (ze.block _ r2.lt (by omega))); replace od := od.chg ze (by omega); simp only [zo]) | (at_builtin; refine qe rfl _ _ rfl _ _ rfl rfl od ((RS.one s1)) (by simp only [List.length_append, List.length_cons, List.length_nil]; omega) (by omega) ?_; intro v_od wn ht za; have zf := B.size; have zg := za.size; replace B := B.trans (za.mono (by omega)); clear od; (try replace r1 := r1.of_eq (za.block _ (by omega))); (try replace p1 := p1.of_eq (za.block _ (by omega))); (try replace u1 := u1.of_eq (za.block _ (by omega))); (try replace r2 := r2.of_eq (za.block _ (by omega))); (try replace r3 := r3.of_eq (za.block _ (by omega))); have od := ht; clear ht; obtain ⟨a_od, c_od, hv, hco⟩ := od.len; (try simp only [List.length_append, List.length_cons, List.length_nil, Nat.zero_add] at hv hco); subst hv; simp only [zo]) | (refine jy rfl _ rfl e (by rfl) (zY B ?_); clear B; intro b_s1 wn zb zd s1 za zf zk B; (try have zh := r1.lt); (try replace r1 := r1.below (za.mono zb)); (try have zh := p1.lt); (try replace p1 := p1.below (za.mono zb)); (try have zh := u1.lt); (try replace u1 := u1.below (za.mono zb)); (try have zh := r2.lt); (try replace r2 := r2.below (za.mono zb)); (try have zh := r3.lt); (try replace r3 := r3.below (za.mono zb)); (try have zh := od.lt); (try replace od := od.below (za.mono zb)); (try have zh := rc.lt); simp only [zo]) | fail)
      refine zL.normal ?_; go_wp2; go_roundw
      case rel => exact ⟨k + 1, _, _, _, _, _, by omega, by go_num, rfl, by first | exact HA.out | (rw [← HA.out, List.append_assoc, List.append_assoc]; rfl) | (rw [← HA.out, List.append_assoc]; rfl) | (rw [← HA.out]; simp), by first | omega | (simp; omega), by first | rfl | simp, B, by omega, r1, p1, u1, r2, r3, od⟩
      case measure => simp [intOf]; omega
  ·obtain rfl : k = ls.length := by omega
   rw [List.drop_length] at hacc; unfold yy at hacc; cases dd with
   | true =>
    simp at hacc
    have HA := Lib.hid hacc; clear hacc; go_wp2_with (first | (refine zq (t := 64) rfl _ _ rfl _ rfl _ rfl r2 (by kernel_rfl) rfl (by simp [Value.oneCell']) (qG B (by omega) ?_); clear r2 B; intro wn r2 ze zf zg B; (try replace r1 := r1.of_eq (ze.block _ r1.lt (by omega))); (try replace p1 := p1.of_eq (ze.block _ p1.lt (by omega))); (try replace u1 := u1.of_eq (ze.block _ u1.lt (by omega))); (try replace r3 := r3.of_eq (ze.block _ r3.lt (by omega))); (try replace od := od.of_eq (ze.block _ od.lt (by omega))); replace od := od.chg ze (by omega); simp only [zo]) | (refine zp (t := 64) rfl _ rfl _ _ _ rfl (zv r3 Tryz.isAgg64 (by kernel_rfl)) (by rfl) ?_; simp only [zo]) | (refine zp (t := 62) rfl _ rfl _ _ _ rfl (zx r1.cell0) (by rfl) ?_; simp only [zo]) | fail)
    refine bodyPost_ret (zz (t := 64) rfl _ _ (b_r2) rfl r2 Tryz.isAgg64 (by kernel_rfl)) rfl ?_; exact ⟨_, rfl, by rw [← HA.out]; exact od.rs, B⟩
   | false =>
    simp at hacc
    have HA := Lib.hid hacc; clear hacc; go_wp2_with (first | (refine zq (t := 64) rfl _ _ rfl _ rfl _ rfl r2 (by kernel_rfl) rfl (by simp [Value.oneCell']) (qG B (by omega) ?_); clear r2 B; intro wn r2 ze zf zg B; (try replace r1 := r1.of_eq (ze.block _ r1.lt (by omega))); (try replace p1 := p1.of_eq (ze.block _ p1.lt (by omega))); (try replace u1 := u1.of_eq (ze.block _ u1.lt (by omega))); (try replace r3 := r3.of_eq (ze.block _ r3.lt (by omega))); (try replace od := od.of_eq (ze.block _ od.lt (by omega))); replace od := od.chg ze (by omega); simp only [zo]) | (refine zp (t := 64) rfl _ rfl _ _ _ rfl (zv r3 Tryz.isAgg64 (by kernel_rfl)) (by rfl) ?_; simp only [zo]) | (refine x4 rfl _ _ rfl _ rfl _ _ _ rfl r3 (qG B (by omega) ?_); clear r3 B; intro wn r3 ze zf zg B; (try replace r1 := r1.of_eq (ze.block _ r1.lt (by omega))); (try replace p1 := p1.of_eq (ze.block _ p1.lt (by omega))); (try replace u1 := u1.of_eq (ze.block _ u1.lt (by omega))); (try replace r2 := r2.of_eq (ze.block _ r2.lt (by omega))); replace od := od.chg ze (by omega); simp only [zo]) | (at_builtin; refine qe rfl _ _ rfl _ _ rfl rfl od ((RS.one s1)) (by simp only [List.length_cons, List.length_nil]; omega) (by omega) ?_; intro v_od wn ht za; have zf := B.size; have zg := za.size; replace B := B.trans (za.mono (by omega)); clear od; (try replace r1 := r1.of_eq (za.block _ (by omega))); (try replace p1 := p1.of_eq (za.block _ (by omega))); (try replace u1 := u1.of_eq (za.block _ (by omega))); (try replace r2 := r2.of_eq (za.block _ (by omega))); (try replace r3 := r3.of_eq (za.block _ (by omega))); have od := ht; clear ht; obtain ⟨a_od, c_od, hv, hco⟩ := od.len; (try simp only [List.length_append, List.length_cons, List.length_nil, Nat.zero_add] at hv hco); subst hv; simp only [zo]) | (refine jy rfl _ rfl ⟨x, y, t⟩ (by rfl) (zY B ?_); clear B; intro b_s1 wn zb zd s1 za zf zk B; (try have zh := r1.lt); (try replace r1 := r1.below (za.mono zb)); (try have zh := p1.lt); (try replace p1 := p1.below (za.mono zb)); (try have zh := u1.lt); (try replace u1 := u1.below (za.mono zb)); (try have zh := r2.lt); (try replace r2 := r2.below (za.mono zb)); (try have zh := r3.lt); (try replace r3 := r3.below (za.mono zb)); (try have zh := od.lt); (try replace od := od.below (za.mono zb)); (try have zh := rc.lt); simp only [zo]) | (refine xJ rfl _ _ rfl x y t (by rfl) (by rfl) ?_; simp only [zo]) | (refine qM rfl _ rfl _ rfl u1 ?_; simp only [zo]) | (refine zp (t := 95) rfl _ rfl _ _ _ rfl (zv p1 Tryz.isAgg95 (by kernel_rfl)) (by rfl) ?_; simp only [zo]) | (refine zp (t := 62) rfl _ rfl _ _ _ rfl (zx r3.cell0) (by rfl) ?_; simp only [zo]) | (refine zp (t := 62) rfl _ rfl _ _ _ rfl (zx r1.cell0) (by rfl) ?_; simp only [zo]) | fail)
    refine bodyPost_ret (zz (t := 64) rfl _ _ (b_r2) rfl r2 Tryz.isAgg64 (by kernel_rfl)) rfl ?_; exact ⟨_, rfl, by rw [← HA.out]; exact od.rs, B⟩
end Go.Proofs.YtepelndbbhdofaaGreatDoor
