import Derived.Test.YtepelndbbhdofaaGreatDoorKb2
import Derived.OrdersIn
import Derived.Sort.CutIn

/- Plain: strokes painted dab by dab. -/
namespace Go.Proofs.YtepelndbbhdofaaGreatDoor
open Go.RowKit Pl
set_option linter.unusedVariables false
set_option linter.unusedSimpArgs false
def ke (c : Rc) (f : Int → Int → Px) : List Px := (List.range (areaN c)).map fun j => f (vP c j) (vQ c j)
theorem KP (c : Rc) (f : Int → Int → Px) : (ke c f).length = areaN c := by unfold ke; rw [List.length_map, List.length_range]
theorem zac (c : Rc) (f : Int → Int → Px) {j : Nat} (h : j < areaN c) : (ke c f)[j]? = some (f (vP c j) (vQ c j)) := by
 unfold ke
 rw [List.getElem?_map, List.getElem?_range h]
 rfl
theorem zad {c : Rc} {f : Int → Int → Px} (h : ∀ x y, (f x y).ok) : Wv (ke c f) := fun p hp => by
 unfold ke at hp
 obtain ⟨j, _, rfl⟩ := List.mem_map.1 hp
 exact h _ _
theorem zaf {c : Rc} (hf : xj c) (f : Int → Int → Px) {x y : Int} (h : jH c x y = true) : QA c (ke c f) x y = f x y := by
 have hh := (jM _ _ _).1 h
 obtain ⟨k, e1, e2, e3, e4⟩ := zco hf (X := (x - c.x0).toNat) (Y := (y - c.y0).toNat) (by omega) (by omega)
 have ek : (yU c x y).toNat = k := by
  unfold yU; have hy : (((y - c.y0).toNat : Nat) : Int) = y - c.y0 := by omega
  have hx : (((x - c.x0).toNat : Nat) : Int) = x - c.x0 := by omega
  rw [hy, hx] at e1; omega
 unfold QA
 rw [ek, List.getD_eq_getElem?_getD, zac c f e2, e3, e4]
 show f _ _ = _
 congr 1 <;> omega
theorem zel {R : Rc} (hR : xj R) {ls : List TA} (hs : Qf ls) (h : ∀ e ∈ ls, jH R e.x e.y = true) : ls.length ≤ areaN R := by
 obtain ⟨ea, hw⟩ := x5 hR
 have hW : (widN R : Int) = R.x1 - R.x0 := by unfold widN; have := hR.h1; omega
 have key : ∀ e ∈ ls, (e.x - R.x0).toNat < widN R ∧ ((e.x - R.x0).toNat : Int) = e.x - R.x0 ∧ ((e.y - R.y0).toNat : Int) = e.y - R.y0 ∧ (e.y - R.y0).toNat < (R.y1 - R.y0).toNat := fun e he => by
  have := (jM _ _ _).1 (h e he); omega
 have hp : (ls.map fun e => (e.y - R.y0).toNat * widN R + (e.x - R.x0).toNat).Pairwise (· < ·) := by
  rw [List.pairwise_map]; refine hs.imp_of_mem fun {a b} ha hb hab => ?_
  obtain ⟨a1, a2, a3, _⟩ := key a ha; obtain ⟨b1, b2, b3, _⟩ := key b hb; have hh := of_decide_eq_true hab; rcases hh with hh | ⟨h1, h2⟩
  ·have : (a.y - R.y0).toNat + 1 ≤ (b.y - R.y0).toNat := by omega
   have := Nat.mul_le_mul_right (widN R) this; rw [Nat.add_mul, Nat.one_mul] at this; omega
  ·have : (a.y - R.y0).toNat = (b.y - R.y0).toNat := by omega
   rw [this]; omega
 have := VN _ 0 (areaN R) hp fun x hx => by
  obtain ⟨e, he, rfl⟩ := List.mem_map.1 hx; obtain ⟨a1, a2, a3, a4⟩ := key e he; refine ⟨Nat.zero_le _, ?_⟩; have := Nat.mul_le_mul_right (widN R) (show (e.y - R.y0).toNat + 1 ≤ (R.y1 - R.y0).toNat by omega); rw [Nat.add_mul, Nat.one_mul] at this; rw [ea, Nat.mul_comm (widN R)]; omega
 simpa using this
/-! ### One dab -/
def Xa (s : qS) (n : Int) (p : Px) : Px := if 0 < n then (if s.era = true then Zq p (255 - n) else uN p s.col 0 n) else p
def ZN (d : Db) : Rc := vm (vt d) Xe
def Wj (d : Db) : Bool := decide (d.r < 1) || qA (ZN d)
def vO (s : qS) (d : Db) (ls : List TA) : List Px := ke (ZN d) (fun x y => Xa s (vK d x y) (xT ls x y))
def xk (s : qS) (st : List TA × Int) (d : Db) : List TA × Int :=
 if st.2 ≠ 0 ∨ Wj d = true then st else (kU (ZN d) (vO s d st.1) st.1, uP (ZN d) (vO s d st.1) st.1)
def xU (s : qS) (l : List Db) (ls : List TA) : List TA × Int := l.foldl (xk s) (ls, 0)
def xp (s : qS) (ls : List TA) : List TA × Int := if ju s = true then xU s (xO s) (ji ls) else ([], 1)
theorem zdL {s : qS} (hc : s.col.ok) (n : Int) {p : Px} (hp : p.ok) : (Xa s n p).ok := by
 unfold Xa
 split
 ·split
  ·exact zbE hp _
  ·exact zcc hp hc _ _
 ·exact hp
theorem X8 (r : Rc) : qA (vE r) = qA r := by
 unfold vE
 split
 ·rename_i h
  rw [h]; rfl
 ·rfl
theorem zfx (d : Db) : qA (ZN d) = false → ZN d = ⟨max (vt d).x0 (-65536), max (vt d).y0 (-65536), min (vt d).x1 65536, min (vt d).y1 65536⟩ := fun h => by
 unfold ZN vm at h ⊢
 rw [X8] at h
 unfold vE
 rw [h]
 rfl
theorem XD {d : Db} (ok : V4 d) (h : Wj d = false) : jG (ZN d) = 0 ∧ xj (ZN d) := by
 unfold Wj at h
 rw [Bool.or_eq_false_iff] at h
 obtain ⟨h1, h2⟩ := h
 have e := zfx d h2
 have hE := (y7 _).1 h2
 obtain ⟨a1, a2, a3, a4, a5, a6⟩ := ok
 rw [e] at hE ⊢
 unfold vt at hE ⊢
 simp only at hE
 have hF : xj ⟨max ((d.x - d.r) / 16) (-65536), max ((d.y - d.r) / 16) (-65536), min ((d.x + d.r) / 16 + 1) 65536, min ((d.y + d.r) / 16 + 1) 65536⟩ := by
  refine ⟨?_, ?_, ?_, ?_, ?_, ?_, ?_, ?_⟩ <;> (simp only; omega)
 refine ⟨?_, hF⟩
 unfold jG
 rw [if_pos hF.valid, if_neg (by have h7 := hF.h7; have h8 := hF.h8; simp only at h7 h8 ⊢; omega)]
theorem Qt (s : qS) (d : Db) (ls : List TA) : (vO s d ls).length = areaN (ZN d) := KP _ _
theorem VO {s : qS} (hc : s.col.ok) (d : Db) {ls : List TA} (h : jo ls) : Wv (vO s d ls) := zad fun x y => zdL hc _ (kY h _ _ _ (by omega))
theorem Jt {c : Rc} {L : List Px} {ls : List TA} (hE : jG c = 0) (hL : L.length = areaN c) (hv : qD ls = true) : uP c L ls = kS (xA c L ls (yJ c)) ∧ kU c L ls = yI (xA c L ls (yJ c)) := by
 have hF := yt hE
 have hAr : (L.length : Int) = vC c := by rw [hL, Qj hF]
 have e1 : uP c L ls = if jG c = 0 then kS (xA c L (ji ls) (yJ c)) else jG c := if_pos ⟨hF.valid, hAr⟩
 have e2 : kU c L ls = if jG c = 0 then yI (xA c L (ji ls) (yJ c)) else [] := if_pos ⟨hF.valid, hAr⟩
 rw [e1, e2, if_pos hE, if_pos hE, y8 hv]
 exact ⟨rfl, rfl⟩
theorem KN {l : List TA} (h : kS l = 0) : yI l = l := by
 unfold kS at h
 unfold yI
 split at h
 ·rename_i k
  rw [if_pos k]
 ·cases h
theorem Yq {l : List TA} (h : l.length ≤ 1024) : kS l = 0 ∧ yI l = l := by
 unfold kS yI
 rw [if_pos h, if_pos h]
 exact ⟨rfl, rfl⟩
theorem zbR (s : qS) {st : List TA × Int} (h : st.2 ≠ 0) (d : Db) : xk s st d = st := by unfold xk; rw [if_pos (.inl h)]
theorem wH (s : qS) (st : List TA × Int) {d : Db} (h : Wj d = true) : xk s st d = st := by unfold xk; rw [if_pos (.inr h)]
theorem J9 (s : qS) {ls : List TA} {d : Db} (h : Wj d = false) : xk s (ls, 0) d = (kU (ZN d) (vO s d ls) ls, uP (ZN d) (vO s d ls) ls) := by
 unfold xk
 rw [if_neg (by rw [h]; simp)]
theorem Xb (s : qS) : ∀ (l : List Db) {st : List TA × Int}, st.2 ≠ 0 → l.foldl (xk s) st = st
 | [], _, _ => rfl
 | d :: r, st, h => by
  show r.foldl (xk s) (xk s st d) = st
  rw [zbR s h]; exact Xb s r h
theorem WU (s : qS) (l : List Db) (d : Db) (ls : List TA) : xU s (l ++ [d]) ls = xk s (xU s l ls) d := by unfold xU; rw [List.foldl_append]; rfl
/-- Valid it stays. -/
theorem un (s : qS) {st : List TA × Int} (h : qD st.1 = true) (d : Db) : qD (xk s st d).1 = true := by
 unfold xk
 split
 ·exact h
 ·exact KT _ _ _
theorem Yi {s : qS} (hc : s.col.ok) {st : List TA × Int} (h : jo st.1) (d : Db) : jo (xk s st d).1 := by
 unfold xk
 split
 ·exact h
 ·exact zck (VO hc d h) h
theorem VQ {s : qS} (hc : s.col.ok) : ∀ (l : List Db) (st : List TA × Int), qD st.1 = true → jo st.1 → qD (l.foldl (xk s) st).1 = true ∧ jo (l.foldl (xk s) st).1
 | [], st, h, k => ⟨h, k⟩
 | d :: r, st, h, k => VQ hc r (xk s st d) (un s h d) (Yi hc k d)
theorem uo {s : qS} (hc : s.col.ok) (l : List Db) {ls : List TA} (h : qD ls = true) (k : jo ls) : qD (xU s l ls).1 = true ∧ jo (xU s l ls).1 := VQ hc l (ls, 0) h k
theorem zcl (c : Rc) (L : List Px) (ls : List TA) (h : uP c L ls ≠ 0) : kU c L ls = [] := by
 unfold uP at h
 unfold kU
 split
 ·rename_i k
  rw [if_pos k] at h; split
  ·rename_i k2
   rw [if_pos k2] at h; unfold kS at h; unfold yI; split
   ·rename_i k3
    rw [if_pos k3] at h; exact absurd rfl h
   ·rfl
  ·rfl
 ·rfl
theorem zbV (s : qS) (l : List Db) : ∀ (st : List TA × Int), (st.2 ≠ 0 → st.1 = []) → ((l.foldl (xk s) st).2 ≠ 0 → (l.foldl (xk s) st).1 = []) := by
 induction l with
 | nil => intro st h; exact h
 | cons d r ih =>
  intro st h; refine ih (xk s st d) fun k => ?_
  unfold xk at k ⊢; split
  ·rename_i g
   rw [if_pos g] at k; exact h k
  ·rename_i g
   rw [if_neg g] at k; exact zcl _ _ _ k
theorem WS (s : qS) (l : List Db) (ls : List TA) (h : (xU s l ls).2 ≠ 0) : (xU s l ls).1 = [] := zbV s l (ls, 0) (fun k => absurd rfl k) h
theorem Yx {s : qS} (hc : s.col.ok) {ls : List TA} (k : jo ls) : qD (xp s ls).1 = true ∧ jo (xp s ls).1 := by
 unfold xp
 split
 ·exact uo hc _ (xm ls) (kP k)
 ·exact ⟨xu, jo.nil⟩
/-! ### A pixel -/
def WY (s : qS) (x y : Int) (p : Px) (d : Db) : Px := if Wj d = false ∧ jH (ZN d) x y = true then jt (Xa s (vK d x y) p) else p
theorem zdN {s : qS} {d : Db} {ls : List TA} (ok : V4 d) (hk : Wj d = false) (hv : qD ls = true) (he : uP (ZN d) (vO s d ls) ls = 0) (x y : Int) : xT (kU (ZN d) (vO s d ls) ls) x y = WY s x y (xT ls x y) d := by
 obtain ⟨hE, hF⟩ := XD ok hk
 obtain ⟨e1, e2⟩ := Jt hE (Qt s d ls) hv
 rw [e1] at he
 rw [e2, KN he, zbK hF _ (yy hv) (Y5 hv)]
 unfold WY
 by_cases hh : jH (ZN d) x y = true
 ·rw [if_pos hh, if_pos ⟨hk, hh⟩]
  unfold vO; rw [zaf hF _ hh]
 ·rw [if_neg hh, if_neg (fun k => hh k.2)]
theorem Yk {s : qS} (hc : s.col.ok) (x y : Int) : ∀ (l : List Db) (ls : List TA), (∀ d ∈ l, V4 d) → qD ls = true → jo ls → (xU s l ls).2 = 0 → xT (xU s l ls).1 x y = l.foldl (WY s x y) (xT ls x y)
 | [], ls, _, _, _, _ => rfl
 | d :: r, ls, ok, hv, ht, he => by
  have e0 : xU s (d :: r) ls = r.foldl (xk s) (xk s (ls, 0) d) := rfl; rw [e0] at he ⊢; show xT _ x y = r.foldl (WY s x y) (WY s x y (xT ls x y) d)
  by_cases hz : (xk s (ls, 0) d).2 = 0
  ·have e1 : r.foldl (xk s) (xk s (ls, 0) d) = xU s r (xk s (ls, 0) d).1 := by
    unfold xU
    congr 1
    exact Prod.ext rfl hz
   rw [e1] at he ⊢; rw [Yk hc x y r _ (fun e h => ok e (List.mem_cons_of_mem _ h)) (un s (st := (ls, 0)) hv d) (Yi hc (st := (ls, 0)) ht d) he]
   congr 1
   cases hk : Wj d with
   | true =>
    rw [wH s _ hk]; unfold WY; rw [if_neg (by rw [hk]; simp)]
   | false =>
    rw [J9 s hk] at hz ⊢; exact zdN (ok d (List.mem_cons_self ..)) hk hv hz x y
  ·rw [Xb s r hz] at he
   exact absurd he hz
/-! ### Few tiles -/
theorem zcj {c : Rc} {L : List Px} {ls : List TA} {p : Int × Int} {e : TA} (h : e ∈ YC c L ls p) : e ∈ ls ∨ Xl e = p := by
 rcases QD h with h | ⟨rfl, _⟩
 ·exact .inl h
 ·exact .inr rfl
theorem YE {c : Rc} {L : List Px} : ∀ (ps : List (Int × Int)) (ls : List TA) {e : TA}, e ∈ xA c L ls ps → e ∈ ls ∨ Xl e ∈ ps
 | [], ls, e, h => .inl h
 | p :: r, ls, e, h => by
  rw [wO] at h; rcases YE r _ h with h | h
  ·rcases zcj h with h | h
   ·exact .inl h
   ·exact .inr (h ▸ List.mem_cons_self ..)
  ·exact .inr (List.mem_cons_of_mem _ h)
/-- A raster whose tiles lie in R. -/
def Ki (R : Rc) (ls : List TA) : Prop := ∀ e ∈ ls, jH R e.x e.y = true
def zeH (R : Rc) (d : Db) : Prop := Wj d = false → ∀ x y, jH (wU (ZN d)) x y = true → jH R x y = true
theorem zbQ {s : qS} {R : Rc} (hR : xj R) (hN : areaN R ≤ 1024) {ls : List TA} {d : Db} (ok : V4 d) (hv : qD ls = true) (hb : Ki R ls) (hd : zeH R d) : (xk s (ls, 0) d).2 = 0 ∧ Ki R (xk s (ls, 0) d).1 := by
 cases hk : Wj d with
 | true => rw [wH s _ hk]; exact ⟨rfl, hb⟩
 | false =>
  rw [J9 s hk]; obtain ⟨hE, hF⟩ := XD ok hk; obtain ⟨e1, e2⟩ := Jt hE (Qt s d ls) hv; have hbx : Ki R (xA (ZN d) (vO s d ls) ls (yJ (ZN d))) := fun e he => by
   rcases YE _ _ he with h | h
   ·exact hb e h
   ·exact hd hk _ _ ((Yz hF).1 h)
  have hl := zel hR (QB (ZN d) (vO s d ls) (yJ (ZN d)) ls (yy hv)) hbx; obtain ⟨m1, m2⟩ := Yq (Nat.le_trans hl hN); simp only [e1, e2, m1, m2]; exact ⟨trivial, hbx⟩
theorem Yj {s : qS} {R : Rc} (hR : xj R) (hN : areaN R ≤ 1024) : ∀ (l : List Db) (ls : List TA), (∀ d ∈ l, V4 d) → (∀ d ∈ l, zeH R d) → qD ls = true → Ki R ls → (xU s l ls).2 = 0 ∧ Ki R (xU s l ls).1
 | [], ls, _, _, _, hb => ⟨rfl, hb⟩
 | d :: r, ls, ok, hd, hv, hb => by
  obtain ⟨h1, h2⟩ := zbQ (s := s) hR hN (ok d (List.mem_cons_self ..)) hv hb (hd d (List.mem_cons_self ..)); have e1 : xU s (d :: r) ls = xU s r (xk s (ls, 0) d).1 := by
   show r.foldl (xk s) (xk s (ls, 0) d) = r.foldl (xk s) ((xk s (ls, 0) d).1, 0)
   congr 1
   exact Prod.ext rfl h1
  rw [e1]; exact Yj hR hN r _ (fun e h => ok e (List.mem_cons_of_mem _ h)) (fun e h => hd e (List.mem_cons_of_mem _ h)) (un s (st := (ls, 0)) hv d) h2
/-! ### The area -/
/- Plain: a stroke divided at a point, a stroke shifted. -/
theorem Yw (l : List Sp) {n i : Nat} (h : i < n) : jg (l.take n) i = jg l i := by
 unfold jg
 rw [List.getD_eq_getElem?_getD, List.getD_eq_getElem?_getD, List.getElem?_take_of_lt h]
theorem Js (l : List Sp) (n : Nat) : ∀ k, k < n → jr (l.take n) k = jr l k
 | 0, _ => rfl
 | k + 1, h => by
  show jr (l.take n) k + yd (jg (l.take n) k) (jg (l.take n) (k + 1)) = jr l k + yd (jg l k) (jg l (k + 1))
  rw [Js l n k (by omega), Yw l (by omega), Yw l h]
/-- The phase behind the point. -/
def zce (s : qS) (at_ : Nat) : Int :=
 if s.pha - xX (s.pts.take (at_ + 1)) < 0 then s.pha - xX (s.pts.take (at_ + 1)) + (s.spa - 1 - (s.pha - xX (s.pts.take (at_ + 1)))) / s.spa * s.spa
 else s.pha - xX (s.pts.take (at_ + 1))
def spA (s : qS) (at_ : Nat) : qS := { s with pts := s.pts.take (at_ + 1) }
def spB (s : qS) (at_ : Nat) : qS := { s with pts := s.pts.drop at_, pha := zce s at_ }
section
variable {s : qS} {at_ : Nat}
theorem zcT (ha : at_ < s.pts.length) : xX (s.pts.take (at_ + 1)) = jr s.pts at_ := by
 unfold xX
 rw [List.length_take, show min (at_ + 1) s.pts.length - 1 = at_ by omega]
 exact Js _ _ _ (by omega)
end
/-! ### Shifted -/
def shP (X Y : Int) (a : Sp) : Sp := ⟨a.x + 16 * X, a.y + 16 * Y, a.p⟩
def shS (X Y : Int) (s : qS) : qS := { s with pts := s.pts.map (shP X Y) }
def shD (X Y : Int) (d : Db) : Db := ⟨d.x + 16 * X, d.y + 16 * Y, d.r⟩
section
variable {s : qS} {X Y : Int}
end
/- Plain: coverage by a disk, a straight stroke, erasing. -/
/-! ### Disk -/
/-- A stroke of one point: its area. -/
def zh5 (x y r : Int) : qS := ⟨[⟨x, y, 255⟩], r, 1, Px.zero, false, 0⟩
/-! ### A straight stroke -/
def zie (n r a p q c : Int) : qS := ⟨[⟨0, 0, q⟩, ⟨n, 0, c⟩], r, a, Px.zero, false, p⟩
section
variable {n r a p q c : Int}
end
/-! ### Erasing -/
/-- What erasing keeps. -/
def Wu (a b : Px) : Prop := b.a ≤ a.a ∧ (b.a = 0 ∨ (b.r = a.r ∧ b.g = a.g ∧ b.b = a.b))
theorem Wu.refl (a : Px) : Wu a a := ⟨Int.le_refl _, .inr ⟨rfl, rfl, rfl⟩⟩
theorem Wu.trans {a b c : Px} (h0 : 0 ≤ c.a) (h : Wu a b) (k : Wu b c) : Wu a c := by
 refine ⟨Int.le_trans k.1 h.1, ?_⟩
 rcases k.2 with k2 | ⟨k2, k3, k4⟩
 ·exact .inl k2
 ·rcases h.2 with h2 | ⟨h2, h3, h4⟩
  ·have := k.1
   exact .inl (by omega)
  ·exact .inr ⟨by omega, by omega, by omega⟩
end Go.Proofs.YtepelndbbhdofaaGreatDoor
/- Contract of the reference's Same at equal images. -/
namespace Go.Proofs.YtepelndbbhdofaaGreatDoor
open Go.RowKit Go.Shelf Pl
set_option linter.unusedVariables false
set_option linter.unusedSimpArgs false
set_option maxRecDepth 20000
/- Contract of the reference's Image. -/
def shC (c : Rc) (u : Value) (n : Int) : Array Value := #[.int .i64 c.x0, .int .i64 c.y0, .int .i64 c.x1, .int .i64 c.y1, u, .int .i64 n]
section
variable {o : Oper} {a : Act} {C : World → Prop} {K : Act → Prop}
end
theorem zfh {c : Rc} (hf : xj c) {k j : Nat} (hj : j < widN c) : vP c (widN c * k + j) = c.x0 + (j : Int) ∧ vQ c (widN c * k + j) = c.y0 + (k : Int) := by
 have hw := (x5 hf).2
 unfold vP vQ
 rw [Nat.mul_add_mod, Nat.mod_eq_of_lt hj, Nat.mul_add_div hw, Nat.div_eq_of_lt hj, Nat.add_zero]
 exact ⟨rfl, rfl⟩
theorem qE.chgB {α : Type} {k : Nat} {T S : TypeId} {E : Q3 α k T S} {B b : Nat} {v : Value} {ls : List α} {w w' : World} (h : qE E B v ls w) (hc : qV b w w') (hne : ∀ k, v.ownBlock = some k → k ≠ b) : qE E B v ls w' := by
 refine World.ownsRow.kept (row := some b) h ⟨hc.os, hc.tape, hc.output, hc.size, fun k hk hn => hc.block k hk (fun e => hn (by rw [e]))⟩ ?_
 cases hv : v.ownBlock with
 | none => exact .inl rfl
 | some k =>
  right
  intro e
  injection e with e
  exact hne k hv e
/- The positions of a rectangle's tiles: the reference's Tiles. -/
def psE : Q3 (Int × Int) 2 95 90 where
 enc := fun p => #[.int .i64 p.1, .int .i64 p.2]
 bytes := 16
 zero := (0, 0)
 size := fun _ => rfl
 one := fun x u hu => by
  have : u ∈ [Value.int .i64 x.1, .int .i64 x.2] := hu; simp at this
  rcases this with rfl | rfl <;> rfl
 pos := by omega
 small := by omega
 und := Tryz.underlying90
 info := by kernel_rfl
 zer := by kernel_rfl
theorem zfy {c : Rc} (hf : xj c) {k j : Nat} (hj : j < widN (wU c)) : Zj c (widN (wU c) * k + j) = (c.x0 / 8 + (j : Int), c.y0 / 8 + (k : Int)) := by
 obtain ⟨h1, h2⟩ := zfh (vv hf) (k := k) hj
 unfold Zj
 rw [h1, h2]
 rfl
end Go.Proofs.YtepelndbbhdofaaGreatDoor
/- Regions within a round of a range over a function: walked as anywhere. What a loop's body keeps. -/
namespace Go.Proofs.YtepelndbbhdofaaGreatDoor
open Go.RowKit
set_option linter.unusedVariables false
set_option linter.unusedSimpArgs false
/-- The walk goes on, and in no other way. -/
def qt (K : Act → World → Prop) : Exit → Act → World → Prop
 | .normal, a, w => K a w
 | _, _, _ => False
theorem qt.out (K : Act → World → Prop) : ¬ LetsOut (qt K) := fun ⟨_, _, h⟩ => h
theorem qt.at {K : Act → World → Prop} {a : Act} {w : World} (h : K a w) : qt K .normal a w := h
def wI (l : List Oper) : Bool := l.all fun o => match o.op with
 | .defer _ => false
 | _ => true
theorem vn {l : List Oper} (h : wI l = true) {o : Oper} (ho : o ∈ l) : ∀ c, o.op ≠ .defer c := fun c e => by
 have := List.all_eq_true.1 h o ho
 rw [e] at this
 cases this
section
variable {P : Program} {r n : Nat}
theorem V5 {o : Oper} {a : Act} {w : World} {K K' : Act → World → Prop} {M : Act → World → Prop} {Q : Exit → Act → World → Prop} (hd : ∀ c, o.op ≠ .defer c) (hK : ∀ a w, K' a w → K a w) (h : o.wp P a w K' (qt M)) : o.wpIn (Fence.wide.inRound r) n P a w K Q := by
 refine ⟨fun _ _ => trivial, ?_⟩
 rw [Oper.semAt_eq _ _ _ hd]
 unfold Oper.wp at h
 generalize (execOp a.eval o).run P w = z at *
 cases z with
 | ok x w' =>
  cases x with
  | value v => exact hK _ _ h
  | skip => exact hK _ _ h
  | defer d => exact hK _ _ h
  | enter f args =>
   refine ⟨fun h => (by cases h), CallsIn.inRound r (callsIn_wide.2 (Calls.mono h fun e w'' he => ?_))⟩; cases e with
   | returned v => exact hK _ _ he
   | panicked c => exact he.elim
   | outgrown => exact absurd he (qt.out M)
  | row s args =>
   refine ⟨fun h => (by cases h), fun c cs _ => ?_⟩; obtain ⟨v, w'', h1, h2⟩ := h c cs; exact ⟨v, w'', hK _ _ h1, stepsIn_wide.2 h2⟩
  | _ => exact absurd h (by simp [Oper.upon])
 | halt x w' =>
  cases x with
  | panic v => exact absurd h (by simp [Oper.upon, qt])
  | _ => exact absurd h (by simp [Oper.upon])
theorem ZG {ops : Array Oper} {K : Act → World → Prop} {Q : Exit → Act → World → Prop} (hK : ∀ a w, K a w → Q .normal a w) : ∀ (l : List Oper) (a : Act) (w : World), (∀ o ∈ l, ∀ c, o.op ≠ .defer c) → wpList P ops (qt K) l a w → wpListIn (Fence.wide.inRound r) n P ops Q l a w
 | [], a, w, _, h => hK _ _ h
 | o :: rest, a, w, hd, h => by
  unfold wpList at h; unfold wpListIn; have ih := ZG (ops := ops) hK rest; by_cases hw : Region.wanted o (yielded ops a.tmps) = true
  ·rw [if_pos hw] at h ⊢
   rcases h with h | h
   ·exact V5 (hd o (List.mem_cons_self ..)) (fun a w hh => ih a w (fun o ho => hd o (List.mem_cons_of_mem _ ho)) hh) h
   ·exact absurd h.2 (qt.out K)
  ·rw [if_neg hw] at h ⊢
   exact ⟨fun _ _ => trivial, ih _ _ (fun o ho => hd o (List.mem_cons_of_mem _ ho)) h⟩
/-- A region within a round. -/
theorem zB {id : Nat} {l : List Oper} {Q : Exit → Act → World → Prop} {a : Act} {w : World} (hd : wI l = true) (h : wpList P l.toArray (qt fun a w => Q .normal a w) l a w) : (Code.region id l.toArray false).wpIn (Fence.wide.inRound r) n P Q a w :=
 wpIn_region_lit (ZG (fun _ _ h => h) l a w (fun o ho => vn hd ho) h)
theorem zaz {ops : Array Oper} {K K' M : Act → World → Prop} {Q : Exit → Act → World → Prop} (hd : ∀ o ∈ ops.toList, ∀ c, o.op ≠ .defer c) (hK : ∀ a w, K' a w → K a w) {i : Nat} {a : Act} {w : World} (h : wpOp P ops (qt M) i K' a w) : wpOpIn (Fence.wide.inRound r) n P ops Q i K a w := by
 unfold wpOp at h
 unfold wpOpIn
 cases ho : ops[i]? with
 | none => rw [ho] at h; exact hK _ _ h
 | some o =>
  rw [ho] at h; simp only at h ⊢; by_cases hw : Region.wanted o (yielded ops a.tmps) = true
  ·rw [if_pos hw] at h ⊢
   rcases h with h | h
   ·exact V5 (hd o (by rw [Array.mem_toList_iff]; exact Array.mem_of_getElem? ho)) hK h
   ·exact absurd h.2 (qt.out M)
  ·rw [if_neg hw] at h ⊢
   exact ⟨fun _ _ => trivial, hK _ _ h⟩
theorem QV {ops : Array Oper} {md : Region.Mode} {K : Act → World → Prop} {Q : Exit → Act → World → Prop} (hd : ∀ o ∈ ops.toList, ∀ c, o.op ≠ .defer c) (hK : ∀ a w, K a w → Q .normal a w) : ∀ (f : Nat) (done : Array Bool) (a : Act) (w : World), wpAny P md ops (qt K) f done a w → wpAnyIn (Fence.wide.inRound r) n P md ops Q f done a w
 | 0, _, _, _, h => ⟨h.1, hK _ _ h.2⟩
 | f + 1, done, a, w, h => ⟨fun h0 => hK _ _ (h.1 h0), fun i hi => zaz hd (fun a w hh => QV hd hK f _ a w hh) (h.2 i hi)⟩
/-- A region that draws its order, within a round. -/
theorem zal {id : Nat} {l : List Oper} {Q : Exit → Act → World → Prop} {a : Act} {w : World} (hm : P.follows .mixedOrders = true) (hd : wI l = true) (h : wpAny P .any l.toArray (qt fun a w => Q .normal a w) l.toArray.size (Array.replicate l.toArray.size false) a w.drew) : (Code.region id l.toArray true).wpIn (Fence.wide.inRound r) n P Q a w :=
 wpIn_region_any hm (QV (fun o ho => vn hd (by simpa using ho)) (fun _ _ h => h) _ _ _ _ h)
end
/-! ### What a body keeps that turns one block b of cells -/
structure Q2 (b : Nat) (W W' : World) : Prop where
 size : W.heap.size ≤ W'.heap.size
 same : ∀ (k : Nat) (o : Obj), k ≠ b → W.heap[k]? = some o → o.isCells = true → W'.heap[k]? = some o
theorem Q2.trans {b : Nat} {X Y Z : World} (h : Q2 b X Y) (k : Q2 b Y Z) : Q2 b X Z := ⟨Nat.le_trans h.size k.size, fun i o hi ho hc => k.same i o hi (h.same i o hi ho hc) hc⟩
theorem Q2.refl (b : Nat) (W : World) : Q2 b W W := ⟨Nat.le_refl _, fun _ _ _ h _ => h⟩
theorem Q2.putObj (b : Nat) {W : World} {l : Nat} {o : Obj} (o' : Obj) (hl : W.heap[l]? = some o) (ho : o.isCells = false) : Q2 b W (W.putObj l o') :=
 ⟨by simp [World.putObj], fun k x hk hx hc => by
  have : k ≠ l := fun e => by rw [e, hl] at hx; cases hx; rw [ho] at hc; cases hc
  exact (World.putObj_heap_other (by omega)).trans hx⟩
theorem Q2.chg {b : Nat} {W W' : World} (h : qV b W W') : Q2 b W W' :=
 ⟨h.size, fun k o hk ho _ => (h.block k (Array.getElem?_eq_some_iff.1 ho).1 hk).trans ho⟩
theorem Q2.atB {b k : Nat} {t : TypeId} {cs : Array Value} {W W' : World} (h : Q2 b W W') (hk : k ≠ b) (ha : zJ t W k cs) : zJ t W' k cs := h.same k _ hk ha rfl
theorem KeepsFrom.chg {B b : Nat} {W W' : World} (h : qV b W W') (hb : b < B) : KeepsFrom B W W' :=
 ⟨h.size, fun k o hB hk _ => (h.block k (Array.getElem?_eq_some_iff.1 hk).1 (by omega)).trans hk⟩
theorem xn {W W' : World} (h : Below W.heap.size W W') : W.grownBy W' none :=
 ⟨h.os, h.tape, h.output, h.size, fun k hk _ => h.block k hk⟩
theorem AbidesFrom.below {β : Type} {B : Nat} {J : β → World → Prop} (h : AbidesFrom B J) {s : β} {W W' : World} (hs : J s W) (hb : Below W.heap.size W W') : J s W' :=
 h s W W' none hs (xn hb) (fun r e => by cases e)
/-! ### Facts of cells abide the turn of what is no cells -/
theorem zJ.own {t : TypeId} {A B : World} {b : Nat} {cs : Array Value} {row : Option Nat} (h : zJ t A b cs) (hg : A.grownBy B row) (hr : ∀ r, row = some r → ∃ o : Obj, A.heap[r]? = some o ∧ o.isCells = false) : zJ t B b cs :=
 (hg.block b h.lt (fun e => by
  obtain ⟨o, ho, hc⟩ := hr b e.symm; rw [show A.heap[b]? = _ from h] at ho; cases ho
  cases hc)).trans h
theorem Qm {w : World} {g o : Nat} {v : Value} (h : w.cell? ⟨g, o, none⟩ = some v) : ∀ x : Obj, w.heap[g]? = some x → x.isCells = true := fun x hx => by
 unfold World.cell? at h
 simp only [hx] at h
 cases x <;> first | rfl | (simp at h)
theorem kN {n : Nat} {w A B : World} {row : Option Nat} (h : Below n w A) (hn : n ≤ A.heap.size) (hg : A.grownBy B row) (hr : ∀ r, row = some r → n ≤ r) : Below n w B :=
 ⟨hg.os.trans h.os, hg.tape.trans h.tape, hg.output.trans h.output, Nat.le_trans h.size hg.size, fun k hk => (hg.block k (by omega) (fun e => by have := hr k e.symm; omega)).trans (h.block k hk)⟩
end Go.Proofs.YtepelndbbhdofaaGreatDoor
/- Paste of package raster: what it does to one pixel; the iterator over the tiles of a rectangle. -/
namespace Go.Proofs.YtepelndbbhdofaaGreatDoor
open Go.RowKit Go.Shelf Pl
set_option linter.unusedVariables false
set_option linter.unusedSimpArgs false
set_option maxRecDepth 20000
theorem Qa (r : Rc) (b : Bool) (w : World) (e : qA r = b) : Calls Tryz.prog 45 #[.agg (j4 r)] w fun e w' => e = .returned (.bool b) ∧ Below w.heap.size w w' := by
 subst e
 exact xK r w
theorem zaX (r : Rc) (x y : Int) (b : Bool) (w : World) (e : jH r x y = b) : Calls Tryz.prog 25 #[.agg (j4 r), .agg #[.int .i64 x, .int .i64 y]] w fun e w' => e = .returned (.bool b) ∧ Below w.heap.size w w' := by
 subst e
 exact Vi r x y w
theorem yP (x y : Int) (w : World) (hx : (Lit.int .i64 x).wf = true) (hy : (Lit.int .i64 y).wf = true) : Calls Tryz.prog 81 #[.agg #[.int .i64 x, .int .i64 y]] w fun e w' => e = .returned (.agg #[.int .i64 (x / 8), .int .i64 (y / 8)]) ∧ Below w.heap.size w w' := zfP x y w hx hy
theorem zaV (p : Px) (w : World) (hp : p.ok) : Calls Tryz.prog 123 #[Px.v p] w fun e w' => e = .returned (Px.v (jt p)) ∧ Below w.heap.size w w' := JN p w hp
set_option maxHeartbeats 2000000 in
theorem za2 (c : Rc) (hf : xj c) (L : List Px) (hL : L.length = areaN c) (okL : Wv L) (x y : Int) (p : Px) (hp : p.ok) (bc bm g o cp : Nat) (w : World) (r0 : zJ 38 w bc (j4 c)) (m0 : zJ 117 w bm (xo c (.slice (some ⟨g, o, none⟩) (areaN c) cp))) (ce : zO ku g o L w) :
  Calls Tryz.prog 131 #[.int .i64 x, .int .i64 y, Px.v p, .pointer (some ⟨bc, 0, none⟩), .pointer (some ⟨bm, 0, none⟩)] w fun e w' => e = .returned (Px.v (ZM c L x y p)) ∧ Below w.heap.size w w' := by
 have B := Below.refl w.heap.size w
 have hb1 := r0.lt
 have hb2 := m0.lt
 have hb3 := ce.lt
 have OKL := Lib.hid okL
 cases hh : jH c x y with
 | true =>
  have e1 := Lib.hid (show ZM c L x y p = jt (QA c L x y) from by unfold ZM; rw [hh]; rfl)
  obtain ⟨m1, m2, m3, m4⟩ := VJ hf hh; have hix : (yU c x y).toNat < L.length := by rw [hL]; exact m4
  have hpx : L[(yU c x y).toNat]? = some (QA c L x y) := by
   unfold QA; rw [List.getD_eq_getElem?_getD, List.getElem?_eq_getElem hix]
   rfl
  have hok := Lib.hid (V9 okL (c := c) x y)
  generalize QA c L x y = pp at *
  have hh2 := of_decide_eq_true hh; obtain ⟨g1, g2, g3, g4⟩ := hh2; obtain ⟨a1, a2, a3, a4, a5, a6, a7, a8⟩ := hf; have hidx : (y - c.y0) * (c.x1 - c.x0) + x - c.x0 = yU c x y := rfl; have m5 : yU c x y < (areaN c : Int) := by omega
  have m6 : (areaN c : Int) ≤ 65536 := by
   unfold areaN; have := jW (a := c.x1 - c.x0) (b := c.y1 - c.y0) (m := 256) (k := 256) (by omega) (by omega) (by omega) (by omega); omega
  have HH := Lib.hid hh; clear okL hL hh; go_enter Tryz.func131, Tryz.ntmps131
  go_upto_region 0 with fail
  refine wp_region_lit ?_
  (refine yC rfl _ rfl _ rfl (z6 B ?_); clear B; intro b_q7 wn zb zd q7 za zf zk B; (try have zh := r0.lt); (try replace r0 := r0.below (za.mono zb)); (try have zh := m0.lt); (try replace m0 := m0.below (za.mono zb)); (try have zh := ce.lt); (try replace ce := ce.below (za.mono zb)); simp only [zn])
  (refine qz rfl rfl (z6 B ?_); clear B; intro b_q8 wn zb zd q8 za zf zk B; (try have zh := r0.lt); (try replace r0 := r0.below (za.mono zb)); (try have zh := m0.lt); (try replace m0 := m0.below (za.mono zb)); (try have zh := ce.lt); (try replace ce := ce.below (za.mono zb)); (try have zh := q7.lt); (try replace q7 := q7.below (za.mono zb)); simp only [zn])
  refine wpList_nil ?_; go_upto_region 1 with fail
  refine wp_region_lit ?_; refine zy 4 ?_
  refine qT (enters_of Tryz.func25 (by kernel_rfl) rfl) (c := zaX c x y true _ HH.out) (h := ?_); rintro e wn ⟨rfl, za⟩; have zf := B.size; have zg := za.size; replace B := B.trans (za.mono B.size)
  (try replace r0 := r0.below za)
  (try replace m0 := m0.below za)
  (try replace ce := ce.below za)
  (try replace q7 := q7.below za)
  (try replace q8 := q8.below za)
  refine ⟨_, rfl, ?_⟩; simp only [zn]; refine wpList_nil ?_; go_upto_region 2 with fail
  refine wp_region_lit ?_; refine jp 19 ?_
  repeat (first | go_big_quiet_skip | (go_big_quiet_want; first | ((first | refine zo (t := 115) rfl _ _ _ rfl (fun w hw => j1 (um (zD m0 w hw))) (by first | rfl | omega) ?_ | refine zo (t := 28) rfl _ _ _ rfl (fun w hw => zcp (jb ce w hw) hpx) (by first | rfl | omega) ?_ | refine uS rfl _ rfl (zeA q7) ?_ | refine qB ?_ | refine qC ?_); simp only [zn]; go_big_quiet_on) | (go_big_quiet_op; go_big_quiet_on)))
  refine wpQuiet_nil ?_; refine qT (enters_of Tryz.func123 (by kernel_rfl) rfl) (c := zaV pp _ hok.out) (h := ?_); rintro e wn ⟨rfl, za⟩; have zf := B.size; have zg := za.size; replace B := B.trans (za.mono B.size)
  (try replace r0 := r0.below za)
  (try replace ce := ce.below za)
  (try replace q7 := q7.below za)
  (try replace q8 := q8.below za)
  refine ⟨_, rfl, ?_⟩; simp only [zn]
  (refine ql rfl _ _ rfl _ rfl (_) rfl q8 (qG B (by omega) ?_); clear q8 B; intro wn q8 ze zf zg B; (try replace r0 := r0.of_eq (ze.block _ r0.lt (by omega))); (try replace ce := ce.of_eq (ze.block _ ce.lt (by omega))); (try replace q7 := q7.of_eq (ze.block _ q7.lt (by omega))); simp only [zn])
  refine wpList_nil ?_; go_wp2; refine bodyPost_ret (jQ rfl _ _ (b_q8) rfl q8) rfl ?_; exact ⟨by rw [e1.out], B⟩
 | false =>
  have e1 := Lib.hid (show ZM c L x y p = p from by unfold ZM; rw [hh]; rfl)
  have HH := Lib.hid hh; clear okL hL hh; go_enter Tryz.func131, Tryz.ntmps131
  go_upto_region 0 with fail
  refine wp_region_lit ?_
  (refine yC rfl _ rfl _ rfl (z6 B ?_); clear B; intro b_q7 wn zb zd q7 za zf zk B; (try have zh := r0.lt); (try replace r0 := r0.below (za.mono zb)); (try have zh := m0.lt); (try have zh := ce.lt); (try replace ce := ce.below (za.mono zb)); (try have zh := q7.lt); (try replace q7 := q7.below (za.mono zb)); (try have zh := q8.lt); (try replace q8 := q8.below (za.mono zb)); simp only [zn])
  (refine qz rfl rfl (z6 B ?_); clear B; intro b_q8 wn zb zd q8 za zf zk B; (try have zh := r0.lt); (try replace r0 := r0.below (za.mono zb)); (try have zh := m0.lt); (try have zh := ce.lt); (try replace ce := ce.below (za.mono zb)); (try have zh := q7.lt); (try replace q7 := q7.below (za.mono zb)); (try have zh := q8.lt); (try replace q8 := q8.below (za.mono zb)); simp only [zn])
  refine wpList_nil ?_; go_upto_region 1 with fail
  refine wp_region_lit ?_; refine zy 4 ?_
  refine qT (enters_of Tryz.func25 (by kernel_rfl) rfl) (c := zaX c x y false _ HH.out) (h := ?_); rintro e wn ⟨rfl, za⟩; have zf := B.size; have zg := za.size; replace B := B.trans (za.mono B.size)
  (try replace ce := ce.below za)
  (try replace q7 := q7.below za)
  (try replace q8 := q8.below za)
  refine ⟨_, rfl, ?_⟩; simp only [zn]; refine wpList_nil ?_; go_upto_region 3 with fail
  refine wp_region_lit ?_; refine jp 1 ?_; repeat (first | go_big_quiet_skip | (go_big_quiet_want; first | ((first | refine zo (t := 28) rfl _ _ _ rfl (fun w hw => zcp (jb ce w hw) hpx) (by first | rfl | omega) ?_ | refine uS rfl _ rfl (zeA q7) ?_ | refine qB ?_ | refine qC ?_); simp only [zn]; go_big_quiet_on) | (go_big_quiet_op; go_big_quiet_on)))
  refine wpQuiet_nil ?_
  (refine ql rfl _ _ rfl _ rfl (_) rfl q8 (qG B (by omega) ?_); clear q8 B; intro wn q8 ze zf zg B; simp only [zn])
  refine wpList_nil ?_; go_wp2; refine bodyPost_ret (jQ rfl _ _ (b_q8) rfl q8) rfl ?_; exact ⟨by rw [e1.out], B⟩
theorem zc8 (c : Rc) (w : World) : Calls Tryz.prog 129 #[.agg (j4 c)] w fun e w' => ∃ b, e = .returned (.func (.func 163) #[] #[.pointer (some ⟨b, 0, none⟩)]) ∧ w.heap.size ≤ b ∧ zJ 38 w' b (j4 c) ∧ Below w.heap.size w w' := by
 have B := Below.refl w.heap.size w
 go_enter Tryz.func129, Tryz.ntmps129
 go_upto_region 0 with fail
 refine wp_region_lit ?_
 (refine zt (t := 38) rfl _ rfl _ rfl (z6 B ?_); clear B; intro b_r1 wn zb zd r1 za zf zk B; simp only [zn])
 refine zy 1 ?_
 refine wpList_nil ?_
 go_wp2
 go_ret
 exact ⟨_, rfl, by omega, r1, B⟩
/- Image of both packages, whether the rectangle fits or not. -/
def imR (c : Rc) : Rc := if jG c = 0 then c else Rc.zero
def zhM (c : Rc) (ks : List TA) : List Px := if jG c = 0 then Qr c ks else []
end Go.Proofs.YtepelndbbhdofaaGreatDoor
/- Contract of Paste of package raster. -/
namespace Go.Proofs.YtepelndbbhdofaaGreatDoor
open Go.RowKit Go.Shelf Pl
attribute [local go_sem] Oper.semAt_some
set_option linter.unusedVariables false
set_option linter.unusedSimpArgs false
set_option maxRecDepth 20000
theorem qH {w : World} {b : Nat} {c : Rc} {u : Value} (h : zJ 117 w b (xo c u)) : (Instr.loadAt 38 (.pointer (some ⟨b, 0, none⟩))).run Tryz.prog w = .ok (.agg (j4 c)) w :=
 kB (cs' := j4 c) h 0 Tryz.isAgg38 (by kernel_rfl) (fun j hj => by
  have hj : j < 4 := hj; have hc : j = 0 ∨ j = 1 ∨ j = 2 ∨ j = 3 := by omega
  rcases hc with rfl | rfl | rfl | rfl <;> rfl)
theorem wB (r : Rc) (b : Bool) (w : World) (e : jY r = b) : Calls Tryz.prog 128 #[.agg (j4 r)] w fun e w' => e = .returned (.bool b) ∧ Below w.heap.size w w' := e ▸ vV r w
theorem JK (r : Rc) (n : Int) (w : World) (h : jY r = true) (e : vC r = n) : Calls Tryz.prog 125 #[.agg (j4 r)] w fun e w' => e = .returned (.int .i64 n) ∧ Below w.heap.size w w' := e ▸ zaJ r w h
theorem Vp (c : Rc) (n : Int) (w : World) (e : jG c = n) : Calls Tryz.prog 124 #[.agg (j4 c)] w fun e w' => e = .returned (.int .i64 n) ∧ Below w.heap.size w w' := e ▸ za9 c w
set_option maxHeartbeats 4000000 in
theorem XV (v : Value) (ls : List TA) (c : Rc) (ad : Option Addr) (n cp : Nat) (w : World) (h : RS v ls w) (hn : n ≤ maxLen) (hV0 : jY c = false) : Calls Tryz.prog 77 #[.agg #[v], .agg (xo c (.slice ad n cp))] w fun e w' => e = .returned (.tuple #[.agg #[.slice none 0 0], .int .i64 1]) ∧ Below w.heap.size w w' := by
 have B := Below.refl w.heap.size w
 obtain ⟨a, cpv, rfl, hc⟩ := h.len
 clear h
 go_enter Tryz.func77, Tryz.ntmps77
 go_upto_region 0 with fail
 refine wp_region_lit ?_
 (refine zt (t := 64) rfl _ rfl _ rfl (z6 B ?_); clear B; intro b_r2 wn zb zd r2 za zf zk B; simp only [zn])
 (refine zt (t := 117) rfl _ rfl _ rfl (z6 B ?_); clear B; intro b_m3 wn zb zd m3 za zf zk B; (try have zh := r2.lt); (try replace r2 := r2.below (za.mono zb)); simp only [zn])
 (refine zu (t := 64) rfl _ (jD _ _ rfl) (z6 B ?_); clear B; intro b_r4 wn zb zd r4 za zf zk B; (try have zh := r2.lt); (try replace r2 := r2.below (za.mono zb)); (try have zh := m3.lt); (try replace m3 := m3.below (za.mono zb)); simp only [zn])
 refine zy 1 ?_
 refine wpList_nil ?_
 go_upto_region 1 with fail
 refine wp_region_lit ?_
 refine jp 2 ?_
 repeat (first | go_big_quiet_skip | (go_big_quiet_want; first | ((first | refine zo (t := 38) rfl _ _ _ rfl (fun w hw => qH (zD m3 w hw)) (by first | rfl | omega) ?_ | refine qB ?_ | refine qC ?_); simp only [zn]; go_big_quiet_on) | (go_big_quiet_op; go_big_quiet_on)))
 refine wpQuiet_nil ?_
 (refine zu (t := 38) rfl _ (zZ _ _ rfl) (z6 B ?_); clear B; intro b_c6 wn zb zd c6 za zf zk B; (try have zh := r2.lt); (try replace r2 := r2.below (za.mono zb)); (try have zh := m3.lt); (try replace m3 := m3.below (za.mono zb)); (try have zh := r4.lt); (try replace r4 := r4.below (za.mono zb)); (try have zh := c6.lt); (try replace c6 := c6.below (za.mono zb)); simp only [zn])
 (refine zq (t := 38) rfl _ _ rfl _ rfl _ rfl c6 (by kernel_rfl) rfl (by simp [j4, xo, Value.oneCell']) (qG B (by omega) ?_); clear c6 B; intro wn c6 ze zf zg B; (try replace r2 := r2.of_eq (ze.block _ r2.lt (by omega))); (try replace m3 := m3.of_eq (ze.block _ m3.lt (by omega))); (try replace r4 := r4.of_eq (ze.block _ r4.lt (by omega))); simp only [zn])
 refine wpList_nil ?_
 replace c6 : zJ 38 _ b_c6 (j4 c) := c6
 go_upto_region 2 with fail
 try have lx_r2 := r2.lt
 try have lx_m3 := m3.lt
 try have lx_r4 := r4.lt
 try have lx_c6 := c6.lt
 refine zF 11 [(1, zE ?v1_1)] (by kernel_rfl) (by kernel_rfl) (by kernel_rfl) ?_
 rotate_left 1
 simp only [jK, Nat.reduceAdd]
 refine xM 1 ?_
 repeat (first | go_big_quiet_skip | (go_big_quiet_want; first | ((first | refine zo (t := 38) rfl _ _ _ rfl (fun w hw => qH (zD m3 w hw)) (by first | rfl | omega) ?_ | refine qB ?_ | refine qC ?_); simp only [zn]; go_big_quiet_on) | (go_big_quiet_op; go_big_quiet_on)))
 refine wpQuiet_nil ?_
 refine zz (by rfl) (by first | rfl | simp [Region.wanted, yielded]) ?_ ?_
 ·intro wn za hE Kx hKx
  have zf := B.size; have zg := za.size; replace B := B.trans (za.mono B.size)
  (try replace m3 := m3.below za)
  (try replace r4 := r4.below za)
  (try replace c6 := c6.below za)
  refine zG rfl (enters_of Tryz.func128 (by kernel_rfl) rfl) (by simp only [Act.eval, qo]; rfl) ?_
  refine (wB c false _ hV0).mono ?_; rintro e wm ⟨rfl, zl⟩; refine ⟨_, rfl, ?_⟩; have hz := hKx () wm trivial zl
  dsimp only [zE] at hz
  exact hz
 rintro ⟨⟩
 dsimp only [zE]
 simp only [zn]
 refine xM 4 ?_
 repeat (first | go_big_quiet_skip | (go_big_quiet_want; first | ((first | refine zo (t := 115) rfl _ _ _ rfl (fun w hw => j1 (um (zD m3 w hw))) (by first | rfl | omega) ?_ | refine qB ?_ | refine qC ?_); simp only [zn]; go_big_quiet_on) | (go_big_quiet_op; go_big_quiet_on)))
 refine wpQuiet_nil ?_
 refine vd ?hw1_6 ?_
 case hw1_6 => kernel_rfl
 simp only [zn]
 refine xM 1 ?_
 repeat (first | go_big_quiet_skip | (go_big_quiet_want; first | ((first | refine zo (t := 38) rfl _ _ _ rfl (fun w hw => qH (zD m3 w hw)) (by first | rfl | omega) ?_ | refine qB ?_ | refine qC ?_); simp only [zn]; go_big_quiet_on) | (go_big_quiet_op; go_big_quiet_on)))
 refine wpQuiet_nil ?_
 refine vd ?hw1_8 ?_
 case hw1_8 => kernel_rfl
 simp only [zn]
 refine vT 2 ?_
 refine zY ?_
 intro wn za hE
 have zf := B.size
 have zg := za.size
 replace B := B.trans (za.mono B.size)
 (try replace r4 := r4.below za)
 clear hE
 try simp only [List.drop_succ_cons, List.drop_zero]
 refine zN.normal ?_
 go_upto_region 3 with fail
 refine wp_region_lit ?_
 refine zy 1 ?_
 (refine zq (t := 64) rfl _ _ rfl _ rfl _ rfl r4 (by kernel_rfl) rfl (by simp [j4, xo, Value.oneCell']) (qG B (by omega) ?_); clear r4 B; intro wn r4 ze zf zg B; simp only [zn])
 refine zy 1 ?_
 refine wpList_nil ?_
 go_wp2
 refine bodyPost_ret (zQ (t := 64) rfl _ _ (b_r4) rfl _ rfl r4 Tryz.isAgg64 (by kernel_rfl)) rfl ?_
 exact ⟨rfl, B⟩
set_option maxHeartbeats 4000000 in
theorem XW (v : Value) (ls : List TA) (c : Rc) (ad : Option Addr) (n cp : Nat) (w : World) (h : RS v ls w) (hn : n ≤ maxLen) (hV0 : jY c = true) (A : Int) (hA : vC c = A) (hlen : ¬ (n : Int) = A) : Calls Tryz.prog 77 #[.agg #[v], .agg (xo c (.slice ad n cp))] w fun e w' => e = .returned (.tuple #[.agg #[.slice none 0 0], .int .i64 1]) ∧ Below w.heap.size w w' := by
 have B := Below.refl w.heap.size w
 obtain ⟨a, cpv, rfl, hc⟩ := h.len
 have d1 : ((n : Int) != A) = true := by simpa using hlen
 have HA := Lib.hid hA
 clear h hA
 go_enter Tryz.func77, Tryz.ntmps77
 go_upto_region 0 with fail
 refine wp_region_lit ?_
 (refine zt (t := 64) rfl _ rfl _ rfl (z6 B ?_); clear B; intro b_r2 wn zb zd r2 za zf zk B; simp only [zn])
 (refine zt (t := 117) rfl _ rfl _ rfl (z6 B ?_); clear B; intro b_m3 wn zb zd m3 za zf zk B; (try have zh := r2.lt); (try replace r2 := r2.below (za.mono zb)); simp only [zn])
 (refine zu (t := 64) rfl _ (jD _ _ rfl) (z6 B ?_); clear B; intro b_r4 wn zb zd r4 za zf zk B; (try have zh := r2.lt); (try replace r2 := r2.below (za.mono zb)); (try have zh := m3.lt); (try replace m3 := m3.below (za.mono zb)); simp only [zn])
 refine zy 1 ?_
 refine wpList_nil ?_
 go_upto_region 1 with fail
 refine wp_region_lit ?_
 refine jp 2 ?_
 repeat (first | go_big_quiet_skip | (go_big_quiet_want; first | ((first | refine zo (t := 38) rfl _ _ _ rfl (fun w hw => qH (zD m3 w hw)) (by first | rfl | omega) ?_ | refine qB ?_ | refine qC ?_); simp only [zn]; go_big_quiet_on) | (go_big_quiet_op; go_big_quiet_on)))
 refine wpQuiet_nil ?_
 (refine zu (t := 38) rfl _ (zZ _ _ rfl) (z6 B ?_); clear B; intro b_c6 wn zb zd c6 za zf zk B; (try have zh := r2.lt); (try replace r2 := r2.below (za.mono zb)); (try have zh := m3.lt); (try replace m3 := m3.below (za.mono zb)); (try have zh := r4.lt); (try replace r4 := r4.below (za.mono zb)); (try have zh := c6.lt); (try replace c6 := c6.below (za.mono zb)); simp only [zn])
 (refine zq (t := 38) rfl _ _ rfl _ rfl _ rfl c6 (by kernel_rfl) rfl (by simp [j4, xo, Value.oneCell']) (qG B (by omega) ?_); clear c6 B; intro wn c6 ze zf zg B; (try replace r2 := r2.of_eq (ze.block _ r2.lt (by omega))); (try replace m3 := m3.of_eq (ze.block _ m3.lt (by omega))); (try replace r4 := r4.of_eq (ze.block _ r4.lt (by omega))); simp only [zn])
 refine wpList_nil ?_
 replace c6 : zJ 38 _ b_c6 (j4 c) := c6
 go_upto_region 2 with fail
 try have lx_r2 := r2.lt
 try have lx_m3 := m3.lt
 try have lx_r4 := r4.lt
 try have lx_c6 := c6.lt
 refine zF 11 [(1, zE ?v2_1), (6, zE ?v2_6), (8, zE ?v2_8)] (by kernel_rfl) (by kernel_rfl) (by kernel_rfl) ?_
 rotate_left 3
 simp only [jK, Nat.reduceAdd]
 refine xM 1 ?_
 repeat (first | go_big_quiet_skip | (go_big_quiet_want; first | ((first | refine zo (t := 38) rfl _ _ _ rfl (fun w hw => qH (zD m3 w hw)) (by first | rfl | omega) ?_ | refine qB ?_ | refine qC ?_); simp only [zn]; go_big_quiet_on) | (go_big_quiet_op; go_big_quiet_on)))
 refine wpQuiet_nil ?_
 refine zz (by rfl) (by first | rfl | simp [Region.wanted, yielded]) ?_ ?_
 ·intro wn za hE Kx hKx
  have zf := B.size; have zg := za.size; replace B := B.trans (za.mono B.size)
  (try replace m3 := m3.below za)
  (try replace r4 := r4.below za)
  (try replace c6 := c6.below za)
  refine zG rfl (enters_of Tryz.func128 (by kernel_rfl) rfl) (by simp only [Act.eval, qo]; rfl) ?_
  refine (wB c true _ hV0).mono ?_; rintro e wm ⟨rfl, zl⟩; refine ⟨_, rfl, ?_⟩; have hz := hKx () wm trivial zl
  dsimp only [zE] at hz
  exact hz
 rintro ⟨⟩
 dsimp only [zE]
 simp only [zn]
 refine xM 4 ?_
 repeat (first | go_big_quiet_skip | (go_big_quiet_want; first | ((first | refine zo (t := 115) rfl _ _ _ rfl (fun w hw => j1 (um (zD m3 w hw))) (by first | rfl | omega) ?_ | refine qB ?_ | refine qC ?_); simp only [zn]; go_big_quiet_on) | (go_big_quiet_op; go_big_quiet_on)))
 refine wpQuiet_nil ?_
 refine zz (by rfl) ?hw2_6 ?_ ?_
 case hw2_6 => kernel_rfl
 ·intro wn za hE Kx hKx
  have zf := B.size; have zg := za.size; replace B := B.trans (za.mono B.size)
  (try replace m3 := m3.below za)
  (try replace r4 := r4.below za)
  (try replace c6 := c6.below za)
  refine y4 rfl Tryz.underlying115 rfl ?_; exact hKx () _ trivial (Below.refl _ _)
 rintro ⟨⟩
 dsimp only [zE]
 simp only [zn]
 refine xM 1 ?_
 repeat (first | go_big_quiet_skip | (go_big_quiet_want; first | ((first | refine zo (t := 38) rfl _ _ _ rfl (fun w hw => qH (zD m3 w hw)) (by first | rfl | omega) ?_ | refine qB ?_ | refine qC ?_); simp only [zn]; go_big_quiet_on) | (go_big_quiet_op; go_big_quiet_on)))
 refine wpQuiet_nil ?_
 refine zz (by rfl) ?hw2_8 ?_ ?_
 case hw2_8 => kernel_rfl
 ·intro wn za hE Kx hKx
  have zf := B.size; have zg := za.size; replace B := B.trans (za.mono B.size)
  (try replace r4 := r4.below za)
  refine zG rfl (enters_of Tryz.func125 (by kernel_rfl) rfl) (by simp only [Act.eval, qo]; rfl) ?_
  refine (JK c A _ hV0 HA.out).mono ?_; rintro e wm ⟨rfl, zl⟩; refine ⟨_, rfl, ?_⟩; have hz := hKx () wm trivial zl
  dsimp only [zE] at hz
  exact hz
 rintro ⟨⟩
 dsimp only [zE]
 simp only [zn]
 refine vT 2 ?_
 refine zY ?_
 intro wn za hE
 have zf := B.size
 have zg := za.size
 replace B := B.trans (za.mono B.size)
 (try replace r4 := r4.below za)
 clear hE
 try simp only [List.drop_succ_cons, List.drop_zero]
 refine zN.normal ?_
 go_upto_region 3 with fail
 refine wp_region_lit ?_
 refine zy 1 ?_
 (refine zq (t := 64) rfl _ _ rfl _ rfl _ rfl r4 (by kernel_rfl) rfl (by simp [j4, xo, Value.oneCell']) (qG B (by omega) ?_); clear r4 B; intro wn r4 ze zf zg B; simp only [zn])
 refine zy 1 ?_
 refine wpList_nil ?_
 go_wp2
 refine bodyPost_ret (zQ (t := 64) rfl _ _ (b_r4) rfl _ rfl r4 Tryz.isAgg64 (by kernel_rfl)) rfl ?_
 exact ⟨rfl, B⟩
set_option maxHeartbeats 4000000 in
theorem XU (v : Value) (ls : List TA) (c : Rc) (ad : Option Addr) (n cp : Nat) (w : World) (h : RS v ls w) (hn : n ≤ maxLen) (hV0 : jY c = true) (hA : vC c = (n : Int)) (e0 : Int) (hF : jG c = e0) (h0 : ¬ e0 = 0) : Calls Tryz.prog 77 #[.agg #[v], .agg (xo c (.slice ad n cp))] w fun e w' => e = .returned (.tuple #[.agg #[.slice none 0 0], .int .i64 e0]) ∧ Below w.heap.size w w' := by
 have B := Below.refl w.heap.size w
 obtain ⟨a, cpv, rfl, hc⟩ := h.len
 have d1 : ((n : Int) != (n : Int)) = false := by simp
 have d2 : (e0 != 0) = true := by simpa using h0
 have HA := Lib.hid hA
 have HF := Lib.hid hF
 clear h hA hF
 go_enter Tryz.func77, Tryz.ntmps77
 go_upto_region 0 with fail
 refine wp_region_lit ?_
 (refine zt (t := 64) rfl _ rfl _ rfl (z6 B ?_); clear B; intro b_r2 wn zb zd r2 za zf zk B; simp only [zn])
 (refine zt (t := 117) rfl _ rfl _ rfl (z6 B ?_); clear B; intro b_m3 wn zb zd m3 za zf zk B; (try have zh := r2.lt); (try replace r2 := r2.below (za.mono zb)); simp only [zn])
 (refine zu (t := 64) rfl _ (jD _ _ rfl) (z6 B ?_); clear B; intro b_r4 wn zb zd r4 za zf zk B; (try have zh := r2.lt); (try replace r2 := r2.below (za.mono zb)); (try have zh := m3.lt); (try replace m3 := m3.below (za.mono zb)); simp only [zn])
 refine zy 1 ?_
 refine wpList_nil ?_
 go_upto_region 1 with fail
 refine wp_region_lit ?_
 refine jp 2 ?_
 repeat (first | go_big_quiet_skip | (go_big_quiet_want; first | ((first | refine zo (t := 38) rfl _ _ _ rfl (fun w hw => qH (zD m3 w hw)) (by first | rfl | omega) ?_ | refine qB ?_ | refine qC ?_); simp only [zn]; go_big_quiet_on) | (go_big_quiet_op; go_big_quiet_on)))
 refine wpQuiet_nil ?_
 (refine zu (t := 38) rfl _ (zZ _ _ rfl) (z6 B ?_); clear B; intro b_c6 wn zb zd c6 za zf zk B; (try have zh := r2.lt); (try replace r2 := r2.below (za.mono zb)); (try have zh := m3.lt); (try replace m3 := m3.below (za.mono zb)); (try have zh := r4.lt); (try replace r4 := r4.below (za.mono zb)); (try have zh := c6.lt); (try replace c6 := c6.below (za.mono zb)); simp only [zn])
 (refine zq (t := 38) rfl _ _ rfl _ rfl _ rfl c6 (by kernel_rfl) rfl (by simp [j4, xo, Value.oneCell']) (qG B (by omega) ?_); clear c6 B; intro wn c6 ze zf zg B; (try replace r2 := r2.of_eq (ze.block _ r2.lt (by omega))); (try replace m3 := m3.of_eq (ze.block _ m3.lt (by omega))); (try replace r4 := r4.of_eq (ze.block _ r4.lt (by omega))); simp only [zn])
 refine wpList_nil ?_
 replace c6 : zJ 38 _ b_c6 (j4 c) := c6
 go_upto_region 2 with fail
 try have lx_r2 := r2.lt
 try have lx_m3 := m3.lt
 try have lx_r4 := r4.lt
 try have lx_c6 := c6.lt
 refine zF 11 [(1, zE ?v3_1), (6, zE ?v3_6), (8, zE ?v3_8)] (by kernel_rfl) (by kernel_rfl) (by kernel_rfl) ?_
 rotate_left 3
 simp only [jK, Nat.reduceAdd]
 refine xM 1 ?_
 repeat (first | go_big_quiet_skip | (go_big_quiet_want; first | ((first | refine zo (t := 38) rfl _ _ _ rfl (fun w hw => qH (zD m3 w hw)) (by first | rfl | omega) ?_ | refine qB ?_ | refine qC ?_); simp only [zn]; go_big_quiet_on) | (go_big_quiet_op; go_big_quiet_on)))
 refine wpQuiet_nil ?_
 refine zz (by rfl) (by first | rfl | simp [Region.wanted, yielded]) ?_ ?_
 ·intro wn za hE Kx hKx
  have zf := B.size; have zg := za.size; replace B := B.trans (za.mono B.size)
  (try replace m3 := m3.below za)
  (try replace r4 := r4.below za)
  (try replace c6 := c6.below za)
  refine zG rfl (enters_of Tryz.func128 (by kernel_rfl) rfl) (by simp only [Act.eval, qo]; rfl) ?_
  refine (wB c true _ hV0).mono ?_; rintro e wm ⟨rfl, zl⟩; refine ⟨_, rfl, ?_⟩; have hz := hKx () wm trivial zl
  dsimp only [zE] at hz
  exact hz
 rintro ⟨⟩
 dsimp only [zE]
 simp only [zn]
 refine xM 4 ?_
 repeat (first | go_big_quiet_skip | (go_big_quiet_want; first | ((first | refine zo (t := 115) rfl _ _ _ rfl (fun w hw => j1 (um (zD m3 w hw))) (by first | rfl | omega) ?_ | refine qB ?_ | refine qC ?_); simp only [zn]; go_big_quiet_on) | (go_big_quiet_op; go_big_quiet_on)))
 refine wpQuiet_nil ?_
 refine zz (by rfl) ?hw3_6 ?_ ?_
 case hw3_6 => kernel_rfl
 ·intro wn za hE Kx hKx
  have zf := B.size; have zg := za.size; replace B := B.trans (za.mono B.size)
  (try replace m3 := m3.below za)
  (try replace r4 := r4.below za)
  (try replace c6 := c6.below za)
  refine y4 rfl Tryz.underlying115 rfl ?_; exact hKx () _ trivial (Below.refl _ _)
 rintro ⟨⟩
 dsimp only [zE]
 simp only [zn]
 refine xM 1 ?_
 repeat (first | go_big_quiet_skip | (go_big_quiet_want; first | ((first | refine zo (t := 38) rfl _ _ _ rfl (fun w hw => qH (zD m3 w hw)) (by first | rfl | omega) ?_ | refine qB ?_ | refine qC ?_); simp only [zn]; go_big_quiet_on) | (go_big_quiet_op; go_big_quiet_on)))
 refine wpQuiet_nil ?_
 refine zz (by rfl) ?hw3_8 ?_ ?_
 case hw3_8 => kernel_rfl
 ·intro wn za hE Kx hKx
  have zf := B.size; have zg := za.size; replace B := B.trans (za.mono B.size)
  (try replace m3 := m3.below za)
  (try replace r4 := r4.below za)
  (try replace c6 := c6.below za)
  refine zG rfl (enters_of Tryz.func125 (by kernel_rfl) rfl) (by simp only [Act.eval, qo]; rfl) ?_
  refine (JK c (n : Int) _ hV0 HA.out).mono ?_; rintro e wm ⟨rfl, zl⟩; refine ⟨_, rfl, ?_⟩; have hz := hKx () wm trivial zl
  dsimp only [zE] at hz
  exact hz
 rintro ⟨⟩
 dsimp only [zE]
 simp only [zn]
 refine vT 2 ?_
 refine zY ?_
 intro wn za hE
 have zf := B.size
 have zg := za.size
 replace B := B.trans (za.mono B.size)
 (try replace m3 := m3.below za)
 (try replace r4 := r4.below za)
 (try replace c6 := c6.below za)
 clear hE
 try simp only [List.drop_succ_cons, List.drop_zero]
 refine zN.normal ?_
 go_upto_region 4 with fail
 refine wp_region_lit ?_
 refine jp 1 ?_
 repeat (first | go_big_quiet_skip | (go_big_quiet_want; first | ((first | refine zo (t := 38) rfl _ _ _ rfl (fun w hw => qH (zD m3 w hw)) (by first | rfl | omega) ?_ | refine qB ?_ | refine qC ?_); simp only [zn]; go_big_quiet_on) | (go_big_quiet_op; go_big_quiet_on)))
 refine wpQuiet_nil ?_
 refine qT (enters_of Tryz.func124 (by kernel_rfl) rfl) (c := Vp c e0 _ HF.out) (h := ?_)
 rintro e wn ⟨rfl, za⟩
 have zf := B.size
 have zg := za.size
 replace B := B.trans (za.mono B.size)
 (try replace r4 := r4.below za)
 refine ⟨_, rfl, ?_⟩
 simp only [zn]
 refine zy 1 ?_
 refine wpList_nil ?_
 go_upto_region 5 with fail
 refine wp_region_lit ?_
 refine zy 2 ?_
 refine wpList_nil ?_
 go_upto_region 6 with fail
 refine wp_region_lit ?_
 refine zy 2 ?_
 (refine zq (t := 64) rfl _ _ rfl _ rfl _ rfl r4 (by kernel_rfl) rfl (by simp [j4, xo, Value.oneCell']) (qG B (by omega) ?_); clear r4 B; intro wn r4 ze zf zg B; simp only [zn])
 refine zy 1 ?_
 refine wpList_nil ?_
 go_wp2
 refine bodyPost_ret (zQ (t := 64) rfl _ _ (b_r4) rfl _ rfl r4 Tryz.isAgg64 (by kernel_rfl)) rfl ?_
 exact ⟨rfl, B⟩
end Go.Proofs.YtepelndbbhdofaaGreatDoor
/- A range over a function whose loop variable lies in memory: the round's head makes its block. -/
namespace Go.Proofs.YtepelndbbhdofaaGreatDoor
open Go Go.RowKit
set_option linter.unusedVariables false
set_option linter.unusedSimpArgs false
section
variable {F : Fence} {n : Nat} {P : Program}
/-- The statement 'for x := range seq { .. }' whose head may lay new blocks: 'As x' says what the head leaves. -/
theorem QG {α : Type} {g : Operand} {ps : Array Tmp} {assign body : Code} {Q : Exit → Act → World → Prop} {a : Act} {w : World}
  (hro : F.round = none) (h1 : 1 ≤ n) {gf : Nat} {lb : Array Value} (hg : a.eval g = .func (.func gf) #[] lb) (hFg : F.fn gf) (eg : ∀ args w, (callFunc gf args).run P w = .ok (.enter gf args) w)
  {encs : α → Array Value} {Kp : World → World → Prop} {S Sp : List α → Prop} {N : Nat} {w0 : World} (hseq : SeqStopsK F (n - 1) P gf lb encs Kp S Sp N w0)
  (hKt : ∀ {A B C : World}, Kp A B → Kp B C → Kp A C) (hKb : ∀ (W : World) (l : Nat) (o o' : Obj), w.heap.size ≤ l → W.heap[l]? = some o → o.isCells = false → o.isWalk = false → Kp W (W.putObj l o'))
  (hKg : ∀ (A B : World), Below A.heap.size A B → Kp A B) (hb0 : Below w0.heap.size w0 w) (hps : ∀ x, (encs x).size = ps.size)
  (I : List α → World → Prop) (hI : OwnFrom w.heap.size I) (h0 : I [] w) (As : α → Act → World → Prop) (hAs : ∀ x, OwnFrom w.heap.size (As x))
  (hassign : ∀ (l : Nat) (pre : List α) (x : α) (W : World) (K : Act → World → Prop), I pre W → (∀ a' W', Below W.heap.size W W' → As x a' W' → K a' W') →
   assign.wpIn (F.inRound l) (n - 1 - 1) P (Exit.then K (fun _ _ _ => False)) { tmps := (ps.zip (encs x)).foldl (fun t (p, v) => t.setIfInBounds p v) a.tmps, defers := [] } W)
  (hbody : ∀ (l : Nat) (pre : List α) (x : α) (W : World) (a' : Act), I pre W → As x a' W → pre.length < N → body.wpIn (F.inRound l) (n - 1 - 1) P (ownPostK Kp I (fun _ _ _ => False) (pre ++ [x]) W) a' W)
  (hdone : ∀ (D : Nat) (xs : List α) (W : World), w.heap.size ≤ D → S xs → I xs W → W.heap[D]? = some (.deferred (some [])) → Q .normal { a with defers := { target := .collected D, args := #[] } :: a.defers } W) :
  (Code.rangeFunc g ps assign body).wpIn F n P Q a w := by
 refine wpIn_rangeFunc fun fn hfn => ?_
 rw [hro]
 obtain ⟨rc, hrc⟩ : ∃ rc : LoopState → Option Code → Loop, rc = fun st pe => { state := st, pending := pe, fn, tmps := a.tmps, params := ps, assign, body, defers := w.heap.size } := ⟨_, rfl⟩
 obtain ⟨W1, hW1⟩ : ∃ W1, (w.alloc (.deferred (some []))).alloc (.loop (rc .ready none)) = W1 := ⟨_, rfl⟩
 have blkL : W1.heap[w.heap.size + 1]? = some (.loop (rc .ready none)) := by
  have := World.alloc_heap_new (w.alloc (.deferred (some []))) (.loop (rc .ready none)); rw [← hW1]
  rwa [World.size_alloc] at this
 have blkD : W1.heap[w.heap.size]? = some (.deferred (some [])) := by
  rw [← hW1]; exact (Below.heap_alloc _ _ _ (by simp)).trans (World.alloc_heap_new w _)
 have grown : Below w0.heap.size w0 W1 := by
  rw [← hW1]; exact hb0.trans ((((Below.refl _ w).alloc (Nat.le_refl _) _).alloc (by simp) _).mono hb0.size)
 have szW1 : w.heap.size ≤ W1.heap.size := by rw [← hW1]; simp; omega
 have QQ : I [] W1 := by rw [← hW1]; exact hI.alloc _ (hI.alloc _ h0)
 refine ⟨w.heap.size + 1, [{ target := .collected w.heap.size, args := #[] }], W1, { target := .fn (.func gf) lb, args := #[.func (.yield (w.heap.size + 1)) #[] #[]] }, W1, gf,
  #[.func (.yield (w.heap.size + 1)) #[] #[]] ++ lb, W1, ?_, ?_, ?_, ?_, fun _ => h1, ?_⟩
 ·rw [← hW1, hrc]; exact run_enterLoop_outer _ _ _ _ _
 ·simp only [resolve, hg]
  simp [go_sem]
 ·intro f' hf'
  simp [Target.leads] at hf'
  subst hf'; exact hFg
 ·simp [invoke, go_sem, eg]
 have walks : ∀ {A : World} {row : Option Nat}, (∀ r, row = some r → W1.heap.size ≤ r ∧ ∃ o : Obj, A.heap[r]? = some o ∧ o.isWalk = true) → (∀ r, row = some r → w.heap.size ≤ r ∧ ∃ o : Obj, A.heap[r]? = some o ∧ o.isCells = false) := fun hr r e => by
  obtain ⟨hB, o, ho, hw⟩ := hr r e; exact ⟨by omega, o, ho, Obj.not_cells_of_walk hw⟩
 refine (hseq (w.heap.size + 1)
  (fun pre W => I pre W ∧ W.heap[w.heap.size + 1]? = some (.loop (rc .ready none)) ∧ W.heap[w.heap.size]? = some (.deferred (some [])))
  (fun _ _ => False) W1 grown
  (fun s A B row hs hg' hr => ⟨hI s A B row hs.1 hg' (walks hr), (grownBy_keeps hg' (fun r e => (hr r e).2) hs.2.1 rfl).trans hs.2.1, (grownBy_keeps hg' (fun r e => (hr r e).2) hs.2.2 rfl).trans hs.2.2⟩)
  (fun _ _ _ _ hs _ _ => hs) ?_ ⟨QQ, blkL, blkD⟩).mono ?_
 ·rintro pre x W ⟨hi, hl, hk⟩ hlen
  have hy := run_yield (P := P) (args := encs x) hl (by rw [hrc]; exact hps x)
  rw [hrc] at hy; refine ⟨fn, _, assign, body, hy, roundIn_of_wpIn hfn (hassign _ pre x W _ hi fun a' V hb ha => ?_)⟩; have hlV : V.heap[w.heap.size + 1]? = some (.loop (rc .ready none)) := (hb.block _ (Array.getElem?_eq_some_iff.1 hl).1).trans hl; have hkV : V.heap[w.heap.size]? = some (.deferred (some [])) := (hb.block _ (Array.getElem?_eq_some_iff.1 hk).1).trans hk; have hiV : I pre V := hI pre W V none hi (xn hb) (fun r e => by cases e); refine ⟨_, run_beginRound hlV (by rw [hrc]), ?_⟩; obtain ⟨V1, hV1⟩ : ∃ V1, V.putObj (w.heap.size + 1) (.loop { rc .ready none with state := .busy }) = V1 := ⟨_, rfl⟩; have hl1 : V1.heap[w.heap.size + 1]? = some (.loop { rc .ready none with state := .busy }) := by rw [← hV1]; exact World.putObj_heap_same (Array.getElem?_eq_some_iff.1 hlV).1
  have hk1 : V1.heap[w.heap.size]? = some (.deferred (some [])) := by rw [← hV1]; exact (World.putObj_heap_other (by omega)).trans hkV
  have hKp1 : Kp W V1 := hKt (hKg _ _ hb) (by rw [← hV1]; exact hKb _ _ _ _ (by omega) hlV rfl rfl)
  have hi1 : I pre V1 := by rw [← hV1]; exact hI.putObj _ hiV (by omega) hlV rfl
  have ha1 : As x a' V1 := by rw [← hV1]; exact (hAs x).putObj _ ha (by omega) hlV rfl
  rw [hV1]; refine wpIn_mono (hbody _ pre x V1 a' hi1 ha1 hlen) ?_; rintro e a3 W3 hp; cases e with
  | normal =>
   obtain ⟨ko, kp, hi3⟩ := hp; have hl3 := ko.same _ _ hl1 rfl; have hk3 := ko.same _ _ hk1 rfl; have he := run_endRound (P := P) none hl3; rw [hrc] at he; refine ⟨_, _, he, .inl ⟨rfl, ⟨hI.putObj _ hi3 (by omega) hl3 rfl, ?_, (World.putObj_heap_other (by omega)).trans hk3⟩, hKt (hKt hKp1 kp) (hKb _ _ _ _ (by omega) hl3 rfl rfl)⟩⟩; rw [World.putObj_heap_same (Array.getElem?_eq_some_iff.1 hl3).1, hrc]
   rfl
  | ret => exact hp.2.elim
  | exit id => exact hp.2.elim
  | goto t => exact hp.2.elim
  | panic ch => exact hp.elim
  | outgrown => exact hp.elim
 ·rintro e W2 ⟨⟨v, rfl⟩, ⟨xs, hS, hi, hl, hk⟩ | ⟨_, _, hf⟩⟩
  ·have he := run_endLoop (P := P) hl (by rw [hrc]; simp)
   rw [hrc] at he; exact ⟨none, _, he, hdone _ xs _ (Nat.le_refl _) hS (hI.putObj _ hi (by omega) hl rfl) ((World.putObj_heap_other (by omega)).trans hk)⟩
  ·exact hf.elim
end
section
variable {P : Program} {ops : Array Oper} {md : Region.Mode} {Q : Exit → Act → World → Prop} {S : World → Prop} {t0 f : Nat} {a : Act} {w : World} {T : Array Bool}
theorem Qg (i j k : Nat) {oi oj ok : Oper} (hi : ops[i]? = some oi) (hj : ops[j]? = some oj) (hk : ops[k]? = some ok) (hr : Region.ready md ops T = [i, j, k]) (hgi : oi.guard = none) (hgj : oj.guard = none) (hgk : ok.guard = none)
  (Hi : ∀ K : Act → World → Prop, (∀ a w, (i < t0 → S w) ∧ xh P md ops (zN Q) S t0 f (T.setIfInBounds i true) a w → K a w) → oi.wp P a w K (zN Q))
  (Hj : ∀ K : Act → World → Prop, (∀ a w, (j < t0 → S w) ∧ xh P md ops (zN Q) S t0 f (T.setIfInBounds j true) a w → K a w) → oj.wp P a w K (zN Q))
  (Hk : ∀ K : Act → World → Prop, (∀ a w, (k < t0 → S w) ∧ xh P md ops (zN Q) S t0 f (T.setIfInBounds k true) a w → K a w) → ok.wp P a w K (zN Q)) : xh P md ops (zN Q) S t0 (f + 1) T a w := by
 refine ⟨fun h => (by rw [hr] at h; cases h), fun n hn => ?_⟩
 rw [hr] at hn
 have hn : n = i ∨ n = j ∨ n = k := by simpa using hn
 rcases hn with rfl | rfl | rfl
 ·unfold wpOp
  rw [hi]; simp only []; rw [if_pos (by simp [Region.wanted, hgi])]; exact .inl (Hi _ fun _ _ h => h)
 ·unfold wpOp
  rw [hj]; simp only []; rw [if_pos (by simp [Region.wanted, hgj])]; exact .inl (Hj _ fun _ _ h => h)
 ·unfold wpOp
  rw [hk]; simp only []; rw [if_pos (by simp [Region.wanted, hgk])]; exact .inl (Hk _ fun _ _ h => h)
end
/-- What keeps all but one block of cells, keeps whatever is no cells. -/
theorem KeepsOthers.chgB {b : Nat} {t : TypeId} {cs : Array Value} {W W' : World} (h : qV b W W') (hb : zJ t W b cs) : KeepsOthers W W' :=
 ⟨h.size, fun k o hk ho => by
  by_cases e : k = b
  ·subst e
   rw [show W.heap[k]? = _ from hb] at hk; cases hk
   cases ho
  ·exact (h.block k (Array.getElem?_eq_some_iff.1 hk).1 e).trans hk⟩
theorem Q2.below {b : Nat} {W W' : World} (h : Below W.heap.size W W') : Q2 b W W' :=
 ⟨h.size, fun k o _ ho _ => (h.block k (Array.getElem?_eq_some_iff.1 ho).1).trans ho⟩
theorem qv.own {g o : Nat} {ls : List TA} {A B : World} {row : Option Nat} (h : qv g o ls A) (hn : 0 < ls.length) (hg : A.grownBy B row) (hr : ∀ r, row = some r → ∃ o : Obj, A.heap[r]? = some o ∧ o.isCells = false) : qv g o ls B := by
 refine h.of_eq (hg.block g h.lt fun e => ?_)
 obtain ⟨x, hx, hc⟩ := hr g e.symm
 have h0 := h.2 0 hn 0 (by omega)
 have hs : ∃ v, (xW (aT ls 0))[0]? = some v := ⟨_, JF _⟩
 obtain ⟨v, hv⟩ := hs
 rw [hv] at h0
 have := Qm h0 x hx
 rw [hc] at this
 cases this
theorem RS.own {v : Value} {ls : List TA} {A B : World} {row : Option Nat} (h : RS v ls A) (hg : A.grownBy B row) (hr : ∀ r, row = some r → ∃ o : Obj, A.heap[r]? = some o ∧ o.isCells = false) : RS v ls B := by
 rcases h with h | ⟨g, o, c, e, hc, sc⟩
 ·exact .inl h
 ·exact .inr ⟨g, o, c, e, hc, fun hn => (sc hn).own hn hg hr⟩
end Go.Proofs.YtepelndbbhdofaaGreatDoor
/- The iterator over the tiles of a rectangle: its contract. -/
namespace Go.Proofs.YtepelndbbhdofaaGreatDoor
open Go.RowKit Go.Shelf Pl
attribute [local go_sem] Oper.semAt_some
set_option linter.unusedVariables false
set_option linter.unusedSimpArgs false
set_option maxRecDepth 20000
/-- The first k of N. -/
def y9 (N k : Nat) : List (Fin N) := (List.finRange N).take k
theorem Ze {N k : Nat} (h : k < N) : y9 N (k + 1) = y9 N k ++ [⟨k, h⟩] := by
 unfold y9
 rw [List.take_succ_eq_append_getElem (by simp; omega)]
 simp
theorem v7 {N k : Nat} (h : k ≤ N) : (y9 N k).length = k := by unfold y9; simp; omega
theorem WP (N : Nat) : y9 N 0 = [] := rfl
theorem Qq (N : Nat) : y9 N N = List.finRange N := by unfold y9; rw [List.take_of_length_le (by simp)]
def kT (c : Rc) (i : Fin (Y4 c)) : Int × Int := Zj c i.val
theorem zcg (c : Rc) : (List.finRange (Y4 c)).map (kT c) = yJ c := by
 unfold yJ
 refine List.ext_getElem (by simp) fun i h1 h2 => ?_
 simp [kT]
set_option maxHeartbeats 4000000 in
theorem Y3 (c : Rc) (HF : xj c) (bc b8 n : Nat) (hn1 : 1 ≤ n) (w : World) (r0 : zJ 38 w bc (j4 c)) (hb8 : b8 < w.heap.size) :
  SeqStopsK Fence.wide n Tryz.prog 163 #[.pointer (some ⟨bc, 0, none⟩)] (fun i : Fin (Y4 c) => #[.agg #[.int .i64 (kT c i).1, .int .i64 (kT c i).2]]) (Q2 b8) (fun xs => xs = List.finRange (Y4 c)) (fun _ => True) (Y4 c) w := fun l J Jx W0 hW hJa hJxa hY h0 => by
 have hb8 := Nat.lt_of_lt_of_le hb8 hW.size
 have r0 := r0.of_eq (hW.block _ r0.lt)
 have B := Below.refl W0.heap.size W0
 clear hW hJxa
 have hf := Lib.hid HF
 have HJ := Lib.hid (fun (W' : World) (hb : Below W0.heap.size W0 W') => AbidesFrom.below hJa h0 hb)
 have HY := Lib.hid hY
 clear h0 hJa hY
 obtain ⟨hew, hw0⟩ := x5 (vv HF)
 have hNle := zcS HF
 obtain ⟨f1, f2, f3, f4, f5, f6, f7, f8⟩ := HF
 have hE := Lib.hid (show qA c = false from (y7 _).2 ⟨f1, f2⟩)
 obtain ⟨W, hW⟩ : ∃ W : Nat, (c.x1 - 1) / 8 + 1 - c.x0 / 8 = (W : Int) := ⟨((c.x1 - 1) / 8 + 1 - c.x0 / 8).toNat, by omega⟩
 obtain ⟨H, hH⟩ : ∃ H : Nat, (c.y1 - 1) / 8 + 1 - c.y0 / 8 = (H : Int) := ⟨((c.y1 - 1) / 8 + 1 - c.y0 / 8).toNat, by omega⟩
 have eW : widN (wU c) = W := by unfold widN wU; simp only; rw [hW]; exact Int.toNat_natCast _
 have eH : ((wU c).y1 - (wU c).y0).toNat = H := by unfold wU; simp only; rw [hH]; exact Int.toNat_natCast _
 rw [eW, eH] at hew
 rw [eW] at hw0
 change Y4 c = W * H at hew
 have HR := Lib.hid (fun (k j : Nat) (hj : j < W) => by
  have := zfy (c := c) hf.out (k := k) (j := j) (by rw [eW]; exact hj)
  rw [eW] at this; exact this)
 have wf1 := Lib.hid (show (Lit.int .i64 c.x0).wf = true from JI (by omega) (by omega))
 have wf2 := Lib.hid (show (Lit.int .i64 c.y0).wf = true from JI (by omega) (by omega))
 have wf3 := Lib.hid (show (Lit.int .i64 (c.x1 - 1)).wf = true from JI (by omega) (by omega))
 have wf4 := Lib.hid (show (Lit.int .i64 (c.y1 - 1)).wf = true from JI (by omega) (by omega))
 refine callsIn_wide.2 ?_
 show Calls Tryz.prog 163 #[.func (.yield l) #[] #[], .pointer (some ⟨bc, 0, none⟩)] W0 _
 go_enter Tryz.func163, Tryz.ntmps163
 go_upto_region 0 with fail
 refine wp_region_lit ?_
 refine zy 1 ?_
 refine qT (enters_of Tryz.func45 (by kernel_rfl) rfl) (c := Qa c false _ hE.out) (h := ?_)
 rintro e wn ⟨rfl, za⟩
 have zf := B.size
 have zg := za.size
 replace B := B.trans (za.mono B.size)
 (try replace r0 := r0.below za)
 refine ⟨_, rfl, ?_⟩
 simp only [zn]
 refine wpList_nil ?_
 have hsw := za.size
 go_upto_region 1 with fail
 have r0B := r0
 go_cut [3, 4] from 9 to 29 (fun s3 s4 wx => ∃ b_p3 b_p4, s3 = .pointer (some ⟨b_p3, 0, none⟩) ∧ s4 = .pointer (some ⟨b_p4, 0, none⟩) ∧ Below W0.heap.size W0 wx ∧ W0.heap.size ≤ b_p3 ∧ W0.heap.size ≤ b_p4 ∧ zJ 95 wx b_p3 #[.int .i64 (c.x0 / 8), .int .i64 (c.y0 / 8)] ∧ zJ 95 wx b_p4 #[.int .i64 ((c.x1 - 1) / 8), .int .i64 ((c.y1 - 1) / 8)])
 case first =>
  refine vA 16 #[false, false, false, false, false, false, false, false, false, false, false, false, false, false, false, false, false, false] (by kernel_rfl) (by kernel_rfl) ?_; intro wn za; have hX := za; have zf := B.size; have zg := za.size; replace B := B.trans (za.mono B.size); try replace r0 := r0.below za
  simp only [List.length_cons, List.length_nil, Nat.reduceAdd]; refine qW 0 rfl (by kernel_rfl) ⟨_, zU hX⟩ ?_; intro K hK; try simp only [zP]
  (first | (refine zo (t := 38) rfl _ _ _ rfl (fun w hw => zA (zD r0B w hw) Tryz.isAgg38 (by kernel_rfl)) (by rfl) ?_; simp only [zn]; go_big_quiet_on) | (refine zo (t := 3) rfl _ _ _ rfl (fun w hw => zr ((zD r0B w hw).cellL 0 rfl)) (by rfl) ?_; simp only [zn]; go_big_quiet_on) | (refine zo (t := 3) rfl _ _ _ rfl (fun w hw => zr ((zD r0B w hw).cellL 1 rfl)) (by rfl) ?_; simp only [zn]; go_big_quiet_on) | (refine zo (t := 3) rfl _ _ _ rfl (fun w hw => zr ((zD r0B w hw).cellL 2 rfl)) (by rfl) ?_; simp only [zn]; go_big_quiet_on) | (refine zo (t := 3) rfl _ _ _ rfl (fun w hw => zr ((zD r0B w hw).cellL 3 rfl)) (by rfl) ?_; simp only [zn]; go_big_quiet_on) | (go_big_quiet_op; go_big_quiet_on))
  simp only [zn]; refine qW 1 rfl (by kernel_rfl) ⟨_, zU hX⟩ ?_; intro K hK; try simp only [zP]
  (first | (refine zo (t := 38) rfl _ _ _ rfl (fun w hw => zA (zD r0B w hw) Tryz.isAgg38 (by kernel_rfl)) (by rfl) ?_; simp only [zn]; go_big_quiet_on) | (refine zo (t := 3) rfl _ _ _ rfl (fun w hw => zr ((zD r0B w hw).cellL 0 rfl)) (by rfl) ?_; simp only [zn]; go_big_quiet_on) | (refine zo (t := 3) rfl _ _ _ rfl (fun w hw => zr ((zD r0B w hw).cellL 1 rfl)) (by rfl) ?_; simp only [zn]; go_big_quiet_on) | (refine zo (t := 3) rfl _ _ _ rfl (fun w hw => zr ((zD r0B w hw).cellL 2 rfl)) (by rfl) ?_; simp only [zn]; go_big_quiet_on) | (refine zo (t := 3) rfl _ _ _ rfl (fun w hw => zr ((zD r0B w hw).cellL 3 rfl)) (by rfl) ?_; simp only [zn]; go_big_quiet_on) | (go_big_quiet_op; go_big_quiet_on))
  simp only [zn]; refine qW 2 rfl (by kernel_rfl) ⟨_, zU hX⟩ ?_; intro K hK; try simp only [zP]
  (first | (refine zo (t := 38) rfl _ _ _ rfl (fun w hw => zA (zD r0B w hw) Tryz.isAgg38 (by kernel_rfl)) (by rfl) ?_; simp only [zn]; go_big_quiet_on) | (refine zo (t := 3) rfl _ _ _ rfl (fun w hw => zr ((zD r0B w hw).cellL 0 rfl)) (by rfl) ?_; simp only [zn]; go_big_quiet_on) | (refine zo (t := 3) rfl _ _ _ rfl (fun w hw => zr ((zD r0B w hw).cellL 1 rfl)) (by rfl) ?_; simp only [zn]; go_big_quiet_on) | (refine zo (t := 3) rfl _ _ _ rfl (fun w hw => zr ((zD r0B w hw).cellL 2 rfl)) (by rfl) ?_; simp only [zn]; go_big_quiet_on) | (refine zo (t := 3) rfl _ _ _ rfl (fun w hw => zr ((zD r0B w hw).cellL 3 rfl)) (by rfl) ?_; simp only [zn]; go_big_quiet_on) | (go_big_quiet_op; go_big_quiet_on))
  simp only [zn]; refine qW 3 rfl (by kernel_rfl) ⟨_, zU hX⟩ ?_; intro K hK; try simp only [zP]
  (first | (refine zo (t := 38) rfl _ _ _ rfl (fun w hw => zA (zD r0B w hw) Tryz.isAgg38 (by kernel_rfl)) (by rfl) ?_; simp only [zn]; go_big_quiet_on) | (refine zo (t := 3) rfl _ _ _ rfl (fun w hw => zr ((zD r0B w hw).cellL 0 rfl)) (by rfl) ?_; simp only [zn]; go_big_quiet_on) | (refine zo (t := 3) rfl _ _ _ rfl (fun w hw => zr ((zD r0B w hw).cellL 1 rfl)) (by rfl) ?_; simp only [zn]; go_big_quiet_on) | (refine zo (t := 3) rfl _ _ _ rfl (fun w hw => zr ((zD r0B w hw).cellL 2 rfl)) (by rfl) ?_; simp only [zn]; go_big_quiet_on) | (refine zo (t := 3) rfl _ _ _ rfl (fun w hw => zr ((zD r0B w hw).cellL 3 rfl)) (by rfl) ?_; simp only [zn]; go_big_quiet_on) | (go_big_quiet_op; go_big_quiet_on))
  simp only [zn]; refine qW 4 rfl (by kernel_rfl) ⟨_, zU hX⟩ ?_; intro K hK; try simp only [zP]
  (first | (refine zo (t := 38) rfl _ _ _ rfl (fun w hw => zA (zD r0B w hw) Tryz.isAgg38 (by kernel_rfl)) (by rfl) ?_; simp only [zn]; go_big_quiet_on) | (refine zo (t := 3) rfl _ _ _ rfl (fun w hw => zr ((zD r0B w hw).cellL 0 rfl)) (by rfl) ?_; simp only [zn]; go_big_quiet_on) | (refine zo (t := 3) rfl _ _ _ rfl (fun w hw => zr ((zD r0B w hw).cellL 1 rfl)) (by rfl) ?_; simp only [zn]; go_big_quiet_on) | (refine zo (t := 3) rfl _ _ _ rfl (fun w hw => zr ((zD r0B w hw).cellL 2 rfl)) (by rfl) ?_; simp only [zn]; go_big_quiet_on) | (refine zo (t := 3) rfl _ _ _ rfl (fun w hw => zr ((zD r0B w hw).cellL 3 rfl)) (by rfl) ?_; simp only [zn]; go_big_quiet_on) | (go_big_quiet_op; go_big_quiet_on))
  simp only [zn]; refine qW 6 rfl (by kernel_rfl) ⟨_, zU hX⟩ ?_; intro K hK; try simp only [zP]
  (first | (refine zo (t := 38) rfl _ _ _ rfl (fun w hw => zA (zD r0B w hw) Tryz.isAgg38 (by kernel_rfl)) (by rfl) ?_; simp only [zn]; go_big_quiet_on) | (refine zo (t := 3) rfl _ _ _ rfl (fun w hw => zr ((zD r0B w hw).cellL 0 rfl)) (by rfl) ?_; simp only [zn]; go_big_quiet_on) | (refine zo (t := 3) rfl _ _ _ rfl (fun w hw => zr ((zD r0B w hw).cellL 1 rfl)) (by rfl) ?_; simp only [zn]; go_big_quiet_on) | (refine zo (t := 3) rfl _ _ _ rfl (fun w hw => zr ((zD r0B w hw).cellL 2 rfl)) (by rfl) ?_; simp only [zn]; go_big_quiet_on) | (refine zo (t := 3) rfl _ _ _ rfl (fun w hw => zr ((zD r0B w hw).cellL 3 rfl)) (by rfl) ?_; simp only [zn]; go_big_quiet_on) | (go_big_quiet_op; go_big_quiet_on))
  simp only [zn]; refine qW 7 rfl (by kernel_rfl) ⟨_, zU hX⟩ ?_; intro K hK; try simp only [zP]
  (first | (refine zo (t := 38) rfl _ _ _ rfl (fun w hw => zA (zD r0B w hw) Tryz.isAgg38 (by kernel_rfl)) (by rfl) ?_; simp only [zn]; go_big_quiet_on) | (refine zo (t := 3) rfl _ _ _ rfl (fun w hw => zr ((zD r0B w hw).cellL 0 rfl)) (by rfl) ?_; simp only [zn]; go_big_quiet_on) | (refine zo (t := 3) rfl _ _ _ rfl (fun w hw => zr ((zD r0B w hw).cellL 1 rfl)) (by rfl) ?_; simp only [zn]; go_big_quiet_on) | (refine zo (t := 3) rfl _ _ _ rfl (fun w hw => zr ((zD r0B w hw).cellL 2 rfl)) (by rfl) ?_; simp only [zn]; go_big_quiet_on) | (refine zo (t := 3) rfl _ _ _ rfl (fun w hw => zr ((zD r0B w hw).cellL 3 rfl)) (by rfl) ?_; simp only [zn]; go_big_quiet_on) | (go_big_quiet_op; go_big_quiet_on))
  simp only [zn]; refine qW 8 rfl (by kernel_rfl) ⟨_, zU hX⟩ ?_; intro K hK; try simp only [zP]
  (first | (refine zo (t := 38) rfl _ _ _ rfl (fun w hw => zA (zD r0B w hw) Tryz.isAgg38 (by kernel_rfl)) (by rfl) ?_; simp only [zn]; go_big_quiet_on) | (refine zo (t := 3) rfl _ _ _ rfl (fun w hw => zr ((zD r0B w hw).cellL 0 rfl)) (by rfl) ?_; simp only [zn]; go_big_quiet_on) | (refine zo (t := 3) rfl _ _ _ rfl (fun w hw => zr ((zD r0B w hw).cellL 1 rfl)) (by rfl) ?_; simp only [zn]; go_big_quiet_on) | (refine zo (t := 3) rfl _ _ _ rfl (fun w hw => zr ((zD r0B w hw).cellL 2 rfl)) (by rfl) ?_; simp only [zn]; go_big_quiet_on) | (refine zo (t := 3) rfl _ _ _ rfl (fun w hw => zr ((zD r0B w hw).cellL 3 rfl)) (by rfl) ?_; simp only [zn]; go_big_quiet_on) | (go_big_quiet_op; go_big_quiet_on))
  simp only [zn]; refine qW 9 rfl (by kernel_rfl) ⟨_, zU hX⟩ ?_; intro K hK; try simp only [zP]
  (first | (refine zo (t := 38) rfl _ _ _ rfl (fun w hw => zA (zD r0B w hw) Tryz.isAgg38 (by kernel_rfl)) (by rfl) ?_; simp only [zn]; go_big_quiet_on) | (refine zo (t := 3) rfl _ _ _ rfl (fun w hw => zr ((zD r0B w hw).cellL 0 rfl)) (by rfl) ?_; simp only [zn]; go_big_quiet_on) | (refine zo (t := 3) rfl _ _ _ rfl (fun w hw => zr ((zD r0B w hw).cellL 1 rfl)) (by rfl) ?_; simp only [zn]; go_big_quiet_on) | (refine zo (t := 3) rfl _ _ _ rfl (fun w hw => zr ((zD r0B w hw).cellL 2 rfl)) (by rfl) ?_; simp only [zn]; go_big_quiet_on) | (refine zo (t := 3) rfl _ _ _ rfl (fun w hw => zr ((zD r0B w hw).cellL 3 rfl)) (by rfl) ?_; simp only [zn]; go_big_quiet_on) | (go_big_quiet_op; go_big_quiet_on))
  simp only [zn]; refine qW 10 rfl (by kernel_rfl) ⟨_, zU hX⟩ ?_; intro K hK; try simp only [zP]
  (first | (refine zo (t := 38) rfl _ _ _ rfl (fun w hw => zA (zD r0B w hw) Tryz.isAgg38 (by kernel_rfl)) (by rfl) ?_; simp only [zn]; go_big_quiet_on) | (refine zo (t := 3) rfl _ _ _ rfl (fun w hw => zr ((zD r0B w hw).cellL 0 rfl)) (by rfl) ?_; simp only [zn]; go_big_quiet_on) | (refine zo (t := 3) rfl _ _ _ rfl (fun w hw => zr ((zD r0B w hw).cellL 1 rfl)) (by rfl) ?_; simp only [zn]; go_big_quiet_on) | (refine zo (t := 3) rfl _ _ _ rfl (fun w hw => zr ((zD r0B w hw).cellL 2 rfl)) (by rfl) ?_; simp only [zn]; go_big_quiet_on) | (refine zo (t := 3) rfl _ _ _ rfl (fun w hw => zr ((zD r0B w hw).cellL 3 rfl)) (by rfl) ?_; simp only [zn]; go_big_quiet_on) | (go_big_quiet_op; go_big_quiet_on))
  simp only [zn]; refine qW 11 rfl (by kernel_rfl) ⟨_, zU hX⟩ ?_; intro K hK; try simp only [zP]
  (first | (refine zo (t := 38) rfl _ _ _ rfl (fun w hw => zA (zD r0B w hw) Tryz.isAgg38 (by kernel_rfl)) (by rfl) ?_; simp only [zn]; go_big_quiet_on) | (refine zo (t := 3) rfl _ _ _ rfl (fun w hw => zr ((zD r0B w hw).cellL 0 rfl)) (by rfl) ?_; simp only [zn]; go_big_quiet_on) | (refine zo (t := 3) rfl _ _ _ rfl (fun w hw => zr ((zD r0B w hw).cellL 1 rfl)) (by rfl) ?_; simp only [zn]; go_big_quiet_on) | (refine zo (t := 3) rfl _ _ _ rfl (fun w hw => zr ((zD r0B w hw).cellL 2 rfl)) (by rfl) ?_; simp only [zn]; go_big_quiet_on) | (refine zo (t := 3) rfl _ _ _ rfl (fun w hw => zr ((zD r0B w hw).cellL 3 rfl)) (by rfl) ?_; simp only [zn]; go_big_quiet_on) | (go_big_quiet_op; go_big_quiet_on))
  simp only [zn]; refine qW 12 rfl (by kernel_rfl) ⟨_, zU hX⟩ ?_; intro K hK; try simp only [zP]
  (first | (refine zo (t := 38) rfl _ _ _ rfl (fun w hw => zA (zD r0B w hw) Tryz.isAgg38 (by kernel_rfl)) (by rfl) ?_; simp only [zn]; go_big_quiet_on) | (refine zo (t := 3) rfl _ _ _ rfl (fun w hw => zr ((zD r0B w hw).cellL 0 rfl)) (by rfl) ?_; simp only [zn]; go_big_quiet_on) | (refine zo (t := 3) rfl _ _ _ rfl (fun w hw => zr ((zD r0B w hw).cellL 1 rfl)) (by rfl) ?_; simp only [zn]; go_big_quiet_on) | (refine zo (t := 3) rfl _ _ _ rfl (fun w hw => zr ((zD r0B w hw).cellL 2 rfl)) (by rfl) ?_; simp only [zn]; go_big_quiet_on) | (refine zo (t := 3) rfl _ _ _ rfl (fun w hw => zr ((zD r0B w hw).cellL 3 rfl)) (by rfl) ?_; simp only [zn]; go_big_quiet_on) | (go_big_quiet_op; go_big_quiet_on))
  simp only [zn]; refine Qg 5 14 15 rfl rfl rfl (by kernel_rfl) rfl rfl rfl (fun K hK => ?_) (fun K hK => ?_) (fun K hK => ?_)
  ·skip
   go_simp
   go_at_call 81
   refine (yP c.x0 c.y0 _ wf1.out wf2.out).mono ?_; rintro e wn ⟨rfl, za⟩; have zf := B.size; have zg := za.size; have hsx := hX.size; replace B := B.trans (za.mono B.size); replace hX := hX.trans (za.mono hX.size); try replace p3 := p3.below za
   try replace p4 := p4.below za
   refine hK _ _ ⟨fun _ => ⟨_, zU hX⟩, ?_⟩; clear hK K; simp only [zn]; refine Qg 13 14 15 rfl rfl rfl (by kernel_rfl) rfl rfl rfl (fun K hK => ?_) (fun K hK => ?_) (fun K hK => ?_)
   ·skip
    go_simp
    go_at_call 81
    refine (yP (c.x1 - 1) (c.y1 - 1) _ wf3.out wf4.out).mono ?_; rintro e wn ⟨rfl, za⟩; have zf := B.size; have zg := za.size; have hsx := hX.size; replace B := B.trans (za.mono B.size); replace hX := hX.trans (za.mono hX.size); try replace p3 := p3.below za
    try replace p4 := p4.below za
    refine hK _ _ ⟨fun _ => ⟨_, zU hX⟩, ?_⟩; clear hK K; simp only [zn]; refine xH 14 15 rfl rfl (by kernel_rfl) rfl rfl (fun K hK => ?_) (fun K hK => ?_)
    ·skip
     refine zR (t := 95) _ (z7 _ _ rfl) ?_; intro b_p3 wn zb zd ht za zg; have zf := B.size; have hsx := hX.size; replace B := B.trans (za.mono (by omega)); replace hX := hX.trans (za.mono (by omega)); try replace p3 := p3.below (za.mono zb)
     try replace p4 := p4.below (za.mono zb)
     have p3 := ht; clear ht; refine hK _ _ ⟨fun _ => ⟨_, zU hX⟩, ?_⟩; clear hK K; simp only [zn]; refine qq 15 rfl (by kernel_rfl) rfl (fun K hK => ?_); refine zR (t := 95) _ (z7 _ _ rfl) ?_; intro b_p4 wn zb zd ht za zg; have zf := B.size; have hsx := hX.size; replace B := B.trans (za.mono (by omega)); replace hX := hX.trans (za.mono (by omega)); try replace p3 := p3.below (za.mono zb)
     try replace p4 := p4.below (za.mono zb)
     have p4 := ht; clear ht; refine hK _ _ ⟨fun _ => ⟨_, zU hX⟩, ?_⟩; clear hK K; simp only [zn]; refine js (by kernel_rfl) (by kernel_rfl) ?_; simp only [List.drop_succ_cons, List.drop_zero]; go_wp2_with (first | (refine zq (t := 95) rfl _ _ rfl _ rfl _ rfl p3 (by kernel_rfl) rfl (by simp [Value.oneCell']) (qG B (by omega) ?_); clear p3 B; intro wn p3 ze zf zg B; (try replace p4 := p4.of_eq (ze.block _ p4.lt (by omega))); simp only [zn]) | (refine zq (t := 95) rfl _ _ rfl _ rfl _ rfl p4 (by kernel_rfl) rfl (by simp [Value.oneCell']) (qG B (by omega) ?_); clear p4 B; intro wn p4 ze zf zg B; (try replace p3 := p3.of_eq (ze.block _ p3.lt (by omega))); simp only [zn]) | fail)
     refine zN.normal ?_; go_wp2_with fail
     go_meet; exact ⟨b_p3, b_p4, rfl, rfl, B, by omega, by omega, p3, p4⟩
    ·skip
     refine zR (t := 95) _ (z7 _ _ rfl) ?_; intro b_p4 wn zb zd ht za zg; have zf := B.size; have hsx := hX.size; replace B := B.trans (za.mono (by omega)); replace hX := hX.trans (za.mono (by omega)); try replace p3 := p3.below (za.mono zb)
     try replace p4 := p4.below (za.mono zb)
     have p4 := ht; clear ht; refine hK _ _ ⟨fun _ => ⟨_, zU hX⟩, ?_⟩; clear hK K; simp only [zn]; refine qq 14 rfl (by kernel_rfl) rfl (fun K hK => ?_); refine zR (t := 95) _ (z7 _ _ rfl) ?_; intro b_p3 wn zb zd ht za zg; have zf := B.size; have hsx := hX.size; replace B := B.trans (za.mono (by omega)); replace hX := hX.trans (za.mono (by omega)); try replace p3 := p3.below (za.mono zb)
     try replace p4 := p4.below (za.mono zb)
     have p3 := ht; clear ht; refine hK _ _ ⟨fun _ => ⟨_, zU hX⟩, ?_⟩; clear hK K; simp only [zn]; refine js (by kernel_rfl) (by kernel_rfl) ?_; simp only [List.drop_succ_cons, List.drop_zero]; go_wp2_with (first | (refine zq (t := 95) rfl _ _ rfl _ rfl _ rfl p3 (by kernel_rfl) rfl (by simp [Value.oneCell']) (qG B (by omega) ?_); clear p3 B; intro wn p3 ze zf zg B; (try replace p4 := p4.of_eq (ze.block _ p4.lt (by omega))); simp only [zn]) | (refine zq (t := 95) rfl _ _ rfl _ rfl _ rfl p4 (by kernel_rfl) rfl (by simp [Value.oneCell']) (qG B (by omega) ?_); clear p4 B; intro wn p4 ze zf zg B; (try replace p3 := p3.of_eq (ze.block _ p3.lt (by omega))); simp only [zn]) | fail)
     refine zN.normal ?_; go_wp2_with fail
     go_meet; exact ⟨b_p3, b_p4, rfl, rfl, B, by omega, by omega, p3, p4⟩
   ·skip
    refine zR (t := 95) _ (z7 _ _ rfl) ?_; intro b_p3 wn zb zd ht za zg; have zf := B.size; have hsx := hX.size; replace B := B.trans (za.mono (by omega)); replace hX := hX.trans (za.mono (by omega)); try replace p3 := p3.below (za.mono zb)
    try replace p4 := p4.below (za.mono zb)
    have p3 := ht; clear ht; refine hK _ _ ⟨fun _ => ⟨_, zU hX⟩, ?_⟩; clear hK K; simp only [zn]; refine xH 13 15 rfl rfl (by kernel_rfl) rfl rfl (fun K hK => ?_) (fun K hK => ?_)
    ·skip
     go_simp
     go_at_call 81
     refine (yP (c.x1 - 1) (c.y1 - 1) _ wf3.out wf4.out).mono ?_; rintro e wn ⟨rfl, za⟩; have zf := B.size; have zg := za.size; have hsx := hX.size; replace B := B.trans (za.mono B.size); replace hX := hX.trans (za.mono hX.size); try replace p3 := p3.below za
     try replace p4 := p4.below za
     refine hK _ _ ⟨fun _ => ⟨_, zU hX⟩, ?_⟩; clear hK K; simp only [zn]; refine qq 15 rfl (by kernel_rfl) rfl (fun K hK => ?_); refine zR (t := 95) _ (z7 _ _ rfl) ?_; intro b_p4 wn zb zd ht za zg; have zf := B.size; have hsx := hX.size; replace B := B.trans (za.mono (by omega)); replace hX := hX.trans (za.mono (by omega)); try replace p3 := p3.below (za.mono zb)
     try replace p4 := p4.below (za.mono zb)
     have p4 := ht; clear ht; refine hK _ _ ⟨fun _ => ⟨_, zU hX⟩, ?_⟩; clear hK K; simp only [zn]; refine js (by kernel_rfl) (by kernel_rfl) ?_; simp only [List.drop_succ_cons, List.drop_zero]; go_wp2_with (first | (refine zq (t := 95) rfl _ _ rfl _ rfl _ rfl p3 (by kernel_rfl) rfl (by simp [Value.oneCell']) (qG B (by omega) ?_); clear p3 B; intro wn p3 ze zf zg B; (try replace p4 := p4.of_eq (ze.block _ p4.lt (by omega))); simp only [zn]) | (refine zq (t := 95) rfl _ _ rfl _ rfl _ rfl p4 (by kernel_rfl) rfl (by simp [Value.oneCell']) (qG B (by omega) ?_); clear p4 B; intro wn p4 ze zf zg B; (try replace p3 := p3.of_eq (ze.block _ p3.lt (by omega))); simp only [zn]) | fail)
     refine zN.normal ?_; go_wp2_with fail
     go_meet; exact ⟨b_p3, b_p4, rfl, rfl, B, by omega, by omega, p3, p4⟩
    ·skip
     refine zR (t := 95) _ (z7 _ _ rfl) ?_; intro b_p4 wn zb zd ht za zg; have zf := B.size; have hsx := hX.size; replace B := B.trans (za.mono (by omega)); replace hX := hX.trans (za.mono (by omega)); try replace p3 := p3.below (za.mono zb)
     try replace p4 := p4.below (za.mono zb)
     have p4 := ht; clear ht; refine hK _ _ ⟨fun _ => ⟨_, zU hX⟩, ?_⟩; clear hK K; simp only [zn]; refine qq 13 rfl (by kernel_rfl) rfl (fun K hK => ?_); go_simp
     go_at_call 81
     refine (yP (c.x1 - 1) (c.y1 - 1) _ wf3.out wf4.out).mono ?_; rintro e wn ⟨rfl, za⟩; have zf := B.size; have zg := za.size; have hsx := hX.size; replace B := B.trans (za.mono B.size); replace hX := hX.trans (za.mono hX.size); try replace p3 := p3.below za
     try replace p4 := p4.below za
     refine hK _ _ ⟨fun _ => ⟨_, zU hX⟩, ?_⟩; clear hK K; simp only [zn]; refine js (by kernel_rfl) (by kernel_rfl) ?_; simp only [List.drop_succ_cons, List.drop_zero]; go_wp2_with (first | (refine zq (t := 95) rfl _ _ rfl _ rfl _ rfl p3 (by kernel_rfl) rfl (by simp [Value.oneCell']) (qG B (by omega) ?_); clear p3 B; intro wn p3 ze zf zg B; (try replace p4 := p4.of_eq (ze.block _ p4.lt (by omega))); simp only [zn]) | (refine zq (t := 95) rfl _ _ rfl _ rfl _ rfl p4 (by kernel_rfl) rfl (by simp [Value.oneCell']) (qG B (by omega) ?_); clear p4 B; intro wn p4 ze zf zg B; (try replace p3 := p3.of_eq (ze.block _ p3.lt (by omega))); simp only [zn]) | fail)
     refine zN.normal ?_; go_wp2_with fail
     go_meet; exact ⟨b_p3, b_p4, rfl, rfl, B, by omega, by omega, p3, p4⟩
   ·skip
    refine zR (t := 95) _ (z7 _ _ rfl) ?_; intro b_p4 wn zb zd ht za zg; have zf := B.size; have hsx := hX.size; replace B := B.trans (za.mono (by omega)); replace hX := hX.trans (za.mono (by omega)); try replace p3 := p3.below (za.mono zb)
    try replace p4 := p4.below (za.mono zb)
    have p4 := ht; clear ht; refine hK _ _ ⟨fun _ => ⟨_, zU hX⟩, ?_⟩; clear hK K; simp only [zn]; refine xH 13 14 rfl rfl (by kernel_rfl) rfl rfl (fun K hK => ?_) (fun K hK => ?_)
    ·skip
     go_simp
     go_at_call 81
     refine (yP (c.x1 - 1) (c.y1 - 1) _ wf3.out wf4.out).mono ?_; rintro e wn ⟨rfl, za⟩; have zf := B.size; have zg := za.size; have hsx := hX.size; replace B := B.trans (za.mono B.size); replace hX := hX.trans (za.mono hX.size); try replace p3 := p3.below za
     try replace p4 := p4.below za
     refine hK _ _ ⟨fun _ => ⟨_, zU hX⟩, ?_⟩; clear hK K; simp only [zn]; refine qq 14 rfl (by kernel_rfl) rfl (fun K hK => ?_); refine zR (t := 95) _ (z7 _ _ rfl) ?_; intro b_p3 wn zb zd ht za zg; have zf := B.size; have hsx := hX.size; replace B := B.trans (za.mono (by omega)); replace hX := hX.trans (za.mono (by omega)); try replace p3 := p3.below (za.mono zb)
     try replace p4 := p4.below (za.mono zb)
     have p3 := ht; clear ht; refine hK _ _ ⟨fun _ => ⟨_, zU hX⟩, ?_⟩; clear hK K; simp only [zn]; refine js (by kernel_rfl) (by kernel_rfl) ?_; simp only [List.drop_succ_cons, List.drop_zero]; go_wp2_with (first | (refine zq (t := 95) rfl _ _ rfl _ rfl _ rfl p3 (by kernel_rfl) rfl (by simp [Value.oneCell']) (qG B (by omega) ?_); clear p3 B; intro wn p3 ze zf zg B; (try replace p4 := p4.of_eq (ze.block _ p4.lt (by omega))); simp only [zn]) | (refine zq (t := 95) rfl _ _ rfl _ rfl _ rfl p4 (by kernel_rfl) rfl (by simp [Value.oneCell']) (qG B (by omega) ?_); clear p4 B; intro wn p4 ze zf zg B; (try replace p3 := p3.of_eq (ze.block _ p3.lt (by omega))); simp only [zn]) | fail)
     refine zN.normal ?_; go_wp2_with fail
     go_meet; exact ⟨b_p3, b_p4, rfl, rfl, B, by omega, by omega, p3, p4⟩
    ·skip
     refine zR (t := 95) _ (z7 _ _ rfl) ?_; intro b_p3 wn zb zd ht za zg; have zf := B.size; have hsx := hX.size; replace B := B.trans (za.mono (by omega)); replace hX := hX.trans (za.mono (by omega)); try replace p3 := p3.below (za.mono zb)
     try replace p4 := p4.below (za.mono zb)
     have p3 := ht; clear ht; refine hK _ _ ⟨fun _ => ⟨_, zU hX⟩, ?_⟩; clear hK K; simp only [zn]; refine qq 13 rfl (by kernel_rfl) rfl (fun K hK => ?_); go_simp
     go_at_call 81
     refine (yP (c.x1 - 1) (c.y1 - 1) _ wf3.out wf4.out).mono ?_; rintro e wn ⟨rfl, za⟩; have zf := B.size; have zg := za.size; have hsx := hX.size; replace B := B.trans (za.mono B.size); replace hX := hX.trans (za.mono hX.size); try replace p3 := p3.below za
     try replace p4 := p4.below za
     refine hK _ _ ⟨fun _ => ⟨_, zU hX⟩, ?_⟩; clear hK K; simp only [zn]; refine js (by kernel_rfl) (by kernel_rfl) ?_; simp only [List.drop_succ_cons, List.drop_zero]; go_wp2_with (first | (refine zq (t := 95) rfl _ _ rfl _ rfl _ rfl p3 (by kernel_rfl) rfl (by simp [Value.oneCell']) (qG B (by omega) ?_); clear p3 B; intro wn p3 ze zf zg B; (try replace p4 := p4.of_eq (ze.block _ p4.lt (by omega))); simp only [zn]) | (refine zq (t := 95) rfl _ _ rfl _ rfl _ rfl p4 (by kernel_rfl) rfl (by simp [Value.oneCell']) (qG B (by omega) ?_); clear p4 B; intro wn p4 ze zf zg B; (try replace p3 := p3.of_eq (ze.block _ p3.lt (by omega))); simp only [zn]) | fail)
     refine zN.normal ?_; go_wp2_with fail
     go_meet; exact ⟨b_p3, b_p4, rfl, rfl, B, by omega, by omega, p3, p4⟩
  ·skip
   refine zR (t := 95) _ (z7 _ _ rfl) ?_; intro b_p3 wn zb zd ht za zg; have zf := B.size; have hsx := hX.size; replace B := B.trans (za.mono (by omega)); replace hX := hX.trans (za.mono (by omega)); try replace p3 := p3.below (za.mono zb)
   try replace p4 := p4.below (za.mono zb)
   have p3 := ht; clear ht; refine hK _ _ ⟨fun _ => ⟨_, zU hX⟩, ?_⟩; clear hK K; simp only [zn]; refine xH 5 15 rfl rfl (by kernel_rfl) rfl rfl (fun K hK => ?_) (fun K hK => ?_)
   ·skip
    go_simp
    go_at_call 81
    refine (yP c.x0 c.y0 _ wf1.out wf2.out).mono ?_; rintro e wn ⟨rfl, za⟩; have zf := B.size; have zg := za.size; have hsx := hX.size; replace B := B.trans (za.mono B.size); replace hX := hX.trans (za.mono hX.size); try replace p3 := p3.below za
    try replace p4 := p4.below za
    refine hK _ _ ⟨fun _ => ⟨_, zU hX⟩, ?_⟩; clear hK K; simp only [zn]; refine xH 13 15 rfl rfl (by kernel_rfl) rfl rfl (fun K hK => ?_) (fun K hK => ?_)
    ·skip
     go_simp
     go_at_call 81
     refine (yP (c.x1 - 1) (c.y1 - 1) _ wf3.out wf4.out).mono ?_; rintro e wn ⟨rfl, za⟩; have zf := B.size; have zg := za.size; have hsx := hX.size; replace B := B.trans (za.mono B.size); replace hX := hX.trans (za.mono hX.size); try replace p3 := p3.below za
     try replace p4 := p4.below za
     refine hK _ _ ⟨fun _ => ⟨_, zU hX⟩, ?_⟩; clear hK K; simp only [zn]; refine qq 15 rfl (by kernel_rfl) rfl (fun K hK => ?_); refine zR (t := 95) _ (z7 _ _ rfl) ?_; intro b_p4 wn zb zd ht za zg; have zf := B.size; have hsx := hX.size; replace B := B.trans (za.mono (by omega)); replace hX := hX.trans (za.mono (by omega)); try replace p3 := p3.below (za.mono zb)
     try replace p4 := p4.below (za.mono zb)
     have p4 := ht; clear ht; refine hK _ _ ⟨fun _ => ⟨_, zU hX⟩, ?_⟩; clear hK K; simp only [zn]; refine js (by kernel_rfl) (by kernel_rfl) ?_; simp only [List.drop_succ_cons, List.drop_zero]; go_wp2_with (first | (refine zq (t := 95) rfl _ _ rfl _ rfl _ rfl p3 (by kernel_rfl) rfl (by simp [Value.oneCell']) (qG B (by omega) ?_); clear p3 B; intro wn p3 ze zf zg B; (try replace p4 := p4.of_eq (ze.block _ p4.lt (by omega))); simp only [zn]) | (refine zq (t := 95) rfl _ _ rfl _ rfl _ rfl p4 (by kernel_rfl) rfl (by simp [Value.oneCell']) (qG B (by omega) ?_); clear p4 B; intro wn p4 ze zf zg B; (try replace p3 := p3.of_eq (ze.block _ p3.lt (by omega))); simp only [zn]) | fail)
     refine zN.normal ?_; go_wp2_with fail
     go_meet; exact ⟨b_p3, b_p4, rfl, rfl, B, by omega, by omega, p3, p4⟩
    ·skip
     refine zR (t := 95) _ (z7 _ _ rfl) ?_; intro b_p4 wn zb zd ht za zg; have zf := B.size; have hsx := hX.size; replace B := B.trans (za.mono (by omega)); replace hX := hX.trans (za.mono (by omega)); try replace p3 := p3.below (za.mono zb)
     try replace p4 := p4.below (za.mono zb)
     have p4 := ht; clear ht; refine hK _ _ ⟨fun _ => ⟨_, zU hX⟩, ?_⟩; clear hK K; simp only [zn]; refine qq 13 rfl (by kernel_rfl) rfl (fun K hK => ?_); go_simp
     go_at_call 81
     refine (yP (c.x1 - 1) (c.y1 - 1) _ wf3.out wf4.out).mono ?_; rintro e wn ⟨rfl, za⟩; have zf := B.size; have zg := za.size; have hsx := hX.size; replace B := B.trans (za.mono B.size); replace hX := hX.trans (za.mono hX.size); try replace p3 := p3.below za
     try replace p4 := p4.below za
     refine hK _ _ ⟨fun _ => ⟨_, zU hX⟩, ?_⟩; clear hK K; simp only [zn]; refine js (by kernel_rfl) (by kernel_rfl) ?_; simp only [List.drop_succ_cons, List.drop_zero]; go_wp2_with (first | (refine zq (t := 95) rfl _ _ rfl _ rfl _ rfl p3 (by kernel_rfl) rfl (by simp [Value.oneCell']) (qG B (by omega) ?_); clear p3 B; intro wn p3 ze zf zg B; (try replace p4 := p4.of_eq (ze.block _ p4.lt (by omega))); simp only [zn]) | (refine zq (t := 95) rfl _ _ rfl _ rfl _ rfl p4 (by kernel_rfl) rfl (by simp [Value.oneCell']) (qG B (by omega) ?_); clear p4 B; intro wn p4 ze zf zg B; (try replace p3 := p3.of_eq (ze.block _ p3.lt (by omega))); simp only [zn]) | fail)
     refine zN.normal ?_; go_wp2_with fail
     go_meet; exact ⟨b_p3, b_p4, rfl, rfl, B, by omega, by omega, p3, p4⟩
   ·skip
    refine zR (t := 95) _ (z7 _ _ rfl) ?_; intro b_p4 wn zb zd ht za zg; have zf := B.size; have hsx := hX.size; replace B := B.trans (za.mono (by omega)); replace hX := hX.trans (za.mono (by omega)); try replace p3 := p3.below (za.mono zb)
    try replace p4 := p4.below (za.mono zb)
    have p4 := ht; clear ht; refine hK _ _ ⟨fun _ => ⟨_, zU hX⟩, ?_⟩; clear hK K; simp only [zn]; refine qq 5 rfl (by kernel_rfl) rfl (fun K hK => ?_); go_simp
    go_at_call 81
    refine (yP c.x0 c.y0 _ wf1.out wf2.out).mono ?_; rintro e wn ⟨rfl, za⟩; have zf := B.size; have zg := za.size; have hsx := hX.size; replace B := B.trans (za.mono B.size); replace hX := hX.trans (za.mono hX.size); try replace p3 := p3.below za
    try replace p4 := p4.below za
    refine hK _ _ ⟨fun _ => ⟨_, zU hX⟩, ?_⟩; clear hK K; simp only [zn]; refine qq 13 rfl (by kernel_rfl) rfl (fun K hK => ?_); go_simp
    go_at_call 81
    refine (yP (c.x1 - 1) (c.y1 - 1) _ wf3.out wf4.out).mono ?_; rintro e wn ⟨rfl, za⟩; have zf := B.size; have zg := za.size; have hsx := hX.size; replace B := B.trans (za.mono B.size); replace hX := hX.trans (za.mono hX.size); try replace p3 := p3.below za
    try replace p4 := p4.below za
    refine hK _ _ ⟨fun _ => ⟨_, zU hX⟩, ?_⟩; clear hK K; simp only [zn]; refine js (by kernel_rfl) (by kernel_rfl) ?_; simp only [List.drop_succ_cons, List.drop_zero]; go_wp2_with (first | (refine zq (t := 95) rfl _ _ rfl _ rfl _ rfl p3 (by kernel_rfl) rfl (by simp [Value.oneCell']) (qG B (by omega) ?_); clear p3 B; intro wn p3 ze zf zg B; (try replace p4 := p4.of_eq (ze.block _ p4.lt (by omega))); simp only [zn]) | (refine zq (t := 95) rfl _ _ rfl _ rfl _ rfl p4 (by kernel_rfl) rfl (by simp [Value.oneCell']) (qG B (by omega) ?_); clear p4 B; intro wn p4 ze zf zg B; (try replace p3 := p3.of_eq (ze.block _ p3.lt (by omega))); simp only [zn]) | fail)
    refine zN.normal ?_; go_wp2_with fail
    go_meet; exact ⟨b_p3, b_p4, rfl, rfl, B, by omega, by omega, p3, p4⟩
  ·skip
   refine zR (t := 95) _ (z7 _ _ rfl) ?_; intro b_p4 wn zb zd ht za zg; have zf := B.size; have hsx := hX.size; replace B := B.trans (za.mono (by omega)); replace hX := hX.trans (za.mono (by omega)); try replace p3 := p3.below (za.mono zb)
   try replace p4 := p4.below (za.mono zb)
   have p4 := ht; clear ht; refine hK _ _ ⟨fun _ => ⟨_, zU hX⟩, ?_⟩; clear hK K; simp only [zn]; refine xH 5 14 rfl rfl (by kernel_rfl) rfl rfl (fun K hK => ?_) (fun K hK => ?_)
   ·skip
    go_simp
    go_at_call 81
    refine (yP c.x0 c.y0 _ wf1.out wf2.out).mono ?_; rintro e wn ⟨rfl, za⟩; have zf := B.size; have zg := za.size; have hsx := hX.size; replace B := B.trans (za.mono B.size); replace hX := hX.trans (za.mono hX.size); try replace p3 := p3.below za
    try replace p4 := p4.below za
    refine hK _ _ ⟨fun _ => ⟨_, zU hX⟩, ?_⟩; clear hK K; simp only [zn]; refine xH 13 14 rfl rfl (by kernel_rfl) rfl rfl (fun K hK => ?_) (fun K hK => ?_)
    ·skip
     go_simp
     go_at_call 81
     refine (yP (c.x1 - 1) (c.y1 - 1) _ wf3.out wf4.out).mono ?_; rintro e wn ⟨rfl, za⟩; have zf := B.size; have zg := za.size; have hsx := hX.size; replace B := B.trans (za.mono B.size); replace hX := hX.trans (za.mono hX.size); try replace p3 := p3.below za
     try replace p4 := p4.below za
     refine hK _ _ ⟨fun _ => ⟨_, zU hX⟩, ?_⟩; clear hK K; simp only [zn]; refine qq 14 rfl (by kernel_rfl) rfl (fun K hK => ?_); refine zR (t := 95) _ (z7 _ _ rfl) ?_; intro b_p3 wn zb zd ht za zg; have zf := B.size; have hsx := hX.size; replace B := B.trans (za.mono (by omega)); replace hX := hX.trans (za.mono (by omega)); try replace p3 := p3.below (za.mono zb)
     try replace p4 := p4.below (za.mono zb)
     have p3 := ht; clear ht; refine hK _ _ ⟨fun _ => ⟨_, zU hX⟩, ?_⟩; clear hK K; simp only [zn]; refine js (by kernel_rfl) (by kernel_rfl) ?_; simp only [List.drop_succ_cons, List.drop_zero]; go_wp2_with (first | (refine zq (t := 95) rfl _ _ rfl _ rfl _ rfl p3 (by kernel_rfl) rfl (by simp [Value.oneCell']) (qG B (by omega) ?_); clear p3 B; intro wn p3 ze zf zg B; (try replace p4 := p4.of_eq (ze.block _ p4.lt (by omega))); simp only [zn]) | (refine zq (t := 95) rfl _ _ rfl _ rfl _ rfl p4 (by kernel_rfl) rfl (by simp [Value.oneCell']) (qG B (by omega) ?_); clear p4 B; intro wn p4 ze zf zg B; (try replace p3 := p3.of_eq (ze.block _ p3.lt (by omega))); simp only [zn]) | fail)
     refine zN.normal ?_; go_wp2_with fail
     go_meet; exact ⟨b_p3, b_p4, rfl, rfl, B, by omega, by omega, p3, p4⟩
    ·skip
     refine zR (t := 95) _ (z7 _ _ rfl) ?_; intro b_p3 wn zb zd ht za zg; have zf := B.size; have hsx := hX.size; replace B := B.trans (za.mono (by omega)); replace hX := hX.trans (za.mono (by omega)); try replace p3 := p3.below (za.mono zb)
     try replace p4 := p4.below (za.mono zb)
     have p3 := ht; clear ht; refine hK _ _ ⟨fun _ => ⟨_, zU hX⟩, ?_⟩; clear hK K; simp only [zn]; refine qq 13 rfl (by kernel_rfl) rfl (fun K hK => ?_); go_simp
     go_at_call 81
     refine (yP (c.x1 - 1) (c.y1 - 1) _ wf3.out wf4.out).mono ?_; rintro e wn ⟨rfl, za⟩; have zf := B.size; have zg := za.size; have hsx := hX.size; replace B := B.trans (za.mono B.size); replace hX := hX.trans (za.mono hX.size); try replace p3 := p3.below za
     try replace p4 := p4.below za
     refine hK _ _ ⟨fun _ => ⟨_, zU hX⟩, ?_⟩; clear hK K; simp only [zn]; refine js (by kernel_rfl) (by kernel_rfl) ?_; simp only [List.drop_succ_cons, List.drop_zero]; go_wp2_with (first | (refine zq (t := 95) rfl _ _ rfl _ rfl _ rfl p3 (by kernel_rfl) rfl (by simp [Value.oneCell']) (qG B (by omega) ?_); clear p3 B; intro wn p3 ze zf zg B; (try replace p4 := p4.of_eq (ze.block _ p4.lt (by omega))); simp only [zn]) | (refine zq (t := 95) rfl _ _ rfl _ rfl _ rfl p4 (by kernel_rfl) rfl (by simp [Value.oneCell']) (qG B (by omega) ?_); clear p4 B; intro wn p4 ze zf zg B; (try replace p3 := p3.of_eq (ze.block _ p3.lt (by omega))); simp only [zn]) | fail)
     refine zN.normal ?_; go_wp2_with fail
     go_meet; exact ⟨b_p3, b_p4, rfl, rfl, B, by omega, by omega, p3, p4⟩
   ·skip
    refine zR (t := 95) _ (z7 _ _ rfl) ?_; intro b_p3 wn zb zd ht za zg; have zf := B.size; have hsx := hX.size; replace B := B.trans (za.mono (by omega)); replace hX := hX.trans (za.mono (by omega)); try replace p3 := p3.below (za.mono zb)
    try replace p4 := p4.below (za.mono zb)
    have p3 := ht; clear ht; refine hK _ _ ⟨fun _ => ⟨_, zU hX⟩, ?_⟩; clear hK K; simp only [zn]; refine qq 5 rfl (by kernel_rfl) rfl (fun K hK => ?_); go_simp
    go_at_call 81
    refine (yP c.x0 c.y0 _ wf1.out wf2.out).mono ?_; rintro e wn ⟨rfl, za⟩; have zf := B.size; have zg := za.size; have hsx := hX.size; replace B := B.trans (za.mono B.size); replace hX := hX.trans (za.mono hX.size); try replace p3 := p3.below za
    try replace p4 := p4.below za
    refine hK _ _ ⟨fun _ => ⟨_, zU hX⟩, ?_⟩; clear hK K; simp only [zn]; refine qq 13 rfl (by kernel_rfl) rfl (fun K hK => ?_); go_simp
    go_at_call 81
    refine (yP (c.x1 - 1) (c.y1 - 1) _ wf3.out wf4.out).mono ?_; rintro e wn ⟨rfl, za⟩; have zf := B.size; have zg := za.size; have hsx := hX.size; replace B := B.trans (za.mono B.size); replace hX := hX.trans (za.mono hX.size); try replace p3 := p3.below za
    try replace p4 := p4.below za
    refine hK _ _ ⟨fun _ => ⟨_, zU hX⟩, ?_⟩; clear hK K; simp only [zn]; refine js (by kernel_rfl) (by kernel_rfl) ?_; simp only [List.drop_succ_cons, List.drop_zero]; go_wp2_with (first | (refine zq (t := 95) rfl _ _ rfl _ rfl _ rfl p3 (by kernel_rfl) rfl (by simp [Value.oneCell']) (qG B (by omega) ?_); clear p3 B; intro wn p3 ze zf zg B; (try replace p4 := p4.of_eq (ze.block _ p4.lt (by omega))); simp only [zn]) | (refine zq (t := 95) rfl _ _ rfl _ rfl _ rfl p4 (by kernel_rfl) rfl (by simp [Value.oneCell']) (qG B (by omega) ?_); clear p4 B; intro wn p4 ze zf zg B; (try replace p3 := p3.of_eq (ze.block _ p3.lt (by omega))); simp only [zn]) | fail)
    refine zN.normal ?_; go_wp2_with fail
    go_meet; exact ⟨b_p3, b_p4, rfl, rfl, B, by omega, by omega, p3, p4⟩
 case rest =>
 clear B r0 r0B
 obtain ⟨b_p3, b_p4, rfl, rfl, B, k3, k4, p3, p4⟩ := hcut
 have hJ := HJ.out _ B
 have n3 : b_p3 ≠ b8 := by omega
 have n4 : b_p4 ≠ b8 := by omega
 clear B HJ
 go_upto_region 2 with fail
 refine wp_region_lit ?_
 refine zy 7 ?_
 refine wpList_nil ?_
 go_wp2
 go_loopw [5, 6, 29] (fun _ _ iv wr => ∃ k : Nat, k ≤ H ∧ iv = .int .i64 (k : Int) ∧ J (y9 (Y4 c) (W * k)) wr ∧ zJ 95 wr b_p3 #[.int .i64 (c.x0 / 8), .int .i64 (c.y0 / 8)] ∧ zJ 95 wr b_p4 #[.int .i64 ((c.x1 - 1) / 8), .int .i64 ((c.y1 - 1) / 8)]) (fun _ _ iv _ => (H - intOf iv).toNat)
 case atStart => exact ⟨0, by omega, by simp, by rw [Nat.mul_zero, WP]; exact hJ, p3, p4⟩
 case round =>
  clear p3 p4 hJ; obtain ⟨k, hk, rfl, hJ, p3, p4⟩ := hrel; by_cases hkH : k < H
  ·have q1 : decide ((k : Int) < (c.y1 - 1) / 8 - c.y0 / 8 + 1) = true := decide_eq_true (by omega)
   have hn2 : W * k + W ≤ W * H := by
    have := Nat.mul_le_mul_left W (show k + 1 ≤ H from hkH); rw [Nat.mul_succ] at this; exact this
   go_upto_region 3 with fail
   refine wp_region_lit ?_; refine zy 1 ?_; refine wpList_nil ?_; go_upto_region 4 with fail
   refine wp_region_lit ?_; refine zy 2 ?_; refine wpList_nil ?_; go_upto_region 5 with fail
   refine wp_region_lit ?_; refine zy 7 ?_
   refine wpList_nil ?_; go_wp2; go_loopw [6, 38] (fun _ iv wr => ∃ j : Nat, j ≤ W ∧ iv = .int .i64 (j : Int) ∧ J (y9 (Y4 c) (W * k + j)) wr ∧ zJ 95 wr b_p3 #[.int .i64 (c.x0 / 8), .int .i64 (c.y0 / 8)] ∧ zJ 95 wr b_p4 #[.int .i64 ((c.x1 - 1) / 8), .int .i64 ((c.y1 - 1) / 8)]) (fun _ iv _ => (W - intOf iv).toNat)
   case atStart => exact ⟨0, by omega, by simp, hJ, p3, p4⟩
   case round =>
    clear p3 p4 hJ; obtain ⟨j, hj, rfl, hJ, p3, p4⟩ := hrel; by_cases hjW : j < W
    ·have q2 : decide ((j : Int) < (c.x1 - 1) / 8 - c.x0 / 8 + 1) = true := decide_eq_true (by omega)
     have zh : W * k + j < Y4 c := by omega
     go_upto_region 6 with fail
     refine wp_region_lit ?_; refine zy 1 ?_; refine wpList_nil ?_; go_upto_region 7 with fail
     refine wp_region_lit ?_; refine zy 2 ?_; refine wpList_nil ?_; go_upto_region 8 with fail
     obtain ⟨fn, tmps, assign, body, hy, hR⟩ := HY.out (y9 (Y4 c) (W * k + j)) ⟨W * k + j, zh⟩ _ hJ (by rw [v7 (by omega)]; exact zh)
     have ep : kT c ⟨W * k + j, zh⟩ = (c.x0 / 8 + (j : Int), c.y0 / 8 + (k : Int)) := HR.out k j hjW; rw [ep] at hy; try dsimp only at hy
     rw [← Ze zh] at hR; have c0 := p3.cellL 0 rfl; have c1 := p3.cellL 1 rfl; try dsimp only at c0 c1
     refine (wpIn_wide (n := n)).1 ?_; gi_wp2
     refine hR.mono ?_; rintro e W1 (⟨rfl, hJ1, hkp⟩ | ⟨rfl, hx1⟩)
     ·replace p3 := hkp.atB n3 p3
      replace p4 := hkp.atB n4 p4; clear c0 c1; gi_wp2
      go_wp2; go_roundw
      case rel => exact ⟨j + 1, by omega, by go_num, hJ1, p3, p4⟩
      case measure => simp [intOf]; omega
     ·gi_wp2
      go_wp2; refine bodyPost_ret (results_none rfl _ _ _) rfl ?_; exact ⟨⟨_, rfl⟩, .inr ⟨_, trivial, hx1⟩⟩
    ·obtain rfl : j = W := by omega
     have q2 : decide ((j : Int) < (c.x1 - 1) / 8 - c.x0 / 8 + 1) = false := decide_eq_false (by omega); go_upto_region 6 with fail
     refine wp_region_lit ?_; refine zy 1 ?_; refine wpList_nil ?_; go_upto_region 10 with fail
     refine wp_region_lit ?_; refine zy 2 ?_; refine wpList_nil ?_; go_wp2; go_roundw
     case rel => exact ⟨k + 1, by omega, by go_num, by rw [Nat.mul_succ]; exact hJ, p3, p4⟩
     case measure => simp [intOf]; omega
  ·obtain rfl : k = H := by omega
   have q1 : decide ((k : Int) < (c.y1 - 1) / 8 - c.y0 / 8 + 1) = false := decide_eq_false (by omega); go_upto_region 3 with fail
   refine wp_region_lit ?_; refine zy 1 ?_; refine wpList_nil ?_; go_wp2; go_end0
   have eF : y9 (Y4 c) (W * k) = List.finRange (Y4 c) := by rw [← hew]; exact Qq _
   rw [eF] at hJ; exact ⟨⟨_, rfl⟩, .inl ⟨_, rfl, hJ⟩⟩
/- Contract of Paste of package raster, where the rectangle fits. -/
attribute [local go_sem] Oper.semAt_some
set_option linter.unusedVariables false
set_option linter.unusedSimpArgs false
set_option maxRecDepth 20000
theorem Xt (w : World) (o : Oper) (ho : o.op = .alloc 62) (ev : Operand → Value) : (execOp ev o).run Tryz.prog w = .ok (.value (.pointer (some ⟨w.heap.size, 0, none⟩))) (w.alloc (.cells #[.slice none 0 0] 62)) := by
 obtain ⟨d, p, t, ps, af, gd⟩ := o
 simp only at ho
 subst ho
 kernel_rfl
/-- A slice stored into its own cell. -/
theorem xx {v : Value} {ops : Array Oper} {rest : List Oper} {o : Oper} {a : Act} {w : World} {Q : Exit → Act → World → Prop} (hg : o.guard = none) (x y : Operand) (ho : o.op = .store 62 x y) (b : Nat) (hx : a.eval x = .pointer (some ⟨b, 0, none⟩)) (a' : Option Addr) (n' c' : Nat) (hy : a.eval y = .slice a' n' c') (ht : zJ 62 w b #[v])
  (h : ∀ w', zJ 62 w' b #[.slice a' n' c'] → qV b w w' → w'.heap.size = w.heap.size → wpList Tryz.prog ops Q rest (a.put o.dst undef) w') : wpList Tryz.prog ops Q (o :: rest) a w := by
 have c0 := ht.cell 0 rfl
 have f0 := ht.frozen 0
 refine z8 hg x y ho (w.setCell ⟨b, 0, none⟩ (.slice a' n' c')) ?_ (h _ ?_ ((qV.refl b w).setCell _) (by simp only [World.size_setCell]))
 ·rw [hx, hy]
  simp [go_sem, c0, f0]
 ·exact heap_setCell_same w b 0 #[v] _ _ ht
theorem zV {ops : Array Oper} {rest : List Oper} {o : Oper} {a : Act} {w : World} {Q : Exit → Act → World → Prop} (hg : o.guard = none) (v : Value) (hrun : (execOp a.eval o).run Tryz.prog w = .ok (.value v) w)
  (h : wpList Tryz.prog ops Q rest (a.put o.dst v) w) : wpList Tryz.prog ops Q (o :: rest) a w :=
 wpList_plain hg fun K hK => by
  unfold Oper.wp; rw [hrun]; exact hK _ _ h
theorem zbG (x y : Int) : Instr.fill (fun i => #[(0, 2), (2, 256)][i]?) zTA [(0, Ps.v x y)] = some (xW ⟨x, y, zT⟩) := by
 obtain ⟨r, hs, hr, e⟩ := wF (place := fun i => #[(0, 2), (2, 256)][i]?) (cells := zTA) (i := 0) (v := Ps.v x y) (rest := []) (off := 0) (sz := 2) rfl (by rw [uD]; rfl) (by rw [jX]; omega)
 rw [e]
 show some r = _
 congr 1
 apply Array.ext_getElem?
 intro k
 rw [hr k, wQ, uD]
 by_cases h2 : k < 2
 ·rw [if_pos (by omega), if_pos h2, Nat.sub_zero]
 ·rw [if_neg (by omega), if_neg h2]
  have hz : zTA[k]? = (jd zT)[k - 2]? := by
   have e : zTA = #[.int .i64 0, .int .i64 0] ++ jd zT := by unfold zTA; kernel_rfl
   rw [e, Array.getElem?_append_right (by simp; omega)]
   rfl
  exact hz
theorem Q6 (w : World) (x y : Int) : (Instr.build 125 #[(0, Ps.v x y)]).run Tryz.prog w = .ok (.agg (xW ⟨x, y, zT⟩)) w :=
 run_build w 125 #[(0, Ps.v x y)] _ ((X5 _).trans (zbG x y))
theorem zC {o : Oper} {a : Act} {C : World → Prop} {K : Act → Prop} {p : Operand} (h : o.op = .build 125 #[(0, p)]) (x y : Int) (hp : a.eval p = .agg #[.int .i64 x, .int .i64 y]) (hk : K (a.put o.dst (.agg (xW ⟨x, y, zT⟩)))) : o.quiet Tryz.prog a C K :=
 ⟨_, fun w hw => by
  have r := Q6 w x y; simp only [Ps.v] at r; unfold Oper.quietAt execOp; simp only [h, List.map_toArray, List.map_cons, List.map_nil, hp, Sem.run_bind, r, Result.andThen_ok, Sem.run_pure]; exact ⟨rfl, rfl⟩, hk⟩
theorem Ky {b : Nat} {w w' : World} (h : qV b w w') (e : w'.heap[b]? = w.heap[b]?) : Below w.heap.size w w' :=
 ⟨h.os, h.tape, h.output, h.size, fun k hk => by
  by_cases hb : k = b
  ·subst hb; exact e
  ·exact h.block k hk hb⟩
theorem zO.ownP {g o : Nat} {ls : List Px} {A B : World} {row : Option Nat} (h : zO ku g o ls A) (hn : 0 < ls.length) (hg : A.grownBy B row) (hr : ∀ r, row = some r → ∃ o : Obj, A.heap[r]? = some o ∧ o.isCells = false) : zO ku g o ls B := by
 refine h.of_eq (hg.block g h.lt fun e => ?_)
 obtain ⟨x, hx, hc⟩ := hr g e.symm
 have h0 := h.2 0 _ (List.getElem?_eq_getElem hn) 0 (by omega)
 have hs : ∃ v, (ku.enc ls[0])[0]? = some v := ⟨_, rfl⟩
 obtain ⟨v, hv⟩ := hs
 rw [hv] at h0
 have := Qm h0 x hx
 rw [hc] at this
 cases this
/-- The pixels of one tile turned by the paste. -/
theorem XZ (c : Rc) (hf : xj c) (L : List Px) (hL : L.length = areaN c) (okL : Wv L) (e : TA) (a : Option Addr) (cp0 : Nat) (bc bm cb g o cp : Nat) (z : Nat → Px) (w : World) (rs : RS (.slice a 1 cp0) [e] w) (tk : Kg e.t) (hw : qY e.x e.y = true) (r0 : zJ 38 w bc (j4 c)) (m0 : zJ 117 w bm (xo c (.slice (some ⟨g, o, none⟩) (areaN c) cp))) (ce : zO ku g o L w) (tz : qc w cb z) (hsep : (Value.slice a 1 cp0).ownBlock ≠ some cb) :
  Calls Tryz.prog 126 #[.slice a 1 cp0, .func (.func 131) #[] #[.pointer (some ⟨bc, 0, none⟩), .pointer (some ⟨bm, 0, none⟩)]] w fun e' w' => ∃ a' cp', e' = .returned (.slice a' (jq e.x e.y (xl c L e.x e.y e.t)).length cp') ∧ RS (.slice a' (jq e.x e.y (xl c L e.x e.y e.t)).length cp') (jq e.x e.y (xl c L e.x e.y e.t)) w' ∧ Below w.heap.size w w' := by
 have eg := enters_of Tryz.func131 (by kernel_rfl) rfl
 have l1 := r0.lt
 have l2 := m0.lt
 have l3 := ce.lt
 have l4 := tz.lt
 refine (X0 (KR c L) (fun _ W => zJ 38 W bc (j4 c) ∧ zJ 117 W bm (xo c (.slice (some ⟨g, o, none⟩) (areaN c) cp)) ∧ zO ku g o L W ∧ qc W cb z) cb 131 #[.pointer (some ⟨bc, 0, none⟩), .pointer (some ⟨bm, 0, none⟩)] eg _ [e] () w rs (fun x hx => by rcases List.mem_singleton.1 hx with rfl; exact tk) (by simp) (fun x hx => by rcases List.mem_singleton.1 hx with rfl; exact hw) l4 (fun _ => hsep) ⟨r0, m0, ce, tz⟩
  (fun s W W' hI hk => ⟨hI.1.of_eq (hk _ l1), hI.2.1.of_eq (hk _ l2), hI.2.2.1.of_eq (hk _ l3), hI.2.2.2.of_eq (hk _ l4)⟩)
  (fun s W x y p _ hI h1 h2 h3 h4 hp => (za2 c hf L hL okL x y p hp bc bm g o cp W hI.1 hI.2.1 hI.2.2.1).mono fun e' W' ⟨he, hb⟩ => ⟨he, ⟨hI.1.of_eq (hb.block _ hI.1.lt), hI.2.1.of_eq (hb.block _ hI.2.1.lt), hI.2.2.1.of_eq (hb.block _ hI.2.2.1.lt), hI.2.2.2.of_eq (hb.block _ hI.2.2.2.lt)⟩, qV.of_below hb⟩)
  (fun s x y p hp => Wc okL x y p hp)).mono ?_
 rintro e' w' ⟨v', rfl, od, hI, hcc⟩
 have hm : (yV (KR c L) [e] () [e].length).2 = jq e.x e.y (xl c L e.x e.y e.t) := zb4 c L e
 rw [hm] at od
 have hb := Ky hcc (by rw [show w'.heap[cb]? = _ from hI.2.2.2, show w.heap[cb]? = _ from tz])
 obtain ⟨a', cp', rfl, _⟩ := od.len
 exact ⟨a', cp', rfl, od.rs, hb⟩
theorem Vo (v : Value) (ls : List TA) (x y : Int) (k : Nat) (b : Bool) (w : World) (h : RS v ls w) (hs : Qf ls) (hn : ls.length ≤ 1000000) (hk : cutL ls x y = k) (hb : yO ls x y = b) : Calls Tryz.prog 130 #[v, .agg #[.int .i64 x, .int .i64 y]] w fun e w' => e = .returned (.tuple #[.int .i64 (k : Int), .bool b]) ∧ Below w.heap.size w w' := by
 subst hk hb
 exact uh v ls x y w h hs hn
theorem XK {F : Fence} {n : Nat} {P : Program} {c : Code} {Q : Exit → Act → World → Prop} {W : World} {t : Array Value} {p : Tmp} {v : Value} (h : c.wpIn F n P Q { tmps := t.setIfInBounds p v, defers := [] } W) :
  c.wpIn F n P Q { tmps := (#[p].zip #[v]).foldl (fun t (p, v) => t.setIfInBounds p v) t, defers := [] } W := by
 have e : (#[p].zip #[v]).foldl (fun t (p, v) => t.setIfInBounds p v) t = t.setIfInBounds p v := by
  show Array.foldl _ t (Array.zip (List.toArray [p]) (List.toArray [v])) = _
  rw [List.zip_toArray]; simp
 rw [e]
 exact h
theorem Kv (t : Array Value) (n : Nat) (h : t.size = n) : ∃ U : Nat → Value, t = ((List.range n).map U).toArray ∧ ∀ i, U i = t.getD i undef := by
 refine ⟨fun i => t.getD i undef, ?_, fun _ => rfl⟩
 apply Array.ext_getElem?
 intro k
 by_cases hk : k < n
 ·simp [hk, h]
 ·simp [hk, h]
/-- A block of deferred calls, empty. -/
def yE (w : World) (D : Nat) : Prop := w.heap[D]? = some (.deferred (some []))
theorem yE.of_eq {w w' : World} {D : Nat} (h : yE w D) (e : w'.heap[D]? = w.heap[D]?) : yE w' D := e.trans h
theorem yE.lt {w : World} {D : Nat} (h : yE w D) : D < w.heap.size := (Array.getElem?_eq_some_iff.1 h).1
theorem yE.below {w w' : World} {D : Nat} (h : yE w D) (e : Below w.heap.size w w') : yE w' D := h.of_eq (e.block _ h.lt)
theorem yE.cg {w w' : World} {D : Nat} (h : yE w D) {zc : Nat} (e : qV zc w w') (hn : D ≠ zc := by omega) : yE w' D := h.of_eq (e.block _ h.lt hn)
theorem yE.ne {w : World} {D b : Nat} {t : TypeId} {cs : Array Value} (h : yE w D) (k : zJ t w b cs) : b ≠ D := fun e => by
 subst e
 have k' : w.heap[b]? = _ := k
 rw [show w.heap[b]? = _ from h] at k'
 cases k'
theorem zfp {g o : Nat} {ls : List TA} {w : World} (sc : qv g o ls w) {k : Nat} (hk : k < ls.length) : RS (.slice (some ⟨g, o + k * 258, none⟩) 1 1) [aT ls k] w := by
 refine .inr ⟨g, o + k * 258, 1, rfl, Nat.le_refl _, fun _ => ⟨sc.1, fun i hi j hj => ?_⟩⟩
 obtain rfl : i = 0 := by simpa using hi
 have := sc.2 k hk j hj
 rw [show o + k * 258 + (0 * 258 + j) = o + (k * 258 + j) by omega, this]
 rfl
set_option maxHeartbeats 8000000 in
theorem Kn (v : Value) (ls : List TA) (c : Rc) (u : Value) (L : List Px) (w : World) (h : RS v ls w) (tk : jo ls) (hn : ls.length ≤ maxLen) (hE : jG c = 0) (hu : j9 ku u L w) (hL : L.length = areaN c) (okL : Wv L) : Calls Tryz.prog 77 #[.agg #[v], .agg (xo c u)] w fun e w' => ∃ a cp, e = .returned (.tuple #[.agg #[.slice a (yI (xA c L (ji ls) (yJ c))).length cp], .int .i64 (kS (xA c L (ji ls) (yJ c)))]) ∧ RS (.slice a (yI (xA c L (ji ls) (yJ c))).length cp) (yI (xA c L (ji ls) (yJ c))) w' ∧ Below w.heap.size w w' := by
 have B := Below.refl w.heap.size w
 obtain ⟨a', c', hT⟩ := Vt v ls w h tk hn
 have HT := Lib.hid hT
 clear hT
 obtain ⟨a, cpv, rfl, hc⟩ := h.len
 have HF := yt hE
 have FT := Lib.hid HF
 obtain ⟨an1, an2⟩ := ZX HF
 have hAN := Lib.hid (Qj HF)
 have HV := Lib.hid HF.valid
 obtain ⟨ad, cu, rfl, hcu⟩ := hu.len
 obtain ⟨g, o, rfl, ce⟩ := hu.at (by have := Qj HF; omega)
 have SR := Lib.hid (yy (xm ls))
 have TK := Lib.hid (kP tk)
 have hfl := uH ls
 have hNle := zcS HF
 have OK := Lib.hid okL
 have HL := Lib.hid hL
 have HEE := Lib.hid hE
 have d1 : ((areaN c : Int) != (areaN c : Int)) = false := by simp
 rw [hL]
 rw [hL] at hcu
 clear h tk hu okL hL hE HF
 generalize hks : ji ls = KS at *
 refine (callsIn_wide (n := 3)).1 ?_
 refine callsIn_of_wp_marks Tryz.func77 rfl trivial ?_ rfl
 simp only [Tryz.ntmps77, List.size_toArray, List.length_cons, List.length_nil, Nat.reduceAdd, Nat.reduceSub, Array.replicate_succ, Array.replicate_zero, List.push_toArray, List.append_toArray, List.nil_append, List.cons_append]
 refine wpIn_wide.2 ?_
 go_upto_region 0 with fail
 refine wp_region_lit ?_
 try simp only [zP]
 (refine zt (t := 64) rfl _ rfl _ rfl ?_; intro b_r2 wn zb zd ht za zg; have zf := B.size; replace B := B.trans (za.mono (by omega)); have zk := Nat.lt_of_lt_of_eq (Nat.lt_succ_self _) zg.symm; clear zg; (try have zh := ce.lt); (try replace ce := ce.below (za.mono zb)); have r2 := ht; clear ht; simp only [zn])
 (refine zt (t := 117) rfl _ rfl _ rfl ?_; intro b_m3 wn zb zd ht za zg; have zf := B.size; replace B := B.trans (za.mono (by omega)); have zk := Nat.lt_of_lt_of_eq (Nat.lt_succ_self _) zg.symm; clear zg; (try have zh := r2.lt); (try replace r2 := r2.below (za.mono zb)); (try have zh := ce.lt); (try replace ce := ce.below (za.mono zb)); have m3 := ht; clear ht; simp only [zn])
 (refine zu (t := 64) rfl _ (jD _ _ rfl) ?_; intro b_r4 wn zb zd ht za zg; have zf := B.size; replace B := B.trans (za.mono (by omega)); have zk := Nat.lt_of_lt_of_eq (Nat.lt_succ_self _) zg.symm; clear zg; (try have zh := r2.lt); (try replace r2 := r2.below (za.mono zb)); (try have zh := m3.lt); (try replace m3 := m3.below (za.mono zb)); (try have zh := ce.lt); (try replace ce := ce.below (za.mono zb)); have r4 := ht; clear ht; simp only [zn])
 refine zy 1 ?_
 refine wpList_nil ?_
 go_upto_region 1 with fail
 refine wp_region_lit ?_
 try simp only [zP]
 refine jp 2 ?_
 repeat (first | go_big_quiet_skip | (go_big_quiet_want; first | ((first | refine zo (t := 38) rfl _ _ _ rfl (fun w hw => qH (zD m3 w hw)) (by first | rfl | omega) ?_ | refine qB ?_ | refine qC ?_); simp only [zn]; go_big_quiet_on) | (go_big_quiet_op; go_big_quiet_on)))
 refine wpQuiet_nil ?_
 (refine zu (t := 38) rfl _ (zZ _ _ rfl) ?_; intro b_c6 wn zb zd ht za zg; have zf := B.size; replace B := B.trans (za.mono (by omega)); have zk := Nat.lt_of_lt_of_eq (Nat.lt_succ_self _) zg.symm; clear zg; (try have zh := r2.lt); (try replace r2 := r2.below (za.mono zb)); (try have zh := m3.lt); (try replace m3 := m3.below (za.mono zb)); (try have zh := r4.lt); (try replace r4 := r4.below (za.mono zb)); (try have zh := c6.lt); (try replace c6 := c6.below (za.mono zb)); (try have zh := ce.lt); (try replace ce := ce.below (za.mono zb)); have c6 := ht; clear ht; simp only [zn])
 (refine zq (t := 38) rfl _ _ rfl _ rfl _ rfl c6 (by kernel_rfl) rfl (by simp [j4, xo, Value.oneCell']) (qG B (by omega) ?_); clear c6 B; intro wn c6 ze zf zg B; (try replace r2 := r2.of_eq (ze.block _ r2.lt (by omega))); (try replace m3 := m3.of_eq (ze.block _ m3.lt (by omega))); (try replace r4 := r4.of_eq (ze.block _ r4.lt (by omega))); (try replace ce := ce.of_eq (ze.block _ ce.lt (by omega))); simp only [zn])
 refine wpList_nil ?_
 replace c6 : zJ 38 _ b_c6 (j4 c) := c6
 go_upto_region 2 with fail
 try simp only [zP]
 try have lx_r2 := r2.lt
 try have lx_m3 := m3.lt
 try have lx_r4 := r4.lt
 try have lx_c6 := c6.lt
 try have lx_ce := ce.lt
 refine zF 11 [(1, zE ?v1_1), (6, zE ?v1_6), (8, zE ?v1_8)] (by kernel_rfl) (by kernel_rfl) (by kernel_rfl) ?_
 rotate_left 3
 simp only [jK, Nat.reduceAdd]
 refine xM 1 ?_
 repeat (first | go_big_quiet_skip | (go_big_quiet_want; first | ((first | refine zo (t := 38) rfl _ _ _ rfl (fun w hw => qH (zD m3 w hw)) (by first | rfl | omega) ?_ | refine qB ?_ | refine qC ?_); simp only [zn]; go_big_quiet_on) | (go_big_quiet_op; go_big_quiet_on)))
 refine wpQuiet_nil ?_
 refine zz (by rfl) (by first | rfl | simp [Region.wanted, yielded]) ?_ ?_
 ·intro wn za hE Kx hKx
  have zf := B.size; have zg := za.size; replace B := B.trans (za.mono B.size)
  (try replace r2 := r2.below za)
  (try replace m3 := m3.below za)
  (try replace r4 := r4.below za)
  (try replace c6 := c6.below za)
  (try replace ce := ce.below za)
  refine zG rfl (enters_of Tryz.func128 (by kernel_rfl) rfl) (by simp only [Act.eval, qo]; rfl) ?_
  refine (wB c true _ HV.out).mono ?_; rintro e wm ⟨rfl, zl⟩; refine ⟨_, rfl, ?_⟩; have hz := hKx () wm trivial zl
  dsimp only [zE] at hz
  exact hz
 rintro ⟨⟩
 dsimp only [zE]
 simp only [zn]
 refine xM 4 ?_
 repeat (first | go_big_quiet_skip | (go_big_quiet_want; first | ((first | refine zo (t := 115) rfl _ _ _ rfl (fun w hw => j1 (um (zD m3 w hw))) (by first | rfl | omega) ?_ | refine qB ?_ | refine qC ?_); simp only [zn]; go_big_quiet_on) | (go_big_quiet_op; go_big_quiet_on)))
 refine wpQuiet_nil ?_
 refine zz (by rfl) ?hw1_6 ?_ ?_
 case hw1_6 => kernel_rfl
 ·intro wn za hE Kx hKx
  have zf := B.size; have zg := za.size; replace B := B.trans (za.mono B.size)
  (try replace r2 := r2.below za)
  (try replace m3 := m3.below za)
  (try replace r4 := r4.below za)
  (try replace c6 := c6.below za)
  (try replace ce := ce.below za)
  refine y4 rfl Tryz.underlying115 rfl ?_; exact hKx () _ trivial (Below.refl _ _)
 rintro ⟨⟩
 dsimp only [zE]
 simp only [zn]
 refine xM 1 ?_
 repeat (first | go_big_quiet_skip | (go_big_quiet_want; first | ((first | refine zo (t := 38) rfl _ _ _ rfl (fun w hw => qH (zD m3 w hw)) (by first | rfl | omega) ?_ | refine qB ?_ | refine qC ?_); simp only [zn]; go_big_quiet_on) | (go_big_quiet_op; go_big_quiet_on)))
 refine wpQuiet_nil ?_
 refine zz (by rfl) ?hw1_8 ?_ ?_
 case hw1_8 => kernel_rfl
 ·intro wn za hE Kx hKx
  have zf := B.size; have zg := za.size; replace B := B.trans (za.mono B.size)
  (try replace r2 := r2.below za)
  (try replace m3 := m3.below za)
  (try replace r4 := r4.below za)
  (try replace c6 := c6.below za)
  (try replace ce := ce.below za)
  refine zG rfl (enters_of Tryz.func125 (by kernel_rfl) rfl) (by simp only [Act.eval, qo]; rfl) ?_
  refine (JK c (areaN c : Int) _ HV.out hAN.out).mono ?_; rintro e wm ⟨rfl, zl⟩; refine ⟨_, rfl, ?_⟩; have hz := hKx () wm trivial zl
  dsimp only [zE] at hz
  exact hz
 rintro ⟨⟩
 dsimp only [zE]
 simp only [zn]
 refine vT 2 ?_
 refine zY ?_
 intro wn za hE
 have zf := B.size
 have zg := za.size
 replace B := B.trans (za.mono B.size)
 (try replace r2 := r2.below za)
 (try replace m3 := m3.below za)
 (try replace r4 := r4.below za)
 (try replace c6 := c6.below za)
 (try replace ce := ce.below za)
 clear hE
 try simp only [List.drop_succ_cons, List.drop_zero]
 refine zN.normal ?_
 go_upto_region 4 with fail
 refine wp_region_lit ?_
 try simp only [zP]
 refine jp 1 ?_
 repeat (first | go_big_quiet_skip | (go_big_quiet_want; first | ((first | refine zo (t := 38) rfl _ _ _ rfl (fun w hw => qH (zD m3 w hw)) (by first | rfl | omega) ?_ | refine qB ?_ | refine qC ?_); simp only [zn]; go_big_quiet_on) | (go_big_quiet_op; go_big_quiet_on)))
 refine wpQuiet_nil ?_
 refine qT (enters_of Tryz.func124 (by kernel_rfl) rfl) (c := Vp c 0 _ HEE.out) (h := ?_)
 rintro e wn ⟨rfl, za⟩
 have zf := B.size
 have zg := za.size
 replace B := B.trans (za.mono B.size)
 (try replace r2 := r2.below za)
 (try replace m3 := m3.below za)
 (try replace r4 := r4.below za)
 (try replace c6 := c6.below za)
 (try replace ce := ce.below za)
 refine ⟨_, rfl, ?_⟩
 simp only [zn]
 refine zy 1 ?_
 refine wpList_nil ?_
 go_upto_region 5 with fail
 refine wp_region_lit ?_
 try simp only [zP]
 refine zy 2 ?_
 refine wpList_nil ?_
 go_upto_region 7 with fail
 have rs1 := (HT.out _ B).2
 refine wp_region_lit ?_
 try simp only [zP]
 refine zy 1 ?_
 refine qT (enters_of Tryz.func104 (by kernel_rfl) rfl) (c := (HT.out _ B).1) (h := ?_)
 rintro e wn ⟨rfl, za⟩
 have zf := B.size
 have zg := za.size
 replace B := B.trans (za.mono B.size)
 (try replace r2 := r2.below za)
 (try replace m3 := m3.below za)
 (try replace r4 := r4.below za)
 (try replace c6 := c6.below za)
 (try replace ce := ce.below za)
 replace rs1 := rs1.below za
 refine ⟨_, rfl, ?_⟩
 simp only [zn]
 (refine zu (t := 62) rfl _ (Xt _ _ rfl) ?_; intro b_l8 wn zb zd ht za zg; have zf := B.size; replace B := B.trans (za.mono (by omega)); have zk := Nat.lt_of_lt_of_eq (Nat.lt_succ_self _) zg.symm; clear zg; (try have zh := r2.lt); (try replace r2 := r2.below (za.mono zb)); (try have zh := m3.lt); (try replace m3 := m3.below (za.mono zb)); (try have zh := r4.lt); (try replace r4 := r4.below (za.mono zb)); (try have zh := c6.lt); (try replace c6 := c6.below (za.mono zb)); (try have zh := ce.lt); (try replace ce := ce.below (za.mono zb)); (try have zh := rs1.lt); (try replace rs1 := rs1.below (za.mono zb)); have l8 := ht; clear ht; simp only [zn])
 (refine xx rfl _ _ rfl _ rfl _ _ _ rfl l8 (qG B (by omega) ?_); have l8o := l8; clear l8 B; intro wn l8 ze zf zg B; (try replace rs1 := rs1.chg l8o (by simp) ze); (try replace r2 := r2.of_eq (ze.block _ r2.lt (by omega))); (try replace m3 := m3.of_eq (ze.block _ m3.lt (by omega))); (try replace r4 := r4.of_eq (ze.block _ r4.lt (by omega))); (try replace c6 := c6.of_eq (ze.block _ c6.lt (by omega))); (try replace ce := ce.of_eq (ze.block _ ce.lt (by omega))); simp only [zn])
 refine wpList_nil ?_
 have k2 : w.heap.size ≤ b_r2 := by omega
 have k3 : b_r2 < b_m3 := by have := r2.lt; omega
 have k4 : b_m3 < b_r4 := by have := m3.lt; omega
 have k6 : b_r4 < b_c6 := by have := r4.lt; omega
 have k8 : b_c6 < b_l8 := by have := c6.lt; omega
 have k9 := l8.lt
 have kg := ce.lt
 go_upto_region 8 with fail
 refine wp_region_lit ?_
 try simp only [zP]
 refine jp 1 ?_
 repeat (first | go_big_quiet_skip | (go_big_quiet_want; first | ((first | refine zo (t := 38) rfl _ _ _ rfl (fun w hw => qH (zD m3 w hw)) (by first | rfl | omega) ?_ | refine qB ?_ | refine qC ?_); simp only [zn]; go_big_quiet_on) | (go_big_quiet_op; go_big_quiet_on)))
 refine wpQuiet_nil ?_
 refine qT (enters_of Tryz.func129 (by kernel_rfl) rfl) (c := zc8 c _) (h := ?_)
 rintro e wn ⟨b_t, rfl, hbt, rt, za⟩
 have zf := B.size
 have zg := za.size
 replace B := B.trans (za.mono B.size)
 (try replace m3 := m3.below za)
 (try replace r4 := r4.below za)
 (try replace c6 := c6.below za)
 (try replace ce := ce.below za)
 (try replace l8 := l8.below za)
 (try replace rs1 := rs1.below za)
 refine ⟨_, rfl, ?_⟩
 simp only [zn]
 refine wpList_nil ?_
 go_wp2
 refine (wpIn_wide (n := 3)).1 ?_
 refine QG (F := Fence.wide) rfl (by omega) (gf := 163) (lb := #[.pointer (some ⟨b_t, 0, none⟩)]) rfl trivial (enters_of Tryz.func163 (by kernel_rfl) rfl) (Y3 c FT.out b_t b_l8 _ (by omega) _ rt l8.lt) (fun h k => Q2.trans h k) (fun W l o o' _ hl ho _ => Q2.putObj b_l8 o' hl ho) (fun A B h => Q2.below h) (Below.refl _ _) (fun _ => rfl)
  (fun pre W => ∃ (a : Option Addr) (cp : Nat), zJ 62 W b_l8 #[.slice a (xA c L KS (pre.map (kT c))).length cp] ∧ RS (.slice a (xA c L KS (pre.map (kT c))).length cp) (xA c L KS (pre.map (kT c))) W ∧ zJ 117 W b_m3 (xo c (.slice (some ⟨g, o, none⟩) (areaN c) cu)) ∧ zJ 38 W b_c6 (j4 c) ∧ zJ 64 W b_r4 #[.slice none 0 0] ∧ zO ku g o L W ∧ Below w.heap.size w W)
  (fun pre W W' row hI hg hr => ?own)
  ⟨a', c', l8, rs1, m3, c6, r4, ce, B⟩
  (fun x a' W => ∃ b9 : Nat, a'.defers = [] ∧ a'.tmps.size = 78 ∧ a'.tmps.getD 3 undef = .pointer (some ⟨b_m3, 0, none⟩) ∧ a'.tmps.getD 6 undef = .pointer (some ⟨b_c6, 0, none⟩) ∧ a'.tmps.getD 8 undef = .pointer (some ⟨b_l8, 0, none⟩) ∧ a'.tmps.getD 9 undef = .pointer (some ⟨b9, 0, none⟩) ∧ zJ 95 W b9 #[.int .i64 (kT c x).1, .int .i64 (kT c x).2] ∧ b_l8 < b9)
  (fun x a' W W' row hA hg hr => ?own2) ?assign ?body ?done
 case own =>
  obtain ⟨a, cp, h1, h2, h3, h4, h5, h6, h7⟩ := hI; have hr' : ∀ r, row = some r → ∃ o : Obj, W.heap[r]? = some o ∧ o.isCells = false := fun r e => (hr r e).2
  have hsz1 := B.size; exact ⟨a, cp, h1.own hg hr', h2.own hg hr', h3.own hg hr', h4.own hg hr', h5.own hg hr', h6.ownP (by rw [HL.out]; omega) hg hr', kN h7 h7.size hg (fun r e => Nat.le_trans hsz1 (hr r e).1)⟩
 case own2 =>
  obtain ⟨b9, e1, e2, e3, e4, e5, e6, h1, h2⟩ := hA; exact ⟨b9, e1, e2, e3, e4, e5, e6, h1.own hg (fun r e => (hr r e).2), h2⟩
 case assign =>
  intro l pre x W K ⟨_, _, hl8, _⟩ hK; have B := Below.refl W.heap.size W; have hl := hl8.lt; obtain ⟨⟨X, Y⟩, hxy⟩ : ∃ p, kT c x = p := ⟨_, rfl⟩; rw [hxy] at hK
  dsimp only at hK
  rw [hxy]
  dsimp only
  refine XK ?_; simp only [List.setIfInBounds_toArray, List.set_cons_succ, List.set_cons_zero]; refine zB (by kernel_rfl) ?_; try simp only [zP]
  (refine zu (t := 95) rfl _ (z7 _ _ rfl) ?_; intro b_p9 wn zb zd ht za zg; have zf := B.size; replace B := B.trans (za.mono (by omega)); have zk := Nat.lt_of_lt_of_eq (Nat.lt_succ_self _) zg.symm; clear zg; have p9 := ht; clear ht; simp only [zn])
  (refine zq (t := 95) rfl _ _ rfl _ rfl _ rfl p9 (by kernel_rfl) rfl (by simp [Value.oneCell']) (qG B (by omega) ?_); clear p9 B; intro wn p9 ze zf zg B; simp only [zn])
  refine wpList_nil ?_; refine qt.at ?_; refine hK _ _ B ⟨_, rfl, rfl, rfl, rfl, rfl, rfl, p9, by omega⟩
 case body =>
  rintro l pre x W ⟨tm, df⟩ ⟨a, cp, l8, rs1, m3, c6, r4, ce, BW⟩ ⟨b9, e1, e2, e3, e4, e5, e6, p9, k10⟩ hpre; obtain ⟨U, hU, hUi⟩ := Kv tm 78 e2; rw [← hUi] at e3 e4 e5 e6; have eL : ((List.range 78).map U).toArray = #[U 0, U 1, U 2, U 3, U 4, U 5, U 6, U 7, U 8, U 9, U 10, U 11, U 12, U 13, U 14, U 15, U 16, U 17, U 18, U 19, U 20, U 21, U 22, U 23, U 24, U 25, U 26, U 27, U 28, U 29, U 30, U 31, U 32, U 33, U 34, U 35, U 36, U 37, U 38, U 39, U 40, U 41, U 42, U 43, U 44, U 45, U 46, U 47, U 48, U 49, U 50, U 51, U 52, U 53, U 54, U 55, U 56, U 57, U 58, U 59, U 60, U 61, U 62, U 63, U 64, U 65, U 66, U 67, U 68, U 69, U 70, U 71, U 72, U 73, U 74, U 75, U 76, U 77] := rfl; rw [eL] at hU; rw [e3, e4, e5, e6] at hU; subst hU; have e1 : df = [] := e1; subst e1; clear e2 e3 e4 e5 e6 hUi eL; obtain ⟨⟨X, Y⟩, hxy⟩ : ∃ p, kT c x = p := ⟨_, rfl⟩; have hwi := Wa FT.out x.isLt; rw [show Zj c x.val = (X, Y) from hxy] at hwi
  have HWI := Lib.hid hwi; rw [hxy] at p9
  dsimp only at p9
  have hMn := YD c L (pre.map (kT c)) KS; rw [List.length_map] at hMn; have SM0 := QB c L (pre.map (kT c)) KS SR.out; have TM0 := YF OK.out (pre.map (kT c)) KS TK.out (c := c); have HNEW0 : xA c L KS ((pre ++ [x]).map (kT c)) = yW (xA c L KS (pre.map (kT c))) X Y (xl c L X Y (qf (xA c L KS (pre.map (kT c))) X Y)) := by
   rw [List.map_append, show [x].map (kT c) = [(X, Y)] from by rw [← hxy]; rfl, zah]
   rfl
  generalize xA c L KS (pre.map (kT c)) = M at *
  have SM := Lib.hid SM0; have TM := Lib.hid TM0; have HNEW := Lib.hid HNEW0; have L8 := Lib.hid l8; have HTK := Lib.hid (kY TM0 X Y); have HTT := Lib.hid (YG OK.out X Y (kY TM0 X Y) (c := c)); have hM3 : M.length ≤ 3000 := by omega
  have hws := BW.size; have l8lt := l8.lt; have m3lt := m3.lt; have c6lt := c6.lt; have r4lt := r4.lt; have p9lt := p9.lt; have hpl := Zx M X Y (xl c L X Y (qf M X Y)); obtain ⟨_, _, e1, hcp⟩ := rs1.len; simp only [Value.slice.injEq] at e1; obtain ⟨rfl, _, rfl⟩ := e1; have RS1W := Lib.hid rs1; have B := kn.refl b_l8 W; clear SM0 TM0 HNEW0 hMn hwi hxy; cases hh : yO M X Y with
  | true =>
   have HH := Lib.hid hh; obtain ⟨hc1, hc2⟩ := ze7 SM.out hh; obtain ⟨k, hk⟩ : ∃ k, cutL M X Y = k := ⟨_, rfl⟩; rw [hk] at hc1 hc2; have HK := Lib.hid hk; obtain ⟨gg, oo, rfl, rc⟩ := rs1.at (by omega); have HC2 := Lib.hid hc2; clear hh hk hc2; gi_upto_region 10 with fail
   refine zB (by kernel_rfl) ?_; try simp only [zP]
   refine jp 2 ?_
   repeat (first | go_big_quiet_skip | (go_big_quiet_want; first | ((first | refine zC rfl X Y rfl ?_ | refine qB ?_ | refine qC ?_); simp only [zn]; go_big_quiet_on) | (go_big_quiet_op; go_big_quiet_on)))
   refine wpQuiet_nil ?_; refine qT (enters_of Tryz.func130 (by kernel_rfl) rfl) (c := Vo _ M X Y k true _ rs1 SM.out (by omega) HK.out HH.out) (h := ?_); rintro e wn ⟨rfl, za⟩; have zf := B.size; have zg := za.size; replace B := B.trans (za.mono B.size)
   (try replace l8 := l8.below za)
   (try replace m3 := m3.below za)
   (try replace c6 := c6.below za)
   (try replace r4 := r4.below za)
   (try replace ce := ce.below za)
   (try replace p9 := p9.below za)
   (try replace rs1 := rs1.below za)
   refine ⟨_, rfl, ?_⟩; simp only [zn]; refine jp 5 ?_; repeat (first | go_big_quiet_skip | (go_big_quiet_want; first | ((first | refine zC rfl X Y rfl ?_ | refine qB ?_ | refine qC ?_); simp only [zn]; go_big_quiet_on) | (go_big_quiet_op; go_big_quiet_on)))
   refine wpQuiet_nil ?_; refine wpList_nil ?_; refine qt.at ?_; try dsimp only
   gi_upto_region 11 with fail
   refine zB (by kernel_rfl) ?_; try simp only [zP]
   refine jp 2 ?_
   repeat (first | go_big_quiet_skip | (go_big_quiet_want; first | ((first | refine zC rfl X Y rfl ?_ | refine qB ?_ | refine qC ?_); simp only [zn]; go_big_quiet_on) | (go_big_quiet_op; go_big_quiet_on)))
   refine wpQuiet_nil ?_
   (refine xS rfl _ rfl ⟨X, Y, zT⟩ (by rfl) ?_; intro b_s1 wn zb zd ht za zg; have zf := B.size; replace B := B.trans (za.mono (by omega)); have zk := Nat.lt_of_lt_of_eq (Nat.lt_succ_self _) zg.symm; clear zg; (try have zh := l8.lt); (try replace l8 := l8.below (za.mono zb)); (try have zh := m3.lt); (try replace m3 := m3.below (za.mono zb)); (try have zh := c6.lt); (try replace c6 := c6.below (za.mono zb)); (try have zh := r4.lt); (try replace r4 := r4.below (za.mono zb)); (try have zh := ce.lt); (try replace ce := ce.below (za.mono zb)); (try have zh := p9.lt); (try replace p9 := p9.below (za.mono zb)); (try have zh := rs1.lt); (try replace rs1 := rs1.below (za.mono zb)); have s1 := ht; clear ht; simp only [zn])
   refine jp 1 ?_; repeat (first | go_big_quiet_skip | (go_big_quiet_want; first | ((first | refine zC rfl X Y rfl ?_ | refine qB ?_ | refine qC ?_); simp only [zn]; go_big_quiet_on) | (go_big_quiet_op; go_big_quiet_on)))
   refine wpQuiet_nil ?_; refine wpList_nil ?_; refine qt.at ?_; try dsimp only
   gi_upto_region 12 with fail
   refine zB (by kernel_rfl) ?_; try simp only [zP]
   refine jp 1 ?_; repeat (first | go_big_quiet_skip | (go_big_quiet_want; first | ((first | refine zC rfl X Y rfl ?_ | refine qB ?_ | refine qC ?_); simp only [zn]; go_big_quiet_on) | (go_big_quiet_op; go_big_quiet_on)))
   refine wpQuiet_nil ?_; refine wpList_nil ?_; refine qt.at ?_; try dsimp only
   gi_upto_region 13 with fail
   refine zB (by kernel_rfl) ?_; try simp only [zP]
   refine jp 8 ?_
   repeat (first | go_big_quiet_skip | (go_big_quiet_want; first | ((first | refine zC rfl X Y rfl ?_ | refine qB ?_ | refine qC ?_); simp only [zn]; go_big_quiet_on) | (go_big_quiet_op; go_big_quiet_on)))
   refine wpQuiet_nil ?_; refine wpList_nil ?_; refine qt.at ?_; try dsimp only
   obtain ⟨g2, o2, e2, rc'⟩ := rs1.at (by omega); obtain ⟨rfl, rfl⟩ : gg = g2 ∧ oo = o2 := by simpa using e2
   have rsm := zfp rc' hc1; rw [HC2.out] at rsm; have rsm0 := rsm; gi_upto_region 14 with fail
   refine zB (by kernel_rfl) ?_; try simp only [zP]
   (refine yo rfl rfl ?_; intro b_t13 wn zb zd ht za zg; have zf := B.size; replace B := B.trans (za.mono (by omega)); have zk := Nat.lt_of_lt_of_eq (Nat.lt_succ_self _) zg.symm; clear zg; (try have zh := l8.lt); (try replace l8 := l8.below (za.mono zb)); (try have zh := m3.lt); (try replace m3 := m3.below (za.mono zb)); (try have zh := c6.lt); (try replace c6 := c6.below (za.mono zb)); (try have zh := r4.lt); (try replace r4 := r4.below (za.mono zb)); (try have zh := ce.lt); (try replace ce := ce.below (za.mono zb)); (try have zh := p9.lt); (try replace p9 := p9.below (za.mono zb)); (try have zh := rs1.lt); (try replace rs1 := rs1.below (za.mono zb)); (try have zh := rsm.lt); (try replace rsm := rsm.below (za.mono zb)); have t13 := ht; clear ht; simp only [zn])
   refine wpList_nil ?_; refine qt.at ?_; try dsimp only
   have HSEP := Lib.hid (KZ rsm0 zb (by simp)); clear rsm0; gi_upto_region 15 with fail
   refine zB (by kernel_rfl) ?_; try simp only [zP]
   refine jp 1 ?_; repeat (first | go_big_quiet_skip | (go_big_quiet_want; first | ((first | refine zC rfl X Y rfl ?_ | refine qB ?_ | refine qC ?_); simp only [zn]; go_big_quiet_on) | (go_big_quiet_op; go_big_quiet_on)))
   refine wpQuiet_nil ?_
   (refine zV rfl (.func (.func 131) #[] #[.pointer (some ⟨b_c6, 0, none⟩), .pointer (some ⟨b_m3, 0, none⟩)]) (by first | rfl | simp [go_sem, Act.eval]) ?_; simp only [zn])
   refine qT (enters_of Tryz.func126 (by kernel_rfl) rfl) (c := XZ c FT.out L HL.out OK.out ⟨X, Y, qf M X Y⟩ _ _ b_c6 b_m3 b_t13 g o cu _ _ rsm HTK.out HWI.out c6 m3 ce t13 HSEP.out) (h := ?_); rintro e wn ⟨a5, cp5, rfl, rs5, za⟩; have zf := B.size; have zg := za.size; replace B := B.trans (za.mono B.size)
   (try replace l8 := l8.below za)
   (try replace m3 := m3.below za)
   (try replace c6 := c6.below za)
   (try replace r4 := r4.below za)
   (try replace ce := ce.below za)
   (try replace p9 := p9.below za)
   (try replace t13 := t13.below za)
   (try replace rs1 := rs1.below za)
   (try replace rsm := rsm.below za)
   refine ⟨_, rfl, ?_⟩; simp only [zn]; refine zw (by first | rfl | simp [Region.wanted, yielded]) rfl Tryz.underlying62 rfl ?_; simp only [zn]; refine jp 1 ?_; repeat (first | go_big_quiet_skip | (go_big_quiet_want; first | ((first | refine zC rfl X Y rfl ?_ | refine qB ?_ | refine qC ?_); simp only [zn]; go_big_quiet_on) | (go_big_quiet_op; go_big_quiet_on)))
   refine wpQuiet_nil ?_; refine wpList_nil ?_; refine qt.at ?_; try dsimp only
   clear rsm HSEP; cases hz : jT (xl c L X Y (qf M X Y)) with
   | true =>
    have HN : jq X Y (xl c L X Y (qf M X Y)) = [] := by unfold jq; rw [hz]; rfl
    rw [HN] at rs5; simp only [HN, List.length_nil]; clear rs5 HN; have HZ := Lib.hid hz; clear hz; gi_wp2
    refine wpIn_loop_rounds 2 ?_; rw [roundsIn_succ]; gi_upto_region 16 with fail
    refine zB (by kernel_rfl) ?_; try simp only [zP]
    refine jp 1 ?_; repeat (first | go_big_quiet_skip | (go_big_quiet_want; first | ((first | refine zC rfl X Y rfl ?_ | refine qB ?_ | refine qC ?_); simp only [zn]; go_big_quiet_on) | (go_big_quiet_op; go_big_quiet_on)))
    refine wpQuiet_nil ?_; refine wpList_nil ?_; refine qt.at ?_; try dsimp only
    clear rs1; have rs1 := RS1W.out.chg L8.out (by simp) B.toChg; gi_upto_region 20 with fail
    refine zB (by kernel_rfl) ?_; try simp only [zP]
    refine jp 3 ?_
    repeat (first | go_big_quiet_skip | (go_big_quiet_want; first | ((first | refine zC rfl X Y rfl ?_ | refine xP rfl _ rfl (wJ t13) ?_ | refine zo (t := 123) rfl _ _ _ rfl (fun w hw => j3 (zD t15 w hw)) (by first | rfl | omega) ?_ | refine qB ?_ | refine qC ?_); simp only [zn]; go_big_quiet_on) | (go_big_quiet_op; go_big_quiet_on)))
    refine wpQuiet_nil ?_; refine qT (enters_of Tryz.func132 (by kernel_rfl) rfl) (c := JU _ M X Y (fun _ => Px.zero) _ rs1 SM.out (fun i _ => Px.zero_ok) (by omega)) (h := ?_); rintro e wn ⟨v8, rfl, rs8, za⟩; have zf := B.size; have zg := za.size; replace B := B.trans (za.mono B.size)
    (try replace l8 := l8.below za)
    (try replace m3 := m3.below za)
    (try replace c6 := c6.below za)
    (try replace r4 := r4.below za)
    (try replace ce := ce.below za)
    (try replace p9 := p9.below za)
    (try replace t13 := t13.below za)
    (try replace t15 := t15.below za)
    (try replace rs1 := rs1.below za)
    (try replace rsm := rsm.below za)
    obtain ⟨a8, c8, rfl, hc8⟩ := rs8.len; refine ⟨_, rfl, ?_⟩; simp only [zn]
    (refine xx rfl _ _ rfl _ rfl _ _ _ rfl l8 ?_; have l8o := l8; clear l8; intro wn ht ze zg; (try replace rs8 := rs8.chg l8o (by simp) ze); have zf := B.size; replace zg := Nat.le_of_eq zg.symm; replace B := kn.chg B ze; (try replace m3 := m3.of_eq (ze.block _ m3.lt (by omega))); (try replace c6 := c6.of_eq (ze.block _ c6.lt (by omega))); (try replace r4 := r4.of_eq (ze.block _ r4.lt (by omega))); (try replace ce := ce.of_eq (ze.block _ ce.lt (by omega))); (try replace p9 := p9.of_eq (ze.block _ p9.lt (by omega))); (try replace t13 := t13.of_eq (ze.block _ t13.lt (by omega))); (try replace t15 := t15.of_eq (ze.block _ t15.lt (by omega))); have l8 := ht; clear ht; simp only [zn])
    refine wpList_nil ?_; refine qt.at ?_; try dsimp only
    gi_wp2
    refine ⟨KeepsOthers.chgB B.toChg L8.out, Q2.chg B.toChg, ?_⟩
    dsimp only
    rw [HNEW.out]; have e := Jw M X Y (t := fun _ => Px.zero) (u := xl c L X Y (qf M X Y)) ((Zm _).2 fun _ _ => rfl) HZ.out; rw [e] at rs8 l8; exact ⟨a8, c8, l8, rs8, m3, c6, r4, ce, qV.below BW B.toChg (by omega) BW.size⟩
   | false =>
    have HN : jq X Y (xl c L X Y (qf M X Y)) = [⟨X, Y, xl c L X Y (qf M X Y)⟩] := by unfold jq; rw [hz]; rfl
    rw [HN] at rs5; simp only [HN, List.length_cons, List.length_nil, Nat.zero_add]; obtain ⟨g5, o5, rfl, rc5⟩ := rs5.at (by simp); clear rs5 HN hz; have hlen1 : 0 < [(⟨X, Y, xl c L X Y (qf M X Y)⟩ : TA)].length := by simp
    gi_wp2
    refine wpIn_loop_rounds 2 ?_; rw [roundsIn_succ]; gi_upto_region 16 with fail
    refine zB (by kernel_rfl) ?_; try simp only [zP]
    refine jp 1 ?_; repeat (first | go_big_quiet_skip | (go_big_quiet_want; first | ((first | refine zC rfl X Y rfl ?_ | refine qB ?_ | refine qC ?_); simp only [zn]; go_big_quiet_on) | (go_big_quiet_op; go_big_quiet_on)))
    refine wpQuiet_nil ?_; refine wpList_nil ?_; refine qt.at ?_; try dsimp only
    gi_upto_region 17 with fail
    refine zB (by kernel_rfl) ?_; try simp only [zP]
    refine jp 2 ?_; repeat (first | go_big_quiet_skip | (go_big_quiet_want; first | ((first | refine zC rfl X Y rfl ?_ | refine zo (t := 125) rfl _ _ _ rfl (fun w hw => kf (vG rc5 w hw) hlen1 rfl) (by first | rfl | omega) ?_ | refine qB ?_ | refine qC ?_); simp only [zn]; go_big_quiet_on) | (go_big_quiet_op; go_big_quiet_on)))
    refine wpQuiet_nil ?_
    (refine zu (t := 125) rfl _ (jz _ _ rfl) ?_; intro b_t15 wn zb zd ht za zg; have zf := B.size; replace B := B.trans (za.mono (by omega)); have zk := Nat.lt_of_lt_of_eq (Nat.lt_succ_self _) zg.symm; clear zg; (try have zh := l8.lt); (try replace l8 := l8.below (za.mono zb)); (try have zh := m3.lt); (try replace m3 := m3.below (za.mono zb)); (try have zh := c6.lt); (try replace c6 := c6.below (za.mono zb)); (try have zh := r4.lt); (try replace r4 := r4.below (za.mono zb)); (try have zh := ce.lt); (try replace ce := ce.below (za.mono zb)); (try have zh := p9.lt); (try replace p9 := p9.below (za.mono zb)); (try have zh := t13.lt); (try replace t13 := t13.below (za.mono zb)); (try have zh := t15.lt); (try replace t15 := t15.below (za.mono zb)); (try have zh := rs1.lt); (try replace rs1 := rs1.below (za.mono zb)); (try have zh := rsm.lt); (try replace rsm := rsm.below (za.mono zb)); (try have zh := rc5.lt); (try replace rc5 := rc5.below (za.mono zb)); have t15 := ht; clear ht; simp only [zn])
    (refine zq (t := 125) rfl _ _ rfl _ rfl _ rfl t15 (by rw [qi]; kernel_rfl) (by simp only [qi, jX]) (yY _) ?_; clear t15; intro wn ht ze zg; have zf := B.size; replace zg := Nat.le_of_eq zg.symm; replace B := kn.store B ze (by omega); (try replace l8 := l8.of_eq (ze.block _ l8.lt (by omega))); (try replace m3 := m3.of_eq (ze.block _ m3.lt (by omega))); (try replace c6 := c6.of_eq (ze.block _ c6.lt (by omega))); (try replace r4 := r4.of_eq (ze.block _ r4.lt (by omega))); (try replace ce := ce.of_eq (ze.block _ ce.lt (by omega))); (try replace p9 := p9.of_eq (ze.block _ p9.lt (by omega))); (try replace t13 := t13.of_eq (ze.block _ t13.lt (by omega))); (try replace rs1 := rs1.of_eq (ze.block _ rs1.lt (by omega))); (try replace rsm := rsm.of_eq (ze.block _ rsm.lt (by omega))); (try replace rc5 := rc5.of_eq (ze.block _ rc5.lt (by omega))); have t15 := ht; clear ht; simp only [zn])
    refine wpList_nil ?_; refine qt.at ?_; try dsimp only
    replace t15 : zJ 125 _ b_t15 (xW ⟨X, Y, xl c L X Y (qf M X Y)⟩) := t15; gi_upto_region 18 with fail
    refine zB (by kernel_rfl) ?_; try simp only [zP]
    refine jp 2 ?_; repeat (first | go_big_quiet_skip | (go_big_quiet_want; first | ((first | refine zC rfl X Y rfl ?_ | refine xP rfl _ rfl (wJ t13) ?_ | refine zo (t := 123) rfl _ _ _ rfl (fun w hw => j3 (zD t15 w hw)) (by first | rfl | omega) ?_ | refine qB ?_ | refine qC ?_); simp only [zn]; go_big_quiet_on) | (go_big_quiet_op; go_big_quiet_on)))
    refine wpQuiet_nil ?_
    (refine xJ rfl _ _ rfl _ rfl _ rfl t13 ?_; clear t13; intro wn ht ze zg; have zf := B.size; replace zg := Nat.le_of_eq zg.symm; replace B := kn.store B ze (by omega); (try replace l8 := l8.of_eq (ze.block _ l8.lt (by omega))); (try replace m3 := m3.of_eq (ze.block _ m3.lt (by omega))); (try replace c6 := c6.of_eq (ze.block _ c6.lt (by omega))); (try replace r4 := r4.of_eq (ze.block _ r4.lt (by omega))); (try replace ce := ce.of_eq (ze.block _ ce.lt (by omega))); (try replace p9 := p9.of_eq (ze.block _ p9.lt (by omega))); (try replace t15 := t15.of_eq (ze.block _ t15.lt (by omega))); (try replace rs1 := rs1.of_eq (ze.block _ rs1.lt (by omega))); (try replace rsm := rsm.of_eq (ze.block _ rsm.lt (by omega))); (try replace rc5 := rc5.of_eq (ze.block _ rc5.lt (by omega))); have t13 := ht; clear ht; simp only [zn])
    refine wpList_nil ?_; refine qt.at ?_; try dsimp only
    gi_upto_region 19 with fail
    refine zB (by kernel_rfl) ?_; try simp only [zP]
    refine jp 2 ?_; repeat (first | go_big_quiet_skip | (go_big_quiet_want; first | ((first | refine zC rfl X Y rfl ?_ | refine qB ?_ | refine qC ?_); simp only [zn]; go_big_quiet_on) | (go_big_quiet_op; go_big_quiet_on)))
    refine wpQuiet_nil ?_; refine wpList_nil ?_; refine qt.at ?_; try dsimp only
    gi_wp2
    rw [roundsIn_succ]; gi_upto_region 16 with fail
    refine zB (by kernel_rfl) ?_; try simp only [zP]
    refine jp 1 ?_; repeat (first | go_big_quiet_skip | (go_big_quiet_want; first | ((first | refine zC rfl X Y rfl ?_ | refine qB ?_ | refine qC ?_); simp only [zn]; go_big_quiet_on) | (go_big_quiet_op; go_big_quiet_on)))
    refine wpQuiet_nil ?_; refine wpList_nil ?_; refine qt.at ?_; try dsimp only
    clear rs1; have rs1 := RS1W.out.chg L8.out (by simp) B.toChg; gi_upto_region 20 with fail
    refine zB (by kernel_rfl) ?_; try simp only [zP]
    refine jp 3 ?_
    repeat (first | go_big_quiet_skip | (go_big_quiet_want; first | ((first | refine zC rfl X Y rfl ?_ | refine xP rfl _ rfl (wJ t13) ?_ | refine zo (t := 123) rfl _ _ _ rfl (fun w hw => j3 (zD t15 w hw)) (by first | rfl | omega) ?_ | refine qB ?_ | refine qC ?_); simp only [zn]; go_big_quiet_on) | (go_big_quiet_op; go_big_quiet_on)))
    refine wpQuiet_nil ?_; refine qT (enters_of Tryz.func132 (by kernel_rfl) rfl) (c := JU _ M X Y (xl c L X Y (qf M X Y)) _ rs1 SM.out HTT.out (by omega)) (h := ?_); rintro e wn ⟨v8, rfl, rs8, za⟩; have zf := B.size; have zg := za.size; replace B := B.trans (za.mono B.size)
    (try replace l8 := l8.below za)
    (try replace m3 := m3.below za)
    (try replace c6 := c6.below za)
    (try replace r4 := r4.below za)
    (try replace ce := ce.below za)
    (try replace p9 := p9.below za)
    (try replace t13 := t13.below za)
    (try replace t15 := t15.below za)
    (try replace rs1 := rs1.below za)
    (try replace rsm := rsm.below za)
    (try replace rc5 := rc5.below za)
    obtain ⟨a8, c8, rfl, hc8⟩ := rs8.len; refine ⟨_, rfl, ?_⟩; simp only [zn]
    (refine xx rfl _ _ rfl _ rfl _ _ _ rfl l8 ?_; have l8o := l8; clear l8; intro wn ht ze zg; (try replace rs8 := rs8.chg l8o (by simp) ze); have zf := B.size; replace zg := Nat.le_of_eq zg.symm; replace B := kn.chg B ze; (try replace m3 := m3.of_eq (ze.block _ m3.lt (by omega))); (try replace c6 := c6.of_eq (ze.block _ c6.lt (by omega))); (try replace r4 := r4.of_eq (ze.block _ r4.lt (by omega))); (try replace ce := ce.of_eq (ze.block _ ce.lt (by omega))); (try replace p9 := p9.of_eq (ze.block _ p9.lt (by omega))); (try replace t13 := t13.of_eq (ze.block _ t13.lt (by omega))); (try replace t15 := t15.of_eq (ze.block _ t15.lt (by omega))); (try replace rc5 := rc5.of_eq (ze.block _ rc5.lt (by omega))); have l8 := ht; clear ht; simp only [zn])
    refine wpList_nil ?_; refine qt.at ?_; try dsimp only
    gi_wp2
    refine ⟨KeepsOthers.chgB B.toChg L8.out, Q2.chg B.toChg, ?_⟩
    dsimp only
    rw [HNEW.out]; exact ⟨a8, c8, l8, rs8, m3, c6, r4, ce, qV.below BW B.toChg (by omega) BW.size⟩
  | false =>
   have HH := Lib.hid hh; have hz0 := Lib.hid (zdG SM.out hh); obtain ⟨k, hk⟩ : ∃ k, cutL M X Y = k := ⟨_, rfl⟩; have HK := Lib.hid hk; have hkl := uE M X Y; rw [hk] at hkl; clear hh hk; gi_upto_region 10 with fail
   refine zB (by kernel_rfl) ?_; try simp only [zP]
   refine jp 2 ?_
   repeat (first | go_big_quiet_skip | (go_big_quiet_want; first | ((first | refine zC rfl X Y rfl ?_ | refine qB ?_ | refine qC ?_); simp only [zn]; go_big_quiet_on) | (go_big_quiet_op; go_big_quiet_on)))
   refine wpQuiet_nil ?_; refine qT (enters_of Tryz.func130 (by kernel_rfl) rfl) (c := Vo _ M X Y k false _ rs1 SM.out (by omega) HK.out HH.out) (h := ?_); rintro e wn ⟨rfl, za⟩; have zf := B.size; have zg := za.size; replace B := B.trans (za.mono B.size)
   (try replace l8 := l8.below za)
   (try replace m3 := m3.below za)
   (try replace c6 := c6.below za)
   (try replace r4 := r4.below za)
   (try replace ce := ce.below za)
   (try replace p9 := p9.below za)
   (try replace t13 := t13.below za)
   (try replace t15 := t15.below za)
   (try replace rs1 := rs1.below za)
   (try replace rsm := rsm.below za)
   (try replace rc5 := rc5.below za)
   refine ⟨_, rfl, ?_⟩; simp only [zn]; refine jp 5 ?_; repeat (first | go_big_quiet_skip | (go_big_quiet_want; first | ((first | refine zC rfl X Y rfl ?_ | refine qB ?_ | refine qC ?_); simp only [zn]; go_big_quiet_on) | (go_big_quiet_op; go_big_quiet_on)))
   refine wpQuiet_nil ?_; refine wpList_nil ?_; refine qt.at ?_; try dsimp only
   gi_upto_region 11 with fail
   refine zB (by kernel_rfl) ?_; try simp only [zP]
   refine jp 2 ?_
   repeat (first | go_big_quiet_skip | (go_big_quiet_want; first | ((first | refine zC rfl X Y rfl ?_ | refine qB ?_ | refine qC ?_); simp only [zn]; go_big_quiet_on) | (go_big_quiet_op; go_big_quiet_on)))
   refine wpQuiet_nil ?_
   (refine xS rfl _ rfl ⟨X, Y, zT⟩ (by rfl) ?_; intro b_s1 wn zb zd ht za zg; have zf := B.size; replace B := B.trans (za.mono (by omega)); have zk := Nat.lt_of_lt_of_eq (Nat.lt_succ_self _) zg.symm; clear zg; (try have zh := l8.lt); (try replace l8 := l8.below (za.mono zb)); (try have zh := m3.lt); (try replace m3 := m3.below (za.mono zb)); (try have zh := c6.lt); (try replace c6 := c6.below (za.mono zb)); (try have zh := r4.lt); (try replace r4 := r4.below (za.mono zb)); (try have zh := ce.lt); (try replace ce := ce.below (za.mono zb)); (try have zh := p9.lt); (try replace p9 := p9.below (za.mono zb)); (try have zh := t13.lt); (try replace t13 := t13.below (za.mono zb)); (try have zh := t15.lt); (try replace t15 := t15.below (za.mono zb)); (try have zh := rs1.lt); (try replace rs1 := rs1.below (za.mono zb)); (try have zh := rsm.lt); (try replace rsm := rsm.below (za.mono zb)); (try have zh := rc5.lt); (try replace rc5 := rc5.below (za.mono zb)); have s1 := ht; clear ht; simp only [zn])
   refine jp 1 ?_; repeat (first | go_big_quiet_skip | (go_big_quiet_want; first | ((first | refine zC rfl X Y rfl ?_ | refine qB ?_ | refine qC ?_); simp only [zn]; go_big_quiet_on) | (go_big_quiet_op; go_big_quiet_on)))
   refine wpQuiet_nil ?_; refine wpList_nil ?_; refine qt.at ?_; try dsimp only
   gi_upto_region 12 with fail
   refine zB (by kernel_rfl) ?_; try simp only [zP]
   refine jp 1 ?_; repeat (first | go_big_quiet_skip | (go_big_quiet_want; first | ((first | refine zC rfl X Y rfl ?_ | refine qB ?_ | refine qC ?_); simp only [zn]; go_big_quiet_on) | (go_big_quiet_op; go_big_quiet_on)))
   refine wpQuiet_nil ?_; refine wpList_nil ?_; refine qt.at ?_; try dsimp only
   have rsm := RS.one s1; have rsm0 := rsm; gi_upto_region 14 with fail
   refine zB (by kernel_rfl) ?_; try simp only [zP]
   (refine yo rfl rfl ?_; intro b_t13 wn zb zd ht za zg; have zf := B.size; replace B := B.trans (za.mono (by omega)); have zk := Nat.lt_of_lt_of_eq (Nat.lt_succ_self _) zg.symm; clear zg; (try have zh := l8.lt); (try replace l8 := l8.below (za.mono zb)); (try have zh := m3.lt); (try replace m3 := m3.below (za.mono zb)); (try have zh := c6.lt); (try replace c6 := c6.below (za.mono zb)); (try have zh := r4.lt); (try replace r4 := r4.below (za.mono zb)); (try have zh := ce.lt); (try replace ce := ce.below (za.mono zb)); (try have zh := p9.lt); (try replace p9 := p9.below (za.mono zb)); (try have zh := t13.lt); (try replace t13 := t13.below (za.mono zb)); (try have zh := t15.lt); (try replace t15 := t15.below (za.mono zb)); (try have zh := rs1.lt); (try replace rs1 := rs1.below (za.mono zb)); (try have zh := rsm.lt); (try replace rsm := rsm.below (za.mono zb)); (try have zh := rc5.lt); (try replace rc5 := rc5.below (za.mono zb)); have t13 := ht; clear ht; simp only [zn])
   refine wpList_nil ?_; refine qt.at ?_; try dsimp only
   have HSEP := Lib.hid (KZ rsm0 zb (by simp)); clear rsm0; gi_upto_region 15 with fail
   refine zB (by kernel_rfl) ?_; try simp only [zP]
   refine jp 1 ?_; repeat (first | go_big_quiet_skip | (go_big_quiet_want; first | ((first | refine zC rfl X Y rfl ?_ | refine qB ?_ | refine qC ?_); simp only [zn]; go_big_quiet_on) | (go_big_quiet_op; go_big_quiet_on)))
   refine wpQuiet_nil ?_
   (refine zV rfl (.func (.func 131) #[] #[.pointer (some ⟨b_c6, 0, none⟩), .pointer (some ⟨b_m3, 0, none⟩)]) (by first | rfl | simp [go_sem, Act.eval]) ?_; simp only [zn])
   refine qT (enters_of Tryz.func126 (by kernel_rfl) rfl) (c := XZ c FT.out L HL.out OK.out ⟨X, Y, zT⟩ _ _ b_c6 b_m3 b_t13 g o cu _ _ rsm (fun i _ => Px.zero_ok) HWI.out c6 m3 ce t13 HSEP.out) (h := ?_); rintro e wn ⟨a5, cp5, rfl, rs5, za⟩; have zf := B.size; have zg := za.size; replace B := B.trans (za.mono B.size)
   (try replace l8 := l8.below za)
   (try replace m3 := m3.below za)
   (try replace c6 := c6.below za)
   (try replace r4 := r4.below za)
   (try replace ce := ce.below za)
   (try replace p9 := p9.below za)
   (try replace t13 := t13.below za)
   (try replace t15 := t15.below za)
   (try replace rs1 := rs1.below za)
   (try replace rsm := rsm.below za)
   (try replace rc5 := rc5.below za)
   refine ⟨_, rfl, ?_⟩; simp only [zn]; refine zw (by first | rfl | simp [Region.wanted, yielded]) rfl Tryz.underlying62 rfl ?_; simp only [zn]; refine jp 1 ?_; repeat (first | go_big_quiet_skip | (go_big_quiet_want; first | ((first | refine zC rfl X Y rfl ?_ | refine qB ?_ | refine qC ?_); simp only [zn]; go_big_quiet_on) | (go_big_quiet_op; go_big_quiet_on)))
   refine wpQuiet_nil ?_; refine wpList_nil ?_; refine qt.at ?_; try dsimp only
   rw [← hz0.out] at rs5; simp only [← hz0.out]; clear rsm HSEP; cases hz : jT (xl c L X Y (qf M X Y)) with
   | true =>
    have HN : jq X Y (xl c L X Y (qf M X Y)) = [] := by unfold jq; rw [hz]; rfl
    rw [HN] at rs5; simp only [HN, List.length_nil]; clear rs5 HN; have HZ := Lib.hid hz; clear hz; gi_wp2
    refine wpIn_loop_rounds 2 ?_; rw [roundsIn_succ]; gi_upto_region 16 with fail
    refine zB (by kernel_rfl) ?_; try simp only [zP]
    refine jp 1 ?_; repeat (first | go_big_quiet_skip | (go_big_quiet_want; first | ((first | refine zC rfl X Y rfl ?_ | refine qB ?_ | refine qC ?_); simp only [zn]; go_big_quiet_on) | (go_big_quiet_op; go_big_quiet_on)))
    refine wpQuiet_nil ?_; refine wpList_nil ?_; refine qt.at ?_; try dsimp only
    clear rs1; have rs1 := RS1W.out.chg L8.out (by simp) B.toChg; gi_upto_region 20 with fail
    refine zB (by kernel_rfl) ?_; try simp only [zP]
    refine jp 3 ?_
    repeat (first | go_big_quiet_skip | (go_big_quiet_want; first | ((first | refine zC rfl X Y rfl ?_ | refine xP rfl _ rfl (wJ t13) ?_ | refine zo (t := 123) rfl _ _ _ rfl (fun w hw => j3 (zD t15 w hw)) (by first | rfl | omega) ?_ | refine qB ?_ | refine qC ?_); simp only [zn]; go_big_quiet_on) | (go_big_quiet_op; go_big_quiet_on)))
    refine wpQuiet_nil ?_; refine qT (enters_of Tryz.func132 (by kernel_rfl) rfl) (c := JU _ M X Y (fun _ => Px.zero) _ rs1 SM.out (fun i _ => Px.zero_ok) (by omega)) (h := ?_); rintro e wn ⟨v8, rfl, rs8, za⟩; have zf := B.size; have zg := za.size; replace B := B.trans (za.mono B.size)
    (try replace l8 := l8.below za)
    (try replace m3 := m3.below za)
    (try replace c6 := c6.below za)
    (try replace r4 := r4.below za)
    (try replace ce := ce.below za)
    (try replace p9 := p9.below za)
    (try replace t13 := t13.below za)
    (try replace t15 := t15.below za)
    (try replace rs1 := rs1.below za)
    (try replace rc5 := rc5.below za)
    obtain ⟨a8, c8, rfl, hc8⟩ := rs8.len; refine ⟨_, rfl, ?_⟩; simp only [zn]
    (refine xx rfl _ _ rfl _ rfl _ _ _ rfl l8 ?_; have l8o := l8; clear l8; intro wn ht ze zg; (try replace rs8 := rs8.chg l8o (by simp) ze); have zf := B.size; replace zg := Nat.le_of_eq zg.symm; replace B := kn.chg B ze; (try replace m3 := m3.of_eq (ze.block _ m3.lt (by omega))); (try replace c6 := c6.of_eq (ze.block _ c6.lt (by omega))); (try replace r4 := r4.of_eq (ze.block _ r4.lt (by omega))); (try replace ce := ce.of_eq (ze.block _ ce.lt (by omega))); (try replace p9 := p9.of_eq (ze.block _ p9.lt (by omega))); (try replace t13 := t13.of_eq (ze.block _ t13.lt (by omega))); (try replace t15 := t15.of_eq (ze.block _ t15.lt (by omega))); (try replace rc5 := rc5.of_eq (ze.block _ rc5.lt (by omega))); have l8 := ht; clear ht; simp only [zn])
    refine wpList_nil ?_; refine qt.at ?_; try dsimp only
    gi_wp2
    refine ⟨KeepsOthers.chgB B.toChg L8.out, Q2.chg B.toChg, ?_⟩
    dsimp only
    rw [HNEW.out]; have e := Jw M X Y (t := fun _ => Px.zero) (u := xl c L X Y (qf M X Y)) ((Zm _).2 fun _ _ => rfl) HZ.out; rw [e] at rs8 l8; exact ⟨a8, c8, l8, rs8, m3, c6, r4, ce, qV.below BW B.toChg (by omega) BW.size⟩
   | false =>
    have HN : jq X Y (xl c L X Y (qf M X Y)) = [⟨X, Y, xl c L X Y (qf M X Y)⟩] := by unfold jq; rw [hz]; rfl
    rw [HN] at rs5; simp only [HN, List.length_cons, List.length_nil, Nat.zero_add]; obtain ⟨g5, o5, rfl, rc5⟩ := rs5.at (by simp); clear rs5 HN hz; have hlen1 : 0 < [(⟨X, Y, xl c L X Y (qf M X Y)⟩ : TA)].length := by simp
    gi_wp2
    refine wpIn_loop_rounds 2 ?_; rw [roundsIn_succ]; gi_upto_region 16 with fail
    refine zB (by kernel_rfl) ?_; try simp only [zP]
    refine jp 1 ?_; repeat (first | go_big_quiet_skip | (go_big_quiet_want; first | ((first | refine zC rfl X Y rfl ?_ | refine qB ?_ | refine qC ?_); simp only [zn]; go_big_quiet_on) | (go_big_quiet_op; go_big_quiet_on)))
    refine wpQuiet_nil ?_; refine wpList_nil ?_; refine qt.at ?_; try dsimp only
    gi_upto_region 17 with fail
    refine zB (by kernel_rfl) ?_; try simp only [zP]
    refine jp 2 ?_; repeat (first | go_big_quiet_skip | (go_big_quiet_want; first | ((first | refine zC rfl X Y rfl ?_ | refine zo (t := 125) rfl _ _ _ rfl (fun w hw => kf (vG rc5 w hw) hlen1 rfl) (by first | rfl | omega) ?_ | refine qB ?_ | refine qC ?_); simp only [zn]; go_big_quiet_on) | (go_big_quiet_op; go_big_quiet_on)))
    refine wpQuiet_nil ?_
    (refine zu (t := 125) rfl _ (jz _ _ rfl) ?_; intro b_t15 wn zb zd ht za zg; have zf := B.size; replace B := B.trans (za.mono (by omega)); have zk := Nat.lt_of_lt_of_eq (Nat.lt_succ_self _) zg.symm; clear zg; (try have zh := l8.lt); (try replace l8 := l8.below (za.mono zb)); (try have zh := m3.lt); (try replace m3 := m3.below (za.mono zb)); (try have zh := c6.lt); (try replace c6 := c6.below (za.mono zb)); (try have zh := r4.lt); (try replace r4 := r4.below (za.mono zb)); (try have zh := ce.lt); (try replace ce := ce.below (za.mono zb)); (try have zh := p9.lt); (try replace p9 := p9.below (za.mono zb)); (try have zh := t13.lt); (try replace t13 := t13.below (za.mono zb)); (try have zh := t15.lt); (try replace t15 := t15.below (za.mono zb)); (try have zh := rs1.lt); (try replace rs1 := rs1.below (za.mono zb)); (try have zh := rsm.lt); (try have zh := rc5.lt); have t15 := ht; clear ht; simp only [zn])
    (refine zq (t := 125) rfl _ _ rfl _ rfl _ rfl t15 (by rw [qi]; kernel_rfl) (by simp only [qi, jX]) (yY _) ?_; clear t15; intro wn ht ze zg; have zf := B.size; replace zg := Nat.le_of_eq zg.symm; replace B := kn.store B ze (by omega); (try replace l8 := l8.of_eq (ze.block _ l8.lt (by omega))); (try replace m3 := m3.of_eq (ze.block _ m3.lt (by omega))); (try replace c6 := c6.of_eq (ze.block _ c6.lt (by omega))); (try replace r4 := r4.of_eq (ze.block _ r4.lt (by omega))); (try replace ce := ce.of_eq (ze.block _ ce.lt (by omega))); (try replace p9 := p9.of_eq (ze.block _ p9.lt (by omega))); (try replace t13 := t13.of_eq (ze.block _ t13.lt (by omega))); (try replace rs1 := rs1.of_eq (ze.block _ rs1.lt (by omega))); have t15 := ht; clear ht; simp only [zn])
    refine wpList_nil ?_; refine qt.at ?_; try dsimp only
    replace t15 : zJ 125 _ b_t15 (xW ⟨X, Y, xl c L X Y (qf M X Y)⟩) := t15; gi_upto_region 18 with fail
    refine zB (by kernel_rfl) ?_; try simp only [zP]
    refine jp 2 ?_; repeat (first | go_big_quiet_skip | (go_big_quiet_want; first | ((first | refine zC rfl X Y rfl ?_ | refine xP rfl _ rfl (wJ t13) ?_ | refine zo (t := 123) rfl _ _ _ rfl (fun w hw => j3 (zD t15 w hw)) (by first | rfl | omega) ?_ | refine qB ?_ | refine qC ?_); simp only [zn]; go_big_quiet_on) | (go_big_quiet_op; go_big_quiet_on)))
    refine wpQuiet_nil ?_
    (refine xJ rfl _ _ rfl _ rfl _ rfl t13 ?_; clear t13; intro wn ht ze zg; have zf := B.size; replace zg := Nat.le_of_eq zg.symm; replace B := kn.store B ze (by omega); (try replace l8 := l8.of_eq (ze.block _ l8.lt (by omega))); (try replace m3 := m3.of_eq (ze.block _ m3.lt (by omega))); (try replace c6 := c6.of_eq (ze.block _ c6.lt (by omega))); (try replace r4 := r4.of_eq (ze.block _ r4.lt (by omega))); (try replace ce := ce.of_eq (ze.block _ ce.lt (by omega))); (try replace p9 := p9.of_eq (ze.block _ p9.lt (by omega))); (try replace t15 := t15.of_eq (ze.block _ t15.lt (by omega))); (try replace rs1 := rs1.of_eq (ze.block _ rs1.lt (by omega))); have t13 := ht; clear ht; simp only [zn])
    refine wpList_nil ?_; refine qt.at ?_; try dsimp only
    gi_upto_region 19 with fail
    refine zB (by kernel_rfl) ?_; try simp only [zP]
    refine jp 2 ?_; repeat (first | go_big_quiet_skip | (go_big_quiet_want; first | ((first | refine zC rfl X Y rfl ?_ | refine qB ?_ | refine qC ?_); simp only [zn]; go_big_quiet_on) | (go_big_quiet_op; go_big_quiet_on)))
    refine wpQuiet_nil ?_; refine wpList_nil ?_; refine qt.at ?_; try dsimp only
    gi_wp2
    rw [roundsIn_succ]; gi_upto_region 16 with fail
    refine zB (by kernel_rfl) ?_; try simp only [zP]
    refine jp 1 ?_; repeat (first | go_big_quiet_skip | (go_big_quiet_want; first | ((first | refine zC rfl X Y rfl ?_ | refine qB ?_ | refine qC ?_); simp only [zn]; go_big_quiet_on) | (go_big_quiet_op; go_big_quiet_on)))
    refine wpQuiet_nil ?_; refine wpList_nil ?_; refine qt.at ?_; try dsimp only
    clear rs1; have rs1 := RS1W.out.chg L8.out (by simp) B.toChg; gi_upto_region 20 with fail
    refine zB (by kernel_rfl) ?_; try simp only [zP]
    refine jp 3 ?_
    repeat (first | go_big_quiet_skip | (go_big_quiet_want; first | ((first | refine zC rfl X Y rfl ?_ | refine xP rfl _ rfl (wJ t13) ?_ | refine zo (t := 123) rfl _ _ _ rfl (fun w hw => j3 (zD t15 w hw)) (by first | rfl | omega) ?_ | refine qB ?_ | refine qC ?_); simp only [zn]; go_big_quiet_on) | (go_big_quiet_op; go_big_quiet_on)))
    refine wpQuiet_nil ?_; refine qT (enters_of Tryz.func132 (by kernel_rfl) rfl) (c := JU _ M X Y (xl c L X Y (qf M X Y)) _ rs1 SM.out HTT.out (by omega)) (h := ?_); rintro e wn ⟨v8, rfl, rs8, za⟩; have zf := B.size; have zg := za.size; replace B := B.trans (za.mono B.size)
    (try replace l8 := l8.below za)
    (try replace m3 := m3.below za)
    (try replace c6 := c6.below za)
    (try replace r4 := r4.below za)
    (try replace ce := ce.below za)
    (try replace rs1 := rs1.below za)
    obtain ⟨a8, c8, rfl, hc8⟩ := rs8.len; refine ⟨_, rfl, ?_⟩; simp only [zn]
    (refine xx rfl _ _ rfl _ rfl _ _ _ rfl l8 ?_; have l8o := l8; clear l8; intro wn ht ze zg; (try replace rs8 := rs8.chg l8o (by simp) ze); have zf := B.size; replace zg := Nat.le_of_eq zg.symm; replace B := kn.chg B ze; (try replace m3 := m3.of_eq (ze.block _ m3.lt (by omega))); (try replace c6 := c6.of_eq (ze.block _ c6.lt (by omega))); (try replace r4 := r4.of_eq (ze.block _ r4.lt (by omega))); (try replace ce := ce.of_eq (ze.block _ ce.lt (by omega))); have l8 := ht; clear ht; simp only [zn])
    refine wpList_nil ?_; refine qt.at ?_; try dsimp only
    gi_wp2
    refine ⟨KeepsOthers.chgB B.toChg L8.out, Q2.chg B.toChg, ?_⟩
    dsimp only
    rw [HNEW.out]; exact ⟨a8, c8, l8, rs8, m3, c6, r4, ce, qV.below BW B.toChg (by omega) BW.size⟩
 case done =>
  have hszB := B.size; rintro D xs W hD rfl ⟨a, cp, l8, rs1, m3, c6, r4, ce, BW⟩ hDD; have kd : yE W D := hDD; rw [zcg] at l8 rs1; have B := BW; have hMn := YD c L (yJ c) KS; rw [zch] at hMn; obtain ⟨M, hM⟩ : ∃ M, xA c L KS (yJ c) = M := ⟨_, rfl⟩; rw [hM] at l8 rs1 hMn; have HM := Lib.hid hM; clear hM; have hwD : w.heap.size ≤ D := by omega
  have hne := kd.ne r4; clear BW m3 c6 ce hD; go_upto_region 21 with fail
  by_cases hm : M.length ≤ 1024
  ·have e1 : yI M = M := if_pos hm
   have e2 : kS M = 0 := if_pos hm; refine wp_region_lit ?_; try simp only [zP]
   refine zy 1 ?_
   refine qT (enters_of Tryz.func78 (by kernel_rfl) rfl) (c := xZ _ M _ rs1 (by omega)) (h := ?_); rintro e wn ⟨v2, b2, rfl, _, _, od2, za⟩; have zf := B.size; have zg := za.size; replace B := B.trans (za.mono B.size)
   (try replace l8 := l8.below za)
   (try replace r4 := r4.below za)
   (try replace kd := kd.below za)
   have rs2 := od2.rs; clear od2; obtain ⟨a2, c2, rfl, hc2⟩ := rs2.len; refine ⟨_, rfl, ?_⟩; simp only [zn]; refine qT (enters_of Tryz.func133 (by kernel_rfl) rfl) (c := zbb _ _ _ _ (by unfold maxLen; omega)) (h := ?_)
   rintro e wn ⟨rfl, za⟩; have zf := B.size; have zg := za.size; replace B := B.trans (za.mono B.size)
   (try replace l8 := l8.below za)
   (try replace r4 := r4.below za)
   (try replace kd := kd.below za)
   replace rs2 := rs2.below za; rw [if_pos hm]; refine ⟨_, rfl, ?_⟩; simp only [zn]; refine zy 2 ?_
   (refine zq (t := 64) rfl _ _ rfl _ rfl _ rfl r4 (by kernel_rfl) rfl (by simp [Value.oneCell']) (qG B (by omega) ?_); have r4o := r4; clear r4 B; intro wn r4 ze zf zg B; (try replace rs2 := rs2.chg r4o (by simp) ze); (try replace l8 := l8.of_eq (ze.block _ l8.lt (by omega))); (try replace kd := kd.of_eq (ze.block _ kd.lt (by omega))); simp only [zn])
   refine zy 1 ?_; refine wpList_nil ?_; go_wp2; refine ⟨by simp, .inl ⟨_, _, rfl, run_takeDeferred kd, ?_⟩⟩; refine ⟨_, zQ (t := 64) rfl _ _ b_r4 rfl _ rfl ((World.putObj_heap_other (fun e => hne (by omega))).trans r4) Tryz.isAgg64 (by kernel_rfl), ?_⟩; have BF := B.trans (belowK_b (w := w) (Nat.le_refl _) wn D _ (.deferred none) hwD kd rfl rfl)
   dsimp only
   rw [HM.out, e1, e2]; exact ⟨_, _, rfl, rs2.own (grownBy_putObj' _ _ _) (fun r e => by cases e; exact ⟨_, kd, rfl⟩), BF⟩
  ·have e1 : yI M = [] := if_neg hm
   have e2 : kS M = 2 := if_neg hm; refine wp_region_lit ?_; try simp only [zP]
   refine zy 1 ?_
   refine qT (enters_of Tryz.func78 (by kernel_rfl) rfl) (c := xZ _ M _ rs1 (by omega)) (h := ?_); rintro e wn ⟨v2, b2, rfl, _, _, od2, za⟩; have zf := B.size; have zg := za.size; replace B := B.trans (za.mono B.size)
   (try replace r4 := r4.below za)
   (try replace kd := kd.below za)
   have rs2 := od2.rs; clear od2; obtain ⟨a2, c2, rfl, hc2⟩ := rs2.len; refine ⟨_, rfl, ?_⟩; simp only [zn]; refine qT (enters_of Tryz.func133 (by kernel_rfl) rfl) (c := zbb _ _ _ _ (by unfold maxLen; omega)) (h := ?_)
   rintro e wn ⟨rfl, za⟩; have zf := B.size; have zg := za.size; replace B := B.trans (za.mono B.size)
   (try replace r4 := r4.below za)
   (try replace kd := kd.below za)
   replace rs2 := rs2.below za; rw [if_neg hm]; refine ⟨_, rfl, ?_⟩; simp only [zn]; refine zy 2 ?_
   (refine zq (t := 64) rfl _ _ rfl _ rfl _ rfl r4 (by kernel_rfl) rfl (by simp [Value.oneCell']) (qG B (by omega) ?_); have r4o := r4; clear r4 B; intro wn r4 ze zf zg B; (try replace kd := kd.of_eq (ze.block _ kd.lt (by omega))); simp only [zn])
   refine zy 1 ?_; refine wpList_nil ?_; go_wp2; refine ⟨by simp, .inl ⟨_, _, rfl, run_takeDeferred kd, ?_⟩⟩; refine ⟨_, zQ (t := 64) rfl _ _ b_r4 rfl _ rfl ((World.putObj_heap_other (fun e => hne (by omega))).trans r4) Tryz.isAgg64 (by kernel_rfl), ?_⟩; have BF := B.trans (belowK_b (w := w) (Nat.le_refl _) wn D _ (.deferred none) hwD kd rfl rfl)
   dsimp only
   rw [HM.out, e1, e2]; exact ⟨_, _, rfl, RS.nil _, BF⟩
end Go.Proofs.YtepelndbbhdofaaGreatDoor
/- Strokes, points and dabs in memory; contracts of Floor by any divisor, of round. -/
namespace Go.Proofs.YtepelndbbhdofaaGreatDoor
open Go.RowKit Go.Shelf Pl
set_option linter.unusedVariables false
set_option linter.unusedSimpArgs false
set_option maxRecDepth 20000
def qQ : Q3 Sp 3 43 26 where
 enc := fun a => #[.int .i64 a.x, .int .i64 a.y, .int .i64 a.p]
 bytes := 24
 zero := ⟨0, 0, 0⟩
 size := fun _ => rfl
 one := fun x u hu => by
  have : u ∈ [Value.int .i64 x.x, .int .i64 x.y, .int .i64 x.p] := hu; simp at this
  rcases this with rfl | rfl | rfl <;> rfl
 pos := by omega
 small := by omega
 und := Tryz.underlying26
 info := by kernel_rfl
 zer := by kernel_rfl
theorem K5 {g o : Nat} {ls : List Sp} {w : World} (h : zO qQ g o ls w) {i : Nat} {a : Sp} (hi : ls[i]? = some a) : w.cell? ⟨g, o + i * 3, none⟩ = some (.int .i64 a.x) := by
 have := h.2 i a hi 0 (by omega)
 rw [← Nat.add_assoc] at this
 exact this
theorem K6 {g o : Nat} {ls : List Sp} {w : World} (h : zO qQ g o ls w) {i : Nat} {a : Sp} (hi : ls[i]? = some a) : w.cell? ⟨g, o + i * 3 + 1, none⟩ = some (.int .i64 a.y) := by
 have := h.2 i a hi 1 (by omega)
 rw [← Nat.add_assoc] at this
 exact this
theorem zcH {t : TypeId} {w : World} {b : Nat} {a : Sp} (h : zJ t w b (qQ.enc a)) : w.cell? ⟨b, 2, none⟩ = some (.int .i64 a.p) := h.cell 2 rfl
theorem K7 {g o : Nat} {ls : List Sp} {w : World} (h : zO qQ g o ls w) {i : Nat} {a : Sp} (hi : ls[i]? = some a) : w.cell? ⟨g, o + i * 3 + 2, none⟩ = some (.int .i64 a.p) := by
 have := h.2 i a hi 2 (by omega)
 rw [← Nat.add_assoc] at this
 exact this
def vj : Q3 Db 3 45 35 where
 enc := fun a => #[.int .i64 a.x, .int .i64 a.y, .int .i64 a.r]
 bytes := 24
 zero := ⟨0, 0, 0⟩
 size := fun _ => rfl
 one := fun x u hu => by
  have : u ∈ [Value.int .i64 x.x, .int .i64 x.y, .int .i64 x.r] := hu; simp at this
  rcases this with rfl | rfl | rfl <;> rfl
 pos := by omega
 small := by omega
 und := Tryz.underlying35
 info := by kernel_rfl
 zer := by kernel_rfl
def qR (v : Value) (s : qS) : Array Value := #[v, .int .i64 s.rad, .int .i64 s.spa, .int .u8 s.col.r, .int .u8 s.col.g, .int .u8 s.col.b, .int .u8 s.col.a, .bool s.era, .int .i64 s.pha]
section
variable {t : TypeId} {w : World} {b : Nat} {v : Value} {s : qS}
theorem Wm (h : zJ t w b (qR v s)) : w.cell? ⟨b, 0, none⟩ = some v := h.cell 0 rfl
theorem j2 (h : zJ t w b (qR v s)) : (Instr.loadAt 28 (.pointer (some ⟨b, 3, none⟩))).run Tryz.prog w = .ok (.agg #[.int .u8 s.col.r, .int .u8 s.col.g, .int .u8 s.col.b, .int .u8 s.col.a]) w :=
 kB h 3 Tryz.isAgg28 (by kernel_rfl) (fun j hj => by
  have hj : j < 4 := hj
  match j, hj with
  | 0, _ => rfl
  | 1, _ => rfl
  | 2, _ => rfl
  | 3, _ => rfl)
end
theorem YR (w : World) (o : Oper) (ho : o.op = .alloc 3) (ev : Operand → Value) : (execOp ev o).run Tryz.prog w = .ok (.value (.pointer (some ⟨w.heap.size, 0, none⟩))) (w.alloc (.cells #[.int .i64 0] 3)) := by
 obtain ⟨d, p, t, ps, af, gd⟩ := o
 simp only at ho
 subst ho
 kernel_rfl
theorem xB (w : World) (o : Oper) (ho : o.op = .alloc 43) (ev : Operand → Value) : (execOp ev o).run Tryz.prog w = .ok (.value (.pointer (some ⟨w.heap.size, 0, none⟩))) (w.alloc (.cells #[.int .i64 0, .int .i64 0, .int .i64 0] 43)) := by
 obtain ⟨d, p, t, ps, af, gd⟩ := o
 simp only at ho
 subst ho
 kernel_rfl
theorem yX (w : World) (o : Oper) (ho : o.op = .alloc 45) (ev : Operand → Value) : (execOp ev o).run Tryz.prog w = .ok (.value (.pointer (some ⟨w.heap.size, 0, none⟩))) (w.alloc (.cells #[.int .i64 0, .int .i64 0, .int .i64 0] 45)) := by
 obtain ⟨d, p, t, ps, af, gd⟩ := o
 simp only at ho
 subst ho
 kernel_rfl
theorem zW (w : World) (o : Oper) (ho : o.op = .alloc 30) (ev : Operand → Value) : (execOp ev o).run Tryz.prog w = .ok (.value (.pointer (some ⟨w.heap.size, 0, none⟩))) (w.alloc (.cells #[.slice none 0 0, .int .i64 0, .int .i64 0, .int .u8 0, .int .u8 0, .int .u8 0, .int .u8 0, .bool false, .int .i64 0] 30)) := by
 obtain ⟨d, p, t, ps, af, gd⟩ := o
 simp only at ho
 subst ho
 kernel_rfl
/-- An integer stored into a cell of a block. -/
theorem jn {t : TypeId} {ops : Array Oper} {rest : List Oper} {o : Oper} {a : Act} {w : World} {Q : Exit → Act → World → Prop} (hg : o.guard = none) (x y : Operand) (ho : o.op = .store 3 x y) (b i : Nat) (hx : a.eval x = .pointer (some ⟨b, i, none⟩)) (z : Int) (hy : a.eval y = .int .i64 z) {cs : Array Value} (ht : zJ t w b cs) {c : Value} (hc : cs[i]? = some c)
  (h : ∀ w', zJ t w' b (cs.setIfInBounds i (.int .i64 z)) → qV b w w' → w'.heap.size = w.heap.size → wpList Tryz.prog ops Q rest (a.put o.dst undef) w') : wpList Tryz.prog ops Q (o :: rest) a w := by
 have c0 := ht.cell i hc
 have f0 := ht.frozen i
 refine z8 hg x y ho (w.setCell ⟨b, i, none⟩ (.int .i64 z)) ?_ (h _ ?_ ((qV.refl b w).setCell _) (by simp only [World.size_setCell]))
 ·rw [hx, hy]
  simp [go_sem, c0, f0]
 ·exact heap_setCell_same w b i cs _ _ ht
theorem XH {x d : Int} (hx : x ≤ 0) (hd : 0 < d) : x.tmod d ≤ 0 ∧ x.tdiv d ≤ 0 := by
 obtain ⟨n, rfl⟩ : ∃ n : Nat, x = -(n : Int) := ⟨(-x).toNat, by omega⟩
 rw [Int.neg_tmod, Int.neg_tdiv, Int.tmod_eq_emod_of_nonneg (by omega), Int.tdiv_eq_ediv_of_nonneg (by omega)]
 have h1 := Int.emod_nonneg (n : Int) (show d ≠ 0 by omega)
 have h2 : 0 ≤ (n : Int) / d := Int.ediv_nonneg (by omega) (by omega)
 omega
theorem zat {x d : Int} (h : x < 0) (hd : 0 < d) : (x.tmod d = 0 → x.tdiv d = x / d) ∧ (x.tmod d ≠ 0 → x.tdiv d - 1 = x / d) := by
 have e : d * x.tdiv d + x.tmod d = x := by have := Int.tmod_def x d; omega
 have b1 : -d < x.tmod d := by have := Int.lt_tmod_of_pos x hd; omega
 have b2 : x.tmod d ≤ 0 := (XH (x := x) (by omega) (show 0 < d by omega)).1
 generalize x.tmod d = r at *
 generalize x.tdiv d = q at *
 rw [Int.mul_comm] at e
 constructor
 ·intro h0
  exact ((Int.ediv_emod_unique (a := x) (q := q) (r := 0) hd).2 ⟨by rw [Int.mul_comm d q]; omega, by omega, hd⟩).1.symm
 ·intro h0
  exact ((Int.ediv_emod_unique (a := x) (q := q - 1) (r := r + d) hd).2 ⟨by rw [Int.mul_comm d (q - 1), Int.sub_mul]; omega, by omega, by omega⟩).1.symm
theorem zcR {x d m : Int} (hd : 1 ≤ d) (h1 : -m ≤ x) (h2 : x ≤ 0) : -m ≤ x.tdiv d ∧ x.tdiv d ≤ 0 := by
 have e : d * x.tdiv d + x.tmod d = x := by have := Int.tmod_def x d; omega
 have b2 : x.tmod d ≤ 0 := (XH (x := x) (by omega) (show 0 < d by omega)).1
 have hq : x.tdiv d ≤ 0 := (XH h2 (show 0 < d by omega)).2
 refine ⟨?_, hq⟩
 have : d * x.tdiv d ≤ x.tdiv d := by
  have h := Int.mul_le_mul_of_nonneg_right hd (show 0 ≤ -x.tdiv d by omega); rw [Int.one_mul, Int.mul_neg] at h; omega
 have hb : x ≤ d * x.tdiv d := by omega
 -- d * q = x - r, so -m ≤ x ≤ d * q ≤ q
 omega
set_option maxHeartbeats 1000000 in
theorem zaW (x d : Int) (w : World) (hx1 : -4611686018427387904 ≤ x) (hx2 : x ≤ 4611686018427387904) (hd : 1 ≤ d) (hd2 : d ≤ 4611686018427387904) : Calls Tryz.prog 111 #[.int .i64 x, .int .i64 d] w fun e w' => e = .returned (.int .i64 (x / d)) ∧ Below w.heap.size w w' := by
 have e0 : (d == 0) = false := by simp; omega
 have e00 : d ≠ 0 := by omega
 have e01 : decide (d < 0) = false := decide_eq_false (by omega)
 have e02 : ¬ d < 0 := by omega
 by_cases h0 : 0 ≤ x
 ·have h1 : ¬ x < 0 := by omega
  have d1 : decide (x < 0) = false := decide_eq_false h1; have t1 : x.tdiv d = x / d := Int.tdiv_eq_ediv_of_nonneg h0; have t2 : x.tmod d = x % d := Int.tmod_eq_emod_of_nonneg h0; have b1 : 0 ≤ x / d := Int.ediv_nonneg h0 (by omega); have b2 : x / d ≤ x := Int.ediv_le_self d h0; by_cases hm : x % d = 0
  ·have e1 : (x % d == 0) = true := by simpa using hm
   have e2 : (x % d != 0) = false := by simpa using hm
   clear hm h0 h1; go_enter Tryz.func111, Tryz.ntmps111
   go_wp2; go_ret; exact ⟨by first | rfl | rw [t1], by go_grown⟩
  ·have e1 : (x % d == 0) = false := by simpa using hm
   have e2 : (x % d != 0) = true := by simpa using hm
   clear hm h0 h1; go_enter Tryz.func111, Tryz.ntmps111
   go_wp2; go_ret; exact ⟨by first | rfl | rw [t1], by go_grown⟩
 ·have h1 : x < 0 := by omega
  have d1 : decide (x < 0) = true := decide_eq_true h1; obtain ⟨t1, t2⟩ := zat h1 (show 0 < d by omega); have hb := zcR (m := 4611686018427387904) hd hx1 (show x ≤ 0 by omega); by_cases hm : x.tmod d = 0
  ·have E := Lib.hid (t1 hm)
   have e1 : (x.tmod d == 0) = true := by simpa using hm
   have e2 : (x.tmod d != 0) = false := by simpa using hm
   clear t1 t2 h0 hm; go_enter Tryz.func111, Tryz.ntmps111
   go_wp2; go_ret; exact ⟨jy E.out, by go_grown⟩
  ·have E := Lib.hid (t2 hm)
   have e1 : (x.tmod d == 0) = false := by simpa using hm
   have e2 : (x.tmod d != 0) = true := by simpa using hm
   clear t1 t2 h0 hm; go_enter Tryz.func111, Tryz.ntmps111
   go_wp2; go_ret; exact ⟨jy E.out, by go_grown⟩
theorem vU (x d q : Int) (w : World) (hx1 : -4611686018427387904 ≤ x) (hx2 : x ≤ 4611686018427387904) (hd : 1 ≤ d) (hd2 : d ≤ 4611686018427387904) (e : x / d = q) : Calls Tryz.prog 111 #[.int .i64 x, .int .i64 d] w fun e w' => e = .returned (.int .i64 q) ∧ Below w.heap.size w w' := e ▸ zaW x d w hx1 hx2 hd hd2
theorem kJ (x d q : Int) (w : World) (hx1 : -1000000000000000000 ≤ x) (hx2 : x ≤ 1000000000000000000) (hd : 1 ≤ d) (hd2 : d ≤ 1000000000000000000) (e : qj x d = q) : Calls Tryz.prog 68 #[.int .i64 x, .int .i64 d] w fun e w' => e = .returned (.int .i64 q) ∧ Below w.heap.size w w' := by
 have B := Below.refl w.heap.size w
 have E := Lib.hid (show (2 * x + d) / (2 * d) = q from e)
 clear e
 go_enter Tryz.func68, Tryz.ntmps68
 go_upto_region 1 with fail
 refine wp_region_lit ?_
 refine zy 6 ?_
 refine qT (enters_of Tryz.func111 (by kernel_rfl) rfl) (c := vU (2 * x + d) (2 * d) q _ (by omega) (by omega) (by omega) (by omega) E.out) (h := ?_)
 rintro e wn ⟨rfl, za⟩
 have zf := B.size
 have zg := za.size
 replace B := B.trans (za.mono B.size)
 refine ⟨_, rfl, ?_⟩
 simp only [zn]
 refine zy 1 ?_
 refine wpList_nil ?_
 go_wp2
 go_ret
 exact ⟨rfl, B⟩
end Go.Proofs.YtepelndbbhdofaaGreatDoor
/- A strings.Builder in use, told with what a write keeps: blocks of other kinds; the closure 'put' of Bytes. -/
namespace Go.Proofs.YtepelndbbhdofaaGreatDoor
open Go.RowKit Go.Lib Sha
set_option linter.unusedVariables false
set_option linter.unusedSimpArgs false
set_option maxRecDepth 20000
/-- A builder in use: it holds the bytes l. -/
def UB (B b : Nat) (l : List UInt8) (w : World) : Prop := Lib.BuilderAt 131 5 B b (.pointer (some ⟨b, 0, none⟩)) (Lib.byteCells l) w
/-- Blocks of other kinds than bytes stand, but one. -/
def KB (b : Nat) (w w' : World) : Prop := ∀ (k : Nat) (t : TypeId) (cs : Array Value), zJ t w k cs → k ≠ b → t ≠ 5 → zJ t w' k cs
theorem UB.holds {B b : Nat} {l : List UInt8} {w : World} (h : UB B b l w) : xY B b l w := .inr h
theorem UB.lt {B b : Nat} {l : List UInt8} {w : World} (h : UB B b l w) : b < w.heap.size := h.holds.lt
theorem UB.below {B b : Nat} {l : List UInt8} {w w' : World} (h : UB B b l w) (hb : Below w.heap.size w w') : UB B b l w' := by
 have zh := h.lt
 obtain ⟨hB, v, hv, hown, hne⟩ := h
 exact ⟨hB, v, (hb.block b zh).trans hv, hown.kept (row := none) ⟨hb.os, hb.tape, hb.output, hb.size, fun k hk _ => hb.block k hk⟩ (Classical.em _), hne⟩
theorem KB.below {b : Nat} {w w' : World} (hb : Below w.heap.size w w') : KB b w w' := fun k t cs h _ _ => h.of_eq (hb.block k h.lt)
theorem KB.trans {b : Nat} {u v w : World} (h : KB b u v) (k : KB b v w) : KB b u w := fun i t cs hi hb ht => k i t cs (h i t cs hi hb ht) hb ht
theorem Wt (B b : Nat) (l : List UInt8) (s : ByteArray) (w : World) (h : xY B b l w) (hlen : l.length + s.size ≤ 140737488355328) (hBw : B ≤ w.heap.size) :
  Calls Tryz.prog 83 #[.pointer (some ⟨b, 0, none⟩), .string s] w fun e w' => e = .returned (.tuple #[.int .i64 s.size, .nilIface]) ∧ UB B b (l ++ bytes s) w' ∧ Below B w w' :=
 (Any.Builder_WriteString VR Yf B b (Lib.byteCells l) s w h (by simpa [Lib.byteCells] using hlen) hBw).mono fun e w' ⟨h1, h2, h3⟩ => ⟨h1, (by unfold UB; rw [Jf]; exact h2), h3⟩
theorem zdc (B b : Nat) (l : List UInt8) (w : World) (h : UB B b l w) : Calls Tryz.prog 137 #[.pointer (some ⟨b, 0, none⟩)] w fun e w' => e = .returned (.tuple #[]) ∧ w' = w := Any.Builder_copyCheck_used { VR with } Yf.toX72 b w h.cell0
set_option maxHeartbeats 2000000 in
theorem zda (B b : Nat) (l : List UInt8) (s : ByteArray) (w : World) (h : UB B b l w) (hlen : l.length + s.size ≤ 140737488355328) (hBw : B ≤ w.heap.size) :
  Calls Tryz.prog 83 #[.pointer (some ⟨b, 0, none⟩), .string s] w fun e w' => (∃ v, e = .returned v) ∧ UB B b (l ++ bytes s) w' ∧ Below B w w' ∧ KB b w w' := by
 have zh := h.lt
 have HU := Lib.hid h
 obtain ⟨hB, v, hbk, hown, hne⟩ := h
 have c1 : w.cell? ⟨b, 1, none⟩ = some v := by rw [Lib.cell_of_heap hbk]; rfl
 have hcl : (Lib.byteCells l).length = l.length := by simp [Lib.byteCells]
 obtain ⟨i0, hi, hz0, hz1, hz2⟩ := info_parts Yf.infoByte
 go_enter Tryz.func83, Tryz.ntmps83
 go_wp2_with (go_at_call 137; refine (zdc B b l _ HU.out).mono ?_)
 rintro e w1 ⟨rfl, hw⟩
 have hw2 := hw.symm
 clear hw
 subst hw2
 go_wp2_with (at_builtin; refine Lib.wpList_append_own_string _ rfl _ _ 75 9 rfl B 5 i0 Tryz.underlying75 Tryz.underlying9 hi hz0 hz1 hz2 _ _ _ rfl hown s rfl ?c3 ?c4 ?c5 ?_)
 case c3 => rw [hcl]; unfold maxLen; omega
 case c4 => rw [hcl]; omega
 case c5 => exact hBw
 intro v' w2 hown' hgrow _
 have hb2 : w2.heap[b]? = some (.cells #[.pointer (some ⟨b, 0, none⟩), v] 131 (0, 0)) := by
  rw [hgrow.block b zh (fun e => hne e.symm)]; exact hbk
 have d1 : w2.cell? ⟨b, 1, none⟩ = some v := by rw [Lib.cell_of_heap hb2]; rfl
 have f1 : w2.frozen? ⟨b, 1, none⟩ = false := Lib.frozen_of_heap hb2 1
 have KG : KB b w w2 := fun k t cs hk hkb ht => hk.of_eq (hgrow.block k hk.lt fun e => by
  rcases hown.2 with ⟨rfl, _⟩ | ⟨g, cap, cur, rfl, _, hgc, _⟩
  ·cases e
  ·have hgk : k = g := by simpa [Value.ownBlock] using e
   subst hgk; rw [show w.heap[k]? = _ from hk] at hgc
   injection hgc with hgc
   injection hgc with _ e2 _
   exact ht e2)
 obtain ⟨ao, n', cap, rfl⟩ : ∃ ao n' cap, v' = .slice ao n' cap := by
  rcases hown'.2 with ⟨hv, _⟩ | ⟨g, cap, cur, hv, _⟩
  ·exact ⟨_, _, _, hv⟩
  ·exact ⟨_, _, _, hv⟩
 have HOW := Lib.hid hown
 clear hown hbk HU c1
 go_wp2
 go_ret2
 refine ⟨⟨_, rfl⟩, ?_, ?_, ?_⟩
 ·unfold UB
  rw [Jf]; exact Lib.BuilderAt.put (T := 131) (e := 5) hB hb2 (bs' := Lib.byteCells l ++ Lib.strCells s) (by rw [List.length_append, Lib.strCells_length, hcl]; exact hown') Yf.neB5
 ·exact ((Below.refl B w).grown hgrow hBw (fun k hk => (World.ownsRow.lt HOW.out k hk).1)).setCell (p := ⟨b, 1, none⟩) hB _
 ·exact fun k t cs hk hkb ht => (KG k t cs hk hkb ht).of_eq (((qV.refl b w2).setCell _).block k (KG k t cs hk hkb ht).lt hkb)
theorem wE (n m : Nat) : bytes (jk (zS n m)) = zS n m := rfl
theorem zdi (B0 b : Nat) (l : List UInt8) (n : Nat) (w : World) (h : xY B0 b l w) (hn : n < 16777216) (hlen : l.length ≤ 100000) (hBw : B0 ≤ w.heap.size) : Calls Tryz.prog 82 #[.int .i64 (n : Int), .int .i64 1, .pointer (some ⟨b, 0, none⟩)] w fun e w' => (∃ v, e = .returned v) ∧ UB B0 b (l ++ zS n 1) w' ∧ Below B0 w w' := by
 have B := Below.refl w.heap.size w
 go_enter Tryz.func82, Tryz.ntmps82
 go_upto_region 0 with fail
 refine wp_region_lit ?_
 refine zy 2 ?_
 refine qT (enters_of Tryz.func84 (by kernel_rfl) rfl) (c := za5 n (by omega) _) (h := ?_)
 rintro e wn ⟨rfl, za⟩
 have zf := B.size
 have zg := za.size
 replace B := B.trans (za.mono B.size)
 replace h := h.below za
 refine ⟨_, rfl, ?_⟩
 simp only [zn]
 refine qT (enters_of Tryz.func83 (by kernel_rfl) rfl) (c := Wt B0 b l _ wn h (by rw [qm, zx]; omega) (by have := B.size; omega)) (h := ?_)
 rintro e wm ⟨rfl, hu, zl⟩
 rw [wE] at hu
 refine ⟨_, rfl, ?_⟩
 simp only [zn]
 refine wpList_nil ?_
 go_wp2
 go_end0
 refine ⟨⟨_, rfl⟩, hu, (B.mono hBw).trans zl⟩
theorem zeQ (B0 b : Nat) (l : List UInt8) (n : Nat) (w : World) (h : UB B0 b l w) (hn : n < 16777216) (hlen : l.length ≤ 100000) (hBw : B0 ≤ w.heap.size) : Calls Tryz.prog 82 #[.int .i64 (n : Int), .int .i64 1, .pointer (some ⟨b, 0, none⟩)] w fun e w' => (∃ v, e = .returned v) ∧ UB B0 b (l ++ zS n 1) w' ∧ Below B0 w w' ∧ KB b w w' := by
 have B := Below.refl w.heap.size w
 go_enter Tryz.func82, Tryz.ntmps82
 go_upto_region 0 with fail
 refine wp_region_lit ?_
 refine zy 2 ?_
 refine qT (enters_of Tryz.func84 (by kernel_rfl) rfl) (c := za5 n (by omega) _) (h := ?_)
 rintro e wn ⟨rfl, za⟩
 have zf := B.size
 have zg := za.size
 replace B := B.trans (za.mono B.size)
 replace h := h.below za
 refine ⟨_, rfl, ?_⟩
 simp only [zn]
 refine qT (enters_of Tryz.func83 (by kernel_rfl) rfl) (c := zda B0 b l _ wn h (by rw [qm, zx]; omega) (by have := B.size; omega)) (h := ?_)
 rintro e wm ⟨⟨v, rfl⟩, hu, zl, hkm⟩
 rw [wE] at hu
 refine ⟨_, rfl, ?_⟩
 simp only [zn]
 refine wpList_nil ?_
 go_wp2
 go_end0
 refine ⟨⟨_, rfl⟩, hu, (B.mono hBw).trans zl, (KB.below B).trans hkm⟩
theorem zeR (B0 b : Nat) (l : List UInt8) (n : Nat) (w : World) (h : UB B0 b l w) (hn : n < 16777216) (hlen : l.length ≤ 100000) (hBw : B0 ≤ w.heap.size) : Calls Tryz.prog 82 #[.int .i64 (n : Int), .int .i64 2, .pointer (some ⟨b, 0, none⟩)] w fun e w' => (∃ v, e = .returned v) ∧ UB B0 b (l ++ zS n 2) w' ∧ Below B0 w w' ∧ KB b w w' := by
 have B := Below.refl w.heap.size w
 go_enter Tryz.func82, Tryz.ntmps82
 go_upto_region 0 with fail
 refine wp_region_lit ?_
 refine zy 2 ?_
 refine qT (enters_of Tryz.func84 (by kernel_rfl) rfl) (c := zeM n (by omega) _) (h := ?_)
 rintro e wn ⟨rfl, za⟩
 have zf := B.size
 have zg := za.size
 replace B := B.trans (za.mono B.size)
 replace h := h.below za
 refine ⟨_, rfl, ?_⟩
 simp only [zn]
 refine qT (enters_of Tryz.func83 (by kernel_rfl) rfl) (c := zda B0 b l _ wn h (by rw [qm, zx]; omega) (by have := B.size; omega)) (h := ?_)
 rintro e wm ⟨⟨v, rfl⟩, hu, zl, hkm⟩
 rw [wE] at hu
 refine ⟨_, rfl, ?_⟩
 simp only [zn]
 refine wpList_nil ?_
 go_wp2
 go_end0
 refine ⟨⟨_, rfl⟩, hu, (B.mono hBw).trans zl, (KB.below B).trans hkm⟩
theorem zeS (B0 b : Nat) (l : List UInt8) (n : Nat) (w : World) (h : UB B0 b l w) (hn : n < 16777216) (hlen : l.length ≤ 100000) (hBw : B0 ≤ w.heap.size) : Calls Tryz.prog 82 #[.int .i64 (n : Int), .int .i64 3, .pointer (some ⟨b, 0, none⟩)] w fun e w' => (∃ v, e = .returned v) ∧ UB B0 b (l ++ zS n 3) w' ∧ Below B0 w w' ∧ KB b w w' := by
 have B := Below.refl w.heap.size w
 go_enter Tryz.func82, Tryz.ntmps82
 go_upto_region 0 with fail
 refine wp_region_lit ?_
 refine zy 2 ?_
 refine qT (enters_of Tryz.func84 (by kernel_rfl) rfl) (c := zeN n (by omega) _) (h := ?_)
 rintro e wn ⟨rfl, za⟩
 have zf := B.size
 have zg := za.size
 replace B := B.trans (za.mono B.size)
 replace h := h.below za
 refine ⟨_, rfl, ?_⟩
 simp only [zn]
 refine qT (enters_of Tryz.func83 (by kernel_rfl) rfl) (c := zda B0 b l _ wn h (by rw [qm, zx]; omega) (by have := B.size; omega)) (h := ?_)
 rintro e wm ⟨⟨v, rfl⟩, hu, zl, hkm⟩
 rw [wE] at hu
 refine ⟨_, rfl, ?_⟩
 simp only [zn]
 refine wpList_nil ?_
 go_wp2
 go_end0
 refine ⟨⟨_, rfl⟩, hu, (B.mono hBw).trans zl, (KB.below B).trans hkm⟩
end Go.Proofs.YtepelndbbhdofaaGreatDoor
/- Plain: strokes as bytes. -/
namespace Go.Proofs.YtepelndbbhdofaaGreatDoor
open Go.RowKit Pl Sha
set_option linter.unusedVariables false
set_option linter.unusedSimpArgs false
/-- A number, big endian. -/
def beN (l : List UInt8) : Nat := l.foldl (fun n b => 256 * n + b.toNat) 0
theorem uz (l : List UInt8) (b : UInt8) : beN (l ++ [b]) = 256 * beN l + b.toNat := by unfold beN; rw [List.foldl_append]; rfl
theorem JB {P : List UInt8 → Prop} (h0 : P []) (h1 : ∀ l b, P l → P (l ++ [b])) : ∀ l, P l := fun l => by
 rw [← List.reverse_reverse l]
 induction l.reverse with
 | nil => exact h0
 | cons b r ih => rw [List.reverse_cons]; exact h1 _ _ ih
theorem vh (l : List UInt8) : beN l < 256 ^ l.length := by
 induction l using JB with
 | h0 => show 0 < 256 ^ 0; decide
 | h1 l b ih =>
  rw [uz, List.length_append, List.length_singleton, Nat.pow_succ]; have := b.toNat_lt; omega
theorem zdr (l : List UInt8) : zS (beN l) l.length = l := by
 induction l using JB with
 | h0 => rfl
 | h1 l b ih =>
  rw [uz, List.length_append, List.length_singleton]; have hb := b.toNat_lt; have e1 : (256 * beN l + b.toNat) / 256 = beN l := by omega
  have e2 : UInt8.ofNat (256 * beN l + b.toNat) = b := by
   apply UInt8.toNat_inj.1
   rw [UInt8.toNat_ofNat']; omega
  show zS ((256 * beN l + b.toNat) / 256) l.length ++ [UInt8.ofNat (256 * beN l + b.toNat)] = _
  rw [e1, e2, ih]
theorem yA : ∀ (m n : Nat), n < 256 ^ m → beN (zS n m) = n
  | 0, n, h => by have : n = 0 := by simpa using h
                  subst this; rfl
  | m + 1, n, h => by
    rw [Nat.pow_succ] at h; show beN (zS (n / 256) m ++ [UInt8.ofNat n]) = n
    rw [uz, yA m (n / 256) (by omega), UInt8.toNat_ofNat']; omega
def qw (l : List UInt8) (i m : Nat) : List UInt8 := (l.drop i).take m
theorem yL {l : List UInt8} {i m : Nat} (h : i + m ≤ l.length) : (qw l i m).length = m := by unfold qw; rw [List.length_take, List.length_drop]; omega
theorem yk (l : List UInt8) (i m k : Nat) : qw l i (m + k) = qw l i m ++ qw l (i + m) k := by
 unfold qw
 rw [List.take_add, List.drop_drop]
theorem yl {l A B C : List UInt8} {i m : Nat} (h : l = A ++ B ++ C) (hi : A.length = i) (hm : B.length = m) : qw l i m = B := by
 subst h hi hm
 unfold qw
 rw [List.append_assoc, List.drop_left, List.take_left]
theorem zcQ (l : List UInt8) : qw l 0 l.length = l := by unfold qw; rw [List.drop_zero, List.take_length]
theorem XE {l : List UInt8} {i m j : Nat} (hj : j < m) : (qw l i m)[j]? = l[i + j]? := by
 unfold qw
 rw [List.getElem?_take, if_pos hj, List.getElem?_drop]
def KU (p : Sp) : List UInt8 := zS (p.x + 1048576).toNat 3 ++ zS (p.y + 1048576).toNat 3 ++ zS p.p.toNat 1
def jP (l : List Sp) : List UInt8 := l.flatMap KU
def qZ (c : Px) : List UInt8 := [bt c.r, bt c.g, bt c.b, bt c.a]
def yT (s : qS) : Nat := if s.era = true then 1 else 0
def vR (s : qS) : List UInt8 := zS s.rad.toNat 2 ++ zS s.spa.toNat 2 ++ qZ s.col ++ zS (yT s) 1 ++ zS s.pha.toNat 3
def qL (s : qS) : List UInt8 := zS s.pts.length 1 ++ jP s.pts ++ vR s
def jh (s : qS) : List UInt8 := if ju s = true then qL s else []
theorem zd6 (p : Sp) : (KU p).length = 7 := by unfold KU; simp only [List.length_append, zx]
theorem yg (l : List Sp) : (jP l).length = 7 * l.length := by
 induction l with
 | nil => rfl
 | cons p r ih =>
  show (KU p ++ jP r).length = _
  rw [List.length_append, zd6, ih, List.length_cons]; omega
theorem Zw (a b : List Sp) : jP (a ++ b) = jP a ++ jP b := List.flatMap_append
theorem Ju (a : List Sp) (p : Sp) : jP (a ++ [p]) = jP a ++ KU p := by
 rw [Zw]
 show jP a ++ (KU p ++ []) = _
 rw [List.append_nil]
theorem zar (s : qS) : (vR s).length = 12 := by unfold vR qZ; simp only [List.length_append, zx, List.length_cons, List.length_nil]
theorem vi (s : qS) : (qL s).length = 13 + 7 * s.pts.length := by
 unfold qL
 rw [List.length_append, List.length_append, zx, yg, zar]
 omega
/-! ### Reading -/
def xV (l : List UInt8) : Nat := beN (qw l 0 1)
def wg (l : List UInt8) (i : Nat) : Sp := ⟨(beN (qw l (1 + 7 * i) 3) : Int) - 1048576, (beN (qw l (4 + 7 * i) 3) : Int) - 1048576, (beN (qw l (7 + 7 * i) 1) : Int)⟩
def Qz (l : List UInt8) (e : Nat) : Px := ⟨((l.getD e 0).toNat : Int), ((l.getD (e + 1) 0).toNat : Int), ((l.getD (e + 2) 0).toNat : Int), ((l.getD (e + 3) 0).toNat : Int)⟩
def pkS (l : List UInt8) (n : Nat) : qS := ⟨(List.range n).map (wg l), (beN (qw l (1 + 7 * n) 2) : Int), (beN (qw l (3 + 7 * n) 2) : Int), Qz l (5 + 7 * n), decide (beN (qw l (9 + 7 * n) 1) = 1), (beN (qw l (10 + 7 * n) 3) : Int)⟩
def kt (l : List UInt8) : qS := pkS l (xV l)
def Z8 : qS := ⟨[], 0, 0, Px.zero, false, 0⟩
def xQ (l : List UInt8) : qS × Int := if l.length < 13 + 7 * xV l then (Z8, 10) else if jh (kt l) = l then (kt l, 0) else (Z8, 11)
theorem V8 (l : List UInt8) (e : Nat) : (Qz l e).ok := by
 unfold Qz
 have h : ∀ b : UInt8, 0 ≤ (b.toNat : Int) ∧ (b.toNat : Int) ≤ 255 := fun b => by have := b.toNat_lt; omega
 exact ⟨h _, h _, h _, h _⟩
theorem ze1 (b : UInt8) : bt (b.toNat : Int) = b := by
 unfold bt
 apply UInt8.toNat_inj.1
 rw [UInt8.toNat_ofNat', Int.toNat_natCast]
 have := b.toNat_lt
 omega
theorem kx {l : List UInt8} {i m : Nat} (h : i + m ≤ l.length) : zS (beN (qw l i m)) m = qw l i m := by
 have := zdr (qw l i m)
 rwa [yL h] at this
theorem zd7 {l : List UInt8} {i : Nat} (h : 8 + 7 * i ≤ l.length) : KU (wg l i) = qw l (1 + 7 * i) 7 := by
 have e1 : ((beN (qw l (1 + 7 * i) 3) : Int) - 1048576 + 1048576).toNat = beN (qw l (1 + 7 * i) 3) := by omega
 have e2 : ((beN (qw l (4 + 7 * i) 3) : Int) - 1048576 + 1048576).toNat = beN (qw l (4 + 7 * i) 3) := by omega
 show zS (_ : Int).toNat 3 ++ zS (_ : Int).toNat 3 ++ zS (_ : Int).toNat 1 = _
 unfold wg
 simp only
 rw [e1, e2, Int.toNat_natCast, kx (by omega), kx (by omega), kx (by omega), show (7 : Nat) = 3 + 3 + 1 from rfl, yk, yk]
 rw [show 1 + (3 + 3 + 1) * i + 3 = 4 + 7 * i by omega, show 1 + (3 + 3 + 1) * i + (3 + 3) = 7 + 7 * i by omega]
theorem YH {l : List UInt8} : ∀ (k : Nat), 1 + 7 * k ≤ l.length → jP ((List.range k).map (wg l)) = qw l 1 (7 * k)
 | 0, _ => by
  unfold qw; rw [Nat.mul_zero, List.take_zero]
  rfl
 | k + 1, h => by
  rw [List.range_succ, List.map_append]; show jP (_ ++ [wg l k]) = _
  rw [Ju, YH k (by omega), zd7 (by omega), show 7 * (k + 1) = 7 * k + 7 by omega, yk]
theorem zbs {l : List UInt8} {e : Nat} (h : e + 4 ≤ l.length) : qZ (Qz l e) = qw l e 4 := by
 unfold qZ Qz
 simp only [ze1]
 apply List.ext_getElem?
 intro j
 by_cases hj : j < 4
 ·rw [XE hj]
  have g : ∀ i, i < l.length → some (l.getD i 0) = l[i]? := fun i hi => by rw [List.getD_eq_getElem?_getD, List.getElem?_eq_getElem hi]; rfl
  have hc : j = 0 ∨ j = 1 ∨ j = 2 ∨ j = 3 := by omega
  rcases hc with rfl | rfl | rfl | rfl
  ·exact g _ (by omega)
  ·exact g _ (by omega)
  ·exact g _ (by omega)
  ·exact g _ (by omega)
 ·rw [List.getElem?_eq_none (by simp; omega), List.getElem?_eq_none (by rw [yL h]; omega)]
theorem WJ {l : List UInt8} (h : l.length = 13 + 7 * xV l) (hb : beN (qw l (9 + 7 * xV l) 1) ≤ 1) : qL (kt l) = l := by
 obtain ⟨n, hn⟩ : ∃ n, xV l = n := ⟨_, rfl⟩
 unfold kt
 rw [hn] at h hb ⊢
 have e0 : zS n 1 = qw l 0 1 := by rw [← hn]; exact kx (by omega)
 have e6 : zS (yT (pkS l n)) 1 = qw l (9 + 7 * n) 1 := by
  rw [← kx (l := l) (i := 9 + 7 * n) (m := 1) (by omega)]
  congr 1
  unfold yT pkS; simp only [decide_eq_true_eq]; split
  ·rename_i q; rw [q]
  ·omega
 unfold qL vR
 rw [e6]
 show zS ((List.range n).map (wg l)).length 1 ++ jP ((List.range n).map (wg l)) ++ (zS (Int.toNat _) 2 ++ zS (Int.toNat _) 2 ++ qZ (Qz l (5 + 7 * n)) ++ _ ++ zS (Int.toNat _) 3) = l
 rw [List.length_map, List.length_range, e0, YH n (by omega), zbs (by omega)]
 unfold pkS
 simp only [Int.toNat_natCast]
 rw [kx (by omega), kx (by omega), kx (by omega)]
 have s1 := yk l 0 1 (7 * n)
 have s2 := yk l 0 (1 + 7 * n) 2
 have s3 := yk l 0 (1 + 7 * n + 2) 2
 have s4 := yk l 0 (1 + 7 * n + 2 + 2) 4
 have s5 := yk l 0 (1 + 7 * n + 2 + 2 + 4) 1
 have s6 := yk l 0 (1 + 7 * n + 2 + 2 + 4 + 1) 3
 have sa := zcQ l
 rw [h, show 13 + 7 * n = 1 + 7 * n + 2 + 2 + 4 + 1 + 3 by omega, s6, s5, s4, s3, s2, s1] at sa
 rw [show 0 + (1 + 7 * n) = 1 + 7 * n by omega, show 0 + 1 = 1 from rfl, show 0 + (1 + 7 * n + 2) = 3 + 7 * n by omega, show 0 + (1 + 7 * n + 2 + 2) = 5 + 7 * n by omega, show 0 + (1 + 7 * n + 2 + 2 + 4) = 9 + 7 * n by omega, show 0 + (1 + 7 * n + 2 + 2 + 4 + 1) = 10 + 7 * n by omega] at sa
 rw [← List.append_assoc, ← List.append_assoc, ← List.append_assoc, ← List.append_assoc]
 exact sa
theorem WI {s : qS} (h : jh s ≠ []) : ju s = true := by
 unfold jh at h
 split at h
 ·assumption
 ·exact absurd rfl h
theorem VE (s : qS) : yT s ≤ 1 := by unfold yT; split <;> omega
theorem Qk (s : qS) : qw (qL s) (9 + 7 * s.pts.length) 1 = zS (yT s) 1 :=
 yl (A := zS s.pts.length 1 ++ jP s.pts ++ (zS s.rad.toNat 2 ++ zS s.spa.toNat 2 ++ qZ s.col)) (C := zS s.pha.toNat 3) (by unfold qL vR; simp only [List.append_assoc]) (by simp only [List.length_append, zx, yg, qZ, List.length_cons, List.length_nil]; omega) (zx _ _)
theorem Yy (l : List UInt8) : (kt l).pts.length = xV l := by
 show ((List.range _).map _).length = _
 rw [List.length_map, List.length_range]
theorem zcu {l : List UInt8} (h : 13 + 7 * xV l ≤ l.length) : jh (kt l) = l ↔ ju (kt l) = true ∧ beN (qw l (9 + 7 * xV l) 1) ≤ 1 ∧ l.length = 13 + 7 * xV l := by
 constructor
 ·intro e
  have hv : ju (kt l) = true := WI (by rw [e]; intro hl; rw [hl] at h; simp at h)
  have e2 : qL (kt l) = l := by unfold jh at e; rw [if_pos hv] at e; exact e
  have hl := vi (kt l); have he := Qk (kt l); rw [e2, Yy] at hl he; refine ⟨hv, ?_, hl⟩; have := VE (kt l); rw [he, yA 1 _ (by omega)]; exact this
 ·rintro ⟨hv, hb, hl⟩
  unfold jh; rw [if_pos hv]; exact WJ hl hb
/-! ### Reading what was written -/
theorem X6 (s : qS) (h : s.pts.length ≤ 255) : xV (qL s) = s.pts.length := by
 unfold xV
 rw [yl (i := 0) (m := 1) (A := []) (B := zS s.pts.length 1) (C := jP s.pts ++ vR s) (by unfold qL; simp only [List.append_assoc, List.nil_append]) rfl (zx _ _)]
 exact yA 1 _ (by omega)
theorem WH {s : qS} {i : Nat} {p : Sp} (h : s.pts[i]? = some p) (ok : Zv p) : wg (qL s) i = p := by
 have hi : i < s.pts.length := (List.getElem?_eq_some_iff.1 h).1
 have e : s.pts = s.pts.take i ++ (p :: s.pts.drop (i + 1)) := by
  have := List.take_append_drop i s.pts; rw [List.drop_eq_getElem_cons hi] at this; have hp : s.pts[i] = p := (List.getElem?_eq_some_iff.1 h).2; rw [hp] at this; exact this.symm
 have e2 : qL s = zS s.pts.length 1 ++ jP (s.pts.take i) ++ KU p ++ (jP (s.pts.drop (i + 1)) ++ vR s) := by
  have e3 : jP s.pts = jP (s.pts.take i) ++ (KU p ++ jP (s.pts.drop (i + 1))) := by
   conv => lhs; rw [e]
   rw [Zw]
   rfl
  unfold qL; rw [e3]; simp only [List.append_assoc]
 have hA : (zS s.pts.length 1 ++ jP (s.pts.take i)).length = 1 + 7 * i := by rw [List.length_append, zx, yg, List.length_take]; omega
 obtain ⟨o1, o2, o3, o4, o5, o6⟩ := ok
 have h1 : qw (qL s) (1 + 7 * i) 3 = zS (p.x + 1048576).toNat 3 := yl (A := zS s.pts.length 1 ++ jP (s.pts.take i)) (C := zS (p.y + 1048576).toNat 3 ++ (zS p.p.toNat 1 ++ (jP (s.pts.drop (i + 1)) ++ vR s))) (by rw [e2]; unfold KU; simp only [List.append_assoc]) hA (zx _ _)
 have h2 : qw (qL s) (4 + 7 * i) 3 = zS (p.y + 1048576).toNat 3 := yl (A := zS s.pts.length 1 ++ jP (s.pts.take i) ++ zS (p.x + 1048576).toNat 3) (C := zS p.p.toNat 1 ++ (jP (s.pts.drop (i + 1)) ++ vR s)) (by rw [e2]; unfold KU; simp only [List.append_assoc]) (by rw [List.length_append, hA, zx]; omega) (zx _ _)
 have h3 : qw (qL s) (7 + 7 * i) 1 = zS p.p.toNat 1 := yl (A := zS s.pts.length 1 ++ jP (s.pts.take i) ++ zS (p.x + 1048576).toNat 3 ++ zS (p.y + 1048576).toNat 3) (C := jP (s.pts.drop (i + 1)) ++ vR s) (by rw [e2]; unfold KU; simp only [List.append_assoc]) (by rw [List.length_append, List.length_append, hA, zx, zx]; omega) (zx _ _)
 unfold wg
 rw [h1, h2, h3, yA 3 _ (by omega), yA 3 _ (by omega), yA 1 _ (by omega)]
 obtain ⟨x, y, z⟩ := p
 simp only at o1 o2 o3 o4 o5 o6 ⊢
 congr 1 <;> omega
theorem zae {s : qS} (h : JW s) (hc : s.col.ok) : kt (qL s) = s := by
 have hl1 := h.l1
 have hl2 := h.l2
 unfold kt
 rw [X6 s (by omega)]
 have hpts : (List.range s.pts.length).map (wg (qL s)) = s.pts := by
  apply List.ext_getElem?
  intro i; rw [List.getElem?_map]; by_cases hi : i < s.pts.length
  ·rw [List.getElem?_range hi, List.getElem?_eq_getElem hi]
   show some _ = some _
   congr 1
   exact WH (List.getElem?_eq_getElem hi) (h.ok _ (List.getElem_mem hi))
  ·rw [List.getElem?_eq_none (by rw [List.length_range]; omega), List.getElem?_eq_none (by omega)]
   rfl
 have hH : (zS s.pts.length 1 ++ jP s.pts).length = 1 + 7 * s.pts.length := by rw [List.length_append, zx, yg]
 have h1 : qw (qL s) (1 + 7 * s.pts.length) 2 = zS s.rad.toNat 2 := yl (A := zS s.pts.length 1 ++ jP s.pts) (C := zS s.spa.toNat 2 ++ (qZ s.col ++ (zS (yT s) 1 ++ zS s.pha.toNat 3))) (by unfold qL vR; simp only [List.append_assoc]) hH (zx _ _)
 have h2 : qw (qL s) (3 + 7 * s.pts.length) 2 = zS s.spa.toNat 2 := yl (A := zS s.pts.length 1 ++ jP s.pts ++ zS s.rad.toNat 2) (C := qZ s.col ++ (zS (yT s) 1 ++ zS s.pha.toNat 3)) (by unfold qL vR; simp only [List.append_assoc]) (by rw [List.length_append, hH, zx]; omega) (zx _ _)
 have h3 : qw (qL s) (5 + 7 * s.pts.length) 4 = qZ s.col := yl (A := zS s.pts.length 1 ++ jP s.pts ++ zS s.rad.toNat 2 ++ zS s.spa.toNat 2) (C := zS (yT s) 1 ++ zS s.pha.toNat 3) (by unfold qL vR; simp only [List.append_assoc]) (by rw [List.length_append, List.length_append, hH, zx, zx]; omega) rfl
 have h4 := Qk s
 have h5 : qw (qL s) (10 + 7 * s.pts.length) 3 = zS s.pha.toNat 3 := yl (A := zS s.pts.length 1 ++ jP s.pts ++ (zS s.rad.toNat 2 ++ zS s.spa.toNat 2 ++ qZ s.col ++ zS (yT s) 1)) (C := []) (by unfold qL vR; simp only [List.append_assoc, List.append_nil]) (by simp only [List.length_append, zx, yg, qZ, List.length_cons, List.length_nil]; omega) (zx _ _)
 have hcol : Qz (qL s) (5 + 7 * s.pts.length) = s.col := by
  have g : ∀ (j : Nat) (x : Int), j < 4 → (qZ s.col)[j]? = some (bt x) → 0 ≤ x ∧ x ≤ 255 → (((qL s).getD (5 + 7 * s.pts.length + j) 0).toNat : Int) = x := fun j x hj hx hb => by
   rw [← h3, XE hj] at hx; rw [List.getD_eq_getElem?_getD, hx]; exact (kF hb).symm
  obtain ⟨c1, c2, c3, c4⟩ := hc; have g0 := g 0 _ (by omega) rfl c1; have g1 := g 1 _ (by omega) rfl c2; have g2 := g 2 _ (by omega) rfl c3; have g3 := g 3 _ (by omega) rfl c4; rw [Nat.add_zero] at g0; unfold Qz; rw [g0, g1, g2, g3]
 have r1 := h.r1
 have r2 := h.r2
 have s1 := h.s1
 have s2 := h.s2
 have p1 := h.p1
 have p2 := h.p2
 unfold pkS
 rw [hpts, h1, h2, h4, h5, hcol, yA 2 _ (by omega), yA 2 _ (by omega), yA 3 _ (by omega), yA 1 _ (by have := VE s; omega)]
 obtain ⟨ps, r, sp, c, er, ph⟩ := s
 simp only at r1 r2 s1 s2 p1 p2 ⊢
 have e1 : (decide (yT ⟨ps, r, sp, c, er, ph⟩ = 1)) = er := by unfold yT; cases er <;> rfl
 rw [e1]
 congr 1 <;> omega
theorem QI {s : qS} (h : JW s) (hc : s.col.ok) : xQ (jh s) = (s, 0) := by
 have hb : jh s = qL s := if_pos ((jR s).2 h)
 have hp := zae h hc
 have hn := X6 s (by have := h.l2; omega)
 unfold xQ
 rw [hb, hp, hn, vi, if_neg (by omega), hb, if_pos rfl]
theorem vq {l : List UInt8} (h : l.length < 13 + 7 * xV l) : xQ l = (Z8, 10) := if_pos h
theorem wP {l : List UInt8} (h : ¬ l.length < 13 + 7 * xV l) (k : ¬ jh (kt l) = l) : xQ l = (Z8, 11) := by unfold xQ; rw [if_neg h, if_neg k]
theorem Wf {l : List UInt8} (h : ¬ l.length < 13 + 7 * xV l) (k : jh (kt l) = l) : xQ l = (kt l, 0) := by unfold xQ; rw [if_neg h, if_pos k]
theorem zcv {l : List UInt8} {s : qS} (h : xQ l = (s, 0)) : jh s = l := by
 unfold xQ at h
 split at h
 ·cases h
 ·split at h
  ·rename_i k
   injection h with h1 h2
   rw [← h1]; exact k
  ·cases h
end Go.Proofs.YtepelndbbhdofaaGreatDoor
/- Plain: polygons: which rays cross an edge, the coverage of a pixel, the rectangle from the least to the greatest coordinates. -/
namespace Go.Proofs.YtepelndbbhdofaaGreatDoor
open Go.RowKit Pl
set_option linter.unusedVariables false
set_option linter.unusedSimpArgs false
abbrev wD := Int × Int
def zf7 (p : wD) : Bool := decide (p.1 < -65536 ∨ p.2 < -65536 ∨ 65536 < p.1 ∨ 65536 < p.2)
def zhq (l : List wD) : Prop := ∀ p ∈ l, zf7 p = false
def zcU (l : List wD) : Bool := decide (3 ≤ l.length ∧ l.length ≤ 64) && l.all fun p => !zf7 p
/-- The ray from (u, v) to the right crosses the edge from a up to b. -/
def zf3 (a b : wD) (u v : Int) : Bool := decide (a.2 ≤ v ∧ v < b.2 ∧ (u - a.1) * (b.2 - a.2) < (b.1 - a.1) * (v - a.2))
def crs (a b : wD) (u v : Int) : Bool := if b.2 < a.2 then zf3 b a u v else zf3 a b u v
def pt8 (p : wD) : wD := (8 * p.1, 8 * p.2)
def ptG (l : List wD) (i : Nat) : wD := l.getD i (0, 0)
def zf6 (l : List wD) (u v : Int) (i : Nat) : Bool := crs (pt8 (ptG l i)) (pt8 (ptG l ((i + 1) % l.length))) u v
/-- The parity of a sequence of answers. -/
def zgn (f : Nat → Bool) : Nat → Bool
 | 0 => false
 | k + 1 => Bool.xor (zgn f k) (f k)
def zgX (l : List wD) (u v : Int) : Bool := zgn (zf6 l u v) l.length
def zg4 (l : List wD) (x y : Int) (i : Nat) : Bool := zgX l (8 * x + 2 * ((i : Int) % 4) + 1) (8 * y + 2 * ((i : Int) / 4) + 1)
def zfY (f : Nat → Bool) : Nat → Nat
 | 0 => 0
 | k + 1 => zfY f k + (if f k = true then 1 else 0)
def zgM (n : Nat) : Int := (255 * (n : Int) + 8) / 16
def zf0 (l : List wD) (x y : Int) : Int := zgM (zfY (zg4 l x y) 16)
/-! ### The rectangle from the least to the greatest coordinates -/
def VI (r : Rc) (p : wD) : Rc := ⟨min r.x0 p.1, min r.y0 p.2, max r.x1 p.1, max r.y1 p.2⟩
def ptR (p : wD) : Rc := ⟨p.1, p.2, p.1, p.2⟩
def zgf : List wD → Rc
 | [] => Rc.zero
 | p :: r => r.foldl VI (ptR p)
/-- Each point lies within the rectangle; each side bears one. -/
structure Kh (r : Rc) (l : List wD) : Prop where
 h1 : ∀ p ∈ l, r.x0 ≤ p.1 ∧ p.1 ≤ r.x1 ∧ r.y0 ≤ p.2 ∧ p.2 ≤ r.y1
 l1 : ∃ p ∈ l, p.1 = r.x0
 l2 : ∃ p ∈ l, p.1 = r.x1
 l3 : ∃ p ∈ l, p.2 = r.y0
 l4 : ∃ p ∈ l, p.2 = r.y1
theorem Kh.grow {r : Rc} {l : List wD} (h : Kh r l) (p : wD) : Kh (VI r p) (l ++ [p]) := by
 obtain ⟨h1, ⟨a, ha, ea⟩, ⟨b, hb, eb⟩, ⟨c, hc, ec⟩, ⟨d, hd, ed⟩⟩ := h
 have hp : p ∈ l ++ [p] := List.mem_append_right _ (List.mem_cons_self ..)
 have hl : ∀ {q}, q ∈ l → q ∈ l ++ [p] := fun hq => List.mem_append_left _ hq
 unfold VI
 constructor
 ·intro q hq
  show min r.x0 p.1 ≤ q.1 ∧ q.1 ≤ max r.x1 p.1 ∧ min r.y0 p.2 ≤ q.2 ∧ q.2 ≤ max r.y1 p.2
  rcases List.mem_append.1 hq with hq | hq
  ·have := h1 q hq; omega
  ·obtain rfl : q = p := by simpa using hq
   omega
 ·show ∃ q ∈ l ++ [p], q.1 = min r.x0 p.1
  by_cases h : r.x0 ≤ p.1
  ·exact ⟨a, hl ha, by omega⟩
  ·exact ⟨p, hp, by omega⟩
 ·show ∃ q ∈ l ++ [p], q.1 = max r.x1 p.1
  by_cases h : p.1 ≤ r.x1
  ·exact ⟨b, hl hb, by omega⟩
  ·exact ⟨p, hp, by omega⟩
 ·show ∃ q ∈ l ++ [p], q.2 = min r.y0 p.2
  by_cases h : r.y0 ≤ p.2
  ·exact ⟨c, hl hc, by omega⟩
  ·exact ⟨p, hp, by omega⟩
 ·show ∃ q ∈ l ++ [p], q.2 = max r.y1 p.2
  by_cases h : p.2 ≤ r.y1
  ·exact ⟨d, hl hd, by omega⟩
  ·exact ⟨p, hp, by omega⟩
/-- What the program's loop has behind k points; its first round takes the first point anew. -/
def zhm (l : List wD) (k : Nat) : Rc := (l.take k).foldl VI (ptR (ptG l 0))
def ze0 (l : List wD) : Rc := if zcU l = true then vE (zgf l) else Rc.zero
/-! ### A pixel outside of the rectangle is not covered -/
def zgN (l : List wD) (x y : Int) : Int := if jH (ze0 l) x y = true then zf0 l x y else 0
def zgO (l : List wD) (x y : Int) : Int := if zcU l = true ∧ -70000 ≤ x ∧ -70000 ≤ y ∧ x ≤ 70000 ∧ y ≤ 70000 then zf0 l x y else 0
/- Plain: a polygon shifted, turned round, told from another point or in the other order: the same coverage. -/
def shp (d : wD) (p : wD) : wD := (p.1 + d.1, p.2 + d.2)
/-- The list of the points at k, k + 1 .. of another one, shifted. -/
def zia (l : List wD) (k : Nat) (d : wD) : List wD := (List.range l.length).map fun i => shp d (ptG l ((i + k) % l.length))
def zh9 (l : List wD) (k : Nat) : List wD := (List.range l.length).map fun i => ptG l ((l.length + k - i) % l.length)
/-! ### The polygon that numbers describe -/
def zgk (q : List Int) (i : Nat) : Int := q.getD i 0
def zgp (q : List Int) : Nat := min (q.length / 2) 12
def zgq (q : List Int) (j : Nat) : wD := (zgk q (2 * j) % 28 - 8, zgk q (2 * j + 1) % 28 - 8)
def zgo (q : List Int) (k : Nat) : List wD := (List.range k).map (zgq q)
def zht (q : List Int) : List wD := zgo q (zgp q)
end Go.Proofs.YtepelndbbhdofaaGreatDoor
/- Slices of points; calls of function values. -/
namespace Go.Proofs.YtepelndbbhdofaaGreatDoor
open Go.RowKit Go.Shelf Pl
set_option linter.unusedVariables false
set_option linter.unusedSimpArgs false
set_option maxRecDepth 20000
section
variable {P : Program} {ops : Array Oper} {Q : Exit → Act → World → Prop} {w : World}
theorem Ke {g : FuncId} {x : Operand} {xs : Array Operand} {ats : Array TypeId} {o : Oper} {a : Act} {K : Act → World → Prop} {vals lb : Array Value} (ho : o.op = .call { callee := .value x, args := xs, argTypes := ats }) (hx : a.eval x = .func (.func g) #[] lb) (eg : Go.Proofs.Enters P g) (hv : xs.map a.eval = vals)
  (h : Calls P g (vals ++ lb) w fun e w' => ∃ v, e = .returned v ∧ K (a.put o.dst v) w') : o.wp P a w K Q := by
 subst hv
 obtain ⟨dst, op, ty, pos, after, guard⟩ := o
 simp only at ho
 subst ho
 unfold Oper.wp
 have key : ∀ ρ : Operand → Value, ρ x = .func (.func g) #[] lb → (execOp ρ { dst, op := .call { callee := .value x, args := xs, argTypes := ats }, type := ty, pos, after, guard : Oper }).run P w = .ok (.enter g (xs.map ρ ++ lb)) w := fun ρ hρ => by
  have := eg (xs.map ρ ++ lb) w; simp [go_sem, hρ, this]
 rw [key a.eval hx]
 exact Calls.mono h fun e w' ⟨v, he, hk⟩ => by subst he; exact hk
theorem qO {g : FuncId} {x : Operand} {xs : Array Operand} {ats : Array TypeId} {o : Oper} {r : List Oper} {a : Act} {vals lb : Array Value} (hw : Region.wanted o (yielded ops a.tmps) = true) (ho : o.op = .call { callee := .value x, args := xs, argTypes := ats }) (hx : a.eval x = .func (.func g) #[] lb) (eg : Go.Proofs.Enters P g) (hv : xs.map a.eval = vals)
  (h : Calls P g (vals ++ lb) w fun e w' => ∃ v, e = .returned v ∧ wpList P ops Q r (a.put o.dst v) w') : wpList P ops Q (o :: r) a w := by
 unfold wpList
 rw [if_pos hw]
 exact .inl (Ke ho hx eg hv h)
theorem Kb {x y : Operand} {t : TypeId} {ty : TypeId} {o : Oper} {r : List Oper} {a : Act} {p q : Int} (hw : Region.wanted o (yielded ops a.tmps) = true) (ho : o.op = .call { callee := .builtin .min, args := #[x, y], argTypes := #[t, t] }) (hty : o.type = ty) (ht : P.underlying ty = some (.int .i64)) (hx : a.eval x = .int .i64 p) (hy : a.eval y = .int .i64 q)
  (h : wpList P ops Q r (a.put o.dst (.int .i64 (min p q))) w) : wpList P ops Q (o :: r) a w := by
 unfold wpList
 rw [if_pos hw]
 left
 obtain ⟨dst, op, type, pos, after, guard⟩ := o
 simp only at ho hty
 subst ho
 subst hty
 unfold Oper.wp
 have hu := run_underlying ht w
 have key : ∀ ρ : Operand → Value, ρ x = .int .i64 p → ρ y = .int .i64 q → (execOp ρ { dst, op := .call { callee := .builtin .min, args := #[x, y], argTypes := #[t, t] }, type, pos, after, guard : Oper }).run P w = .ok (.value (.int .i64 (min p q))) w := fun ρ h1 h2 => by
  simp [go_sem, h1, h2, hu, Builtin.min_, Builtin.min2, ht]; (split <;> omega)
 rw [key a.eval hx hy]
 exact h
end
/- Contracts of package stroke and of its reference: in, length, total. -/
theorem yN (x : Int) (b : Bool) (w : World) (e : wX x = b) : Calls Tryz.prog 53 #[.int .i64 x] w fun e w' => e = .returned (.bool b) ∧ Below w.heap.size w w' := by
 by_cases h0 : -1048576 ≤ x
 ·by_cases h1 : x < 1048576
  ·obtain rfl : b = true := by rw [← e]; unfold wX; exact decide_eq_true (by omega)
   have d0 : decide (-1048576 ≤ x) = true := decide_eq_true h0; have d1 : decide (x < 1048576) = true := decide_eq_true h1; clear e; go_enter Tryz.func53, Tryz.ntmps53
   go_wp2; go_ret; exact ⟨rfl, by go_grown⟩
  ·obtain rfl : b = false := by rw [← e]; unfold wX; exact decide_eq_false (by omega)
   have d0 : decide (-1048576 ≤ x) = true := decide_eq_true h0; have d1 : decide (x < 1048576) = false := decide_eq_false h1; clear e; go_enter Tryz.func53, Tryz.ntmps53
   go_wp2; go_ret; exact ⟨rfl, by go_grown⟩
 ·obtain rfl : b = false := by rw [← e]; unfold wX; exact decide_eq_false (by omega)
  have d0 : decide (-1048576 ≤ x) = false := decide_eq_false h0; clear e; go_enter Tryz.func53, Tryz.ntmps53
  go_wp2; go_ret; exact ⟨rfl, by go_grown⟩
theorem vg (x : Int) (b : Bool) (w : World) (e : wX x = b) : Calls Tryz.prog 55 #[.int .i64 x] w fun e w' => e = .returned (.bool b) ∧ Below w.heap.size w w' := by
 by_cases h0 : -1048576 ≤ x
 ·by_cases h1 : x ≤ 1048575
  ·obtain rfl : b = true := by rw [← e]; unfold wX; exact decide_eq_true (by omega)
   have d0 : decide (-1048576 ≤ x) = true := decide_eq_true h0; have d1 : decide (x ≤ 1048575) = true := decide_eq_true h1; clear e; go_enter Tryz.func55, Tryz.ntmps55
   go_wp2; go_ret; exact ⟨rfl, by go_grown⟩
  ·obtain rfl : b = false := by rw [← e]; unfold wX; exact decide_eq_false (by omega)
   have d0 : decide (-1048576 ≤ x) = true := decide_eq_true h0; have d1 : decide (x ≤ 1048575) = false := decide_eq_false h1; clear e; go_enter Tryz.func55, Tryz.ntmps55
   go_wp2; go_ret; exact ⟨rfl, by go_grown⟩
 ·obtain rfl : b = false := by rw [← e]; unfold wX; exact decide_eq_false (by omega)
  have d0 : decide (-1048576 ≤ x) = false := decide_eq_false h0; clear e; go_enter Tryz.func55, Tryz.ntmps55
  go_wp2; go_ret; exact ⟨rfl, by go_grown⟩
/-! ### length -/
theorem zfw {n : Nat} {l : Nat} : (decide ((n : Int) < ((l : Int) + 1) * ((l : Int) + 1))) = decide (sqN n ≤ l) := by
 rw [Bool.eq_iff_iff, decide_eq_true_iff, decide_eq_true_iff]
 have h := Xd (n := n) (s := l + 1)
 have e : ((l : Int) + 1) * ((l : Int) + 1) = (((l + 1) * (l + 1) : Nat) : Int) := by rw [Int.natCast_mul]; rfl
 rw [e]
 omega
theorem JE {n : Nat} (h : n < 17592186044416) : sqN n < 4194304 := by
 rcases Nat.lt_or_ge (sqN n) 4194304 with k | k
 ·exact k
 ·have := Xd.1 k
  omega
theorem zba (l n : Nat) (b : Nat) (r : Bool) (w : World) (n1 : zJ 3 w b #[.int .i64 (n : Int)]) (hl : l ≤ 4194304) (e : decide (sqN n ≤ l) = r) : Calls Tryz.prog 156 #[.int .i64 (l : Int), .pointer (some ⟨b, 0, none⟩)] w fun e w' => e = .returned (.bool r) ∧ Below w.heap.size w w' := by
 have B := Below.refl w.heap.size w
 have hm := jW (a := (l : Int) + 1) (b := (l : Int) + 1) (m := 4194305) (k := 4194305) (by omega) (by omega) (by omega) (by omega)
 rw [← zfw] at e
 have E := Lib.hid e
 clear e
 go_enter Tryz.func156, Tryz.ntmps156
 go_upto_region 1 with fail
 refine wp_region_lit ?_
 refine zy 8 ?_
 refine wpList_nil ?_
 go_wp2
 go_ret
 exact ⟨by (rw [← E.out]) <;> rfl, B⟩
set_option maxHeartbeats 1000000 in
theorem Ko (n : Nat) (b : Nat) (w : World) (n1 : zJ 3 w b #[.int .i64 (n : Int)]) (hn : n < 17592186044416) : Calls Tryz.prog 155 #[.int .i64 4194304, .func (.func 156) #[] #[.pointer (some ⟨b, 0, none⟩)]] w fun e w' => e = .returned (.int .i64 (sqN n : Nat)) ∧ Below w.heap.size w w' := by
 have B := Below.refl w.heap.size w
 have hs := JE hn
 obtain ⟨s, hsq⟩ : ∃ s, sqN n = s := ⟨_, rfl⟩
 rw [hsq] at hs ⊢
 have HSQ := Lib.hid hsq
 have N1 := Lib.hid n1
 clear hsq n1
 go_enter Tryz.func155, Tryz.ntmps155
 go_upto_region 1 with fail
 refine wp_region_lit ?_
 refine zy 3 ?_
 refine wpList_nil ?_
 go_wp2
 go_loopw [5, 6, 7] (fun i j _ wr => ∃ p q : Nat, p ≤ s ∧ s ≤ q ∧ q ≤ 4194304 ∧ i = .int .i64 (p : Int) ∧ j = .int .i64 (q : Int) ∧ Below w.heap.size w wr) (fun i j _ _ => (intOf j - intOf i).toNat)
 case atStart => exact ⟨0, 4194304, by omega, by omega, Nat.le_refl _, rfl, rfl, B⟩
 case round =>
  clear B; obtain ⟨p, q, h1, h2, h3, rfl, rfl, B⟩ := hrel; have n1 := N1.out.of_eq (B.block _ N1.out.lt); by_cases hpq : p < q
  ·have q1 : decide ((p : Int) < (q : Int)) = true := decide_eq_true (by omega)
   have q2 : decide (p < q) = true := decide_eq_true hpq; by_cases hcut : (p + q) / 2 < s
   ·have hm : (p + q) / 2 ≤ 4194304 := by omega
    obtain ⟨m, hmm⟩ : ∃ m, (p + q) / 2 = m := ⟨_, rfl⟩; have HQ := Lib.hid (show decide (sqN n ≤ m) = false from by rw [HSQ.out, ← hmm]; exact decide_eq_false (by omega))
    have hmi : ((p : Int) + (q : Int)) / 2 = (m : Int) := by omega
    rw [hmm] at hm hcut; have hmq : m < q := by omega
    clear hmm; go_upto_region 2 with fail
    refine wp_region_lit ?_; refine zy 3 ?_; refine wpList_nil ?_; go_upto_region 3 with fail
    refine wp_region_lit ?_; refine zy 7 ?_; refine wpList_nil ?_; try rw [hmi]
    go_upto_region 4 with fail
    refine wp_region_lit ?_; refine zy 2 ?_; refine qO (by first | rfl | simp [Region.wanted, yielded]) rfl (by simp only [Act.eval, qo]; rfl) (enters_of Tryz.func156 (by kernel_rfl) rfl) (by simp only [Act.eval, qo]; rfl) ?_
    refine (zba m n b false _ n1 hm HQ.out).mono ?_; rintro e wn ⟨rfl, za⟩; have zf := B.size; have zg := za.size; replace B := B.trans (za.mono B.size)
    (try replace n1 := n1.below za)
    refine ⟨_, rfl, ?_⟩; simp only [zn]; refine zy 1 ?_; refine wpList_nil ?_; go_upto_region 5 with fail
    refine wp_region_lit ?_; refine zy 3 ?_; refine wpList_nil ?_; go_wp2; go_roundw
    case rel => exact ⟨m + 1, q, by omega, h2, h3, by go_num, rfl, B⟩
    case measure => simp [intOf]; omega
   ·have hm : (p + q) / 2 ≤ 4194304 := by omega
    obtain ⟨m, hmm⟩ : ∃ m, (p + q) / 2 = m := ⟨_, rfl⟩; have HQ := Lib.hid (show decide (sqN n ≤ m) = true from by rw [HSQ.out, ← hmm]; exact decide_eq_true (by omega))
    have hmi : ((p : Int) + (q : Int)) / 2 = (m : Int) := by omega
    rw [hmm] at hm hcut; have hmq : p ≤ m ∧ m < q := by omega
    clear hmm; go_upto_region 2 with fail
    refine wp_region_lit ?_; refine zy 3 ?_; refine wpList_nil ?_; go_upto_region 3 with fail
    refine wp_region_lit ?_; refine zy 7 ?_; refine wpList_nil ?_; try rw [hmi]
    go_upto_region 4 with fail
    refine wp_region_lit ?_; refine zy 2 ?_; refine qO (by first | rfl | simp [Region.wanted, yielded]) rfl (by simp only [Act.eval, qo]; rfl) (enters_of Tryz.func156 (by kernel_rfl) rfl) (by simp only [Act.eval, qo]; rfl) ?_
    refine (zba m n b true _ n1 hm HQ.out).mono ?_; rintro e wn ⟨rfl, za⟩; have zf := B.size; have zg := za.size; replace B := B.trans (za.mono B.size); refine ⟨_, rfl, ?_⟩; simp only [zn]; refine zy 1 ?_; refine wpList_nil ?_; go_upto_region 6 with fail
    refine wp_region_lit ?_; refine zy 2 ?_; refine wpList_nil ?_; go_wp2; go_roundw
    case rel => exact ⟨p, m, h1, by omega, by omega, rfl, rfl, B⟩
    case measure => simp [intOf]; omega
  ·obtain rfl : p = s := by omega
   obtain rfl : q = p := by omega
   go_wp2; go_ret; exact ⟨rfl, B⟩
theorem VY (a b : Sp) : kq a b = (((kq a b).toNat : Nat) : Int) := by
 have h : 0 ≤ kq a b := by
  have h1 := YX (b.x - a.x); have h2 := YX (b.y - a.y); unfold kq; omega
 omega
set_option maxHeartbeats 1000000 in
theorem XY (a b : Sp) (t : Int) (w : World) (ha : Zv a) (hb : Zv b) (e : yd a b = t) : Calls Tryz.prog 107 #[.agg (qQ.enc a), .agg (qQ.enc b)] w fun e w' => e = .returned (.int .i64 t) ∧ Below w.heap.size w w' := by
 have B := Below.refl w.heap.size w
 obtain ⟨a1, a2, a3, a4, _, _⟩ := id ha
 obtain ⟨b1, b2, b3, b4, _, _⟩ := id hb
 have m1 := ZC (x := b.x - a.x) (m := 2097151) (by omega) (by omega)
 have m2 := ZC (x := b.y - a.y) (m := 2097151) (by omega) (by omega)
 have hq := Xi ha hb
 have HN := Lib.hid (show (b.x - a.x) * (b.x - a.x) + (b.y - a.y) * (b.y - a.y) = (((kq a b).toNat : Nat) : Int) from VY a b)
 obtain ⟨n, hn⟩ : ∃ n, (kq a b).toNat = n := ⟨_, rfl⟩
 have HS := Lib.hid (show ((sqN n : Nat) : Int) = t from by rw [← e]; unfold yd; rw [hn])
 have hn2 : n < 17592186044416 := by omega
 rw [hn] at HN
 clear e ha hb hq hn
 go_enter Tryz.func107, Tryz.ntmps107
 go_upto_region 0 with fail
 refine wp_region_lit ?_
 (refine zt (t := 43) rfl _ rfl _ rfl (z6 B ?_); clear B; intro b_r2 wn zb zd r2 za zf zk B; simp only [zn])
 (refine zt (t := 43) rfl _ rfl _ rfl (z6 B ?_); clear B; intro b_r3 wn zb zd r3 za zf zk B; (try have zh := r2.lt); (try replace r2 := r2.below (za.mono zb)); simp only [zn])
 refine zy 1 ?_
 refine wpList_nil ?_
 go_upto_region 1 with fail
 try have lx_r2 := r2.lt
 try have lx_r3 := r3.lt
 refine zF 12 [] (by kernel_rfl) (by kernel_rfl) (by kernel_rfl) ?_
 rotate_left 0
 simp only [jK, Nat.reduceAdd]
 refine vT 12 ?_
 refine zY ?_
 intro wn za hE
 have zf := B.size
 have zg := za.size
 replace B := B.trans (za.mono B.size)
 clear hE
 try simp only [List.drop_succ_cons, List.drop_zero]
 refine zN.normal ?_
 go_upto_region 2 with fail
 refine wp_region_lit ?_
 refine zy 7 ?_
 (refine zu (t := 3) rfl _ (YR _ _ rfl) (z6 B ?_); clear B; intro b_n7 wn zb zd n7 za zf zk B; (try have zh := r2.lt); (try have zh := r3.lt); simp only [zn])
 (refine jn (t := 3) rfl _ _ rfl _ 0 rfl _ rfl n7 rfl (qG B (by omega) ?_); clear n7 B; intro wn n7 ze zf zg B; simp only [zn])
 refine wpList_nil ?_
 replace n7 : zJ 3 _ b_n7 #[.int .i64 ((b.x - a.x) * (b.x - a.x) + (b.y - a.y) * (b.y - a.y))] := n7
 rw [HN.out] at n7
 go_upto_region 3 with fail
 refine wp_region_lit ?_
 (refine zV rfl (.func (.func 156) #[] #[.pointer (some ⟨b_n7, 0, none⟩)]) (by first | rfl | simp [go_sem, Act.eval]) ?_; simp only [zn])
 refine qT (enters_of Tryz.func155 (by kernel_rfl) rfl) (c := Ko n b_n7 _ n7 hn2) (h := ?_)
 rintro e wn ⟨rfl, za⟩
 have zf := B.size
 have zg := za.size
 replace B := B.trans (za.mono B.size)
 refine ⟨_, rfl, ?_⟩
 simp only [zn]
 refine zy 1 ?_
 refine wpList_nil ?_
 go_wp2
 go_ret
 exact ⟨by (rw [HS.out]) <;> rfl, B⟩
set_option maxHeartbeats 1000000 in
theorem zbj (a b : Sp) (t : Int) (w : World) (ha : Zv a) (hb : Zv b) (e : yd a b = t) : Calls Tryz.prog 60 #[.agg (qQ.enc a), .agg (qQ.enc b)] w fun e w' => e = .returned (.int .i64 t) ∧ Below w.heap.size w w' := by
 have B := Below.refl w.heap.size w
 obtain ⟨a1, a2, a3, a4, _, _⟩ := id ha
 obtain ⟨b1, b2, b3, b4, _, _⟩ := id hb
 have m1 := ZC (x := b.x - a.x) (m := 2097151) (by omega) (by omega)
 have m2 := ZC (x := b.y - a.y) (m := 2097151) (by omega) (by omega)
 have hq := Xi ha hb
 have HN := Lib.hid (show (b.x - a.x) * (b.x - a.x) + (b.y - a.y) * (b.y - a.y) = (((kq a b).toNat : Nat) : Int) from VY a b)
 obtain ⟨n, hn⟩ : ∃ n, (kq a b).toNat = n := ⟨_, rfl⟩
 have HS := Lib.hid (show ((sqN n : Nat) : Int) = t from by rw [← e]; unfold yd; rw [hn])
 have hn2 : n < 17592186044416 := by omega
 rw [hn] at HN
 have hs := JE hn2
 obtain ⟨s, hsq⟩ : ∃ s, sqN n = s := ⟨_, rfl⟩
 rw [hsq] at hs HS
 have HSQ := Lib.hid hsq
 clear e ha hb hq hn hsq
 go_enter Tryz.func60, Tryz.ntmps60
 go_upto_region 0 with fail
 refine wp_region_lit ?_
 (refine zt (t := 43) rfl _ rfl _ rfl (z6 B ?_); clear B; intro b_r2 wn zb zd r2 za zf zk B; simp only [zn])
 (refine zt (t := 43) rfl _ rfl _ rfl (z6 B ?_); clear B; intro b_r3 wn zb zd r3 za zf zk B; (try have zh := r2.lt); (try replace r2 := r2.below (za.mono zb)); simp only [zn])
 refine zy 1 ?_
 refine wpList_nil ?_
 go_upto_region 1 with fail
 refine wp_region_lit ?_
 refine zy 24 ?_
 refine wpList_nil ?_
 rw [HN.out]
 clear r2 r3
 go_wp2
 go_loopw [6, 7, 8] (fun i j _ wr => ∃ p q : Nat, p ≤ s ∧ s ≤ q ∧ q ≤ 4194304 ∧ i = .int .i64 (p : Int) ∧ j = .int .i64 (q : Int) ∧ Below w.heap.size w wr) (fun i j _ _ => (intOf j - intOf i).toNat)
 case atStart => exact ⟨0, 4194304, by omega, by omega, Nat.le_refl _, rfl, rfl, B⟩
 case round =>
  clear B; obtain ⟨p, q, h1, h2, h3, rfl, rfl, B⟩ := hrel; by_cases hpq : p < q
  ·have q1 : decide ((p : Int) < (q : Int)) = true := decide_eq_true (by omega)
   have q2 : decide (p < q) = true := decide_eq_true hpq; obtain ⟨m, hmm⟩ : ∃ m, (p + q + 1) / 2 = m := ⟨_, rfl⟩; have hmi : ((p : Int) + (q : Int) + 1) / 2 = (m : Int) := by omega
   have hmb : p < m ∧ m ≤ q ∧ 1 ≤ m := by omega
   have mm := jW (a := (m : Int)) (b := (m : Int)) (m := 4194304) (k := 4194304) (by omega) (by omega) (by omega) (by omega); have zb : ((m : Int) * (m : Int) ≤ (n : Int)) ↔ m ≤ s := by
    rw [← HSQ.out, Xd, ← Int.natCast_mul]; omega
   clear hmm; by_cases hcut : m ≤ s
   ·have q3 : decide ((m : Int) * (m : Int) ≤ (n : Int)) = true := decide_eq_true (by rw [zb]; exact hcut)
    clear zb; go_upto_region 4 with fail
    refine wp_region_lit ?_; refine zy 3 ?_; refine wpList_nil ?_; go_upto_region 5 with fail
    refine wp_region_lit ?_; refine zy 6 ?_; refine wpList_nil ?_; try rw [hmi]
    go_upto_region 6 with fail
    refine wp_region_lit ?_; refine zy 5 ?_; refine wpList_nil ?_; go_upto_region 7 with fail
    refine wp_region_lit ?_; refine zy 2 ?_; refine wpList_nil ?_; go_wp2; go_roundw
    case rel => exact ⟨m, q, hcut, h2, h3, rfl, rfl, B⟩
    case measure => simp [intOf]; omega
   ·have q3 : decide ((m : Int) * (m : Int) ≤ (n : Int)) = false := decide_eq_false (by rw [zb]; exact hcut)
    clear zb; go_upto_region 4 with fail
    refine wp_region_lit ?_; refine zy 3 ?_; refine wpList_nil ?_; go_upto_region 5 with fail
    refine wp_region_lit ?_; refine zy 6 ?_; refine wpList_nil ?_; try rw [hmi]
    go_upto_region 6 with fail
    refine wp_region_lit ?_; refine zy 5 ?_; refine wpList_nil ?_; go_upto_region 8 with fail
    refine wp_region_lit ?_; refine zy 3 ?_; refine wpList_nil ?_; go_wp2; go_roundw
    case rel => exact ⟨p, m - 1, h1, by omega, by omega, rfl, by go_num, B⟩
    case measure => simp [intOf]; omega
  ·obtain rfl : p = s := by omega
   obtain rfl : q = p := by omega
   go_wp2; go_ret; exact ⟨by (rw [← HS.out]) <;> rfl, B⟩
/-! ### total -/
theorem YB {l : List Sp} {k : Nat} {s t u : Int} (h : jr l k = s) (ht : yd (jg l k) (jg l (k + 1)) = t) (hu : s + t = u) : jr l (k + 1) = u := by
 show jr l k + yd (jg l k) (jg l (k + 1)) = u
 rw [h, ht, hu]
set_option maxHeartbeats 1000000 in
theorem Vu (v : Value) (l : List Sp) (t : Int) (w : World) (rs : j9 qQ v l w) (hn : l.length ≤ 64) (hok : ∀ a ∈ l, Zv a) (e : xX l = t) : Calls Tryz.prog 54 #[v] w fun e w' => e = .returned (.int .i64 t) ∧ Below w.heap.size w w' := by
 have B := Below.refl w.heap.size w
 obtain ⟨a, c, rfl, hc⟩ := rs.len
 have HS := Lib.hid rs
 have HOK := Lib.hid hok
 have HE := Lib.hid e
 clear rs hok e
 go_enter Tryz.func54, Tryz.ntmps54
 go_upto_region 2 with fail
 refine wp_region_lit ?_
 refine zy 1 ?_
 refine wpList_nil ?_
 go_wp2
 go_loopw [3, 4] (fun sv iv wr => ∃ (k : Nat) (s : Int), (k = 0 ∨ k < l.length) ∧ Hid (jr l k = s) ∧ sv = .int .i64 s ∧ iv = .int .i64 ((k : Int) + 1) ∧ Below w.heap.size w wr) (fun _ iv _ => (l.length - intOf iv).toNat)
 case atStart => exact ⟨0, 0, .inl rfl, Lib.hid rfl, rfl, rfl, B⟩
 case round =>
  clear B; obtain ⟨k, s, hk, HP, rfl, rfl, B⟩ := hrel; by_cases hkl : k + 1 < l.length
  ·have q1 : decide ((k : Int) + 1 < (l.length : Int)) = true := decide_eq_true (by omega)
   have q2 : decide (k + 1 < l.length) = true := decide_eq_true hkl; obtain ⟨g, o, rfl, pc0⟩ := HS.out.at (by omega); have pc := pc0.of_eq (B.block _ pc0.lt); clear pc0; have hk0 : k < l.length := by omega
   have q3 : decide (k < l.length) = true := decide_eq_true hk0; have hp := jc hk0; have hp2 := jc hkl; have A1 := Lib.hid (HOK.out _ (List.mem_of_getElem? hp)); have A2 := Lib.hid (HOK.out _ (List.mem_of_getElem? hp2)); obtain ⟨t2, ht2⟩ : ∃ t, yd (jg l k) (jg l (k + 1)) = t := ⟨_, rfl⟩; have bd1 := wN HOK.out k (.inl hk0); have bd0 := vo l k; have bd2 := ZZ A1.out A2.out; have bd3 := uK (jg l k) (jg l (k + 1)); rw [HP.out] at bd1 bd0; rw [ht2] at bd2 bd3; have HST := Lib.hid (YB HP.out ht2 rfl); have HT2 := Lib.hid ht2; have hkb : (k : Int) < 64 := by omega
   clear ht2
   generalize hx1 : jg l k = x1 at *
   generalize hx2 : jg l (k + 1) = x2 at *
   clear hx1 hx2; go_upto_region 3 with fail
   refine wp_region_lit ?_; refine zy 2 ?_; refine zw (by first | rfl | simp [Region.wanted, yielded]) rfl Tryz.underlying26 rfl ?_; simp only [zn]; refine zy 1 ?_; refine wpList_nil ?_; go_upto_region 5 with fail
   try have lx_pc := pc.lt
   refine zF 13 [(10, zE ?v2_10)] (by kernel_rfl) (by kernel_rfl) (by kernel_rfl) ?_
   rotate_left 1
   simp only [jK, Nat.reduceAdd]; refine xM 10 ?_; repeat (first | go_big_quiet_skip | (go_big_quiet_want; first | ((first | refine zo (t := 43) rfl _ _ _ rfl (fun w hw => (jb pc w hw).load Tryz.isAgg43 hp) (by first | rfl | omega) ?_ | refine zo (t := 43) rfl _ _ _ rfl (fun w hw => (jb pc w hw).load Tryz.isAgg43 hp2) (by first | rfl | omega) ?_ | refine qB ?_ | refine qC ?_); simp only [zn]; go_big_quiet_on) | (go_big_quiet_op; go_big_quiet_on)))
   refine wpQuiet_nil ?_; refine zz (by rfl) (by first | rfl | simp [Region.wanted, yielded]) ?_ ?_
   ·intro wn za hE Kx hKx
    have zf := B.size; have zg := za.size; replace B := B.trans (za.mono B.size); refine zG rfl (enters_of Tryz.func107 (by kernel_rfl) rfl) (by simp only [Act.eval, qo]; rfl) ?_
    refine (XY x1 x2 t2 wn A1.out A2.out HT2.out).mono ?_; rintro e wm ⟨rfl, zl⟩; refine ⟨_, rfl, ?_⟩; have hz := hKx () wm trivial zl
    dsimp only [zE] at hz
    exact hz
   rintro ⟨⟩
   dsimp only [zE]
   simp only [zn]; refine vT 2 ?_; refine zY ?_; intro wn za hE; have zf := B.size; have zg := za.size; replace B := B.trans (za.mono B.size); clear hE; try simp only [List.drop_succ_cons, List.drop_zero]
   refine zN.normal ?_; go_upto_region 4 with fail
   refine wp_region_lit ?_; refine zy 3 ?_; refine wpList_nil ?_; go_wp2; go_roundw
   case rel => exact ⟨k + 1, s + t2, .inr hkl, HST, rfl, by go_num, B⟩
   case measure => simp [intOf]; omega
  ·have q1 : decide ((k : Int) + 1 < (l.length : Int)) = false := decide_eq_false (by omega)
   have q2 : decide (k + 1 < l.length) = false := decide_eq_false hkl; have HF := Lib.hid (show s = t from by
    rw [← HE.out, ← HP.out]; unfold xX
    congr 1
    omega)
   go_upto_region 3 with fail
   refine wp_region_lit ?_; refine zy 2 ?_; refine zw (by first | rfl | simp [Region.wanted, yielded]) rfl Tryz.underlying26 rfl ?_; simp only [zn]; refine zy 1 ?_; refine wpList_nil ?_; go_wp2; go_ret; exact ⟨by (rw [HF.out]) <;> rfl, B⟩
set_option maxHeartbeats 1000000 in
theorem zdm (v : Value) (l : List Sp) (t : Int) (w : World) (rs : j9 qQ v l w) (hn : l.length ≤ 64) (hok : ∀ a ∈ l, Zv a) (e : xX l = t) : Calls Tryz.prog 56 #[v] w fun e w' => e = .returned (.int .i64 t) ∧ Below w.heap.size w w' := by
 have B := Below.refl w.heap.size w
 obtain ⟨a, c, rfl, hc⟩ := rs.len
 have HS := Lib.hid rs
 have HOK := Lib.hid hok
 have HE := Lib.hid e
 clear rs hok e
 go_enter Tryz.func56, Tryz.ntmps56
 go_upto_region 2 with fail
 refine wp_region_lit ?_
 refine zy 1 ?_
 refine wpList_nil ?_
 go_wp2
 go_loopw [3, 4] (fun sv iv wr => ∃ (k : Nat) (s : Int), (k = 0 ∨ k < l.length) ∧ Hid (jr l k = s) ∧ sv = .int .i64 s ∧ iv = .int .i64 ((k : Int) + 1) ∧ Below w.heap.size w wr) (fun _ iv _ => (l.length - intOf iv).toNat)
 case atStart => exact ⟨0, 0, .inl rfl, Lib.hid rfl, rfl, rfl, B⟩
 case round =>
  clear B; obtain ⟨k, s, hk, HP, rfl, rfl, B⟩ := hrel; by_cases hkl : k + 1 < l.length
  ·have q1 : decide ((k : Int) + 1 < (l.length : Int)) = true := decide_eq_true (by omega)
   have q2 : decide (k + 1 < l.length) = true := decide_eq_true hkl; obtain ⟨g, o, rfl, pc0⟩ := HS.out.at (by omega); have pc := pc0.of_eq (B.block _ pc0.lt); clear pc0; have hk0 : k < l.length := by omega
   have q3 : decide (k < l.length) = true := decide_eq_true hk0; have hp := jc hk0; have hp2 := jc hkl; have A1 := Lib.hid (HOK.out _ (List.mem_of_getElem? hp)); have A2 := Lib.hid (HOK.out _ (List.mem_of_getElem? hp2)); obtain ⟨t2, ht2⟩ : ∃ t, yd (jg l k) (jg l (k + 1)) = t := ⟨_, rfl⟩; have bd1 := wN HOK.out k (.inl hk0); have bd0 := vo l k; have bd2 := ZZ A1.out A2.out; have bd3 := uK (jg l k) (jg l (k + 1)); rw [HP.out] at bd1 bd0; rw [ht2] at bd2 bd3; have HST := Lib.hid (YB HP.out ht2 rfl); have HT2 := Lib.hid ht2; have hkb : (k : Int) < 64 := by omega
   clear ht2
   generalize hx1 : jg l k = x1 at *
   generalize hx2 : jg l (k + 1) = x2 at *
   clear hx1 hx2; go_upto_region 3 with fail
   refine wp_region_lit ?_; refine zy 2 ?_; refine zw (by first | rfl | simp [Region.wanted, yielded]) rfl Tryz.underlying26 rfl ?_; simp only [zn]; refine zy 1 ?_; refine wpList_nil ?_; go_upto_region 5 with fail
   try have lx_pc := pc.lt
   refine zF 13 [(10, zE ?v3_10)] (by kernel_rfl) (by kernel_rfl) (by kernel_rfl) ?_
   rotate_left 1
   simp only [jK, Nat.reduceAdd]; refine xM 10 ?_; repeat (first | go_big_quiet_skip | (go_big_quiet_want; first | ((first | refine zo (t := 43) rfl _ _ _ rfl (fun w hw => (jb pc w hw).load Tryz.isAgg43 hp) (by first | rfl | omega) ?_ | refine zo (t := 43) rfl _ _ _ rfl (fun w hw => (jb pc w hw).load Tryz.isAgg43 hp2) (by first | rfl | omega) ?_ | refine qB ?_ | refine qC ?_); simp only [zn]; go_big_quiet_on) | (go_big_quiet_op; go_big_quiet_on)))
   refine wpQuiet_nil ?_; refine zz (by rfl) (by first | rfl | simp [Region.wanted, yielded]) ?_ ?_
   ·intro wn za hE Kx hKx
    have zf := B.size; have zg := za.size; replace B := B.trans (za.mono B.size); refine zG rfl (enters_of Tryz.func60 (by kernel_rfl) rfl) (by simp only [Act.eval, qo]; rfl) ?_
    refine (zbj x1 x2 t2 wn A1.out A2.out HT2.out).mono ?_; rintro e wm ⟨rfl, zl⟩; refine ⟨_, rfl, ?_⟩; have hz := hKx () wm trivial zl
    dsimp only [zE] at hz
    exact hz
   rintro ⟨⟩
   dsimp only [zE]
   simp only [zn]; refine vT 2 ?_; refine zY ?_; intro wn za hE; have zf := B.size; have zg := za.size; replace B := B.trans (za.mono B.size); clear hE; try simp only [List.drop_succ_cons, List.drop_zero]
   refine zN.normal ?_; go_upto_region 4 with fail
   refine wp_region_lit ?_; refine zy 3 ?_; refine wpList_nil ?_; go_wp2; go_roundw
   case rel => exact ⟨k + 1, s + t2, .inr hkl, HST, rfl, by go_num, B⟩
   case measure => simp [intOf]; omega
  ·have q1 : decide ((k : Int) + 1 < (l.length : Int)) = false := decide_eq_false (by omega)
   have q2 : decide (k + 1 < l.length) = false := decide_eq_false hkl; have HF := Lib.hid (show s = t from by
    rw [← HE.out, ← HP.out]; unfold xX
    congr 1
    omega)
   go_upto_region 3 with fail
   refine wp_region_lit ?_; refine zy 2 ?_; refine zw (by first | rfl | simp [Region.wanted, yielded]) rfl Tryz.underlying26 rfl ?_; simp only [zn]; refine zy 1 ?_; refine wpList_nil ?_; go_wp2; go_ret; exact ⟨by (rw [HF.out]) <;> rfl, B⟩
/- Contracts of Valid of package stroke and of its reference. -/
def ui (a : Sp) : Bool := !decide (Zv a)
theorem Kw (a : Sp) : ui a = (!wX a.x || (!wX a.y || (decide (a.p < 0) || decide (255 < a.p)))) := by
 have h1 : ui a = true ↔ ¬ Zv a := by unfold ui; rw [Bool.not_eq_true', decide_eq_false_iff_not]
 have h2 : ∀ x, (!wX x) = true ↔ ¬ (-1048576 ≤ x ∧ x ≤ 1048575) := fun x => by unfold wX; rw [Bool.not_eq_true', decide_eq_false_iff_not]
 rw [Bool.eq_iff_iff, h1, Bool.or_eq_true, Bool.or_eq_true, Bool.or_eq_true, h2, h2, decide_eq_true_iff, decide_eq_true_iff]
 unfold Zv
 omega
def idxS (l : List Sp) : Nat := l.findIdx ui
theorem uJ (l : List Sp) : idxS l ≤ l.length := List.findIdx_le_length
theorem J8 {l : List Sp} {k : Nat} (h : k < idxS l) : ui (jg l k) = false := by
 have hk : k < l.length := Nat.lt_of_lt_of_le h (uJ l)
 have := List.not_of_lt_findIdx (p := ui) (xs := l) h
 have e := jc hk
 rw [List.getElem?_eq_getElem hk] at e
 rw [← Option.some.inj e]
 simpa using this
theorem J7 {l : List Sp} (h : idxS l < l.length) : ui (jg l (idxS l)) = true := by
 have := List.findIdx_getElem (p := ui) (xs := l) (w := h)
 have e := jc h
 rw [List.getElem?_eq_getElem h] at e
 rw [← Option.some.inj e]
 exact this
theorem zb9 (l : List Sp) : vF l = true ↔ idxS l = l.length := by
 unfold vF
 rw [decide_eq_true_iff]
 constructor
 ·intro h
  rcases Nat.lt_or_ge (idxS l) l.length with k | k
  ·have h1 := J7 k
   unfold ui at h1; rw [decide_eq_true (h _ (List.mem_of_getElem? (jc k)))] at h1; cases h1
  ·have := uJ l
   omega
 ·intro h a ha
  obtain ⟨k, hk⟩ := List.mem_iff_getElem?.1 ha; have hkl : k < l.length := (List.getElem?_eq_some_iff.1 hk).1; have h1 := J8 (l := l) (k := k) (by omega); rw [jc hkl] at hk; obtain rfl := Option.some.inj hk; unfold ui at h1
  simpa using h1
/-! ### One point -/
set_option maxHeartbeats 1000000 in
theorem zes (a : Sp) (b : Bool) (w : World) (e : ui a = b) : Calls Tryz.prog 52 #[.agg (qQ.enc a)] w fun e w' => e = .returned (.bool b) ∧ Below w.heap.size w w' := by
 have B := Below.refl w.heap.size w
 rw [Kw] at e
 obtain ⟨i1, hi1⟩ : ∃ i, wX a.x = i := ⟨_, rfl⟩
 obtain ⟨i2, hi2⟩ : ∃ i, wX a.y = i := ⟨_, rfl⟩
 obtain ⟨i3, hi3⟩ : ∃ i, decide (a.p < 0) = i := ⟨_, rfl⟩
 obtain ⟨i4, hi4⟩ : ∃ i, decide (255 < a.p) = i := ⟨_, rfl⟩
 rw [hi1, hi2, hi3, hi4] at e
 have H1 := Lib.hid hi1
 have H2 := Lib.hid hi2
 clear hi1 hi2
 cases i1 with
 | false =>
  obtain rfl : b = true := by rw [← e]; rfl
  clear e; go_enter Tryz.func52, Tryz.ntmps52
  go_upto_region 0 with fail
  refine wp_region_lit ?_
  (refine zt (t := 43) rfl _ rfl _ rfl (z6 B ?_); clear B; intro b_r1 wn zb zd r1 za zf zk B; simp only [zn])
  refine zy 1 ?_; refine wpList_nil ?_; go_upto_region 1 with fail
  refine wp_region_lit ?_; refine zy 2 ?_
  refine qT (enters_of Tryz.func53 (by kernel_rfl) rfl) (c := yN a.x false _ H1.out) (h := ?_); rintro e wn ⟨rfl, za⟩; have zf := B.size; have zg := za.size; replace B := B.trans (za.mono B.size)
  (try replace r1 := r1.below za)
  refine ⟨_, rfl, ?_⟩; simp only [zn]; refine zy 4 ?_
  refine qF ?hs2_7 ?_
  case hs2_7 => kernel_rfl
  simp only [zn]; refine zy 13 ?_
  refine wpList_nil ?_; go_wp2; go_ret; exact ⟨rfl, B⟩
 | true =>
  cases i2 with
  | false =>
   obtain rfl : b = true := by rw [← e]; rfl
   clear e; go_enter Tryz.func52, Tryz.ntmps52
   go_upto_region 0 with fail
   refine wp_region_lit ?_
   (refine zt (t := 43) rfl _ rfl _ rfl (z6 B ?_); clear B; intro b_r1 wn zb zd r1 za zf zk B; (try have zh := r1.lt); (try replace r1 := r1.below (za.mono zb)); simp only [zn])
   refine zy 1 ?_; refine wpList_nil ?_; go_upto_region 1 with fail
   refine wp_region_lit ?_; refine zy 2 ?_
   refine qT (enters_of Tryz.func53 (by kernel_rfl) rfl) (c := yN a.x true _ H1.out) (h := ?_); rintro e wn ⟨rfl, za⟩; have zf := B.size; have zg := za.size; replace B := B.trans (za.mono B.size)
   (try replace r1 := r1.below za)
   refine ⟨_, rfl, ?_⟩; simp only [zn]; refine zy 4 ?_
   refine qT (enters_of Tryz.func53 (by kernel_rfl) rfl) (c := yN a.y false _ H2.out) (h := ?_); rintro e wn ⟨rfl, za⟩; have zf := B.size; have zg := za.size; replace B := B.trans (za.mono B.size)
   (try replace r1 := r1.below za)
   refine ⟨_, rfl, ?_⟩; simp only [zn]; refine zy 13 ?_
   refine wpList_nil ?_; go_wp2; go_ret; exact ⟨rfl, B⟩
  | true =>
   obtain rfl : b = (i3 || i4) := by rw [← e]; cases i3 <;> cases i4 <;> rfl
   clear e; cases i3 <;> cases i4 <;> (
    go_enter Tryz.func52, Tryz.ntmps52
    go_upto_region 0 with fail
    refine wp_region_lit ?_
    (refine zt (t := 43) rfl _ rfl _ rfl (z6 B ?_); clear B; intro b_r1 wn zb zd r1 za zf zk B; (try have zh := r1.lt); (try replace r1 := r1.below (za.mono zb)); simp only [zn])
    refine zy 1 ?_; refine wpList_nil ?_; go_upto_region 1 with fail
    refine wp_region_lit ?_; refine zy 2 ?_
    refine qT (enters_of Tryz.func53 (by kernel_rfl) rfl) (c := yN a.x true _ H1.out) (h := ?_); rintro e wn ⟨rfl, za⟩; have zf := B.size; have zg := za.size; replace B := B.trans (za.mono B.size)
    (try replace r1 := r1.below za)
    refine ⟨_, rfl, ?_⟩; simp only [zn]; refine zy 4 ?_
    refine qT (enters_of Tryz.func53 (by kernel_rfl) rfl) (c := yN a.y true _ H2.out) (h := ?_); rintro e wn ⟨rfl, za⟩; have zf := B.size; have zg := za.size; replace B := B.trans (za.mono B.size)
    (try replace r1 := r1.below za)
    refine ⟨_, rfl, ?_⟩; simp only [zn]; refine zy 13 ?_
    refine wpList_nil ?_; go_wp2; go_ret; exact ⟨rfl, B⟩)
set_option maxHeartbeats 1000000 in
theorem XR (v : Value) (l : List Sp) (r : Int) (w : World) (rs : j9 qQ v l w) (hn : l.length ≤ 17592186044416) (e : (if idxS l < l.length then (idxS l : Int) else -1) = r) : Calls Tryz.prog 106 #[v, .func (.func 52) #[] #[]] w fun e w' => e = .returned (.int .i64 r) ∧ Below w.heap.size w w' := by
 have B := Below.refl w.heap.size w
 obtain ⟨a, c, rfl, hc⟩ := rs.len
 have HS := Lib.hid rs
 have zb := uJ l
 obtain ⟨m, hm⟩ : ∃ m, idxS l = m := ⟨_, rfl⟩
 have HLT := Lib.hid (fun k (h : k < idxS l) => J8 h)
 have HAT := Lib.hid (fun (h : idxS l < l.length) => J7 h)
 rw [hm] at zb e HLT HAT
 have HE := Lib.hid e
 clear rs e hm
 go_enter Tryz.func106, Tryz.ntmps106
 go_upto_region 1 with fail
 refine wp_region_lit ?_
 refine zy 1 ?_
 refine zw (by first | rfl | simp [Region.wanted, yielded]) rfl Tryz.underlying26 rfl ?_
 simp only [zn]
 refine zy 1 ?_
 refine wpList_nil ?_
 go_wp2
 go_loopw [5, 8] (fun _ iv wr => ∃ k : Nat, k ≤ m ∧ iv = .int .i64 (k : Int) ∧ Below w.heap.size w wr) (fun _ iv _ => (l.length - intOf iv).toNat)
 case atStart => exact ⟨0, by omega, rfl, B⟩
 case round =>
  clear B; obtain ⟨k, hk, rfl, B⟩ := hrel; by_cases hkl : k < l.length
  ·have q1 : decide ((k : Int) < (l.length : Int)) = true := decide_eq_true (by omega)
   have q2 : decide (k < l.length) = true := decide_eq_true hkl; obtain ⟨g, o, rfl, pc0⟩ := HS.out.at (by omega); have pc := pc0.of_eq (B.block _ pc0.lt); clear pc0; have hp := jc hkl; by_cases hki : k < m
   ·have HB := Lib.hid (show ui (jg l k) = false from HLT.out k hki)
    generalize hx1 : jg l k = x1 at *
    clear hx1; go_upto_region 2 with fail
    refine wp_region_lit ?_; refine zy 1 ?_; refine wpList_nil ?_; go_upto_region 3 with fail
    refine wp_region_lit ?_; refine zy 2 ?_; refine wpList_nil ?_; go_upto_region 4 with fail
    refine wp_region_lit ?_; refine jp 5 ?_; repeat (first | go_big_quiet_skip | (go_big_quiet_want; first | ((first | refine zo (t := 43) rfl _ _ _ rfl (fun w hw => (jb pc w hw).load Tryz.isAgg43 hp) (by first | rfl | omega) ?_ | refine qB ?_ | refine qC ?_); simp only [zn]; go_big_quiet_on) | (go_big_quiet_op; go_big_quiet_on)))
    refine wpQuiet_nil ?_; refine qO (by first | rfl | simp [Region.wanted, yielded]) rfl (by simp only [Act.eval, qo]; rfl) (enters_of Tryz.func52 (by kernel_rfl) rfl) (by simp only [Act.eval, qo]; rfl) ?_
    refine (zes x1 false _ HB.out).mono ?_; rintro e wn ⟨rfl, za⟩; have zf := B.size; have zg := za.size; replace B := B.trans (za.mono B.size)
    (try replace pc := pc.below za)
    refine ⟨_, rfl, ?_⟩; simp only [zn]; refine wpList_nil ?_; go_upto_region 6 with fail
    refine wp_region_lit ?_; refine zy 2 ?_; refine wpList_nil ?_; go_wp2; go_roundw
    case rel => exact ⟨k + 1, by omega, by go_num, B⟩
    case measure => simp [intOf]; omega
   ·have HB := Lib.hid (show ui (jg l k) = true from by rw [show k = m by omega]; exact HAT.out (by omega))
    generalize hx1 : jg l k = x1 at *
    clear hx1; go_upto_region 2 with fail
    refine wp_region_lit ?_; refine zy 1 ?_; refine wpList_nil ?_; go_upto_region 3 with fail
    refine wp_region_lit ?_; refine zy 2 ?_; refine wpList_nil ?_; go_upto_region 4 with fail
    refine wp_region_lit ?_; refine jp 5 ?_; repeat (first | go_big_quiet_skip | (go_big_quiet_want; first | ((first | refine zo (t := 43) rfl _ _ _ rfl (fun w hw => (jb pc w hw).load Tryz.isAgg43 hp) (by first | rfl | omega) ?_ | refine qB ?_ | refine qC ?_); simp only [zn]; go_big_quiet_on) | (go_big_quiet_op; go_big_quiet_on)))
    refine wpQuiet_nil ?_; refine qO (by first | rfl | simp [Region.wanted, yielded]) rfl (by simp only [Act.eval, qo]; rfl) (enters_of Tryz.func52 (by kernel_rfl) rfl) (by simp only [Act.eval, qo]; rfl) ?_
    refine (zes x1 true _ HB.out).mono ?_; rintro e wn ⟨rfl, za⟩; have zf := B.size; have zg := za.size; replace B := B.trans (za.mono B.size); refine ⟨_, rfl, ?_⟩; simp only [zn]; refine wpList_nil ?_; go_upto_region 5 with fail
    refine wp_region_lit ?_; refine zy 2 ?_; refine wpList_nil ?_; go_wp2; go_ret; exact ⟨by (rw [← HE.out, if_pos (by omega), show k = m by omega]) <;> rfl, B⟩
  ·have q1 : decide ((k : Int) < (l.length : Int)) = false := decide_eq_false (by omega)
   have q2 : decide (k < l.length) = false := decide_eq_false hkl; go_upto_region 2 with fail
   refine wp_region_lit ?_; refine zy 1 ?_; refine wpList_nil ?_; go_upto_region 7 with fail
   refine wp_region_lit ?_; refine zy 1 ?_; refine wpList_nil ?_; go_wp2; go_ret; exact ⟨by (rw [← HE.out, if_neg (by omega)]) <;> rfl, B⟩
theorem Zn (v : Value) (l : List Sp) (b : Bool) (w : World) (rs : j9 qQ v l w) (hn : l.length ≤ 17592186044416) (e : vF l = !b) : Calls Tryz.prog 51 #[v, .func (.func 52) #[] #[]] w fun e w' => e = .returned (.bool b) ∧ Below w.heap.size w w' := by
 have B := Below.refl w.heap.size w
 have zb := uJ l
 have hi := zb9 l
 cases b with
 | true =>
  have HE := Lib.hid (show (if idxS l < l.length then (idxS l : Int) else -1) = (idxS l : Int) from if_pos (by rw [e] at hi; have h3 : ¬ idxS l = l.length := (fun k => by have := hi.2 k; cases this); omega))
  have q1 : decide ((0 : Int) ≤ (idxS l : Int)) = true := decide_eq_true (by omega); clear hi e; go_enter Tryz.func51, Tryz.ntmps51
  go_upto_region 1 with fail
  refine wp_region_lit ?_; refine zy 2 ?_; refine qT (enters_of Tryz.func106 (by kernel_rfl) rfl) (c := XR _ l (idxS l : Int) _ rs hn HE.out) (h := ?_); rintro e wn ⟨rfl, za⟩; have zf := B.size; have zg := za.size; replace B := B.trans (za.mono B.size); refine ⟨_, rfl, ?_⟩; simp only [zn]; refine zy 2 ?_; refine wpList_nil ?_; go_wp2; go_ret; exact ⟨by first | rfl | simp, B⟩
 | false =>
  have HE := Lib.hid (show (if idxS l < l.length then (idxS l : Int) else -1) = -1 from if_neg (by rw [e] at hi; have := hi.1 rfl; omega))
  have q1 : decide ((0 : Int) ≤ -1) = false := decide_eq_false (by omega); clear hi e; go_enter Tryz.func51, Tryz.ntmps51
  go_upto_region 1 with fail
  refine wp_region_lit ?_; refine zy 2 ?_; refine qT (enters_of Tryz.func106 (by kernel_rfl) rfl) (c := XR _ l (-1) _ rs hn HE.out) (h := ?_); rintro e wn ⟨rfl, za⟩; have zf := B.size; have zg := za.size; replace B := B.trans (za.mono B.size); refine ⟨_, rfl, ?_⟩; simp only [zn]; refine zy 2 ?_; refine wpList_nil ?_; go_wp2; go_ret; exact ⟨by first | rfl | simp, B⟩
/-! ### Valid -/
theorem xE {s : qS} (h : (s.pts.length : Int) < 1 ∨ 64 < (s.pts.length : Int) ∨ s.rad < 1 ∨ 256 < s.rad ∨ s.spa < 1 ∨ 4096 < s.spa ∨ s.pha < 0 ∨ 1048575 < s.pha) : ju s = false := by
 unfold ju zdZ
 rw [decide_eq_false (by omega)]
 rfl
theorem VZ {s : qS} (h : ¬ ((s.pts.length : Int) < 1 ∨ 64 < (s.pts.length : Int) ∨ s.rad < 1 ∨ 256 < s.rad ∨ s.spa < 1 ∨ 4096 < s.spa ∨ s.pha < 0 ∨ 1048575 < s.pha)) : ju s = (vF s.pts && decide (xX s.pts - s.pha ≤ 1024 * s.spa)) := by
 unfold ju zdZ
 rw [decide_eq_true (by omega)]
 rfl
theorem Jq {l : List Sp} (h : vF l = true) : ∀ a ∈ l, Zv a := of_decide_eq_true h
set_option maxHeartbeats 2000000 in
theorem xz (v : Value) (s : qS) (b : Bool) (w : World) (rs : j9 qQ v s.pts w) (hn : s.pts.length ≤ 17592186044416) (e : ju s = b) : Calls Tryz.prog 16 #[.agg (qR v s)] w fun e w' => e = .returned (.bool b) ∧ Below w.heap.size w w' := by
 have B := Below.refl w.heap.size w
 obtain ⟨a, c, rfl, hc⟩ := rs.len
 by_cases h0 : (s.pts.length : Int) < 1
 ·have q0 : decide ((s.pts.length : Int) < 1) = true := decide_eq_true h0
  have p0 : decide (s.pts.length < 1) = true := decide_eq_true (by omega); obtain rfl : b = false := by rw [← e]; exact xE (by omega)
  clear e; go_enter Tryz.func16, Tryz.ntmps16
  go_upto_region 0 with fail
  refine wp_region_lit ?_
  (refine zt (t := 30) rfl _ rfl _ rfl (z6 B ?_); clear B; intro b_r1 wn zb zd r1 za zf zk B; (try have zh := rs.lt); (try replace rs := rs.below (za.mono zb)); simp only [zn])
  refine zy 1 ?_; refine wpList_nil ?_; go_upto_region 1 with fail
  refine wp_region_lit ?_; refine zy 2 ?_
  refine zw (by first | rfl | simp [Region.wanted, yielded]) rfl Tryz.underlying26 rfl ?_; simp only [zn]; refine zy 4 ?_
  refine qF ?hs21_7 ?_
  case hs21_7 => kernel_rfl
  simp only [zn]; refine zy 32 ?_
  refine wpList_nil ?_; go_upto_region 2 with fail
  refine wp_region_lit ?_; refine zy 1 ?_; refine wpList_nil ?_; go_wp2; go_ret; exact ⟨rfl, B⟩
 ·by_cases h1 : 64 < (s.pts.length : Int)
  ·have q0 : decide ((s.pts.length : Int) < 1) = false := decide_eq_false h0
   have q1 : decide (64 < (s.pts.length : Int)) = true := decide_eq_true h1; have p0 : decide (s.pts.length < 1) = false := decide_eq_false (by omega); have p1 : decide (64 < s.pts.length) = true := decide_eq_true (by omega); obtain rfl : b = false := by rw [← e]; exact xE (by omega)
   clear e; go_enter Tryz.func16, Tryz.ntmps16
   go_upto_region 0 with fail
   refine wp_region_lit ?_
   (refine zt (t := 30) rfl _ rfl _ rfl (z6 B ?_); clear B; intro b_r1 wn zb zd r1 za zf zk B; (try have zh := r1.lt); (try replace r1 := r1.below (za.mono zb)); (try have zh := rs.lt); (try replace rs := rs.below (za.mono zb)); simp only [zn])
   refine zy 1 ?_; refine wpList_nil ?_; go_upto_region 1 with fail
   refine wp_region_lit ?_; refine zy 2 ?_
   refine zw (by first | rfl | simp [Region.wanted, yielded]) rfl Tryz.underlying26 rfl ?_; simp only [zn]; refine zy 4 ?_
   refine zw (by first | rfl | simp [Region.wanted, yielded]) rfl Tryz.underlying26 rfl ?_; simp only [zn]; refine zy 32 ?_
   refine wpList_nil ?_; go_upto_region 2 with fail
   refine wp_region_lit ?_; refine zy 1 ?_; refine wpList_nil ?_; go_wp2; go_ret; exact ⟨rfl, B⟩
  ·by_cases h2 : s.rad < 1
   ·have q0 : decide ((s.pts.length : Int) < 1) = false := decide_eq_false h0
    have q1 : decide (64 < (s.pts.length : Int)) = false := decide_eq_false h1; have q2 : decide (s.rad < 1) = true := decide_eq_true h2; have p0 : decide (s.pts.length < 1) = false := decide_eq_false (by omega); have p1 : decide (64 < s.pts.length) = false := decide_eq_false (by omega); obtain rfl : b = false := by rw [← e]; exact xE (by omega)
    clear e; go_enter Tryz.func16, Tryz.ntmps16
    go_upto_region 0 with fail
    refine wp_region_lit ?_
    (refine zt (t := 30) rfl _ rfl _ rfl (z6 B ?_); clear B; intro b_r1 wn zb zd r1 za zf zk B; (try have zh := r1.lt); (try replace r1 := r1.below (za.mono zb)); (try have zh := rs.lt); (try replace rs := rs.below (za.mono zb)); simp only [zn])
    refine zy 1 ?_; refine wpList_nil ?_; go_upto_region 1 with fail
    refine wp_region_lit ?_; refine zy 2 ?_
    refine zw (by first | rfl | simp [Region.wanted, yielded]) rfl Tryz.underlying26 rfl ?_; simp only [zn]; refine zy 4 ?_
    refine zw (by first | rfl | simp [Region.wanted, yielded]) rfl Tryz.underlying26 rfl ?_; simp only [zn]; refine zy 32 ?_
    refine wpList_nil ?_; go_upto_region 2 with fail
    refine wp_region_lit ?_; refine zy 1 ?_; refine wpList_nil ?_; go_wp2; go_ret; exact ⟨rfl, B⟩
   ·by_cases h3 : 256 < s.rad
    ·have q0 : decide ((s.pts.length : Int) < 1) = false := decide_eq_false h0
     have q1 : decide (64 < (s.pts.length : Int)) = false := decide_eq_false h1; have q2 : decide (s.rad < 1) = false := decide_eq_false h2; have q3 : decide (256 < s.rad) = true := decide_eq_true h3; have p0 : decide (s.pts.length < 1) = false := decide_eq_false (by omega); have p1 : decide (64 < s.pts.length) = false := decide_eq_false (by omega); obtain rfl : b = false := by rw [← e]; exact xE (by omega)
     clear e; go_enter Tryz.func16, Tryz.ntmps16
     go_upto_region 0 with fail
     refine wp_region_lit ?_
     (refine zt (t := 30) rfl _ rfl _ rfl (z6 B ?_); clear B; intro b_r1 wn zb zd r1 za zf zk B; (try have zh := r1.lt); (try replace r1 := r1.below (za.mono zb)); (try have zh := rs.lt); (try replace rs := rs.below (za.mono zb)); simp only [zn])
     refine zy 1 ?_; refine wpList_nil ?_; go_upto_region 1 with fail
     refine wp_region_lit ?_; refine zy 2 ?_
     refine zw (by first | rfl | simp [Region.wanted, yielded]) rfl Tryz.underlying26 rfl ?_; simp only [zn]; refine zy 4 ?_
     refine zw (by first | rfl | simp [Region.wanted, yielded]) rfl Tryz.underlying26 rfl ?_; simp only [zn]; refine zy 32 ?_
     refine wpList_nil ?_; go_upto_region 2 with fail
     refine wp_region_lit ?_; refine zy 1 ?_; refine wpList_nil ?_; go_wp2; go_ret; exact ⟨rfl, B⟩
    ·by_cases h4 : s.spa < 1
     ·have q0 : decide ((s.pts.length : Int) < 1) = false := decide_eq_false h0
      have q1 : decide (64 < (s.pts.length : Int)) = false := decide_eq_false h1; have q2 : decide (s.rad < 1) = false := decide_eq_false h2; have q3 : decide (256 < s.rad) = false := decide_eq_false h3; have q4 : decide (s.spa < 1) = true := decide_eq_true h4; have p0 : decide (s.pts.length < 1) = false := decide_eq_false (by omega); have p1 : decide (64 < s.pts.length) = false := decide_eq_false (by omega); obtain rfl : b = false := by rw [← e]; exact xE (by omega)
      clear e; go_enter Tryz.func16, Tryz.ntmps16
      go_upto_region 0 with fail
      refine wp_region_lit ?_
      (refine zt (t := 30) rfl _ rfl _ rfl (z6 B ?_); clear B; intro b_r1 wn zb zd r1 za zf zk B; (try have zh := r1.lt); (try replace r1 := r1.below (za.mono zb)); (try have zh := rs.lt); (try replace rs := rs.below (za.mono zb)); simp only [zn])
      refine zy 1 ?_; refine wpList_nil ?_; go_upto_region 1 with fail
      refine wp_region_lit ?_; refine zy 2 ?_
      refine zw (by first | rfl | simp [Region.wanted, yielded]) rfl Tryz.underlying26 rfl ?_; simp only [zn]; refine zy 4 ?_
      refine zw (by first | rfl | simp [Region.wanted, yielded]) rfl Tryz.underlying26 rfl ?_; simp only [zn]; refine zy 32 ?_
      refine wpList_nil ?_; go_upto_region 2 with fail
      refine wp_region_lit ?_; refine zy 1 ?_; refine wpList_nil ?_; go_wp2; go_ret; exact ⟨rfl, B⟩
     ·by_cases h5 : 4096 < s.spa
      ·have q0 : decide ((s.pts.length : Int) < 1) = false := decide_eq_false h0
       have q1 : decide (64 < (s.pts.length : Int)) = false := decide_eq_false h1; have q2 : decide (s.rad < 1) = false := decide_eq_false h2; have q3 : decide (256 < s.rad) = false := decide_eq_false h3; have q4 : decide (s.spa < 1) = false := decide_eq_false h4; have q5 : decide (4096 < s.spa) = true := decide_eq_true h5; have p0 : decide (s.pts.length < 1) = false := decide_eq_false (by omega); have p1 : decide (64 < s.pts.length) = false := decide_eq_false (by omega); obtain rfl : b = false := by rw [← e]; exact xE (by omega)
       clear e; go_enter Tryz.func16, Tryz.ntmps16
       go_upto_region 0 with fail
       refine wp_region_lit ?_
       (refine zt (t := 30) rfl _ rfl _ rfl (z6 B ?_); clear B; intro b_r1 wn zb zd r1 za zf zk B; (try have zh := r1.lt); (try replace r1 := r1.below (za.mono zb)); (try have zh := rs.lt); (try replace rs := rs.below (za.mono zb)); simp only [zn])
       refine zy 1 ?_; refine wpList_nil ?_; go_upto_region 1 with fail
       refine wp_region_lit ?_; refine zy 2 ?_
       refine zw (by first | rfl | simp [Region.wanted, yielded]) rfl Tryz.underlying26 rfl ?_; simp only [zn]; refine zy 4 ?_
       refine zw (by first | rfl | simp [Region.wanted, yielded]) rfl Tryz.underlying26 rfl ?_; simp only [zn]; refine zy 32 ?_
       refine wpList_nil ?_; go_upto_region 2 with fail
       refine wp_region_lit ?_; refine zy 1 ?_; refine wpList_nil ?_; go_wp2; go_ret; exact ⟨rfl, B⟩
      ·by_cases h6 : s.pha < 0
       ·have q0 : decide ((s.pts.length : Int) < 1) = false := decide_eq_false h0
        have q1 : decide (64 < (s.pts.length : Int)) = false := decide_eq_false h1; have q2 : decide (s.rad < 1) = false := decide_eq_false h2; have q3 : decide (256 < s.rad) = false := decide_eq_false h3; have q4 : decide (s.spa < 1) = false := decide_eq_false h4; have q5 : decide (4096 < s.spa) = false := decide_eq_false h5; have q6 : decide (s.pha < 0) = true := decide_eq_true h6; have p0 : decide (s.pts.length < 1) = false := decide_eq_false (by omega); have p1 : decide (64 < s.pts.length) = false := decide_eq_false (by omega); obtain rfl : b = false := by rw [← e]; exact xE (by omega)
        clear e; go_enter Tryz.func16, Tryz.ntmps16
        go_upto_region 0 with fail
        refine wp_region_lit ?_
        (refine zt (t := 30) rfl _ rfl _ rfl (z6 B ?_); clear B; intro b_r1 wn zb zd r1 za zf zk B; (try have zh := r1.lt); (try replace r1 := r1.below (za.mono zb)); (try have zh := rs.lt); (try replace rs := rs.below (za.mono zb)); simp only [zn])
        refine zy 1 ?_; refine wpList_nil ?_; go_upto_region 1 with fail
        refine wp_region_lit ?_; refine zy 2 ?_
        refine zw (by first | rfl | simp [Region.wanted, yielded]) rfl Tryz.underlying26 rfl ?_; simp only [zn]; refine zy 4 ?_
        refine zw (by first | rfl | simp [Region.wanted, yielded]) rfl Tryz.underlying26 rfl ?_; simp only [zn]; refine zy 32 ?_
        refine wpList_nil ?_; go_upto_region 2 with fail
        refine wp_region_lit ?_; refine zy 1 ?_; refine wpList_nil ?_; go_wp2; go_ret; exact ⟨rfl, B⟩
       ·by_cases h7 : 1048575 < s.pha
        ·have q0 : decide ((s.pts.length : Int) < 1) = false := decide_eq_false h0
         have q1 : decide (64 < (s.pts.length : Int)) = false := decide_eq_false h1; have q2 : decide (s.rad < 1) = false := decide_eq_false h2; have q3 : decide (256 < s.rad) = false := decide_eq_false h3; have q4 : decide (s.spa < 1) = false := decide_eq_false h4; have q5 : decide (4096 < s.spa) = false := decide_eq_false h5; have q6 : decide (s.pha < 0) = false := decide_eq_false h6; have q7 : decide (1048575 < s.pha) = true := decide_eq_true h7; have p0 : decide (s.pts.length < 1) = false := decide_eq_false (by omega); have p1 : decide (64 < s.pts.length) = false := decide_eq_false (by omega); obtain rfl : b = false := by rw [← e]; exact xE (by omega)
         clear e; go_enter Tryz.func16, Tryz.ntmps16
         go_upto_region 0 with fail
         refine wp_region_lit ?_
         (refine zt (t := 30) rfl _ rfl _ rfl (z6 B ?_); clear B; intro b_r1 wn zb zd r1 za zf zk B; (try have zh := r1.lt); (try replace r1 := r1.below (za.mono zb)); (try have zh := rs.lt); (try replace rs := rs.below (za.mono zb)); simp only [zn])
         refine zy 1 ?_; refine wpList_nil ?_; go_upto_region 1 with fail
         refine wp_region_lit ?_; refine zy 2 ?_
         refine zw (by first | rfl | simp [Region.wanted, yielded]) rfl Tryz.underlying26 rfl ?_; simp only [zn]; refine zy 4 ?_
         refine zw (by first | rfl | simp [Region.wanted, yielded]) rfl Tryz.underlying26 rfl ?_; simp only [zn]; refine zy 32 ?_
         refine wpList_nil ?_; go_upto_region 2 with fail
         refine wp_region_lit ?_; refine zy 1 ?_; refine wpList_nil ?_; go_wp2; go_ret; exact ⟨rfl, B⟩
        ·have q0 : decide ((s.pts.length : Int) < 1) = false := decide_eq_false h0
         have q1 : decide (64 < (s.pts.length : Int)) = false := decide_eq_false h1; have q2 : decide (s.rad < 1) = false := decide_eq_false h2; have q3 : decide (256 < s.rad) = false := decide_eq_false h3; have q4 : decide (s.spa < 1) = false := decide_eq_false h4; have q5 : decide (4096 < s.spa) = false := decide_eq_false h5; have q6 : decide (s.pha < 0) = false := decide_eq_false h6; have q7 : decide (1048575 < s.pha) = false := decide_eq_false h7; have p0 : decide (s.pts.length < 1) = false := decide_eq_false (by omega); have p1 : decide (64 < s.pts.length) = false := decide_eq_false (by omega); have HV := VZ (s := s) (by omega); rw [HV] at e; clear HV; cases hk : vF s.pts with
         | false =>
          have HK := Lib.hid (show vF s.pts = !true from hk); obtain rfl : b = false := by rw [← e, hk]; rfl
          clear e hk; go_enter Tryz.func16, Tryz.ntmps16
          go_upto_region 0 with fail
          refine wp_region_lit ?_
          (refine zt (t := 30) rfl _ rfl _ rfl (z6 B ?_); clear B; intro b_r1 wn zb zd r1 za zf zk B; (try have zh := r1.lt); (try replace r1 := r1.below (za.mono zb)); (try have zh := rs.lt); (try replace rs := rs.below (za.mono zb)); simp only [zn])
          refine zy 1 ?_; refine wpList_nil ?_; go_upto_region 1 with fail
          refine wp_region_lit ?_; refine zy 2 ?_
          refine zw (by first | rfl | simp [Region.wanted, yielded]) rfl Tryz.underlying26 rfl ?_; simp only [zn]; refine zy 4 ?_
          refine zw (by first | rfl | simp [Region.wanted, yielded]) rfl Tryz.underlying26 rfl ?_; simp only [zn]; refine zy 32 ?_
          refine wpList_nil ?_; go_upto_region 3 with fail
          refine wp_region_lit ?_; refine zy 2 ?_
          refine qT (enters_of Tryz.func51 (by kernel_rfl) rfl) (c := Zn _ s.pts true _ rs hn HK.out) (h := ?_); rintro e wn ⟨rfl, za⟩; have zf := B.size; have zg := za.size; replace B := B.trans (za.mono B.size)
          (try replace r1 := r1.below za)
          (try replace rs := rs.below za)
          refine ⟨_, rfl, ?_⟩; simp only [zn]; refine wpList_nil ?_; go_upto_region 4 with fail
          refine wp_region_lit ?_; refine zy 1 ?_; refine wpList_nil ?_; go_wp2; go_ret; exact ⟨rfl, B⟩
         | true =>
          have HK := Lib.hid (show vF s.pts = !false from hk); have HO := Lib.hid (Jq hk); rw [hk, Bool.true_and] at e; have E := Lib.hid e; have HTT : 0 ≤ xX s.pts ∧ xX s.pts ≤ 189812544 := by
           have h1 := wN HO.out (s.pts.length - 1) (by omega); exact ⟨vo _ _, by show jr s.pts (s.pts.length - 1) ≤ _; omega⟩
          obtain ⟨t, ht⟩ : ∃ t, xX s.pts = t := ⟨_, rfl⟩; rw [ht] at E HTT; have HT := Lib.hid ht; clear e hk ht; go_enter Tryz.func16, Tryz.ntmps16
          go_upto_region 0 with fail
          refine wp_region_lit ?_
          (refine zt (t := 30) rfl _ rfl _ rfl (z6 B ?_); clear B; intro b_r1 wn zb zd r1 za zf zk B; (try have zh := r1.lt); (try replace r1 := r1.below (za.mono zb)); (try have zh := rs.lt); (try replace rs := rs.below (za.mono zb)); simp only [zn])
          refine zy 1 ?_; refine wpList_nil ?_; go_upto_region 1 with fail
          refine wp_region_lit ?_; refine zy 2 ?_
          refine zw (by first | rfl | simp [Region.wanted, yielded]) rfl Tryz.underlying26 rfl ?_; simp only [zn]; refine zy 4 ?_
          refine zw (by first | rfl | simp [Region.wanted, yielded]) rfl Tryz.underlying26 rfl ?_; simp only [zn]; refine zy 32 ?_
          refine wpList_nil ?_; go_upto_region 3 with fail
          refine wp_region_lit ?_; refine zy 2 ?_
          refine qT (enters_of Tryz.func51 (by kernel_rfl) rfl) (c := Zn _ s.pts false _ rs hn HK.out) (h := ?_); rintro e wn ⟨rfl, za⟩; have zf := B.size; have zg := za.size; replace B := B.trans (za.mono B.size)
          (try replace r1 := r1.below za)
          (try replace rs := rs.below za)
          refine ⟨_, rfl, ?_⟩; simp only [zn]; refine wpList_nil ?_; go_upto_region 5 with fail
          try have lx_r1 := r1.lt
          try have lx_rs := rs.lt
          refine zF 11 [(2, zE ?v1_2)] (by kernel_rfl) (by kernel_rfl) (by kernel_rfl) ?_
          rotate_left 1
          simp only [jK, Nat.reduceAdd]; refine vT 2 ?_
          refine zz (by rfl) (by first | rfl | simp [Region.wanted, yielded]) ?_ ?_
          ·intro wn za hE Kx hKx
           have zf := B.size; have zg := za.size; replace B := B.trans (za.mono B.size)
           (try replace r1 := r1.below za)
           (try replace rs := rs.below za)
           refine zG rfl (enters_of Tryz.func54 (by kernel_rfl) rfl) (by simp only [Act.eval, qo]; rfl) ?_
           refine (Vu _ s.pts t wn rs (by omega) HO.out HT.out).mono ?_; rintro e wm ⟨rfl, zl⟩; refine ⟨_, rfl, ?_⟩; have hz := hKx () wm trivial zl
           dsimp only [zE] at hz
           exact hz
          rintro ⟨⟩
          dsimp only [zE]
          simp only [zn]; refine vT 8 ?_
          refine zY ?_; intro wn za hE; have zf := B.size; have zg := za.size; replace B := B.trans (za.mono B.size); clear hE; try simp only [List.drop_succ_cons, List.drop_zero]
          refine zN.normal ?_; go_wp2; go_ret; exact ⟨by (rw [← E.out]) <;> rfl, B⟩
end Go.Proofs.YtepelndbbhdofaaGreatDoor
