import Derived.Test.YtepelndbbhdofaaGreatDoorKs2
import Derived.OrdersIn
import Derived.Sort.CutIn

/- Plain: a stroke divided at a point, a stroke shifted. -/
namespace Go.Proofs.YtepelndbbhdofaaGreatDoor
open Go.RowKit Pl
set_option linter.unusedVariables false
set_option linter.unusedSimpArgs false
theorem uB (l : List Sp) {n i : Nat} (h : i < n) : qR (l.take n) i = qR l i := by
 unfold qR
 rw [List.getD_eq_getElem?_getD, List.getD_eq_getElem?_getD, List.getElem?_take_of_lt h]
theorem uA (l : List Sp) (n i : Nat) : qR (l.drop n) i = qR l (n + i) := by
 unfold qR
 rw [List.getD_eq_getElem?_getD, List.getD_eq_getElem?_getD, List.getElem?_drop]
theorem wt (l : List Sp) (n : Nat) : ∀ k, k < n → qi (l.take n) k = qi l k
 | 0, _ => rfl
 | k + 1, h => by
  show qi (l.take n) k + yu (qR (l.take n) k) (qR (l.take n) (k + 1)) = qi l k + yu (qR l k) (qR l (k + 1))
  rw [wt l n k (by omega), uB l (by omega), uB l h]
theorem wo (l : List Sp) (n : Nat) : ∀ k, qi (l.drop n) k = qi l (n + k) - qi l n
 | 0 => by show (0 : Int) = qi l n - qi l n; omega
 | k + 1 => by
  show qi (l.drop n) k + yu (qR (l.drop n) k) (qR (l.drop n) (k + 1)) = qi l (n + k) + yu (qR l (n + k)) (qR l (n + k + 1)) - qi l n
  rw [wo l n k, uA, uA, ← Nat.add_assoc]; omega
/-- The phase behind the point. -/
def uC (s : qv) (at_ : Nat) : Int :=
 if s.pha - jI (s.pts.take (at_ + 1)) < 0 then s.pha - jI (s.pts.take (at_ + 1)) + (s.spa - 1 - (s.pha - jI (s.pts.take (at_ + 1)))) / s.spa * s.spa
 else s.pha - jI (s.pts.take (at_ + 1))
def u7 (s : qv) (at_ : Nat) : qv := { s with pts := s.pts.take (at_ + 1) }
def uh (s : qv) (at_ : Nat) : qv := { s with pts := s.pts.drop at_, pha := uC s at_ }
section
variable {s : qv} {at_ : Nat}
theorem vQ (ha : at_ < s.pts.length) : jI (s.pts.take (at_ + 1)) = qi s.pts at_ := by
 unfold jI
 rw [List.length_take, show min (at_ + 1) s.pts.length - 1 = at_ by omega]
 exact wt _ _ _ (by omega)
theorem YH (ha : at_ < s.pts.length) : jI (s.pts.drop at_) = jI s.pts - qi s.pts at_ := by
 unfold jI
 rw [List.length_drop, wo, show at_ + (s.pts.length - at_ - 1) = s.pts.length - 1 by omega]
theorem uD (h : uQ s) (ha : at_ < s.pts.length) : uC s at_ = s.pha + (ceilN (qi s.pts at_) s.pha s.spa : Nat) * s.spa - qi s.pts at_ := by
 have hs := h.s1
 unfold uC
 rw [vQ ha]
 have e : ceilN (qi s.pts at_) s.pha s.spa = ((qi s.pts at_ - s.pha + s.spa - 1) / s.spa).toNat := rfl
 split
 ·rename_i k
  have h1 : (s.spa - 1 - (s.pha - qi s.pts at_)) = qi s.pts at_ - s.pha + s.spa - 1 := by omega
  have h0 : 0 ≤ (qi s.pts at_ - s.pha + s.spa - 1) / s.spa := Int.ediv_nonneg (by omega) (by omega); rw [h1, e, Int.toNat_of_nonneg h0]; omega
 ·rename_i k
  have : ceilN (qi s.pts at_) s.pha s.spa ≤ 0 := by
   rw [ul hs]; omega
  have h0 : ceilN (qi s.pts at_) s.pha s.spa = 0 := by omega
  rw [h0]; omega
theorem zaZ {t p a : Int} (ha : 1 ≤ a) : t ≤ p + (ceilN t p a : Nat) * a := (ul ha).1 (Nat.le_refl _)
theorem Ka {t p a : Int} (ha : 1 ≤ a) (h : 0 < ceilN t p a) : p + (ceilN t p a : Nat) * a < t + a := by
 obtain ⟨k, hk⟩ : ∃ k, ceilN t p a = k + 1 := ⟨ceilN t p a - 1, by omega⟩
 have := (yt (t := t) (p := p) ha (k := k)).1 (by omega)
 rw [hk]
 have e : ((k + 1 : Nat) : Int) * a = k * a + a := by rw [Int.natCast_add, Int.add_mul]; omega
 omega
theorem zca (h : uQ s) (ha : at_ < s.pts.length) : uQ (u7 s at_) := by
 have hp := ws s.pts (show at_ ≤ s.pts.length - 1 by omega)
 have hf := h.fit
 have h2 := h.l2
 refine ⟨?_, ?_, h.r1, h.r2, h.s1, h.s2, h.p1, h.p2, fun a k => h.ok a (List.mem_of_mem_take k), ?_⟩
 ·show 1 ≤ (s.pts.take (at_ + 1)).length
  rw [List.length_take]; omega
 ·show (s.pts.take (at_ + 1)).length ≤ 64
  rw [List.length_take]; omega
 ·show jI (s.pts.take (at_ + 1)) - s.pha ≤ 1024 * s.spa
  rw [vQ ha]; have : jI s.pts = qi s.pts (s.pts.length - 1) := rfl; omega
theorem zdx (h : uQ s) (ha : at_ < s.pts.length) : 0 ≤ uC s at_ ∧ uC s at_ ≤ 1048575 := by
 have hs := h.s1
 have hs2 := h.s2
 have hp2 := h.p2
 have hq := (h.pre ha).1
 rw [uD h ha]
 have h1 := zaZ (t := qi s.pts at_) (p := s.pha) hs
 refine ⟨by omega, ?_⟩
 rcases Nat.eq_zero_or_pos (ceilN (qi s.pts at_) s.pha s.spa) with k | k
 ·rw [k]; omega
 ·have := Ka hs k
  omega
theorem zcb (h : uQ s) (ha : at_ < s.pts.length) : uQ (uh s at_) := by
 have hs := h.s1
 have hf := h.fit
 have h2 := h.l2
 obtain ⟨p1, p2⟩ := zdx h ha
 refine ⟨?_, ?_, h.r1, h.r2, h.s1, h.s2, p1, p2, fun a k => h.ok a (List.mem_of_mem_drop k), ?_⟩
 ·show 1 ≤ (s.pts.drop at_).length
  rw [List.length_drop]; omega
 ·show (s.pts.drop at_).length ≤ 64
  rw [List.length_drop]; omega
 ·show jI (s.pts.drop at_) - uC s at_ ≤ 1024 * s.spa
  rw [YH ha, uD h ha]; have : 0 ≤ ((ceilN (qi s.pts at_) s.pha s.spa : Nat) : Int) * s.spa := Int.mul_nonneg (by omega) (by omega); omega
theorem JP (ha : at_ < s.pts.length) : (u7 s at_).pts.length = at_ + 1 := by
 show (s.pts.take (at_ + 1)).length = _
 rw [List.length_take]; omega
theorem JQ : (uh s at_).pts.length = s.pts.length - at_ := List.length_drop
theorem Vf (ha : at_ < s.pts.length) (h1 : 1 ≤ at_) : jg (u7 s at_) = ceilN (qi s.pts at_) s.pha s.spa := by
 unfold jg
 rw [JP ha, if_neg (by omega)]
 show ceilN (jI (s.pts.take (at_ + 1))) s.pha s.spa = _
 rw [vQ ha]
theorem Wj (h : uQ s) (h1 : 1 ≤ at_) (h2 : at_ + 2 ≤ s.pts.length) : jg s = jg (u7 s at_) + jg (uh s at_) := by
 have hs := h.s1
 have ha : at_ < s.pts.length := by omega
 have eB : jg (uh s at_) = ceilN (jI s.pts - qi s.pts at_) (uC s at_) s.spa := by
  unfold jg; rw [JQ, if_neg (by omega)]; show ceilN (jI (s.pts.drop at_)) (uC s at_) s.spa = _
  rw [YH ha]
 have eS : jg s = ceilN (jI s.pts) s.pha s.spa := by unfold jg; rw [if_neg (by omega)]
 rw [eS, Vf ha h1, eB, uD h ha]
 have hp : qi s.pts at_ ≤ jI s.pts := ws s.pts (by omega)
 generalize jI s.pts = t at *
 generalize qi s.pts at_ = p at *
 generalize s.pha = q at *
 generalize s.spa = a at *
 obtain ⟨m, hm⟩ : ∃ m, ceilN p q a = m := ⟨_, rfl⟩
 rw [hm]
 have key : ∀ k, k < ceilN t q a ↔ k < m + ceilN (t - p) (q + (m : Int) * a - p) a := by
  intro k; rw [yt hs]; by_cases hk : k < m
  ·have := (yt (t := p) (p := q) hs (k := k)).1 (by omega)
   constructor
   ·intro _; omega
   ·intro _; omega
  ·obtain ⟨j, rfl⟩ : ∃ j, k = m + j := ⟨k - m, by omega⟩
   have := yt (t := t - p) (p := q + (m : Int) * a - p) hs (k := j); have e : ((m + j : Nat) : Int) * a = m * a + j * a := by rw [Int.natCast_add, Int.add_mul]
   rw [e]
   constructor
   ·intro g
    have := this.2 (by omega); omega
   ·intro g
    have := this.1 (by omega); omega
 have k1 := key (ceilN t q a)
 have k2 := key (m + ceilN (t - p) (q + (m : Int) * a - p) a)
 omega
theorem zc0 (h : uQ s) (ha : at_ < s.pts.length) (h1 : 1 ≤ at_) (h2 : at_ + 2 ≤ s.pts.length) {k : Nat} (hk : k < jg (u7 s at_)) : jK (u7 s at_) k = jK s k := by
 obtain ⟨j, j1, j2, j3, e⟩ := JG (zca h ha) (by rw [JP ha]; omega) hk
 rw [JP ha] at j1
 have p1 : qi (u7 s at_).pts j = qi s.pts j := wt _ _ _ (by omega)
 have p2 : qi (u7 s at_).pts (j + 1) = qi s.pts (j + 1) := wt _ _ _ (by omega)
 have q1 : qR (u7 s at_).pts j = qR s.pts j := uB _ (by omega)
 have q2 : qR (u7 s at_).pts (j + 1) = qR s.pts (j + 1) := uB _ (by omega)
 rw [p1] at j2
 rw [p2] at j3
 rw [e, p1, q1, q2]
 exact (JF (s := s) (by omega) (by omega) j2 j3).symm
theorem zc1 (h : uQ s) (h1 : 1 ≤ at_) (h2 : at_ + 2 ≤ s.pts.length) {k : Nat} (hk : k < jg (uh s at_)) : jK (uh s at_) k = jK s (jg (u7 s at_) + k) := by
 have ha : at_ < s.pts.length := by omega
 obtain ⟨j, j1, j2, j3, e⟩ := JG (zcb h ha) (by rw [JQ]; omega) hk
 rw [JQ] at j1
 have p1 : qi (uh s at_).pts j = qi s.pts (at_ + j) - qi s.pts at_ := wo _ _ _
 have p2 : qi (uh s at_).pts (j + 1) = qi s.pts (at_ + j + 1) - qi s.pts at_ := wo _ _ _
 have q1 : qR (uh s at_).pts j = qR s.pts (at_ + j) := uA _ _ _
 have q2 : qR (uh s at_).pts (j + 1) = qR s.pts (at_ + j + 1) := uA _ _ _
 have hph : (uh s at_).pha = s.pha + (jg (u7 s at_) : Nat) * s.spa - qi s.pts at_ := by
  rw [Vf ha h1]; exact uD h ha
 have hsp : (uh s at_).spa = s.spa := rfl
 have em : ((jg (u7 s at_) + k : Nat) : Int) * s.spa = (jg (u7 s at_) : Nat) * s.spa + k * s.spa := by rw [Int.natCast_add, Int.add_mul]
 rw [p1, hph, hsp] at j2
 rw [p2, hph, hsp] at j3
 rw [e, p1, q1, q2, hph, hsp]
 have := JF (s := s) (k := jg (u7 s at_) + k) (j := at_ + j) (by omega) (by omega) (by omega) (by omega)
 rw [this]
 show Kd s _ _ _ _ = Kd s _ _ _ _
 congr 1
 omega
/-- The dabs of the halves are those of the stroke. -/
theorem Ke (h : uQ s) (h1 : 1 ≤ at_) (h2 : at_ + 2 ≤ s.pts.length) : jY (u7 s at_) ++ jY (uh s at_) = jY s := by
 have ha : at_ < s.pts.length := by omega
 unfold jY
 rw [Wj h h1 h2, List.range_add, List.map_append, List.map_map]
 congr 1
 ·exact List.map_congr_left fun k hk => zc0 h ha h1 h2 (List.mem_range.1 hk)
 ·exact List.map_congr_left fun k hk => zc1 h h1 h2 (List.mem_range.1 hk)
end
/-! ### Shifted -/
def shP (X Y : Int) (a : Sp) : Sp := ⟨a.x + 16 * X, a.y + 16 * Y, a.p⟩
def shS (X Y : Int) (s : qv) : qv := { s with pts := s.pts.map (shP X Y) }
def shD (X Y : Int) (d : Db) : Db := ⟨d.x + 16 * X, d.y + 16 * Y, d.r⟩
section
variable {s : qv} {X Y : Int}
end
/- Plain: coverage by a disk, a straight stroke, erasing. -/
/-! ### Disk -/
/-- A stroke of one point: its area. -/
def zhq (x y r : Int) : qv := ⟨[⟨x, y, 255⟩], r, 1, Px.zero, false, 0⟩
/-! ### A straight stroke -/
def zhy (n r a p q c : Int) : qv := ⟨[⟨0, 0, q⟩, ⟨n, 0, c⟩], r, a, Px.zero, false, p⟩
section
variable {n r a p q c : Int}
end
/-! ### Erasing -/
/-- What erasing keeps. -/
def V0 (a b : Px) : Prop := b.a ≤ a.a ∧ (b.a = 0 ∨ (b.r = a.r ∧ b.g = a.g ∧ b.b = a.b))
theorem V0.refl (a : Px) : V0 a a := ⟨Int.le_refl _, .inr ⟨rfl, rfl, rfl⟩⟩
theorem V0.trans {a b c : Px} (h0 : 0 ≤ c.a) (h : V0 a b) (k : V0 b c) : V0 a c := by
 refine ⟨Int.le_trans k.1 h.1, ?_⟩
 rcases k.2 with k2 | ⟨k2, k3, k4⟩
 ·exact .inl k2
 ·rcases h.2 with h2 | ⟨h2, h3, h4⟩
  ·have := k.1
   exact .inl (by omega)
  ·exact .inr ⟨by omega, by omega, by omega⟩
end Go.Proofs.YtepelndbbhdofaaGreatDoor
/- Contract of the reference's Same at equal images. -/
namespace Go.Proofs.YtepelndbbhdofaaGreatDoor
open Go.RowKit Go.Shelf Pl
set_option linter.unusedVariables false
set_option linter.unusedSimpArgs false
set_option maxRecDepth 20000
/- Contract of the reference's Image. -/
def shC (c : Rc) (u : Value) (n : Int) : Array Value := #[.int .i64 c.x0, .int .i64 c.y0, .int .i64 c.x1, .int .i64 c.y1, u, .int .i64 n]
section
variable {o : Oper} {a : Act} {C : World → Prop} {K : Act → Prop}
end
theorem zeA {c : Rc} (hf : j0 c) {k j : Nat} (hj : j < widN c) : vx c (widN c * k + j) = c.x0 + (j : Int) ∧ vy c (widN c * k + j) = c.y0 + (k : Int) := by
 have hw := (xQ hf).2
 unfold vx vy
 rw [Nat.mul_add_mod, Nat.mod_eq_of_lt hj, Nat.mul_add_div hw, Nat.div_eq_of_lt hj, Nat.add_zero]
 exact ⟨rfl, rfl⟩
theorem zW.chgB {α : Type} {k : Nat} {T S : TypeId} {E : ZQ α k T S} {B b : Nat} {v : Value} {ls : List α} {w w' : World} (h : zW E B v ls w) (hc : qN b w w') (hne : ∀ k, v.ownBlock = some k → k ≠ b) : zW E B v ls w' := by
 refine World.ownsRow.kept (row := some b) h ⟨hc.os, hc.tape, hc.output, hc.size, fun k hk hn => hc.block k hk (fun e => hn (by rw [e]))⟩ ?_
 cases hv : v.ownBlock with
 | none => exact .inl rfl
 | some k =>
  right
  intro e
  injection e with e
  exact hne k hv e
/- The positions of a rectangle's tiles: the reference's Tiles. -/
def psE : ZQ (Int × Int) 2 95 90 where
 enc := fun p => #[.int .i64 p.1, .int .i64 p.2]
 bytes := 16
 zero := (0, 0)
 size := fun _ => rfl
 one := fun x u hu => by
  have : u ∈ [Value.int .i64 x.1, .int .i64 x.2] := hu; simp at this
  rcases this with rfl | rfl <;> rfl
 pos := by omega
 small := by omega
 und := Tryz.underlying90
 info := by kernel_rfl
 zer := by kernel_rfl
theorem zeT {c : Rc} (hf : j0 c) {k j : Nat} (hj : j < widN (wB c)) : u5 c (widN (wB c) * k + j) = (c.x0 / 8 + (j : Int), c.y0 / 8 + (k : Int)) := by
 obtain ⟨h1, h2⟩ := zeA (kZ hf) (k := k) hj
 unfold u5
 rw [h1, h2]
 rfl
end Go.Proofs.YtepelndbbhdofaaGreatDoor
/- Regions within a round of a range over a function: walked as anywhere. What a loop's body keeps. -/
namespace Go.Proofs.YtepelndbbhdofaaGreatDoor
open Go.RowKit
set_option linter.unusedVariables false
set_option linter.unusedSimpArgs false
/-- The walk goes on, and in no other way. -/
def ql (K : Act → World → Prop) : Exit → Act → World → Prop
 | .normal, a, w => K a w
 | _, _, _ => False
theorem ql.out (K : Act → World → Prop) : ¬ LetsOut (ql K) := fun ⟨_, _, h⟩ => h
theorem ql.at {K : Act → World → Prop} {a : Act} {w : World} (h : K a w) : ql K .normal a w := h
def we (l : List Oper) : Bool := l.all fun o => match o.op with
 | .defer _ => false
 | _ => true
theorem kQ {l : List Oper} (h : we l = true) {o : Oper} (ho : o ∈ l) : ∀ c, o.op ≠ .defer c := fun c e => by
 have := List.all_eq_true.1 h o ho
 rw [e] at this
 cases this
section
variable {P : Program} {r n : Nat}
theorem VG {o : Oper} {a : Act} {w : World} {K K' : Act → World → Prop} {M : Act → World → Prop} {Q : Exit → Act → World → Prop} (hd : ∀ c, o.op ≠ .defer c) (hK : ∀ a w, K' a w → K a w) (h : o.wp P a w K' (ql M)) : o.wpIn (Fence.wide.inRound r) n P a w K Q := by
 refine ⟨fun _ _ => trivial, ?_⟩
 rw [Oper.semAt_eq _ _ _ hd]
 unfold Oper.wp at h
 generalize (execOp a.eval o).run P w = z at *
 cases z with
 | ok x w' =>
  cases x with
  | value v => exact hK _ _ h
  | skip => exact hK _ _ h
  | defer d => exact hK _ _ h
  | enter f args =>
   refine ⟨fun h => (by cases h), CallsIn.inRound r (callsIn_wide.2 (Calls.mono h fun e w'' he => ?_))⟩; cases e with
   | returned v => exact hK _ _ he
   | panicked c => exact he.elim
   | outgrown => exact absurd he (ql.out M)
  | row s args =>
   refine ⟨fun h => (by cases h), fun c cs _ => ?_⟩; obtain ⟨v, w'', h1, h2⟩ := h c cs; exact ⟨v, w'', hK _ _ h1, stepsIn_wide.2 h2⟩
  | _ => exact absurd h (by simp [Oper.upon])
 | halt x w' =>
  cases x with
  | panic v => exact absurd h (by simp [Oper.upon, ql])
  | _ => exact absurd h (by simp [Oper.upon])
theorem Zw {ops : Array Oper} {K : Act → World → Prop} {Q : Exit → Act → World → Prop} (hK : ∀ a w, K a w → Q .normal a w) : ∀ (l : List Oper) (a : Act) (w : World), (∀ o ∈ l, ∀ c, o.op ≠ .defer c) → wpList P ops (ql K) l a w → wpListIn (Fence.wide.inRound r) n P ops Q l a w
 | [], a, w, _, h => hK _ _ h
 | o :: rest, a, w, hd, h => by
  unfold wpList at h; unfold wpListIn; have ih := Zw (ops := ops) hK rest; by_cases hw : Region.wanted o (yielded ops a.tmps) = true
  ·rw [if_pos hw] at h ⊢
   rcases h with h | h
   ·exact VG (hd o (List.mem_cons_self ..)) (fun a w hh => ih a w (fun o ho => hd o (List.mem_cons_of_mem _ ho)) hh) h
   ·exact absurd h.2 (ql.out K)
  ·rw [if_neg hw] at h ⊢
   exact ⟨fun _ _ => trivial, ih _ _ (fun o ho => hd o (List.mem_cons_of_mem _ ho)) h⟩
/-- A region within a round. -/
theorem zA {id : Nat} {l : List Oper} {Q : Exit → Act → World → Prop} {a : Act} {w : World} (hd : we l = true) (h : wpList P l.toArray (ql fun a w => Q .normal a w) l a w) : (Code.region id l.toArray false).wpIn (Fence.wide.inRound r) n P Q a w :=
 wpIn_region_lit (Zw (fun _ _ h => h) l a w (fun o ho => kQ hd ho) h)
theorem zaa {ops : Array Oper} {K K' M : Act → World → Prop} {Q : Exit → Act → World → Prop} (hd : ∀ o ∈ ops.toList, ∀ c, o.op ≠ .defer c) (hK : ∀ a w, K' a w → K a w) {i : Nat} {a : Act} {w : World} (h : wpOp P ops (ql M) i K' a w) : wpOpIn (Fence.wide.inRound r) n P ops Q i K a w := by
 unfold wpOp at h
 unfold wpOpIn
 cases ho : ops[i]? with
 | none => rw [ho] at h; exact hK _ _ h
 | some o =>
  rw [ho] at h; simp only at h ⊢; by_cases hw : Region.wanted o (yielded ops a.tmps) = true
  ·rw [if_pos hw] at h ⊢
   rcases h with h | h
   ·exact VG (hd o (by rw [Array.mem_toList_iff]; exact Array.mem_of_getElem? ho)) hK h
   ·exact absurd h.2 (ql.out M)
  ·rw [if_neg hw] at h ⊢
   exact ⟨fun _ _ => trivial, hK _ _ h⟩
theorem QE {ops : Array Oper} {md : Region.Mode} {K : Act → World → Prop} {Q : Exit → Act → World → Prop} (hd : ∀ o ∈ ops.toList, ∀ c, o.op ≠ .defer c) (hK : ∀ a w, K a w → Q .normal a w) : ∀ (f : Nat) (done : Array Bool) (a : Act) (w : World), wpAny P md ops (ql K) f done a w → wpAnyIn (Fence.wide.inRound r) n P md ops Q f done a w
 | 0, _, _, _, h => ⟨h.1, hK _ _ h.2⟩
 | f + 1, done, a, w, h => ⟨fun h0 => hK _ _ (h.1 h0), fun i hi => zaa hd (fun a w hh => QE hd hK f _ a w hh) (h.2 i hi)⟩
/-- A region that draws its order, within a round. -/
theorem WQ {id : Nat} {l : List Oper} {Q : Exit → Act → World → Prop} {a : Act} {w : World} (hm : P.follows .mixedOrders = true) (hd : we l = true) (h : wpAny P .any l.toArray (ql fun a w => Q .normal a w) l.toArray.size (Array.replicate l.toArray.size false) a w.drew) : (Code.region id l.toArray true).wpIn (Fence.wide.inRound r) n P Q a w :=
 wpIn_region_any hm (QE (fun o ho => kQ hd (by simpa using ho)) (fun _ _ h => h) _ _ _ _ h)
end
/-! ### What a body keeps that turns one block b of cells -/
structure QK (b : Nat) (W W' : World) : Prop where
 size : W.heap.size ≤ W'.heap.size
 same : ∀ (k : Nat) (o : Obj), k ≠ b → W.heap[k]? = some o → o.isCells = true → W'.heap[k]? = some o
theorem QK.trans {b : Nat} {X Y Z : World} (h : QK b X Y) (k : QK b Y Z) : QK b X Z := ⟨Nat.le_trans h.size k.size, fun i o hi ho hc => k.same i o hi (h.same i o hi ho hc) hc⟩
theorem QK.refl (b : Nat) (W : World) : QK b W W := ⟨Nat.le_refl _, fun _ _ _ h _ => h⟩
theorem QK.putObj (b : Nat) {W : World} {l : Nat} {o : Obj} (o' : Obj) (hl : W.heap[l]? = some o) (ho : o.isCells = false) : QK b W (W.putObj l o') :=
 ⟨by simp [World.putObj], fun k x hk hx hc => by
  have : k ≠ l := fun e => by rw [e, hl] at hx; cases hx; rw [ho] at hc; cases hc
  exact (World.putObj_heap_other (by omega)).trans hx⟩
theorem QK.chg {b : Nat} {W W' : World} (h : qN b W W') : QK b W W' :=
 ⟨h.size, fun k o hk ho _ => (h.block k (Array.getElem?_eq_some_iff.1 ho).1 hk).trans ho⟩
theorem QK.atB {b k : Nat} {t : TypeId} {cs : Array Value} {W W' : World} (h : QK b W W') (hk : k ≠ b) (ha : zF t W k cs) : zF t W' k cs := h.same k _ hk ha rfl
theorem KeepsFrom.chg {B b : Nat} {W W' : World} (h : qN b W W') (hb : b < B) : KeepsFrom B W W' :=
 ⟨h.size, fun k o hB hk _ => (h.block k (Array.getElem?_eq_some_iff.1 hk).1 (by omega)).trans hk⟩
theorem xf {W W' : World} (h : Below W.heap.size W W') : W.grownBy W' none :=
 ⟨h.os, h.tape, h.output, h.size, fun k hk _ => h.block k hk⟩
theorem AbidesFrom.below {β : Type} {B : Nat} {J : β → World → Prop} (h : AbidesFrom B J) {s : β} {W W' : World} (hs : J s W) (hb : Below W.heap.size W W') : J s W' :=
 h s W W' none hs (xf hb) (fun r e => by cases e)
/-! ### Facts of cells abide the turn of what is no cells -/
theorem zF.own {t : TypeId} {A B : World} {b : Nat} {cs : Array Value} {row : Option Nat} (h : zF t A b cs) (hg : A.grownBy B row) (hr : ∀ r, row = some r → ∃ o : Obj, A.heap[r]? = some o ∧ o.isCells = false) : zF t B b cs :=
 (hg.block b h.lt (fun e => by
  obtain ⟨o, ho, hc⟩ := hr b e.symm; rw [show A.heap[b]? = _ from h] at ho; cases ho
  cases hc)).trans h
theorem Z7 {w : World} {g o : Nat} {v : Value} (h : w.cell? ⟨g, o, none⟩ = some v) : ∀ x : Obj, w.heap[g]? = some x → x.isCells = true := fun x hx => by
 unfold World.cell? at h
 simp only [hx] at h
 cases x <;> first | rfl | (simp at h)
theorem yP {n : Nat} {w A B : World} {row : Option Nat} (h : Below n w A) (hn : n ≤ A.heap.size) (hg : A.grownBy B row) (hr : ∀ r, row = some r → n ≤ r) : Below n w B :=
 ⟨hg.os.trans h.os, hg.tape.trans h.tape, hg.output.trans h.output, Nat.le_trans h.size hg.size, fun k hk => (hg.block k (by omega) (fun e => by have := hr k e.symm; omega)).trans (h.block k hk)⟩
end Go.Proofs.YtepelndbbhdofaaGreatDoor
/- Paste of package raster: what it does to one pixel; the iterator over the tiles of a rectangle. -/
namespace Go.Proofs.YtepelndbbhdofaaGreatDoor
open Go.RowKit Go.Shelf Pl
set_option linter.unusedVariables false
set_option linter.unusedSimpArgs false
set_option maxRecDepth 20000
theorem ZS (r : Rc) (b : Bool) (w : World) (e : qo r = b) : Calls Tryz.prog 45 #[.agg (jV r)] w fun e w' => e = .returned (.bool b) ∧ Below w.heap.size w w' := by
 subst e
 exact xD r w
theorem zax (r : Rc) (x y : Int) (b : Bool) (w : World) (e : js r x y = b) : Calls Tryz.prog 25 #[.agg (jV r), .agg #[.int .i64 x, .int .i64 y]] w fun e w' => e = .returned (.bool b) ∧ Below w.heap.size w w' := by
 subst e
 exact KW r x y w
theorem yD (x y : Int) (w : World) (hx : (Lit.int .i64 x).wf = true) (hy : (Lit.int .i64 y).wf = true) : Calls Tryz.prog 81 #[.agg #[.int .i64 x, .int .i64 y]] w fun e w' => e = .returned (.agg #[.int .i64 (x / 8), .int .i64 (y / 8)]) ∧ Below w.heap.size w w' := ze7 x y w hx hy
theorem zav (p : Px) (w : World) (hp : p.ok) : Calls Tryz.prog 123 #[Px.v p] w fun e w' => e = .returned (Px.v (jf p)) ∧ Below w.heap.size w w' := Jq p w hp
set_option maxHeartbeats 2000000 in
theorem zaC (c : Rc) (hf : j0 c) (L : List Px) (hL : L.length = areaN c) (okL : V3 L) (x y : Int) (p : Px) (hp : p.ok) (bc bm g o cp : Nat) (w : World) (r0 : zF 38 w bc (jV c)) (m0 : zF 117 w bm (xg c (.slice (some ⟨g, o, none⟩) (areaN c) cp))) (ce : zK ka g o L w) :
  Calls Tryz.prog 131 #[.int .i64 x, .int .i64 y, Px.v p, .pointer (some ⟨bc, 0, none⟩), .pointer (some ⟨bm, 0, none⟩)] w fun e w' => e = .returned (Px.v (ZB c L x y p)) ∧ Below w.heap.size w w' := by
 have B := Below.refl w.heap.size w
 have hb1 := r0.lt
 have hb2 := m0.lt
 have hb3 := ce.lt
 have OKL := Lib.hid okL
 cases hh : js c x y with
 | true =>
  have e1 := Lib.hid (show ZB c L x y p = jf (Qj c L x y) from by unfold ZB; rw [hh]; rfl)
  obtain ⟨m1, m2, m3, m4⟩ := Vn hf hh; have hix : (yI c x y).toNat < L.length := by rw [hL]; exact m4
  have hpx : L[(yI c x y).toNat]? = some (Qj c L x y) := by
   unfold Qj; rw [List.getD_eq_getElem?_getD, List.getElem?_eq_getElem hix]
   rfl
  have hok := Lib.hid (VJ okL (c := c) x y)
  generalize Qj c L x y = pp at *
  have hh2 := of_decide_eq_true hh; obtain ⟨g1, g2, g3, g4⟩ := hh2; obtain ⟨a1, a2, a3, a4, a5, a6, a7, a8⟩ := hf; have hidx : (y - c.y0) * (c.x1 - c.x0) + x - c.x0 = yI c x y := rfl; have m5 : yI c x y < (areaN c : Int) := by omega
  have m6 : (areaN c : Int) ≤ 65536 := by
   unfold areaN; have := jL (a := c.x1 - c.x0) (b := c.y1 - c.y0) (m := 256) (k := 256) (by omega) (by omega) (by omega) (by omega); omega
  have HH := Lib.hid hh; clear okL hL hh; go_enter Tryz.func131, Tryz.ntmps131
  go_upto_region 0 with fail
  refine wp_region_lit ?_
  (refine yp rfl _ rfl _ rfl (zV B ?_); clear B; intro b_q7 wn zb zd q7 za zf zk B; (try have zh := r0.lt); (try replace r0 := r0.below (za.mono zb)); (try have zh := m0.lt); (try replace m0 := m0.below (za.mono zb)); (try have zh := ce.lt); (try replace ce := ce.below (za.mono zb)); simp only [zn])
  (refine qn rfl rfl (zV B ?_); clear B; intro b_q8 wn zb zd q8 za zf zk B; (try have zh := r0.lt); (try replace r0 := r0.below (za.mono zb)); (try have zh := m0.lt); (try replace m0 := m0.below (za.mono zb)); (try have zh := ce.lt); (try replace ce := ce.below (za.mono zb)); (try have zh := q7.lt); (try replace q7 := q7.below (za.mono zb)); simp only [zn])
  refine wpList_nil ?_; go_upto_region 1 with fail
  refine wp_region_lit ?_; refine zx 4 ?_
  refine qE (enters_of Tryz.func25 (by kernel_rfl) rfl) (c := zax c x y true _ HH.out) (h := ?_); rintro e wn ⟨rfl, za⟩; have zf := B.size; have zg := za.size; replace B := B.trans (za.mono B.size)
  (try replace r0 := r0.below za)
  (try replace m0 := m0.below za)
  (try replace ce := ce.below za)
  (try replace q7 := q7.below za)
  (try replace q8 := q8.below za)
  refine ⟨_, rfl, ?_⟩; simp only [zn]; refine wpList_nil ?_; go_upto_region 2 with fail
  refine wp_region_lit ?_; refine jG 19 ?_
  repeat (first | go_big_quiet_skip | (go_big_quiet_want; first | ((first | refine zo (t := 115) rfl _ _ _ rfl (fun w hw => jR (wZ (zD m0 w hw))) (by first | rfl | omega) ?_ | refine zo (t := 28) rfl _ _ _ rfl (fun w hw => zbW (jt ce w hw) hpx) (by first | rfl | omega) ?_ | refine uH rfl _ rfl (zdZ q7) ?_ | refine qB ?_ | refine qC ?_); simp only [zn]; go_big_quiet_on) | (go_big_quiet_op; go_big_quiet_on)))
  refine wpQuiet_nil ?_; refine qE (enters_of Tryz.func123 (by kernel_rfl) rfl) (c := zav pp _ hok.out) (h := ?_); rintro e wn ⟨rfl, za⟩; have zf := B.size; have zg := za.size; replace B := B.trans (za.mono B.size)
  (try replace r0 := r0.below za)
  (try replace ce := ce.below za)
  (try replace q7 := q7.below za)
  (try replace q8 := q8.below za)
  refine ⟨_, rfl, ?_⟩; simp only [zn]
  (refine qh rfl _ _ rfl _ rfl (_) rfl q8 (qt B (by omega) ?_); clear q8 B; intro wn q8 ze zf zg B; (try replace r0 := r0.of_eq (ze.block _ r0.lt (by omega))); (try replace ce := ce.of_eq (ze.block _ ce.lt (by omega))); (try replace q7 := q7.of_eq (ze.block _ q7.lt (by omega))); simp only [zn])
  refine wpList_nil ?_; go_wp2; refine bodyPost_ret (jB rfl _ _ (b_q8) rfl q8) rfl ?_; exact ⟨by rw [e1.out], B⟩
 | false =>
  have e1 := Lib.hid (show ZB c L x y p = p from by unfold ZB; rw [hh]; rfl)
  have HH := Lib.hid hh; clear okL hL hh; go_enter Tryz.func131, Tryz.ntmps131
  go_upto_region 0 with fail
  refine wp_region_lit ?_
  (refine yp rfl _ rfl _ rfl (zV B ?_); clear B; intro b_q7 wn zb zd q7 za zf zk B; (try have zh := r0.lt); (try replace r0 := r0.below (za.mono zb)); (try have zh := m0.lt); (try have zh := ce.lt); (try replace ce := ce.below (za.mono zb)); (try have zh := q7.lt); (try replace q7 := q7.below (za.mono zb)); (try have zh := q8.lt); (try replace q8 := q8.below (za.mono zb)); simp only [zn])
  (refine qn rfl rfl (zV B ?_); clear B; intro b_q8 wn zb zd q8 za zf zk B; (try have zh := r0.lt); (try replace r0 := r0.below (za.mono zb)); (try have zh := m0.lt); (try have zh := ce.lt); (try replace ce := ce.below (za.mono zb)); (try have zh := q7.lt); (try replace q7 := q7.below (za.mono zb)); (try have zh := q8.lt); (try replace q8 := q8.below (za.mono zb)); simp only [zn])
  refine wpList_nil ?_; go_upto_region 1 with fail
  refine wp_region_lit ?_; refine zx 4 ?_
  refine qE (enters_of Tryz.func25 (by kernel_rfl) rfl) (c := zax c x y false _ HH.out) (h := ?_); rintro e wn ⟨rfl, za⟩; have zf := B.size; have zg := za.size; replace B := B.trans (za.mono B.size)
  (try replace ce := ce.below za)
  (try replace q7 := q7.below za)
  (try replace q8 := q8.below za)
  refine ⟨_, rfl, ?_⟩; simp only [zn]; refine wpList_nil ?_; go_upto_region 3 with fail
  refine wp_region_lit ?_; refine jG 1 ?_; repeat (first | go_big_quiet_skip | (go_big_quiet_want; first | ((first | refine zo (t := 28) rfl _ _ _ rfl (fun w hw => zbW (jt ce w hw) hpx) (by first | rfl | omega) ?_ | refine uH rfl _ rfl (zdZ q7) ?_ | refine qB ?_ | refine qC ?_); simp only [zn]; go_big_quiet_on) | (go_big_quiet_op; go_big_quiet_on)))
  refine wpQuiet_nil ?_
  (refine qh rfl _ _ rfl _ rfl (_) rfl q8 (qt B (by omega) ?_); clear q8 B; intro wn q8 ze zf zg B; simp only [zn])
  refine wpList_nil ?_; go_wp2; refine bodyPost_ret (jB rfl _ _ (b_q8) rfl q8) rfl ?_; exact ⟨by rw [e1.out], B⟩
theorem zcD (c : Rc) (w : World) : Calls Tryz.prog 129 #[.agg (jV c)] w fun e w' => ∃ b, e = .returned (.func (.func 163) #[] #[.pointer (some ⟨b, 0, none⟩)]) ∧ w.heap.size ≤ b ∧ zF 38 w' b (jV c) ∧ Below w.heap.size w w' := by
 have B := Below.refl w.heap.size w
 go_enter Tryz.func129, Tryz.ntmps129
 go_upto_region 0 with fail
 refine wp_region_lit ?_
 (refine zt (t := 38) rfl _ rfl _ rfl (zV B ?_); clear B; intro b_r1 wn zb zd r1 za zf zk B; simp only [zn])
 refine zx 1 ?_
 refine wpList_nil ?_
 go_wp2
 go_ret
 exact ⟨_, rfl, by omega, r1, B⟩
/- Image of both packages, whether the rectangle fits or not. -/
def imR (c : Rc) : Rc := if jr c = 0 then c else Rc.zero
def zg7 (c : Rc) (ks : List TA) : List Px := if jr c = 0 then Qc c ks else []
end Go.Proofs.YtepelndbbhdofaaGreatDoor
/- Contract of Paste of package raster. -/
namespace Go.Proofs.YtepelndbbhdofaaGreatDoor
open Go.RowKit Go.Shelf Pl
attribute [local go_sem] Oper.semAt_some
set_option linter.unusedVariables false
set_option linter.unusedSimpArgs false
set_option maxRecDepth 20000
theorem qA {w : World} {b : Nat} {c : Rc} {u : Value} (h : zF 117 w b (xg c u)) : (Instr.loadAt 38 (.pointer (some ⟨b, 0, none⟩))).run Tryz.prog w = .ok (.agg (jV c)) w :=
 yz (cs' := jV c) h 0 Tryz.isAgg38 (by kernel_rfl) (fun j hj => by
  have hj : j < 4 := hj; have hc : j = 0 ∨ j = 1 ∨ j = 2 ∨ j = 3 := by omega
  rcases hc with rfl | rfl | rfl | rfl <;> rfl)
theorem vW (r : Rc) (b : Bool) (w : World) (e : jN r = b) : Calls Tryz.prog 128 #[.agg (jV r)] w fun e w' => e = .returned (.bool b) ∧ Below w.heap.size w w' := e ▸ vE r w
theorem Jn (r : Rc) (n : Int) (w : World) (h : jN r = true) (e : vj r = n) : Calls Tryz.prog 125 #[.agg (jV r)] w fun e w' => e = .returned (.int .i64 n) ∧ Below w.heap.size w w' := e ▸ zaj r w h
theorem K5 (c : Rc) (n : Int) (w : World) (e : jr c = n) : Calls Tryz.prog 124 #[.agg (jV c)] w fun e w' => e = .returned (.int .i64 n) ∧ Below w.heap.size w w' := e ▸ zaJ c w
set_option maxHeartbeats 4000000 in
theorem Xu (v : Value) (ls : List TA) (c : Rc) (ad : Option Addr) (n cp : Nat) (w : World) (h : RS v ls w) (hn : n ≤ maxLen) (hV0 : jN c = false) : Calls Tryz.prog 77 #[.agg #[v], .agg (xg c (.slice ad n cp))] w fun e w' => e = .returned (.tuple #[.agg #[.slice none 0 0], .int .i64 1]) ∧ Below w.heap.size w w' := by
 have B := Below.refl w.heap.size w
 obtain ⟨a, cpv, rfl, hc⟩ := h.len
 clear h
 go_enter Tryz.func77, Tryz.ntmps77
 go_upto_region 0 with fail
 refine wp_region_lit ?_
 (refine zt (t := 64) rfl _ rfl _ rfl (zV B ?_); clear B; intro b_r2 wn zb zd r2 za zf zk B; simp only [zn])
 (refine zt (t := 117) rfl _ rfl _ rfl (zV B ?_); clear B; intro b_m3 wn zb zd m3 za zf zk B; (try have zh := r2.lt); (try replace r2 := r2.below (za.mono zb)); simp only [zn])
 (refine zr (t := 64) rfl _ (jp _ _ rfl) (zV B ?_); clear B; intro b_r4 wn zb zd r4 za zf zk B; (try have zh := r2.lt); (try replace r2 := r2.below (za.mono zb)); (try have zh := m3.lt); (try replace m3 := m3.below (za.mono zb)); simp only [zn])
 refine zx 1 ?_
 refine wpList_nil ?_
 go_upto_region 1 with fail
 refine wp_region_lit ?_
 refine jG 2 ?_
 repeat (first | go_big_quiet_skip | (go_big_quiet_want; first | ((first | refine zo (t := 38) rfl _ _ _ rfl (fun w hw => qA (zD m3 w hw)) (by first | rfl | omega) ?_ | refine qB ?_ | refine qC ?_); simp only [zn]; go_big_quiet_on) | (go_big_quiet_op; go_big_quiet_on)))
 refine wpQuiet_nil ?_
 (refine zr (t := 38) rfl _ (zY _ _ rfl) (zV B ?_); clear B; intro b_c6 wn zb zd c6 za zf zk B; (try have zh := r2.lt); (try replace r2 := r2.below (za.mono zb)); (try have zh := m3.lt); (try replace m3 := m3.below (za.mono zb)); (try have zh := r4.lt); (try replace r4 := r4.below (za.mono zb)); (try have zh := c6.lt); (try replace c6 := c6.below (za.mono zb)); simp only [zn])
 (refine zp (t := 38) rfl _ _ rfl _ rfl _ rfl c6 (by kernel_rfl) rfl (by simp [jV, xg, Value.oneCell']) (qt B (by omega) ?_); clear c6 B; intro wn c6 ze zf zg B; (try replace r2 := r2.of_eq (ze.block _ r2.lt (by omega))); (try replace m3 := m3.of_eq (ze.block _ m3.lt (by omega))); (try replace r4 := r4.of_eq (ze.block _ r4.lt (by omega))); simp only [zn])
 refine wpList_nil ?_
 replace c6 : zF 38 _ b_c6 (jV c) := c6
 go_upto_region 2 with fail
 try have lx_r2 := r2.lt
 try have lx_m3 := m3.lt
 try have lx_r4 := r4.lt
 try have lx_c6 := c6.lt
 refine zL 11 [(1, zP ?v1_1)] (by kernel_rfl) (by kernel_rfl) (by kernel_rfl) ?_
 rotate_left 1
 simp only [jU, Nat.reduceAdd]
 refine ug 1 ?_
 repeat (first | go_big_quiet_skip | (go_big_quiet_want; first | ((first | refine zo (t := 38) rfl _ _ _ rfl (fun w hw => qA (zD m3 w hw)) (by first | rfl | omega) ?_ | refine qB ?_ | refine qC ?_); simp only [zn]; go_big_quiet_on) | (go_big_quiet_op; go_big_quiet_on)))
 refine wpQuiet_nil ?_
 refine zz (by rfl) (by first | rfl | simp [Region.wanted, yielded]) ?_ ?_
 ·intro wn za hE Kx hKx
  have zf := B.size; have zg := za.size; replace B := B.trans (za.mono B.size)
  (try replace m3 := m3.below za)
  (try replace r4 := r4.below za)
  (try replace c6 := c6.below za)
  refine zS rfl (enters_of Tryz.func128 (by kernel_rfl) rfl) (by simp only [Act.eval, qI]; rfl) ?_
  refine (vW c false _ hV0).mono ?_; rintro e wm ⟨rfl, zl⟩; refine ⟨_, rfl, ?_⟩; have hz := hKx () wm trivial zl
  dsimp only [zP] at hz
  exact hz
 rintro ⟨⟩
 dsimp only [zP]
 simp only [zn]
 refine ug 4 ?_
 repeat (first | go_big_quiet_skip | (go_big_quiet_want; first | ((first | refine zo (t := 115) rfl _ _ _ rfl (fun w hw => jR (wZ (zD m3 w hw))) (by first | rfl | omega) ?_ | refine qB ?_ | refine qC ?_); simp only [zn]; go_big_quiet_on) | (go_big_quiet_op; go_big_quiet_on)))
 refine wpQuiet_nil ?_
 refine Zc ?hw1_6 ?_
 case hw1_6 => kernel_rfl
 simp only [zn]
 refine ug 1 ?_
 repeat (first | go_big_quiet_skip | (go_big_quiet_want; first | ((first | refine zo (t := 38) rfl _ _ _ rfl (fun w hw => qA (zD m3 w hw)) (by first | rfl | omega) ?_ | refine qB ?_ | refine qC ?_); simp only [zn]; go_big_quiet_on) | (go_big_quiet_op; go_big_quiet_on)))
 refine wpQuiet_nil ?_
 refine Zc ?hw1_8 ?_
 case hw1_8 => kernel_rfl
 simp only [zn]
 refine vC 2 ?_
 refine qz ?_
 intro wn za hE
 have zf := B.size
 have zg := za.size
 replace B := B.trans (za.mono B.size)
 (try replace r4 := r4.below za)
 clear hE
 try simp only [List.drop_succ_cons, List.drop_zero]
 refine zQ.normal ?_
 go_upto_region 3 with fail
 refine wp_region_lit ?_
 refine zx 1 ?_
 (refine zp (t := 64) rfl _ _ rfl _ rfl _ rfl r4 (by kernel_rfl) rfl (by simp [jV, xg, Value.oneCell']) (qt B (by omega) ?_); clear r4 B; intro wn r4 ze zf zg B; simp only [zn])
 refine zx 1 ?_
 refine wpList_nil ?_
 go_wp2
 refine bodyPost_ret (zJ (t := 64) rfl _ _ (b_r4) rfl _ rfl r4 Tryz.isAgg64 (by kernel_rfl)) rfl ?_
 exact ⟨rfl, B⟩
set_option maxHeartbeats 4000000 in
theorem Xv (v : Value) (ls : List TA) (c : Rc) (ad : Option Addr) (n cp : Nat) (w : World) (h : RS v ls w) (hn : n ≤ maxLen) (hV0 : jN c = true) (A : Int) (hA : vj c = A) (hlen : ¬ (n : Int) = A) : Calls Tryz.prog 77 #[.agg #[v], .agg (xg c (.slice ad n cp))] w fun e w' => e = .returned (.tuple #[.agg #[.slice none 0 0], .int .i64 1]) ∧ Below w.heap.size w w' := by
 have B := Below.refl w.heap.size w
 obtain ⟨a, cpv, rfl, hc⟩ := h.len
 have d1 : ((n : Int) != A) = true := by simpa using hlen
 have HA := Lib.hid hA
 clear h hA
 go_enter Tryz.func77, Tryz.ntmps77
 go_upto_region 0 with fail
 refine wp_region_lit ?_
 (refine zt (t := 64) rfl _ rfl _ rfl (zV B ?_); clear B; intro b_r2 wn zb zd r2 za zf zk B; simp only [zn])
 (refine zt (t := 117) rfl _ rfl _ rfl (zV B ?_); clear B; intro b_m3 wn zb zd m3 za zf zk B; (try have zh := r2.lt); (try replace r2 := r2.below (za.mono zb)); simp only [zn])
 (refine zr (t := 64) rfl _ (jp _ _ rfl) (zV B ?_); clear B; intro b_r4 wn zb zd r4 za zf zk B; (try have zh := r2.lt); (try replace r2 := r2.below (za.mono zb)); (try have zh := m3.lt); (try replace m3 := m3.below (za.mono zb)); simp only [zn])
 refine zx 1 ?_
 refine wpList_nil ?_
 go_upto_region 1 with fail
 refine wp_region_lit ?_
 refine jG 2 ?_
 repeat (first | go_big_quiet_skip | (go_big_quiet_want; first | ((first | refine zo (t := 38) rfl _ _ _ rfl (fun w hw => qA (zD m3 w hw)) (by first | rfl | omega) ?_ | refine qB ?_ | refine qC ?_); simp only [zn]; go_big_quiet_on) | (go_big_quiet_op; go_big_quiet_on)))
 refine wpQuiet_nil ?_
 (refine zr (t := 38) rfl _ (zY _ _ rfl) (zV B ?_); clear B; intro b_c6 wn zb zd c6 za zf zk B; (try have zh := r2.lt); (try replace r2 := r2.below (za.mono zb)); (try have zh := m3.lt); (try replace m3 := m3.below (za.mono zb)); (try have zh := r4.lt); (try replace r4 := r4.below (za.mono zb)); (try have zh := c6.lt); (try replace c6 := c6.below (za.mono zb)); simp only [zn])
 (refine zp (t := 38) rfl _ _ rfl _ rfl _ rfl c6 (by kernel_rfl) rfl (by simp [jV, xg, Value.oneCell']) (qt B (by omega) ?_); clear c6 B; intro wn c6 ze zf zg B; (try replace r2 := r2.of_eq (ze.block _ r2.lt (by omega))); (try replace m3 := m3.of_eq (ze.block _ m3.lt (by omega))); (try replace r4 := r4.of_eq (ze.block _ r4.lt (by omega))); simp only [zn])
 refine wpList_nil ?_
 replace c6 : zF 38 _ b_c6 (jV c) := c6
 go_upto_region 2 with fail
 try have lx_r2 := r2.lt
 try have lx_m3 := m3.lt
 try have lx_r4 := r4.lt
 try have lx_c6 := c6.lt
 refine zL 11 [(1, zP ?v2_1), (6, zP ?v2_6), (8, zP ?v2_8)] (by kernel_rfl) (by kernel_rfl) (by kernel_rfl) ?_
 rotate_left 3
 simp only [jU, Nat.reduceAdd]
 refine ug 1 ?_
 repeat (first | go_big_quiet_skip | (go_big_quiet_want; first | ((first | refine zo (t := 38) rfl _ _ _ rfl (fun w hw => qA (zD m3 w hw)) (by first | rfl | omega) ?_ | refine qB ?_ | refine qC ?_); simp only [zn]; go_big_quiet_on) | (go_big_quiet_op; go_big_quiet_on)))
 refine wpQuiet_nil ?_
 refine zz (by rfl) (by first | rfl | simp [Region.wanted, yielded]) ?_ ?_
 ·intro wn za hE Kx hKx
  have zf := B.size; have zg := za.size; replace B := B.trans (za.mono B.size)
  (try replace m3 := m3.below za)
  (try replace r4 := r4.below za)
  (try replace c6 := c6.below za)
  refine zS rfl (enters_of Tryz.func128 (by kernel_rfl) rfl) (by simp only [Act.eval, qI]; rfl) ?_
  refine (vW c true _ hV0).mono ?_; rintro e wm ⟨rfl, zl⟩; refine ⟨_, rfl, ?_⟩; have hz := hKx () wm trivial zl
  dsimp only [zP] at hz
  exact hz
 rintro ⟨⟩
 dsimp only [zP]
 simp only [zn]
 refine ug 4 ?_
 repeat (first | go_big_quiet_skip | (go_big_quiet_want; first | ((first | refine zo (t := 115) rfl _ _ _ rfl (fun w hw => jR (wZ (zD m3 w hw))) (by first | rfl | omega) ?_ | refine qB ?_ | refine qC ?_); simp only [zn]; go_big_quiet_on) | (go_big_quiet_op; go_big_quiet_on)))
 refine wpQuiet_nil ?_
 refine zz (by rfl) ?hw2_6 ?_ ?_
 case hw2_6 => kernel_rfl
 ·intro wn za hE Kx hKx
  have zf := B.size; have zg := za.size; replace B := B.trans (za.mono B.size)
  (try replace m3 := m3.below za)
  (try replace r4 := r4.below za)
  (try replace c6 := c6.below za)
  refine vg rfl Tryz.underlying115 rfl ?_; exact hKx () _ trivial (Below.refl _ _)
 rintro ⟨⟩
 dsimp only [zP]
 simp only [zn]
 refine ug 1 ?_
 repeat (first | go_big_quiet_skip | (go_big_quiet_want; first | ((first | refine zo (t := 38) rfl _ _ _ rfl (fun w hw => qA (zD m3 w hw)) (by first | rfl | omega) ?_ | refine qB ?_ | refine qC ?_); simp only [zn]; go_big_quiet_on) | (go_big_quiet_op; go_big_quiet_on)))
 refine wpQuiet_nil ?_
 refine zz (by rfl) ?hw2_8 ?_ ?_
 case hw2_8 => kernel_rfl
 ·intro wn za hE Kx hKx
  have zf := B.size; have zg := za.size; replace B := B.trans (za.mono B.size)
  (try replace r4 := r4.below za)
  refine zS rfl (enters_of Tryz.func125 (by kernel_rfl) rfl) (by simp only [Act.eval, qI]; rfl) ?_
  refine (Jn c A _ hV0 HA.out).mono ?_; rintro e wm ⟨rfl, zl⟩; refine ⟨_, rfl, ?_⟩; have hz := hKx () wm trivial zl
  dsimp only [zP] at hz
  exact hz
 rintro ⟨⟩
 dsimp only [zP]
 simp only [zn]
 refine vC 2 ?_
 refine qz ?_
 intro wn za hE
 have zf := B.size
 have zg := za.size
 replace B := B.trans (za.mono B.size)
 (try replace r4 := r4.below za)
 clear hE
 try simp only [List.drop_succ_cons, List.drop_zero]
 refine zQ.normal ?_
 go_upto_region 3 with fail
 refine wp_region_lit ?_
 refine zx 1 ?_
 (refine zp (t := 64) rfl _ _ rfl _ rfl _ rfl r4 (by kernel_rfl) rfl (by simp [jV, xg, Value.oneCell']) (qt B (by omega) ?_); clear r4 B; intro wn r4 ze zf zg B; simp only [zn])
 refine zx 1 ?_
 refine wpList_nil ?_
 go_wp2
 refine bodyPost_ret (zJ (t := 64) rfl _ _ (b_r4) rfl _ rfl r4 Tryz.isAgg64 (by kernel_rfl)) rfl ?_
 exact ⟨rfl, B⟩
set_option maxHeartbeats 4000000 in
theorem Xt (v : Value) (ls : List TA) (c : Rc) (ad : Option Addr) (n cp : Nat) (w : World) (h : RS v ls w) (hn : n ≤ maxLen) (hV0 : jN c = true) (hA : vj c = (n : Int)) (e0 : Int) (hF : jr c = e0) (h0 : ¬ e0 = 0) : Calls Tryz.prog 77 #[.agg #[v], .agg (xg c (.slice ad n cp))] w fun e w' => e = .returned (.tuple #[.agg #[.slice none 0 0], .int .i64 e0]) ∧ Below w.heap.size w w' := by
 have B := Below.refl w.heap.size w
 obtain ⟨a, cpv, rfl, hc⟩ := h.len
 have d1 : ((n : Int) != (n : Int)) = false := by simp
 have d2 : (e0 != 0) = true := by simpa using h0
 have HA := Lib.hid hA
 have HF := Lib.hid hF
 clear h hA hF
 go_enter Tryz.func77, Tryz.ntmps77
 go_upto_region 0 with fail
 refine wp_region_lit ?_
 (refine zt (t := 64) rfl _ rfl _ rfl (zV B ?_); clear B; intro b_r2 wn zb zd r2 za zf zk B; simp only [zn])
 (refine zt (t := 117) rfl _ rfl _ rfl (zV B ?_); clear B; intro b_m3 wn zb zd m3 za zf zk B; (try have zh := r2.lt); (try replace r2 := r2.below (za.mono zb)); simp only [zn])
 (refine zr (t := 64) rfl _ (jp _ _ rfl) (zV B ?_); clear B; intro b_r4 wn zb zd r4 za zf zk B; (try have zh := r2.lt); (try replace r2 := r2.below (za.mono zb)); (try have zh := m3.lt); (try replace m3 := m3.below (za.mono zb)); simp only [zn])
 refine zx 1 ?_
 refine wpList_nil ?_
 go_upto_region 1 with fail
 refine wp_region_lit ?_
 refine jG 2 ?_
 repeat (first | go_big_quiet_skip | (go_big_quiet_want; first | ((first | refine zo (t := 38) rfl _ _ _ rfl (fun w hw => qA (zD m3 w hw)) (by first | rfl | omega) ?_ | refine qB ?_ | refine qC ?_); simp only [zn]; go_big_quiet_on) | (go_big_quiet_op; go_big_quiet_on)))
 refine wpQuiet_nil ?_
 (refine zr (t := 38) rfl _ (zY _ _ rfl) (zV B ?_); clear B; intro b_c6 wn zb zd c6 za zf zk B; (try have zh := r2.lt); (try replace r2 := r2.below (za.mono zb)); (try have zh := m3.lt); (try replace m3 := m3.below (za.mono zb)); (try have zh := r4.lt); (try replace r4 := r4.below (za.mono zb)); (try have zh := c6.lt); (try replace c6 := c6.below (za.mono zb)); simp only [zn])
 (refine zp (t := 38) rfl _ _ rfl _ rfl _ rfl c6 (by kernel_rfl) rfl (by simp [jV, xg, Value.oneCell']) (qt B (by omega) ?_); clear c6 B; intro wn c6 ze zf zg B; (try replace r2 := r2.of_eq (ze.block _ r2.lt (by omega))); (try replace m3 := m3.of_eq (ze.block _ m3.lt (by omega))); (try replace r4 := r4.of_eq (ze.block _ r4.lt (by omega))); simp only [zn])
 refine wpList_nil ?_
 replace c6 : zF 38 _ b_c6 (jV c) := c6
 go_upto_region 2 with fail
 try have lx_r2 := r2.lt
 try have lx_m3 := m3.lt
 try have lx_r4 := r4.lt
 try have lx_c6 := c6.lt
 refine zL 11 [(1, zP ?v3_1), (6, zP ?v3_6), (8, zP ?v3_8)] (by kernel_rfl) (by kernel_rfl) (by kernel_rfl) ?_
 rotate_left 3
 simp only [jU, Nat.reduceAdd]
 refine ug 1 ?_
 repeat (first | go_big_quiet_skip | (go_big_quiet_want; first | ((first | refine zo (t := 38) rfl _ _ _ rfl (fun w hw => qA (zD m3 w hw)) (by first | rfl | omega) ?_ | refine qB ?_ | refine qC ?_); simp only [zn]; go_big_quiet_on) | (go_big_quiet_op; go_big_quiet_on)))
 refine wpQuiet_nil ?_
 refine zz (by rfl) (by first | rfl | simp [Region.wanted, yielded]) ?_ ?_
 ·intro wn za hE Kx hKx
  have zf := B.size; have zg := za.size; replace B := B.trans (za.mono B.size)
  (try replace m3 := m3.below za)
  (try replace r4 := r4.below za)
  (try replace c6 := c6.below za)
  refine zS rfl (enters_of Tryz.func128 (by kernel_rfl) rfl) (by simp only [Act.eval, qI]; rfl) ?_
  refine (vW c true _ hV0).mono ?_; rintro e wm ⟨rfl, zl⟩; refine ⟨_, rfl, ?_⟩; have hz := hKx () wm trivial zl
  dsimp only [zP] at hz
  exact hz
 rintro ⟨⟩
 dsimp only [zP]
 simp only [zn]
 refine ug 4 ?_
 repeat (first | go_big_quiet_skip | (go_big_quiet_want; first | ((first | refine zo (t := 115) rfl _ _ _ rfl (fun w hw => jR (wZ (zD m3 w hw))) (by first | rfl | omega) ?_ | refine qB ?_ | refine qC ?_); simp only [zn]; go_big_quiet_on) | (go_big_quiet_op; go_big_quiet_on)))
 refine wpQuiet_nil ?_
 refine zz (by rfl) ?hw3_6 ?_ ?_
 case hw3_6 => kernel_rfl
 ·intro wn za hE Kx hKx
  have zf := B.size; have zg := za.size; replace B := B.trans (za.mono B.size)
  (try replace m3 := m3.below za)
  (try replace r4 := r4.below za)
  (try replace c6 := c6.below za)
  refine vg rfl Tryz.underlying115 rfl ?_; exact hKx () _ trivial (Below.refl _ _)
 rintro ⟨⟩
 dsimp only [zP]
 simp only [zn]
 refine ug 1 ?_
 repeat (first | go_big_quiet_skip | (go_big_quiet_want; first | ((first | refine zo (t := 38) rfl _ _ _ rfl (fun w hw => qA (zD m3 w hw)) (by first | rfl | omega) ?_ | refine qB ?_ | refine qC ?_); simp only [zn]; go_big_quiet_on) | (go_big_quiet_op; go_big_quiet_on)))
 refine wpQuiet_nil ?_
 refine zz (by rfl) ?hw3_8 ?_ ?_
 case hw3_8 => kernel_rfl
 ·intro wn za hE Kx hKx
  have zf := B.size; have zg := za.size; replace B := B.trans (za.mono B.size)
  (try replace m3 := m3.below za)
  (try replace r4 := r4.below za)
  (try replace c6 := c6.below za)
  refine zS rfl (enters_of Tryz.func125 (by kernel_rfl) rfl) (by simp only [Act.eval, qI]; rfl) ?_
  refine (Jn c (n : Int) _ hV0 HA.out).mono ?_; rintro e wm ⟨rfl, zl⟩; refine ⟨_, rfl, ?_⟩; have hz := hKx () wm trivial zl
  dsimp only [zP] at hz
  exact hz
 rintro ⟨⟩
 dsimp only [zP]
 simp only [zn]
 refine vC 2 ?_
 refine qz ?_
 intro wn za hE
 have zf := B.size
 have zg := za.size
 replace B := B.trans (za.mono B.size)
 (try replace m3 := m3.below za)
 (try replace r4 := r4.below za)
 (try replace c6 := c6.below za)
 clear hE
 try simp only [List.drop_succ_cons, List.drop_zero]
 refine zQ.normal ?_
 go_upto_region 4 with fail
 refine wp_region_lit ?_
 refine jG 1 ?_
 repeat (first | go_big_quiet_skip | (go_big_quiet_want; first | ((first | refine zo (t := 38) rfl _ _ _ rfl (fun w hw => qA (zD m3 w hw)) (by first | rfl | omega) ?_ | refine qB ?_ | refine qC ?_); simp only [zn]; go_big_quiet_on) | (go_big_quiet_op; go_big_quiet_on)))
 refine wpQuiet_nil ?_
 refine qE (enters_of Tryz.func124 (by kernel_rfl) rfl) (c := K5 c e0 _ HF.out) (h := ?_)
 rintro e wn ⟨rfl, za⟩
 have zf := B.size
 have zg := za.size
 replace B := B.trans (za.mono B.size)
 (try replace r4 := r4.below za)
 refine ⟨_, rfl, ?_⟩
 simp only [zn]
 refine zx 1 ?_
 refine wpList_nil ?_
 go_upto_region 5 with fail
 refine wp_region_lit ?_
 refine zx 2 ?_
 refine wpList_nil ?_
 go_upto_region 6 with fail
 refine wp_region_lit ?_
 refine zx 2 ?_
 (refine zp (t := 64) rfl _ _ rfl _ rfl _ rfl r4 (by kernel_rfl) rfl (by simp [jV, xg, Value.oneCell']) (qt B (by omega) ?_); clear r4 B; intro wn r4 ze zf zg B; simp only [zn])
 refine zx 1 ?_
 refine wpList_nil ?_
 go_wp2
 refine bodyPost_ret (zJ (t := 64) rfl _ _ (b_r4) rfl _ rfl r4 Tryz.isAgg64 (by kernel_rfl)) rfl ?_
 exact ⟨rfl, B⟩
end Go.Proofs.YtepelndbbhdofaaGreatDoor
/- A range over a function whose loop variable lies in memory: the round's head makes its block. -/
namespace Go.Proofs.YtepelndbbhdofaaGreatDoor
open Go Go.RowKit
set_option linter.unusedVariables false
set_option linter.unusedSimpArgs false
section
variable {F : Fence} {n : Nat} {P : Program}
/-- The statement 'for x := range seq { .. }' whose head may lay new blocks: 'As x' says what the head leaves. -/
theorem Qp {α : Type} {g : Operand} {ps : Array Tmp} {assign body : Code} {Q : Exit → Act → World → Prop} {a : Act} {w : World}
  (hro : F.round = none) (h1 : 1 ≤ n) {gf : Nat} {lb : Array Value} (hg : a.eval g = .func (.func gf) #[] lb) (hFg : F.fn gf) (eg : ∀ args w, (callFunc gf args).run P w = .ok (.enter gf args) w)
  {encs : α → Array Value} {Kp : World → World → Prop} {S Sp : List α → Prop} {N : Nat} {w0 : World} (hseq : SeqStopsK F (n - 1) P gf lb encs Kp S Sp N w0)
  (hKt : ∀ {A B C : World}, Kp A B → Kp B C → Kp A C) (hKb : ∀ (W : World) (l : Nat) (o o' : Obj), w.heap.size ≤ l → W.heap[l]? = some o → o.isCells = false → o.isWalk = false → Kp W (W.putObj l o'))
  (hKg : ∀ (A B : World), Below A.heap.size A B → Kp A B) (hb0 : Below w0.heap.size w0 w) (hps : ∀ x, (encs x).size = ps.size)
  (I : List α → World → Prop) (hI : OwnFrom w.heap.size I) (h0 : I [] w) (As : α → Act → World → Prop) (hAs : ∀ x, OwnFrom w.heap.size (As x))
  (hassign : ∀ (l : Nat) (pre : List α) (x : α) (W : World) (K : Act → World → Prop), I pre W → (∀ a' W', Below W.heap.size W W' → As x a' W' → K a' W') →
   assign.wpIn (F.inRound l) (n - 1 - 1) P (Exit.then K (fun _ _ _ => False)) { tmps := (ps.zip (encs x)).foldl (fun t (p, v) => t.setIfInBounds p v) a.tmps, defers := [] } W)
  (hbody : ∀ (l : Nat) (pre : List α) (x : α) (W : World) (a' : Act), I pre W → As x a' W → pre.length < N → body.wpIn (F.inRound l) (n - 1 - 1) P (ownPostK Kp I (fun _ _ _ => False) (pre ++ [x]) W) a' W)
  (hdone : ∀ (D : Nat) (xs : List α) (W : World), w.heap.size ≤ D → S xs → I xs W → W.heap[D]? = some (.deferred (some [])) → Q .normal { a with defers := { target := .collected D, args := #[] } :: a.defers } W) :
  (Code.rangeFunc g ps assign body).wpIn F n P Q a w := by
 refine wpIn_rangeFunc fun fn hfn => ?_
 rw [hro]
 obtain ⟨rc, hrc⟩ : ∃ rc : LoopState → Option Code → Loop, rc = fun st pe => { state := st, pending := pe, fn, tmps := a.tmps, params := ps, assign, body, defers := w.heap.size } := ⟨_, rfl⟩
 obtain ⟨W1, hW1⟩ : ∃ W1, (w.alloc (.deferred (some []))).alloc (.loop (rc .ready none)) = W1 := ⟨_, rfl⟩
 have blkL : W1.heap[w.heap.size + 1]? = some (.loop (rc .ready none)) := by
  have := World.alloc_heap_new (w.alloc (.deferred (some []))) (.loop (rc .ready none)); rw [← hW1]
  rwa [World.size_alloc] at this
 have blkD : W1.heap[w.heap.size]? = some (.deferred (some [])) := by
  rw [← hW1]; exact (Below.heap_alloc _ _ _ (by simp)).trans (World.alloc_heap_new w _)
 have grown : Below w0.heap.size w0 W1 := by
  rw [← hW1]; exact hb0.trans ((((Below.refl _ w).alloc (Nat.le_refl _) _).alloc (by simp) _).mono hb0.size)
 have szW1 : w.heap.size ≤ W1.heap.size := by rw [← hW1]; simp; omega
 have Qz : I [] W1 := by rw [← hW1]; exact hI.alloc _ (hI.alloc _ h0)
 refine ⟨w.heap.size + 1, [{ target := .collected w.heap.size, args := #[] }], W1, { target := .fn (.func gf) lb, args := #[.func (.yield (w.heap.size + 1)) #[] #[]] }, W1, gf,
  #[.func (.yield (w.heap.size + 1)) #[] #[]] ++ lb, W1, ?_, ?_, ?_, ?_, fun _ => h1, ?_⟩
 ·rw [← hW1, hrc]; exact run_enterLoop_outer _ _ _ _ _
 ·simp only [resolve, hg]
  simp [go_sem]
 ·intro f' hf'
  simp [Target.leads] at hf'
  subst hf'; exact hFg
 ·simp [invoke, go_sem, eg]
 have walks : ∀ {A : World} {row : Option Nat}, (∀ r, row = some r → W1.heap.size ≤ r ∧ ∃ o : Obj, A.heap[r]? = some o ∧ o.isWalk = true) → (∀ r, row = some r → w.heap.size ≤ r ∧ ∃ o : Obj, A.heap[r]? = some o ∧ o.isCells = false) := fun hr r e => by
  obtain ⟨hB, o, ho, hw⟩ := hr r e; exact ⟨by omega, o, ho, Obj.not_cells_of_walk hw⟩
 refine (hseq (w.heap.size + 1)
  (fun pre W => I pre W ∧ W.heap[w.heap.size + 1]? = some (.loop (rc .ready none)) ∧ W.heap[w.heap.size]? = some (.deferred (some [])))
  (fun _ _ => False) W1 grown
  (fun s A B row hs hg' hr => ⟨hI s A B row hs.1 hg' (walks hr), (grownBy_keeps hg' (fun r e => (hr r e).2) hs.2.1 rfl).trans hs.2.1, (grownBy_keeps hg' (fun r e => (hr r e).2) hs.2.2 rfl).trans hs.2.2⟩)
  (fun _ _ _ _ hs _ _ => hs) ?_ ⟨Qz, blkL, blkD⟩).mono ?_
 ·rintro pre x W ⟨hi, hl, hk⟩ hlen
  have hy := run_yield (P := P) (args := encs x) hl (by rw [hrc]; exact hps x)
  rw [hrc] at hy; refine ⟨fn, _, assign, body, hy, roundIn_of_wpIn hfn (hassign _ pre x W _ hi fun a' V hb ha => ?_)⟩; have hlV : V.heap[w.heap.size + 1]? = some (.loop (rc .ready none)) := (hb.block _ (Array.getElem?_eq_some_iff.1 hl).1).trans hl; have hkV : V.heap[w.heap.size]? = some (.deferred (some [])) := (hb.block _ (Array.getElem?_eq_some_iff.1 hk).1).trans hk; have hiV : I pre V := hI pre W V none hi (xf hb) (fun r e => by cases e); refine ⟨_, run_beginRound hlV (by rw [hrc]), ?_⟩; obtain ⟨V1, hV1⟩ : ∃ V1, V.putObj (w.heap.size + 1) (.loop { rc .ready none with state := .busy }) = V1 := ⟨_, rfl⟩; have hl1 : V1.heap[w.heap.size + 1]? = some (.loop { rc .ready none with state := .busy }) := by rw [← hV1]; exact World.putObj_heap_same (Array.getElem?_eq_some_iff.1 hlV).1
  have hk1 : V1.heap[w.heap.size]? = some (.deferred (some [])) := by rw [← hV1]; exact (World.putObj_heap_other (by omega)).trans hkV
  have hKp1 : Kp W V1 := hKt (hKg _ _ hb) (by rw [← hV1]; exact hKb _ _ _ _ (by omega) hlV rfl rfl)
  have hi1 : I pre V1 := by rw [← hV1]; exact hI.putObj _ hiV (by omega) hlV rfl
  have ha1 : As x a' V1 := by rw [← hV1]; exact (hAs x).putObj _ ha (by omega) hlV rfl
  rw [hV1]; refine wpIn_mono (hbody _ pre x V1 a' hi1 ha1 hlen) ?_; rintro e a3 W3 hp; cases e with
  | normal =>
   obtain ⟨ko, kp, hi3⟩ := hp; have hl3 := ko.same _ _ hl1 rfl; have hk3 := ko.same _ _ hk1 rfl; have he := run_endRound (P := P) none hl3; rw [hrc] at he; refine ⟨_, _, he, .inl ⟨rfl, ⟨hI.putObj _ hi3 (by omega) hl3 rfl, ?_, (World.putObj_heap_other (by omega)).trans hk3⟩, hKt (hKt hKp1 kp) (hKb _ _ _ _ (by omega) hl3 rfl rfl)⟩⟩; rw [World.putObj_heap_same (Array.getElem?_eq_some_iff.1 hl3).1, hrc]
   rfl
  | ret => exact hp.2.elim
  | exit id => exact hp.2.elim
  | goto t => exact hp.2.elim
  | panic ch => exact hp.elim
  | outgrown => exact hp.elim
 ·rintro e W2 ⟨⟨v, rfl⟩, ⟨xs, hS, hi, hl, hk⟩ | ⟨_, _, hf⟩⟩
  ·have he := run_endLoop (P := P) hl (by rw [hrc]; simp)
   rw [hrc] at he; exact ⟨none, _, he, hdone _ xs _ (Nat.le_refl _) hS (hI.putObj _ hi (by omega) hl rfl) ((World.putObj_heap_other (by omega)).trans hk)⟩
  ·exact hf.elim
end
section
variable {P : Program} {ops : Array Oper} {md : Region.Mode} {Q : Exit → Act → World → Prop} {S : World → Prop} {t0 f : Nat} {a : Act} {w : World} {T : Array Bool}
theorem ZX (i j k : Nat) {oi oj ok : Oper} (hi : ops[i]? = some oi) (hj : ops[j]? = some oj) (hk : ops[k]? = some ok) (hr : Region.ready md ops T = [i, j, k]) (hgi : oi.guard = none) (hgj : oj.guard = none) (hgk : ok.guard = none)
  (Hi : ∀ K : Act → World → Prop, (∀ a w, (i < t0 → S w) ∧ jX P md ops (zQ Q) S t0 f (T.setIfInBounds i true) a w → K a w) → oi.wp P a w K (zQ Q))
  (Hj : ∀ K : Act → World → Prop, (∀ a w, (j < t0 → S w) ∧ jX P md ops (zQ Q) S t0 f (T.setIfInBounds j true) a w → K a w) → oj.wp P a w K (zQ Q))
  (Hk : ∀ K : Act → World → Prop, (∀ a w, (k < t0 → S w) ∧ jX P md ops (zQ Q) S t0 f (T.setIfInBounds k true) a w → K a w) → ok.wp P a w K (zQ Q)) : jX P md ops (zQ Q) S t0 (f + 1) T a w := by
 refine ⟨fun h => (by rw [hr] at h; cases h), fun n hn => ?_⟩
 rw [hr] at hn
 have hn : n = i ∨ n = j ∨ n = k := by simpa using hn
 rcases hn with rfl | rfl | rfl
 ·unfold wpOp
  rw [hi]; simp only []; rw [if_pos (by simp [Region.wanted, hgi])]; exact .inl (Hi _ fun _ _ h => h)
 ·unfold wpOp
  rw [hj]; simp only []; rw [if_pos (by simp [Region.wanted, hgj])]; exact .inl (Hj _ fun _ _ h => h)
 ·unfold wpOp
  rw [hk]; simp only []; rw [if_pos (by simp [Region.wanted, hgk])]; exact .inl (Hk _ fun _ _ h => h)
end
/-- What keeps all but one block of cells, keeps whatever is no cells. -/
theorem KeepsOthers.chgB {b : Nat} {t : TypeId} {cs : Array Value} {W W' : World} (h : qN b W W') (hb : zF t W b cs) : KeepsOthers W W' :=
 ⟨h.size, fun k o hk ho => by
  by_cases e : k = b
  ·subst e
   rw [show W.heap[k]? = _ from hb] at hk; cases hk
   cases ho
  ·exact (h.block k (Array.getElem?_eq_some_iff.1 hk).1 e).trans hk⟩
theorem QK.below {b : Nat} {W W' : World} (h : Below W.heap.size W W') : QK b W W' :=
 ⟨h.size, fun k o _ ho _ => (h.block k (Array.getElem?_eq_some_iff.1 ho).1).trans ho⟩
theorem qm.own {g o : Nat} {ls : List TA} {A B : World} {row : Option Nat} (h : qm g o ls A) (hn : 0 < ls.length) (hg : A.grownBy B row) (hr : ∀ r, row = some r → ∃ o : Obj, A.heap[r]? = some o ∧ o.isCells = false) : qm g o ls B := by
 refine h.of_eq (hg.block g h.lt fun e => ?_)
 obtain ⟨x, hx, hc⟩ := hr g e.symm
 have h0 := h.2 0 hn 0 (by omega)
 have hs : ∃ v, (xL (aT ls 0))[0]? = some v := ⟨_, Ji _⟩
 obtain ⟨v, hv⟩ := hs
 rw [hv] at h0
 have := Z7 h0 x hx
 rw [hc] at this
 cases this
theorem RS.own {v : Value} {ls : List TA} {A B : World} {row : Option Nat} (h : RS v ls A) (hg : A.grownBy B row) (hr : ∀ r, row = some r → ∃ o : Obj, A.heap[r]? = some o ∧ o.isCells = false) : RS v ls B := by
 rcases h with h | ⟨g, o, c, e, hc, sc⟩
 ·exact .inl h
 ·exact .inr ⟨g, o, c, e, hc, fun hn => (sc hn).own hn hg hr⟩
end Go.Proofs.YtepelndbbhdofaaGreatDoor
/- The iterator over the tiles of a rectangle: its contract. -/
namespace Go.Proofs.YtepelndbbhdofaaGreatDoor
open Go.RowKit Go.Shelf Pl
attribute [local go_sem] Oper.semAt_some
set_option linter.unusedVariables false
set_option linter.unusedSimpArgs false
set_option maxRecDepth 20000
/-- The first k of N. -/
def yU (N k : Nat) : List (Fin N) := (List.finRange N).take k
theorem uY {N k : Nat} (h : k < N) : yU N (k + 1) = yU N k ++ [⟨k, h⟩] := by
 unfold yU
 rw [List.take_succ_eq_append_getElem (by simp; omega)]
 simp
theorem vI {N k : Nat} (h : k ≤ N) : (yU N k).length = k := by unfold yU; simp; omega
theorem Wp (N : Nat) : yU N 0 = [] := rfl
theorem Qb (N : Nat) : yU N N = List.finRange N := by unfold yU; rw [List.take_of_length_le (by simp)]
def kD (c : Rc) (i : Fin (YG c)) : Int × Int := u5 c i.val
theorem zbN (c : Rc) : (List.finRange (YG c)).map (kD c) = yx c := by
 unfold yx
 refine List.ext_getElem (by simp) fun i h1 h2 => ?_
 simp [kD]
set_option maxHeartbeats 4000000 in
theorem YF (c : Rc) (HF : j0 c) (bc b8 n : Nat) (hn1 : 1 ≤ n) (w : World) (r0 : zF 38 w bc (jV c)) (hb8 : b8 < w.heap.size) :
  SeqStopsK Fence.wide n Tryz.prog 163 #[.pointer (some ⟨bc, 0, none⟩)] (fun i : Fin (YG c) => #[.agg #[.int .i64 (kD c i).1, .int .i64 (kD c i).2]]) (QK b8) (fun xs => xs = List.finRange (YG c)) (fun _ => True) (YG c) w := fun l J Jx W0 hW hJa hJxa hY h0 => by
 have hb8 := Nat.lt_of_lt_of_le hb8 hW.size
 have r0 := r0.of_eq (hW.block _ r0.lt)
 have B := Below.refl W0.heap.size W0
 clear hW hJxa
 have hf := Lib.hid HF
 have HJ := Lib.hid (fun (W' : World) (hb : Below W0.heap.size W0 W') => AbidesFrom.below hJa h0 hb)
 have HY := Lib.hid hY
 clear h0 hJa hY
 obtain ⟨hew, hw0⟩ := xQ (kZ HF)
 have hNle := zcn HF
 obtain ⟨f1, f2, f3, f4, f5, f6, f7, f8⟩ := HF
 have hE := Lib.hid (show qo c = false from (yS _).2 ⟨f1, f2⟩)
 obtain ⟨W, hW⟩ : ∃ W : Nat, (c.x1 - 1) / 8 + 1 - c.x0 / 8 = (W : Int) := ⟨((c.x1 - 1) / 8 + 1 - c.x0 / 8).toNat, by omega⟩
 obtain ⟨H, hH⟩ : ∃ H : Nat, (c.y1 - 1) / 8 + 1 - c.y0 / 8 = (H : Int) := ⟨((c.y1 - 1) / 8 + 1 - c.y0 / 8).toNat, by omega⟩
 have eW : widN (wB c) = W := by unfold widN wB; simp only; rw [hW]; exact Int.toNat_natCast _
 have eH : ((wB c).y1 - (wB c).y0).toNat = H := by unfold wB; simp only; rw [hH]; exact Int.toNat_natCast _
 rw [eW, eH] at hew
 rw [eW] at hw0
 change YG c = W * H at hew
 have HR := Lib.hid (fun (k j : Nat) (hj : j < W) => by
  have := zeT (c := c) hf.out (k := k) (j := j) (by rw [eW]; exact hj)
  rw [eW] at this; exact this)
 have wf1 := Lib.hid (show (Lit.int .i64 c.x0).wf = true from Jl (by omega) (by omega))
 have wf2 := Lib.hid (show (Lit.int .i64 c.y0).wf = true from Jl (by omega) (by omega))
 have wf3 := Lib.hid (show (Lit.int .i64 (c.x1 - 1)).wf = true from Jl (by omega) (by omega))
 have wf4 := Lib.hid (show (Lit.int .i64 (c.y1 - 1)).wf = true from Jl (by omega) (by omega))
 refine callsIn_wide.2 ?_
 show Calls Tryz.prog 163 #[.func (.yield l) #[] #[], .pointer (some ⟨bc, 0, none⟩)] W0 _
 go_enter Tryz.func163, Tryz.ntmps163
 go_upto_region 0 with fail
 refine wp_region_lit ?_
 refine zx 1 ?_
 refine qE (enters_of Tryz.func45 (by kernel_rfl) rfl) (c := ZS c false _ hE.out) (h := ?_)
 rintro e wn ⟨rfl, za⟩
 have zf := B.size
 have zg := za.size
 replace B := B.trans (za.mono B.size)
 (try replace r0 := r0.below za)
 refine ⟨_, rfl, ?_⟩
 simp only [zn]
 refine wpList_nil ?_
 have hsw := za.size
 go_upto_region 1 with fail
 have r0B := r0
 go_cut [3, 4] from 9 to 29 (fun s3 s4 wx => ∃ b_p3 b_p4, s3 = .pointer (some ⟨b_p3, 0, none⟩) ∧ s4 = .pointer (some ⟨b_p4, 0, none⟩) ∧ Below W0.heap.size W0 wx ∧ W0.heap.size ≤ b_p3 ∧ W0.heap.size ≤ b_p4 ∧ zF 95 wx b_p3 #[.int .i64 (c.x0 / 8), .int .i64 (c.y0 / 8)] ∧ zF 95 wx b_p4 #[.int .i64 ((c.x1 - 1) / 8), .int .i64 ((c.y1 - 1) / 8)])
 case first =>
  refine vh 16 #[false, false, false, false, false, false, false, false, false, false, false, false, false, false, false, false, false, false] (by kernel_rfl) (by kernel_rfl) ?_; intro wn za; have hX := za; have zf := B.size; have zg := za.size; replace B := B.trans (za.mono B.size); try replace r0 := r0.below za
  simp only [List.length_cons, List.length_nil, Nat.reduceAdd]; refine qL 0 rfl (by kernel_rfl) ⟨_, zU hX⟩ ?_; intro K hK; try simp only [zN]
  (first | (refine zo (t := 38) rfl _ _ _ rfl (fun w hw => zy (zD r0B w hw) Tryz.isAgg38 (by kernel_rfl)) (by rfl) ?_; simp only [zn]; go_big_quiet_on) | (refine zo (t := 3) rfl _ _ _ rfl (fun w hw => zu ((zD r0B w hw).cellL 0 rfl)) (by rfl) ?_; simp only [zn]; go_big_quiet_on) | (refine zo (t := 3) rfl _ _ _ rfl (fun w hw => zu ((zD r0B w hw).cellL 1 rfl)) (by rfl) ?_; simp only [zn]; go_big_quiet_on) | (refine zo (t := 3) rfl _ _ _ rfl (fun w hw => zu ((zD r0B w hw).cellL 2 rfl)) (by rfl) ?_; simp only [zn]; go_big_quiet_on) | (refine zo (t := 3) rfl _ _ _ rfl (fun w hw => zu ((zD r0B w hw).cellL 3 rfl)) (by rfl) ?_; simp only [zn]; go_big_quiet_on) | (go_big_quiet_op; go_big_quiet_on))
  simp only [zn]; refine qL 1 rfl (by kernel_rfl) ⟨_, zU hX⟩ ?_; intro K hK; try simp only [zN]
  (first | (refine zo (t := 38) rfl _ _ _ rfl (fun w hw => zy (zD r0B w hw) Tryz.isAgg38 (by kernel_rfl)) (by rfl) ?_; simp only [zn]; go_big_quiet_on) | (refine zo (t := 3) rfl _ _ _ rfl (fun w hw => zu ((zD r0B w hw).cellL 0 rfl)) (by rfl) ?_; simp only [zn]; go_big_quiet_on) | (refine zo (t := 3) rfl _ _ _ rfl (fun w hw => zu ((zD r0B w hw).cellL 1 rfl)) (by rfl) ?_; simp only [zn]; go_big_quiet_on) | (refine zo (t := 3) rfl _ _ _ rfl (fun w hw => zu ((zD r0B w hw).cellL 2 rfl)) (by rfl) ?_; simp only [zn]; go_big_quiet_on) | (refine zo (t := 3) rfl _ _ _ rfl (fun w hw => zu ((zD r0B w hw).cellL 3 rfl)) (by rfl) ?_; simp only [zn]; go_big_quiet_on) | (go_big_quiet_op; go_big_quiet_on))
  simp only [zn]; refine qL 2 rfl (by kernel_rfl) ⟨_, zU hX⟩ ?_; intro K hK; try simp only [zN]
  (first | (refine zo (t := 38) rfl _ _ _ rfl (fun w hw => zy (zD r0B w hw) Tryz.isAgg38 (by kernel_rfl)) (by rfl) ?_; simp only [zn]; go_big_quiet_on) | (refine zo (t := 3) rfl _ _ _ rfl (fun w hw => zu ((zD r0B w hw).cellL 0 rfl)) (by rfl) ?_; simp only [zn]; go_big_quiet_on) | (refine zo (t := 3) rfl _ _ _ rfl (fun w hw => zu ((zD r0B w hw).cellL 1 rfl)) (by rfl) ?_; simp only [zn]; go_big_quiet_on) | (refine zo (t := 3) rfl _ _ _ rfl (fun w hw => zu ((zD r0B w hw).cellL 2 rfl)) (by rfl) ?_; simp only [zn]; go_big_quiet_on) | (refine zo (t := 3) rfl _ _ _ rfl (fun w hw => zu ((zD r0B w hw).cellL 3 rfl)) (by rfl) ?_; simp only [zn]; go_big_quiet_on) | (go_big_quiet_op; go_big_quiet_on))
  simp only [zn]; refine qL 3 rfl (by kernel_rfl) ⟨_, zU hX⟩ ?_; intro K hK; try simp only [zN]
  (first | (refine zo (t := 38) rfl _ _ _ rfl (fun w hw => zy (zD r0B w hw) Tryz.isAgg38 (by kernel_rfl)) (by rfl) ?_; simp only [zn]; go_big_quiet_on) | (refine zo (t := 3) rfl _ _ _ rfl (fun w hw => zu ((zD r0B w hw).cellL 0 rfl)) (by rfl) ?_; simp only [zn]; go_big_quiet_on) | (refine zo (t := 3) rfl _ _ _ rfl (fun w hw => zu ((zD r0B w hw).cellL 1 rfl)) (by rfl) ?_; simp only [zn]; go_big_quiet_on) | (refine zo (t := 3) rfl _ _ _ rfl (fun w hw => zu ((zD r0B w hw).cellL 2 rfl)) (by rfl) ?_; simp only [zn]; go_big_quiet_on) | (refine zo (t := 3) rfl _ _ _ rfl (fun w hw => zu ((zD r0B w hw).cellL 3 rfl)) (by rfl) ?_; simp only [zn]; go_big_quiet_on) | (go_big_quiet_op; go_big_quiet_on))
  simp only [zn]; refine qL 4 rfl (by kernel_rfl) ⟨_, zU hX⟩ ?_; intro K hK; try simp only [zN]
  (first | (refine zo (t := 38) rfl _ _ _ rfl (fun w hw => zy (zD r0B w hw) Tryz.isAgg38 (by kernel_rfl)) (by rfl) ?_; simp only [zn]; go_big_quiet_on) | (refine zo (t := 3) rfl _ _ _ rfl (fun w hw => zu ((zD r0B w hw).cellL 0 rfl)) (by rfl) ?_; simp only [zn]; go_big_quiet_on) | (refine zo (t := 3) rfl _ _ _ rfl (fun w hw => zu ((zD r0B w hw).cellL 1 rfl)) (by rfl) ?_; simp only [zn]; go_big_quiet_on) | (refine zo (t := 3) rfl _ _ _ rfl (fun w hw => zu ((zD r0B w hw).cellL 2 rfl)) (by rfl) ?_; simp only [zn]; go_big_quiet_on) | (refine zo (t := 3) rfl _ _ _ rfl (fun w hw => zu ((zD r0B w hw).cellL 3 rfl)) (by rfl) ?_; simp only [zn]; go_big_quiet_on) | (go_big_quiet_op; go_big_quiet_on))
  simp only [zn]; refine qL 6 rfl (by kernel_rfl) ⟨_, zU hX⟩ ?_; intro K hK; try simp only [zN]
  (first | (refine zo (t := 38) rfl _ _ _ rfl (fun w hw => zy (zD r0B w hw) Tryz.isAgg38 (by kernel_rfl)) (by rfl) ?_; simp only [zn]; go_big_quiet_on) | (refine zo (t := 3) rfl _ _ _ rfl (fun w hw => zu ((zD r0B w hw).cellL 0 rfl)) (by rfl) ?_; simp only [zn]; go_big_quiet_on) | (refine zo (t := 3) rfl _ _ _ rfl (fun w hw => zu ((zD r0B w hw).cellL 1 rfl)) (by rfl) ?_; simp only [zn]; go_big_quiet_on) | (refine zo (t := 3) rfl _ _ _ rfl (fun w hw => zu ((zD r0B w hw).cellL 2 rfl)) (by rfl) ?_; simp only [zn]; go_big_quiet_on) | (refine zo (t := 3) rfl _ _ _ rfl (fun w hw => zu ((zD r0B w hw).cellL 3 rfl)) (by rfl) ?_; simp only [zn]; go_big_quiet_on) | (go_big_quiet_op; go_big_quiet_on))
  simp only [zn]; refine qL 7 rfl (by kernel_rfl) ⟨_, zU hX⟩ ?_; intro K hK; try simp only [zN]
  (first | (refine zo (t := 38) rfl _ _ _ rfl (fun w hw => zy (zD r0B w hw) Tryz.isAgg38 (by kernel_rfl)) (by rfl) ?_; simp only [zn]; go_big_quiet_on) | (refine zo (t := 3) rfl _ _ _ rfl (fun w hw => zu ((zD r0B w hw).cellL 0 rfl)) (by rfl) ?_; simp only [zn]; go_big_quiet_on) | (refine zo (t := 3) rfl _ _ _ rfl (fun w hw => zu ((zD r0B w hw).cellL 1 rfl)) (by rfl) ?_; simp only [zn]; go_big_quiet_on) | (refine zo (t := 3) rfl _ _ _ rfl (fun w hw => zu ((zD r0B w hw).cellL 2 rfl)) (by rfl) ?_; simp only [zn]; go_big_quiet_on) | (refine zo (t := 3) rfl _ _ _ rfl (fun w hw => zu ((zD r0B w hw).cellL 3 rfl)) (by rfl) ?_; simp only [zn]; go_big_quiet_on) | (go_big_quiet_op; go_big_quiet_on))
  simp only [zn]; refine qL 8 rfl (by kernel_rfl) ⟨_, zU hX⟩ ?_; intro K hK; try simp only [zN]
  (first | (refine zo (t := 38) rfl _ _ _ rfl (fun w hw => zy (zD r0B w hw) Tryz.isAgg38 (by kernel_rfl)) (by rfl) ?_; simp only [zn]; go_big_quiet_on) | (refine zo (t := 3) rfl _ _ _ rfl (fun w hw => zu ((zD r0B w hw).cellL 0 rfl)) (by rfl) ?_; simp only [zn]; go_big_quiet_on) | (refine zo (t := 3) rfl _ _ _ rfl (fun w hw => zu ((zD r0B w hw).cellL 1 rfl)) (by rfl) ?_; simp only [zn]; go_big_quiet_on) | (refine zo (t := 3) rfl _ _ _ rfl (fun w hw => zu ((zD r0B w hw).cellL 2 rfl)) (by rfl) ?_; simp only [zn]; go_big_quiet_on) | (refine zo (t := 3) rfl _ _ _ rfl (fun w hw => zu ((zD r0B w hw).cellL 3 rfl)) (by rfl) ?_; simp only [zn]; go_big_quiet_on) | (go_big_quiet_op; go_big_quiet_on))
  simp only [zn]; refine qL 9 rfl (by kernel_rfl) ⟨_, zU hX⟩ ?_; intro K hK; try simp only [zN]
  (first | (refine zo (t := 38) rfl _ _ _ rfl (fun w hw => zy (zD r0B w hw) Tryz.isAgg38 (by kernel_rfl)) (by rfl) ?_; simp only [zn]; go_big_quiet_on) | (refine zo (t := 3) rfl _ _ _ rfl (fun w hw => zu ((zD r0B w hw).cellL 0 rfl)) (by rfl) ?_; simp only [zn]; go_big_quiet_on) | (refine zo (t := 3) rfl _ _ _ rfl (fun w hw => zu ((zD r0B w hw).cellL 1 rfl)) (by rfl) ?_; simp only [zn]; go_big_quiet_on) | (refine zo (t := 3) rfl _ _ _ rfl (fun w hw => zu ((zD r0B w hw).cellL 2 rfl)) (by rfl) ?_; simp only [zn]; go_big_quiet_on) | (refine zo (t := 3) rfl _ _ _ rfl (fun w hw => zu ((zD r0B w hw).cellL 3 rfl)) (by rfl) ?_; simp only [zn]; go_big_quiet_on) | (go_big_quiet_op; go_big_quiet_on))
  simp only [zn]; refine qL 10 rfl (by kernel_rfl) ⟨_, zU hX⟩ ?_; intro K hK; try simp only [zN]
  (first | (refine zo (t := 38) rfl _ _ _ rfl (fun w hw => zy (zD r0B w hw) Tryz.isAgg38 (by kernel_rfl)) (by rfl) ?_; simp only [zn]; go_big_quiet_on) | (refine zo (t := 3) rfl _ _ _ rfl (fun w hw => zu ((zD r0B w hw).cellL 0 rfl)) (by rfl) ?_; simp only [zn]; go_big_quiet_on) | (refine zo (t := 3) rfl _ _ _ rfl (fun w hw => zu ((zD r0B w hw).cellL 1 rfl)) (by rfl) ?_; simp only [zn]; go_big_quiet_on) | (refine zo (t := 3) rfl _ _ _ rfl (fun w hw => zu ((zD r0B w hw).cellL 2 rfl)) (by rfl) ?_; simp only [zn]; go_big_quiet_on) | (refine zo (t := 3) rfl _ _ _ rfl (fun w hw => zu ((zD r0B w hw).cellL 3 rfl)) (by rfl) ?_; simp only [zn]; go_big_quiet_on) | (go_big_quiet_op; go_big_quiet_on))
  simp only [zn]; refine qL 11 rfl (by kernel_rfl) ⟨_, zU hX⟩ ?_; intro K hK; try simp only [zN]
  (first | (refine zo (t := 38) rfl _ _ _ rfl (fun w hw => zy (zD r0B w hw) Tryz.isAgg38 (by kernel_rfl)) (by rfl) ?_; simp only [zn]; go_big_quiet_on) | (refine zo (t := 3) rfl _ _ _ rfl (fun w hw => zu ((zD r0B w hw).cellL 0 rfl)) (by rfl) ?_; simp only [zn]; go_big_quiet_on) | (refine zo (t := 3) rfl _ _ _ rfl (fun w hw => zu ((zD r0B w hw).cellL 1 rfl)) (by rfl) ?_; simp only [zn]; go_big_quiet_on) | (refine zo (t := 3) rfl _ _ _ rfl (fun w hw => zu ((zD r0B w hw).cellL 2 rfl)) (by rfl) ?_; simp only [zn]; go_big_quiet_on) | (refine zo (t := 3) rfl _ _ _ rfl (fun w hw => zu ((zD r0B w hw).cellL 3 rfl)) (by rfl) ?_; simp only [zn]; go_big_quiet_on) | (go_big_quiet_op; go_big_quiet_on))
  simp only [zn]; refine qL 12 rfl (by kernel_rfl) ⟨_, zU hX⟩ ?_; intro K hK; try simp only [zN]
  (first | (refine zo (t := 38) rfl _ _ _ rfl (fun w hw => zy (zD r0B w hw) Tryz.isAgg38 (by kernel_rfl)) (by rfl) ?_; simp only [zn]; go_big_quiet_on) | (refine zo (t := 3) rfl _ _ _ rfl (fun w hw => zu ((zD r0B w hw).cellL 0 rfl)) (by rfl) ?_; simp only [zn]; go_big_quiet_on) | (refine zo (t := 3) rfl _ _ _ rfl (fun w hw => zu ((zD r0B w hw).cellL 1 rfl)) (by rfl) ?_; simp only [zn]; go_big_quiet_on) | (refine zo (t := 3) rfl _ _ _ rfl (fun w hw => zu ((zD r0B w hw).cellL 2 rfl)) (by rfl) ?_; simp only [zn]; go_big_quiet_on) | (refine zo (t := 3) rfl _ _ _ rfl (fun w hw => zu ((zD r0B w hw).cellL 3 rfl)) (by rfl) ?_; simp only [zn]; go_big_quiet_on) | (go_big_quiet_op; go_big_quiet_on))
  simp only [zn]; refine ZX 5 14 15 rfl rfl rfl (by kernel_rfl) rfl rfl rfl (fun K hK => ?_) (fun K hK => ?_) (fun K hK => ?_)
  ·skip
   go_simp
   go_at_call 81
   refine (yD c.x0 c.y0 _ wf1.out wf2.out).mono ?_; rintro e wn ⟨rfl, za⟩; have zf := B.size; have zg := za.size; have hsx := hX.size; replace B := B.trans (za.mono B.size); replace hX := hX.trans (za.mono hX.size); try replace p3 := p3.below za
   try replace p4 := p4.below za
   refine hK _ _ ⟨fun _ => ⟨_, zU hX⟩, ?_⟩; clear hK K; simp only [zn]; refine ZX 13 14 15 rfl rfl rfl (by kernel_rfl) rfl rfl rfl (fun K hK => ?_) (fun K hK => ?_) (fun K hK => ?_)
   ·skip
    go_simp
    go_at_call 81
    refine (yD (c.x1 - 1) (c.y1 - 1) _ wf3.out wf4.out).mono ?_; rintro e wn ⟨rfl, za⟩; have zf := B.size; have zg := za.size; have hsx := hX.size; replace B := B.trans (za.mono B.size); replace hX := hX.trans (za.mono hX.size); try replace p3 := p3.below za
    try replace p4 := p4.below za
    refine hK _ _ ⟨fun _ => ⟨_, zU hX⟩, ?_⟩; clear hK K; simp only [zn]; refine xA 14 15 rfl rfl (by kernel_rfl) rfl rfl (fun K hK => ?_) (fun K hK => ?_)
    ·skip
     refine zR (t := 95) _ (zZ _ _ rfl) ?_; intro b_p3 wn zb zd ht za zg; have zf := B.size; have hsx := hX.size; replace B := B.trans (za.mono (by omega)); replace hX := hX.trans (za.mono (by omega)); try replace p3 := p3.below (za.mono zb)
     try replace p4 := p4.below (za.mono zb)
     have p3 := ht; clear ht; refine hK _ _ ⟨fun _ => ⟨_, zU hX⟩, ?_⟩; clear hK K; simp only [zn]; refine qk 15 rfl (by kernel_rfl) rfl (fun K hK => ?_); refine zR (t := 95) _ (zZ _ _ rfl) ?_; intro b_p4 wn zb zd ht za zg; have zf := B.size; have hsx := hX.size; replace B := B.trans (za.mono (by omega)); replace hX := hX.trans (za.mono (by omega)); try replace p3 := p3.below (za.mono zb)
     try replace p4 := p4.below (za.mono zb)
     have p4 := ht; clear ht; refine hK _ _ ⟨fun _ => ⟨_, zU hX⟩, ?_⟩; clear hK K; simp only [zn]; refine je (by kernel_rfl) (by kernel_rfl) ?_; simp only [List.drop_succ_cons, List.drop_zero]; go_wp2_with (first | (refine zp (t := 95) rfl _ _ rfl _ rfl _ rfl p3 (by kernel_rfl) rfl (by simp [Value.oneCell']) (qt B (by omega) ?_); clear p3 B; intro wn p3 ze zf zg B; (try replace p4 := p4.of_eq (ze.block _ p4.lt (by omega))); simp only [zn]) | (refine zp (t := 95) rfl _ _ rfl _ rfl _ rfl p4 (by kernel_rfl) rfl (by simp [Value.oneCell']) (qt B (by omega) ?_); clear p4 B; intro wn p4 ze zf zg B; (try replace p3 := p3.of_eq (ze.block _ p3.lt (by omega))); simp only [zn]) | fail)
     refine zQ.normal ?_; go_wp2_with fail
     go_meet; exact ⟨b_p3, b_p4, rfl, rfl, B, by omega, by omega, p3, p4⟩
    ·skip
     refine zR (t := 95) _ (zZ _ _ rfl) ?_; intro b_p4 wn zb zd ht za zg; have zf := B.size; have hsx := hX.size; replace B := B.trans (za.mono (by omega)); replace hX := hX.trans (za.mono (by omega)); try replace p3 := p3.below (za.mono zb)
     try replace p4 := p4.below (za.mono zb)
     have p4 := ht; clear ht; refine hK _ _ ⟨fun _ => ⟨_, zU hX⟩, ?_⟩; clear hK K; simp only [zn]; refine qk 14 rfl (by kernel_rfl) rfl (fun K hK => ?_); refine zR (t := 95) _ (zZ _ _ rfl) ?_; intro b_p3 wn zb zd ht za zg; have zf := B.size; have hsx := hX.size; replace B := B.trans (za.mono (by omega)); replace hX := hX.trans (za.mono (by omega)); try replace p3 := p3.below (za.mono zb)
     try replace p4 := p4.below (za.mono zb)
     have p3 := ht; clear ht; refine hK _ _ ⟨fun _ => ⟨_, zU hX⟩, ?_⟩; clear hK K; simp only [zn]; refine je (by kernel_rfl) (by kernel_rfl) ?_; simp only [List.drop_succ_cons, List.drop_zero]; go_wp2_with (first | (refine zp (t := 95) rfl _ _ rfl _ rfl _ rfl p3 (by kernel_rfl) rfl (by simp [Value.oneCell']) (qt B (by omega) ?_); clear p3 B; intro wn p3 ze zf zg B; (try replace p4 := p4.of_eq (ze.block _ p4.lt (by omega))); simp only [zn]) | (refine zp (t := 95) rfl _ _ rfl _ rfl _ rfl p4 (by kernel_rfl) rfl (by simp [Value.oneCell']) (qt B (by omega) ?_); clear p4 B; intro wn p4 ze zf zg B; (try replace p3 := p3.of_eq (ze.block _ p3.lt (by omega))); simp only [zn]) | fail)
     refine zQ.normal ?_; go_wp2_with fail
     go_meet; exact ⟨b_p3, b_p4, rfl, rfl, B, by omega, by omega, p3, p4⟩
   ·skip
    refine zR (t := 95) _ (zZ _ _ rfl) ?_; intro b_p3 wn zb zd ht za zg; have zf := B.size; have hsx := hX.size; replace B := B.trans (za.mono (by omega)); replace hX := hX.trans (za.mono (by omega)); try replace p3 := p3.below (za.mono zb)
    try replace p4 := p4.below (za.mono zb)
    have p3 := ht; clear ht; refine hK _ _ ⟨fun _ => ⟨_, zU hX⟩, ?_⟩; clear hK K; simp only [zn]; refine xA 13 15 rfl rfl (by kernel_rfl) rfl rfl (fun K hK => ?_) (fun K hK => ?_)
    ·skip
     go_simp
     go_at_call 81
     refine (yD (c.x1 - 1) (c.y1 - 1) _ wf3.out wf4.out).mono ?_; rintro e wn ⟨rfl, za⟩; have zf := B.size; have zg := za.size; have hsx := hX.size; replace B := B.trans (za.mono B.size); replace hX := hX.trans (za.mono hX.size); try replace p3 := p3.below za
     try replace p4 := p4.below za
     refine hK _ _ ⟨fun _ => ⟨_, zU hX⟩, ?_⟩; clear hK K; simp only [zn]; refine qk 15 rfl (by kernel_rfl) rfl (fun K hK => ?_); refine zR (t := 95) _ (zZ _ _ rfl) ?_; intro b_p4 wn zb zd ht za zg; have zf := B.size; have hsx := hX.size; replace B := B.trans (za.mono (by omega)); replace hX := hX.trans (za.mono (by omega)); try replace p3 := p3.below (za.mono zb)
     try replace p4 := p4.below (za.mono zb)
     have p4 := ht; clear ht; refine hK _ _ ⟨fun _ => ⟨_, zU hX⟩, ?_⟩; clear hK K; simp only [zn]; refine je (by kernel_rfl) (by kernel_rfl) ?_; simp only [List.drop_succ_cons, List.drop_zero]; go_wp2_with (first | (refine zp (t := 95) rfl _ _ rfl _ rfl _ rfl p3 (by kernel_rfl) rfl (by simp [Value.oneCell']) (qt B (by omega) ?_); clear p3 B; intro wn p3 ze zf zg B; (try replace p4 := p4.of_eq (ze.block _ p4.lt (by omega))); simp only [zn]) | (refine zp (t := 95) rfl _ _ rfl _ rfl _ rfl p4 (by kernel_rfl) rfl (by simp [Value.oneCell']) (qt B (by omega) ?_); clear p4 B; intro wn p4 ze zf zg B; (try replace p3 := p3.of_eq (ze.block _ p3.lt (by omega))); simp only [zn]) | fail)
     refine zQ.normal ?_; go_wp2_with fail
     go_meet; exact ⟨b_p3, b_p4, rfl, rfl, B, by omega, by omega, p3, p4⟩
    ·skip
     refine zR (t := 95) _ (zZ _ _ rfl) ?_; intro b_p4 wn zb zd ht za zg; have zf := B.size; have hsx := hX.size; replace B := B.trans (za.mono (by omega)); replace hX := hX.trans (za.mono (by omega)); try replace p3 := p3.below (za.mono zb)
     try replace p4 := p4.below (za.mono zb)
     have p4 := ht; clear ht; refine hK _ _ ⟨fun _ => ⟨_, zU hX⟩, ?_⟩; clear hK K; simp only [zn]; refine qk 13 rfl (by kernel_rfl) rfl (fun K hK => ?_); go_simp
     go_at_call 81
     refine (yD (c.x1 - 1) (c.y1 - 1) _ wf3.out wf4.out).mono ?_; rintro e wn ⟨rfl, za⟩; have zf := B.size; have zg := za.size; have hsx := hX.size; replace B := B.trans (za.mono B.size); replace hX := hX.trans (za.mono hX.size); try replace p3 := p3.below za
     try replace p4 := p4.below za
     refine hK _ _ ⟨fun _ => ⟨_, zU hX⟩, ?_⟩; clear hK K; simp only [zn]; refine je (by kernel_rfl) (by kernel_rfl) ?_; simp only [List.drop_succ_cons, List.drop_zero]; go_wp2_with (first | (refine zp (t := 95) rfl _ _ rfl _ rfl _ rfl p3 (by kernel_rfl) rfl (by simp [Value.oneCell']) (qt B (by omega) ?_); clear p3 B; intro wn p3 ze zf zg B; (try replace p4 := p4.of_eq (ze.block _ p4.lt (by omega))); simp only [zn]) | (refine zp (t := 95) rfl _ _ rfl _ rfl _ rfl p4 (by kernel_rfl) rfl (by simp [Value.oneCell']) (qt B (by omega) ?_); clear p4 B; intro wn p4 ze zf zg B; (try replace p3 := p3.of_eq (ze.block _ p3.lt (by omega))); simp only [zn]) | fail)
     refine zQ.normal ?_; go_wp2_with fail
     go_meet; exact ⟨b_p3, b_p4, rfl, rfl, B, by omega, by omega, p3, p4⟩
   ·skip
    refine zR (t := 95) _ (zZ _ _ rfl) ?_; intro b_p4 wn zb zd ht za zg; have zf := B.size; have hsx := hX.size; replace B := B.trans (za.mono (by omega)); replace hX := hX.trans (za.mono (by omega)); try replace p3 := p3.below (za.mono zb)
    try replace p4 := p4.below (za.mono zb)
    have p4 := ht; clear ht; refine hK _ _ ⟨fun _ => ⟨_, zU hX⟩, ?_⟩; clear hK K; simp only [zn]; refine xA 13 14 rfl rfl (by kernel_rfl) rfl rfl (fun K hK => ?_) (fun K hK => ?_)
    ·skip
     go_simp
     go_at_call 81
     refine (yD (c.x1 - 1) (c.y1 - 1) _ wf3.out wf4.out).mono ?_; rintro e wn ⟨rfl, za⟩; have zf := B.size; have zg := za.size; have hsx := hX.size; replace B := B.trans (za.mono B.size); replace hX := hX.trans (za.mono hX.size); try replace p3 := p3.below za
     try replace p4 := p4.below za
     refine hK _ _ ⟨fun _ => ⟨_, zU hX⟩, ?_⟩; clear hK K; simp only [zn]; refine qk 14 rfl (by kernel_rfl) rfl (fun K hK => ?_); refine zR (t := 95) _ (zZ _ _ rfl) ?_; intro b_p3 wn zb zd ht za zg; have zf := B.size; have hsx := hX.size; replace B := B.trans (za.mono (by omega)); replace hX := hX.trans (za.mono (by omega)); try replace p3 := p3.below (za.mono zb)
     try replace p4 := p4.below (za.mono zb)
     have p3 := ht; clear ht; refine hK _ _ ⟨fun _ => ⟨_, zU hX⟩, ?_⟩; clear hK K; simp only [zn]; refine je (by kernel_rfl) (by kernel_rfl) ?_; simp only [List.drop_succ_cons, List.drop_zero]; go_wp2_with (first | (refine zp (t := 95) rfl _ _ rfl _ rfl _ rfl p3 (by kernel_rfl) rfl (by simp [Value.oneCell']) (qt B (by omega) ?_); clear p3 B; intro wn p3 ze zf zg B; (try replace p4 := p4.of_eq (ze.block _ p4.lt (by omega))); simp only [zn]) | (refine zp (t := 95) rfl _ _ rfl _ rfl _ rfl p4 (by kernel_rfl) rfl (by simp [Value.oneCell']) (qt B (by omega) ?_); clear p4 B; intro wn p4 ze zf zg B; (try replace p3 := p3.of_eq (ze.block _ p3.lt (by omega))); simp only [zn]) | fail)
     refine zQ.normal ?_; go_wp2_with fail
     go_meet; exact ⟨b_p3, b_p4, rfl, rfl, B, by omega, by omega, p3, p4⟩
    ·skip
     refine zR (t := 95) _ (zZ _ _ rfl) ?_; intro b_p3 wn zb zd ht za zg; have zf := B.size; have hsx := hX.size; replace B := B.trans (za.mono (by omega)); replace hX := hX.trans (za.mono (by omega)); try replace p3 := p3.below (za.mono zb)
     try replace p4 := p4.below (za.mono zb)
     have p3 := ht; clear ht; refine hK _ _ ⟨fun _ => ⟨_, zU hX⟩, ?_⟩; clear hK K; simp only [zn]; refine qk 13 rfl (by kernel_rfl) rfl (fun K hK => ?_); go_simp
     go_at_call 81
     refine (yD (c.x1 - 1) (c.y1 - 1) _ wf3.out wf4.out).mono ?_; rintro e wn ⟨rfl, za⟩; have zf := B.size; have zg := za.size; have hsx := hX.size; replace B := B.trans (za.mono B.size); replace hX := hX.trans (za.mono hX.size); try replace p3 := p3.below za
     try replace p4 := p4.below za
     refine hK _ _ ⟨fun _ => ⟨_, zU hX⟩, ?_⟩; clear hK K; simp only [zn]; refine je (by kernel_rfl) (by kernel_rfl) ?_; simp only [List.drop_succ_cons, List.drop_zero]; go_wp2_with (first | (refine zp (t := 95) rfl _ _ rfl _ rfl _ rfl p3 (by kernel_rfl) rfl (by simp [Value.oneCell']) (qt B (by omega) ?_); clear p3 B; intro wn p3 ze zf zg B; (try replace p4 := p4.of_eq (ze.block _ p4.lt (by omega))); simp only [zn]) | (refine zp (t := 95) rfl _ _ rfl _ rfl _ rfl p4 (by kernel_rfl) rfl (by simp [Value.oneCell']) (qt B (by omega) ?_); clear p4 B; intro wn p4 ze zf zg B; (try replace p3 := p3.of_eq (ze.block _ p3.lt (by omega))); simp only [zn]) | fail)
     refine zQ.normal ?_; go_wp2_with fail
     go_meet; exact ⟨b_p3, b_p4, rfl, rfl, B, by omega, by omega, p3, p4⟩
  ·skip
   refine zR (t := 95) _ (zZ _ _ rfl) ?_; intro b_p3 wn zb zd ht za zg; have zf := B.size; have hsx := hX.size; replace B := B.trans (za.mono (by omega)); replace hX := hX.trans (za.mono (by omega)); try replace p3 := p3.below (za.mono zb)
   try replace p4 := p4.below (za.mono zb)
   have p3 := ht; clear ht; refine hK _ _ ⟨fun _ => ⟨_, zU hX⟩, ?_⟩; clear hK K; simp only [zn]; refine xA 5 15 rfl rfl (by kernel_rfl) rfl rfl (fun K hK => ?_) (fun K hK => ?_)
   ·skip
    go_simp
    go_at_call 81
    refine (yD c.x0 c.y0 _ wf1.out wf2.out).mono ?_; rintro e wn ⟨rfl, za⟩; have zf := B.size; have zg := za.size; have hsx := hX.size; replace B := B.trans (za.mono B.size); replace hX := hX.trans (za.mono hX.size); try replace p3 := p3.below za
    try replace p4 := p4.below za
    refine hK _ _ ⟨fun _ => ⟨_, zU hX⟩, ?_⟩; clear hK K; simp only [zn]; refine xA 13 15 rfl rfl (by kernel_rfl) rfl rfl (fun K hK => ?_) (fun K hK => ?_)
    ·skip
     go_simp
     go_at_call 81
     refine (yD (c.x1 - 1) (c.y1 - 1) _ wf3.out wf4.out).mono ?_; rintro e wn ⟨rfl, za⟩; have zf := B.size; have zg := za.size; have hsx := hX.size; replace B := B.trans (za.mono B.size); replace hX := hX.trans (za.mono hX.size); try replace p3 := p3.below za
     try replace p4 := p4.below za
     refine hK _ _ ⟨fun _ => ⟨_, zU hX⟩, ?_⟩; clear hK K; simp only [zn]; refine qk 15 rfl (by kernel_rfl) rfl (fun K hK => ?_); refine zR (t := 95) _ (zZ _ _ rfl) ?_; intro b_p4 wn zb zd ht za zg; have zf := B.size; have hsx := hX.size; replace B := B.trans (za.mono (by omega)); replace hX := hX.trans (za.mono (by omega)); try replace p3 := p3.below (za.mono zb)
     try replace p4 := p4.below (za.mono zb)
     have p4 := ht; clear ht; refine hK _ _ ⟨fun _ => ⟨_, zU hX⟩, ?_⟩; clear hK K; simp only [zn]; refine je (by kernel_rfl) (by kernel_rfl) ?_; simp only [List.drop_succ_cons, List.drop_zero]; go_wp2_with (first | (refine zp (t := 95) rfl _ _ rfl _ rfl _ rfl p3 (by kernel_rfl) rfl (by simp [Value.oneCell']) (qt B (by omega) ?_); clear p3 B; intro wn p3 ze zf zg B; (try replace p4 := p4.of_eq (ze.block _ p4.lt (by omega))); simp only [zn]) | (refine zp (t := 95) rfl _ _ rfl _ rfl _ rfl p4 (by kernel_rfl) rfl (by simp [Value.oneCell']) (qt B (by omega) ?_); clear p4 B; intro wn p4 ze zf zg B; (try replace p3 := p3.of_eq (ze.block _ p3.lt (by omega))); simp only [zn]) | fail)
     refine zQ.normal ?_; go_wp2_with fail
     go_meet; exact ⟨b_p3, b_p4, rfl, rfl, B, by omega, by omega, p3, p4⟩
    ·skip
     refine zR (t := 95) _ (zZ _ _ rfl) ?_; intro b_p4 wn zb zd ht za zg; have zf := B.size; have hsx := hX.size; replace B := B.trans (za.mono (by omega)); replace hX := hX.trans (za.mono (by omega)); try replace p3 := p3.below (za.mono zb)
     try replace p4 := p4.below (za.mono zb)
     have p4 := ht; clear ht; refine hK _ _ ⟨fun _ => ⟨_, zU hX⟩, ?_⟩; clear hK K; simp only [zn]; refine qk 13 rfl (by kernel_rfl) rfl (fun K hK => ?_); go_simp
     go_at_call 81
     refine (yD (c.x1 - 1) (c.y1 - 1) _ wf3.out wf4.out).mono ?_; rintro e wn ⟨rfl, za⟩; have zf := B.size; have zg := za.size; have hsx := hX.size; replace B := B.trans (za.mono B.size); replace hX := hX.trans (za.mono hX.size); try replace p3 := p3.below za
     try replace p4 := p4.below za
     refine hK _ _ ⟨fun _ => ⟨_, zU hX⟩, ?_⟩; clear hK K; simp only [zn]; refine je (by kernel_rfl) (by kernel_rfl) ?_; simp only [List.drop_succ_cons, List.drop_zero]; go_wp2_with (first | (refine zp (t := 95) rfl _ _ rfl _ rfl _ rfl p3 (by kernel_rfl) rfl (by simp [Value.oneCell']) (qt B (by omega) ?_); clear p3 B; intro wn p3 ze zf zg B; (try replace p4 := p4.of_eq (ze.block _ p4.lt (by omega))); simp only [zn]) | (refine zp (t := 95) rfl _ _ rfl _ rfl _ rfl p4 (by kernel_rfl) rfl (by simp [Value.oneCell']) (qt B (by omega) ?_); clear p4 B; intro wn p4 ze zf zg B; (try replace p3 := p3.of_eq (ze.block _ p3.lt (by omega))); simp only [zn]) | fail)
     refine zQ.normal ?_; go_wp2_with fail
     go_meet; exact ⟨b_p3, b_p4, rfl, rfl, B, by omega, by omega, p3, p4⟩
   ·skip
    refine zR (t := 95) _ (zZ _ _ rfl) ?_; intro b_p4 wn zb zd ht za zg; have zf := B.size; have hsx := hX.size; replace B := B.trans (za.mono (by omega)); replace hX := hX.trans (za.mono (by omega)); try replace p3 := p3.below (za.mono zb)
    try replace p4 := p4.below (za.mono zb)
    have p4 := ht; clear ht; refine hK _ _ ⟨fun _ => ⟨_, zU hX⟩, ?_⟩; clear hK K; simp only [zn]; refine qk 5 rfl (by kernel_rfl) rfl (fun K hK => ?_); go_simp
    go_at_call 81
    refine (yD c.x0 c.y0 _ wf1.out wf2.out).mono ?_; rintro e wn ⟨rfl, za⟩; have zf := B.size; have zg := za.size; have hsx := hX.size; replace B := B.trans (za.mono B.size); replace hX := hX.trans (za.mono hX.size); try replace p3 := p3.below za
    try replace p4 := p4.below za
    refine hK _ _ ⟨fun _ => ⟨_, zU hX⟩, ?_⟩; clear hK K; simp only [zn]; refine qk 13 rfl (by kernel_rfl) rfl (fun K hK => ?_); go_simp
    go_at_call 81
    refine (yD (c.x1 - 1) (c.y1 - 1) _ wf3.out wf4.out).mono ?_; rintro e wn ⟨rfl, za⟩; have zf := B.size; have zg := za.size; have hsx := hX.size; replace B := B.trans (za.mono B.size); replace hX := hX.trans (za.mono hX.size); try replace p3 := p3.below za
    try replace p4 := p4.below za
    refine hK _ _ ⟨fun _ => ⟨_, zU hX⟩, ?_⟩; clear hK K; simp only [zn]; refine je (by kernel_rfl) (by kernel_rfl) ?_; simp only [List.drop_succ_cons, List.drop_zero]; go_wp2_with (first | (refine zp (t := 95) rfl _ _ rfl _ rfl _ rfl p3 (by kernel_rfl) rfl (by simp [Value.oneCell']) (qt B (by omega) ?_); clear p3 B; intro wn p3 ze zf zg B; (try replace p4 := p4.of_eq (ze.block _ p4.lt (by omega))); simp only [zn]) | (refine zp (t := 95) rfl _ _ rfl _ rfl _ rfl p4 (by kernel_rfl) rfl (by simp [Value.oneCell']) (qt B (by omega) ?_); clear p4 B; intro wn p4 ze zf zg B; (try replace p3 := p3.of_eq (ze.block _ p3.lt (by omega))); simp only [zn]) | fail)
    refine zQ.normal ?_; go_wp2_with fail
    go_meet; exact ⟨b_p3, b_p4, rfl, rfl, B, by omega, by omega, p3, p4⟩
  ·skip
   refine zR (t := 95) _ (zZ _ _ rfl) ?_; intro b_p4 wn zb zd ht za zg; have zf := B.size; have hsx := hX.size; replace B := B.trans (za.mono (by omega)); replace hX := hX.trans (za.mono (by omega)); try replace p3 := p3.below (za.mono zb)
   try replace p4 := p4.below (za.mono zb)
   have p4 := ht; clear ht; refine hK _ _ ⟨fun _ => ⟨_, zU hX⟩, ?_⟩; clear hK K; simp only [zn]; refine xA 5 14 rfl rfl (by kernel_rfl) rfl rfl (fun K hK => ?_) (fun K hK => ?_)
   ·skip
    go_simp
    go_at_call 81
    refine (yD c.x0 c.y0 _ wf1.out wf2.out).mono ?_; rintro e wn ⟨rfl, za⟩; have zf := B.size; have zg := za.size; have hsx := hX.size; replace B := B.trans (za.mono B.size); replace hX := hX.trans (za.mono hX.size); try replace p3 := p3.below za
    try replace p4 := p4.below za
    refine hK _ _ ⟨fun _ => ⟨_, zU hX⟩, ?_⟩; clear hK K; simp only [zn]; refine xA 13 14 rfl rfl (by kernel_rfl) rfl rfl (fun K hK => ?_) (fun K hK => ?_)
    ·skip
     go_simp
     go_at_call 81
     refine (yD (c.x1 - 1) (c.y1 - 1) _ wf3.out wf4.out).mono ?_; rintro e wn ⟨rfl, za⟩; have zf := B.size; have zg := za.size; have hsx := hX.size; replace B := B.trans (za.mono B.size); replace hX := hX.trans (za.mono hX.size); try replace p3 := p3.below za
     try replace p4 := p4.below za
     refine hK _ _ ⟨fun _ => ⟨_, zU hX⟩, ?_⟩; clear hK K; simp only [zn]; refine qk 14 rfl (by kernel_rfl) rfl (fun K hK => ?_); refine zR (t := 95) _ (zZ _ _ rfl) ?_; intro b_p3 wn zb zd ht za zg; have zf := B.size; have hsx := hX.size; replace B := B.trans (za.mono (by omega)); replace hX := hX.trans (za.mono (by omega)); try replace p3 := p3.below (za.mono zb)
     try replace p4 := p4.below (za.mono zb)
     have p3 := ht; clear ht; refine hK _ _ ⟨fun _ => ⟨_, zU hX⟩, ?_⟩; clear hK K; simp only [zn]; refine je (by kernel_rfl) (by kernel_rfl) ?_; simp only [List.drop_succ_cons, List.drop_zero]; go_wp2_with (first | (refine zp (t := 95) rfl _ _ rfl _ rfl _ rfl p3 (by kernel_rfl) rfl (by simp [Value.oneCell']) (qt B (by omega) ?_); clear p3 B; intro wn p3 ze zf zg B; (try replace p4 := p4.of_eq (ze.block _ p4.lt (by omega))); simp only [zn]) | (refine zp (t := 95) rfl _ _ rfl _ rfl _ rfl p4 (by kernel_rfl) rfl (by simp [Value.oneCell']) (qt B (by omega) ?_); clear p4 B; intro wn p4 ze zf zg B; (try replace p3 := p3.of_eq (ze.block _ p3.lt (by omega))); simp only [zn]) | fail)
     refine zQ.normal ?_; go_wp2_with fail
     go_meet; exact ⟨b_p3, b_p4, rfl, rfl, B, by omega, by omega, p3, p4⟩
    ·skip
     refine zR (t := 95) _ (zZ _ _ rfl) ?_; intro b_p3 wn zb zd ht za zg; have zf := B.size; have hsx := hX.size; replace B := B.trans (za.mono (by omega)); replace hX := hX.trans (za.mono (by omega)); try replace p3 := p3.below (za.mono zb)
     try replace p4 := p4.below (za.mono zb)
     have p3 := ht; clear ht; refine hK _ _ ⟨fun _ => ⟨_, zU hX⟩, ?_⟩; clear hK K; simp only [zn]; refine qk 13 rfl (by kernel_rfl) rfl (fun K hK => ?_); go_simp
     go_at_call 81
     refine (yD (c.x1 - 1) (c.y1 - 1) _ wf3.out wf4.out).mono ?_; rintro e wn ⟨rfl, za⟩; have zf := B.size; have zg := za.size; have hsx := hX.size; replace B := B.trans (za.mono B.size); replace hX := hX.trans (za.mono hX.size); try replace p3 := p3.below za
     try replace p4 := p4.below za
     refine hK _ _ ⟨fun _ => ⟨_, zU hX⟩, ?_⟩; clear hK K; simp only [zn]; refine je (by kernel_rfl) (by kernel_rfl) ?_; simp only [List.drop_succ_cons, List.drop_zero]; go_wp2_with (first | (refine zp (t := 95) rfl _ _ rfl _ rfl _ rfl p3 (by kernel_rfl) rfl (by simp [Value.oneCell']) (qt B (by omega) ?_); clear p3 B; intro wn p3 ze zf zg B; (try replace p4 := p4.of_eq (ze.block _ p4.lt (by omega))); simp only [zn]) | (refine zp (t := 95) rfl _ _ rfl _ rfl _ rfl p4 (by kernel_rfl) rfl (by simp [Value.oneCell']) (qt B (by omega) ?_); clear p4 B; intro wn p4 ze zf zg B; (try replace p3 := p3.of_eq (ze.block _ p3.lt (by omega))); simp only [zn]) | fail)
     refine zQ.normal ?_; go_wp2_with fail
     go_meet; exact ⟨b_p3, b_p4, rfl, rfl, B, by omega, by omega, p3, p4⟩
   ·skip
    refine zR (t := 95) _ (zZ _ _ rfl) ?_; intro b_p3 wn zb zd ht za zg; have zf := B.size; have hsx := hX.size; replace B := B.trans (za.mono (by omega)); replace hX := hX.trans (za.mono (by omega)); try replace p3 := p3.below (za.mono zb)
    try replace p4 := p4.below (za.mono zb)
    have p3 := ht; clear ht; refine hK _ _ ⟨fun _ => ⟨_, zU hX⟩, ?_⟩; clear hK K; simp only [zn]; refine qk 5 rfl (by kernel_rfl) rfl (fun K hK => ?_); go_simp
    go_at_call 81
    refine (yD c.x0 c.y0 _ wf1.out wf2.out).mono ?_; rintro e wn ⟨rfl, za⟩; have zf := B.size; have zg := za.size; have hsx := hX.size; replace B := B.trans (za.mono B.size); replace hX := hX.trans (za.mono hX.size); try replace p3 := p3.below za
    try replace p4 := p4.below za
    refine hK _ _ ⟨fun _ => ⟨_, zU hX⟩, ?_⟩; clear hK K; simp only [zn]; refine qk 13 rfl (by kernel_rfl) rfl (fun K hK => ?_); go_simp
    go_at_call 81
    refine (yD (c.x1 - 1) (c.y1 - 1) _ wf3.out wf4.out).mono ?_; rintro e wn ⟨rfl, za⟩; have zf := B.size; have zg := za.size; have hsx := hX.size; replace B := B.trans (za.mono B.size); replace hX := hX.trans (za.mono hX.size); try replace p3 := p3.below za
    try replace p4 := p4.below za
    refine hK _ _ ⟨fun _ => ⟨_, zU hX⟩, ?_⟩; clear hK K; simp only [zn]; refine je (by kernel_rfl) (by kernel_rfl) ?_; simp only [List.drop_succ_cons, List.drop_zero]; go_wp2_with (first | (refine zp (t := 95) rfl _ _ rfl _ rfl _ rfl p3 (by kernel_rfl) rfl (by simp [Value.oneCell']) (qt B (by omega) ?_); clear p3 B; intro wn p3 ze zf zg B; (try replace p4 := p4.of_eq (ze.block _ p4.lt (by omega))); simp only [zn]) | (refine zp (t := 95) rfl _ _ rfl _ rfl _ rfl p4 (by kernel_rfl) rfl (by simp [Value.oneCell']) (qt B (by omega) ?_); clear p4 B; intro wn p4 ze zf zg B; (try replace p3 := p3.of_eq (ze.block _ p3.lt (by omega))); simp only [zn]) | fail)
    refine zQ.normal ?_; go_wp2_with fail
    go_meet; exact ⟨b_p3, b_p4, rfl, rfl, B, by omega, by omega, p3, p4⟩
 case rest =>
 clear B r0 r0B
 obtain ⟨b_p3, b_p4, rfl, rfl, B, k3, k4, p3, p4⟩ := hcut
 have hJ := HJ.out _ B
 have n3 : b_p3 ≠ b8 := by omega
 have n4 : b_p4 ≠ b8 := by omega
 clear B HJ
 go_upto_region 2 with fail
 refine wp_region_lit ?_
 refine zx 7 ?_
 refine wpList_nil ?_
 go_wp2
 go_loopw [5, 6, 29] (fun _ _ iv wr => ∃ k : Nat, k ≤ H ∧ iv = .int .i64 (k : Int) ∧ J (yU (YG c) (W * k)) wr ∧ zF 95 wr b_p3 #[.int .i64 (c.x0 / 8), .int .i64 (c.y0 / 8)] ∧ zF 95 wr b_p4 #[.int .i64 ((c.x1 - 1) / 8), .int .i64 ((c.y1 - 1) / 8)]) (fun _ _ iv _ => (H - intOf iv).toNat)
 case atStart => exact ⟨0, by omega, by simp, by rw [Nat.mul_zero, Wp]; exact hJ, p3, p4⟩
 case round =>
  clear p3 p4 hJ; obtain ⟨k, hk, rfl, hJ, p3, p4⟩ := hrel; by_cases hkH : k < H
  ·have q1 : decide ((k : Int) < (c.y1 - 1) / 8 - c.y0 / 8 + 1) = true := decide_eq_true (by omega)
   have hn2 : W * k + W ≤ W * H := by
    have := Nat.mul_le_mul_left W (show k + 1 ≤ H from hkH); rw [Nat.mul_succ] at this; exact this
   go_upto_region 3 with fail
   refine wp_region_lit ?_; refine zx 1 ?_; refine wpList_nil ?_; go_upto_region 4 with fail
   refine wp_region_lit ?_; refine zx 2 ?_; refine wpList_nil ?_; go_upto_region 5 with fail
   refine wp_region_lit ?_; refine zx 7 ?_
   refine wpList_nil ?_; go_wp2; go_loopw [6, 38] (fun _ iv wr => ∃ j : Nat, j ≤ W ∧ iv = .int .i64 (j : Int) ∧ J (yU (YG c) (W * k + j)) wr ∧ zF 95 wr b_p3 #[.int .i64 (c.x0 / 8), .int .i64 (c.y0 / 8)] ∧ zF 95 wr b_p4 #[.int .i64 ((c.x1 - 1) / 8), .int .i64 ((c.y1 - 1) / 8)]) (fun _ iv _ => (W - intOf iv).toNat)
   case atStart => exact ⟨0, by omega, by simp, hJ, p3, p4⟩
   case round =>
    clear p3 p4 hJ; obtain ⟨j, hj, rfl, hJ, p3, p4⟩ := hrel; by_cases hjW : j < W
    ·have q2 : decide ((j : Int) < (c.x1 - 1) / 8 - c.x0 / 8 + 1) = true := decide_eq_true (by omega)
     have zh : W * k + j < YG c := by omega
     go_upto_region 6 with fail
     refine wp_region_lit ?_; refine zx 1 ?_; refine wpList_nil ?_; go_upto_region 7 with fail
     refine wp_region_lit ?_; refine zx 2 ?_; refine wpList_nil ?_; go_upto_region 8 with fail
     obtain ⟨fn, tmps, assign, body, hy, hR⟩ := HY.out (yU (YG c) (W * k + j)) ⟨W * k + j, zh⟩ _ hJ (by rw [vI (by omega)]; exact zh)
     have ep : kD c ⟨W * k + j, zh⟩ = (c.x0 / 8 + (j : Int), c.y0 / 8 + (k : Int)) := HR.out k j hjW; rw [ep] at hy; try dsimp only at hy
     rw [← uY zh] at hR; have c0 := p3.cellL 0 rfl; have c1 := p3.cellL 1 rfl; try dsimp only at c0 c1
     refine (wpIn_wide (n := n)).1 ?_; gi_wp2
     refine hR.mono ?_; rintro e W1 (⟨rfl, hJ1, hkp⟩ | ⟨rfl, hx1⟩)
     ·replace p3 := hkp.atB n3 p3
      replace p4 := hkp.atB n4 p4; clear c0 c1; gi_wp2
      go_wp2; go_roundw
      case rel => exact ⟨j + 1, by omega, by go_num, hJ1, p3, p4⟩
      case measure => simp [intOf]; omega
     ·gi_wp2
      go_wp2; refine bodyPost_ret (results_none rfl _ _ _) rfl ?_; exact ⟨⟨_, rfl⟩, .inr ⟨_, trivial, hx1⟩⟩
    ·obtain rfl : j = W := by omega
     have q2 : decide ((j : Int) < (c.x1 - 1) / 8 - c.x0 / 8 + 1) = false := decide_eq_false (by omega); go_upto_region 6 with fail
     refine wp_region_lit ?_; refine zx 1 ?_; refine wpList_nil ?_; go_upto_region 10 with fail
     refine wp_region_lit ?_; refine zx 2 ?_; refine wpList_nil ?_; go_wp2; go_roundw
     case rel => exact ⟨k + 1, by omega, by go_num, by rw [Nat.mul_succ]; exact hJ, p3, p4⟩
     case measure => simp [intOf]; omega
  ·obtain rfl : k = H := by omega
   have q1 : decide ((k : Int) < (c.y1 - 1) / 8 - c.y0 / 8 + 1) = false := decide_eq_false (by omega); go_upto_region 3 with fail
   refine wp_region_lit ?_; refine zx 1 ?_; refine wpList_nil ?_; go_wp2; go_end0
   have eF : yU (YG c) (W * k) = List.finRange (YG c) := by rw [← hew]; exact Qb _
   rw [eF] at hJ; exact ⟨⟨_, rfl⟩, .inl ⟨_, rfl, hJ⟩⟩
/- Contract of Paste of package raster, where the rectangle fits. -/
attribute [local go_sem] Oper.semAt_some
set_option linter.unusedVariables false
set_option linter.unusedSimpArgs false
set_option maxRecDepth 20000
theorem J2 (w : World) (o : Oper) (ho : o.op = .alloc 62) (ev : Operand → Value) : (execOp ev o).run Tryz.prog w = .ok (.value (.pointer (some ⟨w.heap.size, 0, none⟩))) (w.alloc (.cells #[.slice none 0 0] 62)) := by
 obtain ⟨d, p, t, ps, af, gd⟩ := o
 simp only at ho
 subst ho
 kernel_rfl
/-- A slice stored into its own cell. -/
theorem xn {v : Value} {ops : Array Oper} {rest : List Oper} {o : Oper} {a : Act} {w : World} {Q : Exit → Act → World → Prop} (hg : o.guard = none) (x y : Operand) (ho : o.op = .store 62 x y) (b : Nat) (hx : a.eval x = .pointer (some ⟨b, 0, none⟩)) (a' : Option Addr) (n' c' : Nat) (hy : a.eval y = .slice a' n' c') (ht : zF 62 w b #[v])
  (h : ∀ w', zF 62 w' b #[.slice a' n' c'] → qN b w w' → w'.heap.size = w.heap.size → wpList Tryz.prog ops Q rest (a.put o.dst undef) w') : wpList Tryz.prog ops Q (o :: rest) a w := by
 have c0 := ht.cell 0 rfl
 have f0 := ht.frozen 0
 refine qe hg x y ho (w.setCell ⟨b, 0, none⟩ (.slice a' n' c')) ?_ (h _ ?_ ((qN.refl b w).setCell _) (by simp only [World.size_setCell]))
 ·rw [hx, hy]
  simp [go_sem, c0, f0]
 ·exact heap_setCell_same w b 0 #[v] _ _ ht
theorem zM {ops : Array Oper} {rest : List Oper} {o : Oper} {a : Act} {w : World} {Q : Exit → Act → World → Prop} (hg : o.guard = none) (v : Value) (hrun : (execOp a.eval o).run Tryz.prog w = .ok (.value v) w)
  (h : wpList Tryz.prog ops Q rest (a.put o.dst v) w) : wpList Tryz.prog ops Q (o :: rest) a w :=
 wpList_plain hg fun K hK => by
  unfold Oper.wp; rw [hrun]; exact hK _ _ h
theorem zbe (x y : Int) : Instr.fill (fun i => #[(0, 2), (2, 256)][i]?) zTA [(0, Ps.v x y)] = some (xL ⟨x, y, zT⟩) := by
 obtain ⟨r, hs, hr, e⟩ := v7 (place := fun i => #[(0, 2), (2, 256)][i]?) (cells := zTA) (i := 0) (v := Ps.v x y) (rest := []) (off := 0) (sz := 2) rfl (by rw [um]; rfl) (by rw [jM]; omega)
 rw [e]
 show some r = _
 congr 1
 apply Array.ext_getElem?
 intro k
 rw [hr k, ww, um]
 by_cases h2 : k < 2
 ·rw [if_pos (by omega), if_pos h2, Nat.sub_zero]
 ·rw [if_neg (by omega), if_neg h2]
  have hz : zTA[k]? = (qS zT)[k - 2]? := by
   have e : zTA = #[.int .i64 0, .int .i64 0] ++ qS zT := by unfold zTA; kernel_rfl
   rw [e, Array.getElem?_append_right (by simp; omega)]
   rfl
  exact hz
theorem QP (w : World) (x y : Int) : (Instr.build 125 #[(0, Ps.v x y)]).run Tryz.prog w = .ok (.agg (xL ⟨x, y, zT⟩)) w :=
 run_build w 125 #[(0, Ps.v x y)] _ ((XE _).trans (zbe x y))
theorem zB {o : Oper} {a : Act} {C : World → Prop} {K : Act → Prop} {p : Operand} (h : o.op = .build 125 #[(0, p)]) (x y : Int) (hp : a.eval p = .agg #[.int .i64 x, .int .i64 y]) (hk : K (a.put o.dst (.agg (xL ⟨x, y, zT⟩)))) : o.quiet Tryz.prog a C K :=
 ⟨_, fun w hw => by
  have r := QP w x y; simp only [Ps.v] at r; unfold Oper.quietAt execOp; simp only [h, List.map_toArray, List.map_cons, List.map_nil, hp, Sem.run_bind, r, Result.andThen_ok, Sem.run_pure]; exact ⟨rfl, rfl⟩, hk⟩
theorem Y8 {b : Nat} {w w' : World} (h : qN b w w') (e : w'.heap[b]? = w.heap[b]?) : Below w.heap.size w w' :=
 ⟨h.os, h.tape, h.output, h.size, fun k hk => by
  by_cases hb : k = b
  ·subst hb; exact e
  ·exact h.block k hk hb⟩
theorem zK.ownP {g o : Nat} {ls : List Px} {A B : World} {row : Option Nat} (h : zK ka g o ls A) (hn : 0 < ls.length) (hg : A.grownBy B row) (hr : ∀ r, row = some r → ∃ o : Obj, A.heap[r]? = some o ∧ o.isCells = false) : zK ka g o ls B := by
 refine h.of_eq (hg.block g h.lt fun e => ?_)
 obtain ⟨x, hx, hc⟩ := hr g e.symm
 have h0 := h.2 0 _ (List.getElem?_eq_getElem hn) 0 (by omega)
 have hs : ∃ v, (ka.enc ls[0])[0]? = some v := ⟨_, rfl⟩
 obtain ⟨v, hv⟩ := hs
 rw [hv] at h0
 have := Z7 h0 x hx
 rw [hc] at this
 cases this
/-- The pixels of one tile turned by the paste. -/
theorem Xz (c : Rc) (hf : j0 c) (L : List Px) (hL : L.length = areaN c) (okL : V3 L) (e : TA) (a : Option Addr) (cp0 : Nat) (bc bm cb g o cp : Nat) (z : Nat → Px) (w : World) (rs : RS (.slice a 1 cp0) [e] w) (tk : YR e.t) (hw : qP e.x e.y = true) (r0 : zF 38 w bc (jV c)) (m0 : zF 117 w bm (xg c (.slice (some ⟨g, o, none⟩) (areaN c) cp))) (ce : zK ka g o L w) (tz : z1 w cb z) (hsep : (Value.slice a 1 cp0).ownBlock ≠ some cb) :
  Calls Tryz.prog 126 #[.slice a 1 cp0, .func (.func 131) #[] #[.pointer (some ⟨bc, 0, none⟩), .pointer (some ⟨bm, 0, none⟩)]] w fun e' w' => ∃ a' cp', e' = .returned (.slice a' (jd e.x e.y (j5 c L e.x e.y e.t)).length cp') ∧ RS (.slice a' (jd e.x e.y (j5 c L e.x e.y e.t)).length cp') (jd e.x e.y (j5 c L e.x e.y e.t)) w' ∧ Below w.heap.size w w' := by
 have eg := enters_of Tryz.func131 (by kernel_rfl) rfl
 have l1 := r0.lt
 have l2 := m0.lt
 have l3 := ce.lt
 have l4 := tz.lt
 refine (XA (Kv c L) (fun _ W => zF 38 W bc (jV c) ∧ zF 117 W bm (xg c (.slice (some ⟨g, o, none⟩) (areaN c) cp)) ∧ zK ka g o L W ∧ z1 W cb z) cb 131 #[.pointer (some ⟨bc, 0, none⟩), .pointer (some ⟨bm, 0, none⟩)] eg _ [e] () w rs (fun x hx => by rcases List.mem_singleton.1 hx with rfl; exact tk) (by simp) (fun x hx => by rcases List.mem_singleton.1 hx with rfl; exact hw) l4 (fun _ => hsep) ⟨r0, m0, ce, tz⟩
  (fun s W W' hI hk => ⟨hI.1.of_eq (hk _ l1), hI.2.1.of_eq (hk _ l2), hI.2.2.1.of_eq (hk _ l3), hI.2.2.2.of_eq (hk _ l4)⟩)
  (fun s W x y p _ hI h1 h2 h3 h4 hp => (zaC c hf L hL okL x y p hp bc bm g o cp W hI.1 hI.2.1 hI.2.2.1).mono fun e' W' ⟨he, hb⟩ => ⟨he, ⟨hI.1.of_eq (hb.block _ hI.1.lt), hI.2.1.of_eq (hb.block _ hI.2.1.lt), hI.2.2.1.of_eq (hb.block _ hI.2.2.1.lt), hI.2.2.2.of_eq (hb.block _ hI.2.2.2.lt)⟩, qN.of_below hb⟩)
  (fun s x y p hp => VL okL x y p hp)).mono ?_
 rintro e' w' ⟨v', rfl, od, hI, hcc⟩
 have hm : (yJ (Kv c L) [e] () [e].length).2 = jd e.x e.y (j5 c L e.x e.y e.t) := zbC c L e
 rw [hm] at od
 have hb := Y8 hcc (by rw [show w'.heap[cb]? = _ from hI.2.2.2, show w.heap[cb]? = _ from tz])
 obtain ⟨a', cp', rfl, _⟩ := od.len
 exact ⟨a', cp', rfl, od.rs, hb⟩
theorem K4 (v : Value) (ls : List TA) (x y : Int) (k : Nat) (b : Bool) (w : World) (h : RS v ls w) (hs : ZW ls) (hn : ls.length ≤ 1000000) (hk : cutL ls x y = k) (hb : yC ls x y = b) : Calls Tryz.prog 130 #[v, .agg #[.int .i64 x, .int .i64 y]] w fun e w' => e = .returned (.tuple #[.int .i64 (k : Int), .bool b]) ∧ Below w.heap.size w w' := by
 subst hk hb
 exact wV v ls x y w h hs hn
theorem Xj {F : Fence} {n : Nat} {P : Program} {c : Code} {Q : Exit → Act → World → Prop} {W : World} {t : Array Value} {p : Tmp} {v : Value} (h : c.wpIn F n P Q { tmps := t.setIfInBounds p v, defers := [] } W) :
  c.wpIn F n P Q { tmps := (#[p].zip #[v]).foldl (fun t (p, v) => t.setIfInBounds p v) t, defers := [] } W := by
 have e : (#[p].zip #[v]).foldl (fun t (p, v) => t.setIfInBounds p v) t = t.setIfInBounds p v := by
  show Array.foldl _ t (Array.zip (List.toArray [p]) (List.toArray [v])) = _
  rw [List.zip_toArray]; simp
 rw [e]
 exact h
theorem Y6 (t : Array Value) (n : Nat) (h : t.size = n) : ∃ U : Nat → Value, t = ((List.range n).map U).toArray ∧ ∀ i, U i = t.getD i undef := by
 refine ⟨fun i => t.getD i undef, ?_, fun _ => rfl⟩
 apply Array.ext_getElem?
 intro k
 by_cases hk : k < n
 ·simp [hk, h]
 ·simp [hk, h]
/-- A block of deferred calls, empty. -/
def yq (w : World) (D : Nat) : Prop := w.heap[D]? = some (.deferred (some []))
theorem yq.of_eq {w w' : World} {D : Nat} (h : yq w D) (e : w'.heap[D]? = w.heap[D]?) : yq w' D := e.trans h
theorem yq.lt {w : World} {D : Nat} (h : yq w D) : D < w.heap.size := (Array.getElem?_eq_some_iff.1 h).1
theorem yq.below {w w' : World} {D : Nat} (h : yq w D) (e : Below w.heap.size w w') : yq w' D := h.of_eq (e.block _ h.lt)
theorem yq.cg {w w' : World} {D : Nat} (h : yq w D) {zc : Nat} (e : qN zc w w') (hn : D ≠ zc := by omega) : yq w' D := h.of_eq (e.block _ h.lt hn)
theorem yq.ne {w : World} {D b : Nat} {t : TypeId} {cs : Array Value} (h : yq w D) (k : zF t w b cs) : b ≠ D := fun e => by
 subst e
 have k' : w.heap[b]? = _ := k
 rw [show w.heap[b]? = _ from h] at k'
 cases k'
theorem zeI {g o : Nat} {ls : List TA} {w : World} (sc : qm g o ls w) {k : Nat} (hk : k < ls.length) : RS (.slice (some ⟨g, o + k * 258, none⟩) 1 1) [aT ls k] w := by
 refine .inr ⟨g, o + k * 258, 1, rfl, Nat.le_refl _, fun _ => ⟨sc.1, fun i hi j hj => ?_⟩⟩
 obtain rfl : i = 0 := by simpa using hi
 have := sc.2 k hk j hj
 rw [show o + k * 258 + (0 * 258 + j) = o + (k * 258 + j) by omega, this]
 rfl
set_option maxHeartbeats 8000000 in
theorem YY (v : Value) (ls : List TA) (c : Rc) (u : Value) (L : List Px) (w : World) (h : RS v ls w) (tk : jc ls) (hn : ls.length ≤ maxLen) (hE : jr c = 0) (hu : jF ka u L w) (hL : L.length = areaN c) (okL : V3 L) : Calls Tryz.prog 77 #[.agg #[v], .agg (xg c u)] w fun e w' => ∃ a cp, e = .returned (.tuple #[.agg #[.slice a (yw (xp c L (qX ls) (yx c))).length cp], .int .i64 (kC (xp c L (qX ls) (yx c)))]) ∧ RS (.slice a (yw (xp c L (qX ls) (yx c))).length cp) (yw (xp c L (qX ls) (yx c))) w' ∧ Below w.heap.size w w' := by
 have B := Below.refl w.heap.size w
 obtain ⟨a', c', hT⟩ := K9 v ls w h tk hn
 have HT := Lib.hid hT
 clear hT
 obtain ⟨a, cpv, rfl, hc⟩ := h.len
 have HF := yh hE
 have FT := Lib.hid HF
 obtain ⟨an1, an2⟩ := ZJ HF
 have hAN := Lib.hid (Z0 HF)
 have HV := Lib.hid HF.valid
 obtain ⟨ad, cu, rfl, hcu⟩ := hu.len
 obtain ⟨g, o, rfl, ce⟩ := hu.at (by have := Z0 HF; omega)
 have SR := Lib.hid (yl (xe ls))
 have TK := Lib.hid (ky tk)
 have hfl := ur ls
 have hNle := zcn HF
 have OK := Lib.hid okL
 have HL := Lib.hid hL
 have HEE := Lib.hid hE
 have d1 : ((areaN c : Int) != (areaN c : Int)) = false := by simp
 rw [hL]
 rw [hL] at hcu
 clear h tk hu okL hL hE HF
 generalize hks : qX ls = KS at *
 refine (callsIn_wide (n := 3)).1 ?_
 refine callsIn_of_wp_marks Tryz.func77 rfl trivial ?_ rfl
 simp only [Tryz.ntmps77, List.size_toArray, List.length_cons, List.length_nil, Nat.reduceAdd, Nat.reduceSub, Array.replicate_succ, Array.replicate_zero, List.push_toArray, List.append_toArray, List.nil_append, List.cons_append]
 refine wpIn_wide.2 ?_
 go_upto_region 0 with fail
 refine wp_region_lit ?_
 try simp only [zN]
 (refine zt (t := 64) rfl _ rfl _ rfl ?_; intro b_r2 wn zb zd ht za zg; have zf := B.size; replace B := B.trans (za.mono (by omega)); have zk := Nat.lt_of_lt_of_eq (Nat.lt_succ_self _) zg.symm; clear zg; (try have zh := ce.lt); (try replace ce := ce.below (za.mono zb)); have r2 := ht; clear ht; simp only [zn])
 (refine zt (t := 117) rfl _ rfl _ rfl ?_; intro b_m3 wn zb zd ht za zg; have zf := B.size; replace B := B.trans (za.mono (by omega)); have zk := Nat.lt_of_lt_of_eq (Nat.lt_succ_self _) zg.symm; clear zg; (try have zh := r2.lt); (try replace r2 := r2.below (za.mono zb)); (try have zh := ce.lt); (try replace ce := ce.below (za.mono zb)); have m3 := ht; clear ht; simp only [zn])
 (refine zr (t := 64) rfl _ (jp _ _ rfl) ?_; intro b_r4 wn zb zd ht za zg; have zf := B.size; replace B := B.trans (za.mono (by omega)); have zk := Nat.lt_of_lt_of_eq (Nat.lt_succ_self _) zg.symm; clear zg; (try have zh := r2.lt); (try replace r2 := r2.below (za.mono zb)); (try have zh := m3.lt); (try replace m3 := m3.below (za.mono zb)); (try have zh := ce.lt); (try replace ce := ce.below (za.mono zb)); have r4 := ht; clear ht; simp only [zn])
 refine zx 1 ?_
 refine wpList_nil ?_
 go_upto_region 1 with fail
 refine wp_region_lit ?_
 try simp only [zN]
 refine jG 2 ?_
 repeat (first | go_big_quiet_skip | (go_big_quiet_want; first | ((first | refine zo (t := 38) rfl _ _ _ rfl (fun w hw => qA (zD m3 w hw)) (by first | rfl | omega) ?_ | refine qB ?_ | refine qC ?_); simp only [zn]; go_big_quiet_on) | (go_big_quiet_op; go_big_quiet_on)))
 refine wpQuiet_nil ?_
 (refine zr (t := 38) rfl _ (zY _ _ rfl) ?_; intro b_c6 wn zb zd ht za zg; have zf := B.size; replace B := B.trans (za.mono (by omega)); have zk := Nat.lt_of_lt_of_eq (Nat.lt_succ_self _) zg.symm; clear zg; (try have zh := r2.lt); (try replace r2 := r2.below (za.mono zb)); (try have zh := m3.lt); (try replace m3 := m3.below (za.mono zb)); (try have zh := r4.lt); (try replace r4 := r4.below (za.mono zb)); (try have zh := c6.lt); (try replace c6 := c6.below (za.mono zb)); (try have zh := ce.lt); (try replace ce := ce.below (za.mono zb)); have c6 := ht; clear ht; simp only [zn])
 (refine zp (t := 38) rfl _ _ rfl _ rfl _ rfl c6 (by kernel_rfl) rfl (by simp [jV, xg, Value.oneCell']) (qt B (by omega) ?_); clear c6 B; intro wn c6 ze zf zg B; (try replace r2 := r2.of_eq (ze.block _ r2.lt (by omega))); (try replace m3 := m3.of_eq (ze.block _ m3.lt (by omega))); (try replace r4 := r4.of_eq (ze.block _ r4.lt (by omega))); (try replace ce := ce.of_eq (ze.block _ ce.lt (by omega))); simp only [zn])
 refine wpList_nil ?_
 replace c6 : zF 38 _ b_c6 (jV c) := c6
 go_upto_region 2 with fail
 try simp only [zN]
 try have lx_r2 := r2.lt
 try have lx_m3 := m3.lt
 try have lx_r4 := r4.lt
 try have lx_c6 := c6.lt
 try have lx_ce := ce.lt
 refine zL 11 [(1, zP ?v1_1), (6, zP ?v1_6), (8, zP ?v1_8)] (by kernel_rfl) (by kernel_rfl) (by kernel_rfl) ?_
 rotate_left 3
 simp only [jU, Nat.reduceAdd]
 refine ug 1 ?_
 repeat (first | go_big_quiet_skip | (go_big_quiet_want; first | ((first | refine zo (t := 38) rfl _ _ _ rfl (fun w hw => qA (zD m3 w hw)) (by first | rfl | omega) ?_ | refine qB ?_ | refine qC ?_); simp only [zn]; go_big_quiet_on) | (go_big_quiet_op; go_big_quiet_on)))
 refine wpQuiet_nil ?_
 refine zz (by rfl) (by first | rfl | simp [Region.wanted, yielded]) ?_ ?_
 ·intro wn za hE Kx hKx
  have zf := B.size; have zg := za.size; replace B := B.trans (za.mono B.size)
  (try replace r2 := r2.below za)
  (try replace m3 := m3.below za)
  (try replace r4 := r4.below za)
  (try replace c6 := c6.below za)
  (try replace ce := ce.below za)
  refine zS rfl (enters_of Tryz.func128 (by kernel_rfl) rfl) (by simp only [Act.eval, qI]; rfl) ?_
  refine (vW c true _ HV.out).mono ?_; rintro e wm ⟨rfl, zl⟩; refine ⟨_, rfl, ?_⟩; have hz := hKx () wm trivial zl
  dsimp only [zP] at hz
  exact hz
 rintro ⟨⟩
 dsimp only [zP]
 simp only [zn]
 refine ug 4 ?_
 repeat (first | go_big_quiet_skip | (go_big_quiet_want; first | ((first | refine zo (t := 115) rfl _ _ _ rfl (fun w hw => jR (wZ (zD m3 w hw))) (by first | rfl | omega) ?_ | refine qB ?_ | refine qC ?_); simp only [zn]; go_big_quiet_on) | (go_big_quiet_op; go_big_quiet_on)))
 refine wpQuiet_nil ?_
 refine zz (by rfl) ?hw1_6 ?_ ?_
 case hw1_6 => kernel_rfl
 ·intro wn za hE Kx hKx
  have zf := B.size; have zg := za.size; replace B := B.trans (za.mono B.size)
  (try replace r2 := r2.below za)
  (try replace m3 := m3.below za)
  (try replace r4 := r4.below za)
  (try replace c6 := c6.below za)
  (try replace ce := ce.below za)
  refine vg rfl Tryz.underlying115 rfl ?_; exact hKx () _ trivial (Below.refl _ _)
 rintro ⟨⟩
 dsimp only [zP]
 simp only [zn]
 refine ug 1 ?_
 repeat (first | go_big_quiet_skip | (go_big_quiet_want; first | ((first | refine zo (t := 38) rfl _ _ _ rfl (fun w hw => qA (zD m3 w hw)) (by first | rfl | omega) ?_ | refine qB ?_ | refine qC ?_); simp only [zn]; go_big_quiet_on) | (go_big_quiet_op; go_big_quiet_on)))
 refine wpQuiet_nil ?_
 refine zz (by rfl) ?hw1_8 ?_ ?_
 case hw1_8 => kernel_rfl
 ·intro wn za hE Kx hKx
  have zf := B.size; have zg := za.size; replace B := B.trans (za.mono B.size)
  (try replace r2 := r2.below za)
  (try replace m3 := m3.below za)
  (try replace r4 := r4.below za)
  (try replace c6 := c6.below za)
  (try replace ce := ce.below za)
  refine zS rfl (enters_of Tryz.func125 (by kernel_rfl) rfl) (by simp only [Act.eval, qI]; rfl) ?_
  refine (Jn c (areaN c : Int) _ HV.out hAN.out).mono ?_; rintro e wm ⟨rfl, zl⟩; refine ⟨_, rfl, ?_⟩; have hz := hKx () wm trivial zl
  dsimp only [zP] at hz
  exact hz
 rintro ⟨⟩
 dsimp only [zP]
 simp only [zn]
 refine vC 2 ?_
 refine qz ?_
 intro wn za hE
 have zf := B.size
 have zg := za.size
 replace B := B.trans (za.mono B.size)
 (try replace r2 := r2.below za)
 (try replace m3 := m3.below za)
 (try replace r4 := r4.below za)
 (try replace c6 := c6.below za)
 (try replace ce := ce.below za)
 clear hE
 try simp only [List.drop_succ_cons, List.drop_zero]
 refine zQ.normal ?_
 go_upto_region 4 with fail
 refine wp_region_lit ?_
 try simp only [zN]
 refine jG 1 ?_
 repeat (first | go_big_quiet_skip | (go_big_quiet_want; first | ((first | refine zo (t := 38) rfl _ _ _ rfl (fun w hw => qA (zD m3 w hw)) (by first | rfl | omega) ?_ | refine qB ?_ | refine qC ?_); simp only [zn]; go_big_quiet_on) | (go_big_quiet_op; go_big_quiet_on)))
 refine wpQuiet_nil ?_
 refine qE (enters_of Tryz.func124 (by kernel_rfl) rfl) (c := K5 c 0 _ HEE.out) (h := ?_)
 rintro e wn ⟨rfl, za⟩
 have zf := B.size
 have zg := za.size
 replace B := B.trans (za.mono B.size)
 (try replace r2 := r2.below za)
 (try replace m3 := m3.below za)
 (try replace r4 := r4.below za)
 (try replace c6 := c6.below za)
 (try replace ce := ce.below za)
 refine ⟨_, rfl, ?_⟩
 simp only [zn]
 refine zx 1 ?_
 refine wpList_nil ?_
 go_upto_region 5 with fail
 refine wp_region_lit ?_
 try simp only [zN]
 refine zx 2 ?_
 refine wpList_nil ?_
 go_upto_region 7 with fail
 have rs1 := (HT.out _ B).2
 refine wp_region_lit ?_
 try simp only [zN]
 refine zx 1 ?_
 refine qE (enters_of Tryz.func104 (by kernel_rfl) rfl) (c := (HT.out _ B).1) (h := ?_)
 rintro e wn ⟨rfl, za⟩
 have zf := B.size
 have zg := za.size
 replace B := B.trans (za.mono B.size)
 (try replace r2 := r2.below za)
 (try replace m3 := m3.below za)
 (try replace r4 := r4.below za)
 (try replace c6 := c6.below za)
 (try replace ce := ce.below za)
 replace rs1 := rs1.below za
 refine ⟨_, rfl, ?_⟩
 simp only [zn]
 (refine zr (t := 62) rfl _ (J2 _ _ rfl) ?_; intro b_l8 wn zb zd ht za zg; have zf := B.size; replace B := B.trans (za.mono (by omega)); have zk := Nat.lt_of_lt_of_eq (Nat.lt_succ_self _) zg.symm; clear zg; (try have zh := r2.lt); (try replace r2 := r2.below (za.mono zb)); (try have zh := m3.lt); (try replace m3 := m3.below (za.mono zb)); (try have zh := r4.lt); (try replace r4 := r4.below (za.mono zb)); (try have zh := c6.lt); (try replace c6 := c6.below (za.mono zb)); (try have zh := ce.lt); (try replace ce := ce.below (za.mono zb)); (try have zh := rs1.lt); (try replace rs1 := rs1.below (za.mono zb)); have l8 := ht; clear ht; simp only [zn])
 (refine xn rfl _ _ rfl _ rfl _ _ _ rfl l8 (qt B (by omega) ?_); have l8o := l8; clear l8 B; intro wn l8 ze zf zg B; (try replace rs1 := rs1.chg l8o (by simp) ze); (try replace r2 := r2.of_eq (ze.block _ r2.lt (by omega))); (try replace m3 := m3.of_eq (ze.block _ m3.lt (by omega))); (try replace r4 := r4.of_eq (ze.block _ r4.lt (by omega))); (try replace c6 := c6.of_eq (ze.block _ c6.lt (by omega))); (try replace ce := ce.of_eq (ze.block _ ce.lt (by omega))); simp only [zn])
 refine wpList_nil ?_
 have k2 : w.heap.size ≤ b_r2 := by omega
 have k3 : b_r2 < b_m3 := by have := r2.lt; omega
 have k4 : b_m3 < b_r4 := by have := m3.lt; omega
 have k6 : b_r4 < b_c6 := by have := r4.lt; omega
 have k8 : b_c6 < b_l8 := by have := c6.lt; omega
 have k9 := l8.lt
 have kg := ce.lt
 go_upto_region 8 with fail
 refine wp_region_lit ?_
 try simp only [zN]
 refine jG 1 ?_
 repeat (first | go_big_quiet_skip | (go_big_quiet_want; first | ((first | refine zo (t := 38) rfl _ _ _ rfl (fun w hw => qA (zD m3 w hw)) (by first | rfl | omega) ?_ | refine qB ?_ | refine qC ?_); simp only [zn]; go_big_quiet_on) | (go_big_quiet_op; go_big_quiet_on)))
 refine wpQuiet_nil ?_
 refine qE (enters_of Tryz.func129 (by kernel_rfl) rfl) (c := zcD c _) (h := ?_)
 rintro e wn ⟨b_t, rfl, hbt, rt, za⟩
 have zf := B.size
 have zg := za.size
 replace B := B.trans (za.mono B.size)
 (try replace m3 := m3.below za)
 (try replace r4 := r4.below za)
 (try replace c6 := c6.below za)
 (try replace ce := ce.below za)
 (try replace l8 := l8.below za)
 (try replace rs1 := rs1.below za)
 refine ⟨_, rfl, ?_⟩
 simp only [zn]
 refine wpList_nil ?_
 go_wp2
 refine (wpIn_wide (n := 3)).1 ?_
 refine Qp (F := Fence.wide) rfl (by omega) (gf := 163) (lb := #[.pointer (some ⟨b_t, 0, none⟩)]) rfl trivial (enters_of Tryz.func163 (by kernel_rfl) rfl) (YF c FT.out b_t b_l8 _ (by omega) _ rt l8.lt) (fun h k => QK.trans h k) (fun W l o o' _ hl ho _ => QK.putObj b_l8 o' hl ho) (fun A B h => QK.below h) (Below.refl _ _) (fun _ => rfl)
  (fun pre W => ∃ (a : Option Addr) (cp : Nat), zF 62 W b_l8 #[.slice a (xp c L KS (pre.map (kD c))).length cp] ∧ RS (.slice a (xp c L KS (pre.map (kD c))).length cp) (xp c L KS (pre.map (kD c))) W ∧ zF 117 W b_m3 (xg c (.slice (some ⟨g, o, none⟩) (areaN c) cu)) ∧ zF 38 W b_c6 (jV c) ∧ zF 64 W b_r4 #[.slice none 0 0] ∧ zK ka g o L W ∧ Below w.heap.size w W)
  (fun pre W W' row hI hg hr => ?own)
  ⟨a', c', l8, rs1, m3, c6, r4, ce, B⟩
  (fun x a' W => ∃ b9 : Nat, a'.defers = [] ∧ a'.tmps.size = 78 ∧ a'.tmps.getD 3 undef = .pointer (some ⟨b_m3, 0, none⟩) ∧ a'.tmps.getD 6 undef = .pointer (some ⟨b_c6, 0, none⟩) ∧ a'.tmps.getD 8 undef = .pointer (some ⟨b_l8, 0, none⟩) ∧ a'.tmps.getD 9 undef = .pointer (some ⟨b9, 0, none⟩) ∧ zF 95 W b9 #[.int .i64 (kD c x).1, .int .i64 (kD c x).2] ∧ b_l8 < b9)
  (fun x a' W W' row hA hg hr => ?own2) ?assign ?body ?done
 case own =>
  obtain ⟨a, cp, h1, h2, h3, h4, h5, h6, h7⟩ := hI; have hr' : ∀ r, row = some r → ∃ o : Obj, W.heap[r]? = some o ∧ o.isCells = false := fun r e => (hr r e).2
  have hsz1 := B.size; exact ⟨a, cp, h1.own hg hr', h2.own hg hr', h3.own hg hr', h4.own hg hr', h5.own hg hr', h6.ownP (by rw [HL.out]; omega) hg hr', yP h7 h7.size hg (fun r e => Nat.le_trans hsz1 (hr r e).1)⟩
 case own2 =>
  obtain ⟨b9, e1, e2, e3, e4, e5, e6, h1, h2⟩ := hA; exact ⟨b9, e1, e2, e3, e4, e5, e6, h1.own hg (fun r e => (hr r e).2), h2⟩
 case assign =>
  intro l pre x W K ⟨_, _, hl8, _⟩ hK; have B := Below.refl W.heap.size W; have hl := hl8.lt; obtain ⟨⟨X, Y⟩, hxy⟩ : ∃ p, kD c x = p := ⟨_, rfl⟩; rw [hxy] at hK
  dsimp only at hK
  rw [hxy]
  dsimp only
  refine Xj ?_; simp only [List.setIfInBounds_toArray, List.set_cons_succ, List.set_cons_zero]; refine zA (by kernel_rfl) ?_; try simp only [zN]
  (refine zr (t := 95) rfl _ (zZ _ _ rfl) ?_; intro b_p9 wn zb zd ht za zg; have zf := B.size; replace B := B.trans (za.mono (by omega)); have zk := Nat.lt_of_lt_of_eq (Nat.lt_succ_self _) zg.symm; clear zg; have p9 := ht; clear ht; simp only [zn])
  (refine zp (t := 95) rfl _ _ rfl _ rfl _ rfl p9 (by kernel_rfl) rfl (by simp [Value.oneCell']) (qt B (by omega) ?_); clear p9 B; intro wn p9 ze zf zg B; simp only [zn])
  refine wpList_nil ?_; refine ql.at ?_; refine hK _ _ B ⟨_, rfl, rfl, rfl, rfl, rfl, rfl, p9, by omega⟩
 case body =>
  rintro l pre x W ⟨tm, df⟩ ⟨a, cp, l8, rs1, m3, c6, r4, ce, BW⟩ ⟨b9, e1, e2, e3, e4, e5, e6, p9, k10⟩ hpre; obtain ⟨U, hU, hUi⟩ := Y6 tm 78 e2; rw [← hUi] at e3 e4 e5 e6; have eL : ((List.range 78).map U).toArray = #[U 0, U 1, U 2, U 3, U 4, U 5, U 6, U 7, U 8, U 9, U 10, U 11, U 12, U 13, U 14, U 15, U 16, U 17, U 18, U 19, U 20, U 21, U 22, U 23, U 24, U 25, U 26, U 27, U 28, U 29, U 30, U 31, U 32, U 33, U 34, U 35, U 36, U 37, U 38, U 39, U 40, U 41, U 42, U 43, U 44, U 45, U 46, U 47, U 48, U 49, U 50, U 51, U 52, U 53, U 54, U 55, U 56, U 57, U 58, U 59, U 60, U 61, U 62, U 63, U 64, U 65, U 66, U 67, U 68, U 69, U 70, U 71, U 72, U 73, U 74, U 75, U 76, U 77] := rfl; rw [eL] at hU; rw [e3, e4, e5, e6] at hU; subst hU; have e1 : df = [] := e1; subst e1; clear e2 e3 e4 e5 e6 hUi eL; obtain ⟨⟨X, Y⟩, hxy⟩ : ∃ p, kD c x = p := ⟨_, rfl⟩; have hwi := VK FT.out x.isLt; rw [show u5 c x.val = (X, Y) from hxy] at hwi
  have HWI := Lib.hid hwi; rw [hxy] at p9
  dsimp only at p9
  have hMn := Yf c L (pre.map (kD c)) KS; rw [List.length_map] at hMn; have SM0 := Ql c L (pre.map (kD c)) KS SR.out; have TM0 := Yh OK.out (pre.map (kD c)) KS TK.out (c := c); have HNEW0 : xp c L KS ((pre ++ [x]).map (kD c)) = yK (xp c L KS (pre.map (kD c))) X Y (j5 c L X Y (z7 (xp c L KS (pre.map (kD c))) X Y)) := by
   rw [List.map_append, show [x].map (kD c) = [(X, Y)] from by rw [← hxy]; rfl, WI]
   rfl
  generalize xp c L KS (pre.map (kD c)) = M at *
  have SM := Lib.hid SM0; have TM := Lib.hid TM0; have HNEW := Lib.hid HNEW0; have L8 := Lib.hid l8; have HTK := Lib.hid (kH TM0 X Y); have HTT := Lib.hid (Yi OK.out X Y (kH TM0 X Y) (c := c)); have hM3 : M.length ≤ 3000 := by omega
  have hws := BW.size; have l8lt := l8.lt; have m3lt := m3.lt; have c6lt := c6.lt; have r4lt := r4.lt; have p9lt := p9.lt; have hpl := Zn M X Y (j5 c L X Y (z7 M X Y)); obtain ⟨_, _, e1, hcp⟩ := rs1.len; simp only [Value.slice.injEq] at e1; obtain ⟨rfl, _, rfl⟩ := e1; have RS1W := Lib.hid rs1; have B := y9.refl b_l8 W; clear SM0 TM0 HNEW0 hMn hwi hxy; cases hh : yC M X Y with
  | true =>
   have HH := Lib.hid hh; obtain ⟨hc1, hc2⟩ := zes SM.out hh; obtain ⟨k, hk⟩ : ∃ k, cutL M X Y = k := ⟨_, rfl⟩; rw [hk] at hc1 hc2; have HK := Lib.hid hk; obtain ⟨gg, oo, rfl, rc⟩ := rs1.at (by omega); have HC2 := Lib.hid hc2; clear hh hk hc2; gi_upto_region 10 with fail
   refine zA (by kernel_rfl) ?_; try simp only [zN]
   refine jG 2 ?_
   repeat (first | go_big_quiet_skip | (go_big_quiet_want; first | ((first | refine zB rfl X Y rfl ?_ | refine qB ?_ | refine qC ?_); simp only [zn]; go_big_quiet_on) | (go_big_quiet_op; go_big_quiet_on)))
   refine wpQuiet_nil ?_; refine qE (enters_of Tryz.func130 (by kernel_rfl) rfl) (c := K4 _ M X Y k true _ rs1 SM.out (by omega) HK.out HH.out) (h := ?_); rintro e wn ⟨rfl, za⟩; have zf := B.size; have zg := za.size; replace B := B.trans (za.mono B.size)
   (try replace l8 := l8.below za)
   (try replace m3 := m3.below za)
   (try replace c6 := c6.below za)
   (try replace r4 := r4.below za)
   (try replace ce := ce.below za)
   (try replace p9 := p9.below za)
   (try replace rs1 := rs1.below za)
   refine ⟨_, rfl, ?_⟩; simp only [zn]; refine jG 5 ?_; repeat (first | go_big_quiet_skip | (go_big_quiet_want; first | ((first | refine zB rfl X Y rfl ?_ | refine qB ?_ | refine qC ?_); simp only [zn]; go_big_quiet_on) | (go_big_quiet_op; go_big_quiet_on)))
   refine wpQuiet_nil ?_; refine wpList_nil ?_; refine ql.at ?_; try dsimp only
   gi_upto_region 11 with fail
   refine zA (by kernel_rfl) ?_; try simp only [zN]
   refine jG 2 ?_
   repeat (first | go_big_quiet_skip | (go_big_quiet_want; first | ((first | refine zB rfl X Y rfl ?_ | refine qB ?_ | refine qC ?_); simp only [zn]; go_big_quiet_on) | (go_big_quiet_op; go_big_quiet_on)))
   refine wpQuiet_nil ?_
   (refine xI rfl _ rfl ⟨X, Y, zT⟩ (by rfl) ?_; intro b_s1 wn zb zd ht za zg; have zf := B.size; replace B := B.trans (za.mono (by omega)); have zk := Nat.lt_of_lt_of_eq (Nat.lt_succ_self _) zg.symm; clear zg; (try have zh := l8.lt); (try replace l8 := l8.below (za.mono zb)); (try have zh := m3.lt); (try replace m3 := m3.below (za.mono zb)); (try have zh := c6.lt); (try replace c6 := c6.below (za.mono zb)); (try have zh := r4.lt); (try replace r4 := r4.below (za.mono zb)); (try have zh := ce.lt); (try replace ce := ce.below (za.mono zb)); (try have zh := p9.lt); (try replace p9 := p9.below (za.mono zb)); (try have zh := rs1.lt); (try replace rs1 := rs1.below (za.mono zb)); have s1 := ht; clear ht; simp only [zn])
   refine jG 1 ?_; repeat (first | go_big_quiet_skip | (go_big_quiet_want; first | ((first | refine zB rfl X Y rfl ?_ | refine qB ?_ | refine qC ?_); simp only [zn]; go_big_quiet_on) | (go_big_quiet_op; go_big_quiet_on)))
   refine wpQuiet_nil ?_; refine wpList_nil ?_; refine ql.at ?_; try dsimp only
   gi_upto_region 12 with fail
   refine zA (by kernel_rfl) ?_; try simp only [zN]
   refine jG 1 ?_; repeat (first | go_big_quiet_skip | (go_big_quiet_want; first | ((first | refine zB rfl X Y rfl ?_ | refine qB ?_ | refine qC ?_); simp only [zn]; go_big_quiet_on) | (go_big_quiet_op; go_big_quiet_on)))
   refine wpQuiet_nil ?_; refine wpList_nil ?_; refine ql.at ?_; try dsimp only
   gi_upto_region 13 with fail
   refine zA (by kernel_rfl) ?_; try simp only [zN]
   refine jG 8 ?_
   repeat (first | go_big_quiet_skip | (go_big_quiet_want; first | ((first | refine zB rfl X Y rfl ?_ | refine qB ?_ | refine qC ?_); simp only [zn]; go_big_quiet_on) | (go_big_quiet_op; go_big_quiet_on)))
   refine wpQuiet_nil ?_; refine wpList_nil ?_; refine ql.at ?_; try dsimp only
   obtain ⟨g2, o2, e2, rc'⟩ := rs1.at (by omega); obtain ⟨rfl, rfl⟩ : gg = g2 ∧ oo = o2 := by simpa using e2
   have rsm := zeI rc' hc1; rw [HC2.out] at rsm; have rsm0 := rsm; gi_upto_region 14 with fail
   refine zA (by kernel_rfl) ?_; try simp only [zN]
   (refine x3 rfl rfl ?_; intro b_t13 wn zb zd ht za zg; have zf := B.size; replace B := B.trans (za.mono (by omega)); have zk := Nat.lt_of_lt_of_eq (Nat.lt_succ_self _) zg.symm; clear zg; (try have zh := l8.lt); (try replace l8 := l8.below (za.mono zb)); (try have zh := m3.lt); (try replace m3 := m3.below (za.mono zb)); (try have zh := c6.lt); (try replace c6 := c6.below (za.mono zb)); (try have zh := r4.lt); (try replace r4 := r4.below (za.mono zb)); (try have zh := ce.lt); (try replace ce := ce.below (za.mono zb)); (try have zh := p9.lt); (try replace p9 := p9.below (za.mono zb)); (try have zh := rs1.lt); (try replace rs1 := rs1.below (za.mono zb)); (try have zh := rsm.lt); (try replace rsm := rsm.below (za.mono zb)); have t13 := ht; clear ht; simp only [zn])
   refine wpList_nil ?_; refine ql.at ?_; try dsimp only
   have HSEP := Lib.hid (KD rsm0 zb (by simp)); clear rsm0; gi_upto_region 15 with fail
   refine zA (by kernel_rfl) ?_; try simp only [zN]
   refine jG 1 ?_; repeat (first | go_big_quiet_skip | (go_big_quiet_want; first | ((first | refine zB rfl X Y rfl ?_ | refine qB ?_ | refine qC ?_); simp only [zn]; go_big_quiet_on) | (go_big_quiet_op; go_big_quiet_on)))
   refine wpQuiet_nil ?_
   (refine zM rfl (.func (.func 131) #[] #[.pointer (some ⟨b_c6, 0, none⟩), .pointer (some ⟨b_m3, 0, none⟩)]) (by first | rfl | simp [go_sem, Act.eval]) ?_; simp only [zn])
   refine qE (enters_of Tryz.func126 (by kernel_rfl) rfl) (c := Xz c FT.out L HL.out OK.out ⟨X, Y, z7 M X Y⟩ _ _ b_c6 b_m3 b_t13 g o cu _ _ rsm HTK.out HWI.out c6 m3 ce t13 HSEP.out) (h := ?_); rintro e wn ⟨a5, cp5, rfl, rs5, za⟩; have zf := B.size; have zg := za.size; replace B := B.trans (za.mono B.size)
   (try replace l8 := l8.below za)
   (try replace m3 := m3.below za)
   (try replace c6 := c6.below za)
   (try replace r4 := r4.below za)
   (try replace ce := ce.below za)
   (try replace p9 := p9.below za)
   (try replace t13 := t13.below za)
   (try replace rs1 := rs1.below za)
   (try replace rsm := rsm.below za)
   refine ⟨_, rfl, ?_⟩; simp only [zn]; refine zw (by first | rfl | simp [Region.wanted, yielded]) rfl Tryz.underlying62 rfl ?_; simp only [zn]; refine jG 1 ?_; repeat (first | go_big_quiet_skip | (go_big_quiet_want; first | ((first | refine zB rfl X Y rfl ?_ | refine qB ?_ | refine qC ?_); simp only [zn]; go_big_quiet_on) | (go_big_quiet_op; go_big_quiet_on)))
   refine wpQuiet_nil ?_; refine wpList_nil ?_; refine ql.at ?_; try dsimp only
   clear rsm HSEP; cases hz : jE (j5 c L X Y (z7 M X Y)) with
   | true =>
    have HN : jd X Y (j5 c L X Y (z7 M X Y)) = [] := by unfold jd; rw [hz]; rfl
    rw [HN] at rs5; simp only [HN, List.length_nil]; clear rs5 HN; have HZ := Lib.hid hz; clear hz; gi_wp2
    refine wpIn_loop_rounds 2 ?_; rw [roundsIn_succ]; gi_upto_region 16 with fail
    refine zA (by kernel_rfl) ?_; try simp only [zN]
    refine jG 1 ?_; repeat (first | go_big_quiet_skip | (go_big_quiet_want; first | ((first | refine zB rfl X Y rfl ?_ | refine qB ?_ | refine qC ?_); simp only [zn]; go_big_quiet_on) | (go_big_quiet_op; go_big_quiet_on)))
    refine wpQuiet_nil ?_; refine wpList_nil ?_; refine ql.at ?_; try dsimp only
    clear rs1; have rs1 := RS1W.out.chg L8.out (by simp) B.toChg; gi_upto_region 20 with fail
    refine zA (by kernel_rfl) ?_; try simp only [zN]
    refine jG 3 ?_
    repeat (first | go_big_quiet_skip | (go_big_quiet_want; first | ((first | refine zB rfl X Y rfl ?_ | refine xG rfl _ rfl (wg t13) ?_ | refine zo (t := 123) rfl _ _ _ rfl (fun w hw => jT (zD t15 w hw)) (by first | rfl | omega) ?_ | refine qB ?_ | refine qC ?_); simp only [zn]; go_big_quiet_on) | (go_big_quiet_op; go_big_quiet_on)))
    refine wpQuiet_nil ?_; refine qE (enters_of Tryz.func132 (by kernel_rfl) rfl) (c := Jw _ M X Y (fun _ => Px.zero) _ rs1 SM.out (fun i _ => Px.zero_ok) (by omega)) (h := ?_); rintro e wn ⟨v8, rfl, rs8, za⟩; have zf := B.size; have zg := za.size; replace B := B.trans (za.mono B.size)
    (try replace l8 := l8.below za)
    (try replace m3 := m3.below za)
    (try replace c6 := c6.below za)
    (try replace r4 := r4.below za)
    (try replace ce := ce.below za)
    (try replace p9 := p9.below za)
    (try replace t13 := t13.below za)
    (try replace t15 := t15.below za)
    (try replace rs1 := rs1.below za)
    (try replace rsm := rsm.below za)
    obtain ⟨a8, c8, rfl, hc8⟩ := rs8.len; refine ⟨_, rfl, ?_⟩; simp only [zn]
    (refine xn rfl _ _ rfl _ rfl _ _ _ rfl l8 ?_; have l8o := l8; clear l8; intro wn ht ze zg; (try replace rs8 := rs8.chg l8o (by simp) ze); have zf := B.size; replace zg := Nat.le_of_eq zg.symm; replace B := y9.chg B ze; (try replace m3 := m3.of_eq (ze.block _ m3.lt (by omega))); (try replace c6 := c6.of_eq (ze.block _ c6.lt (by omega))); (try replace r4 := r4.of_eq (ze.block _ r4.lt (by omega))); (try replace ce := ce.of_eq (ze.block _ ce.lt (by omega))); (try replace p9 := p9.of_eq (ze.block _ p9.lt (by omega))); (try replace t13 := t13.of_eq (ze.block _ t13.lt (by omega))); (try replace t15 := t15.of_eq (ze.block _ t15.lt (by omega))); have l8 := ht; clear ht; simp only [zn])
    refine wpList_nil ?_; refine ql.at ?_; try dsimp only
    gi_wp2
    refine ⟨KeepsOthers.chgB B.toChg L8.out, QK.chg B.toChg, ?_⟩
    dsimp only
    rw [HNEW.out]; have e := Jb M X Y (t := fun _ => Px.zero) (u := j5 c L X Y (z7 M X Y)) ((Zd _).2 fun _ _ => rfl) HZ.out; rw [e] at rs8 l8; exact ⟨a8, c8, l8, rs8, m3, c6, r4, ce, qN.below BW B.toChg (by omega) BW.size⟩
   | false =>
    have HN : jd X Y (j5 c L X Y (z7 M X Y)) = [⟨X, Y, j5 c L X Y (z7 M X Y)⟩] := by unfold jd; rw [hz]; rfl
    rw [HN] at rs5; simp only [HN, List.length_cons, List.length_nil, Nat.zero_add]; obtain ⟨g5, o5, rfl, rc5⟩ := rs5.at (by simp); clear rs5 HN hz; have hlen1 : 0 < [(⟨X, Y, j5 c L X Y (z7 M X Y)⟩ : TA)].length := by simp
    gi_wp2
    refine wpIn_loop_rounds 2 ?_; rw [roundsIn_succ]; gi_upto_region 16 with fail
    refine zA (by kernel_rfl) ?_; try simp only [zN]
    refine jG 1 ?_; repeat (first | go_big_quiet_skip | (go_big_quiet_want; first | ((first | refine zB rfl X Y rfl ?_ | refine qB ?_ | refine qC ?_); simp only [zn]; go_big_quiet_on) | (go_big_quiet_op; go_big_quiet_on)))
    refine wpQuiet_nil ?_; refine wpList_nil ?_; refine ql.at ?_; try dsimp only
    gi_upto_region 17 with fail
    refine zA (by kernel_rfl) ?_; try simp only [zN]
    refine jG 2 ?_; repeat (first | go_big_quiet_skip | (go_big_quiet_want; first | ((first | refine zB rfl X Y rfl ?_ | refine zo (t := 125) rfl _ _ _ rfl (fun w hw => yX (vn rc5 w hw) hlen1 rfl) (by first | rfl | omega) ?_ | refine qB ?_ | refine qC ?_); simp only [zn]; go_big_quiet_on) | (go_big_quiet_op; go_big_quiet_on)))
    refine wpQuiet_nil ?_
    (refine zr (t := 125) rfl _ (jm _ _ rfl) ?_; intro b_t15 wn zb zd ht za zg; have zf := B.size; replace B := B.trans (za.mono (by omega)); have zk := Nat.lt_of_lt_of_eq (Nat.lt_succ_self _) zg.symm; clear zg; (try have zh := l8.lt); (try replace l8 := l8.below (za.mono zb)); (try have zh := m3.lt); (try replace m3 := m3.below (za.mono zb)); (try have zh := c6.lt); (try replace c6 := c6.below (za.mono zb)); (try have zh := r4.lt); (try replace r4 := r4.below (za.mono zb)); (try have zh := ce.lt); (try replace ce := ce.below (za.mono zb)); (try have zh := p9.lt); (try replace p9 := p9.below (za.mono zb)); (try have zh := t13.lt); (try replace t13 := t13.below (za.mono zb)); (try have zh := t15.lt); (try replace t15 := t15.below (za.mono zb)); (try have zh := rs1.lt); (try replace rs1 := rs1.below (za.mono zb)); (try have zh := rsm.lt); (try replace rsm := rsm.below (za.mono zb)); (try have zh := rc5.lt); (try replace rc5 := rc5.below (za.mono zb)); have t15 := ht; clear ht; simp only [zn])
    (refine zp (t := 125) rfl _ _ rfl _ rfl _ rfl t15 (by rw [qc]; kernel_rfl) (by simp only [qc, jM]) (yN _) ?_; clear t15; intro wn ht ze zg; have zf := B.size; replace zg := Nat.le_of_eq zg.symm; replace B := y9.store B ze (by omega); (try replace l8 := l8.of_eq (ze.block _ l8.lt (by omega))); (try replace m3 := m3.of_eq (ze.block _ m3.lt (by omega))); (try replace c6 := c6.of_eq (ze.block _ c6.lt (by omega))); (try replace r4 := r4.of_eq (ze.block _ r4.lt (by omega))); (try replace ce := ce.of_eq (ze.block _ ce.lt (by omega))); (try replace p9 := p9.of_eq (ze.block _ p9.lt (by omega))); (try replace t13 := t13.of_eq (ze.block _ t13.lt (by omega))); (try replace rs1 := rs1.of_eq (ze.block _ rs1.lt (by omega))); (try replace rsm := rsm.of_eq (ze.block _ rsm.lt (by omega))); (try replace rc5 := rc5.of_eq (ze.block _ rc5.lt (by omega))); have t15 := ht; clear ht; simp only [zn])
    refine wpList_nil ?_; refine ql.at ?_; try dsimp only
    replace t15 : zF 125 _ b_t15 (xL ⟨X, Y, j5 c L X Y (z7 M X Y)⟩) := t15; gi_upto_region 18 with fail
    refine zA (by kernel_rfl) ?_; try simp only [zN]
    refine jG 2 ?_; repeat (first | go_big_quiet_skip | (go_big_quiet_want; first | ((first | refine zB rfl X Y rfl ?_ | refine xG rfl _ rfl (wg t13) ?_ | refine zo (t := 123) rfl _ _ _ rfl (fun w hw => jT (zD t15 w hw)) (by first | rfl | omega) ?_ | refine qB ?_ | refine qC ?_); simp only [zn]; go_big_quiet_on) | (go_big_quiet_op; go_big_quiet_on)))
    refine wpQuiet_nil ?_
    (refine xC rfl _ _ rfl _ rfl _ rfl t13 ?_; clear t13; intro wn ht ze zg; have zf := B.size; replace zg := Nat.le_of_eq zg.symm; replace B := y9.store B ze (by omega); (try replace l8 := l8.of_eq (ze.block _ l8.lt (by omega))); (try replace m3 := m3.of_eq (ze.block _ m3.lt (by omega))); (try replace c6 := c6.of_eq (ze.block _ c6.lt (by omega))); (try replace r4 := r4.of_eq (ze.block _ r4.lt (by omega))); (try replace ce := ce.of_eq (ze.block _ ce.lt (by omega))); (try replace p9 := p9.of_eq (ze.block _ p9.lt (by omega))); (try replace t15 := t15.of_eq (ze.block _ t15.lt (by omega))); (try replace rs1 := rs1.of_eq (ze.block _ rs1.lt (by omega))); (try replace rsm := rsm.of_eq (ze.block _ rsm.lt (by omega))); (try replace rc5 := rc5.of_eq (ze.block _ rc5.lt (by omega))); have t13 := ht; clear ht; simp only [zn])
    refine wpList_nil ?_; refine ql.at ?_; try dsimp only
    gi_upto_region 19 with fail
    refine zA (by kernel_rfl) ?_; try simp only [zN]
    refine jG 2 ?_; repeat (first | go_big_quiet_skip | (go_big_quiet_want; first | ((first | refine zB rfl X Y rfl ?_ | refine qB ?_ | refine qC ?_); simp only [zn]; go_big_quiet_on) | (go_big_quiet_op; go_big_quiet_on)))
    refine wpQuiet_nil ?_; refine wpList_nil ?_; refine ql.at ?_; try dsimp only
    gi_wp2
    rw [roundsIn_succ]; gi_upto_region 16 with fail
    refine zA (by kernel_rfl) ?_; try simp only [zN]
    refine jG 1 ?_; repeat (first | go_big_quiet_skip | (go_big_quiet_want; first | ((first | refine zB rfl X Y rfl ?_ | refine qB ?_ | refine qC ?_); simp only [zn]; go_big_quiet_on) | (go_big_quiet_op; go_big_quiet_on)))
    refine wpQuiet_nil ?_; refine wpList_nil ?_; refine ql.at ?_; try dsimp only
    clear rs1; have rs1 := RS1W.out.chg L8.out (by simp) B.toChg; gi_upto_region 20 with fail
    refine zA (by kernel_rfl) ?_; try simp only [zN]
    refine jG 3 ?_
    repeat (first | go_big_quiet_skip | (go_big_quiet_want; first | ((first | refine zB rfl X Y rfl ?_ | refine xG rfl _ rfl (wg t13) ?_ | refine zo (t := 123) rfl _ _ _ rfl (fun w hw => jT (zD t15 w hw)) (by first | rfl | omega) ?_ | refine qB ?_ | refine qC ?_); simp only [zn]; go_big_quiet_on) | (go_big_quiet_op; go_big_quiet_on)))
    refine wpQuiet_nil ?_; refine qE (enters_of Tryz.func132 (by kernel_rfl) rfl) (c := Jw _ M X Y (j5 c L X Y (z7 M X Y)) _ rs1 SM.out HTT.out (by omega)) (h := ?_); rintro e wn ⟨v8, rfl, rs8, za⟩; have zf := B.size; have zg := za.size; replace B := B.trans (za.mono B.size)
    (try replace l8 := l8.below za)
    (try replace m3 := m3.below za)
    (try replace c6 := c6.below za)
    (try replace r4 := r4.below za)
    (try replace ce := ce.below za)
    (try replace p9 := p9.below za)
    (try replace t13 := t13.below za)
    (try replace t15 := t15.below za)
    (try replace rs1 := rs1.below za)
    (try replace rsm := rsm.below za)
    (try replace rc5 := rc5.below za)
    obtain ⟨a8, c8, rfl, hc8⟩ := rs8.len; refine ⟨_, rfl, ?_⟩; simp only [zn]
    (refine xn rfl _ _ rfl _ rfl _ _ _ rfl l8 ?_; have l8o := l8; clear l8; intro wn ht ze zg; (try replace rs8 := rs8.chg l8o (by simp) ze); have zf := B.size; replace zg := Nat.le_of_eq zg.symm; replace B := y9.chg B ze; (try replace m3 := m3.of_eq (ze.block _ m3.lt (by omega))); (try replace c6 := c6.of_eq (ze.block _ c6.lt (by omega))); (try replace r4 := r4.of_eq (ze.block _ r4.lt (by omega))); (try replace ce := ce.of_eq (ze.block _ ce.lt (by omega))); (try replace p9 := p9.of_eq (ze.block _ p9.lt (by omega))); (try replace t13 := t13.of_eq (ze.block _ t13.lt (by omega))); (try replace t15 := t15.of_eq (ze.block _ t15.lt (by omega))); (try replace rc5 := rc5.of_eq (ze.block _ rc5.lt (by omega))); have l8 := ht; clear ht; simp only [zn])
    refine wpList_nil ?_; refine ql.at ?_; try dsimp only
    gi_wp2
    refine ⟨KeepsOthers.chgB B.toChg L8.out, QK.chg B.toChg, ?_⟩
    dsimp only
    rw [HNEW.out]; exact ⟨a8, c8, l8, rs8, m3, c6, r4, ce, qN.below BW B.toChg (by omega) BW.size⟩
  | false =>
   have HH := Lib.hid hh; have hz0 := Lib.hid (zc9 SM.out hh); obtain ⟨k, hk⟩ : ∃ k, cutL M X Y = k := ⟨_, rfl⟩; have HK := Lib.hid hk; have hkl := un M X Y; rw [hk] at hkl; clear hh hk; gi_upto_region 10 with fail
   refine zA (by kernel_rfl) ?_; try simp only [zN]
   refine jG 2 ?_
   repeat (first | go_big_quiet_skip | (go_big_quiet_want; first | ((first | refine zB rfl X Y rfl ?_ | refine qB ?_ | refine qC ?_); simp only [zn]; go_big_quiet_on) | (go_big_quiet_op; go_big_quiet_on)))
   refine wpQuiet_nil ?_; refine qE (enters_of Tryz.func130 (by kernel_rfl) rfl) (c := K4 _ M X Y k false _ rs1 SM.out (by omega) HK.out HH.out) (h := ?_); rintro e wn ⟨rfl, za⟩; have zf := B.size; have zg := za.size; replace B := B.trans (za.mono B.size)
   (try replace l8 := l8.below za)
   (try replace m3 := m3.below za)
   (try replace c6 := c6.below za)
   (try replace r4 := r4.below za)
   (try replace ce := ce.below za)
   (try replace p9 := p9.below za)
   (try replace t13 := t13.below za)
   (try replace t15 := t15.below za)
   (try replace rs1 := rs1.below za)
   (try replace rsm := rsm.below za)
   (try replace rc5 := rc5.below za)
   refine ⟨_, rfl, ?_⟩; simp only [zn]; refine jG 5 ?_; repeat (first | go_big_quiet_skip | (go_big_quiet_want; first | ((first | refine zB rfl X Y rfl ?_ | refine qB ?_ | refine qC ?_); simp only [zn]; go_big_quiet_on) | (go_big_quiet_op; go_big_quiet_on)))
   refine wpQuiet_nil ?_; refine wpList_nil ?_; refine ql.at ?_; try dsimp only
   gi_upto_region 11 with fail
   refine zA (by kernel_rfl) ?_; try simp only [zN]
   refine jG 2 ?_
   repeat (first | go_big_quiet_skip | (go_big_quiet_want; first | ((first | refine zB rfl X Y rfl ?_ | refine qB ?_ | refine qC ?_); simp only [zn]; go_big_quiet_on) | (go_big_quiet_op; go_big_quiet_on)))
   refine wpQuiet_nil ?_
   (refine xI rfl _ rfl ⟨X, Y, zT⟩ (by rfl) ?_; intro b_s1 wn zb zd ht za zg; have zf := B.size; replace B := B.trans (za.mono (by omega)); have zk := Nat.lt_of_lt_of_eq (Nat.lt_succ_self _) zg.symm; clear zg; (try have zh := l8.lt); (try replace l8 := l8.below (za.mono zb)); (try have zh := m3.lt); (try replace m3 := m3.below (za.mono zb)); (try have zh := c6.lt); (try replace c6 := c6.below (za.mono zb)); (try have zh := r4.lt); (try replace r4 := r4.below (za.mono zb)); (try have zh := ce.lt); (try replace ce := ce.below (za.mono zb)); (try have zh := p9.lt); (try replace p9 := p9.below (za.mono zb)); (try have zh := t13.lt); (try replace t13 := t13.below (za.mono zb)); (try have zh := t15.lt); (try replace t15 := t15.below (za.mono zb)); (try have zh := rs1.lt); (try replace rs1 := rs1.below (za.mono zb)); (try have zh := rsm.lt); (try replace rsm := rsm.below (za.mono zb)); (try have zh := rc5.lt); (try replace rc5 := rc5.below (za.mono zb)); have s1 := ht; clear ht; simp only [zn])
   refine jG 1 ?_; repeat (first | go_big_quiet_skip | (go_big_quiet_want; first | ((first | refine zB rfl X Y rfl ?_ | refine qB ?_ | refine qC ?_); simp only [zn]; go_big_quiet_on) | (go_big_quiet_op; go_big_quiet_on)))
   refine wpQuiet_nil ?_; refine wpList_nil ?_; refine ql.at ?_; try dsimp only
   gi_upto_region 12 with fail
   refine zA (by kernel_rfl) ?_; try simp only [zN]
   refine jG 1 ?_; repeat (first | go_big_quiet_skip | (go_big_quiet_want; first | ((first | refine zB rfl X Y rfl ?_ | refine qB ?_ | refine qC ?_); simp only [zn]; go_big_quiet_on) | (go_big_quiet_op; go_big_quiet_on)))
   refine wpQuiet_nil ?_; refine wpList_nil ?_; refine ql.at ?_; try dsimp only
   have rsm := RS.one s1; have rsm0 := rsm; gi_upto_region 14 with fail
   refine zA (by kernel_rfl) ?_; try simp only [zN]
   (refine x3 rfl rfl ?_; intro b_t13 wn zb zd ht za zg; have zf := B.size; replace B := B.trans (za.mono (by omega)); have zk := Nat.lt_of_lt_of_eq (Nat.lt_succ_self _) zg.symm; clear zg; (try have zh := l8.lt); (try replace l8 := l8.below (za.mono zb)); (try have zh := m3.lt); (try replace m3 := m3.below (za.mono zb)); (try have zh := c6.lt); (try replace c6 := c6.below (za.mono zb)); (try have zh := r4.lt); (try replace r4 := r4.below (za.mono zb)); (try have zh := ce.lt); (try replace ce := ce.below (za.mono zb)); (try have zh := p9.lt); (try replace p9 := p9.below (za.mono zb)); (try have zh := t13.lt); (try replace t13 := t13.below (za.mono zb)); (try have zh := t15.lt); (try replace t15 := t15.below (za.mono zb)); (try have zh := rs1.lt); (try replace rs1 := rs1.below (za.mono zb)); (try have zh := rsm.lt); (try replace rsm := rsm.below (za.mono zb)); (try have zh := rc5.lt); (try replace rc5 := rc5.below (za.mono zb)); have t13 := ht; clear ht; simp only [zn])
   refine wpList_nil ?_; refine ql.at ?_; try dsimp only
   have HSEP := Lib.hid (KD rsm0 zb (by simp)); clear rsm0; gi_upto_region 15 with fail
   refine zA (by kernel_rfl) ?_; try simp only [zN]
   refine jG 1 ?_; repeat (first | go_big_quiet_skip | (go_big_quiet_want; first | ((first | refine zB rfl X Y rfl ?_ | refine qB ?_ | refine qC ?_); simp only [zn]; go_big_quiet_on) | (go_big_quiet_op; go_big_quiet_on)))
   refine wpQuiet_nil ?_
   (refine zM rfl (.func (.func 131) #[] #[.pointer (some ⟨b_c6, 0, none⟩), .pointer (some ⟨b_m3, 0, none⟩)]) (by first | rfl | simp [go_sem, Act.eval]) ?_; simp only [zn])
   refine qE (enters_of Tryz.func126 (by kernel_rfl) rfl) (c := Xz c FT.out L HL.out OK.out ⟨X, Y, zT⟩ _ _ b_c6 b_m3 b_t13 g o cu _ _ rsm (fun i _ => Px.zero_ok) HWI.out c6 m3 ce t13 HSEP.out) (h := ?_); rintro e wn ⟨a5, cp5, rfl, rs5, za⟩; have zf := B.size; have zg := za.size; replace B := B.trans (za.mono B.size)
   (try replace l8 := l8.below za)
   (try replace m3 := m3.below za)
   (try replace c6 := c6.below za)
   (try replace r4 := r4.below za)
   (try replace ce := ce.below za)
   (try replace p9 := p9.below za)
   (try replace t13 := t13.below za)
   (try replace t15 := t15.below za)
   (try replace rs1 := rs1.below za)
   (try replace rsm := rsm.below za)
   (try replace rc5 := rc5.below za)
   refine ⟨_, rfl, ?_⟩; simp only [zn]; refine zw (by first | rfl | simp [Region.wanted, yielded]) rfl Tryz.underlying62 rfl ?_; simp only [zn]; refine jG 1 ?_; repeat (first | go_big_quiet_skip | (go_big_quiet_want; first | ((first | refine zB rfl X Y rfl ?_ | refine qB ?_ | refine qC ?_); simp only [zn]; go_big_quiet_on) | (go_big_quiet_op; go_big_quiet_on)))
   refine wpQuiet_nil ?_; refine wpList_nil ?_; refine ql.at ?_; try dsimp only
   rw [← hz0.out] at rs5; simp only [← hz0.out]; clear rsm HSEP; cases hz : jE (j5 c L X Y (z7 M X Y)) with
   | true =>
    have HN : jd X Y (j5 c L X Y (z7 M X Y)) = [] := by unfold jd; rw [hz]; rfl
    rw [HN] at rs5; simp only [HN, List.length_nil]; clear rs5 HN; have HZ := Lib.hid hz; clear hz; gi_wp2
    refine wpIn_loop_rounds 2 ?_; rw [roundsIn_succ]; gi_upto_region 16 with fail
    refine zA (by kernel_rfl) ?_; try simp only [zN]
    refine jG 1 ?_; repeat (first | go_big_quiet_skip | (go_big_quiet_want; first | ((first | refine zB rfl X Y rfl ?_ | refine qB ?_ | refine qC ?_); simp only [zn]; go_big_quiet_on) | (go_big_quiet_op; go_big_quiet_on)))
    refine wpQuiet_nil ?_; refine wpList_nil ?_; refine ql.at ?_; try dsimp only
    clear rs1; have rs1 := RS1W.out.chg L8.out (by simp) B.toChg; gi_upto_region 20 with fail
    refine zA (by kernel_rfl) ?_; try simp only [zN]
    refine jG 3 ?_
    repeat (first | go_big_quiet_skip | (go_big_quiet_want; first | ((first | refine zB rfl X Y rfl ?_ | refine xG rfl _ rfl (wg t13) ?_ | refine zo (t := 123) rfl _ _ _ rfl (fun w hw => jT (zD t15 w hw)) (by first | rfl | omega) ?_ | refine qB ?_ | refine qC ?_); simp only [zn]; go_big_quiet_on) | (go_big_quiet_op; go_big_quiet_on)))
    refine wpQuiet_nil ?_; refine qE (enters_of Tryz.func132 (by kernel_rfl) rfl) (c := Jw _ M X Y (fun _ => Px.zero) _ rs1 SM.out (fun i _ => Px.zero_ok) (by omega)) (h := ?_); rintro e wn ⟨v8, rfl, rs8, za⟩; have zf := B.size; have zg := za.size; replace B := B.trans (za.mono B.size)
    (try replace l8 := l8.below za)
    (try replace m3 := m3.below za)
    (try replace c6 := c6.below za)
    (try replace r4 := r4.below za)
    (try replace ce := ce.below za)
    (try replace p9 := p9.below za)
    (try replace t13 := t13.below za)
    (try replace t15 := t15.below za)
    (try replace rs1 := rs1.below za)
    (try replace rc5 := rc5.below za)
    obtain ⟨a8, c8, rfl, hc8⟩ := rs8.len; refine ⟨_, rfl, ?_⟩; simp only [zn]
    (refine xn rfl _ _ rfl _ rfl _ _ _ rfl l8 ?_; have l8o := l8; clear l8; intro wn ht ze zg; (try replace rs8 := rs8.chg l8o (by simp) ze); have zf := B.size; replace zg := Nat.le_of_eq zg.symm; replace B := y9.chg B ze; (try replace m3 := m3.of_eq (ze.block _ m3.lt (by omega))); (try replace c6 := c6.of_eq (ze.block _ c6.lt (by omega))); (try replace r4 := r4.of_eq (ze.block _ r4.lt (by omega))); (try replace ce := ce.of_eq (ze.block _ ce.lt (by omega))); (try replace p9 := p9.of_eq (ze.block _ p9.lt (by omega))); (try replace t13 := t13.of_eq (ze.block _ t13.lt (by omega))); (try replace t15 := t15.of_eq (ze.block _ t15.lt (by omega))); (try replace rc5 := rc5.of_eq (ze.block _ rc5.lt (by omega))); have l8 := ht; clear ht; simp only [zn])
    refine wpList_nil ?_; refine ql.at ?_; try dsimp only
    gi_wp2
    refine ⟨KeepsOthers.chgB B.toChg L8.out, QK.chg B.toChg, ?_⟩
    dsimp only
    rw [HNEW.out]; have e := Jb M X Y (t := fun _ => Px.zero) (u := j5 c L X Y (z7 M X Y)) ((Zd _).2 fun _ _ => rfl) HZ.out; rw [e] at rs8 l8; exact ⟨a8, c8, l8, rs8, m3, c6, r4, ce, qN.below BW B.toChg (by omega) BW.size⟩
   | false =>
    have HN : jd X Y (j5 c L X Y (z7 M X Y)) = [⟨X, Y, j5 c L X Y (z7 M X Y)⟩] := by unfold jd; rw [hz]; rfl
    rw [HN] at rs5; simp only [HN, List.length_cons, List.length_nil, Nat.zero_add]; obtain ⟨g5, o5, rfl, rc5⟩ := rs5.at (by simp); clear rs5 HN hz; have hlen1 : 0 < [(⟨X, Y, j5 c L X Y (z7 M X Y)⟩ : TA)].length := by simp
    gi_wp2
    refine wpIn_loop_rounds 2 ?_; rw [roundsIn_succ]; gi_upto_region 16 with fail
    refine zA (by kernel_rfl) ?_; try simp only [zN]
    refine jG 1 ?_; repeat (first | go_big_quiet_skip | (go_big_quiet_want; first | ((first | refine zB rfl X Y rfl ?_ | refine qB ?_ | refine qC ?_); simp only [zn]; go_big_quiet_on) | (go_big_quiet_op; go_big_quiet_on)))
    refine wpQuiet_nil ?_; refine wpList_nil ?_; refine ql.at ?_; try dsimp only
    gi_upto_region 17 with fail
    refine zA (by kernel_rfl) ?_; try simp only [zN]
    refine jG 2 ?_; repeat (first | go_big_quiet_skip | (go_big_quiet_want; first | ((first | refine zB rfl X Y rfl ?_ | refine zo (t := 125) rfl _ _ _ rfl (fun w hw => yX (vn rc5 w hw) hlen1 rfl) (by first | rfl | omega) ?_ | refine qB ?_ | refine qC ?_); simp only [zn]; go_big_quiet_on) | (go_big_quiet_op; go_big_quiet_on)))
    refine wpQuiet_nil ?_
    (refine zr (t := 125) rfl _ (jm _ _ rfl) ?_; intro b_t15 wn zb zd ht za zg; have zf := B.size; replace B := B.trans (za.mono (by omega)); have zk := Nat.lt_of_lt_of_eq (Nat.lt_succ_self _) zg.symm; clear zg; (try have zh := l8.lt); (try replace l8 := l8.below (za.mono zb)); (try have zh := m3.lt); (try replace m3 := m3.below (za.mono zb)); (try have zh := c6.lt); (try replace c6 := c6.below (za.mono zb)); (try have zh := r4.lt); (try replace r4 := r4.below (za.mono zb)); (try have zh := ce.lt); (try replace ce := ce.below (za.mono zb)); (try have zh := p9.lt); (try replace p9 := p9.below (za.mono zb)); (try have zh := t13.lt); (try replace t13 := t13.below (za.mono zb)); (try have zh := t15.lt); (try replace t15 := t15.below (za.mono zb)); (try have zh := rs1.lt); (try replace rs1 := rs1.below (za.mono zb)); (try have zh := rsm.lt); (try have zh := rc5.lt); have t15 := ht; clear ht; simp only [zn])
    (refine zp (t := 125) rfl _ _ rfl _ rfl _ rfl t15 (by rw [qc]; kernel_rfl) (by simp only [qc, jM]) (yN _) ?_; clear t15; intro wn ht ze zg; have zf := B.size; replace zg := Nat.le_of_eq zg.symm; replace B := y9.store B ze (by omega); (try replace l8 := l8.of_eq (ze.block _ l8.lt (by omega))); (try replace m3 := m3.of_eq (ze.block _ m3.lt (by omega))); (try replace c6 := c6.of_eq (ze.block _ c6.lt (by omega))); (try replace r4 := r4.of_eq (ze.block _ r4.lt (by omega))); (try replace ce := ce.of_eq (ze.block _ ce.lt (by omega))); (try replace p9 := p9.of_eq (ze.block _ p9.lt (by omega))); (try replace t13 := t13.of_eq (ze.block _ t13.lt (by omega))); (try replace rs1 := rs1.of_eq (ze.block _ rs1.lt (by omega))); have t15 := ht; clear ht; simp only [zn])
    refine wpList_nil ?_; refine ql.at ?_; try dsimp only
    replace t15 : zF 125 _ b_t15 (xL ⟨X, Y, j5 c L X Y (z7 M X Y)⟩) := t15; gi_upto_region 18 with fail
    refine zA (by kernel_rfl) ?_; try simp only [zN]
    refine jG 2 ?_; repeat (first | go_big_quiet_skip | (go_big_quiet_want; first | ((first | refine zB rfl X Y rfl ?_ | refine xG rfl _ rfl (wg t13) ?_ | refine zo (t := 123) rfl _ _ _ rfl (fun w hw => jT (zD t15 w hw)) (by first | rfl | omega) ?_ | refine qB ?_ | refine qC ?_); simp only [zn]; go_big_quiet_on) | (go_big_quiet_op; go_big_quiet_on)))
    refine wpQuiet_nil ?_
    (refine xC rfl _ _ rfl _ rfl _ rfl t13 ?_; clear t13; intro wn ht ze zg; have zf := B.size; replace zg := Nat.le_of_eq zg.symm; replace B := y9.store B ze (by omega); (try replace l8 := l8.of_eq (ze.block _ l8.lt (by omega))); (try replace m3 := m3.of_eq (ze.block _ m3.lt (by omega))); (try replace c6 := c6.of_eq (ze.block _ c6.lt (by omega))); (try replace r4 := r4.of_eq (ze.block _ r4.lt (by omega))); (try replace ce := ce.of_eq (ze.block _ ce.lt (by omega))); (try replace p9 := p9.of_eq (ze.block _ p9.lt (by omega))); (try replace t15 := t15.of_eq (ze.block _ t15.lt (by omega))); (try replace rs1 := rs1.of_eq (ze.block _ rs1.lt (by omega))); have t13 := ht; clear ht; simp only [zn])
    refine wpList_nil ?_; refine ql.at ?_; try dsimp only
    gi_upto_region 19 with fail
    refine zA (by kernel_rfl) ?_; try simp only [zN]
    refine jG 2 ?_; repeat (first | go_big_quiet_skip | (go_big_quiet_want; first | ((first | refine zB rfl X Y rfl ?_ | refine qB ?_ | refine qC ?_); simp only [zn]; go_big_quiet_on) | (go_big_quiet_op; go_big_quiet_on)))
    refine wpQuiet_nil ?_; refine wpList_nil ?_; refine ql.at ?_; try dsimp only
    gi_wp2
    rw [roundsIn_succ]; gi_upto_region 16 with fail
    refine zA (by kernel_rfl) ?_; try simp only [zN]
    refine jG 1 ?_; repeat (first | go_big_quiet_skip | (go_big_quiet_want; first | ((first | refine zB rfl X Y rfl ?_ | refine qB ?_ | refine qC ?_); simp only [zn]; go_big_quiet_on) | (go_big_quiet_op; go_big_quiet_on)))
    refine wpQuiet_nil ?_; refine wpList_nil ?_; refine ql.at ?_; try dsimp only
    clear rs1; have rs1 := RS1W.out.chg L8.out (by simp) B.toChg; gi_upto_region 20 with fail
    refine zA (by kernel_rfl) ?_; try simp only [zN]
    refine jG 3 ?_
    repeat (first | go_big_quiet_skip | (go_big_quiet_want; first | ((first | refine zB rfl X Y rfl ?_ | refine xG rfl _ rfl (wg t13) ?_ | refine zo (t := 123) rfl _ _ _ rfl (fun w hw => jT (zD t15 w hw)) (by first | rfl | omega) ?_ | refine qB ?_ | refine qC ?_); simp only [zn]; go_big_quiet_on) | (go_big_quiet_op; go_big_quiet_on)))
    refine wpQuiet_nil ?_; refine qE (enters_of Tryz.func132 (by kernel_rfl) rfl) (c := Jw _ M X Y (j5 c L X Y (z7 M X Y)) _ rs1 SM.out HTT.out (by omega)) (h := ?_); rintro e wn ⟨v8, rfl, rs8, za⟩; have zf := B.size; have zg := za.size; replace B := B.trans (za.mono B.size)
    (try replace l8 := l8.below za)
    (try replace m3 := m3.below za)
    (try replace c6 := c6.below za)
    (try replace r4 := r4.below za)
    (try replace ce := ce.below za)
    (try replace rs1 := rs1.below za)
    obtain ⟨a8, c8, rfl, hc8⟩ := rs8.len; refine ⟨_, rfl, ?_⟩; simp only [zn]
    (refine xn rfl _ _ rfl _ rfl _ _ _ rfl l8 ?_; have l8o := l8; clear l8; intro wn ht ze zg; (try replace rs8 := rs8.chg l8o (by simp) ze); have zf := B.size; replace zg := Nat.le_of_eq zg.symm; replace B := y9.chg B ze; (try replace m3 := m3.of_eq (ze.block _ m3.lt (by omega))); (try replace c6 := c6.of_eq (ze.block _ c6.lt (by omega))); (try replace r4 := r4.of_eq (ze.block _ r4.lt (by omega))); (try replace ce := ce.of_eq (ze.block _ ce.lt (by omega))); have l8 := ht; clear ht; simp only [zn])
    refine wpList_nil ?_; refine ql.at ?_; try dsimp only
    gi_wp2
    refine ⟨KeepsOthers.chgB B.toChg L8.out, QK.chg B.toChg, ?_⟩
    dsimp only
    rw [HNEW.out]; exact ⟨a8, c8, l8, rs8, m3, c6, r4, ce, qN.below BW B.toChg (by omega) BW.size⟩
 case done =>
  have hszB := B.size; rintro D xs W hD rfl ⟨a, cp, l8, rs1, m3, c6, r4, ce, BW⟩ hDD; have kd : yq W D := hDD; rw [zbN] at l8 rs1; have B := BW; have hMn := Yf c L (yx c) KS; rw [zbO] at hMn; obtain ⟨M, hM⟩ : ∃ M, xp c L KS (yx c) = M := ⟨_, rfl⟩; rw [hM] at l8 rs1 hMn; have HM := Lib.hid hM; clear hM; have hwD : w.heap.size ≤ D := by omega
  have hne := kd.ne r4; clear BW m3 c6 ce hD; go_upto_region 21 with fail
  by_cases hm : M.length ≤ 1024
  ·have e1 : yw M = M := if_pos hm
   have e2 : kC M = 0 := if_pos hm; refine wp_region_lit ?_; try simp only [zN]
   refine zx 1 ?_
   refine qE (enters_of Tryz.func78 (by kernel_rfl) rfl) (c := xN _ M _ rs1 (by omega)) (h := ?_); rintro e wn ⟨v2, b2, rfl, _, _, od2, za⟩; have zf := B.size; have zg := za.size; replace B := B.trans (za.mono B.size)
   (try replace l8 := l8.below za)
   (try replace r4 := r4.below za)
   (try replace kd := kd.below za)
   have rs2 := od2.rs; clear od2; obtain ⟨a2, c2, rfl, hc2⟩ := rs2.len; refine ⟨_, rfl, ?_⟩; simp only [zn]; refine qE (enters_of Tryz.func133 (by kernel_rfl) rfl) (c := zaL _ _ _ _ (by unfold maxLen; omega)) (h := ?_)
   rintro e wn ⟨rfl, za⟩; have zf := B.size; have zg := za.size; replace B := B.trans (za.mono B.size)
   (try replace l8 := l8.below za)
   (try replace r4 := r4.below za)
   (try replace kd := kd.below za)
   replace rs2 := rs2.below za; rw [if_pos hm]; refine ⟨_, rfl, ?_⟩; simp only [zn]; refine zx 2 ?_
   (refine zp (t := 64) rfl _ _ rfl _ rfl _ rfl r4 (by kernel_rfl) rfl (by simp [Value.oneCell']) (qt B (by omega) ?_); have r4o := r4; clear r4 B; intro wn r4 ze zf zg B; (try replace rs2 := rs2.chg r4o (by simp) ze); (try replace l8 := l8.of_eq (ze.block _ l8.lt (by omega))); (try replace kd := kd.of_eq (ze.block _ kd.lt (by omega))); simp only [zn])
   refine zx 1 ?_; refine wpList_nil ?_; go_wp2; refine ⟨by simp, .inl ⟨_, _, rfl, run_takeDeferred kd, ?_⟩⟩; refine ⟨_, zJ (t := 64) rfl _ _ b_r4 rfl _ rfl ((World.putObj_heap_other (fun e => hne (by omega))).trans r4) Tryz.isAgg64 (by kernel_rfl), ?_⟩; have BF := B.trans (belowK_b (w := w) (Nat.le_refl _) wn D _ (.deferred none) hwD kd rfl rfl)
   dsimp only
   rw [HM.out, e1, e2]; exact ⟨_, _, rfl, rs2.own (grownBy_putObj' _ _ _) (fun r e => by cases e; exact ⟨_, kd, rfl⟩), BF⟩
  ·have e1 : yw M = [] := if_neg hm
   have e2 : kC M = 2 := if_neg hm; refine wp_region_lit ?_; try simp only [zN]
   refine zx 1 ?_
   refine qE (enters_of Tryz.func78 (by kernel_rfl) rfl) (c := xN _ M _ rs1 (by omega)) (h := ?_); rintro e wn ⟨v2, b2, rfl, _, _, od2, za⟩; have zf := B.size; have zg := za.size; replace B := B.trans (za.mono B.size)
   (try replace r4 := r4.below za)
   (try replace kd := kd.below za)
   have rs2 := od2.rs; clear od2; obtain ⟨a2, c2, rfl, hc2⟩ := rs2.len; refine ⟨_, rfl, ?_⟩; simp only [zn]; refine qE (enters_of Tryz.func133 (by kernel_rfl) rfl) (c := zaL _ _ _ _ (by unfold maxLen; omega)) (h := ?_)
   rintro e wn ⟨rfl, za⟩; have zf := B.size; have zg := za.size; replace B := B.trans (za.mono B.size)
   (try replace r4 := r4.below za)
   (try replace kd := kd.below za)
   replace rs2 := rs2.below za; rw [if_neg hm]; refine ⟨_, rfl, ?_⟩; simp only [zn]; refine zx 2 ?_
   (refine zp (t := 64) rfl _ _ rfl _ rfl _ rfl r4 (by kernel_rfl) rfl (by simp [Value.oneCell']) (qt B (by omega) ?_); have r4o := r4; clear r4 B; intro wn r4 ze zf zg B; (try replace kd := kd.of_eq (ze.block _ kd.lt (by omega))); simp only [zn])
   refine zx 1 ?_; refine wpList_nil ?_; go_wp2; refine ⟨by simp, .inl ⟨_, _, rfl, run_takeDeferred kd, ?_⟩⟩; refine ⟨_, zJ (t := 64) rfl _ _ b_r4 rfl _ rfl ((World.putObj_heap_other (fun e => hne (by omega))).trans r4) Tryz.isAgg64 (by kernel_rfl), ?_⟩; have BF := B.trans (belowK_b (w := w) (Nat.le_refl _) wn D _ (.deferred none) hwD kd rfl rfl)
   dsimp only
   rw [HM.out, e1, e2]; exact ⟨_, _, rfl, RS.nil _, BF⟩
end Go.Proofs.YtepelndbbhdofaaGreatDoor
/- Strokes, points and dabs in memory; contracts of Floor by any divisor, of round. -/
namespace Go.Proofs.YtepelndbbhdofaaGreatDoor
open Go.RowKit Go.Shelf Pl
set_option linter.unusedVariables false
set_option linter.unusedSimpArgs false
set_option maxRecDepth 20000
def qD : ZQ Sp 3 43 26 where
 enc := fun a => #[.int .i64 a.x, .int .i64 a.y, .int .i64 a.p]
 bytes := 24
 zero := ⟨0, 0, 0⟩
 size := fun _ => rfl
 one := fun x u hu => by
  have : u ∈ [Value.int .i64 x.x, .int .i64 x.y, .int .i64 x.p] := hu; simp at this
  rcases this with rfl | rfl | rfl <;> rfl
 pos := by omega
 small := by omega
 und := Tryz.underlying26
 info := by kernel_rfl
 zer := by kernel_rfl
theorem zcc {t : TypeId} {w : World} {b : Nat} {a : Sp} (h : zF t w b (qD.enc a)) : w.cell? ⟨b, 2, none⟩ = some (.int .i64 a.p) := h.cell 2 rfl
def kx : ZQ Db 3 45 35 where
 enc := fun a => #[.int .i64 a.x, .int .i64 a.y, .int .i64 a.r]
 bytes := 24
 zero := ⟨0, 0, 0⟩
 size := fun _ => rfl
 one := fun x u hu => by
  have : u ∈ [Value.int .i64 x.x, .int .i64 x.y, .int .i64 x.r] := hu; simp at this
  rcases this with rfl | rfl | rfl <;> rfl
 pos := by omega
 small := by omega
 und := Tryz.underlying35
 info := by kernel_rfl
 zer := by kernel_rfl
def qw (v : Value) (s : qv) : Array Value := #[v, .int .i64 s.rad, .int .i64 s.spa, .int .u8 s.col.r, .int .u8 s.col.g, .int .u8 s.col.b, .int .u8 s.col.a, .bool s.era, .int .i64 s.pha]
section
variable {t : TypeId} {w : World} {b : Nat} {v : Value} {s : qv}
theorem VT (h : zF t w b (qw v s)) : w.cell? ⟨b, 0, none⟩ = some v := h.cell 0 rfl
theorem jS (h : zF t w b (qw v s)) : (Instr.loadAt 28 (.pointer (some ⟨b, 3, none⟩))).run Tryz.prog w = .ok (.agg #[.int .u8 s.col.r, .int .u8 s.col.g, .int .u8 s.col.b, .int .u8 s.col.a]) w :=
 yz h 3 Tryz.isAgg28 (by kernel_rfl) (fun j hj => by
  have hj : j < 4 := hj
  match j, hj with
  | 0, _ => rfl
  | 1, _ => rfl
  | 2, _ => rfl
  | 3, _ => rfl)
end
theorem Ys (w : World) (o : Oper) (ho : o.op = .alloc 3) (ev : Operand → Value) : (execOp ev o).run Tryz.prog w = .ok (.value (.pointer (some ⟨w.heap.size, 0, none⟩))) (w.alloc (.cells #[.int .i64 0] 3)) := by
 obtain ⟨d, p, t, ps, af, gd⟩ := o
 simp only at ho
 subst ho
 kernel_rfl
theorem xr (w : World) (o : Oper) (ho : o.op = .alloc 43) (ev : Operand → Value) : (execOp ev o).run Tryz.prog w = .ok (.value (.pointer (some ⟨w.heap.size, 0, none⟩))) (w.alloc (.cells #[.int .i64 0, .int .i64 0, .int .i64 0] 43)) := by
 obtain ⟨d, p, t, ps, af, gd⟩ := o
 simp only at ho
 subst ho
 kernel_rfl
theorem yM (w : World) (o : Oper) (ho : o.op = .alloc 45) (ev : Operand → Value) : (execOp ev o).run Tryz.prog w = .ok (.value (.pointer (some ⟨w.heap.size, 0, none⟩))) (w.alloc (.cells #[.int .i64 0, .int .i64 0, .int .i64 0] 45)) := by
 obtain ⟨d, p, t, ps, af, gd⟩ := o
 simp only at ho
 subst ho
 kernel_rfl
theorem zG (w : World) (o : Oper) (ho : o.op = .alloc 30) (ev : Operand → Value) : (execOp ev o).run Tryz.prog w = .ok (.value (.pointer (some ⟨w.heap.size, 0, none⟩))) (w.alloc (.cells #[.slice none 0 0, .int .i64 0, .int .i64 0, .int .u8 0, .int .u8 0, .int .u8 0, .int .u8 0, .bool false, .int .i64 0] 30)) := by
 obtain ⟨d, p, t, ps, af, gd⟩ := o
 simp only at ho
 subst ho
 kernel_rfl
/-- An integer stored into a cell of a block. -/
theorem jw {t : TypeId} {ops : Array Oper} {rest : List Oper} {o : Oper} {a : Act} {w : World} {Q : Exit → Act → World → Prop} (hg : o.guard = none) (x y : Operand) (ho : o.op = .store 3 x y) (b i : Nat) (hx : a.eval x = .pointer (some ⟨b, i, none⟩)) (z : Int) (hy : a.eval y = .int .i64 z) {cs : Array Value} (ht : zF t w b cs) {c : Value} (hc : cs[i]? = some c)
  (h : ∀ w', zF t w' b (cs.setIfInBounds i (.int .i64 z)) → qN b w w' → w'.heap.size = w.heap.size → wpList Tryz.prog ops Q rest (a.put o.dst undef) w') : wpList Tryz.prog ops Q (o :: rest) a w := by
 have c0 := ht.cell i hc
 have f0 := ht.frozen i
 refine qe hg x y ho (w.setCell ⟨b, i, none⟩ (.int .i64 z)) ?_ (h _ ?_ ((qN.refl b w).setCell _) (by simp only [World.size_setCell]))
 ·rw [hx, hy]
  simp [go_sem, c0, f0]
 ·exact heap_setCell_same w b i cs _ _ ht
theorem Xf {x d : Int} (hx : x ≤ 0) (hd : 0 < d) : x.tmod d ≤ 0 ∧ x.tdiv d ≤ 0 := by
 obtain ⟨n, rfl⟩ : ∃ n : Nat, x = -(n : Int) := ⟨(-x).toNat, by omega⟩
 rw [Int.neg_tmod, Int.neg_tdiv, Int.tmod_eq_emod_of_nonneg (by omega), Int.tdiv_eq_ediv_of_nonneg (by omega)]
 have h1 := Int.emod_nonneg (n : Int) (show d ≠ 0 by omega)
 have h2 : 0 ≤ (n : Int) / d := Int.ediv_nonneg (by omega) (by omega)
 omega
theorem W4 {x d : Int} (h : x < 0) (hd : 0 < d) : (x.tmod d = 0 → x.tdiv d = x / d) ∧ (x.tmod d ≠ 0 → x.tdiv d - 1 = x / d) := by
 have e : d * x.tdiv d + x.tmod d = x := by have := Int.tmod_def x d; omega
 have b1 : -d < x.tmod d := by have := Int.lt_tmod_of_pos x hd; omega
 have b2 : x.tmod d ≤ 0 := (Xf (x := x) (by omega) (show 0 < d by omega)).1
 generalize x.tmod d = r at *
 generalize x.tdiv d = q at *
 rw [Int.mul_comm] at e
 constructor
 ·intro h0
  exact ((Int.ediv_emod_unique (a := x) (q := q) (r := 0) hd).2 ⟨by rw [Int.mul_comm d q]; omega, by omega, hd⟩).1.symm
 ·intro h0
  exact ((Int.ediv_emod_unique (a := x) (q := q - 1) (r := r + d) hd).2 ⟨by rw [Int.mul_comm d (q - 1), Int.sub_mul]; omega, by omega, by omega⟩).1.symm
theorem zcm {x d m : Int} (hd : 1 ≤ d) (h1 : -m ≤ x) (h2 : x ≤ 0) : -m ≤ x.tdiv d ∧ x.tdiv d ≤ 0 := by
 have e : d * x.tdiv d + x.tmod d = x := by have := Int.tmod_def x d; omega
 have b2 : x.tmod d ≤ 0 := (Xf (x := x) (by omega) (show 0 < d by omega)).1
 have hq : x.tdiv d ≤ 0 := (Xf h2 (show 0 < d by omega)).2
 refine ⟨?_, hq⟩
 have : d * x.tdiv d ≤ x.tdiv d := by
  have h := Int.mul_le_mul_of_nonneg_right hd (show 0 ≤ -x.tdiv d by omega); rw [Int.one_mul, Int.mul_neg] at h; omega
 have hb : x ≤ d * x.tdiv d := by omega
 -- d * q = x - r, so -m ≤ x ≤ d * q ≤ q
 omega
set_option maxHeartbeats 1000000 in
theorem zaw (x d : Int) (w : World) (hx1 : -4611686018427387904 ≤ x) (hx2 : x ≤ 4611686018427387904) (hd : 1 ≤ d) (hd2 : d ≤ 4611686018427387904) : Calls Tryz.prog 111 #[.int .i64 x, .int .i64 d] w fun e w' => e = .returned (.int .i64 (x / d)) ∧ Below w.heap.size w w' := by
 have e0 : (d == 0) = false := by simp; omega
 have e00 : d ≠ 0 := by omega
 have e01 : decide (d < 0) = false := decide_eq_false (by omega)
 have e02 : ¬ d < 0 := by omega
 by_cases h0 : 0 ≤ x
 ·have h1 : ¬ x < 0 := by omega
  have d1 : decide (x < 0) = false := decide_eq_false h1; have t1 : x.tdiv d = x / d := Int.tdiv_eq_ediv_of_nonneg h0; have t2 : x.tmod d = x % d := Int.tmod_eq_emod_of_nonneg h0; have b1 : 0 ≤ x / d := Int.ediv_nonneg h0 (by omega); have b2 : x / d ≤ x := Int.ediv_le_self d h0; by_cases hm : x % d = 0
  ·have e1 : (x % d == 0) = true := by simpa using hm
   have e2 : (x % d != 0) = false := by simpa using hm
   clear hm h0 h1; go_enter Tryz.func111, Tryz.ntmps111
   go_wp2; go_ret; exact ⟨by first | rfl | rw [t1], by go_grown⟩
  ·have e1 : (x % d == 0) = false := by simpa using hm
   have e2 : (x % d != 0) = true := by simpa using hm
   clear hm h0 h1; go_enter Tryz.func111, Tryz.ntmps111
   go_wp2; go_ret; exact ⟨by first | rfl | rw [t1], by go_grown⟩
 ·have h1 : x < 0 := by omega
  have d1 : decide (x < 0) = true := decide_eq_true h1; obtain ⟨t1, t2⟩ := W4 h1 (show 0 < d by omega); have hb := zcm (m := 4611686018427387904) hd hx1 (show x ≤ 0 by omega); by_cases hm : x.tmod d = 0
  ·have E := Lib.hid (t1 hm)
   have e1 : (x.tmod d == 0) = true := by simpa using hm
   have e2 : (x.tmod d != 0) = false := by simpa using hm
   clear t1 t2 h0 hm; go_enter Tryz.func111, Tryz.ntmps111
   go_wp2; go_ret; exact ⟨jl E.out, by go_grown⟩
  ·have E := Lib.hid (t2 hm)
   have e1 : (x.tmod d == 0) = false := by simpa using hm
   have e2 : (x.tmod d != 0) = true := by simpa using hm
   clear t1 t2 h0 hm; go_enter Tryz.func111, Tryz.ntmps111
   go_wp2; go_ret; exact ⟨jl E.out, by go_grown⟩
theorem vD (x d q : Int) (w : World) (hx1 : -4611686018427387904 ≤ x) (hx2 : x ≤ 4611686018427387904) (hd : 1 ≤ d) (hd2 : d ≤ 4611686018427387904) (e : x / d = q) : Calls Tryz.prog 111 #[.int .i64 x, .int .i64 d] w fun e w' => e = .returned (.int .i64 q) ∧ Below w.heap.size w w' := e ▸ zaw x d w hx1 hx2 hd hd2
theorem kq (x d q : Int) (w : World) (hx1 : -1000000000000000000 ≤ x) (hx2 : x ≤ 1000000000000000000) (hd : 1 ≤ d) (hd2 : d ≤ 1000000000000000000) (e : qf x d = q) : Calls Tryz.prog 68 #[.int .i64 x, .int .i64 d] w fun e w' => e = .returned (.int .i64 q) ∧ Below w.heap.size w w' := by
 have B := Below.refl w.heap.size w
 have E := Lib.hid (show (2 * x + d) / (2 * d) = q from e)
 clear e
 go_enter Tryz.func68, Tryz.ntmps68
 go_upto_region 1 with fail
 refine wp_region_lit ?_
 refine zx 6 ?_
 refine qE (enters_of Tryz.func111 (by kernel_rfl) rfl) (c := vD (2 * x + d) (2 * d) q _ (by omega) (by omega) (by omega) (by omega) E.out) (h := ?_)
 rintro e wn ⟨rfl, za⟩
 have zf := B.size
 have zg := za.size
 replace B := B.trans (za.mono B.size)
 refine ⟨_, rfl, ?_⟩
 simp only [zn]
 refine zx 1 ?_
 refine wpList_nil ?_
 go_wp2
 go_ret
 exact ⟨rfl, B⟩
end Go.Proofs.YtepelndbbhdofaaGreatDoor
/- A strings.Builder in use, told with what a write keeps: blocks of other kinds; the closure 'put' of Bytes. -/
namespace Go.Proofs.YtepelndbbhdofaaGreatDoor
open Go.RowKit Go.Lib Sha
set_option linter.unusedVariables false
set_option linter.unusedSimpArgs false
set_option maxRecDepth 20000
/-- A builder in use: it holds the bytes l. -/
def UB (B b : Nat) (l : List UInt8) (w : World) : Prop := Lib.BuilderAt 131 5 B b (.pointer (some ⟨b, 0, none⟩)) (Lib.byteCells l) w
/-- Blocks of other kinds than bytes stand, but one. -/
def KB (b : Nat) (w w' : World) : Prop := ∀ (k : Nat) (t : TypeId) (cs : Array Value), zF t w k cs → k ≠ b → t ≠ 5 → zF t w' k cs
theorem UB.holds {B b : Nat} {l : List UInt8} {w : World} (h : UB B b l w) : xM B b l w := .inr h
theorem UB.lt {B b : Nat} {l : List UInt8} {w : World} (h : UB B b l w) : b < w.heap.size := h.holds.lt
theorem UB.below {B b : Nat} {l : List UInt8} {w w' : World} (h : UB B b l w) (hb : Below w.heap.size w w') : UB B b l w' := by
 have zh := h.lt
 obtain ⟨hB, v, hv, hown, hne⟩ := h
 exact ⟨hB, v, (hb.block b zh).trans hv, hown.kept (row := none) ⟨hb.os, hb.tape, hb.output, hb.size, fun k hk _ => hb.block k hk⟩ (Classical.em _), hne⟩
theorem KB.below {b : Nat} {w w' : World} (hb : Below w.heap.size w w') : KB b w w' := fun k t cs h _ _ => h.of_eq (hb.block k h.lt)
theorem KB.trans {b : Nat} {u v w : World} (h : KB b u v) (k : KB b v w) : KB b u w := fun i t cs hi hb ht => k i t cs (h i t cs hi hb ht) hb ht
theorem VZ (B b : Nat) (l : List UInt8) (s : ByteArray) (w : World) (h : xM B b l w) (hlen : l.length + s.size ≤ 140737488355328) (hBw : B ≤ w.heap.size) :
  Calls Tryz.prog 83 #[.pointer (some ⟨b, 0, none⟩), .string s] w fun e w' => e = .returned (.tuple #[.int .i64 s.size, .nilIface]) ∧ UB B b (l ++ bytes s) w' ∧ Below B w w' :=
 (Any.Builder_WriteString Vv XO B b (Lib.byteCells l) s w h (by simpa [Lib.byteCells] using hlen) hBw).mono fun e w' ⟨h1, h2, h3⟩ => ⟨h1, (by unfold UB; rw [QZ]; exact h2), h3⟩
theorem zcH (B b : Nat) (l : List UInt8) (w : World) (h : UB B b l w) : Calls Tryz.prog 137 #[.pointer (some ⟨b, 0, none⟩)] w fun e w' => e = .returned (.tuple #[]) ∧ w' = w := Any.Builder_copyCheck_used { Vv with } XO.toX72 b w h.cell0
set_option maxHeartbeats 2000000 in
theorem zcF (B b : Nat) (l : List UInt8) (s : ByteArray) (w : World) (h : UB B b l w) (hlen : l.length + s.size ≤ 140737488355328) (hBw : B ≤ w.heap.size) :
  Calls Tryz.prog 83 #[.pointer (some ⟨b, 0, none⟩), .string s] w fun e w' => (∃ v, e = .returned v) ∧ UB B b (l ++ bytes s) w' ∧ Below B w w' ∧ KB b w w' := by
 have zh := h.lt
 have HU := Lib.hid h
 obtain ⟨hB, v, hbk, hown, hne⟩ := h
 have c1 : w.cell? ⟨b, 1, none⟩ = some v := by rw [Lib.cell_of_heap hbk]; rfl
 have hcl : (Lib.byteCells l).length = l.length := by simp [Lib.byteCells]
 obtain ⟨i0, hi, hz0, hz1, hz2⟩ := info_parts XO.infoByte
 go_enter Tryz.func83, Tryz.ntmps83
 go_wp2_with (go_at_call 137; refine (zcH B b l _ HU.out).mono ?_)
 rintro e w1 ⟨rfl, hw⟩
 have hw2 := hw.symm
 clear hw
 subst hw2
 go_wp2_with (at_builtin; refine Lib.wpList_append_own_string _ rfl _ _ 75 9 rfl B 5 i0 Tryz.underlying75 Tryz.underlying9 hi hz0 hz1 hz2 _ _ _ rfl hown s rfl ?c3 ?c4 ?c5 ?_)
 case c3 => rw [hcl]; unfold maxLen; omega
 case c4 => rw [hcl]; omega
 case c5 => exact hBw
 intro v' w2 hown' hgrow _
 have hb2 : w2.heap[b]? = some (.cells #[.pointer (some ⟨b, 0, none⟩), v] 131 (0, 0)) := by
  rw [hgrow.block b zh (fun e => hne e.symm)]; exact hbk
 have d1 : w2.cell? ⟨b, 1, none⟩ = some v := by rw [Lib.cell_of_heap hb2]; rfl
 have f1 : w2.frozen? ⟨b, 1, none⟩ = false := Lib.frozen_of_heap hb2 1
 have KG : KB b w w2 := fun k t cs hk hkb ht => hk.of_eq (hgrow.block k hk.lt fun e => by
  rcases hown.2 with ⟨rfl, _⟩ | ⟨g, cap, cur, rfl, _, hgc, _⟩
  ·cases e
  ·have hgk : k = g := by simpa [Value.ownBlock] using e
   subst hgk; rw [show w.heap[k]? = _ from hk] at hgc
   injection hgc with hgc
   injection hgc with _ e2 _
   exact ht e2)
 obtain ⟨ao, n', cap, rfl⟩ : ∃ ao n' cap, v' = .slice ao n' cap := by
  rcases hown'.2 with ⟨hv, _⟩ | ⟨g, cap, cur, hv, _⟩
  ·exact ⟨_, _, _, hv⟩
  ·exact ⟨_, _, _, hv⟩
 have HOW := Lib.hid hown
 clear hown hbk HU c1
 go_wp2
 go_ret2
 refine ⟨⟨_, rfl⟩, ?_, ?_, ?_⟩
 ·unfold UB
  rw [QZ]; exact Lib.BuilderAt.put (T := 131) (e := 5) hB hb2 (bs' := Lib.byteCells l ++ Lib.strCells s) (by rw [List.length_append, Lib.strCells_length, hcl]; exact hown') XO.neB5
 ·exact ((Below.refl B w).grown hgrow hBw (fun k hk => (World.ownsRow.lt HOW.out k hk).1)).setCell (p := ⟨b, 1, none⟩) hB _
 ·exact fun k t cs hk hkb ht => (KG k t cs hk hkb ht).of_eq (((qN.refl b w2).setCell _).block k (KG k t cs hk hkb ht).lt hkb)
theorem vZ (n m : Nat) : bytes (xT (jb n m)) = jb n m := rfl
theorem zcN (B0 b : Nat) (l : List UInt8) (n : Nat) (w : World) (h : xM B0 b l w) (hn : n < 16777216) (hlen : l.length ≤ 100000) (hBw : B0 ≤ w.heap.size) : Calls Tryz.prog 82 #[.int .i64 (n : Int), .int .i64 1, .pointer (some ⟨b, 0, none⟩)] w fun e w' => (∃ v, e = .returned v) ∧ UB B0 b (l ++ jb n 1) w' ∧ Below B0 w w' := by
 have B := Below.refl w.heap.size w
 go_enter Tryz.func82, Tryz.ntmps82
 go_upto_region 0 with fail
 refine wp_region_lit ?_
 refine zx 2 ?_
 refine qE (enters_of Tryz.func84 (by kernel_rfl) rfl) (c := zaF n (by omega) _) (h := ?_)
 rintro e wn ⟨rfl, za⟩
 have zf := B.size
 have zg := za.size
 replace B := B.trans (za.mono B.size)
 replace h := h.below za
 refine ⟨_, rfl, ?_⟩
 simp only [zn]
 refine qE (enters_of Tryz.func83 (by kernel_rfl) rfl) (c := VZ B0 b l _ wn h (by rw [jk, zC]; omega) (by have := B.size; omega)) (h := ?_)
 rintro e wm ⟨rfl, hu, zl⟩
 rw [vZ] at hu
 refine ⟨_, rfl, ?_⟩
 simp only [zn]
 refine wpList_nil ?_
 go_wp2
 go_end0
 refine ⟨⟨_, rfl⟩, hu, (B.mono hBw).trans zl⟩
theorem zef (B0 b : Nat) (l : List UInt8) (n : Nat) (w : World) (h : UB B0 b l w) (hn : n < 16777216) (hlen : l.length ≤ 100000) (hBw : B0 ≤ w.heap.size) : Calls Tryz.prog 82 #[.int .i64 (n : Int), .int .i64 1, .pointer (some ⟨b, 0, none⟩)] w fun e w' => (∃ v, e = .returned v) ∧ UB B0 b (l ++ jb n 1) w' ∧ Below B0 w w' ∧ KB b w w' := by
 have B := Below.refl w.heap.size w
 go_enter Tryz.func82, Tryz.ntmps82
 go_upto_region 0 with fail
 refine wp_region_lit ?_
 refine zx 2 ?_
 refine qE (enters_of Tryz.func84 (by kernel_rfl) rfl) (c := zaF n (by omega) _) (h := ?_)
 rintro e wn ⟨rfl, za⟩
 have zf := B.size
 have zg := za.size
 replace B := B.trans (za.mono B.size)
 replace h := h.below za
 refine ⟨_, rfl, ?_⟩
 simp only [zn]
 refine qE (enters_of Tryz.func83 (by kernel_rfl) rfl) (c := zcF B0 b l _ wn h (by rw [jk, zC]; omega) (by have := B.size; omega)) (h := ?_)
 rintro e wm ⟨⟨v, rfl⟩, hu, zl, hkm⟩
 rw [vZ] at hu
 refine ⟨_, rfl, ?_⟩
 simp only [zn]
 refine wpList_nil ?_
 go_wp2
 go_end0
 refine ⟨⟨_, rfl⟩, hu, (B.mono hBw).trans zl, (KB.below B).trans hkm⟩
theorem zeg (B0 b : Nat) (l : List UInt8) (n : Nat) (w : World) (h : UB B0 b l w) (hn : n < 16777216) (hlen : l.length ≤ 100000) (hBw : B0 ≤ w.heap.size) : Calls Tryz.prog 82 #[.int .i64 (n : Int), .int .i64 2, .pointer (some ⟨b, 0, none⟩)] w fun e w' => (∃ v, e = .returned v) ∧ UB B0 b (l ++ jb n 2) w' ∧ Below B0 w w' ∧ KB b w w' := by
 have B := Below.refl w.heap.size w
 go_enter Tryz.func82, Tryz.ntmps82
 go_upto_region 0 with fail
 refine wp_region_lit ?_
 refine zx 2 ?_
 refine qE (enters_of Tryz.func84 (by kernel_rfl) rfl) (c := zeb n (by omega) _) (h := ?_)
 rintro e wn ⟨rfl, za⟩
 have zf := B.size
 have zg := za.size
 replace B := B.trans (za.mono B.size)
 replace h := h.below za
 refine ⟨_, rfl, ?_⟩
 simp only [zn]
 refine qE (enters_of Tryz.func83 (by kernel_rfl) rfl) (c := zcF B0 b l _ wn h (by rw [jk, zC]; omega) (by have := B.size; omega)) (h := ?_)
 rintro e wm ⟨⟨v, rfl⟩, hu, zl, hkm⟩
 rw [vZ] at hu
 refine ⟨_, rfl, ?_⟩
 simp only [zn]
 refine wpList_nil ?_
 go_wp2
 go_end0
 refine ⟨⟨_, rfl⟩, hu, (B.mono hBw).trans zl, (KB.below B).trans hkm⟩
theorem zeh (B0 b : Nat) (l : List UInt8) (n : Nat) (w : World) (h : UB B0 b l w) (hn : n < 16777216) (hlen : l.length ≤ 100000) (hBw : B0 ≤ w.heap.size) : Calls Tryz.prog 82 #[.int .i64 (n : Int), .int .i64 3, .pointer (some ⟨b, 0, none⟩)] w fun e w' => (∃ v, e = .returned v) ∧ UB B0 b (l ++ jb n 3) w' ∧ Below B0 w w' ∧ KB b w w' := by
 have B := Below.refl w.heap.size w
 go_enter Tryz.func82, Tryz.ntmps82
 go_upto_region 0 with fail
 refine wp_region_lit ?_
 refine zx 2 ?_
 refine qE (enters_of Tryz.func84 (by kernel_rfl) rfl) (c := zec n (by omega) _) (h := ?_)
 rintro e wn ⟨rfl, za⟩
 have zf := B.size
 have zg := za.size
 replace B := B.trans (za.mono B.size)
 replace h := h.below za
 refine ⟨_, rfl, ?_⟩
 simp only [zn]
 refine qE (enters_of Tryz.func83 (by kernel_rfl) rfl) (c := zcF B0 b l _ wn h (by rw [jk, zC]; omega) (by have := B.size; omega)) (h := ?_)
 rintro e wm ⟨⟨v, rfl⟩, hu, zl, hkm⟩
 rw [vZ] at hu
 refine ⟨_, rfl, ?_⟩
 simp only [zn]
 refine wpList_nil ?_
 go_wp2
 go_end0
 refine ⟨⟨_, rfl⟩, hu, (B.mono hBw).trans zl, (KB.below B).trans hkm⟩
end Go.Proofs.YtepelndbbhdofaaGreatDoor
/- Plain: strokes as bytes. -/
namespace Go.Proofs.YtepelndbbhdofaaGreatDoor
open Go.RowKit Pl Sha
set_option linter.unusedVariables false
set_option linter.unusedSimpArgs false
/-- A number, big endian. -/
def beN (l : List UInt8) : Nat := l.foldl (fun n b => 256 * n + b.toNat) 0
theorem Z2 (l : List UInt8) (b : UInt8) : beN (l ++ [b]) = 256 * beN l + b.toNat := by unfold beN; rw [List.foldl_append]; rfl
theorem WU {P : List UInt8 → Prop} (h0 : P []) (h1 : ∀ l b, P l → P (l ++ [b])) : ∀ l, P l := fun l => by
 rw [← List.reverse_reverse l]
 induction l.reverse with
 | nil => exact h0
 | cons b r ih => rw [List.reverse_cons]; exact h1 _ _ ih
theorem Z1 (l : List UInt8) : beN l < 256 ^ l.length := by
 induction l using WU with
 | h0 => show 0 < 256 ^ 0; decide
 | h1 l b ih =>
  rw [Z2, List.length_append, List.length_singleton, Nat.pow_succ]; have := b.toNat_lt; omega
theorem yG : ∀ (m n : Nat), n < 256 ^ m → beN (jb n m) = n
  | 0, n, h => by have : n = 0 := by simpa using h
                  subst this; rfl
  | m + 1, n, h => by
    rw [Nat.pow_succ] at h; show beN (jb (n / 256) m ++ [UInt8.ofNat n]) = n
    rw [Z2, yG m (n / 256) (by omega), UInt8.toNat_ofNat']; omega
def j9 (l : List UInt8) (i m : Nat) : List UInt8 := (l.drop i).take m
theorem zcl {l : List UInt8} {i m : Nat} (h : i + m ≤ l.length) : (j9 l i m).length = m := by unfold j9; rw [List.length_take, List.length_drop]; omega
theorem xX {l A B C : List UInt8} {i m : Nat} (h : l = A ++ B ++ C) (hi : A.length = i) (hm : B.length = m) : j9 l i m = B := by
 subst h hi hm
 unfold j9
 rw [List.append_assoc, List.drop_left, List.take_left]
theorem VU {l : List UInt8} {i m j : Nat} (hj : j < m) : (j9 l i m)[j]? = l[i + j]? := by
 unfold j9
 rw [List.getElem?_take, if_pos hj, List.getElem?_drop]
def WJ (p : Sp) : List UInt8 := jb (p.x + 1048576).toNat 3 ++ jb (p.y + 1048576).toNat 3 ++ jb p.p.toNat 1
def xi (l : List Sp) : List UInt8 := l.flatMap WJ
def vG (c : Px) : List UInt8 := [bt c.r, bt c.g, bt c.b, bt c.a]
def vu (s : qv) : Nat := if s.era = true then 1 else 0
def uf (s : qv) : List UInt8 := jb s.rad.toNat 2 ++ jb s.spa.toNat 2 ++ vG s.col ++ jb (vu s) 1 ++ jb s.pha.toNat 3
def qV (s : qv) : List UInt8 := jb s.pts.length 1 ++ xi s.pts ++ uf s
def xS (s : qv) : List UInt8 := if qM s = true then qV s else []
theorem zdz (p : Sp) : (WJ p).length = 7 := by unfold WJ; simp only [List.length_append, zC]
theorem yW (l : List Sp) : (xi l).length = 7 * l.length := by
 induction l with
 | nil => rfl
 | cons p r ih =>
  show (WJ p ++ xi r).length = _
  rw [List.length_append, zdz, ih, List.length_cons]; omega
theorem Zm (a b : List Sp) : xi (a ++ b) = xi a ++ xi b := List.flatMap_append
theorem WK (a : List Sp) (p : Sp) : xi (a ++ [p]) = xi a ++ WJ p := by
 rw [Zm]
 show xi a ++ (WJ p ++ []) = _
 rw [List.append_nil]
theorem WY (s : qv) : (uf s).length = 12 := by unfold uf vG; simp only [List.length_append, zC, List.length_cons, List.length_nil]
theorem Z6 (s : qv) : (qV s).length = 13 + 7 * s.pts.length := by
 unfold qV
 rw [List.length_append, List.length_append, zC, yW, WY]
 omega
/-! ### Reading -/
def wA (l : List UInt8) : Nat := beN (j9 l 0 1)
def Kt (l : List UInt8) (i : Nat) : Sp := ⟨(beN (j9 l (1 + 7 * i) 3) : Int) - 1048576, (beN (j9 l (4 + 7 * i) 3) : Int) - 1048576, (beN (j9 l (7 + 7 * i) 1) : Int)⟩
def Ks (l : List UInt8) (e : Nat) : Px := ⟨((l.getD e 0).toNat : Int), ((l.getD (e + 1) 0).toNat : Int), ((l.getD (e + 2) 0).toNat : Int), ((l.getD (e + 3) 0).toNat : Int)⟩
def pkS (l : List UInt8) (n : Nat) : qv := ⟨(List.range n).map (Kt l), (beN (j9 l (1 + 7 * n) 2) : Int), (beN (j9 l (3 + 7 * n) 2) : Int), Ks l (5 + 7 * n), decide (beN (j9 l (9 + 7 * n) 1) = 1), (beN (j9 l (10 + 7 * n) 3) : Int)⟩
def QN (l : List UInt8) : qv := pkS l (wA l)
def zSt : qv := ⟨[], 0, 0, Px.zero, false, 0⟩
def wI (l : List UInt8) : qv × Int := if l.length < 13 + 7 * wA l then (zSt, 10) else if xS (QN l) = l then (QN l, 0) else (zSt, 11)
theorem zdw (l : List UInt8) (e : Nat) : (Ks l e).ok := by
 unfold Ks
 have h : ∀ b : UInt8, 0 ≤ (b.toNat : Int) ∧ (b.toNat : Int) ≤ 255 := fun b => by have := b.toNat_lt; omega
 exact ⟨h _, h _, h _, h _⟩
theorem zc4 (s : qv) : vu s ≤ 1 := by unfold vu; split <;> omega
theorem Y9 (s : qv) : j9 (qV s) (9 + 7 * s.pts.length) 1 = jb (vu s) 1 :=
 xX (A := jb s.pts.length 1 ++ xi s.pts ++ (jb s.rad.toNat 2 ++ jb s.spa.toNat 2 ++ vG s.col)) (C := jb s.pha.toNat 3) (by unfold qV uf; simp only [List.append_assoc]) (by simp only [List.length_append, zC, yW, vG, List.length_cons, List.length_nil]; omega) (zC _ _)
/-! ### Reading what was written -/
theorem XF (s : qv) (h : s.pts.length ≤ 255) : wA (qV s) = s.pts.length := by
 unfold wA
 rw [xX (i := 0) (m := 1) (A := []) (B := jb s.pts.length 1) (C := xi s.pts ++ uf s) (by unfold qV; simp only [List.append_assoc, List.nil_append]) rfl (zC _ _)]
 exact yG 1 _ (by omega)
theorem Wg {s : qv} {i : Nat} {p : Sp} (h : s.pts[i]? = some p) (ok : Zl p) : Kt (qV s) i = p := by
 have hi : i < s.pts.length := (List.getElem?_eq_some_iff.1 h).1
 have e : s.pts = s.pts.take i ++ (p :: s.pts.drop (i + 1)) := by
  have := List.take_append_drop i s.pts; rw [List.drop_eq_getElem_cons hi] at this; have hp : s.pts[i] = p := (List.getElem?_eq_some_iff.1 h).2; rw [hp] at this; exact this.symm
 have e2 : qV s = jb s.pts.length 1 ++ xi (s.pts.take i) ++ WJ p ++ (xi (s.pts.drop (i + 1)) ++ uf s) := by
  have e3 : xi s.pts = xi (s.pts.take i) ++ (WJ p ++ xi (s.pts.drop (i + 1))) := by
   conv => lhs; rw [e]
   rw [Zm]
   rfl
  unfold qV; rw [e3]; simp only [List.append_assoc]
 have hA : (jb s.pts.length 1 ++ xi (s.pts.take i)).length = 1 + 7 * i := by rw [List.length_append, zC, yW, List.length_take]; omega
 obtain ⟨o1, o2, o3, o4, o5, o6⟩ := ok
 have h1 : j9 (qV s) (1 + 7 * i) 3 = jb (p.x + 1048576).toNat 3 := xX (A := jb s.pts.length 1 ++ xi (s.pts.take i)) (C := jb (p.y + 1048576).toNat 3 ++ (jb p.p.toNat 1 ++ (xi (s.pts.drop (i + 1)) ++ uf s))) (by rw [e2]; unfold WJ; simp only [List.append_assoc]) hA (zC _ _)
 have h2 : j9 (qV s) (4 + 7 * i) 3 = jb (p.y + 1048576).toNat 3 := xX (A := jb s.pts.length 1 ++ xi (s.pts.take i) ++ jb (p.x + 1048576).toNat 3) (C := jb p.p.toNat 1 ++ (xi (s.pts.drop (i + 1)) ++ uf s)) (by rw [e2]; unfold WJ; simp only [List.append_assoc]) (by rw [List.length_append, hA, zC]; omega) (zC _ _)
 have h3 : j9 (qV s) (7 + 7 * i) 1 = jb p.p.toNat 1 := xX (A := jb s.pts.length 1 ++ xi (s.pts.take i) ++ jb (p.x + 1048576).toNat 3 ++ jb (p.y + 1048576).toNat 3) (C := xi (s.pts.drop (i + 1)) ++ uf s) (by rw [e2]; unfold WJ; simp only [List.append_assoc]) (by rw [List.length_append, List.length_append, hA, zC, zC]; omega) (zC _ _)
 unfold Kt
 rw [h1, h2, h3, yG 3 _ (by omega), yG 3 _ (by omega), yG 1 _ (by omega)]
 obtain ⟨x, y, z⟩ := p
 simp only at o1 o2 o3 o4 o5 o6 ⊢
 congr 1 <;> omega
theorem WF {s : qv} (h : uQ s) (hc : s.col.ok) : QN (qV s) = s := by
 have hl1 := h.l1
 have hl2 := h.l2
 unfold QN
 rw [XF s (by omega)]
 have hpts : (List.range s.pts.length).map (Kt (qV s)) = s.pts := by
  apply List.ext_getElem?
  intro i; rw [List.getElem?_map]; by_cases hi : i < s.pts.length
  ·rw [List.getElem?_range hi, List.getElem?_eq_getElem hi]
   show some _ = some _
   congr 1
   exact Wg (List.getElem?_eq_getElem hi) (h.ok _ (List.getElem_mem hi))
  ·rw [List.getElem?_eq_none (by rw [List.length_range]; omega), List.getElem?_eq_none (by omega)]
   rfl
 have hH : (jb s.pts.length 1 ++ xi s.pts).length = 1 + 7 * s.pts.length := by rw [List.length_append, zC, yW]
 have h1 : j9 (qV s) (1 + 7 * s.pts.length) 2 = jb s.rad.toNat 2 := xX (A := jb s.pts.length 1 ++ xi s.pts) (C := jb s.spa.toNat 2 ++ (vG s.col ++ (jb (vu s) 1 ++ jb s.pha.toNat 3))) (by unfold qV uf; simp only [List.append_assoc]) hH (zC _ _)
 have h2 : j9 (qV s) (3 + 7 * s.pts.length) 2 = jb s.spa.toNat 2 := xX (A := jb s.pts.length 1 ++ xi s.pts ++ jb s.rad.toNat 2) (C := vG s.col ++ (jb (vu s) 1 ++ jb s.pha.toNat 3)) (by unfold qV uf; simp only [List.append_assoc]) (by rw [List.length_append, hH, zC]; omega) (zC _ _)
 have h3 : j9 (qV s) (5 + 7 * s.pts.length) 4 = vG s.col := xX (A := jb s.pts.length 1 ++ xi s.pts ++ jb s.rad.toNat 2 ++ jb s.spa.toNat 2) (C := jb (vu s) 1 ++ jb s.pha.toNat 3) (by unfold qV uf; simp only [List.append_assoc]) (by rw [List.length_append, List.length_append, hH, zC, zC]; omega) rfl
 have h4 := Y9 s
 have h5 : j9 (qV s) (10 + 7 * s.pts.length) 3 = jb s.pha.toNat 3 := xX (A := jb s.pts.length 1 ++ xi s.pts ++ (jb s.rad.toNat 2 ++ jb s.spa.toNat 2 ++ vG s.col ++ jb (vu s) 1)) (C := []) (by unfold qV uf; simp only [List.append_assoc, List.append_nil]) (by simp only [List.length_append, zC, yW, vG, List.length_cons, List.length_nil]; omega) (zC _ _)
 have hcol : Ks (qV s) (5 + 7 * s.pts.length) = s.col := by
  have g : ∀ (j : Nat) (x : Int), j < 4 → (vG s.col)[j]? = some (bt x) → 0 ≤ x ∧ x ≤ 255 → (((qV s).getD (5 + 7 * s.pts.length + j) 0).toNat : Int) = x := fun j x hj hx hb => by
   rw [← h3, VU hj] at hx; rw [List.getD_eq_getElem?_getD, hx]; exact (Z4 hb).symm
  obtain ⟨c1, c2, c3, c4⟩ := hc; have g0 := g 0 _ (by omega) rfl c1; have g1 := g 1 _ (by omega) rfl c2; have g2 := g 2 _ (by omega) rfl c3; have g3 := g 3 _ (by omega) rfl c4; rw [Nat.add_zero] at g0; unfold Ks; rw [g0, g1, g2, g3]
 have r1 := h.r1
 have r2 := h.r2
 have s1 := h.s1
 have s2 := h.s2
 have p1 := h.p1
 have p2 := h.p2
 unfold pkS
 rw [hpts, h1, h2, h4, h5, hcol, yG 2 _ (by omega), yG 2 _ (by omega), yG 3 _ (by omega), yG 1 _ (by have := zc4 s; omega)]
 obtain ⟨ps, r, sp, c, er, ph⟩ := s
 simp only at r1 r2 s1 s2 p1 p2 ⊢
 have e1 : (decide (vu ⟨ps, r, sp, c, er, ph⟩ = 1)) = er := by unfold vu; cases er <;> rfl
 rw [e1]
 congr 1 <;> omega
theorem KC {s : qv} (h : uQ s) (hc : s.col.ok) : wI (xS s) = (s, 0) := by
 have hb : xS s = qV s := if_pos ((jj s).2 h)
 have hp := WF h hc
 have hn := XF s (by have := h.l2; omega)
 unfold wI
 rw [hb, hp, hn, Z6, if_neg (by omega), hb, if_pos rfl]
theorem Qr {l : List UInt8} (h : l.length < 13 + 7 * wA l) : wI l = (zSt, 10) := if_pos h
theorem WO {l : List UInt8} (h : ¬ l.length < 13 + 7 * wA l) (k : ¬ xS (QN l) = l) : wI l = (zSt, 11) := by unfold wI; rw [if_neg h, if_neg k]
theorem zdE {l : List UInt8} (h : ¬ l.length < 13 + 7 * wA l) (k : xS (QN l) = l) : wI l = (QN l, 0) := by unfold wI; rw [if_neg h, if_pos k]
end Go.Proofs.YtepelndbbhdofaaGreatDoor
/- Plain: polygons: which rays cross an edge, the coverage of a pixel, the rectangle from the least to the greatest coordinates. -/
namespace Go.Proofs.YtepelndbbhdofaaGreatDoor
open Go.RowKit Pl
set_option linter.unusedVariables false
set_option linter.unusedSimpArgs false
abbrev vX := Int × Int
def zfq (p : vX) : Bool := decide (p.1 < -65536 ∨ p.2 < -65536 ∨ 65536 < p.1 ∨ 65536 < p.2)
def zgM (l : List vX) : Prop := ∀ p ∈ l, zfq p = false
def zco (l : List vX) : Bool := decide (3 ≤ l.length ∧ l.length ≤ 64) && l.all fun p => !zfq p
/-- The ray from (u, v) to the right crosses the edge from a up to b. -/
def zfl (a b : vX) (u v : Int) : Bool := decide (a.2 ≤ v ∧ v < b.2 ∧ (u - a.1) * (b.2 - a.2) < (b.1 - a.1) * (v - a.2))
def crs (a b : vX) (u v : Int) : Bool := if b.2 < a.2 then zfl b a u v else zfl a b u v
def pt8 (p : vX) : vX := (8 * p.1, 8 * p.2)
def ptG (l : List vX) (i : Nat) : vX := l.getD i (0, 0)
def zfp (l : List vX) (u v : Int) (i : Nat) : Bool := crs (pt8 (ptG l i)) (pt8 (ptG l ((i + 1) % l.length))) u v
/-- The parity of a sequence of answers. -/
def zfG (f : Nat → Bool) : Nat → Bool
 | 0 => false
 | k + 1 => Bool.xor (zfG f k) (f k)
def zgi (l : List vX) (u v : Int) : Bool := zfG (zfp l u v) l.length
def zgq (l : List vX) (x y : Int) (i : Nat) : Bool := zgi l (8 * x + 2 * ((i : Int) % 4) + 1) (8 * y + 2 * ((i : Int) / 4) + 1)
def zfg (f : Nat → Bool) : Nat → Nat
 | 0 => 0
 | k + 1 => zfg f k + (if f k = true then 1 else 0)
def zf7 (n : Nat) : Int := (255 * (n : Int) + 8) / 16
def zfi (l : List vX) (x y : Int) : Int := zf7 (zfg (zgq l x y) 16)
/-! ### The rectangle from the least to the greatest coordinates -/
def Vm (r : Rc) (p : vX) : Rc := ⟨min r.x0 p.1, min r.y0 p.2, max r.x1 p.1, max r.y1 p.2⟩
def ptR (p : vX) : Rc := ⟨p.1, p.2, p.1, p.2⟩
def zfy : List vX → Rc
 | [] => Rc.zero
 | p :: r => r.foldl Vm (ptR p)
/-- Each point lies within the rectangle; each side bears one. -/
structure YS (r : Rc) (l : List vX) : Prop where
 h1 : ∀ p ∈ l, r.x0 ≤ p.1 ∧ p.1 ≤ r.x1 ∧ r.y0 ≤ p.2 ∧ p.2 ≤ r.y1
 l1 : ∃ p ∈ l, p.1 = r.x0
 l2 : ∃ p ∈ l, p.1 = r.x1
 l3 : ∃ p ∈ l, p.2 = r.y0
 l4 : ∃ p ∈ l, p.2 = r.y1
theorem YS.grow {r : Rc} {l : List vX} (h : YS r l) (p : vX) : YS (Vm r p) (l ++ [p]) := by
 obtain ⟨h1, ⟨a, ha, ea⟩, ⟨b, hb, eb⟩, ⟨c, hc, ec⟩, ⟨d, hd, ed⟩⟩ := h
 have hp : p ∈ l ++ [p] := List.mem_append_right _ (List.mem_cons_self ..)
 have hl : ∀ {q}, q ∈ l → q ∈ l ++ [p] := fun hq => List.mem_append_left _ hq
 unfold Vm
 constructor
 ·intro q hq
  show min r.x0 p.1 ≤ q.1 ∧ q.1 ≤ max r.x1 p.1 ∧ min r.y0 p.2 ≤ q.2 ∧ q.2 ≤ max r.y1 p.2
  rcases List.mem_append.1 hq with hq | hq
  ·have := h1 q hq; omega
  ·obtain rfl : q = p := by simpa using hq
   omega
 ·show ∃ q ∈ l ++ [p], q.1 = min r.x0 p.1
  by_cases h : r.x0 ≤ p.1
  ·exact ⟨a, hl ha, by omega⟩
  ·exact ⟨p, hp, by omega⟩
 ·show ∃ q ∈ l ++ [p], q.1 = max r.x1 p.1
  by_cases h : p.1 ≤ r.x1
  ·exact ⟨b, hl hb, by omega⟩
  ·exact ⟨p, hp, by omega⟩
 ·show ∃ q ∈ l ++ [p], q.2 = min r.y0 p.2
  by_cases h : r.y0 ≤ p.2
  ·exact ⟨c, hl hc, by omega⟩
  ·exact ⟨p, hp, by omega⟩
 ·show ∃ q ∈ l ++ [p], q.2 = max r.y1 p.2
  by_cases h : p.2 ≤ r.y1
  ·exact ⟨d, hl hd, by omega⟩
  ·exact ⟨p, hp, by omega⟩
/-- What the program's loop has behind k points; its first round takes the first point anew. -/
def zgI (l : List vX) (k : Nat) : Rc := (l.take k).foldl Vm (ptR (ptG l 0))
def zem (l : List vX) : Rc := if zco l = true then vk (zfy l) else Rc.zero
/-! ### A pixel outside of the rectangle is not covered -/
def zf8 (l : List vX) (x y : Int) : Int := if js (zem l) x y = true then zfi l x y else 0
def zf9 (l : List vX) (x y : Int) : Int := if zco l = true ∧ -70000 ≤ x ∧ -70000 ≤ y ∧ x ≤ 70000 ∧ y ≤ 70000 then zfi l x y else 0
/- Plain: a polygon shifted, turned round, told from another point or in the other order: the same coverage. -/
def shp (d : vX) (p : vX) : vX := (p.1 + d.1, p.2 + d.2)
/-- The list of the points at k, k + 1 .. of another one, shifted. -/
def zhv (l : List vX) (k : Nat) (d : vX) : List vX := (List.range l.length).map fun i => shp d (ptG l ((i + k) % l.length))
def zhu (l : List vX) (k : Nat) : List vX := (List.range l.length).map fun i => ptG l ((l.length + k - i) % l.length)
/-! ### The polygon that numbers describe -/
def zfD (q : List Int) (i : Nat) : Int := q.getD i 0
def zfI (q : List Int) : Nat := min (q.length / 2) 12
def zfJ (q : List Int) (j : Nat) : vX := (zfD q (2 * j) % 28 - 8, zfD q (2 * j + 1) % 28 - 8)
def zfH (q : List Int) (k : Nat) : List vX := (List.range k).map (zfJ q)
def zgP (q : List Int) : List vX := zfH q (zfI q)
end Go.Proofs.YtepelndbbhdofaaGreatDoor
/- Slices of points; calls of function values. -/
namespace Go.Proofs.YtepelndbbhdofaaGreatDoor
open Go.RowKit Go.Shelf Pl
set_option linter.unusedVariables false
set_option linter.unusedSimpArgs false
set_option maxRecDepth 20000
section
variable {P : Program} {ops : Array Oper} {Q : Exit → Act → World → Prop} {w : World}
theorem YP {g : FuncId} {x : Operand} {xs : Array Operand} {ats : Array TypeId} {o : Oper} {a : Act} {K : Act → World → Prop} {vals lb : Array Value} (ho : o.op = .call { callee := .value x, args := xs, argTypes := ats }) (hx : a.eval x = .func (.func g) #[] lb) (eg : Go.Proofs.Enters P g) (hv : xs.map a.eval = vals)
  (h : Calls P g (vals ++ lb) w fun e w' => ∃ v, e = .returned v ∧ K (a.put o.dst v) w') : o.wp P a w K Q := by
 subst hv
 obtain ⟨dst, op, ty, pos, after, guard⟩ := o
 simp only at ho
 subst ho
 unfold Oper.wp
 have key : ∀ ρ : Operand → Value, ρ x = .func (.func g) #[] lb → (execOp ρ { dst, op := .call { callee := .value x, args := xs, argTypes := ats }, type := ty, pos, after, guard : Oper }).run P w = .ok (.enter g (xs.map ρ ++ lb)) w := fun ρ hρ => by
  have := eg (xs.map ρ ++ lb) w; simp [go_sem, hρ, this]
 rw [key a.eval hx]
 exact Calls.mono h fun e w' ⟨v, he, hk⟩ => by subst he; exact hk
theorem qG {g : FuncId} {x : Operand} {xs : Array Operand} {ats : Array TypeId} {o : Oper} {r : List Oper} {a : Act} {vals lb : Array Value} (hw : Region.wanted o (yielded ops a.tmps) = true) (ho : o.op = .call { callee := .value x, args := xs, argTypes := ats }) (hx : a.eval x = .func (.func g) #[] lb) (eg : Go.Proofs.Enters P g) (hv : xs.map a.eval = vals)
  (h : Calls P g (vals ++ lb) w fun e w' => ∃ v, e = .returned v ∧ wpList P ops Q r (a.put o.dst v) w') : wpList P ops Q (o :: r) a w := by
 unfold wpList
 rw [if_pos hw]
 exact .inl (YP ho hx eg hv h)
end
/- Contracts of package stroke and of its reference: in, length, total. -/
theorem yB (x : Int) (b : Bool) (w : World) (e : wF x = b) : Calls Tryz.prog 53 #[.int .i64 x] w fun e w' => e = .returned (.bool b) ∧ Below w.heap.size w w' := by
 by_cases h0 : -1048576 ≤ x
 ·by_cases h1 : x < 1048576
  ·obtain rfl : b = true := by rw [← e]; unfold wF; exact decide_eq_true (by omega)
   have d0 : decide (-1048576 ≤ x) = true := decide_eq_true h0; have d1 : decide (x < 1048576) = true := decide_eq_true h1; clear e; go_enter Tryz.func53, Tryz.ntmps53
   go_wp2; go_ret; exact ⟨rfl, by go_grown⟩
  ·obtain rfl : b = false := by rw [← e]; unfold wF; exact decide_eq_false (by omega)
   have d0 : decide (-1048576 ≤ x) = true := decide_eq_true h0; have d1 : decide (x < 1048576) = false := decide_eq_false h1; clear e; go_enter Tryz.func53, Tryz.ntmps53
   go_wp2; go_ret; exact ⟨rfl, by go_grown⟩
 ·obtain rfl : b = false := by rw [← e]; unfold wF; exact decide_eq_false (by omega)
  have d0 : decide (-1048576 ≤ x) = false := decide_eq_false h0; clear e; go_enter Tryz.func53, Tryz.ntmps53
  go_wp2; go_ret; exact ⟨rfl, by go_grown⟩
theorem kN (x : Int) (b : Bool) (w : World) (e : wF x = b) : Calls Tryz.prog 55 #[.int .i64 x] w fun e w' => e = .returned (.bool b) ∧ Below w.heap.size w w' := by
 by_cases h0 : -1048576 ≤ x
 ·by_cases h1 : x ≤ 1048575
  ·obtain rfl : b = true := by rw [← e]; unfold wF; exact decide_eq_true (by omega)
   have d0 : decide (-1048576 ≤ x) = true := decide_eq_true h0; have d1 : decide (x ≤ 1048575) = true := decide_eq_true h1; clear e; go_enter Tryz.func55, Tryz.ntmps55
   go_wp2; go_ret; exact ⟨rfl, by go_grown⟩
  ·obtain rfl : b = false := by rw [← e]; unfold wF; exact decide_eq_false (by omega)
   have d0 : decide (-1048576 ≤ x) = true := decide_eq_true h0; have d1 : decide (x ≤ 1048575) = false := decide_eq_false h1; clear e; go_enter Tryz.func55, Tryz.ntmps55
   go_wp2; go_ret; exact ⟨rfl, by go_grown⟩
 ·obtain rfl : b = false := by rw [← e]; unfold wF; exact decide_eq_false (by omega)
  have d0 : decide (-1048576 ≤ x) = false := decide_eq_false h0; clear e; go_enter Tryz.func55, Tryz.ntmps55
  go_wp2; go_ret; exact ⟨rfl, by go_grown⟩
/-! ### length -/
theorem zeR {n : Nat} {l : Nat} : (decide ((n : Int) < ((l : Int) + 1) * ((l : Int) + 1))) = decide (sqN n ≤ l) := by
 rw [Bool.eq_iff_iff, decide_eq_true_iff, decide_eq_true_iff]
 have h := Kj (n := n) (s := l + 1)
 have e : ((l : Int) + 1) * ((l : Int) + 1) = (((l + 1) * (l + 1) : Nat) : Int) := by rw [Int.natCast_mul]; rfl
 rw [e]
 omega
theorem Jh {n : Nat} (h : n < 17592186044416) : sqN n < 4194304 := by
 rcases Nat.lt_or_ge (sqN n) 4194304 with k | k
 ·exact k
 ·have := Kj.1 k
  omega
theorem zaK (l n : Nat) (b : Nat) (r : Bool) (w : World) (n1 : zF 3 w b #[.int .i64 (n : Int)]) (hl : l ≤ 4194304) (e : decide (sqN n ≤ l) = r) : Calls Tryz.prog 156 #[.int .i64 (l : Int), .pointer (some ⟨b, 0, none⟩)] w fun e w' => e = .returned (.bool r) ∧ Below w.heap.size w w' := by
 have B := Below.refl w.heap.size w
 have hm := jL (a := (l : Int) + 1) (b := (l : Int) + 1) (m := 4194305) (k := 4194305) (by omega) (by omega) (by omega) (by omega)
 rw [← zeR] at e
 have E := Lib.hid e
 clear e
 go_enter Tryz.func156, Tryz.ntmps156
 go_upto_region 1 with fail
 refine wp_region_lit ?_
 refine zx 8 ?_
 refine wpList_nil ?_
 go_wp2
 go_ret
 exact ⟨by (rw [← E.out]) <;> rfl, B⟩
set_option maxHeartbeats 1000000 in
theorem YZ (n : Nat) (b : Nat) (w : World) (n1 : zF 3 w b #[.int .i64 (n : Int)]) (hn : n < 17592186044416) : Calls Tryz.prog 155 #[.int .i64 4194304, .func (.func 156) #[] #[.pointer (some ⟨b, 0, none⟩)]] w fun e w' => e = .returned (.int .i64 (sqN n : Nat)) ∧ Below w.heap.size w w' := by
 have B := Below.refl w.heap.size w
 have hs := Jh hn
 obtain ⟨s, hsq⟩ : ∃ s, sqN n = s := ⟨_, rfl⟩
 rw [hsq] at hs ⊢
 have HSQ := Lib.hid hsq
 have N1 := Lib.hid n1
 clear hsq n1
 go_enter Tryz.func155, Tryz.ntmps155
 go_upto_region 1 with fail
 refine wp_region_lit ?_
 refine zx 3 ?_
 refine wpList_nil ?_
 go_wp2
 go_loopw [5, 6, 7] (fun i j _ wr => ∃ p q : Nat, p ≤ s ∧ s ≤ q ∧ q ≤ 4194304 ∧ i = .int .i64 (p : Int) ∧ j = .int .i64 (q : Int) ∧ Below w.heap.size w wr) (fun i j _ _ => (intOf j - intOf i).toNat)
 case atStart => exact ⟨0, 4194304, by omega, by omega, Nat.le_refl _, rfl, rfl, B⟩
 case round =>
  clear B; obtain ⟨p, q, h1, h2, h3, rfl, rfl, B⟩ := hrel; have n1 := N1.out.of_eq (B.block _ N1.out.lt); by_cases hpq : p < q
  ·have q1 : decide ((p : Int) < (q : Int)) = true := decide_eq_true (by omega)
   have q2 : decide (p < q) = true := decide_eq_true hpq; by_cases hcut : (p + q) / 2 < s
   ·have hm : (p + q) / 2 ≤ 4194304 := by omega
    obtain ⟨m, hmm⟩ : ∃ m, (p + q) / 2 = m := ⟨_, rfl⟩; have HQ := Lib.hid (show decide (sqN n ≤ m) = false from by rw [HSQ.out, ← hmm]; exact decide_eq_false (by omega))
    have hmi : ((p : Int) + (q : Int)) / 2 = (m : Int) := by omega
    rw [hmm] at hm hcut; have hmq : m < q := by omega
    clear hmm; go_upto_region 2 with fail
    refine wp_region_lit ?_; refine zx 3 ?_; refine wpList_nil ?_; go_upto_region 3 with fail
    refine wp_region_lit ?_; refine zx 7 ?_; refine wpList_nil ?_; try rw [hmi]
    go_upto_region 4 with fail
    refine wp_region_lit ?_; refine zx 2 ?_; refine qG (by first | rfl | simp [Region.wanted, yielded]) rfl (by simp only [Act.eval, qI]; rfl) (enters_of Tryz.func156 (by kernel_rfl) rfl) (by simp only [Act.eval, qI]; rfl) ?_
    refine (zaK m n b false _ n1 hm HQ.out).mono ?_; rintro e wn ⟨rfl, za⟩; have zf := B.size; have zg := za.size; replace B := B.trans (za.mono B.size)
    (try replace n1 := n1.below za)
    refine ⟨_, rfl, ?_⟩; simp only [zn]; refine zx 1 ?_; refine wpList_nil ?_; go_upto_region 5 with fail
    refine wp_region_lit ?_; refine zx 3 ?_; refine wpList_nil ?_; go_wp2; go_roundw
    case rel => exact ⟨m + 1, q, by omega, h2, h3, by go_num, rfl, B⟩
    case measure => simp [intOf]; omega
   ·have hm : (p + q) / 2 ≤ 4194304 := by omega
    obtain ⟨m, hmm⟩ : ∃ m, (p + q) / 2 = m := ⟨_, rfl⟩; have HQ := Lib.hid (show decide (sqN n ≤ m) = true from by rw [HSQ.out, ← hmm]; exact decide_eq_true (by omega))
    have hmi : ((p : Int) + (q : Int)) / 2 = (m : Int) := by omega
    rw [hmm] at hm hcut; have hmq : p ≤ m ∧ m < q := by omega
    clear hmm; go_upto_region 2 with fail
    refine wp_region_lit ?_; refine zx 3 ?_; refine wpList_nil ?_; go_upto_region 3 with fail
    refine wp_region_lit ?_; refine zx 7 ?_; refine wpList_nil ?_; try rw [hmi]
    go_upto_region 4 with fail
    refine wp_region_lit ?_; refine zx 2 ?_; refine qG (by first | rfl | simp [Region.wanted, yielded]) rfl (by simp only [Act.eval, qI]; rfl) (enters_of Tryz.func156 (by kernel_rfl) rfl) (by simp only [Act.eval, qI]; rfl) ?_
    refine (zaK m n b true _ n1 hm HQ.out).mono ?_; rintro e wn ⟨rfl, za⟩; have zf := B.size; have zg := za.size; replace B := B.trans (za.mono B.size); refine ⟨_, rfl, ?_⟩; simp only [zn]; refine zx 1 ?_; refine wpList_nil ?_; go_upto_region 6 with fail
    refine wp_region_lit ?_; refine zx 2 ?_; refine wpList_nil ?_; go_wp2; go_roundw
    case rel => exact ⟨p, m, h1, by omega, by omega, rfl, rfl, B⟩
    case measure => simp [intOf]; omega
  ·obtain rfl : p = s := by omega
   obtain rfl : q = p := by omega
   go_wp2; go_ret; exact ⟨rfl, B⟩
theorem VB (a b : Sp) : uw a b = (((uw a b).toNat : Nat) : Int) := by
 have h : 0 ≤ uw a b := by
  have h1 := Yz (b.x - a.x); have h2 := Yz (b.y - a.y); unfold uw; omega
 omega
set_option maxHeartbeats 1000000 in
theorem Xy (a b : Sp) (t : Int) (w : World) (ha : Zl a) (hb : Zl b) (e : yu a b = t) : Calls Tryz.prog 107 #[.agg (qD.enc a), .agg (qD.enc b)] w fun e w' => e = .returned (.int .i64 t) ∧ Below w.heap.size w w' := by
 have B := Below.refl w.heap.size w
 obtain ⟨a1, a2, a3, a4, _, _⟩ := id ha
 obtain ⟨b1, b2, b3, b4, _, _⟩ := id hb
 have m1 := Zs (x := b.x - a.x) (m := 2097151) (by omega) (by omega)
 have m2 := Zs (x := b.y - a.y) (m := 2097151) (by omega) (by omega)
 have hq := JT ha hb
 have HN := Lib.hid (show (b.x - a.x) * (b.x - a.x) + (b.y - a.y) * (b.y - a.y) = (((uw a b).toNat : Nat) : Int) from VB a b)
 obtain ⟨n, hn⟩ : ∃ n, (uw a b).toNat = n := ⟨_, rfl⟩
 have HS := Lib.hid (show ((sqN n : Nat) : Int) = t from by rw [← e]; unfold yu; rw [hn])
 have hn2 : n < 17592186044416 := by omega
 rw [hn] at HN
 clear e ha hb hq hn
 go_enter Tryz.func107, Tryz.ntmps107
 go_upto_region 0 with fail
 refine wp_region_lit ?_
 (refine zt (t := 43) rfl _ rfl _ rfl (zV B ?_); clear B; intro b_r2 wn zb zd r2 za zf zk B; simp only [zn])
 (refine zt (t := 43) rfl _ rfl _ rfl (zV B ?_); clear B; intro b_r3 wn zb zd r3 za zf zk B; (try have zh := r2.lt); (try replace r2 := r2.below (za.mono zb)); simp only [zn])
 refine zx 1 ?_
 refine wpList_nil ?_
 go_upto_region 1 with fail
 try have lx_r2 := r2.lt
 try have lx_r3 := r3.lt
 refine zL 12 [] (by kernel_rfl) (by kernel_rfl) (by kernel_rfl) ?_
 rotate_left 0
 simp only [jU, Nat.reduceAdd]
 refine vC 12 ?_
 refine qz ?_
 intro wn za hE
 have zf := B.size
 have zg := za.size
 replace B := B.trans (za.mono B.size)
 clear hE
 try simp only [List.drop_succ_cons, List.drop_zero]
 refine zQ.normal ?_
 go_upto_region 2 with fail
 refine wp_region_lit ?_
 refine zx 7 ?_
 (refine zr (t := 3) rfl _ (Ys _ _ rfl) (zV B ?_); clear B; intro b_n7 wn zb zd n7 za zf zk B; (try have zh := r2.lt); (try have zh := r3.lt); simp only [zn])
 (refine jw (t := 3) rfl _ _ rfl _ 0 rfl _ rfl n7 rfl (qt B (by omega) ?_); clear n7 B; intro wn n7 ze zf zg B; simp only [zn])
 refine wpList_nil ?_
 replace n7 : zF 3 _ b_n7 #[.int .i64 ((b.x - a.x) * (b.x - a.x) + (b.y - a.y) * (b.y - a.y))] := n7
 rw [HN.out] at n7
 go_upto_region 3 with fail
 refine wp_region_lit ?_
 (refine zM rfl (.func (.func 156) #[] #[.pointer (some ⟨b_n7, 0, none⟩)]) (by first | rfl | simp [go_sem, Act.eval]) ?_; simp only [zn])
 refine qE (enters_of Tryz.func155 (by kernel_rfl) rfl) (c := YZ n b_n7 _ n7 hn2) (h := ?_)
 rintro e wn ⟨rfl, za⟩
 have zf := B.size
 have zg := za.size
 replace B := B.trans (za.mono B.size)
 refine ⟨_, rfl, ?_⟩
 simp only [zn]
 refine zx 1 ?_
 refine wpList_nil ?_
 go_wp2
 go_ret
 exact ⟨by (rw [HS.out]) <;> rfl, B⟩
set_option maxHeartbeats 1000000 in
theorem zaT (a b : Sp) (t : Int) (w : World) (ha : Zl a) (hb : Zl b) (e : yu a b = t) : Calls Tryz.prog 60 #[.agg (qD.enc a), .agg (qD.enc b)] w fun e w' => e = .returned (.int .i64 t) ∧ Below w.heap.size w w' := by
 have B := Below.refl w.heap.size w
 obtain ⟨a1, a2, a3, a4, _, _⟩ := id ha
 obtain ⟨b1, b2, b3, b4, _, _⟩ := id hb
 have m1 := Zs (x := b.x - a.x) (m := 2097151) (by omega) (by omega)
 have m2 := Zs (x := b.y - a.y) (m := 2097151) (by omega) (by omega)
 have hq := JT ha hb
 have HN := Lib.hid (show (b.x - a.x) * (b.x - a.x) + (b.y - a.y) * (b.y - a.y) = (((uw a b).toNat : Nat) : Int) from VB a b)
 obtain ⟨n, hn⟩ : ∃ n, (uw a b).toNat = n := ⟨_, rfl⟩
 have HS := Lib.hid (show ((sqN n : Nat) : Int) = t from by rw [← e]; unfold yu; rw [hn])
 have hn2 : n < 17592186044416 := by omega
 rw [hn] at HN
 have hs := Jh hn2
 obtain ⟨s, hsq⟩ : ∃ s, sqN n = s := ⟨_, rfl⟩
 rw [hsq] at hs HS
 have HSQ := Lib.hid hsq
 clear e ha hb hq hn hsq
 go_enter Tryz.func60, Tryz.ntmps60
 go_upto_region 0 with fail
 refine wp_region_lit ?_
 (refine zt (t := 43) rfl _ rfl _ rfl (zV B ?_); clear B; intro b_r2 wn zb zd r2 za zf zk B; simp only [zn])
 (refine zt (t := 43) rfl _ rfl _ rfl (zV B ?_); clear B; intro b_r3 wn zb zd r3 za zf zk B; (try have zh := r2.lt); (try replace r2 := r2.below (za.mono zb)); simp only [zn])
 refine zx 1 ?_
 refine wpList_nil ?_
 go_upto_region 1 with fail
 refine wp_region_lit ?_
 refine zx 24 ?_
 refine wpList_nil ?_
 rw [HN.out]
 clear r2 r3
 go_wp2
 go_loopw [6, 7, 8] (fun i j _ wr => ∃ p q : Nat, p ≤ s ∧ s ≤ q ∧ q ≤ 4194304 ∧ i = .int .i64 (p : Int) ∧ j = .int .i64 (q : Int) ∧ Below w.heap.size w wr) (fun i j _ _ => (intOf j - intOf i).toNat)
 case atStart => exact ⟨0, 4194304, by omega, by omega, Nat.le_refl _, rfl, rfl, B⟩
 case round =>
  clear B; obtain ⟨p, q, h1, h2, h3, rfl, rfl, B⟩ := hrel; by_cases hpq : p < q
  ·have q1 : decide ((p : Int) < (q : Int)) = true := decide_eq_true (by omega)
   have q2 : decide (p < q) = true := decide_eq_true hpq; obtain ⟨m, hmm⟩ : ∃ m, (p + q + 1) / 2 = m := ⟨_, rfl⟩; have hmi : ((p : Int) + (q : Int) + 1) / 2 = (m : Int) := by omega
   have hmb : p < m ∧ m ≤ q ∧ 1 ≤ m := by omega
   have mm := jL (a := (m : Int)) (b := (m : Int)) (m := 4194304) (k := 4194304) (by omega) (by omega) (by omega) (by omega); have zb : ((m : Int) * (m : Int) ≤ (n : Int)) ↔ m ≤ s := by
    rw [← HSQ.out, Kj, ← Int.natCast_mul]; omega
   clear hmm; by_cases hcut : m ≤ s
   ·have q3 : decide ((m : Int) * (m : Int) ≤ (n : Int)) = true := decide_eq_true (by rw [zb]; exact hcut)
    clear zb; go_upto_region 4 with fail
    refine wp_region_lit ?_; refine zx 3 ?_; refine wpList_nil ?_; go_upto_region 5 with fail
    refine wp_region_lit ?_; refine zx 6 ?_; refine wpList_nil ?_; try rw [hmi]
    go_upto_region 6 with fail
    refine wp_region_lit ?_; refine zx 5 ?_; refine wpList_nil ?_; go_upto_region 7 with fail
    refine wp_region_lit ?_; refine zx 2 ?_; refine wpList_nil ?_; go_wp2; go_roundw
    case rel => exact ⟨m, q, hcut, h2, h3, rfl, rfl, B⟩
    case measure => simp [intOf]; omega
   ·have q3 : decide ((m : Int) * (m : Int) ≤ (n : Int)) = false := decide_eq_false (by rw [zb]; exact hcut)
    clear zb; go_upto_region 4 with fail
    refine wp_region_lit ?_; refine zx 3 ?_; refine wpList_nil ?_; go_upto_region 5 with fail
    refine wp_region_lit ?_; refine zx 6 ?_; refine wpList_nil ?_; try rw [hmi]
    go_upto_region 6 with fail
    refine wp_region_lit ?_; refine zx 5 ?_; refine wpList_nil ?_; go_upto_region 8 with fail
    refine wp_region_lit ?_; refine zx 3 ?_; refine wpList_nil ?_; go_wp2; go_roundw
    case rel => exact ⟨p, m - 1, h1, by omega, by omega, rfl, by go_num, B⟩
    case measure => simp [intOf]; omega
  ·obtain rfl : p = s := by omega
   obtain rfl : q = p := by omega
   go_wp2; go_ret; exact ⟨by (rw [← HS.out]) <;> rfl, B⟩
/-! ### total -/
theorem Yd {l : List Sp} {k : Nat} {s t u : Int} (h : qi l k = s) (ht : yu (qR l k) (qR l (k + 1)) = t) (hu : s + t = u) : qi l (k + 1) = u := by
 show qi l k + yu (qR l k) (qR l (k + 1)) = u
 rw [h, ht, hu]
set_option maxHeartbeats 1000000 in
theorem Va (v : Value) (l : List Sp) (t : Int) (w : World) (rs : jF qD v l w) (hn : l.length ≤ 64) (hok : ∀ a ∈ l, Zl a) (e : jI l = t) : Calls Tryz.prog 54 #[v] w fun e w' => e = .returned (.int .i64 t) ∧ Below w.heap.size w w' := by
 have B := Below.refl w.heap.size w
 obtain ⟨a, c, rfl, hc⟩ := rs.len
 have HS := Lib.hid rs
 have HOK := Lib.hid hok
 have HE := Lib.hid e
 clear rs hok e
 go_enter Tryz.func54, Tryz.ntmps54
 go_upto_region 2 with fail
 refine wp_region_lit ?_
 refine zx 1 ?_
 refine wpList_nil ?_
 go_wp2
 go_loopw [3, 4] (fun sv iv wr => ∃ (k : Nat) (s : Int), (k = 0 ∨ k < l.length) ∧ Hid (qi l k = s) ∧ sv = .int .i64 s ∧ iv = .int .i64 ((k : Int) + 1) ∧ Below w.heap.size w wr) (fun _ iv _ => (l.length - intOf iv).toNat)
 case atStart => exact ⟨0, 0, .inl rfl, Lib.hid rfl, rfl, rfl, B⟩
 case round =>
  clear B; obtain ⟨k, s, hk, HP, rfl, rfl, B⟩ := hrel; by_cases hkl : k + 1 < l.length
  ·have q1 : decide ((k : Int) + 1 < (l.length : Int)) = true := decide_eq_true (by omega)
   have q2 : decide (k + 1 < l.length) = true := decide_eq_true hkl; obtain ⟨g, o, rfl, pc0⟩ := HS.out.at (by omega); have pc := pc0.of_eq (B.block _ pc0.lt); clear pc0; have hk0 : k < l.length := by omega
   have q3 : decide (k < l.length) = true := decide_eq_true hk0; have hp := qW hk0; have hp2 := qW hkl; have A1 := Lib.hid (HOK.out _ (List.mem_of_getElem? hp)); have A2 := Lib.hid (HOK.out _ (List.mem_of_getElem? hp2)); obtain ⟨t2, ht2⟩ : ∃ t, yu (qR l k) (qR l (k + 1)) = t := ⟨_, rfl⟩; have bd1 := wl HOK.out k (.inl hk0); have bd0 := kR l k; have bd2 := ZK A1.out A2.out; have bd3 := uu (qR l k) (qR l (k + 1)); rw [HP.out] at bd1 bd0; rw [ht2] at bd2 bd3; have HST := Lib.hid (Yd HP.out ht2 rfl); have HT2 := Lib.hid ht2; have hkb : (k : Int) < 64 := by omega
   clear ht2
   generalize hx1 : qR l k = x1 at *
   generalize hx2 : qR l (k + 1) = x2 at *
   clear hx1 hx2; go_upto_region 3 with fail
   refine wp_region_lit ?_; refine zx 2 ?_; refine zw (by first | rfl | simp [Region.wanted, yielded]) rfl Tryz.underlying26 rfl ?_; simp only [zn]; refine zx 1 ?_; refine wpList_nil ?_; go_upto_region 5 with fail
   try have lx_pc := pc.lt
   refine zL 13 [(10, zP ?v2_10)] (by kernel_rfl) (by kernel_rfl) (by kernel_rfl) ?_
   rotate_left 1
   simp only [jU, Nat.reduceAdd]; refine ug 10 ?_; repeat (first | go_big_quiet_skip | (go_big_quiet_want; first | ((first | refine zo (t := 43) rfl _ _ _ rfl (fun w hw => (jt pc w hw).load Tryz.isAgg43 hp) (by first | rfl | omega) ?_ | refine zo (t := 43) rfl _ _ _ rfl (fun w hw => (jt pc w hw).load Tryz.isAgg43 hp2) (by first | rfl | omega) ?_ | refine qB ?_ | refine qC ?_); simp only [zn]; go_big_quiet_on) | (go_big_quiet_op; go_big_quiet_on)))
   refine wpQuiet_nil ?_; refine zz (by rfl) (by first | rfl | simp [Region.wanted, yielded]) ?_ ?_
   ·intro wn za hE Kx hKx
    have zf := B.size; have zg := za.size; replace B := B.trans (za.mono B.size); refine zS rfl (enters_of Tryz.func107 (by kernel_rfl) rfl) (by simp only [Act.eval, qI]; rfl) ?_
    refine (Xy x1 x2 t2 wn A1.out A2.out HT2.out).mono ?_; rintro e wm ⟨rfl, zl⟩; refine ⟨_, rfl, ?_⟩; have hz := hKx () wm trivial zl
    dsimp only [zP] at hz
    exact hz
   rintro ⟨⟩
   dsimp only [zP]
   simp only [zn]; refine vC 2 ?_; refine qz ?_; intro wn za hE; have zf := B.size; have zg := za.size; replace B := B.trans (za.mono B.size); clear hE; try simp only [List.drop_succ_cons, List.drop_zero]
   refine zQ.normal ?_; go_upto_region 4 with fail
   refine wp_region_lit ?_; refine zx 3 ?_; refine wpList_nil ?_; go_wp2; go_roundw
   case rel => exact ⟨k + 1, s + t2, .inr hkl, HST, rfl, by go_num, B⟩
   case measure => simp [intOf]; omega
  ·have q1 : decide ((k : Int) + 1 < (l.length : Int)) = false := decide_eq_false (by omega)
   have q2 : decide (k + 1 < l.length) = false := decide_eq_false hkl; have HF := Lib.hid (show s = t from by
    rw [← HE.out, ← HP.out]; unfold jI
    congr 1
    omega)
   go_upto_region 3 with fail
   refine wp_region_lit ?_; refine zx 2 ?_; refine zw (by first | rfl | simp [Region.wanted, yielded]) rfl Tryz.underlying26 rfl ?_; simp only [zn]; refine zx 1 ?_; refine wpList_nil ?_; go_wp2; go_ret; exact ⟨by (rw [HF.out]) <;> rfl, B⟩
set_option maxHeartbeats 1000000 in
theorem Vb (v : Value) (l : List Sp) (t : Int) (w : World) (rs : jF qD v l w) (hn : l.length ≤ 64) (hok : ∀ a ∈ l, Zl a) (e : jI l = t) : Calls Tryz.prog 56 #[v] w fun e w' => e = .returned (.int .i64 t) ∧ Below w.heap.size w w' := by
 have B := Below.refl w.heap.size w
 obtain ⟨a, c, rfl, hc⟩ := rs.len
 have HS := Lib.hid rs
 have HOK := Lib.hid hok
 have HE := Lib.hid e
 clear rs hok e
 go_enter Tryz.func56, Tryz.ntmps56
 go_upto_region 2 with fail
 refine wp_region_lit ?_
 refine zx 1 ?_
 refine wpList_nil ?_
 go_wp2
 go_loopw [3, 4] (fun sv iv wr => ∃ (k : Nat) (s : Int), (k = 0 ∨ k < l.length) ∧ Hid (qi l k = s) ∧ sv = .int .i64 s ∧ iv = .int .i64 ((k : Int) + 1) ∧ Below w.heap.size w wr) (fun _ iv _ => (l.length - intOf iv).toNat)
 case atStart => exact ⟨0, 0, .inl rfl, Lib.hid rfl, rfl, rfl, B⟩
 case round =>
  clear B; obtain ⟨k, s, hk, HP, rfl, rfl, B⟩ := hrel; by_cases hkl : k + 1 < l.length
  ·have q1 : decide ((k : Int) + 1 < (l.length : Int)) = true := decide_eq_true (by omega)
   have q2 : decide (k + 1 < l.length) = true := decide_eq_true hkl; obtain ⟨g, o, rfl, pc0⟩ := HS.out.at (by omega); have pc := pc0.of_eq (B.block _ pc0.lt); clear pc0; have hk0 : k < l.length := by omega
   have q3 : decide (k < l.length) = true := decide_eq_true hk0; have hp := qW hk0; have hp2 := qW hkl; have A1 := Lib.hid (HOK.out _ (List.mem_of_getElem? hp)); have A2 := Lib.hid (HOK.out _ (List.mem_of_getElem? hp2)); obtain ⟨t2, ht2⟩ : ∃ t, yu (qR l k) (qR l (k + 1)) = t := ⟨_, rfl⟩; have bd1 := wl HOK.out k (.inl hk0); have bd0 := kR l k; have bd2 := ZK A1.out A2.out; have bd3 := uu (qR l k) (qR l (k + 1)); rw [HP.out] at bd1 bd0; rw [ht2] at bd2 bd3; have HST := Lib.hid (Yd HP.out ht2 rfl); have HT2 := Lib.hid ht2; have hkb : (k : Int) < 64 := by omega
   clear ht2
   generalize hx1 : qR l k = x1 at *
   generalize hx2 : qR l (k + 1) = x2 at *
   clear hx1 hx2; go_upto_region 3 with fail
   refine wp_region_lit ?_; refine zx 2 ?_; refine zw (by first | rfl | simp [Region.wanted, yielded]) rfl Tryz.underlying26 rfl ?_; simp only [zn]; refine zx 1 ?_; refine wpList_nil ?_; go_upto_region 5 with fail
   try have lx_pc := pc.lt
   refine zL 13 [(10, zP ?v3_10)] (by kernel_rfl) (by kernel_rfl) (by kernel_rfl) ?_
   rotate_left 1
   simp only [jU, Nat.reduceAdd]; refine ug 10 ?_; repeat (first | go_big_quiet_skip | (go_big_quiet_want; first | ((first | refine zo (t := 43) rfl _ _ _ rfl (fun w hw => (jt pc w hw).load Tryz.isAgg43 hp) (by first | rfl | omega) ?_ | refine zo (t := 43) rfl _ _ _ rfl (fun w hw => (jt pc w hw).load Tryz.isAgg43 hp2) (by first | rfl | omega) ?_ | refine qB ?_ | refine qC ?_); simp only [zn]; go_big_quiet_on) | (go_big_quiet_op; go_big_quiet_on)))
   refine wpQuiet_nil ?_; refine zz (by rfl) (by first | rfl | simp [Region.wanted, yielded]) ?_ ?_
   ·intro wn za hE Kx hKx
    have zf := B.size; have zg := za.size; replace B := B.trans (za.mono B.size); refine zS rfl (enters_of Tryz.func60 (by kernel_rfl) rfl) (by simp only [Act.eval, qI]; rfl) ?_
    refine (zaT x1 x2 t2 wn A1.out A2.out HT2.out).mono ?_; rintro e wm ⟨rfl, zl⟩; refine ⟨_, rfl, ?_⟩; have hz := hKx () wm trivial zl
    dsimp only [zP] at hz
    exact hz
   rintro ⟨⟩
   dsimp only [zP]
   simp only [zn]; refine vC 2 ?_; refine qz ?_; intro wn za hE; have zf := B.size; have zg := za.size; replace B := B.trans (za.mono B.size); clear hE; try simp only [List.drop_succ_cons, List.drop_zero]
   refine zQ.normal ?_; go_upto_region 4 with fail
   refine wp_region_lit ?_; refine zx 3 ?_; refine wpList_nil ?_; go_wp2; go_roundw
   case rel => exact ⟨k + 1, s + t2, .inr hkl, HST, rfl, by go_num, B⟩
   case measure => simp [intOf]; omega
  ·have q1 : decide ((k : Int) + 1 < (l.length : Int)) = false := decide_eq_false (by omega)
   have q2 : decide (k + 1 < l.length) = false := decide_eq_false hkl; have HF := Lib.hid (show s = t from by
    rw [← HE.out, ← HP.out]; unfold jI
    congr 1
    omega)
   go_upto_region 3 with fail
   refine wp_region_lit ?_; refine zx 2 ?_; refine zw (by first | rfl | simp [Region.wanted, yielded]) rfl Tryz.underlying26 rfl ?_; simp only [zn]; refine zx 1 ?_; refine wpList_nil ?_; go_wp2; go_ret; exact ⟨by (rw [HF.out]) <;> rfl, B⟩
/- Contracts of Valid of package stroke and of its reference. -/
def wW (a : Sp) : Bool := !decide (Zl a)
theorem Y7 (a : Sp) : wW a = (!wF a.x || (!wF a.y || (decide (a.p < 0) || decide (255 < a.p)))) := by
 have h1 : wW a = true ↔ ¬ Zl a := by unfold wW; rw [Bool.not_eq_true', decide_eq_false_iff_not]
 have h2 : ∀ x, (!wF x) = true ↔ ¬ (-1048576 ≤ x ∧ x ≤ 1048575) := fun x => by unfold wF; rw [Bool.not_eq_true', decide_eq_false_iff_not]
 rw [Bool.eq_iff_iff, h1, Bool.or_eq_true, Bool.or_eq_true, Bool.or_eq_true, h2, h2, decide_eq_true_iff, decide_eq_true_iff]
 unfold Zl
 omega
def idxS (l : List Sp) : Nat := l.findIdx wW
theorem ut (l : List Sp) : idxS l ≤ l.length := List.findIdx_le_length
theorem JL {l : List Sp} {k : Nat} (h : k < idxS l) : wW (qR l k) = false := by
 have hk : k < l.length := Nat.lt_of_lt_of_le h (ut l)
 have := List.not_of_lt_findIdx (p := wW) (xs := l) h
 have e := qW hk
 rw [List.getElem?_eq_getElem hk] at e
 rw [← Option.some.inj e]
 simpa using this
theorem JK {l : List Sp} (h : idxS l < l.length) : wW (qR l (idxS l)) = true := by
 have := List.findIdx_getElem (p := wW) (xs := l) (w := h)
 have e := qW h
 rw [List.getElem?_eq_getElem h] at e
 rw [← Option.some.inj e]
 exact this
theorem zbH (l : List Sp) : vm l = true ↔ idxS l = l.length := by
 unfold vm
 rw [decide_eq_true_iff]
 constructor
 ·intro h
  rcases Nat.lt_or_ge (idxS l) l.length with k | k
  ·have h1 := JK k
   unfold wW at h1; rw [decide_eq_true (h _ (List.mem_of_getElem? (qW k)))] at h1; cases h1
  ·have := ut l
   omega
 ·intro h a ha
  obtain ⟨k, hk⟩ := List.mem_iff_getElem?.1 ha; have hkl : k < l.length := (List.getElem?_eq_some_iff.1 hk).1; have h1 := JL (l := l) (k := k) (by omega); rw [qW hkl] at hk; obtain rfl := Option.some.inj hk; unfold wW at h1
  simpa using h1
/-! ### One point -/
set_option maxHeartbeats 1000000 in
theorem zdR (a : Sp) (b : Bool) (w : World) (e : wW a = b) : Calls Tryz.prog 52 #[.agg (qD.enc a)] w fun e w' => e = .returned (.bool b) ∧ Below w.heap.size w w' := by
 have B := Below.refl w.heap.size w
 rw [Y7] at e
 obtain ⟨i1, hi1⟩ : ∃ i, wF a.x = i := ⟨_, rfl⟩
 obtain ⟨i2, hi2⟩ : ∃ i, wF a.y = i := ⟨_, rfl⟩
 obtain ⟨i3, hi3⟩ : ∃ i, decide (a.p < 0) = i := ⟨_, rfl⟩
 obtain ⟨i4, hi4⟩ : ∃ i, decide (255 < a.p) = i := ⟨_, rfl⟩
 rw [hi1, hi2, hi3, hi4] at e
 have H1 := Lib.hid hi1
 have H2 := Lib.hid hi2
 clear hi1 hi2
 cases i1 with
 | false =>
  obtain rfl : b = true := by rw [← e]; rfl
  clear e; go_enter Tryz.func52, Tryz.ntmps52
  go_upto_region 0 with fail
  refine wp_region_lit ?_
  (refine zt (t := 43) rfl _ rfl _ rfl (zV B ?_); clear B; intro b_r1 wn zb zd r1 za zf zk B; simp only [zn])
  refine zx 1 ?_; refine wpList_nil ?_; go_upto_region 1 with fail
  refine wp_region_lit ?_; refine zx 2 ?_
  refine qE (enters_of Tryz.func53 (by kernel_rfl) rfl) (c := yB a.x false _ H1.out) (h := ?_); rintro e wn ⟨rfl, za⟩; have zf := B.size; have zg := za.size; replace B := B.trans (za.mono B.size)
  (try replace r1 := r1.below za)
  refine ⟨_, rfl, ?_⟩; simp only [zn]; refine zx 4 ?_
  refine zH ?hs2_7 ?_
  case hs2_7 => kernel_rfl
  simp only [zn]; refine zx 13 ?_
  refine wpList_nil ?_; go_wp2; go_ret; exact ⟨rfl, B⟩
 | true =>
  cases i2 with
  | false =>
   obtain rfl : b = true := by rw [← e]; rfl
   clear e; go_enter Tryz.func52, Tryz.ntmps52
   go_upto_region 0 with fail
   refine wp_region_lit ?_
   (refine zt (t := 43) rfl _ rfl _ rfl (zV B ?_); clear B; intro b_r1 wn zb zd r1 za zf zk B; (try have zh := r1.lt); (try replace r1 := r1.below (za.mono zb)); simp only [zn])
   refine zx 1 ?_; refine wpList_nil ?_; go_upto_region 1 with fail
   refine wp_region_lit ?_; refine zx 2 ?_
   refine qE (enters_of Tryz.func53 (by kernel_rfl) rfl) (c := yB a.x true _ H1.out) (h := ?_); rintro e wn ⟨rfl, za⟩; have zf := B.size; have zg := za.size; replace B := B.trans (za.mono B.size)
   (try replace r1 := r1.below za)
   refine ⟨_, rfl, ?_⟩; simp only [zn]; refine zx 4 ?_
   refine qE (enters_of Tryz.func53 (by kernel_rfl) rfl) (c := yB a.y false _ H2.out) (h := ?_); rintro e wn ⟨rfl, za⟩; have zf := B.size; have zg := za.size; replace B := B.trans (za.mono B.size)
   (try replace r1 := r1.below za)
   refine ⟨_, rfl, ?_⟩; simp only [zn]; refine zx 13 ?_
   refine wpList_nil ?_; go_wp2; go_ret; exact ⟨rfl, B⟩
  | true =>
   obtain rfl : b = (i3 || i4) := by rw [← e]; cases i3 <;> cases i4 <;> rfl
   clear e; cases i3 <;> cases i4 <;> (
    go_enter Tryz.func52, Tryz.ntmps52
    go_upto_region 0 with fail
    refine wp_region_lit ?_
    (refine zt (t := 43) rfl _ rfl _ rfl (zV B ?_); clear B; intro b_r1 wn zb zd r1 za zf zk B; (try have zh := r1.lt); (try replace r1 := r1.below (za.mono zb)); simp only [zn])
    refine zx 1 ?_; refine wpList_nil ?_; go_upto_region 1 with fail
    refine wp_region_lit ?_; refine zx 2 ?_
    refine qE (enters_of Tryz.func53 (by kernel_rfl) rfl) (c := yB a.x true _ H1.out) (h := ?_); rintro e wn ⟨rfl, za⟩; have zf := B.size; have zg := za.size; replace B := B.trans (za.mono B.size)
    (try replace r1 := r1.below za)
    refine ⟨_, rfl, ?_⟩; simp only [zn]; refine zx 4 ?_
    refine qE (enters_of Tryz.func53 (by kernel_rfl) rfl) (c := yB a.y true _ H2.out) (h := ?_); rintro e wn ⟨rfl, za⟩; have zf := B.size; have zg := za.size; replace B := B.trans (za.mono B.size)
    (try replace r1 := r1.below za)
    refine ⟨_, rfl, ?_⟩; simp only [zn]; refine zx 13 ?_
    refine wpList_nil ?_; go_wp2; go_ret; exact ⟨rfl, B⟩)
set_option maxHeartbeats 1000000 in
theorem Xq (v : Value) (l : List Sp) (r : Int) (w : World) (rs : jF qD v l w) (hn : l.length ≤ 17592186044416) (e : (if idxS l < l.length then (idxS l : Int) else -1) = r) : Calls Tryz.prog 106 #[v, .func (.func 52) #[] #[]] w fun e w' => e = .returned (.int .i64 r) ∧ Below w.heap.size w w' := by
 have B := Below.refl w.heap.size w
 obtain ⟨a, c, rfl, hc⟩ := rs.len
 have HS := Lib.hid rs
 have zb := ut l
 obtain ⟨m, hm⟩ : ∃ m, idxS l = m := ⟨_, rfl⟩
 have HLT := Lib.hid (fun k (h : k < idxS l) => JL h)
 have HAT := Lib.hid (fun (h : idxS l < l.length) => JK h)
 rw [hm] at zb e HLT HAT
 have HE := Lib.hid e
 clear rs e hm
 go_enter Tryz.func106, Tryz.ntmps106
 go_upto_region 1 with fail
 refine wp_region_lit ?_
 refine zx 1 ?_
 refine zw (by first | rfl | simp [Region.wanted, yielded]) rfl Tryz.underlying26 rfl ?_
 simp only [zn]
 refine zx 1 ?_
 refine wpList_nil ?_
 go_wp2
 go_loopw [5, 8] (fun _ iv wr => ∃ k : Nat, k ≤ m ∧ iv = .int .i64 (k : Int) ∧ Below w.heap.size w wr) (fun _ iv _ => (l.length - intOf iv).toNat)
 case atStart => exact ⟨0, by omega, rfl, B⟩
 case round =>
  clear B; obtain ⟨k, hk, rfl, B⟩ := hrel; by_cases hkl : k < l.length
  ·have q1 : decide ((k : Int) < (l.length : Int)) = true := decide_eq_true (by omega)
   have q2 : decide (k < l.length) = true := decide_eq_true hkl; obtain ⟨g, o, rfl, pc0⟩ := HS.out.at (by omega); have pc := pc0.of_eq (B.block _ pc0.lt); clear pc0; have hp := qW hkl; by_cases hki : k < m
   ·have HB := Lib.hid (show wW (qR l k) = false from HLT.out k hki)
    generalize hx1 : qR l k = x1 at *
    clear hx1; go_upto_region 2 with fail
    refine wp_region_lit ?_; refine zx 1 ?_; refine wpList_nil ?_; go_upto_region 3 with fail
    refine wp_region_lit ?_; refine zx 2 ?_; refine wpList_nil ?_; go_upto_region 4 with fail
    refine wp_region_lit ?_; refine jG 5 ?_; repeat (first | go_big_quiet_skip | (go_big_quiet_want; first | ((first | refine zo (t := 43) rfl _ _ _ rfl (fun w hw => (jt pc w hw).load Tryz.isAgg43 hp) (by first | rfl | omega) ?_ | refine qB ?_ | refine qC ?_); simp only [zn]; go_big_quiet_on) | (go_big_quiet_op; go_big_quiet_on)))
    refine wpQuiet_nil ?_; refine qG (by first | rfl | simp [Region.wanted, yielded]) rfl (by simp only [Act.eval, qI]; rfl) (enters_of Tryz.func52 (by kernel_rfl) rfl) (by simp only [Act.eval, qI]; rfl) ?_
    refine (zdR x1 false _ HB.out).mono ?_; rintro e wn ⟨rfl, za⟩; have zf := B.size; have zg := za.size; replace B := B.trans (za.mono B.size)
    (try replace pc := pc.below za)
    refine ⟨_, rfl, ?_⟩; simp only [zn]; refine wpList_nil ?_; go_upto_region 6 with fail
    refine wp_region_lit ?_; refine zx 2 ?_; refine wpList_nil ?_; go_wp2; go_roundw
    case rel => exact ⟨k + 1, by omega, by go_num, B⟩
    case measure => simp [intOf]; omega
   ·have HB := Lib.hid (show wW (qR l k) = true from by rw [show k = m by omega]; exact HAT.out (by omega))
    generalize hx1 : qR l k = x1 at *
    clear hx1; go_upto_region 2 with fail
    refine wp_region_lit ?_; refine zx 1 ?_; refine wpList_nil ?_; go_upto_region 3 with fail
    refine wp_region_lit ?_; refine zx 2 ?_; refine wpList_nil ?_; go_upto_region 4 with fail
    refine wp_region_lit ?_; refine jG 5 ?_; repeat (first | go_big_quiet_skip | (go_big_quiet_want; first | ((first | refine zo (t := 43) rfl _ _ _ rfl (fun w hw => (jt pc w hw).load Tryz.isAgg43 hp) (by first | rfl | omega) ?_ | refine qB ?_ | refine qC ?_); simp only [zn]; go_big_quiet_on) | (go_big_quiet_op; go_big_quiet_on)))
    refine wpQuiet_nil ?_; refine qG (by first | rfl | simp [Region.wanted, yielded]) rfl (by simp only [Act.eval, qI]; rfl) (enters_of Tryz.func52 (by kernel_rfl) rfl) (by simp only [Act.eval, qI]; rfl) ?_
    refine (zdR x1 true _ HB.out).mono ?_; rintro e wn ⟨rfl, za⟩; have zf := B.size; have zg := za.size; replace B := B.trans (za.mono B.size); refine ⟨_, rfl, ?_⟩; simp only [zn]; refine wpList_nil ?_; go_upto_region 5 with fail
    refine wp_region_lit ?_; refine zx 2 ?_; refine wpList_nil ?_; go_wp2; go_ret; exact ⟨by (rw [← HE.out, if_pos (by omega), show k = m by omega]) <;> rfl, B⟩
  ·have q1 : decide ((k : Int) < (l.length : Int)) = false := decide_eq_false (by omega)
   have q2 : decide (k < l.length) = false := decide_eq_false hkl; go_upto_region 2 with fail
   refine wp_region_lit ?_; refine zx 1 ?_; refine wpList_nil ?_; go_upto_region 7 with fail
   refine wp_region_lit ?_; refine zx 1 ?_; refine wpList_nil ?_; go_wp2; go_ret; exact ⟨by (rw [← HE.out, if_neg (by omega)]) <;> rfl, B⟩
theorem Ze (v : Value) (l : List Sp) (b : Bool) (w : World) (rs : jF qD v l w) (hn : l.length ≤ 17592186044416) (e : vm l = !b) : Calls Tryz.prog 51 #[v, .func (.func 52) #[] #[]] w fun e w' => e = .returned (.bool b) ∧ Below w.heap.size w w' := by
 have B := Below.refl w.heap.size w
 have zb := ut l
 have hi := zbH l
 cases b with
 | true =>
  have HE := Lib.hid (show (if idxS l < l.length then (idxS l : Int) else -1) = (idxS l : Int) from if_pos (by rw [e] at hi; have h3 : ¬ idxS l = l.length := (fun k => by have := hi.2 k; cases this); omega))
  have q1 : decide ((0 : Int) ≤ (idxS l : Int)) = true := decide_eq_true (by omega); clear hi e; go_enter Tryz.func51, Tryz.ntmps51
  go_upto_region 1 with fail
  refine wp_region_lit ?_; refine zx 2 ?_; refine qE (enters_of Tryz.func106 (by kernel_rfl) rfl) (c := Xq _ l (idxS l : Int) _ rs hn HE.out) (h := ?_); rintro e wn ⟨rfl, za⟩; have zf := B.size; have zg := za.size; replace B := B.trans (za.mono B.size); refine ⟨_, rfl, ?_⟩; simp only [zn]; refine zx 2 ?_; refine wpList_nil ?_; go_wp2; go_ret; exact ⟨by first | rfl | simp, B⟩
 | false =>
  have HE := Lib.hid (show (if idxS l < l.length then (idxS l : Int) else -1) = -1 from if_neg (by rw [e] at hi; have := hi.1 rfl; omega))
  have q1 : decide ((0 : Int) ≤ -1) = false := decide_eq_false (by omega); clear hi e; go_enter Tryz.func51, Tryz.ntmps51
  go_upto_region 1 with fail
  refine wp_region_lit ?_; refine zx 2 ?_; refine qE (enters_of Tryz.func106 (by kernel_rfl) rfl) (c := Xq _ l (-1) _ rs hn HE.out) (h := ?_); rintro e wn ⟨rfl, za⟩; have zf := B.size; have zg := za.size; replace B := B.trans (za.mono B.size); refine ⟨_, rfl, ?_⟩; simp only [zn]; refine zx 2 ?_; refine wpList_nil ?_; go_wp2; go_ret; exact ⟨by first | rfl | simp, B⟩
/-! ### Valid -/
theorem xx {s : qv} (h : (s.pts.length : Int) < 1 ∨ 64 < (s.pts.length : Int) ∨ s.rad < 1 ∨ 256 < s.rad ∨ s.spa < 1 ∨ 4096 < s.spa ∨ s.pha < 0 ∨ 1048575 < s.pha) : qM s = false := by
 unfold qM zdr
 rw [decide_eq_false (by omega)]
 rfl
theorem VC {s : qv} (h : ¬ ((s.pts.length : Int) < 1 ∨ 64 < (s.pts.length : Int) ∨ s.rad < 1 ∨ 256 < s.rad ∨ s.spa < 1 ∨ 4096 < s.spa ∨ s.pha < 0 ∨ 1048575 < s.pha)) : qM s = (vm s.pts && decide (jI s.pts - s.pha ≤ 1024 * s.spa)) := by
 unfold qM zdr
 rw [decide_eq_true (by omega)]
 rfl
theorem Q9 {l : List Sp} (h : vm l = true) : ∀ a ∈ l, Zl a := of_decide_eq_true h
set_option maxHeartbeats 2000000 in
theorem jh (v : Value) (s : qv) (b : Bool) (w : World) (rs : jF qD v s.pts w) (hn : s.pts.length ≤ 17592186044416) (e : qM s = b) : Calls Tryz.prog 16 #[.agg (qw v s)] w fun e w' => e = .returned (.bool b) ∧ Below w.heap.size w w' := by
 have B := Below.refl w.heap.size w
 obtain ⟨a, c, rfl, hc⟩ := rs.len
 by_cases h0 : (s.pts.length : Int) < 1
 ·have q0 : decide ((s.pts.length : Int) < 1) = true := decide_eq_true h0
  have p0 : decide (s.pts.length < 1) = true := decide_eq_true (by omega); obtain rfl : b = false := by rw [← e]; exact xx (by omega)
  clear e; go_enter Tryz.func16, Tryz.ntmps16
  go_upto_region 0 with fail
  refine wp_region_lit ?_
  (refine zt (t := 30) rfl _ rfl _ rfl (zV B ?_); clear B; intro b_r1 wn zb zd r1 za zf zk B; (try have zh := rs.lt); (try replace rs := rs.below (za.mono zb)); simp only [zn])
  refine zx 1 ?_; refine wpList_nil ?_; go_upto_region 1 with fail
  refine wp_region_lit ?_; refine zx 2 ?_
  refine zw (by first | rfl | simp [Region.wanted, yielded]) rfl Tryz.underlying26 rfl ?_; simp only [zn]; refine zx 4 ?_
  refine zH ?hs21_7 ?_
  case hs21_7 => kernel_rfl
  simp only [zn]; refine zx 32 ?_
  refine wpList_nil ?_; go_upto_region 2 with fail
  refine wp_region_lit ?_; refine zx 1 ?_; refine wpList_nil ?_; go_wp2; go_ret; exact ⟨rfl, B⟩
 ·by_cases h1 : 64 < (s.pts.length : Int)
  ·have q0 : decide ((s.pts.length : Int) < 1) = false := decide_eq_false h0
   have q1 : decide (64 < (s.pts.length : Int)) = true := decide_eq_true h1; have p0 : decide (s.pts.length < 1) = false := decide_eq_false (by omega); have p1 : decide (64 < s.pts.length) = true := decide_eq_true (by omega); obtain rfl : b = false := by rw [← e]; exact xx (by omega)
   clear e; go_enter Tryz.func16, Tryz.ntmps16
   go_upto_region 0 with fail
   refine wp_region_lit ?_
   (refine zt (t := 30) rfl _ rfl _ rfl (zV B ?_); clear B; intro b_r1 wn zb zd r1 za zf zk B; (try have zh := r1.lt); (try replace r1 := r1.below (za.mono zb)); (try have zh := rs.lt); (try replace rs := rs.below (za.mono zb)); simp only [zn])
   refine zx 1 ?_; refine wpList_nil ?_; go_upto_region 1 with fail
   refine wp_region_lit ?_; refine zx 2 ?_
   refine zw (by first | rfl | simp [Region.wanted, yielded]) rfl Tryz.underlying26 rfl ?_; simp only [zn]; refine zx 4 ?_
   refine zw (by first | rfl | simp [Region.wanted, yielded]) rfl Tryz.underlying26 rfl ?_; simp only [zn]; refine zx 32 ?_
   refine wpList_nil ?_; go_upto_region 2 with fail
   refine wp_region_lit ?_; refine zx 1 ?_; refine wpList_nil ?_; go_wp2; go_ret; exact ⟨rfl, B⟩
  ·by_cases h2 : s.rad < 1
   ·have q0 : decide ((s.pts.length : Int) < 1) = false := decide_eq_false h0
    have q1 : decide (64 < (s.pts.length : Int)) = false := decide_eq_false h1; have q2 : decide (s.rad < 1) = true := decide_eq_true h2; have p0 : decide (s.pts.length < 1) = false := decide_eq_false (by omega); have p1 : decide (64 < s.pts.length) = false := decide_eq_false (by omega); obtain rfl : b = false := by rw [← e]; exact xx (by omega)
    clear e; go_enter Tryz.func16, Tryz.ntmps16
    go_upto_region 0 with fail
    refine wp_region_lit ?_
    (refine zt (t := 30) rfl _ rfl _ rfl (zV B ?_); clear B; intro b_r1 wn zb zd r1 za zf zk B; (try have zh := r1.lt); (try replace r1 := r1.below (za.mono zb)); (try have zh := rs.lt); (try replace rs := rs.below (za.mono zb)); simp only [zn])
    refine zx 1 ?_; refine wpList_nil ?_; go_upto_region 1 with fail
    refine wp_region_lit ?_; refine zx 2 ?_
    refine zw (by first | rfl | simp [Region.wanted, yielded]) rfl Tryz.underlying26 rfl ?_; simp only [zn]; refine zx 4 ?_
    refine zw (by first | rfl | simp [Region.wanted, yielded]) rfl Tryz.underlying26 rfl ?_; simp only [zn]; refine zx 32 ?_
    refine wpList_nil ?_; go_upto_region 2 with fail
    refine wp_region_lit ?_; refine zx 1 ?_; refine wpList_nil ?_; go_wp2; go_ret; exact ⟨rfl, B⟩
   ·by_cases h3 : 256 < s.rad
    ·have q0 : decide ((s.pts.length : Int) < 1) = false := decide_eq_false h0
     have q1 : decide (64 < (s.pts.length : Int)) = false := decide_eq_false h1; have q2 : decide (s.rad < 1) = false := decide_eq_false h2; have q3 : decide (256 < s.rad) = true := decide_eq_true h3; have p0 : decide (s.pts.length < 1) = false := decide_eq_false (by omega); have p1 : decide (64 < s.pts.length) = false := decide_eq_false (by omega); obtain rfl : b = false := by rw [← e]; exact xx (by omega)
     clear e; go_enter Tryz.func16, Tryz.ntmps16
     go_upto_region 0 with fail
     refine wp_region_lit ?_
     (refine zt (t := 30) rfl _ rfl _ rfl (zV B ?_); clear B; intro b_r1 wn zb zd r1 za zf zk B; (try have zh := r1.lt); (try replace r1 := r1.below (za.mono zb)); (try have zh := rs.lt); (try replace rs := rs.below (za.mono zb)); simp only [zn])
     refine zx 1 ?_; refine wpList_nil ?_; go_upto_region 1 with fail
     refine wp_region_lit ?_; refine zx 2 ?_
     refine zw (by first | rfl | simp [Region.wanted, yielded]) rfl Tryz.underlying26 rfl ?_; simp only [zn]; refine zx 4 ?_
     refine zw (by first | rfl | simp [Region.wanted, yielded]) rfl Tryz.underlying26 rfl ?_; simp only [zn]; refine zx 32 ?_
     refine wpList_nil ?_; go_upto_region 2 with fail
     refine wp_region_lit ?_; refine zx 1 ?_; refine wpList_nil ?_; go_wp2; go_ret; exact ⟨rfl, B⟩
    ·by_cases h4 : s.spa < 1
     ·have q0 : decide ((s.pts.length : Int) < 1) = false := decide_eq_false h0
      have q1 : decide (64 < (s.pts.length : Int)) = false := decide_eq_false h1; have q2 : decide (s.rad < 1) = false := decide_eq_false h2; have q3 : decide (256 < s.rad) = false := decide_eq_false h3; have q4 : decide (s.spa < 1) = true := decide_eq_true h4; have p0 : decide (s.pts.length < 1) = false := decide_eq_false (by omega); have p1 : decide (64 < s.pts.length) = false := decide_eq_false (by omega); obtain rfl : b = false := by rw [← e]; exact xx (by omega)
      clear e; go_enter Tryz.func16, Tryz.ntmps16
      go_upto_region 0 with fail
      refine wp_region_lit ?_
      (refine zt (t := 30) rfl _ rfl _ rfl (zV B ?_); clear B; intro b_r1 wn zb zd r1 za zf zk B; (try have zh := r1.lt); (try replace r1 := r1.below (za.mono zb)); (try have zh := rs.lt); (try replace rs := rs.below (za.mono zb)); simp only [zn])
      refine zx 1 ?_; refine wpList_nil ?_; go_upto_region 1 with fail
      refine wp_region_lit ?_; refine zx 2 ?_
      refine zw (by first | rfl | simp [Region.wanted, yielded]) rfl Tryz.underlying26 rfl ?_; simp only [zn]; refine zx 4 ?_
      refine zw (by first | rfl | simp [Region.wanted, yielded]) rfl Tryz.underlying26 rfl ?_; simp only [zn]; refine zx 32 ?_
      refine wpList_nil ?_; go_upto_region 2 with fail
      refine wp_region_lit ?_; refine zx 1 ?_; refine wpList_nil ?_; go_wp2; go_ret; exact ⟨rfl, B⟩
     ·by_cases h5 : 4096 < s.spa
      ·have q0 : decide ((s.pts.length : Int) < 1) = false := decide_eq_false h0
       have q1 : decide (64 < (s.pts.length : Int)) = false := decide_eq_false h1; have q2 : decide (s.rad < 1) = false := decide_eq_false h2; have q3 : decide (256 < s.rad) = false := decide_eq_false h3; have q4 : decide (s.spa < 1) = false := decide_eq_false h4; have q5 : decide (4096 < s.spa) = true := decide_eq_true h5; have p0 : decide (s.pts.length < 1) = false := decide_eq_false (by omega); have p1 : decide (64 < s.pts.length) = false := decide_eq_false (by omega); obtain rfl : b = false := by rw [← e]; exact xx (by omega)
       clear e; go_enter Tryz.func16, Tryz.ntmps16
       go_upto_region 0 with fail
       refine wp_region_lit ?_
       (refine zt (t := 30) rfl _ rfl _ rfl (zV B ?_); clear B; intro b_r1 wn zb zd r1 za zf zk B; (try have zh := r1.lt); (try replace r1 := r1.below (za.mono zb)); (try have zh := rs.lt); (try replace rs := rs.below (za.mono zb)); simp only [zn])
       refine zx 1 ?_; refine wpList_nil ?_; go_upto_region 1 with fail
       refine wp_region_lit ?_; refine zx 2 ?_
       refine zw (by first | rfl | simp [Region.wanted, yielded]) rfl Tryz.underlying26 rfl ?_; simp only [zn]; refine zx 4 ?_
       refine zw (by first | rfl | simp [Region.wanted, yielded]) rfl Tryz.underlying26 rfl ?_; simp only [zn]; refine zx 32 ?_
       refine wpList_nil ?_; go_upto_region 2 with fail
       refine wp_region_lit ?_; refine zx 1 ?_; refine wpList_nil ?_; go_wp2; go_ret; exact ⟨rfl, B⟩
      ·by_cases h6 : s.pha < 0
       ·have q0 : decide ((s.pts.length : Int) < 1) = false := decide_eq_false h0
        have q1 : decide (64 < (s.pts.length : Int)) = false := decide_eq_false h1; have q2 : decide (s.rad < 1) = false := decide_eq_false h2; have q3 : decide (256 < s.rad) = false := decide_eq_false h3; have q4 : decide (s.spa < 1) = false := decide_eq_false h4; have q5 : decide (4096 < s.spa) = false := decide_eq_false h5; have q6 : decide (s.pha < 0) = true := decide_eq_true h6; have p0 : decide (s.pts.length < 1) = false := decide_eq_false (by omega); have p1 : decide (64 < s.pts.length) = false := decide_eq_false (by omega); obtain rfl : b = false := by rw [← e]; exact xx (by omega)
        clear e; go_enter Tryz.func16, Tryz.ntmps16
        go_upto_region 0 with fail
        refine wp_region_lit ?_
        (refine zt (t := 30) rfl _ rfl _ rfl (zV B ?_); clear B; intro b_r1 wn zb zd r1 za zf zk B; (try have zh := r1.lt); (try replace r1 := r1.below (za.mono zb)); (try have zh := rs.lt); (try replace rs := rs.below (za.mono zb)); simp only [zn])
        refine zx 1 ?_; refine wpList_nil ?_; go_upto_region 1 with fail
        refine wp_region_lit ?_; refine zx 2 ?_
        refine zw (by first | rfl | simp [Region.wanted, yielded]) rfl Tryz.underlying26 rfl ?_; simp only [zn]; refine zx 4 ?_
        refine zw (by first | rfl | simp [Region.wanted, yielded]) rfl Tryz.underlying26 rfl ?_; simp only [zn]; refine zx 32 ?_
        refine wpList_nil ?_; go_upto_region 2 with fail
        refine wp_region_lit ?_; refine zx 1 ?_; refine wpList_nil ?_; go_wp2; go_ret; exact ⟨rfl, B⟩
       ·by_cases h7 : 1048575 < s.pha
        ·have q0 : decide ((s.pts.length : Int) < 1) = false := decide_eq_false h0
         have q1 : decide (64 < (s.pts.length : Int)) = false := decide_eq_false h1; have q2 : decide (s.rad < 1) = false := decide_eq_false h2; have q3 : decide (256 < s.rad) = false := decide_eq_false h3; have q4 : decide (s.spa < 1) = false := decide_eq_false h4; have q5 : decide (4096 < s.spa) = false := decide_eq_false h5; have q6 : decide (s.pha < 0) = false := decide_eq_false h6; have q7 : decide (1048575 < s.pha) = true := decide_eq_true h7; have p0 : decide (s.pts.length < 1) = false := decide_eq_false (by omega); have p1 : decide (64 < s.pts.length) = false := decide_eq_false (by omega); obtain rfl : b = false := by rw [← e]; exact xx (by omega)
         clear e; go_enter Tryz.func16, Tryz.ntmps16
         go_upto_region 0 with fail
         refine wp_region_lit ?_
         (refine zt (t := 30) rfl _ rfl _ rfl (zV B ?_); clear B; intro b_r1 wn zb zd r1 za zf zk B; (try have zh := r1.lt); (try replace r1 := r1.below (za.mono zb)); (try have zh := rs.lt); (try replace rs := rs.below (za.mono zb)); simp only [zn])
         refine zx 1 ?_; refine wpList_nil ?_; go_upto_region 1 with fail
         refine wp_region_lit ?_; refine zx 2 ?_
         refine zw (by first | rfl | simp [Region.wanted, yielded]) rfl Tryz.underlying26 rfl ?_; simp only [zn]; refine zx 4 ?_
         refine zw (by first | rfl | simp [Region.wanted, yielded]) rfl Tryz.underlying26 rfl ?_; simp only [zn]; refine zx 32 ?_
         refine wpList_nil ?_; go_upto_region 2 with fail
         refine wp_region_lit ?_; refine zx 1 ?_; refine wpList_nil ?_; go_wp2; go_ret; exact ⟨rfl, B⟩
        ·have q0 : decide ((s.pts.length : Int) < 1) = false := decide_eq_false h0
         have q1 : decide (64 < (s.pts.length : Int)) = false := decide_eq_false h1; have q2 : decide (s.rad < 1) = false := decide_eq_false h2; have q3 : decide (256 < s.rad) = false := decide_eq_false h3; have q4 : decide (s.spa < 1) = false := decide_eq_false h4; have q5 : decide (4096 < s.spa) = false := decide_eq_false h5; have q6 : decide (s.pha < 0) = false := decide_eq_false h6; have q7 : decide (1048575 < s.pha) = false := decide_eq_false h7; have p0 : decide (s.pts.length < 1) = false := decide_eq_false (by omega); have p1 : decide (64 < s.pts.length) = false := decide_eq_false (by omega); have HV := VC (s := s) (by omega); rw [HV] at e; clear HV; cases hk : vm s.pts with
         | false =>
          have HK := Lib.hid (show vm s.pts = !true from hk); obtain rfl : b = false := by rw [← e, hk]; rfl
          clear e hk; go_enter Tryz.func16, Tryz.ntmps16
          go_upto_region 0 with fail
          refine wp_region_lit ?_
          (refine zt (t := 30) rfl _ rfl _ rfl (zV B ?_); clear B; intro b_r1 wn zb zd r1 za zf zk B; (try have zh := r1.lt); (try replace r1 := r1.below (za.mono zb)); (try have zh := rs.lt); (try replace rs := rs.below (za.mono zb)); simp only [zn])
          refine zx 1 ?_; refine wpList_nil ?_; go_upto_region 1 with fail
          refine wp_region_lit ?_; refine zx 2 ?_
          refine zw (by first | rfl | simp [Region.wanted, yielded]) rfl Tryz.underlying26 rfl ?_; simp only [zn]; refine zx 4 ?_
          refine zw (by first | rfl | simp [Region.wanted, yielded]) rfl Tryz.underlying26 rfl ?_; simp only [zn]; refine zx 32 ?_
          refine wpList_nil ?_; go_upto_region 3 with fail
          refine wp_region_lit ?_; refine zx 2 ?_
          refine qE (enters_of Tryz.func51 (by kernel_rfl) rfl) (c := Ze _ s.pts true _ rs hn HK.out) (h := ?_); rintro e wn ⟨rfl, za⟩; have zf := B.size; have zg := za.size; replace B := B.trans (za.mono B.size)
          (try replace r1 := r1.below za)
          (try replace rs := rs.below za)
          refine ⟨_, rfl, ?_⟩; simp only [zn]; refine wpList_nil ?_; go_upto_region 4 with fail
          refine wp_region_lit ?_; refine zx 1 ?_; refine wpList_nil ?_; go_wp2; go_ret; exact ⟨rfl, B⟩
         | true =>
          have HK := Lib.hid (show vm s.pts = !false from hk); have HO := Lib.hid (Q9 hk); rw [hk, Bool.true_and] at e; have E := Lib.hid e; have HTT : 0 ≤ jI s.pts ∧ jI s.pts ≤ 189812544 := by
           have h1 := wl HO.out (s.pts.length - 1) (by omega); exact ⟨kR _ _, by show qi s.pts (s.pts.length - 1) ≤ _; omega⟩
          obtain ⟨t, ht⟩ : ∃ t, jI s.pts = t := ⟨_, rfl⟩; rw [ht] at E HTT; have HT := Lib.hid ht; clear e hk ht; go_enter Tryz.func16, Tryz.ntmps16
          go_upto_region 0 with fail
          refine wp_region_lit ?_
          (refine zt (t := 30) rfl _ rfl _ rfl (zV B ?_); clear B; intro b_r1 wn zb zd r1 za zf zk B; (try have zh := r1.lt); (try replace r1 := r1.below (za.mono zb)); (try have zh := rs.lt); (try replace rs := rs.below (za.mono zb)); simp only [zn])
          refine zx 1 ?_; refine wpList_nil ?_; go_upto_region 1 with fail
          refine wp_region_lit ?_; refine zx 2 ?_
          refine zw (by first | rfl | simp [Region.wanted, yielded]) rfl Tryz.underlying26 rfl ?_; simp only [zn]; refine zx 4 ?_
          refine zw (by first | rfl | simp [Region.wanted, yielded]) rfl Tryz.underlying26 rfl ?_; simp only [zn]; refine zx 32 ?_
          refine wpList_nil ?_; go_upto_region 3 with fail
          refine wp_region_lit ?_; refine zx 2 ?_
          refine qE (enters_of Tryz.func51 (by kernel_rfl) rfl) (c := Ze _ s.pts false _ rs hn HK.out) (h := ?_); rintro e wn ⟨rfl, za⟩; have zf := B.size; have zg := za.size; replace B := B.trans (za.mono B.size)
          (try replace r1 := r1.below za)
          (try replace rs := rs.below za)
          refine ⟨_, rfl, ?_⟩; simp only [zn]; refine wpList_nil ?_; go_upto_region 5 with fail
          try have lx_r1 := r1.lt
          try have lx_rs := rs.lt
          refine zL 11 [(2, zP ?v1_2)] (by kernel_rfl) (by kernel_rfl) (by kernel_rfl) ?_
          rotate_left 1
          simp only [jU, Nat.reduceAdd]; refine vC 2 ?_
          refine zz (by rfl) (by first | rfl | simp [Region.wanted, yielded]) ?_ ?_
          ·intro wn za hE Kx hKx
           have zf := B.size; have zg := za.size; replace B := B.trans (za.mono B.size)
           (try replace r1 := r1.below za)
           (try replace rs := rs.below za)
           refine zS rfl (enters_of Tryz.func54 (by kernel_rfl) rfl) (by simp only [Act.eval, qI]; rfl) ?_
           refine (Va _ s.pts t wn rs (by omega) HO.out HT.out).mono ?_; rintro e wm ⟨rfl, zl⟩; refine ⟨_, rfl, ?_⟩; have hz := hKx () wm trivial zl
           dsimp only [zP] at hz
           exact hz
          rintro ⟨⟩
          dsimp only [zP]
          simp only [zn]; refine vC 8 ?_
          refine qz ?_; intro wn za hE; have zf := B.size; have zg := za.size; replace B := B.trans (za.mono B.size); clear hE; try simp only [List.drop_succ_cons, List.drop_zero]
          refine zQ.normal ?_; go_wp2; go_ret; exact ⟨by (rw [← E.out]) <;> rfl, B⟩
end Go.Proofs.YtepelndbbhdofaaGreatDoor
