import Derived.Test.YtepelndbbhdofaaGreatDoorKp1
import Derived.Laws.AppendOwn
import Derived.Laws.AppendOwnNone
import Derived.Deep.Onto
import Derived.Great.BuildSlice
import Derived.Lib.SliceRun

namespace Go.Proofs.YtepelndbbhdofaaGreatDoor
open Go.RowKit Go.Shelf Pl Sha Go.Proofs.Tryz
set_option linter.unusedVariables false
set_option linter.unusedSimpArgs false
set_option maxRecDepth 20000
set_option maxHeartbeats 8000000
theorem zg5 (q p : Px) (m c : Int) (w : World) (hq : q.ok) (hp : p.ok) :
  Calls Tryz.prog 73 #[Px.v q, Px.v p, .int .i64 m, .int .i64 c] w fun e w' => e = .returned (Px.v (vP q p m c)) ∧ Below w.heap.size w w' := by
 obtain ⟨qr, qg, qb, qa⟩ := q
 obtain ⟨pr, pg, pb, pa⟩ := p
 have hka := zo hq
 have hkb := zo hp
 obtain ⟨⟨q1, q2⟩, ⟨q3, q4⟩, ⟨q5, q6⟩, ⟨q7, q8⟩⟩ := hq
 obtain ⟨⟨p1, p2⟩, ⟨p3, p4⟩, ⟨p5, p6⟩, ⟨p7, p8⟩⟩ := hp
 simp only at p1 p2 p3 p4 p5 p6 p7 p8 q1 q2 q3 q4 q5 q6 q7 q8
 have m1 := qV pa c
 have k := wF m1.1 m1.2 q7 q8
 have kk : 0 ≤ 255 * qR pa c + 255 * qa - qR pa c * qa ∧ 255 * qR pa c + 255 * qa - qR pa c * qa ≤ 65025 := k
 have k1 : 0 ≤ qR pa c * qa ∧ qR pa c * qa ≤ 255 * 255 := jX m1.1 m1.2 q7 q8
 by_cases h : xH (qR pa c) qa = 0
 ·have e1 : vP ⟨qr, qg, qb, qa⟩ ⟨pr, pg, pb, pa⟩ m c = ⟨0, 0, 0, 0⟩ := if_pos h
  have h' : (255 * qR pa c + 255 * qa - qR pa c * qa == 0) = true := by simpa [xH] using h
  rw [e1]; clear e1 h k; simp only [Px.v]; go_enter func73, ntmps73
  go_wp2; go_region_held3 (fun wx => wx.cell? ⟨w.heap.size, 3, none⟩ = some (.int .u8 qa) ∧ wx.cell? ⟨w.heap.size + 1, 3, none⟩ = some (.int .u8 pa)) (simp [go_sem]) (first | (go_at_call 118; refine (vd _ _ _).mono ?_; rintro e w' ⟨rfl, rfl⟩))
  all_goals (
   go_wp2_with (first | (go_at_call 120; refine (Ja _ _ _ (by omega) (by omega) (by omega) (by omega)).mono ?_; rintro e w' ⟨rfl, rfl⟩))
   go_returns
   refine ⟨rfl, ?_⟩; repeat' (first | (with_reducible exact Below.refl _ _) | (with_reducible assumption) | (with_reducible refine Below.setCell ?_ (by dsimp only; omega) _) | (with_reducible refine Below.alloc ?_ (by first | omega | (simp only [World.size_alloc, World.size_setCell, World.size_drew]; omega)) _) | (with_reducible refine Below.drew ?_)))
 ·have e1 : vP ⟨qr, qg, qb, qa⟩ ⟨pr, pg, pb, pa⟩ m c = ⟨y6 m (qR pa c) qa qr pr, y6 m (qR pa c) qa qg pg, y6 m (qR pa c) qa qb pb, zG (255 * qR pa c + 255 * qa - qR pa c * qa) 255⟩ := if_neg h
  have h' : (255 * qR pa c + 255 * qa - qR pa c * qa == 0) = false := by simpa [xH] using h
  have k3 : 1 ≤ 255 * qR pa c + 255 * qa - qR pa c * qa := by unfold xH at h k; omega
  have kr : 0 ≤ zG (255 * qR pa c + 255 * qa - qR pa c * qa) 255 ∧ zG (255 * qR pa c + 255 * qa - qR pa c * qa) 255 ≤ 255 := yH kk.1 (by omega) (by omega); have hφ : ∀ x y, 0 ≤ x → x ≤ 255 → 0 ≤ y → y ≤ 255 → 0 ≤ y6 m (qR pa c) qa x y ∧ y6 m (qR pa c) qa x y ≤ 255 :=
   fun x y h1 h2 h3 h4 => uL m1.1 m1.2 q7 q8 h1 h2 h3 h4 h
  have Hφ := zo hφ; rw [e1]; clear e1 h hφ k; simp only [Px.v]; go_enter func73, ntmps73
  go_wp2; go_region_held3 (fun wx => wx.cell? ⟨w.heap.size, 3, none⟩ = some (.int .u8 qa) ∧ wx.cell? ⟨w.heap.size + 1, 3, none⟩ = some (.int .u8 pa)) (simp [go_sem]) (first | (go_at_call 118; refine (vd _ _ _).mono ?_; rintro e w' ⟨rfl, rfl⟩))
  all_goals (
   go_wp2; refine jm 6 (by kernel_rfl) (by kernel_rfl) ?_; simp only [List.take_succ_cons, List.take_zero, List.drop_succ_cons, List.drop_zero]; repeat (go_big_quiet_step ((first | (go_at_call 120; exact yy (Ja _ _ _ (by omega) (by omega) (by omega) (by omega))) | (go_at_call 119; exact zv (Wo ⟨_, _, _, _⟩ ⟨_, _, _, _⟩ _ 121 _ (y6 m (qR pa c) qa) _ hka.out hkb.out (by omega) (by omega) Hφ.out zdH (zcG _ _ _ _ _ _ _ _ _ (by omega) (by omega) (by omega) (by omega) (QC _ _) (by omega) (by simp [go_sem]) (by simp [go_sem]) (by simp [go_sem]) (by simp [go_sem])))))))
   refine wpQuiet_nil ?_; intro w1 hb1; obtain ⟨hc1, hf1⟩ := KY hb1; have hs1 := hb1.size; try simp only [World.size_alloc, World.size_setCell, World.size_drew] at hs1
   have hbb1 := hb1.mono (B' := w.heap.size) (by first | omega | (simp only [World.size_alloc, World.size_setCell, World.size_drew]; omega))
   have l1_0 : w.heap.size < w1.heap.size := by omega
   have l1_1 : w.heap.size + 1 < w1.heap.size := by omega
   have l1_2 : w.heap.size + 1 + 1 < w1.heap.size := by omega
   have l1_3 : w.heap.size + 1 + 1 + 1 < w1.heap.size := by omega
   have l1_4 : w.heap.size + 1 + 1 + 1 + 1 < w1.heap.size := by omega
   have l1_5 : w.heap.size + 1 + 1 + 1 + 1 + 1 < w1.heap.size := by omega
   have l1_6 : w.heap.size + 1 + 1 + 1 + 1 + 1 + 1 < w1.heap.size := by omega
   simp only [Px.v]; go_wp2; refine bodyPost_ret (by simp [results, Tryz.results73, go_sem, hc1, l1_0, l1_1, l1_2, l1_3, l1_4, l1_5, l1_6]; try rfl) rfl ?_
   refine ⟨rfl, ?_⟩; repeat' (first | (with_reducible exact Below.refl _ _) | (with_reducible assumption) | (with_reducible refine Below.setCell ?_ (by dsimp only; omega) _) | (with_reducible refine Below.alloc ?_ (by first | omega | (simp only [World.size_alloc, World.size_setCell, World.size_drew]; omega)) _) | (with_reducible refine Below.drew ?_) | (with_reducible refine Below.trans ?_ hbb1)))
theorem xT {w : World} {b : Nat} {f : Nat → Px} (h : zV w b f) : ∀ w', (∃ u, w' = ov w u) → zV w' b f := by
 rintro w' ⟨u, rfl⟩
 exact h.of_eq ((ji w u).block _ h.lt)
theorem vx {w : World} {b : Nat} {p : Px} (h : j3 w b p) : ∀ w', (∃ u, w' = ov w u) → j3 w' b p := by
 rintro w' ⟨u, rfl⟩
 exact h.of_eq ((ji w u).block _ h.lt)
section
variable {C : World → Prop} {a : Act} {o : Oper} {K : Act → Prop}
theorem j4 {f : Nat → Px} {x : Operand} (h : o.op = .load 123 x) (b' : Nat) (hx : a.eval x = .pointer (some ⟨b', 0, none⟩)) (ht : ∀ w, C w → zV w b' f) (hk : K (a.put o.dst (Tile.v f))) : o.quiet Tryz.prog a C K :=
 ⟨_, fun w hw => by unfold Oper.quietAt execOp; simp only [h, hx, Zt (ht w hw), Sem.run_bind, Sem.run_pure, Result.andThen_ok]; exact ⟨rfl, rfl⟩, hk⟩
theorem qW {p : Px} {x : Operand} (h : o.op = .load 28 x) (b : Nat) (hx : a.eval x = .pointer (some ⟨b, 0, none⟩)) (ht : ∀ w, C w → j3 w b p) (hk : K (a.put o.dst (Px.v p))) : o.quiet Tryz.prog a C K :=
 ⟨_, fun w hw => by unfold Oper.quietAt execOp; simp only [h, hx, QU (ht w hw), Sem.run_bind, Sem.run_pure, Result.andThen_ok]; exact ⟨rfl, rfl⟩, hk⟩
theorem vo {f : Nat → Px} {x : Operand} {b : Nat} (h : o.op = .load 28 x) (j' : Nat) (hx : a.eval x = .pointer (some ⟨b, j', none⟩)) (ht : ∀ w, C w → zV w b f) (i : Nat) (hi : i < 64) (hj : j' = i * 4) (hk : K (a.put o.dst (Px.v (f i)))) : o.quiet Tryz.prog a C K :=
 ⟨_, fun w hw => by subst hj; unfold Oper.quietAt execOp; simp only [h, hx, QV (ht w hw) hi, Sem.run_bind, Sem.run_pure, Result.andThen_ok]; exact ⟨rfl, rfl⟩, hk⟩
end
@[go_sem] theorem ziG (op : BinOp) (x y : Operand) (p q : Px) (w : World) : (eqGuard op 28 x y (Px.v p) (Px.v q)).run Tryz.prog w = .ok () w := run_eqGuard_agg w op 28 x y _ _ (by kernel_rfl)
@[go_sem] theorem zhu (op : BinOp) (x y : Operand) (p q : Nat → Px) (w : World) : (eqGuard op 123 x y (Tile.v p) (Tile.v q)).run Tryz.prog w = .ok () w := by
 unfold Tile.v
 exact run_eqGuard_agg w op 123 x y _ _ (by kernel_rfl)
set_option maxRecDepth 20000 in
theorem kx (t : Nat → Px) (w : World) (ht : Qq t) : Calls Tryz.prog 101 #[Tile.v t] w fun e w' => e = .returned (Tile.v (qI t)) ∧ Below w.heap.size w w' := by
 go_enter func101, ntmps101
 go_wp2_with (first | (refine qS rfl _ rfl _ rfl t1 ?_; simp only [zn]) | (refine yC rfl rfl ?_; intro w2 t2 hb2 hz2; have l2 := Nat.lt_of_lt_of_eq (Nat.lt_succ_self _) hz2.symm; clear hz2; replace t1 := t1.of_eq (hb2.block _ t1.lt); simp only [zn]) | (refine jt rfl _ rfl _ rfl ?_; intro w1 t1 hb1 hz1; have l1 := Nat.lt_of_lt_of_eq (Nat.lt_succ_self _) hz1.symm; clear hz1; simp only [zn]))
 have B2 : Below w.heap.size w w2 := by
  repeat' (first | (with_reducible exact Below.refl _ _) | (with_reducible assumption) | (with_reducible refine Below.trans ?_ (hb1.mono (by omega))) | (with_reducible refine Below.trans ?_ (hb2.mono (by omega))))
 go_loopw [3, 4, 6] (fun _ _ i wr => ∃ k : Nat, k ≤ 64 ∧ i = .int .i64 k ∧ Below w.heap.size w wr ∧ w2.heap.size ≤ wr.heap.size ∧ zV wr w.heap.size (uo t (qI t) k) ∧ zV wr w1.heap.size zg0) (fun _ _ i _ => (64 - intOf i).toNat)
 case atStart => exact ⟨0, by omega, rfl, B2, Nat.le_refl _, by rw [Xn]; exact t1, t2⟩
 case round =>
  obtain ⟨k, hk, rfl, Br, hr, t4, t5⟩ := hrel; clear t1 t2; by_cases zh : k < 64
  ·have hix := JU t k zh
   have hok := ht k zh; go_wp2_with (first | (go_at_call 123; refine (Yr _ _ hok).mono ?_; rintro e w5 ⟨rfl, hb5⟩; have hz5 := hb5.size; replace t4 := t4.of_eq (hb5.block _ t4.lt); replace t5 := t5.of_eq (hb5.block _ t5.lt); replace t3 := t3.of_eq (hb5.block _ t3.lt)) | (refine kj rfl _ _ rfl _ _ rfl _ rfl t4 (k) (by omega) (by first | rfl | omega) ?_; clear t4; intro w6 t4 hc6 hz6; replace hz6 := Nat.le_of_eq hz6.symm; replace t5 := t5.of_eq (hc6.block _ t5.lt (by omega)); simp only [zn]) | (refine j5 rfl _ rfl _ rfl t3 ?_; simp only [zn]) | (refine z2 rfl _ _ rfl _ rfl _ rfl t3 ?_; clear t3; intro w4 t3 hc4 hz4; replace hz4 := Nat.le_of_eq hz4.symm; replace t4 := t4.of_eq (hc4.block _ t4.lt (by omega)); replace t5 := t5.of_eq (hc4.block _ t5.lt (by omega)); simp only [zn]) | (refine xC rfl rfl ?_; intro w3 t3 hb3 hz3; have l3 := Nat.lt_of_lt_of_eq (Nat.lt_succ_self _) hz3.symm; clear hz3; replace t4 := t4.of_eq (hb3.block _ t4.lt); replace t5 := t5.of_eq (hb3.block _ t5.lt); simp only [zn]))
   go_roundw
   case rel => exact ⟨k + 1, by omega, by go_num, by repeat' (first | (with_reducible exact Below.refl _ _) | (with_reducible assumption) | (with_reducible refine Below.trans ?_ (hb3.mono (by omega))) | (with_reducible refine Below.trans ?_ (hb5.mono (by omega))) | (with_reducible refine qY.be ?_ hc4 (by omega) (by omega)) | (with_reducible refine qY.be ?_ hc6 (by omega) (by omega))), by omega, by rw [← Xm]; exact t4, t5⟩
   case measure => simp [intOf]; omega
  ·obtain rfl : k = 64 := by omega
   replace t4 := t4.congr (Yd _ _); go_wp2_with (first | (refine qF rfl _ _ rfl _ rfl _ rfl t5 ?_; clear t5; intro w3 t5 hc3 hz3; replace hz3 := Nat.le_of_eq hz3.symm; simp only [zn]) | (refine qS rfl _ rfl _ rfl t4 ?_; simp only [zn]))
   refine bodyPost_ret (xm rfl _ _ (w1.heap.size) rfl t5) rfl ?_; refine ⟨rfl, ?_⟩; repeat' (first | (with_reducible exact Below.refl _ _) | (with_reducible assumption) | (with_reducible refine qY.be ?_ hc3 (by omega) (by omega)))
set_option maxRecDepth 20000 in
theorem ky (t : Nat → Px) (w : World) (ht : Qq t) : Calls Tryz.prog 169 #[Tile.v t] w fun e w' => e = .returned (Tile.v (qI t)) ∧ Below w.heap.size w w' := by
 go_enter func169, ntmps169
 go_wp2_with (first | (refine yC rfl rfl ?_; intro w2 t2 hb2 hz2; have l2 := Nat.lt_of_lt_of_eq (Nat.lt_succ_self _) hz2.symm; clear hz2; replace t1 := t1.of_eq (hb2.block _ t1.lt); simp only [zn]) | (refine jt rfl _ rfl _ rfl ?_; intro w1 t1 hb1 hz1; have l1 := Nat.lt_of_lt_of_eq (Nat.lt_succ_self _) hz1.symm; clear hz1; simp only [zn]))
 have B2 : Below w.heap.size w w2 := by
  repeat' (first | (with_reducible exact Below.refl _ _) | (with_reducible assumption) | (with_reducible refine Below.trans ?_ (hb1.mono (by omega))) | (with_reducible refine Below.trans ?_ (hb2.mono (by omega))))
 go_loopw [3] (fun i wr => ∃ k : Nat, k ≤ 64 ∧ i = .int .i64 k ∧ Below w.heap.size w wr ∧ w2.heap.size ≤ wr.heap.size ∧ zV wr w.heap.size (uo t (qI t) k) ∧ zV wr w1.heap.size zg0) (fun i _ => (64 - intOf i).toNat)
 case atStart => exact ⟨0, by omega, rfl, B2, Nat.le_refl _, by rw [Xn]; exact t1, t2⟩
 case round =>
  obtain ⟨k, hk, rfl, Br, hr, t4, t5⟩ := hrel; clear t1 t2; by_cases zh : k < 64
  ·have hok : (uo t (qI t) k k).ok := by rw [VW]; exact ht k zh
   go_wp2_with (first | (go_at_call 32; go_loud (refine (Yy _ _ hok).mono ?_; rintro e w5 ⟨rfl, hb5⟩; have hz5 := hb5.size; replace t4 := t4.of_eq (hb5.block _ t4.lt); replace t5 := t5.of_eq (hb5.block _ t5.lt))) | (refine kj rfl _ _ rfl _ _ rfl _ rfl t4 (k) (by omega) (by first | rfl | omega) ?_; clear t4; intro w6 t4 hc6 hz6; replace hz6 := Nat.le_of_eq hz6.symm; replace t5 := t5.of_eq (hc6.block _ t5.lt (by omega)); simp only [zn]) | (refine wd rfl _ rfl _ _ rfl t4 (k) (by omega) (by first | rfl | omega) ?_; simp only [zn]))
   rw [VW] at t4; go_roundw
   case rel => exact ⟨k + 1, by omega, by go_num, by repeat' (first | (with_reducible exact Below.refl _ _) | (with_reducible assumption) | (with_reducible refine Below.trans ?_ (hb5.mono (by omega))) | (with_reducible refine qY.be ?_ hc6 (by omega) (by omega))), by omega, by rw [← Xm]; exact t4, t5⟩
   case measure => simp [intOf]; omega
  ·obtain rfl : k = 64 := by omega
   replace t4 := t4.congr (Yd _ _); go_wp2_with (first | (refine qF rfl _ _ rfl _ rfl _ rfl t5 ?_; clear t5; intro w3 t5 hc3 hz3; replace hz3 := Nat.le_of_eq hz3.symm; simp only [zn]) | (refine qS rfl _ rfl _ rfl t4 ?_; simp only [zn]))
   refine bodyPost_ret (xm rfl _ _ (w1.heap.size) rfl t5) rfl ?_; refine ⟨rfl, ?_⟩; repeat' (first | (with_reducible exact Below.refl _ _) | (with_reducible assumption) | (with_reducible refine qY.be ?_ hc3 (by omega) (by omega)))
theorem uH {a b : Nat → Px} (h : ∀ j, j < 64 → a j = b j) : wV a b = true := by unfold wV; exact zQ fun i hi => h i (List.mem_range.1 hi)
theorem zbR {a b : Nat → Px} {k : Nat} (hk : k < 64) (h : a k ≠ b k) : wV a b = false := by unfold wV; exact zB fun e => h (e k (List.mem_range.2 hk))
set_option maxRecDepth 20000 in
theorem Qo (a b : Nat → Px) (w : World) : Calls Tryz.prog 168 #[Tile.v a, Tile.v b] w fun e w' => e = .returned (.bool (wV a b)) ∧ Below w.heap.size w w' := by
 go_enter func168, ntmps168
 go_wp2_with (first | (refine jt rfl _ rfl _ rfl ?_; intro w2 t2 hb2 hz2; have l2 := Nat.lt_of_lt_of_eq (Nat.lt_succ_self _) hz2.symm; clear hz2; replace t1 := t1.of_eq (hb2.block _ t1.lt); simp only [zn]) | (refine jt rfl _ rfl _ rfl ?_; intro w1 t1 hb1 hz1; have l1 := Nat.lt_of_lt_of_eq (Nat.lt_succ_self _) hz1.symm; clear hz1; simp only [zn]))
 have B2 : Below w.heap.size w w2 := by
  repeat' (first | (with_reducible exact Below.refl _ _) | (with_reducible assumption) | (with_reducible refine Below.trans ?_ (hb1.mono (by omega))) | (with_reducible refine Below.trans ?_ (hb2.mono (by omega))))
 go_loopw [5] (fun i wr => ∃ k : Nat, k ≤ 64 ∧ i = .int .i64 k ∧ Below w.heap.size w wr ∧ w2.heap.size ≤ wr.heap.size ∧ zV wr w.heap.size a ∧ zV wr w1.heap.size b ∧ ∀ j, j < k → a j = b j) (fun i _ => (64 - intOf i).toNat)
 case atStart => exact ⟨0, by omega, rfl, B2, Nat.le_refl _, t1, t2, fun j hj => by omega⟩
 case round =>
  obtain ⟨k, hk, rfl, Br, hr, t4, t5, heq⟩ := hrel; have Heq := zo heq; clear t1 t2 heq; by_cases zh : k < 64
  ·by_cases hne : a k = b k
   ·have hcmp : ∀ w, (binOp .neq 28 (Px.v (a k)) (Px.v (b k))).run Tryz.prog w = .ok (.bool false) w := fun w => by rw [WJ]; simp [hne]
    have Hne := zo hne; clear hne; go_wp2; refine zt (by kernel_rfl) (by kernel_rfl) ?_; repeat (first | go_big_quiet_skip | (go_big_quiet_want; first | (refine vo rfl _ rfl (xT t4) (k) (by omega) (by first | rfl | omega) ?_; simp only [zn]; go_big_quiet_on) | (refine vo rfl _ rfl (xT t5) (k) (by omega) (by first | rfl | omega) ?_; simp only [zn]; go_big_quiet_on) | (go_big_quiet_op; first | go_big_quiet_on | go_big_quiet_call ((fail)))))
    refine wpQuiet_nil ?_; intro w3 hb3; have hz3 := hb3.size; replace t4 := t4.of_eq (hb3.block _ t4.lt); replace t5 := t5.of_eq (hb3.block _ t5.lt); go_wp2; go_roundw
    case rel => exact ⟨k + 1, by omega, by go_num, by repeat' (first | (with_reducible exact Below.refl _ _) | (with_reducible assumption) | (with_reducible refine Below.trans ?_ (hb3.mono (by omega)))), by omega, t4, t5, fun j hj => by
     by_cases e : j = k
     ·rw [e]; exact Hne.out
     ·exact Heq.out j (by omega)⟩
    case measure => simp [intOf]; omega
   ·have hcmp : ∀ w, (binOp .neq 28 (Px.v (a k)) (Px.v (b k))).run Tryz.prog w = .ok (.bool true) w := fun w => by rw [WJ]; simp [hne]
    have e1 := zo (zbR zh hne); clear hne; go_wp2; refine zt (by kernel_rfl) (by kernel_rfl) ?_; repeat (first | go_big_quiet_skip | (go_big_quiet_want; first | (refine vo rfl _ rfl (xT t4) (k) (by omega) (by first | rfl | omega) ?_; simp only [zn]; go_big_quiet_on) | (refine vo rfl _ rfl (xT t5) (k) (by omega) (by first | rfl | omega) ?_; simp only [zn]; go_big_quiet_on) | (go_big_quiet_op; first | go_big_quiet_on | go_big_quiet_call ((fail)))))
    refine wpQuiet_nil ?_; intro w3 hb3; have hz3 := hb3.size; replace t4 := t4.of_eq (hb3.block _ t4.lt); replace t5 := t5.of_eq (hb3.block _ t5.lt); go_wp2; go_ret; refine ⟨by rw [e1.out]; rfl, ?_⟩
    repeat' (first | (with_reducible exact Below.refl _ _) | (with_reducible assumption) | (with_reducible refine Below.trans ?_ (hb3.mono (by omega))))
  ·obtain rfl : k = 64 := by omega
   have e1 := zo (uH Heq.out); go_wp2; go_ret; refine ⟨by rw [e1.out]; rfl, ?_⟩
   repeat' (first | (with_reducible exact Below.refl _ _) | (with_reducible assumption))
def zkq (d : Nat → Bool) (f g : Nat → Px) : Nat → Px := fun j => if d j = true then g j else f j
def ziz (y x j : Nat) : Bool := decide (j < 8 * y + x)
def ziA (y x j : Nat) : Bool := decide (7 - j % 8 < y ∨ (7 - j % 8 = y ∧ j / 8 < x))
def ju (t : Nat → Px) : Bool := decide (∀ i ∈ List.range 64, (t i).a = 0)
theorem zgJ (t : Nat → Px) : wV (qI t) (fun _ => Px.zero) = ju t := by
 unfold wV ju
 rw [Bool.eq_iff_iff]
 simp only [decide_eq_true_eq]
 refine ⟨fun h i hi => ?_, fun h i hi => ?_⟩
 ·have := h i hi
  unfold qI jo at this; split at this
  ·assumption
  ·rw [this]; rfl
 ·unfold qI jo
  rw [if_pos (h i hi)]
theorem zbS (t : Nat → Px) (w : World) : (binOp .eql 123 (Tile.v (qI t)) (Tile.v fun _ => Px.zero)).run Tryz.prog w = .ok (.bool (ju t)) w := by
 rw [zdU, zgJ]
set_option maxRecDepth 20000 in
theorem yS (t : Nat → Px) (w : World) (ht : Qq t) : Calls Tryz.prog 100 #[Tile.v t] w fun e w' => e = .returned (.bool (ju t)) ∧ Below w.heap.size w w' := by
 have hcmp := zbS t
 go_enter func100, ntmps100
 go_wp2_with (first | (go_at_call 101; refine (kx _ _ ht).mono ?_; rintro e w2 ⟨rfl, hb2⟩; have hz2 := hb2.size; replace t1 := t1.of_eq (hb2.block _ t1.lt)) | (refine qS rfl _ rfl _ rfl t1 ?_; simp only [zn]) | (refine v7 rfl rfl ?_; simp only [zn]) | (refine jt rfl _ rfl _ rfl ?_; intro w1 t1 hb1 hz1; have l1 := Nat.lt_of_lt_of_eq (Nat.lt_succ_self _) hz1.symm; clear hz1; simp only [zn]))
 go_ret
 refine ⟨rfl, ?_⟩
 repeat' (first | (with_reducible exact Below.refl _ _) | (with_reducible assumption) | (with_reducible refine Below.trans ?_ (hb1.mono (by omega))) | (with_reducible refine Below.trans ?_ (hb2.mono (by omega))))
set_option maxRecDepth 20000 in
theorem Zy (t : Nat → Px) (w : World) : Calls Tryz.prog 167 #[Tile.v t] w fun e w' => e = .returned (.bool (ju t)) ∧ Below w.heap.size w w' := by
 go_enter func167, ntmps167
 go_wp2_with (first | (refine jt rfl _ rfl _ rfl ?_; intro w1 t1 hb1 hz1; have l1 := Nat.lt_of_lt_of_eq (Nat.lt_succ_self _) hz1.symm; clear hz1; simp only [zn]))
 go_loopw [3] (fun i wr => ∃ k : Nat, k ≤ 64 ∧ i = .int .i64 k ∧ Below w.heap.size w wr ∧ w1.heap.size ≤ wr.heap.size ∧ zV wr w.heap.size t ∧ ∀ j, j < k → (t j).a = 0) (fun i _ => (64 - intOf i).toNat)
 case atStart => exact ⟨0, by omega, rfl, hb1, Nat.le_refl _, t1, fun j hj => by omega⟩
 case round =>
  obtain ⟨k, hk, rfl, Br, hr, t4, heq⟩ := hrel; have Heq := zo heq; clear t1 heq; by_cases zh : k < 64
  ·obtain ⟨c0, c1, c2, c3⟩ := t4.cells zh
   cases hne : ((t k).a == 0) with
   | true =>
    have Hne : Hid ((t k).a = 0) := zo (by simpa using hne); go_wp2; go_roundw
    case rel => exact ⟨k + 1, by omega, by go_num, Br, hr, t4, fun j hj => by
     by_cases e : j = k
     ·rw [e]; exact Hne.out
     ·exact Heq.out j (by omega)⟩
    case measure => simp [intOf]; omega
   | false =>
    have e1 : Hid (ju t = false) := zo (by unfold ju; exact zB fun e => by simp [e k (List.mem_range.2 zh)] at hne)
    go_wp2; go_ret; exact ⟨by rw [e1.out]; rfl, Br⟩
  ·obtain rfl : k = 64 := by omega
   have e1 : Hid (ju t = true) := zo (by unfold ju; exact zQ fun i hi => Heq.out i (List.mem_range.1 hi))
   go_wp2; go_ret; exact ⟨by rw [e1.out]; rfl, Br⟩
def zhS (t : Nat → Px) : Bool := wV t (zgQ (t 0))
def zjy (t : Nat → Px) : Px := if zhS t = true then t 0 else Px.zero
theorem j3.cells {w : World} {b : Nat} {p : Px} (h : j3 w b p) : w.cell? ⟨b, 0, none⟩ = some (.int .u8 p.r) ∧ w.cell? ⟨b, 1, none⟩ = some (.int .u8 p.g) ∧ w.cell? ⟨b, 2, none⟩ = some (.int .u8 p.b) ∧ w.cell? ⟨b, 3, none⟩ = some (.int .u8 p.a) := by
 obtain ⟨hc, _⟩ := qf h
 exact ⟨hc 0, hc 1, hc 2, hc 3⟩
structure Rc where
 x0 : Int
 y0 : Int
 x1 : Int
 y1 : Int
def Rc.zero : Rc := ⟨0, 0, 0, 0⟩
def Rc.v (r : Rc) : Value := .agg #[.int .i64 r.x0, .int .i64 r.y0, .int .i64 r.x1, .int .i64 r.y1]
def z8 (r : Rc) : Bool := decide (r.x1 ≤ r.x0 ∨ r.y1 ≤ r.y0)
def jx (r : Rc) (x y : Int) : Bool := decide (r.x0 ≤ x ∧ x < r.x1 ∧ r.y0 ≤ y ∧ y < r.y1)
def kY (r : Rc) : Bool := decide (-65536 ≤ r.x0 ∧ -65536 ≤ r.y0 ∧ r.x1 ≤ 65536 ∧ r.y1 ≤ 65536)
def jk (r : Rc) : Bool := !z8 r && kY r
def kR (r : Rc) : Rc := if z8 r = true then Rc.zero else r
def y4 (a b : Rc) : Rc := kR ⟨max a.x0 b.x0, max a.y0 b.y0, min a.x1 b.x1, min a.y1 b.y1⟩
def yx (a b : Rc) : Rc := if z8 a = true then kR b else if z8 b = true then a else ⟨min a.x0 b.x0, min a.y0 b.y0, max a.x1 b.x1, max a.y1 b.y1⟩
def yV (r : Rc) : Int := if z8 r = true then 0 else (r.x1 - r.x0) * (r.y1 - r.y0)
def jC (ax ay bx bv : Int) : Bool := decide (ay < bv ∨ (ay = bv ∧ ax < bx))
def yG (ax ay bx bv : Int) : Bool := decide (ax = bx ∧ ay = bv)
def qo (x y : Int) : Bool := decide (-8192 ≤ x ∧ x ≤ 8191 ∧ -8192 ≤ y ∧ y ≤ 8191)
structure TA where
 x : Int
 y : Int
 t : Nat → Px
def TA.none : TA := ⟨0, 0, fun _ => Px.zero⟩
def aT (ls : List TA) (k : Nat) : TA := ls.getD k TA.none
theorem vK {ls : List TA} {k : Nat} (h : k < ls.length) : ls[k]? = some (aT ls k) := by
 unfold aT
 rw [List.getD_eq_getElem?_getD, List.getElem?_eq_getElem h]
 rfl
theorem zfP (ls : List TA) (i k : Nat) : aT (ls.drop i) k = aT ls (i + k) := by
 unfold aT
 rw [List.getD_eq_getElem?_getD, List.getD_eq_getElem?_getD, List.getElem?_drop]
theorem Jc (e : TA) (r : List TA) (k : Nat) : aT (e :: r) (k + 1) = aT r k := rfl
theorem zfV {ls : List TA} {k : Nat} (h : k < ls.length) : ls.drop k = aT ls k :: ls.drop (k + 1) := by
 rw [List.drop_eq_getElem_cons h]
 have := vK h
 rw [List.getElem?_eq_getElem h] at this
 rw [Option.some.inj this]
def yW (a b : TA) : Bool := jC a.x a.y b.x b.y
def vf (e : TA) : Bool := qo e.x e.y && (!ju e.t && wV (qI e.t) e.t)
def kc (ls : List TA) (j : Nat) : Bool := vf (aT ls j) && (decide (j = 0) || yW (aT ls (j - 1)) (aT ls j))
def ql (ls : List TA) : Bool := decide (ls.length ≤ 1024) && decide (∀ j ∈ List.range ls.length, kc ls j = true)
def qh (ls : List TA) : List TA := if ql ls = true then ls else []
def qQ (ls : List TA) : Prop := ∀ e ∈ ls, Qq e.t
theorem qQ.at {ls : List TA} (h : qQ ls) {k : Nat} (hk : k < ls.length) : Qq (aT ls k).t := h _ (List.mem_iff_getElem?.2 ⟨k, vK hk⟩)
theorem qQ.nil : qQ [] := fun e h => by cases h
theorem qQ.append {a b : List TA} (h : qQ a) (k : qQ b) : qQ (a ++ b) := fun e he => by
 rcases List.mem_append.1 he with he | he
 ·exact h e he
 ·exact k e he
theorem qQ.take {a : List TA} (h : qQ a) (n : Nat) : qQ (a.take n) := fun e he => h e (List.mem_of_mem_take he)
theorem qQ.drop {a : List TA} (h : qQ a) (n : Nat) : qQ (a.drop n) := fun e he => h e (List.mem_of_mem_drop he)
theorem Xs {ls : List TA} (h : 1024 < ls.length) : ql ls = false := by
 unfold ql; rw [decide_eq_false (by omega)]; rfl
theorem yK {ls : List TA} {j : Nat} (hj : j < ls.length) (h : kc ls j = false) : ql ls = false := by
 unfold ql
 rw [Bool.and_eq_false_iff]
 right
 exact zB fun e => by rw [e j (List.mem_range.2 hj)] at h; cases h
theorem vE {ls : List TA} (h : ls.length ≤ 1024) (k : ∀ j, j < ls.length → kc ls j = true) : ql ls = true := by
 unfold ql
 rw [decide_eq_true h, Bool.true_and]
 exact zQ fun j hj => k j (List.mem_range.1 hj)
theorem xp {ls : List TA} : ql ls = true ↔ ls.length ≤ 1024 ∧ ∀ j, j < ls.length → kc ls j = true := by
 constructor
 ·intro h
  unfold ql at h; obtain ⟨h1, h2⟩ := Bool.and_eq_true_iff.1 h; exact ⟨of_decide_eq_true h1, fun j hj => of_decide_eq_true h2 j (List.mem_range.2 hj)⟩
 ·rintro ⟨h1, h2⟩; exact vE h1 h2
theorem xf : ql [] = true := vE (by simp) (fun j hj => absurd hj (Nat.not_lt_zero _))
theorem kQ {ls : List TA} (h : ql ls = true) : qh ls = ls := by unfold qh; rw [if_pos h]
theorem JR {ls : List TA} (h : ql ls = false) : qh ls = [] := by unfold qh; rw [h]; rfl
theorem jB (ls : List TA) : ql (qh ls) = true := by
 by_cases h : ql ls = true
 ·rw [kQ h]; exact h
 ·rw [JR (by simpa using h)]; exact xf
theorem yk {ls : List TA} (h : qQ ls) : qQ (qh ls) := by
 unfold qh; split
 ·exact h
 ·exact qQ.nil
theorem vj (ls : List TA) : (qh ls).length ≤ 1024 := (xp.1 (jB ls)).1
theorem JQ (ls : List TA) : (qh ls).length ≤ ls.length := by
 unfold qh; split
 ·exact Nat.le_refl _
 ·exact Nat.zero_le _
def QJ (ls : List TA) : Prop := ls.Pairwise fun a b => yW a b = true
theorem YE {a b c : TA} (h : yW a b = true) (k : yW b c = true) : yW a c = true := by
 unfold yW jC at *
 have h := of_decide_eq_true h
 have k := of_decide_eq_true k
 exact zQ (by omega)
theorem ze5 : ∀ (ls : List TA), (∀ j, 0 < j → j < ls.length → yW (aT ls (j - 1)) (aT ls j) = true) → QJ ls
 | [], _ => List.Pairwise.nil
 | [a], _ => List.pairwise_singleton _ _
 | a :: b :: r, h => by
  have ih := ze5 (b :: r) (fun j hj hl => by
   have := h (j + 1) (by omega) (by simp at hl ⊢; omega)
   rw [Nat.add_sub_cancel] at this; rw [show j = (j - 1) + 1 by omega, Jc] at this; rw [show j - 1 + 1 = j by omega] at this; exact this)
  have hab : yW a b = true := h 1 (by omega) (by simp); refine List.Pairwise.cons (fun e he => ?_) ih; rcases List.mem_cons.1 he with rfl | he
  ·exact hab
  ·exact YE hab ((List.pairwise_cons.1 ih).1 e he)
theorem xL {ls : List TA} (h : ql ls = true) : QJ ls :=
 ze5 ls fun j h0 hj => by
  have := (xp.1 h).2 j hj; unfold kc at this; obtain ⟨_, h2⟩ := Bool.and_eq_true_iff.1 this; rw [decide_eq_false (by omega), Bool.false_or] at h2; exact h2
theorem vR {ls : List TA} (h : ql ls = true) : ∀ e ∈ ls, vf e = true := fun e he => by
 obtain ⟨j, hj, rfl⟩ := List.mem_iff_getElem.1 he
 have := (xp.1 h).2 j hj
 unfold kc at this
 have g := (Bool.and_eq_true_iff.1 this).1
 have a := vK hj
 rw [List.getElem?_eq_getElem hj] at a
 rw [Option.some.inj a]
 exact g
theorem Ym {ls : List TA} (h : ls.length ≤ 1024) (hg : ∀ e ∈ ls, vf e = true) (hs : QJ ls) : ql ls = true :=
 vE h fun j hj => by
  unfold kc; rw [hg _ (List.mem_iff_getElem?.2 ⟨j, vK hj⟩), Bool.true_and]; by_cases h0 : j = 0
  ·rw [decide_eq_true h0]; rfl
  ·rw [decide_eq_false h0, Bool.false_or]
   have := List.pairwise_iff_getElem.1 hs (j - 1) j (by omega) hj (by omega); have a := vK hj; have b := vK (show j - 1 < ls.length by omega); rw [List.getElem?_eq_getElem hj] at a; rw [List.getElem?_eq_getElem (show j - 1 < ls.length by omega)] at b; rw [← Option.some.inj a, ← Option.some.inj b]; exact this
def zT : Nat → Px := fun _ => Px.zero
def qc : List TA → Int → Int → (Nat → Px)
 | [], _, _ => zT
 | e :: r, x, y => if yG e.x e.y x y = true then e.t else qc r x y
def idxL : List TA → Int → Int → Nat
 | [], _, _ => 0
 | e :: r, x, y => if yG e.x e.y x y = true then 0 else idxL r x y + 1
theorem yJ {ls : List TA} (h : qQ ls) (x y : Int) : Qq (qc ls x y) := by
 induction ls with
 | nil => intro i hi; exact Px.zero_ok
 | cons e r ih =>
  unfold qc; split
  ·exact h e (List.mem_cons_self ..)
  ·exact ih (fun e he => h e (List.mem_cons_of_mem _ he))
def xJ (ls : List TA) (x y : Int) : Px := qc ls (x / 8) (y / 8) (8 * (y % 8) + x % 8).toNat
def jr (x y : Int) (t : Nat → Px) : List TA := if ju t = true then [] else [⟨x, y, t⟩]
def xF : List TA → Int → Int → (Nat → Px) → List TA
 | [], x, y, t => jr x y t
 | e :: r, x, y, t => if jC e.x e.y x y = true then e :: xF r x y t else if yG e.x e.y x y = true then jr x y t ++ r else jr x y t ++ e :: r
def cutL : List TA → Int → Int → Nat
 | [], _, _ => 0
 | e :: r, x, y => if jC e.x e.y x y = true then cutL r x y + 1 else 0
def kV (ls : List TA) (x y : Int) : Bool := decide (cutL ls x y < ls.length) && yG (aT ls (cutL ls x y)).x (aT ls (cutL ls x y)).y x y
theorem ZX (ls : List TA) (x y : Int) : cutL ls x y ≤ ls.length := by
 induction ls with
 | nil => exact Nat.le_refl _
 | cons e r ih => unfold cutL; split <;> simp; omega
theorem zaE {ls : List TA} {x y : Int} : ∀ {j : Nat}, j < cutL ls x y → jC (aT ls j).x (aT ls j).y x y = true := by
 induction ls with
 | nil => intro j h; exact absurd h (Nat.not_lt_zero _)
 | cons e r ih =>
  intro j h; unfold cutL at h; split at h
  ·rename_i hl
   cases j with
   | zero => exact hl
   | succ j => exact ih (by omega)
  ·exact absurd h (Nat.not_lt_zero _)
theorem zaD {ls : List TA} {x y : Int} (h : cutL ls x y < ls.length) : jC (aT ls (cutL ls x y)).x (aT ls (cutL ls x y)).y x y = false := by
 induction ls with
 | nil => exact absurd h (Nat.not_lt_zero _)
 | cons e r ih =>
  by_cases hl : jC e.x e.y x y = true
  ·have hc : cutL (e :: r) x y = cutL r x y + 1 := by show (if _ then _ else _) = _; rw [if_pos hl]
   rw [hc] at h ⊢; exact ih (by simpa using h)
  ·have hc : cutL (e :: r) x y = 0 := by show (if _ then _ else _) = _; rw [if_neg hl]
   rw [hc]; show jC e.x e.y x y = false
   simpa using hl
theorem kS (ls : List TA) (x y : Int) (t : Nat → Px) : xF ls x y t = ls.take (cutL ls x y) ++ jr x y t ++ ls.drop (if kV ls x y = true then cutL ls x y + 1 else cutL ls x y) := by
 induction ls with
 | nil => simp [xF, cutL, kV]
 | cons e r ih =>
  by_cases hl : jC e.x e.y x y = true
  ·have hc : cutL (e :: r) x y = cutL r x y + 1 := by show (if _ then _ else _) = _; rw [if_pos hl]
   have hh : kV (e :: r) x y = kV r x y := by
    unfold kV; rw [hc, Jc]; simp
   have hp : xF (e :: r) x y t = e :: xF r x y t := by show (if _ then _ else _) = _; rw [if_pos hl]
   rw [hp, hh, hc, ih, List.take_succ_cons]; by_cases h : kV r x y = true
   ·rw [if_pos h, if_pos h, List.drop_succ_cons]; rfl
   ·rw [if_neg h, if_neg h, List.drop_succ_cons]; rfl
  ·have hc : cutL (e :: r) x y = 0 := by show (if _ then _ else _) = _; rw [if_neg hl]
   have hh : kV (e :: r) x y = yG e.x e.y x y := by
    unfold kV; rw [hc]; show (decide (0 < r.length + 1) && yG e.x e.y x y) = _
    rw [decide_eq_true (Nat.succ_pos _), Bool.true_and]
   have hp : xF (e :: r) x y t = if yG e.x e.y x y = true then jr x y t ++ r else jr x y t ++ e :: r := by show (if _ then _ else _) = _; rw [if_neg hl]
   rw [hp, hh, hc]; by_cases h : yG e.x e.y x y = true
   ·rw [if_pos h, if_pos h]; simp
   ·rw [if_neg h, if_neg h]; simp
theorem QP (x y : Int) (t : Nat → Px) : (jr x y t).length ≤ 1 := by unfold jr; split <;> simp
theorem uN (ls : List TA) (x y : Int) (t : Nat → Px) : (xF ls x y t).length ≤ ls.length + 1 := by
 have h := QP x y t
 rw [kS, List.length_append, List.length_append, List.length_take, List.length_drop]
 have := ZX ls x y
 split <;> omega
theorem zem {x y : Int} {t : Nat → Px} (h : Qq t) : qQ (jr x y t) := by
 unfold jr; split
 ·exact qQ.nil
 ·intro e he
  rw [List.mem_singleton] at he; rw [he]; exact h
theorem VC {ls : List TA} {x y : Int} {t : Nat → Px} (h : qQ ls) (ht : Qq t) : qQ (xF ls x y t) := by
 rw [kS]
 exact ((h.take _).append (zem ht)).append (h.drop _)
def y8 (x y : Int) (t : Nat → Px) : Bool → List TA → List TA
 | d, [] => if d = true then [] else [⟨x, y, t⟩]
 | d, e :: r => if (!d && jC x y e.x e.y) = true then ⟨x, y, t⟩ :: (if yG e.x e.y x y = true then y8 x y t true r else e :: y8 x y t true r)
  else if yG e.x e.y x y = true then y8 x y t d r else e :: y8 x y t d r
theorem QE (x y : Int) (t : Nat → Px) : ∀ (ls : List TA), (∀ e ∈ ls, yG e.x e.y x y = false) → y8 x y t true ls = ls
 | [], _ => rfl
 | e :: r, h => by
  unfold y8; rw [h e (List.mem_cons_self ..)]; simp
  exact QE x y t r fun e he => h e (List.mem_cons_of_mem _ he)
theorem Xg (x y : Int) (t : Nat → Px) (ls : List TA) (h : ∀ e ∈ ls, jC x y e.x e.y = true) : y8 x y t (ju t) ls = jr x y t ++ ls := by
 have hne : ∀ e ∈ ls, yG e.x e.y x y = false := fun e he => by
  have := of_decide_eq_true (h e he); exact zB (by omega)
 by_cases hz : ju t = true
 ·rw [hz, QE x y t ls hne]; unfold jr; rw [if_pos hz]; rfl
 ·have hz' : ju t = false := by simpa using hz
  unfold jr; rw [hz', if_neg (by simp)]; cases ls with
  | nil => rfl
  | cons e r =>
   unfold y8; rw [h e (List.mem_cons_self ..), hne e (List.mem_cons_self ..)]; simp
   exact QE x y t r fun e he => hne e (List.mem_cons_of_mem _ he)
theorem VI (x y : Int) (t : Nat → Px) : ∀ (ls : List TA), QJ ls → y8 x y t (ju t) ls = xF ls x y t
 | [], _ => by unfold y8 xF jr; rfl
 | e :: r, h => by
  obtain ⟨h1, h2⟩ := List.pairwise_cons.1 h; have ih := VI x y t r h2; unfold xF; by_cases hl : jC e.x e.y x y = true
  ·have l' := of_decide_eq_true hl
   have a1 : jC x y e.x e.y = false := zB (by omega); have a2 : yG e.x e.y x y = false := zB (by omega); rw [if_pos hl]; unfold y8; rw [a1, a2, Bool.and_false]; simp [ih]
  ·rw [if_neg hl]
   have l' := of_decide_eq_false (show jC e.x e.y x y = false by simpa using hl); by_cases he : yG e.x e.y x y = true
   ·have e' := of_decide_eq_true he
    rw [if_pos he]; have a1 : jC x y e.x e.y = false := zB (by omega); unfold y8; rw [a1, he, Bool.and_false]; simp
    exact Xg x y t r fun f hf => by
     have := of_decide_eq_true (h1 f hf); exact zQ (by omega)
   ·rw [if_neg he]
    have e' := of_decide_eq_false (show yG e.x e.y x y = false by simpa using he); exact Xg x y t (e :: r) fun f hf => by
     rcases List.mem_cons.1 hf with rfl | hf
     ·exact zQ (by omega)
     ·have := of_decide_eq_true (h1 f hf)
      exact zQ (by omega)
def xk (ls : List TA) : List TA := if ls.length ≤ 1024 then ls else []
def yz (ls : List TA) : Int := if ls.length ≤ 1024 then 0 else 2
def Z9 (ls : List TA) (x y : Int) (t : Nat → Px) : List TA := if qo x y = true then xk (xF (qh ls) x y (qI t)) else []
def YY (ls : List TA) (x y : Int) (t : Nat → Px) : Int := if qo x y = true then yz (xF (qh ls) x y (qI t)) else 1
def zhN (ls : List TA) (x y : Int) (p : Px) : Nat → Px := QF (qc (qh ls) (x / 8) (y / 8)) (x % 8) (y % 8) p
def VS (ls : List TA) (x y : Int) (p : Px) : List TA := Z9 ls (x / 8) (y / 8) (zhN ls x y p)
def zeS (ls : List TA) (x y : Int) (p : Px) : Int := YY ls (x / 8) (y / 8) (zhN ls x y p)
def sqF (n : Nat) : Nat → Nat
 | 0 => 0
 | k + 1 => if (k + 1) * (k + 1) ≤ n then k + 1 else sqF n k
def sqN (n : Nat) : Nat := sqF n n
theorem ze1 (n : Nat) : ∀ k, sqF n k * sqF n k ≤ n
 | 0 => by show 0 * 0 ≤ n; omega
 | k + 1 => by
  unfold sqF; split
  ·assumption
  ·exact ze1 n k
theorem ze0 (n : Nat) : ∀ k, n < (k + 1) * (k + 1) → n < (sqF n k + 1) * (sqF n k + 1)
 | 0, h => h
 | k + 1, h => by
  unfold sqF; split
  ·exact h
  ·exact ze0 n k (by omega)
theorem ze2 (n : Nat) : sqN n * sqN n ≤ n := ze1 n n
theorem zhU (n : Nat) : n < (sqN n + 1) * (sqN n + 1) := ze0 n n (by rw [Nat.add_mul, Nat.mul_add]; omega)
theorem WF {n s : Nat} : s ≤ sqN n ↔ s * s ≤ n := by
 constructor
 ·intro h
  exact Nat.le_trans (Nat.mul_le_mul h h) (ze2 n)
 ·intro h
  rcases Nat.lt_or_ge (sqN n) s with k | k
  ·have := Nat.mul_le_mul (show sqN n + 1 ≤ s from k) (show sqN n + 1 ≤ s from k)
   have := zhU n; omega
  ·exact k
structure Sp where
 x : Int
 y : Int
 p : Int
deriving DecidableEq
structure Db where
 x : Int
 y : Int
 r : Int
deriving DecidableEq
structure jb where
 pts : List Sp
 rad : Int
 spa : Int
 col : Px
 era : Bool
 pha : Int
def Sp.zero : Sp := ⟨0, 0, 0⟩
def jc (l : List Sp) (i : Nat) : Sp := l.getD i Sp.zero
theorem qG {l : List Sp} {i : Nat} (h : i < l.length) : l[i]? = some (jc l i) := by
 unfold jc
 rw [List.getD_eq_getElem?_getD, List.getElem?_eq_getElem h]
 rfl
def vk (x : Int) : Bool := decide (-1048576 ≤ x ∧ x ≤ 1048575)
def Q6 (a : Sp) : Prop := -1048576 ≤ a.x ∧ a.x ≤ 1048575 ∧ -1048576 ≤ a.y ∧ a.y ≤ 1048575 ∧ 0 ≤ a.p ∧ a.p ≤ 255
instance (a : Sp) : Decidable (Q6 a) := by unfold Q6; infer_instance
def Z4 (a b : Sp) : Int := (b.x - a.x) * (b.x - a.x) + (b.y - a.y) * (b.y - a.y)
def kt (a b : Sp) : Int := (sqN (Z4 a b).toNat : Nat)
theorem VU (x : Int) : 0 ≤ x * x := by
 rcases Int.le_total 0 x with h | h
 ·exact Int.mul_nonneg h h
 ·have := Int.mul_nonneg (show 0 ≤ -x by omega) (show 0 ≤ -x by omega)
  rw [Int.neg_mul_neg] at this; exact this
theorem Zu {x m : Int} (h1 : -m ≤ x) (h2 : x ≤ m) : 0 ≤ x * x ∧ x * x ≤ m * m := by
 refine ⟨VU x, ?_⟩
 rcases Int.le_total 0 x with h | h
 ·exact (jX h h2 h h2).2
 ·have := (jX (a := -x) (b := -x) (m := m) (k := m) (by omega) (by omega) (by omega) (by omega)).2
  rw [Int.neg_mul_neg] at this; exact this
theorem YS {a b : Sp} (ha : Q6 a) (hb : Q6 b) : 0 ≤ Z4 a b ∧ Z4 a b ≤ 8796084633602 := by
 obtain ⟨a1, a2, a3, a4, _, _⟩ := ha
 obtain ⟨b1, b2, b3, b4, _, _⟩ := hb
 have h1 := Zu (x := b.x - a.x) (m := 2097151) (by omega) (by omega)
 have h2 := Zu (x := b.y - a.y) (m := 2097151) (by omega) (by omega)
 unfold Z4
 omega
theorem u9 (a b : Sp) : 0 ≤ kt a b := by unfold kt; omega
theorem Z3 {a b : Sp} (ha : Q6 a) (hb : Q6 b) : kt a b ≤ 2965821 := by
 obtain ⟨h1, h2⟩ := YS ha hb
 have h := ze2 (Z4 a b).toNat
 unfold kt
 have : ¬ (2965822 ≤ sqN (Z4 a b).toNat) := fun k => by
  have := Nat.mul_le_mul k k; omega
 omega
def jK (l : List Sp) : Nat → Int
 | 0 => 0
 | k + 1 => jK l k + kt (jc l k) (jc l (k + 1))
def yn (l : List Sp) : Int := jK l (l.length - 1)
theorem wZ (l : List Sp) : ∀ k, 0 ≤ jK l k
 | 0 => Int.le_refl _
 | k + 1 => by
  have h1 := wZ l k; have h2 := u9 (jc l k) (jc l (k + 1)); show 0 ≤ jK l k + kt (jc l k) (jc l (k + 1))
  omega
theorem XZ (l : List Sp) {i j : Nat} (h : i ≤ j) : jK l i ≤ jK l j := by
  induction j with
  | zero => have : i = 0 := by omega
            subst this; exact Int.le_refl _
  | succ j ih =>
    rcases Nat.lt_or_ge j i with k | k
    · have : i = j + 1 := by omega
      subst this; exact Int.le_refl _
    · have h1 := ih k
      have h2 := u9 (jc l j) (jc l (j + 1)); show jK l i ≤ jK l j + kt (jc l j) (jc l (j + 1))
      omega
theorem Zc {l : List Sp} (h : ∀ a ∈ l, Q6 a) : ∀ k, k < l.length ∨ k = 0 → jK l k ≤ 2965821 * k
 | 0, _ => by show (0 : Int) ≤ _; omega
 | k + 1, hk => by
  have hk : k + 1 < l.length := by omega
  have h1 := Zc h k (by omega); have h2 := Z3 (h _ (List.mem_of_getElem? (qG (show k < l.length by omega)))) (h _ (List.mem_of_getElem? (qG hk))); show jK l k + kt (jc l k) (jc l (k + 1)) ≤ _
  omega
def ul (l : List Sp) : Bool := decide (∀ a ∈ l, Q6 a)
def zgn (s : jb) : Bool := decide (1 ≤ s.pts.length ∧ s.pts.length ≤ 64 ∧ 1 ≤ s.rad ∧ s.rad ≤ 256 ∧ 1 ≤ s.spa ∧ s.spa ≤ 4096 ∧ 0 ≤ s.pha ∧ s.pha ≤ 1048575)
def jT (s : jb) : Bool := zgn s && (ul s.pts && decide (yn s.pts - s.pha ≤ 1024 * s.spa))
structure XM (s : jb) : Prop where
 l1 : 1 ≤ s.pts.length
 l2 : s.pts.length ≤ 64
 r1 : 1 ≤ s.rad
 r2 : s.rad ≤ 256
 s1 : 1 ≤ s.spa
 s2 : s.spa ≤ 4096
 p1 : 0 ≤ s.pha
 p2 : s.pha ≤ 1048575
 ok : ∀ a ∈ s.pts, Q6 a
 fit : yn s.pts - s.pha ≤ 1024 * s.spa
theorem xq (s : jb) : jT s = true ↔ XM s := by
 unfold jT zgn ul
 rw [Bool.and_eq_true, Bool.and_eq_true, decide_eq_true_iff, decide_eq_true_iff, decide_eq_true_iff]
 constructor
 ·rintro ⟨⟨a1, a2, a3, a4, a5, a6, a7, a8⟩, b, c⟩
  exact ⟨a1, a2, a3, a4, a5, a6, a7, a8, b, c⟩
 ·rintro ⟨a1, a2, a3, a4, a5, a6, a7, a8, b, c⟩
  exact ⟨⟨a1, a2, a3, a4, a5, a6, a7, a8⟩, b, c⟩
theorem XM.pt {s : jb} (h : XM s) {i : Nat} (hi : i < s.pts.length) : Q6 (jc s.pts i) := h.ok _ (List.mem_of_getElem? (qG hi))
theorem XM.pre {s : jb} (h : XM s) {k : Nat} (hk : k < s.pts.length) : 0 ≤ jK s.pts k ∧ jK s.pts k ≤ 189812544 := by
 have h1 := Zc h.ok k (.inl hk)
 have h2 := h.l2
 refine ⟨wZ _ _, ?_⟩
 omega
theorem XM.tot {s : jb} (h : XM s) : 0 ≤ yn s.pts ∧ yn s.pts ≤ 189812544 := h.pre (by have := h.l1; omega)
def zdK (s : jb) (x y p : Int) : Db := ⟨x, y, zG (s.rad * p) 255⟩
def zbL (s : jb) (a b : Sp) (e l : Int) : Db := zdK s (a.x + zG ((b.x - a.x) * e) l) (a.y + zG ((b.y - a.y) * e) l) (a.p + zG ((b.p - a.p) * e) l)
def zgi (l : List Sp) (d : Int) : Nat → Nat → Nat
 | 0, i => i
 | f + 1, i => if d < jK l (i + 1) then i else zgi l d f (i + 1)
def zb4 (l : List Sp) (d : Int) : Nat := zgi l d l.length 0
theorem zaX {l : List Sp} {d : Int} {j : Nat} (h1 : jK l j ≤ d) (h2 : d < jK l (j + 1)) : ∀ f i, i ≤ j → j ≤ i + f → zgi l d f i = j
 | 0, i, h3, h4 => by show i = j; omega
 | f + 1, i, h3, h4 => by
  unfold zgi; by_cases h : i = j
  ·subst h
   rw [if_pos h2]
  ·have := XZ l (show i + 1 ≤ j by omega)
   rw [if_neg (by omega)]; exact zaX h1 h2 f (i + 1) (by omega) (by omega)
theorem zaW {l : List Sp} {d : Int} {j : Nat} (h1 : jK l j ≤ d) (h2 : d < jK l (j + 1)) (hj : j ≤ l.length) : zb4 l d = j := zaX h1 h2 _ _ (Nat.zero_le _) (by omega)
theorem zei {l : List Sp} {d : Int} (h0 : 0 ≤ d) : ∀ k, d < jK l k → ∃ j, j < k ∧ jK l j ≤ d ∧ d < jK l (j + 1)
 | 0, h => by
  have : jK l 0 = 0 := rfl; omega
 | k + 1, h => by
  rcases Int.lt_or_le d (jK l k) with g | g
  ·obtain ⟨j, h1, h2⟩ := zei h0 k g
   exact ⟨j, by omega, h2⟩
  ·exact ⟨k, by omega, g, h⟩
def zdL (s : jb) (d : Int) : Db := zbL s (jc s.pts (zb4 s.pts d)) (jc s.pts (zb4 s.pts d + 1)) (d - jK s.pts (zb4 s.pts d)) (kt (jc s.pts (zb4 s.pts d)) (jc s.pts (zb4 s.pts d + 1)))
def xA (s : jb) (k : Nat) : Db := if s.pts.length = 1 then zdK s (jc s.pts 0).x (jc s.pts 0).y (jc s.pts 0).p else zdL s (s.pha + k * s.spa)
def zay (t p a : Int) : Nat := ((t - p + a - 1) / a).toNat
def xu (s : jb) : Nat := if s.pts.length = 1 then 1 else zay (yn s.pts) s.pha s.spa
def xS (s : jb) : List Db := (List.range (xu s)).map (xA s)
def yY (s : jb) : List Db := if jT s = true then xS s else []
theorem JK {t p a : Int} (ha : 1 ≤ a) {k : Nat} : k < zay t p a ↔ p + k * a < t := by
 unfold zay
 constructor
 ·intro h
  have h1 : ((k : Int) + 1) ≤ (t - p + a - 1) / a := by omega
  have h2 := (Int.le_ediv_iff_mul_le (by omega)).1 h1; rw [Int.add_mul, Int.one_mul] at h2; omega
 ·intro h
  have h1 : ((k : Int) + 1) ≤ (t - p + a - 1) / a := by
   rw [Int.le_ediv_iff_mul_le (by omega), Int.add_mul, Int.one_mul]; omega
  omega
theorem zdG {t p a : Int} (ha : 1 ≤ a) {k : Nat} : zay t p a ≤ k ↔ t ≤ p + k * a := by
 have := JK (t := t) (p := p) ha (k := k)
 omega
theorem JN {s : jb} (h : XM s) : xu s ≤ 1024 := by
 unfold xu
 split
 ·omega
 ·rw [zdG h.s1]
  have := h.fit; omega
theorem Qu (s : jb) : (xS s).length = xu s := by unfold xS; rw [List.length_map, List.length_range]
theorem zcn {D e l : Int} (he : 0 ≤ e) (hl : e < l) : (0 ≤ D → 0 ≤ zG (D * e) l ∧ zG (D * e) l ≤ D) ∧ (D ≤ 0 → D ≤ zG (D * e) l ∧ zG (D * e) l ≤ 0) := by
 unfold zG
 constructor
 ·intro h
  have h1 := Int.mul_nonneg h he; have h2 : D * e ≤ D * l := Int.mul_le_mul_of_nonneg_left (by omega) h; refine ⟨Int.ediv_nonneg (by omega) (by omega), ?_⟩; have : (2 * (D * e) + l) / (2 * l) < D + 1 := by
   apply Int.ediv_lt_of_lt_mul (by omega)
   have e1 : (D + 1) * (2 * l) = 2 * (D * l) + 2 * l := by rw [Int.add_mul, Int.one_mul, Int.mul_left_comm]
   omega
  omega
 ·intro h
  have h1 : D * e ≤ 0 := Int.mul_nonpos_of_nonpos_of_nonneg h he; have h2 : D * l ≤ D * e := by
   have := Int.mul_le_mul_of_nonneg_left (show e ≤ l by omega) (show 0 ≤ -D by omega); rw [Int.neg_mul, Int.neg_mul] at this; omega
  constructor
  ·rw [Int.le_ediv_iff_mul_le (by omega), Int.mul_left_comm]
   omega
  ·have : (2 * (D * e) + l) / (2 * l) < 1 := by
    apply Int.ediv_lt_of_lt_mul (by omega)
    omega
   omega
theorem wX {a b e l m n : Int} (he : 0 ≤ e) (hl : e < l) (ha : m ≤ a ∧ a ≤ n) (hb : m ≤ b ∧ b ≤ n) : m ≤ a + zG ((b - a) * e) l ∧ a + zG ((b - a) * e) l ≤ n := by
 have h := zcn (D := b - a) he hl
 rcases Int.le_total 0 (b - a) with k | k
 ·have := h.1 k
  omega
 ·have := h.2 k
  omega
def Wc (d : Db) : Prop := -1048576 ≤ d.x ∧ d.x ≤ 1048575 ∧ -1048576 ≤ d.y ∧ d.y ≤ 1048575 ∧ 0 ≤ d.r ∧ d.r ≤ 256
theorem zaF {s : jb} (h : XM s) {x y p : Int} (hk : Q6 ⟨x, y, p⟩) : Wc (zdK s x y p) := by
 obtain ⟨h1, h2, h3, h4, h5, h6⟩ := hk
 simp only at h1 h2 h3 h4 h5 h6
 have hr := h.r1
 have hr2 := h.r2
 have h7 := jX (a := s.rad) (b := p) (m := 256) (k := 255) (by omega) (by omega) h5 h6
 have h8 := yH (n := s.rad * p) (d := 255) (m := 256) h7.1 (by omega) (by omega)
 exact ⟨h1, h2, h3, h4, h8.1, h8.2⟩
theorem zfT {s : jb} (h : XM s) {a b : Sp} (ha : Q6 a) (hb : Q6 b) {e l : Int} (he : 0 ≤ e) (hl : e < l) : Wc (zbL s a b e l) := by
 obtain ⟨a1, a2, a3, a4, a5, a6⟩ := ha
 obtain ⟨b1, b2, b3, b4, b5, b6⟩ := hb
 have h1 := wX he hl ⟨a1, a2⟩ ⟨b1, b2⟩
 have h2 := wX he hl ⟨a3, a4⟩ ⟨b3, b4⟩
 have h3 := wX he hl ⟨a5, a6⟩ ⟨b5, b6⟩
 exact zaF h ⟨h1.1, h1.2, h2.1, h2.2, h3.1, h3.2⟩
theorem zfU {s : jb} (h : XM s) (hn : s.pts.length ≠ 1) {k : Nat} (hk : k < xu s) : ∃ j, j + 1 < s.pts.length ∧ jK s.pts j ≤ s.pha + k * s.spa ∧ s.pha + k * s.spa < jK s.pts (j + 1) ∧ xA s k = zbL s (jc s.pts j) (jc s.pts (j + 1)) (s.pha + k * s.spa - jK s.pts j) (kt (jc s.pts j) (jc s.pts (j + 1))) := by
 unfold xu at hk
 rw [if_neg hn, JK h.s1] at hk
 have h0 : 0 ≤ (k : Int) * s.spa := Int.mul_nonneg (by omega) (by have := h.s1; omega)
 have hp := h.p1
 obtain ⟨j, h1, h2, h3⟩ := zei (l := s.pts) (d := s.pha + k * s.spa) (by omega) _ hk
 refine ⟨j, by omega, h2, h3, ?_⟩
 unfold xA zdL
 rw [if_neg hn, zaW h2 h3 (by omega)]
theorem zaG {s : jb} (hn : s.pts.length ≠ 1) {k j : Nat} (hj : j < s.pts.length) (h2 : jK s.pts j ≤ s.pha + k * s.spa) (h3 : s.pha + k * s.spa < jK s.pts (j + 1)) : xA s k = zbL s (jc s.pts j) (jc s.pts (j + 1)) (s.pha + k * s.spa - jK s.pts j) (kt (jc s.pts j) (jc s.pts (j + 1))) := by
 unfold xA zdL
 rw [if_neg hn, zaW h2 h3 (by omega)]
theorem zaH {s : jb} (h : XM s) {k : Nat} (hk : k < xu s) : Wc (xA s k) := by
 by_cases hn : s.pts.length = 1
 ·unfold xA
  rw [if_pos hn]; exact zaF h (h.pt (by omega))
 ·obtain ⟨j, h1, h2, h3, e⟩ := zfU h hn hk
  rw [e]; refine zfT h (h.pt (by omega)) (h.pt h1) (by omega) ?_; have : jK s.pts (j + 1) = jK s.pts j + kt (jc s.pts j) (jc s.pts (j + 1)) := rfl; omega
theorem K6 {s : jb} (h : XM s) : ∀ d ∈ xS s, Wc d := fun d hd => by
 obtain ⟨k, hk, rfl⟩ := List.mem_map.1 hd
 exact zaH h (List.mem_range.1 hk)
theorem zdM (s : jb) : ∀ d ∈ yY s, Wc d := fun d hd => by
 unfold yY at hd
 split at hd
 ·rename_i hv
  exact K6 ((xq s).1 hv) d hd
 ·cases hd
theorem zbO (s : jb) : (yY s).length ≤ 1024 := by
 unfold yY
 split
 ·rename_i hv
  rw [Qu]; exact JN ((xq s).1 hv)
 ·simp
def dx4 (i : Nat) : Int := 4 * (i : Int) + 2
def ZE (d : Db) (x y : Int) (i j : Nat) : Bool := decide ((16 * x + dx4 i - d.x) * (16 * x + dx4 i - d.x) + (16 * y + dx4 j - d.y) * (16 * y + dx4 j - d.y) ≤ d.r * d.r)
def yw (d : Db) (x y : Int) (σ : Nat → Nat × Nat) : Nat → Int
 | 0 => 0
 | k + 1 => yw d x y σ k + (if ZE d x y (σ k).1 (σ k).2 = true then 1 else 0)
def Kh (d : Db) (x y : Int) : Int := yw d x y (fun k => (k / 4, k % 4)) 16
def zi0 (d : Db) (x y : Int) : Int := yw d x y (fun k => (k % 4, k / 4)) 16
theorem zbc (d : Db) (x y : Int) (σ : Nat → Nat × Nat) : ∀ k, 0 ≤ yw d x y σ k ∧ yw d x y σ k ≤ k
 | 0 => ⟨Int.le_refl _, Int.le_refl _⟩
 | k + 1 => by
  have := zbc d x y σ k; show 0 ≤ yw d x y σ k + (if ZE d x y (σ k).1 (σ k).2 = true then 1 else 0) ∧ yw d x y σ k + (if ZE d x y (σ k).1 (σ k).2 = true then 1 else 0) ≤ ((k + 1 : Nat) : Int)
  split <;> omega
theorem zeX (d : Db) (x y : Int) : zi0 d x y = Kh d x y := by
 unfold zi0 Kh yw yw yw yw yw yw yw yw yw yw yw yw yw yw yw yw yw
 simp only [Nat.reduceDiv, Nat.reduceMod]
 omega
def zb9 (d : Db) : Bool := decide (1 ≤ d.r ∧ d.r ≤ 256) && (vk d.x && vk d.y)
def kP (d : Db) (x y : Int) : Int := if zb9 d = true then zG (255 * Kh d x y) 16 else 0
theorem zeW {d : Db} {x y : Int} (h : ∀ i j, i < 4 → j < 4 → ZE d x y i j = false) : Kh d x y = 0 := by
 unfold Kh
 have : ∀ k, k ≤ 16 → yw d x y (fun k => (k / 4, k % 4)) k = 0 := by
  intro k
  induction k with
  | zero => intro _; rfl
  | succ k ih =>
   intro hk; show yw d x y _ k + (if ZE d x y (k / 4) (k % 4) = true then 1 else 0) = 0
   rw [ih (by omega), h _ _ (by omega) (by omega)]
   rfl
 exact this 16 (Nat.le_refl _)
def kZ (d : Db) : Rc := ⟨(d.x - d.r) / 16, (d.y - d.r) / 16, (d.x + d.r) / 16 + 1, (d.y + d.r) / 16 + 1⟩
theorem zhw {d : Db} {x y : Int} {i j : Nat} (hi : i < 4) (hj : j < 4) (hr : 0 ≤ d.r) (h : ZE d x y i j = true) : jx (kZ d) x y = true := by
 have h := of_decide_eq_true h
 have h1 := VU (16 * x + dx4 i - d.x)
 have h2 := VU (16 * y + dx4 j - d.y)
 have key : ∀ u : Int, u * u ≤ d.r * d.r → -d.r ≤ u ∧ u ≤ d.r := by
  intro u hu
  constructor
  ·rcases Int.lt_or_le u (-d.r) with k | k
   ·have := (jX (a := d.r + 1) (b := d.r + 1) (m := -u) (k := -u) (by omega) (by omega) (by omega) (by omega)).2
    rw [Int.neg_mul_neg, Int.add_mul, Int.one_mul, Int.mul_add, Int.mul_one] at this; omega
   ·exact k
  ·rcases Int.lt_or_le d.r u with k | k
   ·have := (jX (a := d.r + 1) (b := d.r + 1) (m := u) (k := u) (by omega) (by omega) (by omega) (by omega)).2
    rw [Int.add_mul, Int.one_mul, Int.mul_add, Int.mul_one] at this; omega
   ·exact k
 have k1 := key _ (show (16 * x + dx4 i - d.x) * (16 * x + dx4 i - d.x) ≤ d.r * d.r by omega)
 have k2 := key _ (show (16 * y + dx4 j - d.y) * (16 * y + dx4 j - d.y) ≤ d.r * d.r by omega)
 unfold dx4 at k1 k2
 unfold jx kZ
 refine zQ ?_
 simp only
 omega
theorem zgE {d : Db} {x y : Int} (hr : 0 ≤ d.r) (h : jx (kZ d) x y = false) : Kh d x y = 0 := zeW fun i j hi hj => by
 cases hh : ZE d x y i j with
 | false => rfl
 | true => rw [zhw hi hj hr hh] at h; cases h
theorem zhL : zG (255 * 0) 16 = 0 := by decide
theorem K5 {d : Db} {x y : Int} (h : jx (kZ d) x y = false) : kP d x y = 0 := by
 unfold kP
 split
 ·rename_i hk
  unfold zb9 at hk; rw [Bool.and_eq_true, decide_eq_true_iff] at hk; rw [zgE (by omega) h]; exact zhL
 ·rfl
theorem zaA (d : Db) (x y : Int) : 0 ≤ kP d x y ∧ kP d x y ≤ 255 := by
 unfold kP
 split
 ·have h := zbc d x y (fun k => (k / 4, k % 4)) 16
  change 0 ≤ Kh d x y ∧ Kh d x y ≤ 16 at h
  exact yH (by omega) (by omega) (by omega)
 ·omega
def JD (l : List Db) : Rc := l.foldl (fun a d => if 0 < d.r then yx a (kZ d) else a) Rc.zero
def Q5 : Rc := ⟨-65536, -65536, 65536, 65536⟩
def zgP (s : jb) : Rc := y4 (JD (yY s)) Q5
theorem Z8 {ls : List TA} {x y : Int} {t : Nat → Px} {e : TA} (h : e ∈ xF ls x y t) : e ∈ ls ∨ (e = ⟨x, y, t⟩ ∧ ju t = false) := by
 have hn : ∀ {e : TA}, e ∈ jr x y t → e = ⟨x, y, t⟩ ∧ ju t = false := fun {e} he => by
  unfold jr at he; split at he
  ·cases he
  ·rename_i hz
   exact ⟨List.mem_singleton.1 he, by simpa using hz⟩
 induction ls with
 | nil => exact .inr (hn h)
 | cons f r ih =>
  unfold xF at h; split at h
  ·rcases List.mem_cons.1 h with rfl | h
   ·exact .inl (List.mem_cons_self ..)
   ·rcases ih h with h | h
    ·exact .inl (List.mem_cons_of_mem _ h)
    ·exact .inr h
  ·split at h
   ·rcases List.mem_append.1 h with h | h
    ·exact .inr (hn h)
    ·exact .inl (List.mem_cons_of_mem _ h)
   ·rcases List.mem_append.1 h with h | h
    ·exact .inr (hn h)
    ·exact .inl h
theorem J0 {x y : Int} {t : Nat → Px} {ls : List TA} (h : QJ ls) (k : ∀ e ∈ ls, jC x y e.x e.y = true) : QJ (jr x y t ++ ls) := by
 unfold jr
 split
 ·exact h
 ·exact List.Pairwise.cons k h
theorem J9 {ls : List TA} {x y : Int} {t : Nat → Px} (h : QJ ls) : QJ (xF ls x y t) := by
 induction ls with
 | nil =>
  have := J0 (x := x) (y := y) (t := t) (ls := []) List.Pairwise.nil (fun e he => by cases he); rw [List.append_nil] at this; exact this
 | cons f r ih =>
  obtain ⟨h1, h2⟩ := List.pairwise_cons.1 h; unfold xF; split
  ·rename_i hl
   refine List.Pairwise.cons (fun e he => ?_) (ih h2); rcases Z8 he with he | ⟨rfl, _⟩
   ·exact h1 e he
   ·exact hl
  ·rename_i hl
   have l' := of_decide_eq_false (show jC f.x f.y x y = false by simpa using hl); split
   ·rename_i hq
    have e' := of_decide_eq_true hq; exact J0 h2 fun e he => by
     have := of_decide_eq_true (h1 e he); exact zQ (by omega)
   ·rename_i hq
    have e' := of_decide_eq_false (show yG f.x f.y x y = false by simpa using hq); refine J0 h fun e he => ?_
    rcases List.mem_cons.1 he with rfl | he
    ·exact zQ (by omega)
    ·have := of_decide_eq_true (h1 e he)
     exact zQ (by omega)
theorem X5 {ls : List TA} {x y : Int} {t : Nat → Px} (h : ∀ e ∈ ls, vf e = true) (hw : qo x y = true) (hc : wV (qI t) t = true) : ∀ e ∈ xF ls x y t, vf e = true := fun e he => by
 rcases Z8 he with he | ⟨rfl, hz⟩
 ·exact h e he
 ·unfold vf
  rw [hw, hz, hc]; rfl
theorem K4 (t : Nat → Px) : wV (qI (qI t)) (qI t) = true := uH fun j hj => by
 unfold qI jo
 split
 ·split <;> rfl
 ·rfl
theorem WW {ls : List TA} {x y : Int} {t : Nat → Px} (h : ql ls = true) (hw : qo x y = true) (hl : (xF ls x y (qI t)).length ≤ 1024) : ql (xF ls x y (qI t)) = true :=
 Ym hl (X5 (vR h) hw (K4 t)) (J9 (xL h))
theorem WX (ls : List TA) (x y : Int) (t : Nat → Px) : ql (Z9 ls x y t) = true := by
 unfold Z9
 split
 ·rename_i hw
  unfold xk; split
  ·rename_i hl
   exact WW (jB ls) hw hl
  ·exact xf
 ·exact xf
theorem zeD {ls : List TA} {x y : Int} {t : Nat → Px} (h : qQ ls) (ht : Qq t) : qQ (Z9 ls x y t) := by
 have hc : Qq (qI t) := fun i hi => u5 (ht i hi)
 unfold Z9 xk
 split
 ·split
  ·exact VC (yk h) hc
  ·exact qQ.nil
 ·exact qQ.nil
theorem zeU {t : Nat → Px} {x y : Int} {p : Px} (h : Qq t) (hp : p.ok) : Qq (QF t x y p) := by
 unfold QF
 split
 ·intro i hi
  unfold ZP; split
  ·exact hp
  ·exact h i hi
 ·exact h
theorem VT {ls : List TA} {x y : Int} {p : Px} (h : qQ ls) (hp : p.ok) : Qq (zhN ls x y p) := zeU (yJ (yk h) _ _) hp
theorem zeT {ls : List TA} {x y : Int} {p : Px} (h : qQ ls) (hp : p.ok) : qQ (VS ls x y p) := zeD h (VT h hp)
theorem ZK {ls : List TA} {x y : Int} (h : ∀ e ∈ ls, yG e.x e.y x y = false) : qc ls x y = zT := by
 induction ls with
 | nil => rfl
 | cons e r ih =>
  unfold qc; rw [h e (List.mem_cons_self ..)]; exact ih fun e he => h e (List.mem_cons_of_mem _ he)
theorem ud (a b : List TA) (x y : Int) (h : ∀ e ∈ a, yG e.x e.y x y = false) : qc (a ++ b) x y = qc b x y := by
 induction a with
 | nil => rfl
 | cons e r ih =>
  rw [List.cons_append]; show (if _ then _ else _) = _
  rw [h e (List.mem_cons_self ..)]; exact ih fun e he => h e (List.mem_cons_of_mem _ he)
theorem ZH {x y x' y' : Int} {t : Nat → Px} (h : yG x y x' y' = false) : ∀ e ∈ jr x y t, yG e.x e.y x' y' = false := fun e he => by
 unfold jr at he
 split at he
 ·cases he
 ·rw [List.mem_singleton.1 he]; exact h
theorem uq (ls : List TA) (x y : Int) (t : Nat → Px) {x' y' : Int} (h : yG x y x' y' = false) : qc (xF ls x y t) x' y' = qc ls x' y' := by
 have h' := of_decide_eq_false h
 induction ls with
 | nil => exact ZK (ZH h)
 | cons e r ih =>
  unfold xF; split
  ·show (if _ then _ else _) = (if _ then _ else _)
   rw [ih]
  ·split
   ·rename_i hq
    have q := of_decide_eq_true hq; rw [ud _ _ _ _ (ZH h)]; show _ = if _ then _ else _
    rw [show yG e.x e.y x' y' = false from zB (by omega)]
    rfl
   ·rw [ud _ _ _ _ (ZH h)]
theorem Xq {ls : List TA} (hs : QJ ls) (x y : Int) (t : Nat → Px) : qc (xF ls x y t) x y = if ju t = true then zT else t := by
 have hself : yG x y x y = true := zQ ⟨rfl, rfl⟩
 have hnew : ∀ r : List TA, (∀ e ∈ r, yG e.x e.y x y = false) → qc (jr x y t ++ r) x y = if ju t = true then zT else t := fun r hr => by
  unfold jr; split
  ·exact ZK hr
  ·show (if _ then _ else _) = _
   rw [if_pos hself]
 induction ls with
 | nil =>
  have := hnew [] (fun e he => by cases he); rw [List.append_nil] at this; exact this
 | cons e r ih =>
  obtain ⟨h1, h2⟩ := List.pairwise_cons.1 hs; unfold xF; split
  ·rename_i hl
   have l := of_decide_eq_true hl; show (if _ then _ else _) = _
   rw [show yG e.x e.y x y = false from zB (by omega)]; exact ih h2
  ·rename_i hl
   have l := of_decide_eq_false (show jC e.x e.y x y = false by simpa using hl); split
   ·rename_i hq
    have q := of_decide_eq_true hq; exact hnew r fun f hf => by
     have := of_decide_eq_true (h1 f hf); exact zB (by omega)
   ·rename_i hq
    have q := of_decide_eq_false (show yG e.x e.y x y = false by simpa using hq); refine hnew (e :: r) fun f hf => ?_
    rcases List.mem_cons.1 hf with rfl | hf
    ·exact zB q
    ·have := of_decide_eq_true (h1 f hf)
     exact zB (by omega)
theorem zcv {ls : List TA} (hs : QJ ls) {e : TA} (he : e ∈ ls) : qc ls e.x e.y = e.t := by
 induction ls with
 | nil => cases he
 | cons f r ih =>
  obtain ⟨h1, h2⟩ := List.pairwise_cons.1 hs; show (if _ then _ else _) = _
  rcases List.mem_cons.1 he with rfl | he
  ·rw [show yG e.x e.y e.x e.y = true from zQ ⟨rfl, rfl⟩]; rfl
  ·have := of_decide_eq_true (h1 e he)
   rw [show yG f.x f.y e.x e.y = false from zB (by omega)]; exact ih h2 he
theorem YM (ls : List TA) (x y : Int) : idxL ls x y ≤ ls.length := by
 induction ls with
 | nil => exact Nat.le_refl _
 | cons e r ih => unfold idxL; split <;> simp; omega
theorem Zf (ls : List TA) (x y : Int) : qc ls x y = if idxL ls x y < ls.length then (aT ls (idxL ls x y)).t else zT := by
 induction ls with
 | nil => rfl
 | cons e r ih =>
  unfold qc idxL; split
  ·rw [if_pos (by simp)]; rfl
  ·rw [ih, List.length_cons, Jc]
   by_cases h : idxL r x y < r.length
   ·rw [if_pos h, if_pos (by omega)]
   ·rw [if_neg h, if_neg (by omega)]
theorem zaO {ls : List TA} {x y : Int} : ∀ {j : Nat}, j < idxL ls x y → yG (aT ls j).x (aT ls j).y x y = false := by
 induction ls with
 | nil => intro j h; exact absurd h (Nat.not_lt_zero _)
 | cons e r ih =>
  intro j h; unfold idxL at h; split at h
  ·exact absurd h (Nat.not_lt_zero _)
  ·rename_i hl
   cases j with
   | zero => show yG e.x e.y x y = false; simpa using hl
   | succ j => exact ih (by omega)
theorem zaN {ls : List TA} {x y : Int} (h : idxL ls x y < ls.length) : yG (aT ls (idxL ls x y)).x (aT ls (idxL ls x y)).y x y = true := by
 induction ls with
 | nil => exact absurd h (Nat.not_lt_zero _)
 | cons e r ih =>
  by_cases hl : yG e.x e.y x y = true
  ·have hc : idxL (e :: r) x y = 0 := by show (if _ then _ else _) = _; rw [if_pos hl]
   rw [hc]; exact hl
  ·have hc : idxL (e :: r) x y = idxL r x y + 1 := by show (if _ then _ else _) = _; rw [if_neg hl]
   rw [hc] at h ⊢; exact ih (by simpa using h)
def xE (e : TA) : Array Value := #[.int .i64 e.x, .int .i64 e.y] ++ qU e.t
def Ta.v (e : TA) : Value := .agg (xE e)
theorem zP (e : TA) : (xE e).size = 258 := by unfold xE; rw [Array.size_append, jN]; rfl
theorem Yg (e : TA) : (xE e)[0]? = some (.int .i64 e.x) := by unfold xE; rw [Array.getElem?_append_left (by simp)]; rfl
theorem VY (e : TA) : (xE e)[1]? = some (.int .i64 e.y) := by unfold xE; rw [Array.getElem?_append_left (by simp)]; rfl
theorem VX (e : TA) (j : Nat) : (xE e)[2 + j]? = (qU e.t)[j]? := by
 unfold xE
 rw [Array.getElem?_append_right (by simp)]
 simp
theorem zhX (e f : TA) (hx : e.x = f.x) (hy : e.y = f.y) (ht : qU e.t = qU f.t) : xE e = xE f := by unfold xE; rw [hx, hy, ht]
theorem QZ (e : TA) : ∀ u ∈ (xE e).toList, u.oneCell' = true := by
 intro u hu
 obtain ⟨i, h⟩ := List.mem_iff_getElem?.1 hu
 rw [Array.getElem?_toList] at h
 have hs : i < 258 := by rw [← zP e]; exact (Array.getElem?_eq_some_iff.1 h).1
 match i, hs with
 | 0, _ => rw [Yg] at h; rw [← Option.some.inj h]; rfl
 | 1, _ => rw [VY] at h; rw [← Option.some.inj h]; rfl
 | j + 2, hs =>
  rw [Nat.add_comm j 2, VX, kC, if_pos (by omega)] at h; rw [← Option.some.inj h]; unfold pxC; repeat' split
  all_goals rfl
attribute [irreducible] xE
def vC : List TA → List Value
 | [] => []
 | e :: r => (xE e).toList ++ vC r
theorem kT (a b : List TA) : vC (a ++ b) = vC a ++ vC b := by
 induction a with
 | nil => rfl
 | cons e r ih => rw [List.cons_append]; show _ ++ vC (r ++ b) = _; rw [ih]; show _ = (_ ++ _) ++ _; rw [List.append_assoc]
theorem uO (ls : List TA) : (vC ls).length = ls.length * 258 := by
 induction ls with
 | nil => rfl
 | cons e r ih => show ((xE e).toList ++ vC r).length = _; rw [List.length_append, ih, Array.length_toList, zP, List.length_cons]; omega
theorem Jl (ls : List TA) : ∀ i j, i < ls.length → j < 258 → (vC ls)[i * 258 + j]? = (xE (aT ls i))[j]? := by
 induction ls with
 | nil => intro i j hi; exact absurd hi (Nat.not_lt_zero _)
 | cons e r ih =>
  intro i j hi hj; show ((xE e).toList ++ vC r)[i * 258 + j]? = _
  cases i with
  | zero =>
   rw [List.getElem?_append_left (by rw [Array.length_toList, zP]; omega), Array.getElem?_toList, Nat.zero_mul, Nat.zero_add]
   rfl
  | succ i =>
   rw [List.getElem?_append_right (by rw [Array.length_toList, zP]; omega), Array.length_toList, zP, show (i + 1) * 258 + j - 258 = i * 258 + j by omega, ih i j (by simpa using hi) hj, Jc]
theorem Y8 (ls : List TA) : ∀ u ∈ vC ls, u.oneCell' = true := by
 induction ls with
 | nil => intro u hu; cases hu
 | cons e r ih =>
  intro u hu; rcases List.mem_append.1 hu with hu | hu
  ·exact QZ e u hu
  ·exact ih u hu
def qP (g o : Nat) (ls : List TA) (w : World) : Prop := g < w.heap.size ∧ ∀ i, i < ls.length → ∀ j, j < 258 → w.cell? ⟨g, o + (i * 258 + j), none⟩ = (xE (aT ls i))[j]?
theorem qP.lt {g o : Nat} {ls : List TA} {w : World} (h : qP g o ls w) : g < w.heap.size := h.1
theorem qP.of_eq {g o : Nat} {ls : List TA} {w w' : World} (h : qP g o ls w) (e : w'.heap[g]? = w.heap[g]?) : qP g o ls w' := by
 refine ⟨?_, fun i hi j hj => ?_⟩
 ·have := h.1
  rcases Nat.lt_or_ge g w'.heap.size with k | k
  ·exact k
  ·rw [Array.getElem?_eq_none k, Array.getElem?_eq_getElem this] at e
   cases e
 ·rw [World.cell?_of_block (w := w) e]
  exact h.2 i hi j hj
theorem qP.be {g o : Nat} {ls : List TA} {w w' : World} (h : qP g o ls w) (e : Below w.heap.size w w') : qP g o ls w' := h.of_eq (e.block _ h.lt)
theorem qP.cg {g o : Nat} {ls : List TA} {w w' : World} (h : qP g o ls w) {zc : Nat} (e : qY zc w w') (hn : g ≠ zc := by omega) : qP g o ls w' := h.of_eq (e.block _ h.lt hn)
theorem qP.drop {g o : Nat} {ls : List TA} {w : World} (h : qP g o ls w) (k : Nat) : qP g (o + k * 258) (ls.drop k) w :=
 ⟨h.1, fun i hi j hj => by
  rw [List.length_drop] at hi; rw [zfP, ← h.2 (k + i) (by omega) j hj]
  congr 2
  rw [Nat.add_mul]; omega⟩
theorem qP.take {g o : Nat} {ls : List TA} {w : World} (h : qP g o ls w) (k : Nat) : qP g o (ls.take k) w :=
 ⟨h.1, fun i hi j hj => by
  rw [List.length_take] at hi; have e : aT (ls.take k) i = aT ls i := by
   unfold aT; rw [List.getD_eq_getElem?_getD, List.getD_eq_getElem?_getD, List.getElem?_take, if_pos (by omega)]
  rw [e]; exact h.2 i (by omega) j hj⟩
theorem qP.row {g o : Nat} {ls : List TA} {w : World} (h : qP g o ls w) (j : Nat) (u : Value) (hu : (vC ls)[j]? = some u) : w.cell? ⟨g, o + j, none⟩ = some u := by
 have hj : j < ls.length * 258 := by rw [← uO]; exact (List.getElem?_eq_some_iff.1 hu).1
 have e : j = (j / 258) * 258 + j % 258 := by omega
 rw [e, Jl ls _ _ (by omega) (by omega)] at hu
 have := h.2 (j / 258) (by omega) (j % 258) (by omega)
 rw [hu, ← e] at this
 exact this
theorem qP.x {g o : Nat} {ls : List TA} {w : World} (h : qP g o ls w) {i : Nat} (hi : i < ls.length) : w.cell? ⟨g, o + i * 258, none⟩ = some (.int .i64 (aT ls i).x) := by
 have := h.2 i hi 0 (by omega)
 rw [Yg] at this
 exact this
theorem qP.y {g o : Nat} {ls : List TA} {w : World} (h : qP g o ls w) {i : Nat} (hi : i < ls.length) : w.cell? ⟨g, o + i * 258 + 1, none⟩ = some (.int .i64 (aT ls i).y) := by
 have := h.2 i hi 1 (by omega)
 rw [VY, ← Nat.add_assoc] at this
 exact this
theorem qP.t {g o : Nat} {ls : List TA} {w : World} (h : qP g o ls w) {i : Nat} (hi : i < ls.length) {j : Nat} (hj : j < 256) : w.cell? ⟨g, o + i * 258 + 2 + j, none⟩ = (qU (aT ls i).t)[j]? := by
 have := h.2 i hi (2 + j) (by omega)
 rw [VX, ← Nat.add_assoc, ← Nat.add_assoc] at this
 exact this
def RS (v : Value) (ls : List TA) (w : World) : Prop := (v = .slice none 0 0 ∧ ls = []) ∨ ∃ g o c, v = .slice (some ⟨g, o, none⟩) ls.length c ∧ ls.length ≤ c ∧ (0 < ls.length → qP g o ls w)
section
variable {v : Value} {ls : List TA} {w w' : World}
theorem RS.be (h : RS v ls w) (hb : Below w.heap.size w w') : RS v ls w' := by
 rcases h with h | ⟨g, o, c, e, hc, sc⟩
 ·exact .inl h
 ·exact .inr ⟨g, o, c, e, hc, fun hn => (sc hn).of_eq (hb.block _ (sc hn).lt)⟩
theorem RS.len (h : RS v ls w) : ∃ a c, v = .slice a ls.length c ∧ ls.length ≤ c := by
 rcases h with ⟨rfl, rfl⟩ | ⟨g, o, c, e, hc, sc⟩
 ·exact ⟨none, 0, rfl, Nat.le_refl _⟩
 ·exact ⟨_, c, e, hc⟩
theorem RS.at {a : Option Addr} {n c : Nat} (h : RS (.slice a n c) ls w) (hn : 0 < ls.length) : ∃ g o, a = some ⟨g, o, none⟩ ∧ qP g o ls w := by
 rcases h with ⟨_, rfl⟩ | ⟨g, o, c', e, _, sc⟩
 ·exact absurd hn (by decide)
 ·injection e with e1 e2 e3
  exact ⟨g, o, e1, sc hn⟩
theorem RS.nil (w : World) : RS (.slice none 0 0) [] w := .inl ⟨rfl, rfl⟩
end
def xU (B : Nat) (v : Value) (ls : List TA) (w : World) : Prop := w.ownsRow B 125 258 v ls.length (vC ls)
section
variable {B : Nat} {v : Value} {ls : List TA} {w : World}
theorem xU.be {w' : World} (h : xU B v ls w) (hb : Below w.heap.size w w') : xU B v ls w' :=
 World.ownsRow.kept (row := none) h ⟨hb.os, hb.tape, hb.output, hb.size, fun k hk _ => hb.block k hk⟩ (Classical.em _)
theorem xU.mono {B' : Nat} (h : xU B v ls w) (hb : B' ≤ B) : xU B' v ls w := World.ownsRow.mono h hb
theorem xU.nil (B : Nat) (w : World) : xU B (.slice none 0 0) [] w := World.ownsRow_nil w B _ _
theorem xU.rs (h : xU B v ls w) : RS v ls w := by
 obtain ⟨h1, h2⟩ := h
 rcases h2 with ⟨rfl, h0⟩ | ⟨g, cap, cur, rfl, hb, hg, hn, hm, hs, ht⟩
 ·exact .inl ⟨rfl, List.eq_nil_of_length_eq_zero h0⟩
 ·refine .inr ⟨g, 0, cap, rfl, hn, fun _ => ⟨(Array.getElem?_eq_some_iff.1 hg).1, fun i hi j hj => ?_⟩⟩
  rw [← Jl ls i j hi hj, Nat.zero_add, cell_of_row w g _ cur _ (0, 0) hg, ← ht, List.getElem?_take_of_lt (by omega), Array.getElem?_toList]
theorem xU.len (h : xU B v ls w) : ∃ a c, v = .slice a ls.length c ∧ ls.length ≤ c := h.rs.len
end
theorem Ze : (Tryz.prog.info? 125).map (fun i => (i.size, i.bytes)) = some (258, 272) := by kernel_rfl
theorem Ki : (Tryz.prog.info? 125).bind (·.zero) = some (.agg (#[.int .i64 0, .int .i64 0] ++ Array.replicate 256 (.int .u8 0))) := by kernel_rfl
section
variable {ops : Array Oper} {rest : List Oper} {o : Oper} {a : Act} {w : World} {Q : Exit → Act → World → Prop}
theorem qq (hg : o.guard = none) (s x : Operand) (ho : o.op = .call { callee := .builtin .append, args := #[s, x], argTypes := #[62, 62] }) (v u : Value) (hs : a.eval s = v) (hx : a.eval x = u) {B : Nat} {ls ks : List TA} (hown : xU B v ls w) (hu : RS u ks w) (hlen : ls.length + ks.length ≤ 100000) (hB : B ≤ w.heap.size)
  (h : ∀ v' w', xU B v' (ls ++ ks) w' → Below B w w' → wpList Tryz.prog ops Q rest (a.put o.dst v') w') : wpList Tryz.prog ops Q (o :: rest) a w := by
 obtain ⟨i, hi⟩ : ∃ i, Tryz.prog.info? 125 = some i := by
  cases h : Tryz.prog.info? 125 with
  | some i => exact ⟨i, rfl⟩
  | none => have e := Ze; rw [h] at e; cases e
 have e1 := Ze
 rw [hi] at e1
 have e1' : i.size = 258 ∧ i.bytes = 272 := by simpa using e1
 have hz := Ki
 rw [hi] at hz
 rcases hu with ⟨rfl, rfl⟩ | ⟨g, of, c, rfl, hc, sc⟩
 ·refine wpList_append_own_none (P := Tryz.prog) hg s x 62 ho B 125 i 258 underlying62 hi v ls.length (vC ls) hs hown hx ?_
  exact h v w (by rw [List.append_nil]; exact hown) (Below.refl _ _)
 ·refine wpList_append_own (P := Tryz.prog) w hg s x 62 ho B 125 i _ 258 272 underlying62 hi hz e1'.1 e1'.2 (by simp [Value.cells]) (by omega) v ls.length (vC ls) hs hown ⟨g, of, none⟩ ks.length c (vC ks) hx (uO ks) ?_ (Y8 ks) (by unfold maxLen; omega) (by omega) hB ?_
  ·intro j u hu
   have hj : j < ks.length * 258 := by rw [← uO]; exact (List.getElem?_eq_some_iff.1 hu).1
   have e : (⟨g, of, none⟩ : Addr).add j = ⟨g, of + j, none⟩ := by unfold Addr.add; split <;> simp_all
   rw [e]; exact (sc (by omega)).row j u hu
  ·intro v' w' h1 h2 h3
   refine h v' w' ?_ ?_
   ·unfold xU
    rw [kT, List.length_append]; exact h1
   ·have zh := World.ownsRow.lt hown
    exact ⟨h2.os, h2.tape, h2.output, h2.size, fun k hk => h2.block k (by omega) (fun e => by have := zh k e.symm; omega)⟩
end
theorem zN (w : World) (o : Oper) (ho : o.op = .alloc 38) (ev : Operand → Value) : (execOp ev o).run Tryz.prog w = .ok (.value (.pointer (some ⟨w.heap.size, 0, none⟩))) (w.alloc (.cells #[.int .i64 0, .int .i64 0, .int .i64 0, .int .i64 0] 38)) := by
 obtain ⟨d, p, t, ps, af, gd⟩ := o
 simp only at ho
 subst ho
 kernel_rfl
theorem zX (w : World) (o : Oper) (ho : o.op = .alloc 95) (ev : Operand → Value) : (execOp ev o).run Tryz.prog w = .ok (.value (.pointer (some ⟨w.heap.size, 0, none⟩))) (w.alloc (.cells #[.int .i64 0, .int .i64 0] 95)) := by
 obtain ⟨d, p, t, ps, af, gd⟩ := o
 simp only at ho
 subst ho
 kernel_rfl
def Ps.v (x y : Int) : Value := .agg #[.int .i64 x, .int .i64 y]
theorem Rc.v_mk (a b c d : Int) : Rc.v ⟨a, b, c, d⟩ = .agg #[.int .i64 a, .int .i64 b, .int .i64 c, .int .i64 d] := rfl
theorem Rc.v_def (r : Rc) : Rc.v r = .agg #[.int .i64 r.x0, .int .i64 r.y0, .int .i64 r.x1, .int .i64 r.y1] := rfl
theorem yF (r : Rc) (w : World) : Calls Tryz.prog 45 #[Rc.v r] w fun e w' => e = .returned (.bool (z8 r)) ∧ Below w.heap.size w w' := by
 obtain ⟨a, b, c, d⟩ := r
 simp only [Rc.v_mk]
 by_cases h0 : c ≤ a
 ·rw [show z8 ⟨a, b, c, d⟩ = true from by unfold z8; exact zQ (by simp only; omega)]
  have d0 : decide (c ≤ a) = true := zQ h0; go_enter func45, ntmps45
  go_wp2; go_ret; exact ⟨rfl, by go_grown⟩
 ·by_cases h1 : d ≤ b
  ·rw [show z8 ⟨a, b, c, d⟩ = true from by unfold z8; exact zQ (by simp only; omega)]
   have d0 : decide (c ≤ a) = false := zB h0; have d1 : decide (d ≤ b) = true := zQ h1; go_enter func45, ntmps45
   go_wp2; go_ret; exact ⟨rfl, by go_grown⟩
  ·rw [show z8 ⟨a, b, c, d⟩ = false from by unfold z8; exact zB (by simp only; omega)]
   have d0 : decide (c ≤ a) = false := zB h0; have d1 : decide (d ≤ b) = false := zB h1; go_enter func45, ntmps45
   go_wp2; go_ret; exact ⟨rfl, by go_grown⟩
theorem kI (r : Rc) (w : World) : Calls Tryz.prog 112 #[Rc.v r] w fun e w' => e = .returned (.bool (z8 r)) ∧ Below w.heap.size w w' := by
 obtain ⟨a, b, c, d⟩ := r
 simp only [Rc.v_mk]
 by_cases h0 : c ≤ a
 ·rw [show z8 ⟨a, b, c, d⟩ = true from by unfold z8; exact zQ (by simp only; omega)]
  have d0 : decide (c ≤ a) = true := zQ h0; go_enter func112, ntmps112
  go_wp2; go_ret; exact ⟨rfl, by go_grown⟩
 ·by_cases h1 : d ≤ b
  ·rw [show z8 ⟨a, b, c, d⟩ = true from by unfold z8; exact zQ (by simp only; omega)]
   have d0 : decide (c ≤ a) = false := zB h0; have d1 : decide (d ≤ b) = true := zQ h1; go_enter func112, ntmps112
   go_wp2; go_ret; exact ⟨rfl, by go_grown⟩
  ·rw [show z8 ⟨a, b, c, d⟩ = false from by unfold z8; exact zB (by simp only; omega)]
   have d0 : decide (c ≤ a) = false := zB h0; have d1 : decide (d ≤ b) = false := zB h1; go_enter func112, ntmps112
   go_wp2; go_ret; exact ⟨rfl, by go_grown⟩
theorem zah (r : Rc) (x y : Int) (w : World) : Calls Tryz.prog 25 #[Rc.v r, Ps.v x y] w fun e w' => e = .returned (.bool (jx r x y)) ∧ Below w.heap.size w w' := by
 obtain ⟨a, b, c, d⟩ := r
 simp only [Rc.v_mk, Ps.v]
 by_cases h0 : a ≤ x
 ·by_cases h1 : x < c
  ·by_cases h2 : b ≤ y
   ·by_cases h3 : y < d
    ·rw [show jx ⟨a, b, c, d⟩ x y = true from by unfold jx; exact zQ (by simp only; omega)]
     have d0 : decide (a ≤ x) = true := zQ h0; have d1 : decide (x < c) = true := zQ h1; have d2 : decide (b ≤ y) = true := zQ h2; have d3 : decide (y < d) = true := zQ h3; go_enter func25, ntmps25
     go_wp2; go_ret; exact ⟨rfl, by go_grown⟩
    ·rw [show jx ⟨a, b, c, d⟩ x y = false from by unfold jx; exact zB (by simp only; omega)]
     have d0 : decide (a ≤ x) = true := zQ h0; have d1 : decide (x < c) = true := zQ h1; have d2 : decide (b ≤ y) = true := zQ h2; have d3 : decide (y < d) = false := zB h3; go_enter func25, ntmps25
     go_wp2; go_ret; exact ⟨rfl, by go_grown⟩
   ·rw [show jx ⟨a, b, c, d⟩ x y = false from by unfold jx; exact zB (by simp only; omega)]
    have d0 : decide (a ≤ x) = true := zQ h0; have d1 : decide (x < c) = true := zQ h1; have d2 : decide (b ≤ y) = false := zB h2; go_enter func25, ntmps25
    go_wp2; go_ret; exact ⟨rfl, by go_grown⟩
  ·rw [show jx ⟨a, b, c, d⟩ x y = false from by unfold jx; exact zB (by simp only; omega)]
   have d0 : decide (a ≤ x) = true := zQ h0; have d1 : decide (x < c) = false := zB h1; go_enter func25, ntmps25
   go_wp2; go_ret; exact ⟨rfl, by go_grown⟩
 ·rw [show jx ⟨a, b, c, d⟩ x y = false from by unfold jx; exact zB (by simp only; omega)]
  have d0 : decide (a ≤ x) = false := zB h0; go_enter func25, ntmps25
  go_wp2; go_ret; exact ⟨rfl, by go_grown⟩
theorem zij (r : Rc) (x y : Int) (w : World) : Calls Tryz.prog 150 #[Rc.v r, .int .i64 x, .int .i64 y] w fun e w' => e = .returned (.bool (jx r x y)) ∧ Below w.heap.size w w' := by
 obtain ⟨a, b, c, d⟩ := r
 simp only [Rc.v_mk]
 by_cases h0 : a ≤ x
 ·by_cases h1 : x < c
  ·by_cases h2 : b ≤ y
   ·by_cases h3 : y < d
    ·rw [show jx ⟨a, b, c, d⟩ x y = true from by unfold jx; exact zQ (by simp only; omega)]
     have d0 : decide (a ≤ x) = true := zQ h0; have d1 : decide (x < c) = true := zQ h1; have d2 : decide (b ≤ y) = true := zQ h2; have d3 : decide (y < d) = true := zQ h3; go_enter func150, ntmps150
     go_wp2; go_ret; exact ⟨rfl, by go_grown⟩
    ·rw [show jx ⟨a, b, c, d⟩ x y = false from by unfold jx; exact zB (by simp only; omega)]
     have d0 : decide (a ≤ x) = true := zQ h0; have d1 : decide (x < c) = true := zQ h1; have d2 : decide (b ≤ y) = true := zQ h2; have d3 : decide (y < d) = false := zB h3; go_enter func150, ntmps150
     go_wp2; go_ret; exact ⟨rfl, by go_grown⟩
   ·rw [show jx ⟨a, b, c, d⟩ x y = false from by unfold jx; exact zB (by simp only; omega)]
    have d0 : decide (a ≤ x) = true := zQ h0; have d1 : decide (x < c) = true := zQ h1; have d2 : decide (b ≤ y) = false := zB h2; go_enter func150, ntmps150
    go_wp2; go_ret; exact ⟨rfl, by go_grown⟩
  ·rw [show jx ⟨a, b, c, d⟩ x y = false from by unfold jx; exact zB (by simp only; omega)]
   have d0 : decide (a ≤ x) = true := zQ h0; have d1 : decide (x < c) = false := zB h1; go_enter func150, ntmps150
   go_wp2; go_ret; exact ⟨rfl, by go_grown⟩
 ·rw [show jx ⟨a, b, c, d⟩ x y = false from by unfold jx; exact zB (by simp only; omega)]
  have d0 : decide (a ≤ x) = false := zB h0; go_enter func150, ntmps150
  go_wp2; go_ret; exact ⟨rfl, by go_grown⟩
theorem Jv (r : Rc) (w : World) : Calls Tryz.prog 105 #[Rc.v r] w fun e w' => e = .returned (Rc.v (kR r)) ∧ Below w.heap.size w w' := by
 obtain ⟨a, b, c, d⟩ := r
 have B := Below.refl w.heap.size w
 by_cases hE : z8 ⟨a, b, c, d⟩ = true
 ·rw [show kR ⟨a, b, c, d⟩ = Rc.zero from if_pos hE]
  simp only [Rc.v_mk]; go_enter func105, ntmps105
  go_wp2_with (first | (go_at_call 45; refine (yF ⟨a, b, c, d⟩ _).mono ?_; rintro e wn ⟨rfl, za⟩; obtain ⟨zf, zg, B⟩ := zM B za; replace r1 := r1.be za; replace r2 := r2.be za) | (refine qZ r2 B ?_; clear r2 B; intro wn r2 ze zf zg B; replace r1 := r1.cg ze) | (have _ := r1; refine jH (t := 38) (zN _ _ rfl) B ?_; clear B; intro b_r2 wn zb zd r2 za zf zk B; replace r1 := r1.be za) | (refine jd (t := 38) B ?_; clear B; intro b_r1 wn zb zd r1 za zf zk B) | (first | refine yN ?_ | refine yO ?_))
  refine qO r2 ?_; exact ⟨rfl, B⟩
 ·rw [show kR ⟨a, b, c, d⟩ = ⟨a, b, c, d⟩ from if_neg hE]
  have hE' : z8 ⟨a, b, c, d⟩ = false := by simpa using hE
  simp only [Rc.v_mk]; clear hE; go_enter func105, ntmps105
  go_wp2_with (first | (go_at_call 45; refine (yF ⟨a, b, c, d⟩ _).mono ?_; rintro e wn ⟨rfl, za⟩; obtain ⟨zf, zg, B⟩ := zM B za; replace r1 := r1.be za; replace r2 := r2.be za) | (refine qZ r2 B ?_; clear r2 B; intro wn r2 ze zf zg B; replace r1 := r1.cg ze) | (have _ := r1; refine jH (t := 38) (zN _ _ rfl) B ?_; clear B; intro b_r2 wn zb zd r2 za zf zk B; replace r1 := r1.be za) | (refine jd (t := 38) B ?_; clear B; intro b_r1 wn zb zd r1 za zf zk B) | (first | refine yN ?_ | refine yO ?_))
  refine qO r2 ?_; exact ⟨rfl, B⟩
theorem zhk (r : Rc) (w : World) : Calls Tryz.prog 113 #[Rc.v r] w fun e w' => e = .returned (Rc.v (kR r)) ∧ Below w.heap.size w w' := by
 obtain ⟨a, b, c, d⟩ := r
 have B := Below.refl w.heap.size w
 by_cases hE : z8 ⟨a, b, c, d⟩ = true
 ·rw [show kR ⟨a, b, c, d⟩ = Rc.zero from if_pos hE]
  simp only [Rc.v_mk]; go_enter func113, ntmps113
  go_wp2_with (first | (go_at_call 112; refine (kI ⟨a, b, c, d⟩ _).mono ?_; rintro e wn ⟨rfl, za⟩; obtain ⟨zf, zg, B⟩ := zM B za; replace r1 := r1.be za; replace r2 := r2.be za) | (refine qZ r2 B ?_; clear r2 B; intro wn r2 ze zf zg B; replace r1 := r1.cg ze) | (have _ := r1; refine jH (t := 38) (zN _ _ rfl) B ?_; clear B; intro b_r2 wn zb zd r2 za zf zk B; replace r1 := r1.be za) | (refine jd (t := 38) B ?_; clear B; intro b_r1 wn zb zd r1 za zf zk B) | (first | refine yN ?_ | refine yO ?_))
  refine qO r2 ?_; exact ⟨rfl, B⟩
 ·rw [show kR ⟨a, b, c, d⟩ = ⟨a, b, c, d⟩ from if_neg hE]
  have hE' : z8 ⟨a, b, c, d⟩ = false := by simpa using hE
  simp only [Rc.v_mk]; clear hE; go_enter func113, ntmps113
  go_wp2_with (first | (go_at_call 112; refine (kI ⟨a, b, c, d⟩ _).mono ?_; rintro e wn ⟨rfl, za⟩; obtain ⟨zf, zg, B⟩ := zM B za; replace r1 := r1.be za; replace r2 := r2.be za) | (refine qZ r2 B ?_; clear r2 B; intro wn r2 ze zf zg B; replace r1 := r1.cg ze) | (have _ := r1; refine jH (t := 38) (zN _ _ rfl) B ?_; clear B; intro b_r2 wn zb zd r2 za zf zk B; replace r1 := r1.be za) | (refine jd (t := 38) B ?_; clear B; intro b_r1 wn zb zd r1 za zf zk B) | (first | refine yN ?_ | refine yO ?_))
  refine qO r2 ?_; exact ⟨rfl, B⟩
theorem Yh (x : Int) (h : x < 0) : (x.tmod 8 = 0 → x.tdiv 8 = x / 8) ∧ (x.tmod 8 ≠ 0 → x.tdiv 8 - 1 = x / 8) := by
 obtain ⟨n, rfl⟩ : ∃ n : Nat, x = -(n : Int) := ⟨(-x).toNat, by omega⟩
 have e1 : (-(n : Int)).tdiv 8 = -((n : Int) / 8) := by rw [Int.neg_tdiv]; rfl
 have e2 : (-(n : Int)).tmod 8 = -((n : Int) % 8) := by rw [Int.neg_tmod]; rfl
 rw [e1, e2]
 constructor <;> intro h2 <;> omega
theorem Kv (x : Int) (w : World) (hx : (Lit.int .i64 x).wf = true) : Calls Tryz.prog 111 #[.int .i64 x, .int .i64 8] w fun e w' => e = .returned (.int .i64 (x / 8)) ∧ w = w' := by
 have hmin : IntKind.i64.min = -9223372036854775808 := rfl
 have hmax : IntKind.i64.max = 9223372036854775807 := rfl
 simp only [Lit.wf, Bool.and_eq_true, decide_eq_true_eq] at hx
 rw [hmin, hmax] at hx
 obtain ⟨l1, l2⟩ := hx
 clear hmin hmax
 by_cases h0 : 0 ≤ x
 ·have h1 : ¬ x < 0 := by omega
  have d1 : decide (x < 0) = false := zB h1; by_cases hm : x % 8 = 0
  ·have e1 : (x % 8 == 0) = true := by simpa using hm
   go_enter func111, ntmps111
   go_wp2; go_ret; exact ⟨rfl, rfl⟩
  ·have e1 : (x % 8 == 0) = false := by simpa using hm
   go_enter func111, ntmps111
   go_wp2; go_ret; exact ⟨rfl, rfl⟩
 ·have h1 : x < 0 := by omega
  have d1 : decide (x < 0) = true := zQ h1; obtain ⟨t1, t2⟩ := Yh x h1; by_cases hm : x.tmod 8 = 0
  ·have E := zo (t1 hm)
   have e1 : (x.tmod 8 == 0) = true := by simpa using hm
   have hb : -9223372036854775808 ≤ x.tdiv 8 ∧ x.tdiv 8 ≤ 0 := by rw [E.out]; omega
   clear t1 t2 h0; go_enter func111, ntmps111
   go_wp2; go_ret; exact ⟨qk E.out, rfl⟩
  ·have E := zo (t2 hm)
   have e1 : (x.tmod 8 == 0) = false := by simpa using hm
   have hb : -9223372036854775807 ≤ x.tdiv 8 ∧ x.tdiv 8 ≤ 0 := by have := E.out; omega
   clear t1 t2 h0; go_enter func111, ntmps111
   go_wp2; go_ret; exact ⟨qk E.out, rfl⟩
theorem KQ (x : Int) (w : World) (hx : (Lit.int .i64 x).wf = true) : Calls Tryz.prog 67 #[.int .i64 x, .int .i64 8] w fun e w' => e = .returned (.int .i64 (x / 8)) ∧ w = w' := by
 have hmin : IntKind.i64.min = -9223372036854775808 := rfl
 have hmax : IntKind.i64.max = 9223372036854775807 := rfl
 simp only [Lit.wf, Bool.and_eq_true, decide_eq_true_eq] at hx
 rw [hmin, hmax] at hx
 obtain ⟨l1, l2⟩ := hx
 clear hmin hmax
 by_cases h0 : 0 ≤ x
 ·have h1 : ¬ x < 0 := by omega
  have d1 : decide (x < 0) = false := zB h1; by_cases hm : x % 8 = 0
  ·have e1 : (x % 8 == 0) = true := by simpa using hm
   go_enter func67, ntmps67
   go_wp2; go_ret; exact ⟨rfl, rfl⟩
  ·have e1 : (x % 8 == 0) = false := by simpa using hm
   go_enter func67, ntmps67
   go_wp2; go_ret; exact ⟨rfl, rfl⟩
 ·have h1 : x < 0 := by omega
  have d1 : decide (x < 0) = true := zQ h1; obtain ⟨t1, t2⟩ := Yh x h1; by_cases hm : x.tmod 8 = 0
  ·have E := zo (t1 hm)
   have e1 : (x.tmod 8 == 0) = true := by simpa using hm
   have hb : -9223372036854775808 ≤ x.tdiv 8 ∧ x.tdiv 8 ≤ 0 := by rw [E.out]; omega
   clear t1 t2 h0; go_enter func67, ntmps67
   go_wp2; go_ret; exact ⟨qk E.out, rfl⟩
  ·have E := zo (t2 hm)
   have e1 : (x.tmod 8 == 0) = false := by simpa using hm
   have hb : -9223372036854775807 ≤ x.tdiv 8 ∧ x.tdiv 8 ≤ 0 := by have := E.out; omega
   clear t1 t2 h0; go_enter func67, ntmps67
   go_wp2; go_ret; exact ⟨qk E.out, rfl⟩
theorem zif (x y : Int) (w : World) (hx : (Lit.int .i64 x).wf = true) (hy : (Lit.int .i64 y).wf = true) : Calls Tryz.prog 81 #[Ps.v x y] w fun e w' => e = .returned (Ps.v (x / 8) (y / 8)) ∧ Below w.heap.size w w' := by
 have B := Below.refl w.heap.size w
 simp only [Ps.v]
 go_enter func81, ntmps81
 go_wp2_with (first | (have _ := p1; refine jp (t := 95) rfl _ (zX _ _ rfl) ?_; intro b_p2 wn zb zd ht za zg; have zf := B.size; replace B := B.trans (za.mono (by omega)); have zk := zln zg; clear zg; replace p1 := p1.be (za.mono zb); have p2 := ht; clear ht; simp only [zn]) | (refine zL (t := 51) rfl _ rfl _ rfl ?_; intro b_p1 wn zb zd ht za zg; have zf := B.size; replace B := B.trans (za.mono (by omega)); have zk := zln zg; clear zg; have p1 := ht; clear ht; simp only [zn]))
 refine jm 7 (by kernel_rfl) (by kernel_rfl) ?_
 simp only [List.take_succ_cons, List.take_zero, List.drop_succ_cons, List.drop_zero]
 repeat (first | go_big_quiet_skip | (go_big_quiet_want; first | ((first | refine qB ?_ | refine qC ?_); simp only [zn]; go_big_quiet_on) | (go_big_quiet_op; first | go_big_quiet_on | go_big_quiet_call ((first | (go_at_call 111; exact yy (Kv _ _ hx)) | (go_at_call 111; exact yy (Kv _ _ hy)))))))
 refine wpQuiet_nil ?_
 intro wn za
 obtain ⟨zf, zg, B⟩ := zM B za
 replace p2 := p2.be za
 go_wp2_with (first | (refine zZ (t := 95) rfl _ _ rfl _ rfl _ rfl p2 (by kernel_rfl) rfl (by simp [Value.oneCell']) ?_; clear p2; intro wn ht ze zg; have zf := B.size; replace zg := Nat.le_of_eq zg.symm; replace B := qY.be B ze (by omega) B.size; have p2 := ht; clear ht; simp only [zn]))
 refine qO p2 ?_
 exact ⟨rfl, B⟩
theorem zfE (x y : Int) (w : World) (hx : (Lit.int .i64 x).wf = true) (hy : (Lit.int .i64 y).wf = true) : Calls Tryz.prog 114 #[.int .i64 x, .int .i64 y] w fun e w' => e = .returned (Ps.v (x / 8) (y / 8)) ∧ Below w.heap.size w w' := by
 have B := Below.refl w.heap.size w
 simp only [Ps.v]
 go_enter func114, ntmps114
 go_wp2_with (first | (refine zZ (t := 95) rfl _ _ rfl _ rfl _ rfl p2 (by kernel_rfl) rfl (by simp [Value.oneCell']) ?_; clear p2; intro wn ht ze zg; have zf := B.size; replace zg := Nat.le_of_eq zg.symm; replace B := qY.be B ze (by omega) B.size; have p2 := ht; clear ht; simp only [zn]) | (go_at_call 67; ((with_reducible refine (KQ x _ hx).mono ?_)); rintro e w' ⟨rfl, rfl⟩) | (go_at_call 67; ((with_reducible refine (KQ y _ hy).mono ?_)); rintro e w' ⟨rfl, rfl⟩) | (refine jp (t := 95) rfl _ (zX _ _ rfl) ?_; intro b_p2 wn zb zd ht za zg; have zf := B.size; replace B := B.trans (za.mono (by omega)); have zk := zln zg; clear zg; have p2 := ht; clear ht; simp only [zn]))
 refine qO p2 ?_
 exact ⟨rfl, B⟩
theorem kG (r : Rc) : jk r = true ↔ (r.x0 < r.x1 ∧ r.y0 < r.y1) ∧ (-65536 ≤ r.x0 ∧ -65536 ≤ r.y0 ∧ r.x1 ≤ 65536 ∧ r.y1 ≤ 65536) := by
 unfold jk z8 kY
 rw [Bool.and_eq_true, Bool.not_eq_true', decide_eq_false_iff_not, decide_eq_true_iff]
 constructor <;> rintro ⟨h1, h2⟩ <;> refine ⟨?_, h2⟩ <;> omega
theorem XI (r : Rc) (w : World) (hE : z8 r = false) : Calls Tryz.prog 162 #[Rc.v r, Rc.v ⟨-65536, -65536, 65536, 65536⟩] w fun e w' => e = .returned (.bool (kY r)) ∧ Below w.heap.size w w' := by
 obtain ⟨a, b, c, d⟩ := r
 have B := Below.refl w.heap.size w
 simp only [Rc.v_mk]
 by_cases h0 : -65536 ≤ a
 ·by_cases h1 : c ≤ 65536
  ·by_cases h2 : -65536 ≤ b
   ·by_cases h3 : d ≤ 65536
    ·rw [show kY ⟨a, b, c, d⟩ = true from by unfold kY; exact zQ (by simp only; omega)]
     have d0 : decide (-65536 ≤ a) = true := zQ h0; have d1 : decide (c ≤ 65536) = true := zQ h1; have d2 : decide (-65536 ≤ b) = true := zQ h2; have d3 : decide (d ≤ 65536) = true := zQ h3; go_enter func162, ntmps162
     go_wp2_with (first | (go_at_call 45; refine (yF ⟨a, b, c, d⟩ _).mono ?_; rintro e wn ⟨rfl, za⟩; obtain ⟨zf, zg, B⟩ := zM B za; replace r1 := r1.be za; replace r2 := r2.be za; have c_r1_0 := r1.cell 0 rfl; have c_r1_1 := r1.cell 1 rfl; have c_r1_2 := r1.cell 2 rfl; have c_r1_3 := r1.cell 3 rfl; have c_r2_0 := r2.cell 0 rfl; have c_r2_1 := r2.cell 1 rfl; have c_r2_2 := r2.cell 2 rfl; have c_r2_3 := r2.cell 3 rfl) | (have _ := r1; refine zL (t := 38) rfl _ rfl _ rfl ?_; intro b_r2 wn zb zd ht za zg; have zf := B.size; replace B := B.trans (za.mono (by omega)); have zk := zln zg; clear zg; replace r1 := r1.be (za.mono zb); have r2 := ht; clear ht; simp only [zn]) | (refine zL (t := 38) rfl _ rfl _ rfl ?_; intro b_r1 wn zb zd ht za zg; have zf := B.size; replace B := B.trans (za.mono (by omega)); have zk := zln zg; clear zg; have r1 := ht; clear ht; simp only [zn]) | (first | refine yN ?_ | refine yO ?_) | fail)
     go_ret; exact ⟨rfl, B⟩
    ·rw [show kY ⟨a, b, c, d⟩ = false from by unfold kY; exact zB (by simp only; omega)]
     have d0 : decide (-65536 ≤ a) = true := zQ h0; have d1 : decide (c ≤ 65536) = true := zQ h1; have d2 : decide (-65536 ≤ b) = true := zQ h2; have d3 : decide (d ≤ 65536) = false := zB h3; go_enter func162, ntmps162
     go_wp2_with (first | (go_at_call 45; refine (yF ⟨a, b, c, d⟩ _).mono ?_; rintro e wn ⟨rfl, za⟩; obtain ⟨zf, zg, B⟩ := zM B za; replace r1 := r1.be za; replace r2 := r2.be za; have c_r1_0 := r1.cell 0 rfl; have c_r1_1 := r1.cell 1 rfl; have c_r1_2 := r1.cell 2 rfl; have c_r1_3 := r1.cell 3 rfl; have c_r2_0 := r2.cell 0 rfl; have c_r2_1 := r2.cell 1 rfl; have c_r2_2 := r2.cell 2 rfl; have c_r2_3 := r2.cell 3 rfl) | (have _ := r1; refine zL (t := 38) rfl _ rfl _ rfl ?_; intro b_r2 wn zb zd ht za zg; have zf := B.size; replace B := B.trans (za.mono (by omega)); have zk := zln zg; clear zg; replace r1 := r1.be (za.mono zb); have r2 := ht; clear ht; simp only [zn]) | (refine zL (t := 38) rfl _ rfl _ rfl ?_; intro b_r1 wn zb zd ht za zg; have zf := B.size; replace B := B.trans (za.mono (by omega)); have zk := zln zg; clear zg; have r1 := ht; clear ht; simp only [zn]) | (first | refine yN ?_ | refine yO ?_) | fail)
     go_ret; exact ⟨rfl, B⟩
   ·rw [show kY ⟨a, b, c, d⟩ = false from by unfold kY; exact zB (by simp only; omega)]
    have d0 : decide (-65536 ≤ a) = true := zQ h0; have d1 : decide (c ≤ 65536) = true := zQ h1; have d2 : decide (-65536 ≤ b) = false := zB h2; go_enter func162, ntmps162
    go_wp2_with (first | (go_at_call 45; refine (yF ⟨a, b, c, d⟩ _).mono ?_; rintro e wn ⟨rfl, za⟩; obtain ⟨zf, zg, B⟩ := zM B za; replace r1 := r1.be za; replace r2 := r2.be za; have c_r1_0 := r1.cell 0 rfl; have c_r1_1 := r1.cell 1 rfl; have c_r1_2 := r1.cell 2 rfl; have c_r1_3 := r1.cell 3 rfl; have c_r2_0 := r2.cell 0 rfl; have c_r2_1 := r2.cell 1 rfl; have c_r2_2 := r2.cell 2 rfl; have c_r2_3 := r2.cell 3 rfl) | (have _ := r1; refine zL (t := 38) rfl _ rfl _ rfl ?_; intro b_r2 wn zb zd ht za zg; have zf := B.size; replace B := B.trans (za.mono (by omega)); have zk := zln zg; clear zg; replace r1 := r1.be (za.mono zb); have r2 := ht; clear ht; simp only [zn]) | (refine zL (t := 38) rfl _ rfl _ rfl ?_; intro b_r1 wn zb zd ht za zg; have zf := B.size; replace B := B.trans (za.mono (by omega)); have zk := zln zg; clear zg; have r1 := ht; clear ht; simp only [zn]) | (first | refine yN ?_ | refine yO ?_) | fail)
    go_ret; exact ⟨rfl, B⟩
  ·rw [show kY ⟨a, b, c, d⟩ = false from by unfold kY; exact zB (by simp only; omega)]
   have d0 : decide (-65536 ≤ a) = true := zQ h0; have d1 : decide (c ≤ 65536) = false := zB h1; go_enter func162, ntmps162
   go_wp2_with (first | (go_at_call 45; refine (yF ⟨a, b, c, d⟩ _).mono ?_; rintro e wn ⟨rfl, za⟩; obtain ⟨zf, zg, B⟩ := zM B za; replace r1 := r1.be za; replace r2 := r2.be za; have c_r1_0 := r1.cell 0 rfl; have c_r1_1 := r1.cell 1 rfl; have c_r1_2 := r1.cell 2 rfl; have c_r1_3 := r1.cell 3 rfl; have c_r2_0 := r2.cell 0 rfl; have c_r2_1 := r2.cell 1 rfl; have c_r2_2 := r2.cell 2 rfl; have c_r2_3 := r2.cell 3 rfl) | (have _ := r1; refine zL (t := 38) rfl _ rfl _ rfl ?_; intro b_r2 wn zb zd ht za zg; have zf := B.size; replace B := B.trans (za.mono (by omega)); have zk := zln zg; clear zg; replace r1 := r1.be (za.mono zb); have r2 := ht; clear ht; simp only [zn]) | (refine zL (t := 38) rfl _ rfl _ rfl ?_; intro b_r1 wn zb zd ht za zg; have zf := B.size; replace B := B.trans (za.mono (by omega)); have zk := zln zg; clear zg; have r1 := ht; clear ht; simp only [zn]) | (first | refine yN ?_ | refine yO ?_) | fail)
   go_ret; exact ⟨rfl, B⟩
 ·rw [show kY ⟨a, b, c, d⟩ = false from by unfold kY; exact zB (by simp only; omega)]
  have d0 : decide (-65536 ≤ a) = false := zB h0; go_enter func162, ntmps162
  go_wp2_with (first | (go_at_call 45; refine (yF ⟨a, b, c, d⟩ _).mono ?_; rintro e wn ⟨rfl, za⟩; obtain ⟨zf, zg, B⟩ := zM B za; replace r1 := r1.be za; replace r2 := r2.be za; have c_r1_0 := r1.cell 0 rfl; have c_r1_1 := r1.cell 1 rfl; have c_r1_2 := r1.cell 2 rfl; have c_r1_3 := r1.cell 3 rfl; have c_r2_0 := r2.cell 0 rfl; have c_r2_1 := r2.cell 1 rfl; have c_r2_2 := r2.cell 2 rfl; have c_r2_3 := r2.cell 3 rfl) | (have _ := r1; refine zL (t := 38) rfl _ rfl _ rfl ?_; intro b_r2 wn zb zd ht za zg; have zf := B.size; replace B := B.trans (za.mono (by omega)); have zk := zln zg; clear zg; replace r1 := r1.be (za.mono zb); have r2 := ht; clear ht; simp only [zn]) | (refine zL (t := 38) rfl _ rfl _ rfl ?_; intro b_r1 wn zb zd ht za zg; have zf := B.size; replace B := B.trans (za.mono (by omega)); have zk := zln zg; clear zg; have r1 := ht; clear ht; simp only [zn]) | (first | refine yN ?_ | refine yO ?_) | fail)
  go_ret; exact ⟨rfl, B⟩
theorem uC (r : Rc) (w : World) : Calls Tryz.prog 128 #[Rc.v r] w fun e w' => e = .returned (.bool (jk r)) ∧ Below w.heap.size w w' := by
 obtain ⟨a, b, c, d⟩ := r
 have B := Below.refl w.heap.size w
 simp only [Rc.v_mk]
 by_cases hE : z8 ⟨a, b, c, d⟩ = true
 ·rw [show jk ⟨a, b, c, d⟩ = false from by unfold jk; rw [hE]; rfl]
  go_enter func128, ntmps128
  go_wp2_with (first | (go_at_call 45; refine (yF ⟨a, b, c, d⟩ _).mono ?_; rintro e wn ⟨rfl, za⟩; obtain ⟨zf, zg, B⟩ := zM B za; replace r1 := r1.be za; have c_r1_0 := r1.cell 0 rfl; have c_r1_1 := r1.cell 1 rfl; have c_r1_2 := r1.cell 2 rfl; have c_r1_3 := r1.cell 3 rfl) | (go_at_call 162; refine (XI ⟨a, b, c, d⟩ _ hE').mono ?_; rintro e wn ⟨rfl, za⟩; obtain ⟨zf, zg, B⟩ := zM B za; (try replace r1 := r1.be za)) | (refine zL (t := 38) rfl _ rfl _ rfl ?_; intro b_r1 wn zb zd ht za zg; have zf := B.size; replace B := B.trans (za.mono (by omega)); have zk := zln zg; clear zg; have r1 := ht; clear ht; simp only [zn]) | (first | refine yN ?_ | refine yO ?_) | fail)
  go_ret; exact ⟨rfl, B⟩
 ·have hE' : z8 ⟨a, b, c, d⟩ = false := by simpa using hE
  rw [show jk ⟨a, b, c, d⟩ = kY ⟨a, b, c, d⟩ from by unfold jk; rw [hE']; rfl]
  clear hE; go_enter func128, ntmps128
  go_wp2_with (first | (go_at_call 45; refine (yF ⟨a, b, c, d⟩ _).mono ?_; rintro e wn ⟨rfl, za⟩; obtain ⟨zf, zg, B⟩ := zM B za; replace r1 := r1.be za; have c_r1_0 := r1.cell 0 rfl; have c_r1_1 := r1.cell 1 rfl; have c_r1_2 := r1.cell 2 rfl; have c_r1_3 := r1.cell 3 rfl) | (go_at_call 162; refine (XI ⟨a, b, c, d⟩ _ hE').mono ?_; rintro e wn ⟨rfl, za⟩; obtain ⟨zf, zg, B⟩ := zM B za; replace r1 := r1.be za) | (refine zL (t := 38) rfl _ rfl _ rfl ?_; intro b_r1 wn zb zd ht za zg; have zf := B.size; replace B := B.trans (za.mono (by omega)); have zk := zln zg; clear zg; have r1 := ht; clear ht; simp only [zn]) | (first | refine yN ?_ | refine yO ?_) | fail)
  go_ret; exact ⟨rfl, B⟩
theorem uE (r : Rc) (w : World) : Calls Tryz.prog 146 #[Rc.v r] w fun e w' => e = .returned (.bool (jk r)) ∧ Below w.heap.size w w' := by
 obtain ⟨a, b, c, d⟩ := r
 have B := Below.refl w.heap.size w
 simp only [Rc.v_mk]
 by_cases hE : z8 ⟨a, b, c, d⟩ = true
 ·rw [show jk ⟨a, b, c, d⟩ = false from by unfold jk; rw [hE]; rfl]
  go_enter func146, ntmps146
  go_wp2_with (first | (go_at_call 112; refine (kI ⟨a, b, c, d⟩ _).mono ?_; rintro e wn ⟨rfl, za⟩; obtain ⟨zf, zg, B⟩ := zM B za; replace r1 := r1.be za; have c_r1_0 := r1.cell 0 rfl; have c_r1_1 := r1.cell 1 rfl; have c_r1_2 := r1.cell 2 rfl; have c_r1_3 := r1.cell 3 rfl) | (refine zL (t := 38) rfl _ rfl _ rfl ?_; intro b_r1 wn zb zd ht za zg; have zf := B.size; replace B := B.trans (za.mono (by omega)); have zk := zln zg; clear zg; have r1 := ht; clear ht; simp only [zn]) | (first | refine yN ?_ | refine yO ?_) | fail)
  go_ret; exact ⟨rfl, B⟩
 ·have hE' : z8 ⟨a, b, c, d⟩ = false := by simpa using hE
  rw [show jk ⟨a, b, c, d⟩ = kY ⟨a, b, c, d⟩ from by unfold jk; rw [hE']; rfl]
  clear hE; by_cases h0 : -65536 ≤ a
  ·by_cases h1 : -65536 ≤ b
   ·by_cases h2 : c ≤ 65536
    ·by_cases h3 : d ≤ 65536
     ·rw [show kY ⟨a, b, c, d⟩ = true from by unfold kY; exact zQ (by simp only; omega)]
      have d0 : decide (-65536 ≤ a) = true := zQ h0; have d1 : decide (-65536 ≤ b) = true := zQ h1; have d2 : decide (c ≤ 65536) = true := zQ h2; have d3 : decide (d ≤ 65536) = true := zQ h3; go_enter func146, ntmps146
      go_wp2_with (first | (go_at_call 112; refine (kI ⟨a, b, c, d⟩ _).mono ?_; rintro e wn ⟨rfl, za⟩; obtain ⟨zf, zg, B⟩ := zM B za; replace r1 := r1.be za; have c_r1_0 := r1.cell 0 rfl; have c_r1_1 := r1.cell 1 rfl; have c_r1_2 := r1.cell 2 rfl; have c_r1_3 := r1.cell 3 rfl) | (refine zL (t := 38) rfl _ rfl _ rfl ?_; intro b_r1 wn zb zd ht za zg; have zf := B.size; replace B := B.trans (za.mono (by omega)); have zk := zln zg; clear zg; have r1 := ht; clear ht; simp only [zn]) | (first | refine yN ?_ | refine yO ?_) | fail)
      go_ret; exact ⟨rfl, B⟩
     ·rw [show kY ⟨a, b, c, d⟩ = false from by unfold kY; exact zB (by simp only; omega)]
      have d0 : decide (-65536 ≤ a) = true := zQ h0; have d1 : decide (-65536 ≤ b) = true := zQ h1; have d2 : decide (c ≤ 65536) = true := zQ h2; have d3 : decide (d ≤ 65536) = false := zB h3; go_enter func146, ntmps146
      go_wp2_with (first | (go_at_call 112; refine (kI ⟨a, b, c, d⟩ _).mono ?_; rintro e wn ⟨rfl, za⟩; obtain ⟨zf, zg, B⟩ := zM B za; replace r1 := r1.be za; have c_r1_0 := r1.cell 0 rfl; have c_r1_1 := r1.cell 1 rfl; have c_r1_2 := r1.cell 2 rfl; have c_r1_3 := r1.cell 3 rfl) | (refine zL (t := 38) rfl _ rfl _ rfl ?_; intro b_r1 wn zb zd ht za zg; have zf := B.size; replace B := B.trans (za.mono (by omega)); have zk := zln zg; clear zg; have r1 := ht; clear ht; simp only [zn]) | (first | refine yN ?_ | refine yO ?_) | fail)
      go_ret; exact ⟨rfl, B⟩
    ·rw [show kY ⟨a, b, c, d⟩ = false from by unfold kY; exact zB (by simp only; omega)]
     have d0 : decide (-65536 ≤ a) = true := zQ h0; have d1 : decide (-65536 ≤ b) = true := zQ h1; have d2 : decide (c ≤ 65536) = false := zB h2; go_enter func146, ntmps146
     go_wp2_with (first | (go_at_call 112; refine (kI ⟨a, b, c, d⟩ _).mono ?_; rintro e wn ⟨rfl, za⟩; obtain ⟨zf, zg, B⟩ := zM B za; replace r1 := r1.be za; have c_r1_0 := r1.cell 0 rfl; have c_r1_1 := r1.cell 1 rfl; have c_r1_2 := r1.cell 2 rfl; have c_r1_3 := r1.cell 3 rfl) | (refine zL (t := 38) rfl _ rfl _ rfl ?_; intro b_r1 wn zb zd ht za zg; have zf := B.size; replace B := B.trans (za.mono (by omega)); have zk := zln zg; clear zg; have r1 := ht; clear ht; simp only [zn]) | (first | refine yN ?_ | refine yO ?_) | fail)
     go_ret; exact ⟨rfl, B⟩
   ·rw [show kY ⟨a, b, c, d⟩ = false from by unfold kY; exact zB (by simp only; omega)]
    have d0 : decide (-65536 ≤ a) = true := zQ h0; have d1 : decide (-65536 ≤ b) = false := zB h1; go_enter func146, ntmps146
    go_wp2_with (first | (go_at_call 112; refine (kI ⟨a, b, c, d⟩ _).mono ?_; rintro e wn ⟨rfl, za⟩; obtain ⟨zf, zg, B⟩ := zM B za; replace r1 := r1.be za; have c_r1_0 := r1.cell 0 rfl; have c_r1_1 := r1.cell 1 rfl; have c_r1_2 := r1.cell 2 rfl; have c_r1_3 := r1.cell 3 rfl) | (refine zL (t := 38) rfl _ rfl _ rfl ?_; intro b_r1 wn zb zd ht za zg; have zf := B.size; replace B := B.trans (za.mono (by omega)); have zk := zln zg; clear zg; have r1 := ht; clear ht; simp only [zn]) | (first | refine yN ?_ | refine yO ?_) | fail)
    go_ret; exact ⟨rfl, B⟩
  ·rw [show kY ⟨a, b, c, d⟩ = false from by unfold kY; exact zB (by simp only; omega)]
   have d0 : decide (-65536 ≤ a) = false := zB h0; go_enter func146, ntmps146
   go_wp2_with (first | (go_at_call 112; refine (kI ⟨a, b, c, d⟩ _).mono ?_; rintro e wn ⟨rfl, za⟩; obtain ⟨zf, zg, B⟩ := zM B za; replace r1 := r1.be za; have c_r1_0 := r1.cell 0 rfl; have c_r1_1 := r1.cell 1 rfl; have c_r1_2 := r1.cell 2 rfl; have c_r1_3 := r1.cell 3 rfl) | (refine zL (t := 38) rfl _ rfl _ rfl ?_; intro b_r1 wn zb zd ht za zg; have zf := B.size; replace B := B.trans (za.mono (by omega)); have zk := zln zg; clear zg; have r1 := ht; clear ht; simp only [zn]) | (first | refine yN ?_ | refine yO ?_) | fail)
   go_ret; exact ⟨rfl, B⟩
theorem zcI (r : Rc) (w : World) (hv : jk r = true) : Calls Tryz.prog 125 #[Rc.v r] w fun e w' => e = .returned (.int .i64 (yV r)) ∧ Below w.heap.size w w' := by
 have hv2 := (kG r).1 hv
 obtain ⟨a, b, c, d⟩ := r
 simp only at hv2
 obtain ⟨⟨l1, l2⟩, l3, l4, l5, l6⟩ := hv2
 have hE : z8 ⟨a, b, c, d⟩ = false := by unfold z8; exact zB (by simp only; omega)
 have hm := jX (a := c - a) (b := d - b) (m := 131072) (k := 131072) (by omega) (by omega) (by omega) (by omega)
 obtain ⟨m1, m2⟩ := hm
 have B := Below.refl w.heap.size w
 rw [show yV ⟨a, b, c, d⟩ = (c - a) * (d - b) from by unfold yV; rw [hE]; rfl]
 clear hv
 simp only [Rc.v_mk]
 go_enter func125, ntmps125
 go_wp2_with (first | (go_at_call 45; refine (yF ⟨a, b, c, d⟩ _).mono ?_; rintro e wn ⟨rfl, za⟩; obtain ⟨zf, zg, B⟩ := zM B za; replace r1 := r1.be za; have c_r1_0 := r1.cell 0 rfl; have c_r1_1 := r1.cell 1 rfl; have c_r1_2 := r1.cell 2 rfl; have c_r1_3 := r1.cell 3 rfl) | (refine zL (t := 38) rfl _ rfl _ rfl ?_; intro b_r1 wn zb zd ht za zg; have zf := B.size; replace B := B.trans (za.mono (by omega)); have zk := zln zg; clear zg; have r1 := ht; clear ht; simp only [zn]) | (first | refine yN ?_ | refine yO ?_) | fail)
 go_ret
 exact ⟨rfl, B⟩
theorem zhd (r : Rc) (w : World) (hv : jk r = true) : Calls Tryz.prog 147 #[Rc.v r] w fun e w' => e = .returned (.int .i64 (yV r)) ∧ Below w.heap.size w w' := by
 have hv2 := (kG r).1 hv
 obtain ⟨a, b, c, d⟩ := r
 simp only at hv2
 obtain ⟨⟨l1, l2⟩, l3, l4, l5, l6⟩ := hv2
 have hE : z8 ⟨a, b, c, d⟩ = false := by unfold z8; exact zB (by simp only; omega)
 have hm := jX (a := c - a) (b := d - b) (m := 131072) (k := 131072) (by omega) (by omega) (by omega) (by omega)
 obtain ⟨m1, m2⟩ := hm
 have B := Below.refl w.heap.size w
 rw [show yV ⟨a, b, c, d⟩ = (c - a) * (d - b) from by unfold yV; rw [hE]; rfl]
 clear hv
 simp only [Rc.v_mk]
 go_enter func147, ntmps147
 go_wp2_with (first | (go_at_call 112; refine (kI ⟨a, b, c, d⟩ _).mono ?_; rintro e wn ⟨rfl, za⟩; obtain ⟨zf, zg, B⟩ := zM B za; replace r1 := r1.be za; have c_r1_0 := r1.cell 0 rfl; have c_r1_1 := r1.cell 1 rfl; have c_r1_2 := r1.cell 2 rfl; have c_r1_3 := r1.cell 3 rfl) | (refine zL (t := 38) rfl _ rfl _ rfl ?_; intro b_r1 wn zb zd ht za zg; have zf := B.size; replace B := B.trans (za.mono (by omega)); have zk := zln zg; clear zg; have r1 := ht; clear ht; simp only [zn]) | (first | refine yN ?_ | refine yO ?_) | fail)
 go_ret
 exact ⟨rfl, B⟩
def jh (r : Rc) : Int := if jk r = true then (if 256 < r.x1 - r.x0 ∨ 256 < r.y1 - r.y0 then 45 else 0) else 1
theorem zc7 (r : Rc) (w : World) : Calls Tryz.prog 124 #[Rc.v r] w fun e w' => e = .returned (.int .i64 (jh r)) ∧ Below w.heap.size w w' := by
 have hv2 := (kG r).1
 obtain ⟨a, b, c, d⟩ := r
 have B := Below.refl w.heap.size w
 simp only [Rc.v_mk]
 by_cases hv : jk ⟨a, b, c, d⟩ = true
 ·obtain ⟨⟨l1, l2⟩, l3, l4, l5, l6⟩ := hv2 hv
  simp only at l1 l2 l3 l4 l5 l6; clear hv2; by_cases h0 : 256 < c - a
  ·rw [show jh ⟨a, b, c, d⟩ = 45 from by unfold jh; rw [if_pos hv, if_pos (by simp only; omega)]]
   have d0 : decide (256 < c - a) = true := zQ h0; go_enter func124, ntmps124
   go_wp2_with (first | (go_at_call 128; refine (uC ⟨a, b, c, d⟩ _).mono ?_; rintro e wn ⟨rfl, za⟩; obtain ⟨zf, zg, B⟩ := zM B za; replace r1 := r1.be za; have c_r1_0 := r1.cell 0 rfl; have c_r1_1 := r1.cell 1 rfl; have c_r1_2 := r1.cell 2 rfl; have c_r1_3 := r1.cell 3 rfl) | (refine zL (t := 38) rfl _ rfl _ rfl ?_; intro b_r1 wn zb zd ht za zg; have zf := B.size; replace B := B.trans (za.mono (by omega)); have zk := zln zg; clear zg; have r1 := ht; clear ht; simp only [zn]) | (first | refine yN ?_ | refine yO ?_) | fail)
   go_ret; exact ⟨rfl, B⟩
  ·by_cases h1 : 256 < d - b
   ·rw [show jh ⟨a, b, c, d⟩ = 45 from by unfold jh; rw [if_pos hv, if_pos (by simp only; omega)]]
    have d0 : decide (256 < c - a) = false := zB h0; have d1 : decide (256 < d - b) = true := zQ h1; go_enter func124, ntmps124
    go_wp2_with (first | (go_at_call 128; refine (uC ⟨a, b, c, d⟩ _).mono ?_; rintro e wn ⟨rfl, za⟩; obtain ⟨zf, zg, B⟩ := zM B za; replace r1 := r1.be za; have c_r1_0 := r1.cell 0 rfl; have c_r1_1 := r1.cell 1 rfl; have c_r1_2 := r1.cell 2 rfl; have c_r1_3 := r1.cell 3 rfl) | (refine zL (t := 38) rfl _ rfl _ rfl ?_; intro b_r1 wn zb zd ht za zg; have zf := B.size; replace B := B.trans (za.mono (by omega)); have zk := zln zg; clear zg; have r1 := ht; clear ht; simp only [zn]) | (first | refine yN ?_ | refine yO ?_) | fail)
    go_ret; exact ⟨rfl, B⟩
   ·rw [show jh ⟨a, b, c, d⟩ = 0 from by unfold jh; rw [if_pos hv, if_neg (by simp only; omega)]]
    have d0 : decide (256 < c - a) = false := zB h0; have d1 : decide (256 < d - b) = false := zB h1; go_enter func124, ntmps124
    go_wp2_with (first | (go_at_call 128; refine (uC ⟨a, b, c, d⟩ _).mono ?_; rintro e wn ⟨rfl, za⟩; obtain ⟨zf, zg, B⟩ := zM B za; replace r1 := r1.be za; have c_r1_0 := r1.cell 0 rfl; have c_r1_1 := r1.cell 1 rfl; have c_r1_2 := r1.cell 2 rfl; have c_r1_3 := r1.cell 3 rfl) | (refine zL (t := 38) rfl _ rfl _ rfl ?_; intro b_r1 wn zb zd ht za zg; have zf := B.size; replace B := B.trans (za.mono (by omega)); have zk := zln zg; clear zg; have r1 := ht; clear ht; simp only [zn]) | (first | refine yN ?_ | refine yO ?_) | fail)
    go_ret; exact ⟨rfl, B⟩
 ·rw [show jh ⟨a, b, c, d⟩ = 1 from by unfold jh; rw [if_neg hv]]
  have hv' : jk ⟨a, b, c, d⟩ = false := by simpa using hv
  clear hv2 hv; go_enter func124, ntmps124
  go_wp2_with (first | (go_at_call 128; refine (uC ⟨a, b, c, d⟩ _).mono ?_; rintro e wn ⟨rfl, za⟩; obtain ⟨zf, zg, B⟩ := zM B za; replace r1 := r1.be za; have c_r1_0 := r1.cell 0 rfl; have c_r1_1 := r1.cell 1 rfl; have c_r1_2 := r1.cell 2 rfl; have c_r1_3 := r1.cell 3 rfl) | (refine zL (t := 38) rfl _ rfl _ rfl ?_; intro b_r1 wn zb zd ht za zg; have zf := B.size; replace B := B.trans (za.mono (by omega)); have zk := zln zg; clear zg; have r1 := ht; clear ht; simp only [zn]) | (first | refine yN ?_ | refine yO ?_) | fail)
  go_ret; exact ⟨rfl, B⟩
theorem zhj (r : Rc) (w : World) : Calls Tryz.prog 148 #[Rc.v r] w fun e w' => e = .returned (.int .i64 (jh r)) ∧ Below w.heap.size w w' := by
 have hv2 := (kG r).1
 obtain ⟨a, b, c, d⟩ := r
 have B := Below.refl w.heap.size w
 simp only [Rc.v_mk]
 by_cases hv : jk ⟨a, b, c, d⟩ = true
 ·obtain ⟨⟨l1, l2⟩, l3, l4, l5, l6⟩ := hv2 hv
  simp only at l1 l2 l3 l4 l5 l6; clear hv2; by_cases h0 : 256 < c - a
  ·rw [show jh ⟨a, b, c, d⟩ = 45 from by unfold jh; rw [if_pos hv, if_pos (by simp only; omega)]]
   have d0 : decide (256 < c - a) = true := zQ h0; go_enter func148, ntmps148
   go_wp2_with (first | (go_at_call 146; refine (uE ⟨a, b, c, d⟩ _).mono ?_; rintro e wn ⟨rfl, za⟩; obtain ⟨zf, zg, B⟩ := zM B za; replace r1 := r1.be za; have c_r1_0 := r1.cell 0 rfl; have c_r1_1 := r1.cell 1 rfl; have c_r1_2 := r1.cell 2 rfl; have c_r1_3 := r1.cell 3 rfl) | (refine zL (t := 38) rfl _ rfl _ rfl ?_; intro b_r1 wn zb zd ht za zg; have zf := B.size; replace B := B.trans (za.mono (by omega)); have zk := zln zg; clear zg; have r1 := ht; clear ht; simp only [zn]) | (first | refine yN ?_ | refine yO ?_) | fail)
   go_ret; exact ⟨rfl, B⟩
  ·by_cases h1 : 256 < d - b
   ·rw [show jh ⟨a, b, c, d⟩ = 45 from by unfold jh; rw [if_pos hv, if_pos (by simp only; omega)]]
    have d0 : decide (256 < c - a) = false := zB h0; have d1 : decide (256 < d - b) = true := zQ h1; go_enter func148, ntmps148
    go_wp2_with (first | (go_at_call 146; refine (uE ⟨a, b, c, d⟩ _).mono ?_; rintro e wn ⟨rfl, za⟩; obtain ⟨zf, zg, B⟩ := zM B za; replace r1 := r1.be za; have c_r1_0 := r1.cell 0 rfl; have c_r1_1 := r1.cell 1 rfl; have c_r1_2 := r1.cell 2 rfl; have c_r1_3 := r1.cell 3 rfl) | (refine zL (t := 38) rfl _ rfl _ rfl ?_; intro b_r1 wn zb zd ht za zg; have zf := B.size; replace B := B.trans (za.mono (by omega)); have zk := zln zg; clear zg; have r1 := ht; clear ht; simp only [zn]) | (first | refine yN ?_ | refine yO ?_) | fail)
    go_ret; exact ⟨rfl, B⟩
   ·rw [show jh ⟨a, b, c, d⟩ = 0 from by unfold jh; rw [if_pos hv, if_neg (by simp only; omega)]]
    have d0 : decide (256 < c - a) = false := zB h0; have d1 : decide (256 < d - b) = false := zB h1; go_enter func148, ntmps148
    go_wp2_with (first | (go_at_call 146; refine (uE ⟨a, b, c, d⟩ _).mono ?_; rintro e wn ⟨rfl, za⟩; obtain ⟨zf, zg, B⟩ := zM B za; replace r1 := r1.be za; have c_r1_0 := r1.cell 0 rfl; have c_r1_1 := r1.cell 1 rfl; have c_r1_2 := r1.cell 2 rfl; have c_r1_3 := r1.cell 3 rfl) | (refine zL (t := 38) rfl _ rfl _ rfl ?_; intro b_r1 wn zb zd ht za zg; have zf := B.size; replace B := B.trans (za.mono (by omega)); have zk := zln zg; clear zg; have r1 := ht; clear ht; simp only [zn]) | (first | refine yN ?_ | refine yO ?_) | fail)
    go_ret; exact ⟨rfl, B⟩
 ·rw [show jh ⟨a, b, c, d⟩ = 1 from by unfold jh; rw [if_neg hv]]
  have hv' : jk ⟨a, b, c, d⟩ = false := by simpa using hv
  clear hv2 hv; go_enter func148, ntmps148
  go_wp2_with (first | (go_at_call 146; refine (uE ⟨a, b, c, d⟩ _).mono ?_; rintro e wn ⟨rfl, za⟩; obtain ⟨zf, zg, B⟩ := zM B za; replace r1 := r1.be za; have c_r1_0 := r1.cell 0 rfl; have c_r1_1 := r1.cell 1 rfl; have c_r1_2 := r1.cell 2 rfl; have c_r1_3 := r1.cell 3 rfl) | (refine zL (t := 38) rfl _ rfl _ rfl ?_; intro b_r1 wn zb zd ht za zg; have zf := B.size; replace B := B.trans (za.mono (by omega)); have zk := zln zg; clear zg; have r1 := ht; clear ht; simp only [zn]) | (first | refine yN ?_ | refine yO ?_) | fail)
  go_ret; exact ⟨rfl, B⟩
theorem KA (r s : Rc) (w : World) : Calls Tryz.prog 46 #[Rc.v r, Rc.v s] w fun e w' => e = .returned (Rc.v (y4 r s)) ∧ Below w.heap.size w w' := by
 obtain ⟨a, b, c, d⟩ := r
 obtain ⟨a', b', c', d'⟩ := s
 have B := Below.refl w.heap.size w
 have hfin : y4 ⟨a, b, c, d⟩ ⟨a', b', c', d'⟩ = kR ⟨max a a', max b b', min c c', min d d'⟩ := rfl
 rw [hfin]
 clear hfin
 simp only [Rc.v_mk]
 go_enter func46, ntmps46
 go_wp2_with (first | (refine qZ r3 B ?_; clear r3 B; intro wn r3 ze zf zg B; replace r1 := r1.cg ze; replace r2 := r2.cg ze) | (go_at_call 105; refine (Jv ⟨max a a', max b b', min c c', min d d'⟩ _).mono ?_; rintro e wn ⟨rfl, za⟩; obtain ⟨zf, zg, B⟩ := zM B za; replace r1 := r1.be za; replace r2 := r2.be za; replace r3 := r3.be za) | (have _ := r2; refine jH (t := 38) (zN _ _ rfl) B ?_; clear B; intro b_r3 wn zb zd r3 za zf zk B; replace r1 := r1.be za; replace r2 := r2.be za) | (have _ := r1; refine jd (t := 38) B ?_; clear B; intro b_r2 wn zb zd r2 za zf zk B; replace r1 := r1.be za) | (refine jd (t := 38) B ?_; clear B; intro b_r1 wn zb zd r1 za zf zk B) | (first | refine yN ?_ | refine yO ?_) | fail)
 refine qO r3 ?_
 exact ⟨rfl, B⟩
theorem kN (a b c d : Int) (w : World) : Calls Tryz.prog 45 #[.agg #[.int .i64 a, .int .i64 b, .int .i64 c, .int .i64 d]] w fun e w' => e = .returned (.bool (z8 ⟨a, b, c, d⟩)) ∧ Below w.heap.size w w' := yF ⟨a, b, c, d⟩ w
theorem zfu (r s : Rc) (w : World) : Calls Tryz.prog 61 #[Rc.v r, Rc.v s] w fun e w' => e = .returned (Rc.v (yx r s)) ∧ Below w.heap.size w w' := by
 obtain ⟨a, b, c, d⟩ := r
 obtain ⟨a', b', c', d'⟩ := s
 have B := Below.refl w.heap.size w
 by_cases h1 : z8 ⟨a, b, c, d⟩ = true
 ·rw [show yx ⟨a, b, c, d⟩ ⟨a', b', c', d'⟩ = kR ⟨a', b', c', d'⟩ from if_pos h1]
  by_cases h2 : z8 ⟨a', b', c', d'⟩ = true
  ·simp only [Rc.v_mk]
   go_enter func61, ntmps61
   go_wp2_with (first | (refine qZ r3 B ?_; clear r3 B; intro wn r3 ze zf zg B; replace r1 := r1.cg ze; replace r2 := r2.cg ze) | (go_at_call 105; refine (Jv ⟨a', b', c', d'⟩ _).mono ?_; rintro e wn ⟨rfl, za⟩; obtain ⟨zf, zg, B⟩ := zM B za; replace r1 := r1.be za; replace r2 := r2.be za; replace r3 := r3.be za) | (have _ := r2; refine jH (t := 38) (zN _ _ rfl) B ?_; clear B; intro b_r3 wn zb zd r3 za zf zk B; replace r1 := r1.be za; replace r2 := r2.be za) | (have _ := r1; refine jd (t := 38) B ?_; clear B; intro b_r2 wn zb zd r2 za zf zk B; replace r1 := r1.be za) | (refine jd (t := 38) B ?_; clear B; intro b_r1 wn zb zd r1 za zf zk B) | (go_at_call 45; ((with_reducible refine (kN a b c d _).mono ?_)); rintro e wn ⟨rfl, za⟩; obtain ⟨zf, zg, B⟩ := zM B za; replace r1 := r1.be za; replace r2 := r2.be za; replace r3 := r3.be za) | (go_at_call 45; ((with_reducible refine (kN a' b' c' d' _).mono ?_)); rintro e wn ⟨rfl, za⟩; obtain ⟨zf, zg, B⟩ := zM B za; (try replace r1 := r1.be za); (try replace r2 := r2.be za); (try replace r3 := r3.be za)) | (first | refine yN ?_ | refine yO ?_) | fail)
   refine qO r3 ?_; exact ⟨rfl, B⟩
  ·have h2' : z8 ⟨a', b', c', d'⟩ = false := by simpa using h2
   clear h2; simp only [Rc.v_mk]; go_enter func61, ntmps61
   go_wp2_with (first | (refine qZ r3 B ?_; clear r3 B; intro wn r3 ze zf zg B; replace r1 := r1.cg ze; replace r2 := r2.cg ze) | (go_at_call 105; refine (Jv ⟨a', b', c', d'⟩ _).mono ?_; rintro e wn ⟨rfl, za⟩; obtain ⟨zf, zg, B⟩ := zM B za; replace r1 := r1.be za; replace r2 := r2.be za; replace r3 := r3.be za) | (have _ := r2; refine jH (t := 38) (zN _ _ rfl) B ?_; clear B; intro b_r3 wn zb zd r3 za zf zk B; replace r1 := r1.be za; replace r2 := r2.be za) | (have _ := r1; refine jd (t := 38) B ?_; clear B; intro b_r2 wn zb zd r2 za zf zk B; replace r1 := r1.be za) | (refine jd (t := 38) B ?_; clear B; intro b_r1 wn zb zd r1 za zf zk B) | (go_at_call 45; ((with_reducible refine (kN a b c d _).mono ?_)); rintro e wn ⟨rfl, za⟩; obtain ⟨zf, zg, B⟩ := zM B za; replace r1 := r1.be za; replace r2 := r2.be za; replace r3 := r3.be za) | (go_at_call 45; ((with_reducible refine (kN a' b' c' d' _).mono ?_)); rintro e wn ⟨rfl, za⟩; obtain ⟨zf, zg, B⟩ := zM B za; (try replace r1 := r1.be za); (try replace r2 := r2.be za); (try replace r3 := r3.be za)) | (first | refine yN ?_ | refine yO ?_) | fail)
   refine qO r3 ?_; exact ⟨rfl, B⟩
 ·have h1' : z8 ⟨a, b, c, d⟩ = false := by simpa using h1
  by_cases h2 : z8 ⟨a', b', c', d'⟩ = true
  ·rw [show yx ⟨a, b, c, d⟩ ⟨a', b', c', d'⟩ = ⟨a, b, c, d⟩ from by unfold yx; rw [if_neg h1, if_pos h2]]
   clear h1; simp only [Rc.v_mk]; go_enter func61, ntmps61
   go_wp2_with (first | (refine qZ r3 B ?_; clear r3 B; intro wn r3 ze zf zg B; replace r1 := r1.cg ze; replace r2 := r2.cg ze) | (go_at_call 105; refine (Jv ⟨a', b', c', d'⟩ _).mono ?_; rintro e wn ⟨rfl, za⟩; obtain ⟨zf, zg, B⟩ := zM B za; (try replace r1 := r1.be za); (try replace r2 := r2.be za); (try replace r3 := r3.be za)) | (have _ := r2; refine jH (t := 38) (zN _ _ rfl) B ?_; clear B; intro b_r3 wn zb zd r3 za zf zk B; replace r1 := r1.be za; replace r2 := r2.be za) | (have _ := r1; refine jd (t := 38) B ?_; clear B; intro b_r2 wn zb zd r2 za zf zk B; replace r1 := r1.be za) | (refine jd (t := 38) B ?_; clear B; intro b_r1 wn zb zd r1 za zf zk B) | (go_at_call 45; ((with_reducible refine (kN a b c d _).mono ?_)); rintro e wn ⟨rfl, za⟩; obtain ⟨zf, zg, B⟩ := zM B za; replace r1 := r1.be za; replace r2 := r2.be za; replace r3 := r3.be za) | (go_at_call 45; ((with_reducible refine (kN a' b' c' d' _).mono ?_)); rintro e wn ⟨rfl, za⟩; obtain ⟨zf, zg, B⟩ := zM B za; replace r1 := r1.be za; replace r2 := r2.be za; replace r3 := r3.be za) | (first | refine yN ?_ | refine yO ?_) | fail)
   refine qO r3 ?_; exact ⟨rfl, B⟩
  ·have h2' : z8 ⟨a', b', c', d'⟩ = false := by simpa using h2
   rw [show yx ⟨a, b, c, d⟩ ⟨a', b', c', d'⟩ = ⟨min a a', min b b', max c c', max d d'⟩ from by unfold yx; rw [if_neg h1, if_neg h2]]
   clear h1 h2; simp only [Rc.v_mk]; go_enter func61, ntmps61
   go_wp2_with (first | (refine qZ r3 B ?_; clear r3 B; intro wn r3 ze zf zg B; replace r1 := r1.cg ze; replace r2 := r2.cg ze) | (go_at_call 105; refine (Jv ⟨a', b', c', d'⟩ _).mono ?_; rintro e wn ⟨rfl, za⟩; obtain ⟨zf, zg, B⟩ := zM B za; (try replace r1 := r1.be za); (try replace r2 := r2.be za); (try replace r3 := r3.be za)) | (have _ := r2; refine jH (t := 38) (zN _ _ rfl) B ?_; clear B; intro b_r3 wn zb zd r3 za zf zk B; replace r1 := r1.be za; replace r2 := r2.be za) | (have _ := r1; refine jd (t := 38) B ?_; clear B; intro b_r2 wn zb zd r2 za zf zk B; replace r1 := r1.be za) | (refine jd (t := 38) B ?_; clear B; intro b_r1 wn zb zd r1 za zf zk B) | (go_at_call 45; ((with_reducible refine (kN a b c d _).mono ?_)); rintro e wn ⟨rfl, za⟩; obtain ⟨zf, zg, B⟩ := zM B za; replace r1 := r1.be za; replace r2 := r2.be za; replace r3 := r3.be za) | (go_at_call 45; ((with_reducible refine (kN a' b' c' d' _).mono ?_)); rintro e wn ⟨rfl, za⟩; obtain ⟨zf, zg, B⟩ := zM B za; replace r1 := r1.be za; replace r2 := r2.be za; replace r3 := r3.be za) | (first | refine yN ?_ | refine yO ?_) | fail)
   refine qO r3 ?_; exact ⟨rfl, B⟩
theorem zdq (a b c d : Int) (w : World) : Calls Tryz.prog 112 #[.agg #[.int .i64 a, .int .i64 b, .int .i64 c, .int .i64 d]] w fun e w' => e = .returned (.bool (z8 ⟨a, b, c, d⟩)) ∧ Below w.heap.size w w' := kI ⟨a, b, c, d⟩ w
def XA (x y : Int) : Int := if x < y then -1 else if y < x then 1 else 0
def orI (x y : Int) : Int := if x = 0 then y else x
theorem Vt {x y : Int} (h : x = 0) : orI x y = y := if_pos h
theorem zhC {x y : Int} (h : ¬ x = 0) : orI x y = x := if_neg h
def QB (ax ay bx bv : Int) : Int := orI (XA ay bv) (XA ax bx)
theorem Vu (ax ay bx bv : Int) : decide (QB ax ay bx bv < 0) = jC ax ay bx bv := by
 unfold QB orI XA jC
 rw [Bool.eq_iff_iff, decide_eq_true_iff, decide_eq_true_iff]
 split <;> rename_i h <;> repeat' split
 all_goals (repeat' split at h)
 all_goals omega
theorem zgr (ax ay bx bv : Int) : decide (QB ax ay bx bv = 0) = yG ax ay bx bv := by
 unfold QB orI XA yG
 rw [Bool.eq_iff_iff, decide_eq_true_iff, decide_eq_true_iff]
 split <;> rename_i h <;> repeat' split
 all_goals (repeat' split at h)
 all_goals omega
theorem Ji (ax ay bx bv : Int) : decide (0 ≤ QB ax ay bx bv) = !jC ax ay bx bv := by
 rw [← Vu, Bool.eq_iff_iff]
 simp
theorem Yv (x : Int) (w : World) : Calls Tryz.prog 173 #[.int .i64 x] w fun e w' => e = .returned (.bool false) ∧ w = w' := by
 go_enter func173, ntmps173
 go_wp2
 go_ret
 exact ⟨rfl, rfl⟩
theorem zbr (x y : Int) (w : World) : Calls Tryz.prog 154 #[.int .i64 x, .int .i64 y] w fun e w' => e = .returned (.int .i64 (XA x y)) ∧ w = w' := by
 by_cases h1 : x < y
 ·rw [show XA x y = -1 from if_pos h1]
  go_enter func154, ntmps154
  go_wp2_with ((go_at_call 173; refine (Yv _ _).mono ?_; rintro e w' ⟨rfl, rfl⟩))
  go_ret; exact ⟨rfl, rfl⟩
 ·by_cases h2 : y < x
  ·rw [show XA x y = 1 from by unfold XA; rw [if_neg h1, if_pos h2]]
   go_enter func154, ntmps154
   go_wp2_with ((go_at_call 173; refine (Yv _ _).mono ?_; rintro e w' ⟨rfl, rfl⟩))
   go_ret; exact ⟨rfl, rfl⟩
  ·rw [show XA x y = 0 from by unfold XA; rw [if_neg h1, if_neg h2]]
   go_enter func154, ntmps154
   go_wp2_with ((go_at_call 173; refine (Yv _ _).mono ?_; rintro e w' ⟨rfl, rfl⟩))
   go_ret; exact ⟨rfl, rfl⟩
theorem zih (x y : Int) (b : Nat) (w : World) (h : zw 3 w b #[.int .i64 x, .int .i64 y]) : Calls Tryz.prog 153 #[.slice (some ⟨b, 0, none⟩) 2 2] w fun e w' => e = .returned (.int .i64 (orI x y)) ∧ w = w' := by
 have c0 := h.cell 0 rfl
 have c1 := h.cell 1 rfl
 clear h
 go_enter func153, ntmps153
 go_wp2
 go_loopw [8] (fun i wr => ∃ k : Nat, k ≤ 2 ∧ i = .int .i64 k ∧ wr = w ∧ (1 ≤ k → x = 0) ∧ (2 ≤ k → y = 0)) (fun i _ => (2 - intOf i).toNat)
 case atStart => exact ⟨0, by omega, rfl, rfl, by omega, by omega⟩
 case round =>
  obtain ⟨k, hk, rfl, rfl, h1, h2⟩ := hrel; have hc : k = 0 ∨ k = 1 ∨ k = 2 := by omega
  rcases hc with rfl | rfl | rfl
  ·clear h1 h2
   by_cases hx : x = 0
   ·have e1 : (x == 0) = true := by simpa using hx
    have e2 : (x != 0) = false := by simpa using hx
    have H := zo hx; clear hx; go_wp2; go_roundw
    case rel => exact ⟨1, by omega, rfl, by simp, fun _ => H.out, by omega⟩
    case measure => simp [intOf]
   ·have e1 : (x == 0) = false := by simpa using hx
    have e2 : (x != 0) = true := by simpa using hx
    have H := zo hx; clear hx; go_wp2; go_ret; exact ⟨by rw [zhC H.out]; rfl, rfl⟩
  ·have H1 := zo (h1 (by omega))
   clear h1 h2; by_cases hx : y = 0
   ·have e1 : (y == 0) = true := by simpa using hx
    have e2 : (y != 0) = false := by simpa using hx
    have H := zo hx; clear hx; go_wp2; go_roundw
    case rel => exact ⟨2, by omega, rfl, by simp, fun _ => H1.out, fun _ => H.out⟩
    case measure => simp [intOf]
   ·have e1 : (y == 0) = false := by simpa using hx
    have e2 : (y != 0) = true := by simpa using hx
    have H := zo hx; clear hx; go_wp2; go_ret; exact ⟨by rw [Vt H1.out]; rfl, rfl⟩
  ·have H1 := zo (h1 (by omega))
   have H2 := zo (h2 (by omega)); clear h1 h2; go_wp2; go_ret; exact ⟨by rw [Vt H1.out, H2.out]; rfl, rfl⟩
theorem zeM (w : World) (o : Oper) (x y : Operand) (ho : o.op = .buildSlice 22 2 #[(0, x), (1, y)]) (ev : Operand → Value) (p q : Int) (hx : ev x = .int .i64 p) (hy : ev y = .int .i64 q) : (execOp ev o).run Tryz.prog w = .ok (.value (.slice (some ⟨w.heap.size, 0, none⟩) 2 2)) (w.alloc (.cells #[.int .i64 p, .int .i64 q] 3)) := by
 obtain ⟨d, po, t, ps, af, gd⟩ := o
 simp only at ho
 subst ho
 unfold execOp
 simp only [List.map_toArray, List.map_cons, List.map_nil, hx, hy]
 kernel_rfl
theorem V6 {ops : Array Oper} {rest : List Oper} {o : Oper} {a : Act} {w : World} {Q : Exit → Act → World → Prop} (hg : o.guard = none) (x y : Operand) (ho : o.op = .buildSlice 22 2 #[(0, x), (1, y)]) (p q : Int) (hx : a.eval x = .int .i64 p) (hy : a.eval y = .int .i64 q)
  (h : ∀ b w', w.heap.size ≤ b → b ≤ w.heap.size → zw 3 w' b #[.int .i64 p, .int .i64 q] → Below b w w' → w'.heap.size = b + 1 → wpList Tryz.prog ops Q rest (a.put o.dst (.slice (some ⟨b, 0, none⟩) 2 2)) w') : wpList Tryz.prog ops Q (o :: rest) a w :=
 wpList_plain hg fun K hK => by
  unfold Oper.wp; rw [zeM w o x y ho _ p q hx hy]; exact hK _ _ (h _ _ (Nat.le_refl _) (Nat.le_refl _) (by unfold zw; rw [zJ, if_pos rfl]) ((Below.refl _ _).alloc (Nat.le_refl _) _) (World.size_alloc _ _))
theorem wQ (ax ay bx bv : Int) (w : World) : Calls Tryz.prog 102 #[Ps.v ax ay, Ps.v bx bv] w fun e w' => e = .returned (.int .i64 (QB ax ay bx bv)) ∧ Below w.heap.size w w' := by
 have B := Below.refl w.heap.size w
 simp only [Ps.v]
 go_enter func102, ntmps102
 go_wp2_with (first | (have _ := p1; refine jd (t := 95) B ?_; clear B; intro b_p2 wn zb zd p2 za zf zk B; replace p1 := p1.be za) | (refine jd (t := 95) B ?_; clear B; intro b_p1 wn zb zd p1 za zf zk B) | fail)
 refine jm 10 (by kernel_rfl) (by kernel_rfl) ?_
 simp only [List.take_succ_cons, List.take_zero, List.drop_succ_cons, List.drop_zero]
 repeat (first | go_big_quiet_skip | (go_big_quiet_want; first | ((first | refine qB ?_ | refine qC ?_); simp only [zn]; go_big_quiet_on) | (go_big_quiet_op; first | go_big_quiet_on | go_big_quiet_call ((first | (go_at_call 154; exact yy (zbr _ _ _)))))))
 refine wpQuiet_nil ?_
 intro wn za
 obtain ⟨zf, zg, B⟩ := zM B za
 go_wp2_with (first | (refine V6 rfl _ _ rfl _ _ rfl rfl (kn B ?_); clear B; intro b_bs wn zb zd bs za zf zk B; simp only [zn]) | (go_at_call 153; refine (zih _ _ _ _ bs).mono ?_; rintro e wq ⟨rfl, rfl⟩) | fail)
 go_ret
 exact ⟨rfl, B⟩
theorem wl (x y : Int) (w : World) : Calls Tryz.prog 99 #[Ps.v x y] w fun e w' => e = .returned (.bool (qo x y)) ∧ Below w.heap.size w w' := by
 simp only [Ps.v]
 by_cases h0 : -8192 ≤ x
 ·by_cases h1 : x ≤ 8191
  ·by_cases h2 : -8192 ≤ y
   ·by_cases h3 : y ≤ 8191
    ·rw [show qo x y = true from by unfold qo; exact zQ (by omega)]
     have d0 : decide (-8192 ≤ x) = true := zQ h0; have d1 : decide (x ≤ 8191) = true := zQ h1; have d2 : decide (-8192 ≤ y) = true := zQ h2; have d3 : decide (y ≤ 8191) = true := zQ h3; go_enter func99, ntmps99
     go_wp2; go_ret; exact ⟨rfl, by go_grown⟩
    ·rw [show qo x y = false from by unfold qo; exact zB (by omega)]
     have d0 : decide (-8192 ≤ x) = true := zQ h0; have d1 : decide (x ≤ 8191) = true := zQ h1; have d2 : decide (-8192 ≤ y) = true := zQ h2; have d3 : decide (y ≤ 8191) = false := zB h3; go_enter func99, ntmps99
     go_wp2; go_ret; exact ⟨rfl, by go_grown⟩
   ·rw [show qo x y = false from by unfold qo; exact zB (by omega)]
    have d0 : decide (-8192 ≤ x) = true := zQ h0; have d1 : decide (x ≤ 8191) = true := zQ h1; have d2 : decide (-8192 ≤ y) = false := zB h2; go_enter func99, ntmps99
    go_wp2; go_ret; exact ⟨rfl, by go_grown⟩
  ·rw [show qo x y = false from by unfold qo; exact zB (by omega)]
   have d0 : decide (-8192 ≤ x) = true := zQ h0; have d1 : decide (x ≤ 8191) = false := zB h1; go_enter func99, ntmps99
   go_wp2; go_ret; exact ⟨rfl, by go_grown⟩
 ·rw [show qo x y = false from by unfold qo; exact zB (by omega)]
  have d0 : decide (-8192 ≤ x) = false := zB h0; go_enter func99, ntmps99
  go_wp2; go_ret; exact ⟨rfl, by go_grown⟩
theorem yU (x y : Int) (w : World) : Calls Tryz.prog 157 #[Ps.v x y] w fun e w' => e = .returned (.bool (qo x y)) ∧ Below w.heap.size w w' := by
 simp only [Ps.v]
 by_cases h0 : -8192 ≤ x
 ·by_cases h1 : x ≤ 8191
  ·by_cases h2 : -8192 ≤ y
   ·by_cases h3 : y ≤ 8191
    ·rw [show qo x y = true from by unfold qo; exact zQ (by omega)]
     have d0 : decide (-8192 ≤ x) = true := zQ h0; have d1 : decide (x ≤ 8191) = true := zQ h1; have d2 : decide (-8192 ≤ y) = true := zQ h2; have d3 : decide (y ≤ 8191) = true := zQ h3; go_enter func157, ntmps157
     go_wp2; go_ret; exact ⟨rfl, by go_grown⟩
    ·rw [show qo x y = false from by unfold qo; exact zB (by omega)]
     have d0 : decide (-8192 ≤ x) = true := zQ h0; have d1 : decide (x ≤ 8191) = true := zQ h1; have d2 : decide (-8192 ≤ y) = true := zQ h2; have d3 : decide (y ≤ 8191) = false := zB h3; go_enter func157, ntmps157
     go_wp2; go_ret; exact ⟨rfl, by go_grown⟩
   ·rw [show qo x y = false from by unfold qo; exact zB (by omega)]
    have d0 : decide (-8192 ≤ x) = true := zQ h0; have d1 : decide (x ≤ 8191) = true := zQ h1; have d2 : decide (-8192 ≤ y) = false := zB h2; go_enter func157, ntmps157
    go_wp2; go_ret; exact ⟨rfl, by go_grown⟩
  ·rw [show qo x y = false from by unfold qo; exact zB (by omega)]
   have d0 : decide (-8192 ≤ x) = true := zQ h0; have d1 : decide (x ≤ 8191) = false := zB h1; go_enter func157, ntmps157
   go_wp2; go_ret; exact ⟨rfl, by go_grown⟩
 ·rw [show qo x y = false from by unfold qo; exact zB (by omega)]
  have d0 : decide (-8192 ≤ x) = false := zB h0; go_enter func157, ntmps157
  go_wp2; go_ret; exact ⟨rfl, by go_grown⟩
theorem wT (ax ay bx bv : Int) (w : World) : Calls Tryz.prog 170 #[Ps.v ax ay, Ps.v bx bv] w fun e w' => e = .returned (.bool (jC ax ay bx bv)) ∧ Below w.heap.size w w' := by
 simp only [Ps.v]
 by_cases h1 : ay < bv
 ·rw [show jC ax ay bx bv = true from zQ (Or.inl h1)]
  have d1 : decide (ay < bv) = true := zQ h1; go_enter func170, ntmps170
  go_wp2; go_ret; exact ⟨rfl, by go_grown⟩
 ·have d1 : decide (ay < bv) = false := zB h1
  by_cases h2 : ay = bv
  ·subst h2
   by_cases h3 : ax < bx
   ·rw [show jC ax ay bx ay = true from zQ (Or.inr ⟨rfl, h3⟩)]
    have d3 : decide (ax < bx) = true := zQ h3; go_enter func170, ntmps170
    go_wp2; go_ret; exact ⟨rfl, by go_grown⟩
   ·rw [show jC ax ay bx ay = false from zB (by omega)]
    have d3 : decide (ax < bx) = false := zB h3; go_enter func170, ntmps170
    go_wp2; go_ret; exact ⟨rfl, by go_grown⟩
  ·rw [show jC ax ay bx bv = false from zB (by omega)]
   have d2 : (ay == bv) = false := by simpa using h2
   go_enter func170, ntmps170
   go_wp2; go_ret; exact ⟨rfl, by go_grown⟩
theorem zw.cell0 {t : TypeId} {w : World} {b : Nat} {v : Value} (h : zw t w b #[v]) : w.cell? ⟨b, 0, none⟩ = some v := h.cell 0 rfl
theorem zu {w : World} {b j : Nat} {v : Value} (h : w.cell? ⟨b, j, none⟩ = some v) : (Instr.loadAt 62 (.pointer (some ⟨b, j, none⟩))).run Tryz.prog w = .ok v w := by
 simp [go_sem, h]
theorem x9 {w : World} {b off : Nat} {cs : Array Value} {t : TypeId} (hagg : ∀ w : World, (isAgg t).run Tryz.prog w = .ok true w)
  (zf : (Tryz.prog.info? t).map (·.size) = some cs.size) (hc : ∀ j, j < cs.size → w.cell? ⟨b, off + j, none⟩ = cs[j]?) : (Instr.loadAt t (.pointer (some ⟨b, off, none⟩))).run Tryz.prog w = .ok (.agg cs) w := by
 simp only [Instr.loadAt, Instr.sureAddr, Sem.run_bind, Sem.run_pure, Result.andThen_ok]
 have hl : (loadCells ⟨b, off, none⟩ cs.toList.length).run Tryz.prog w = .ok cs.toList.toArray w :=
  run_loadCells_list (P := Tryz.prog) w ⟨b, off, none⟩ cs.toList (fun j v hv => by
   have hadd : (⟨b, off, none⟩ : Addr).add j = ⟨b, off + j, none⟩ := by unfold Addr.add; split <;> simp_all
   have hj : j < cs.size := by
    have := (List.getElem?_eq_some_iff.1 hv).1; rw [Array.length_toList] at this; exact this
   rw [hadd, hc j hj]
   simpa using hv)
 cases hq : Tryz.prog.info? t with
 | none => rw [hq] at zf; cases zf
 | some i =>
  have he : i.size = cs.size := by rw [hq] at zf; simpa using zf
  rw [Array.length_toList] at hl; simp only [Array.toArray_toList] at hl; simp only [loadVar, Sem.run_bind, hagg w, sizeOf, typeInfo, hq, he, hl, run_program, Result.andThen_ok, if_true, Sem.run_pure]
theorem zbf (e : TA) : (Tryz.prog.info? 125).map (·.size) = some (xE e).size := by rw [zP]; kernel_rfl
theorem Vz (x y : Int) : (Tryz.prog.info? 95).map (·.size) = some (#[Value.int .i64 x, .int .i64 y] : Array Value).size := by kernel_rfl
section
variable {w : World} {b g o i : Nat} {e : TA} {ls : List TA}
theorem kf (h : zw 125 w b (xE e)) : (Instr.loadAt 95 (.pointer (some ⟨b, 0, none⟩))).run Tryz.prog w = .ok (Ps.v e.x e.y) w :=
 x9 isAgg95 (Vz _ _) (fun j hj => by
  have hj : j < 2 := hj; have hc : j = 0 ∨ j = 1 := by omega
  rcases hc with rfl | rfl
  ·exact h.cell 0 (Yg e)
  ·exact h.cell 1 (VY e))
theorem jj (h : zw 125 w b (xE e)) : (Instr.loadAt 123 (.pointer (some ⟨b, 2, none⟩))).run Tryz.prog w = .ok (Tile.v e.t) w :=
 uP h 2 isAgg123 (wL _) (fun j hj => VX e j)
theorem xt (h : qP g o ls w) (hi : i < ls.length) (he : aT ls i = e) : (Instr.loadAt 125 (.pointer (some ⟨g, o + i * 258, none⟩))).run Tryz.prog w = .ok (.agg (xE e)) w :=
 x9 isAgg125 (zbf _) (fun j hj => by
  rw [zP] at hj; rw [← he, Nat.add_assoc]; exact h.2 i hi j hj)
theorem j0 (h : qP g o ls w) (hi : i < ls.length) (he : aT ls i = e) : (Instr.loadAt 95 (.pointer (some ⟨g, o + i * 258, none⟩))).run Tryz.prog w = .ok (Ps.v e.x e.y) w :=
 x9 isAgg95 (Vz _ _) (fun j hj => by
  have hj : j < 2 := hj; have hc : j = 0 ∨ j = 1 := by omega
  subst he; rcases hc with rfl | rfl
  ·exact h.x hi
  ·exact h.y hi)
theorem za9 (h : qP g o ls w) (hi : i < ls.length) (he : aT ls i = e) : (Instr.loadAt 123 (.pointer (some ⟨g, o + i * 258 + 2, none⟩))).run Tryz.prog w = .ok (Tile.v e.t) w :=
 x9 isAgg123 (wL _) (fun j hj => by
  rw [jN] at hj; subst he; exact h.t hi hj)
theorem jJ (h : qP g o ls w) : ∀ w', (∃ u, w' = ov w u) → qP g o ls w' := by
 rintro w' ⟨u, rfl⟩
 exact h.of_eq ((ji w u).block _ h.lt)
end
def zTA : Array Value := #[.int .i64 0, .int .i64 0] ++ Array.replicate 256 (.int .u8 0)
theorem jz : zTA.size = 258 := by unfold zTA; rw [Array.size_append, Array.size_replicate]; rfl
theorem xK (e : TA) : (xE e).all (·.oneCell') = true := by
 rw [← Array.all_toList]
 exact List.all_eq_true.2 (QZ e)
theorem qX (w : World) (o : Oper) (ho : o.op = .alloc 125) (ev : Operand → Value) : (execOp ev o).run Tryz.prog w = .ok (.value (.pointer (some ⟨w.heap.size, 0, none⟩))) (w.alloc (.cells zTA 125)) := by
 obtain ⟨d, p, t, ps, af, gd⟩ := o
 simp only at ho
 subst ho
 kernel_rfl
attribute [irreducible] zTA
theorem QX {ls : List TA} {k : Nat} {x y : Int} {t : Nat → Px} (he : aT ls k = ⟨x, y, t⟩) (h : qo x y = false) : kc ls k = false := by
 unfold kc vf; rw [he, h]; rfl
theorem Yf {ls : List TA} {k : Nat} {x y : Int} {t : Nat → Px} (he : aT ls k = ⟨x, y, t⟩) (h : ju t = true) : kc ls k = false := by
 unfold kc vf; rw [he, h]; simp
theorem Xo {ls : List TA} {k : Nat} {x y : Int} {t : Nat → Px} (he : aT ls k = ⟨x, y, t⟩) (h : wV (qI t) t = false) : kc ls k = false := by
 unfold kc vf; rw [he, h]; simp
theorem Xp {ls : List TA} {x y : Int} {t : Nat → Px} (he : aT ls 0 = ⟨x, y, t⟩) (h1 : qo x y = true) (h2 : ju t = false) (h3 : wV (qI t) t = true) : kc ls 0 = true := by
 unfold kc vf; rw [he, h1, h2, h3]; rfl
theorem Ye {ls : List TA} {k : Nat} {x y x' y' : Int} {t t' : Nat → Px} (hk : 0 < k) (he : aT ls k = ⟨x, y, t⟩) (he' : aT ls (k - 1) = ⟨x', y', t'⟩) (h1 : qo x y = true) (h2 : ju t = false) (h3 : wV (qI t) t = true) : kc ls k = jC x' y' x y := by
 unfold kc vf yW; rw [he, he', h1, h2, h3, zB (by omega)]; simp
theorem Yu (v : Value) (ls : List TA) (w : World) (h : RS v ls w) (tk : qQ ls) (hn : ls.length ≤ maxLen) : Calls Tryz.prog 41 #[.agg #[v]] w fun e w' => e = .returned (.bool (ql ls)) ∧ Below w.heap.size w w' := by
 unfold maxLen at hn
 obtain ⟨a, c, rfl, hc⟩ := h.len
 have B := Below.refl w.heap.size w
 have HS := zo h
 have HK := zo tk
 clear h tk
 by_cases hbig : 1024 < ls.length
 ·rw [Xs hbig]
  have d1 : decide (1024 < (ls.length : Int)) = true := zQ (by omega); go_enter func41, ntmps41
  go_wp2_with (first | (refine zp (t := 62) rfl _ rfl _ _ _ rfl (zu r1.cell0) (by rfl) ?_; simp only [zn]) | (refine jd (t := 64) B ?_; clear B; intro b_r1 wn zb zd r1 za zf zk B) | fail)
  go_ret; exact ⟨rfl, B⟩
 ·have d1 : decide (1024 < (ls.length : Int)) = false := zB (by omega)
  go_enter func41, ntmps41
  go_wp2_with (first | (refine zp (t := 62) rfl _ rfl _ _ _ rfl (zu r1.cell0) (by rfl) ?_; simp only [zn]) | (refine jd (t := 64) B ?_; clear B; intro b_r1 wn zb zd r1 za zf zk B) | fail)
  clear d1; have hr1 := r1.lt; go_loopw [3, 4, 12] (fun _ _ i wr => ∃ k : Nat, k ≤ ls.length ∧ i = .int .i64 k ∧ Below w.heap.size w wr ∧ wn.heap.size ≤ wr.heap.size ∧ zw 64 wr b_r1 #[.slice a ls.length c] ∧ ∀ j, j < k → kc ls j = true) (fun _ _ i _ => (ls.length - intOf i).toNat)
  case atStart => exact ⟨0, by omega, rfl, B, Nat.le_refl _, r1, fun j hj => by omega⟩
  case round =>
   clear B r1; obtain ⟨k, hk, rfl, B, hwn, r1, hst⟩ := hrel; have Hst := zo hst; clear hst; by_cases hkl : k < ls.length
   ·obtain ⟨g, o, rfl, rc0⟩ := HS.out.at (by omega)
    have hg0 := rc0.lt; have rc := rc0.of_eq (B.block _ rc0.lt); clear rc0; obtain ⟨⟨x, y, t⟩, he⟩ : ∃ e, aT ls k = e := ⟨_, rfl⟩; have htk : Qq t := by have := HK.out.at hkl; rw [he] at this; exact this
    have HT := zo htk; obtain ⟨⟨x', y', t'⟩, he'⟩ : ∃ e, aT ls (k - 1) = e := ⟨_, rfl⟩; have hk1 : k - 1 < ls.length := by omega
    have dlt : decide ((k : Int) < (ls.length : Int)) = true := zQ (by omega); have hneq : ∀ w, (binOp .neq 123 (Tile.v (qI t)) (Tile.v t)).run Tryz.prog w = .ok (.bool (!wV (qI t) t)) w := fun w => Vq _ _ w
    cases h1 : qo x y with
    | false =>
     have E := zo (QX he h1); go_wp2_with (first | (refine zZ (t := 125) rfl _ _ rfl _ rfl _ rfl t1 (by rw [zP]; kernel_rfl) (by simp only [zP, jz]) (xK _) (xV B (by omega) ?_); clear t1 B; intro wn t1 ze zf zg B; replace r1 := r1.cg ze; replace rc := rc.cg ze; simp only [zn]) | (refine jH (t := 125) (qX _ _ rfl) B ?_; clear B; intro b_t1 wn zb zd t1 za zf zk B; replace r1 := r1.be za; replace rc := rc.be za) | (refine zp (t := 125) rfl _ rfl _ _ _ rfl (xt rc hkl he) (by first | rfl | omega) ?_; simp only [zn]) | (refine zp (t := 62) rfl _ rfl _ _ _ rfl (zu r1.cell0) (by rfl) ?_; simp only [zn]) | fail)
     refine zt (by kernel_rfl) (by kernel_rfl) ?_; repeat (first | go_big_quiet_skip | (go_big_quiet_want; first | (refine zq (fun w hw => kf (zY t1 w hw)) ?_; simp only [zn]; go_big_quiet_on) | (refine zq (fun w hw => jj (zY t1 w hw)) ?_; simp only [zn]; go_big_quiet_on) | ((first | refine qB ?_ | refine qC ?_); simp only [zn]; go_big_quiet_on) | (refine zq (fun w hw => j0 (jJ rc w hw) hk1 he') ?_; simp only [zn]; go_big_quiet_on) | (go_big_quiet_op; first | go_big_quiet_on | go_big_quiet_call ((first | (go_at_call 99; exact zv (wl _ _ _)) | (go_at_call 100; exact zv (yS _ _ htk)) | (go_at_call 101; exact zv (kx _ _ htk)) | (go_at_call 102; exact zv (wQ _ _ _ _ _)))))))
     refine wpQuiet_nil ?_; intro wn za; obtain ⟨zf, zg, B⟩ := zM B za; try replace r1 := r1.be za
     replace t1 := t1.be za
     replace rc := rc.be za
     go_wp2; go_ret; exact ⟨by rw [yK hkl E.out]; try rfl, B⟩
    | true =>
     cases h2 : ju t with
     | true =>
      have E := zo (Yf he h2); go_wp2_with (first | (refine zZ (t := 125) rfl _ _ rfl _ rfl _ rfl t1 (by rw [zP]; kernel_rfl) (by simp only [zP, jz]) (xK _) (xV B (by omega) ?_); clear t1 B; intro wn t1 ze zf zg B; replace r1 := r1.cg ze; replace rc := rc.cg ze; simp only [zn]) | (refine jH (t := 125) (qX _ _ rfl) B ?_; clear B; intro b_t1 wn zb zd t1 za zf zk B; replace r1 := r1.be za; replace rc := rc.be za) | (refine zp (t := 125) rfl _ rfl _ _ _ rfl (xt rc hkl he) (by first | rfl | omega) ?_; simp only [zn]) | (refine zp (t := 62) rfl _ rfl _ _ _ rfl (zu r1.cell0) (by rfl) ?_; simp only [zn]) | fail)
      refine zt (by kernel_rfl) (by kernel_rfl) ?_; repeat (first | go_big_quiet_skip | (go_big_quiet_want; first | (refine zq (fun w hw => kf (zY t1 w hw)) ?_; simp only [zn]; go_big_quiet_on) | (refine zq (fun w hw => jj (zY t1 w hw)) ?_; simp only [zn]; go_big_quiet_on) | ((first | refine qB ?_ | refine qC ?_); simp only [zn]; go_big_quiet_on) | (refine zq (fun w hw => j0 (jJ rc w hw) hk1 he') ?_; simp only [zn]; go_big_quiet_on) | (go_big_quiet_op; first | go_big_quiet_on | go_big_quiet_call ((first | (go_at_call 99; exact zv (wl _ _ _)) | (go_at_call 100; exact zv (yS _ _ htk)) | (go_at_call 101; exact zv (kx _ _ htk)) | (go_at_call 102; exact zv (wQ _ _ _ _ _)))))))
      refine wpQuiet_nil ?_; intro wn za; obtain ⟨zf, zg, B⟩ := zM B za; try replace r1 := r1.be za
      replace t1 := t1.be za
      replace rc := rc.be za
      go_wp2; go_ret; exact ⟨by rw [yK hkl E.out]; try rfl, B⟩
     | false =>
      cases h3 : wV (qI t) t with
      | false =>
       have E := zo (Xo he h3); go_wp2_with (first | (refine zZ (t := 125) rfl _ _ rfl _ rfl _ rfl t1 (by rw [zP]; kernel_rfl) (by simp only [zP, jz]) (xK _) (xV B (by omega) ?_); clear t1 B; intro wn t1 ze zf zg B; replace r1 := r1.cg ze; replace rc := rc.cg ze; simp only [zn]) | (refine jH (t := 125) (qX _ _ rfl) B ?_; clear B; intro b_t1 wn zb zd t1 za zf zk B; replace r1 := r1.be za; replace rc := rc.be za) | (refine zp (t := 125) rfl _ rfl _ _ _ rfl (xt rc hkl he) (by first | rfl | omega) ?_; simp only [zn]) | (refine zp (t := 62) rfl _ rfl _ _ _ rfl (zu r1.cell0) (by rfl) ?_; simp only [zn]) | fail)
       refine zt (by kernel_rfl) (by kernel_rfl) ?_; repeat (first | go_big_quiet_skip | (go_big_quiet_want; first | (refine zq (fun w hw => kf (zY t1 w hw)) ?_; simp only [zn]; go_big_quiet_on) | (refine zq (fun w hw => jj (zY t1 w hw)) ?_; simp only [zn]; go_big_quiet_on) | ((first | refine qB ?_ | refine qC ?_); simp only [zn]; go_big_quiet_on) | (refine zq (fun w hw => j0 (jJ rc w hw) hk1 he') ?_; simp only [zn]; go_big_quiet_on) | (go_big_quiet_op; first | go_big_quiet_on | go_big_quiet_call ((first | (go_at_call 99; exact zv (wl _ _ _)) | (go_at_call 100; exact zv (yS _ _ htk)) | (go_at_call 101; exact zv (kx _ _ htk)) | (go_at_call 102; exact zv (wQ _ _ _ _ _)))))))
       refine wpQuiet_nil ?_; intro wn za; obtain ⟨zf, zg, B⟩ := zM B za; try replace r1 := r1.be za
       replace t1 := t1.be za
       replace rc := rc.be za
       go_wp2; go_ret; exact ⟨by rw [yK hkl E.out]; try rfl, B⟩
      | true =>
       by_cases hk0 : 0 < k
       ·have E := zo (Ye hk0 he he' h1 h2 h3)
        have d3 : decide ((0 : Int) < (k : Int)) = true := zQ (by omega); have d4 : decide (0 < k) = true := zQ hk0; cases h4 : jC x' y' x y with
        | false =>
         have hO : decide (0 ≤ QB x' y' x y) = true := by rw [Ji, h4]; rfl
         go_wp2_with (first | (refine zZ (t := 125) rfl _ _ rfl _ rfl _ rfl t1 (by rw [zP]; kernel_rfl) (by simp only [zP, jz]) (xK _) (xV B (by omega) ?_); clear t1 B; intro wn t1 ze zf zg B; replace r1 := r1.cg ze; replace rc := rc.cg ze; simp only [zn]) | (refine jH (t := 125) (qX _ _ rfl) B ?_; clear B; intro b_t1 wn zb zd t1 za zf zk B; replace r1 := r1.be za; replace rc := rc.be za) | (refine zp (t := 125) rfl _ rfl _ _ _ rfl (xt rc hkl he) (by first | rfl | omega) ?_; simp only [zn]) | (refine zp (t := 62) rfl _ rfl _ _ _ rfl (zu r1.cell0) (by rfl) ?_; simp only [zn]) | fail)
         refine zt (by kernel_rfl) (by kernel_rfl) ?_; repeat (first | go_big_quiet_skip | (go_big_quiet_want; first | (refine zq (fun w hw => kf (zY t1 w hw)) ?_; simp only [zn]; go_big_quiet_on) | (refine zq (fun w hw => jj (zY t1 w hw)) ?_; simp only [zn]; go_big_quiet_on) | ((first | refine qB ?_ | refine qC ?_); simp only [zn]; go_big_quiet_on) | (refine zq (fun w hw => j0 (jJ rc w hw) hk1 he') ?_; simp only [zn]; go_big_quiet_on) | (go_big_quiet_op; first | go_big_quiet_on | go_big_quiet_call ((first | (go_at_call 99; exact zv (wl _ _ _)) | (go_at_call 100; exact zv (yS _ _ htk)) | (go_at_call 101; exact zv (kx _ _ htk)) | (go_at_call 102; exact zv (wQ _ _ _ _ _)))))))
         refine wpQuiet_nil ?_; intro wn za; obtain ⟨zf, zg, B⟩ := zM B za; try replace r1 := r1.be za
         replace t1 := t1.be za
         replace rc := rc.be za
         go_wp2; go_ret; exact ⟨by rw [yK hkl (E.out.trans h4)]; try rfl, B⟩
        | true =>
         have hO : decide (0 ≤ QB x' y' x y) = false := by rw [Ji, h4]; rfl
         go_wp2_with (first | (refine zZ (t := 125) rfl _ _ rfl _ rfl _ rfl t1 (by rw [zP]; kernel_rfl) (by simp only [zP, jz]) (xK _) (xV B (by omega) ?_); clear t1 B; intro wn t1 ze zf zg B; replace r1 := r1.cg ze; replace rc := rc.cg ze; simp only [zn]) | (refine jH (t := 125) (qX _ _ rfl) B ?_; clear B; intro b_t1 wn zb zd t1 za zf zk B; replace r1 := r1.be za; replace rc := rc.be za) | (refine zp (t := 125) rfl _ rfl _ _ _ rfl (xt rc hkl he) (by first | rfl | omega) ?_; simp only [zn]) | (refine zp (t := 62) rfl _ rfl _ _ _ rfl (zu r1.cell0) (by rfl) ?_; simp only [zn]) | fail)
         refine zt (by kernel_rfl) (by kernel_rfl) ?_; repeat (first | go_big_quiet_skip | (go_big_quiet_want; first | (refine zq (fun w hw => kf (zY t1 w hw)) ?_; simp only [zn]; go_big_quiet_on) | (refine zq (fun w hw => jj (zY t1 w hw)) ?_; simp only [zn]; go_big_quiet_on) | ((first | refine qB ?_ | refine qC ?_); simp only [zn]; go_big_quiet_on) | (refine zq (fun w hw => j0 (jJ rc w hw) hk1 he') ?_; simp only [zn]; go_big_quiet_on) | (go_big_quiet_op; first | go_big_quiet_on | go_big_quiet_call ((first | (go_at_call 99; exact zv (wl _ _ _)) | (go_at_call 100; exact zv (yS _ _ htk)) | (go_at_call 101; exact zv (kx _ _ htk)) | (go_at_call 102; exact zv (wQ _ _ _ _ _)))))))
         refine wpQuiet_nil ?_; intro wn za; obtain ⟨zf, zg, B⟩ := zM B za; try replace r1 := r1.be za
         replace t1 := t1.be za
         replace rc := rc.be za
         go_wp2; go_roundw
         case rel => exact ⟨k + 1, by omega, by go_num, B, by omega, r1, fun j hj => by
          by_cases e : j = k
          ·rw [e, E.out, h4]
          ·exact Hst.out j (by omega)⟩
         case measure => simp [intOf]; omega
       ·obtain rfl : k = 0 := by omega
        have E := zo (Xp he h1 h2 h3); go_wp2_with (first | (refine zZ (t := 125) rfl _ _ rfl _ rfl _ rfl t1 (by rw [zP]; kernel_rfl) (by simp only [zP, jz]) (xK _) (xV B (by omega) ?_); clear t1 B; intro wn t1 ze zf zg B; replace r1 := r1.cg ze; replace rc := rc.cg ze; simp only [zn]) | (refine jH (t := 125) (qX _ _ rfl) B ?_; clear B; intro b_t1 wn zb zd t1 za zf zk B; replace r1 := r1.be za; replace rc := rc.be za) | (refine zp (t := 125) rfl _ rfl _ _ _ rfl (xt rc hkl he) (by first | rfl | omega) ?_; simp only [zn]) | (refine zp (t := 62) rfl _ rfl _ _ _ rfl (zu r1.cell0) (by rfl) ?_; simp only [zn]) | fail)
        refine zt (by kernel_rfl) (by kernel_rfl) ?_; repeat (first | go_big_quiet_skip | (go_big_quiet_want; first | (refine zq (fun w hw => kf (zY t1 w hw)) ?_; simp only [zn]; go_big_quiet_on) | (refine zq (fun w hw => jj (zY t1 w hw)) ?_; simp only [zn]; go_big_quiet_on) | ((first | refine qB ?_ | refine qC ?_); simp only [zn]; go_big_quiet_on) | (refine zq (fun w hw => j0 (jJ rc w hw) hk1 he') ?_; simp only [zn]; go_big_quiet_on) | (go_big_quiet_op; first | go_big_quiet_on | go_big_quiet_call ((first | (go_at_call 99; exact zv (wl _ _ _)) | (go_at_call 100; exact zv (yS _ _ htk)) | (go_at_call 101; exact zv (kx _ _ htk)) | (go_at_call 102; exact zv (wQ _ _ _ _ _)))))))
        refine wpQuiet_nil ?_; intro wn za; obtain ⟨zf, zg, B⟩ := zM B za; try replace r1 := r1.be za
        go_wp2; go_roundw
        case rel => exact ⟨1, by omega, by go_num, B, by omega, r1, fun j hj => by
         obtain rfl : j = 0 := by omega
         exact E.out⟩
        case measure => simp [intOf]; omega
   ·have dlt : decide ((k : Int) < (ls.length : Int)) = false := zB (by omega)
    have e1 := zo (vE (by omega) (fun j hj => Hst.out j (by omega))); go_wp2_with (first | (refine zp (t := 62) rfl _ rfl _ _ _ rfl (zu r1.cell0) (by rfl) ?_; simp only [zn]) | fail)
    go_ret; exact ⟨by rw [e1.out]; try rfl, B⟩
theorem zav (v : Value) (ls : List TA) (w : World) (h : RS v ls w) (tk : qQ ls) (hn : ls.length ≤ maxLen) : Calls Tryz.prog 141 #[.agg #[v]] w fun e w' => e = .returned (.bool (ql ls)) ∧ Below w.heap.size w w' := by
 unfold maxLen at hn
 obtain ⟨a, c, rfl, hc⟩ := h.len
 have B := Below.refl w.heap.size w
 have HS := zo h
 have HK := zo tk
 clear h tk
 by_cases hbig : 1024 < ls.length
 ·rw [Xs hbig]
  have d1 : decide (1024 < (ls.length : Int)) = true := zQ (by omega); go_enter func141, ntmps141
  go_wp2_with (first | (refine zp (t := 62) rfl _ rfl _ _ _ rfl (zu r1.cell0) (by rfl) ?_; simp only [zn]) | (refine jd (t := 64) B ?_; clear B; intro b_r1 wn zb zd r1 za zf zk B) | fail)
  go_ret; exact ⟨rfl, B⟩
 ·have d1 : decide (1024 < (ls.length : Int)) = false := zB (by omega)
  go_enter func141, ntmps141
  go_wp2_with (first | (refine zp (t := 62) rfl _ rfl _ _ _ rfl (zu r1.cell0) (by rfl) ?_; simp only [zn]) | (refine jd (t := 64) B ?_; clear B; intro b_r1 wn zb zd r1 za zf zk B) | fail)
  clear d1; have hr1 := r1.lt; go_loopw [3, 4, 5, 6] (fun i _ _ _ wr => ∃ k : Nat, k ≤ ls.length ∧ i = .int .i64 k ∧ Below w.heap.size w wr ∧ wn.heap.size ≤ wr.heap.size ∧ zw 64 wr b_r1 #[.slice a ls.length c] ∧ ∀ j, j < k → kc ls j = true) (fun i _ _ _ _ => (ls.length - intOf i).toNat)
  case atStart => exact ⟨0, by omega, rfl, B, Nat.le_refl _, r1, fun j hj => by omega⟩
  case round =>
   clear B r1; obtain ⟨k, hk, rfl, B, hwn, r1, hst⟩ := hrel; have Hst := zo hst; clear hst; by_cases hkl : k < ls.length
   ·obtain ⟨g, o, rfl, rc0⟩ := HS.out.at (by omega)
    have hg0 := rc0.lt; have rc := rc0.of_eq (B.block _ rc0.lt); clear rc0; obtain ⟨⟨x, y, t⟩, he⟩ : ∃ e, aT ls k = e := ⟨_, rfl⟩; have htk : Qq t := by have := HK.out.at hkl; rw [he] at this; exact this
    have HT := zo htk; obtain ⟨⟨x', y', t'⟩, he'⟩ : ∃ e, aT ls (k - 1) = e := ⟨_, rfl⟩; have hk1 : k - 1 < ls.length := by omega
    have dlt : decide ((k : Int) < (ls.length : Int)) = true := zQ (by omega); have hneq : ∀ w, (binOp .neq 123 (Tile.v (qI t)) (Tile.v t)).run Tryz.prog w = .ok (.bool (!wV (qI t) t)) w := fun w => Vq _ _ w
    cases h1 : qo x y with
    | false =>
     have E := zo (QX he h1); go_wp2_with (first | (go_at_call 167; refine (Zy _ _).mono ?_; rintro e wn ⟨rfl, za⟩; obtain ⟨zf, zg, B⟩ := zM B za; replace r1 := r1.be za; replace t1 := t1.be za; replace rc := rc.be za) | (refine zp (t := 123) rfl _ rfl _ _ _ rfl (jj t1) (by first | rfl | omega) ?_; simp only [zn]) | (refine zZ (t := 125) rfl _ _ rfl _ rfl _ rfl t1 (by rw [zP]; kernel_rfl) (by simp only [zP, jz]) (xK _) (xV B (by omega) ?_); clear t1 B; intro wn t1 ze zf zg B; replace r1 := r1.cg ze; replace rc := rc.cg ze; simp only [zn]) | (refine jH (t := 125) (qX _ _ rfl) B ?_; clear B; intro b_t1 wn zb zd t1 za zf zk B; replace r1 := r1.be za; replace rc := rc.be za) | (refine zp (t := 125) rfl _ rfl _ _ _ rfl (xt rc hkl he) (by first | rfl | omega) ?_; simp only [zn]) | (refine zp (t := 62) rfl _ rfl _ _ _ rfl (zu r1.cell0) (by rfl) ?_; simp only [zn]) | fail)
     refine zt (by kernel_rfl) (by kernel_rfl) ?_; repeat (first | go_big_quiet_skip | (go_big_quiet_want; first | (refine zq (fun w hw => jj (zY t1 w hw)) ?_; simp only [zn]; go_big_quiet_on) | (go_big_quiet_op; first | go_big_quiet_on | go_big_quiet_call ((first | (go_at_call 169; exact zv (ky _ _ htk)) | (go_at_call 168; exact zv (Qo _ _ _)))))))
     refine wpQuiet_nil ?_; intro wn za; obtain ⟨zf, zg, B⟩ := zM B za; try replace r1 := r1.be za
     replace t1 := t1.be za
     replace rc := rc.be za
     go_wp2; refine zt (by kernel_rfl) (by kernel_rfl) ?_; repeat (first | go_big_quiet_skip | (go_big_quiet_want; first | (refine zq (fun w hw => kf (zY t1 w hw)) ?_; simp only [zn]; go_big_quiet_on) | ((first | refine qB ?_ | refine qC ?_); simp only [zn]; go_big_quiet_on) | (refine zq (fun w hw => j0 (jJ rc w hw) hk1 he') ?_; simp only [zn]; go_big_quiet_on) | (go_big_quiet_op; first | go_big_quiet_on | go_big_quiet_call ((first | (go_at_call 157; exact zv (yU _ _ _)) | (go_at_call 170; exact zv (wT _ _ _ _ _)))))))
     refine wpQuiet_nil ?_; intro wn za; obtain ⟨zf, zg, B⟩ := zM B za; try replace r1 := r1.be za
     replace t1 := t1.be za
     replace rc := rc.be za
     go_wp2; go_ret; exact ⟨by rw [yK hkl E.out]; try rfl, B⟩
    | true =>
     cases h2 : ju t with
     | true =>
      have E := zo (Yf he h2); go_wp2_with (first | (go_at_call 167; refine (Zy _ _).mono ?_; rintro e wn ⟨rfl, za⟩; obtain ⟨zf, zg, B⟩ := zM B za; replace r1 := r1.be za; replace t1 := t1.be za; replace rc := rc.be za) | (refine zp (t := 123) rfl _ rfl _ _ _ rfl (jj t1) (by first | rfl | omega) ?_; simp only [zn]) | (refine zZ (t := 125) rfl _ _ rfl _ rfl _ rfl t1 (by rw [zP]; kernel_rfl) (by simp only [zP, jz]) (xK _) (xV B (by omega) ?_); clear t1 B; intro wn t1 ze zf zg B; replace r1 := r1.cg ze; replace rc := rc.cg ze; simp only [zn]) | (refine jH (t := 125) (qX _ _ rfl) B ?_; clear B; intro b_t1 wn zb zd t1 za zf zk B; replace r1 := r1.be za; replace rc := rc.be za) | (refine zp (t := 125) rfl _ rfl _ _ _ rfl (xt rc hkl he) (by first | rfl | omega) ?_; simp only [zn]) | (refine zp (t := 62) rfl _ rfl _ _ _ rfl (zu r1.cell0) (by rfl) ?_; simp only [zn]) | fail)
      refine zt (by kernel_rfl) (by kernel_rfl) ?_; repeat (first | go_big_quiet_skip | (go_big_quiet_want; first | (refine zq (fun w hw => jj (zY t1 w hw)) ?_; simp only [zn]; go_big_quiet_on) | (go_big_quiet_op; first | go_big_quiet_on | go_big_quiet_call ((first | (go_at_call 169; exact zv (ky _ _ htk)) | (go_at_call 168; exact zv (Qo _ _ _)))))))
      refine wpQuiet_nil ?_; intro wn za; obtain ⟨zf, zg, B⟩ := zM B za; try replace r1 := r1.be za
      replace t1 := t1.be za
      replace rc := rc.be za
      go_wp2; refine zt (by kernel_rfl) (by kernel_rfl) ?_; repeat (first | go_big_quiet_skip | (go_big_quiet_want; first | (refine zq (fun w hw => kf (zY t1 w hw)) ?_; simp only [zn]; go_big_quiet_on) | ((first | refine qB ?_ | refine qC ?_); simp only [zn]; go_big_quiet_on) | (refine zq (fun w hw => j0 (jJ rc w hw) hk1 he') ?_; simp only [zn]; go_big_quiet_on) | (go_big_quiet_op; first | go_big_quiet_on | go_big_quiet_call ((first | (go_at_call 157; exact zv (yU _ _ _)) | (go_at_call 170; exact zv (wT _ _ _ _ _)))))))
      refine wpQuiet_nil ?_; intro wn za; obtain ⟨zf, zg, B⟩ := zM B za; try replace r1 := r1.be za
      replace t1 := t1.be za
      replace rc := rc.be za
      go_wp2; go_ret; exact ⟨by rw [yK hkl E.out]; try rfl, B⟩
     | false =>
      cases h3 : wV (qI t) t with
      | false =>
       have E := zo (Xo he h3); go_wp2_with (first | (go_at_call 167; refine (Zy _ _).mono ?_; rintro e wn ⟨rfl, za⟩; obtain ⟨zf, zg, B⟩ := zM B za; replace r1 := r1.be za; replace t1 := t1.be za; replace rc := rc.be za) | (refine zp (t := 123) rfl _ rfl _ _ _ rfl (jj t1) (by first | rfl | omega) ?_; simp only [zn]) | (refine zZ (t := 125) rfl _ _ rfl _ rfl _ rfl t1 (by rw [zP]; kernel_rfl) (by simp only [zP, jz]) (xK _) (xV B (by omega) ?_); clear t1 B; intro wn t1 ze zf zg B; replace r1 := r1.cg ze; replace rc := rc.cg ze; simp only [zn]) | (refine jH (t := 125) (qX _ _ rfl) B ?_; clear B; intro b_t1 wn zb zd t1 za zf zk B; replace r1 := r1.be za; replace rc := rc.be za) | (refine zp (t := 125) rfl _ rfl _ _ _ rfl (xt rc hkl he) (by first | rfl | omega) ?_; simp only [zn]) | (refine zp (t := 62) rfl _ rfl _ _ _ rfl (zu r1.cell0) (by rfl) ?_; simp only [zn]) | fail)
       refine zt (by kernel_rfl) (by kernel_rfl) ?_; repeat (first | go_big_quiet_skip | (go_big_quiet_want; first | (refine zq (fun w hw => jj (zY t1 w hw)) ?_; simp only [zn]; go_big_quiet_on) | (go_big_quiet_op; first | go_big_quiet_on | go_big_quiet_call ((first | (go_at_call 169; exact zv (ky _ _ htk)) | (go_at_call 168; exact zv (Qo _ _ _)))))))
       refine wpQuiet_nil ?_; intro wn za; obtain ⟨zf, zg, B⟩ := zM B za; try replace r1 := r1.be za
       replace t1 := t1.be za
       replace rc := rc.be za
       go_wp2; refine zt (by kernel_rfl) (by kernel_rfl) ?_; repeat (first | go_big_quiet_skip | (go_big_quiet_want; first | (refine zq (fun w hw => kf (zY t1 w hw)) ?_; simp only [zn]; go_big_quiet_on) | ((first | refine qB ?_ | refine qC ?_); simp only [zn]; go_big_quiet_on) | (refine zq (fun w hw => j0 (jJ rc w hw) hk1 he') ?_; simp only [zn]; go_big_quiet_on) | (go_big_quiet_op; first | go_big_quiet_on | go_big_quiet_call ((first | (go_at_call 157; exact zv (yU _ _ _)) | (go_at_call 170; exact zv (wT _ _ _ _ _)))))))
       refine wpQuiet_nil ?_; intro wn za; obtain ⟨zf, zg, B⟩ := zM B za; try replace r1 := r1.be za
       replace t1 := t1.be za
       replace rc := rc.be za
       go_wp2; go_ret; exact ⟨by rw [yK hkl E.out]; try rfl, B⟩
      | true =>
       by_cases hk0 : 0 < k
       ·have E := zo (Ye hk0 he he' h1 h2 h3)
        have d3 : decide ((0 : Int) < (k : Int)) = true := zQ (by omega); have d4 : decide (0 < k) = true := zQ hk0; cases h4 : jC x' y' x y with
        | false =>
         have hO : decide (0 ≤ QB x' y' x y) = true := by rw [Ji, h4]; rfl
         go_wp2_with (first | (go_at_call 167; refine (Zy _ _).mono ?_; rintro e wn ⟨rfl, za⟩; obtain ⟨zf, zg, B⟩ := zM B za; replace r1 := r1.be za; replace t1 := t1.be za; replace rc := rc.be za) | (refine zp (t := 123) rfl _ rfl _ _ _ rfl (jj t1) (by first | rfl | omega) ?_; simp only [zn]) | (refine zZ (t := 125) rfl _ _ rfl _ rfl _ rfl t1 (by rw [zP]; kernel_rfl) (by simp only [zP, jz]) (xK _) (xV B (by omega) ?_); clear t1 B; intro wn t1 ze zf zg B; replace r1 := r1.cg ze; replace rc := rc.cg ze; simp only [zn]) | (refine jH (t := 125) (qX _ _ rfl) B ?_; clear B; intro b_t1 wn zb zd t1 za zf zk B; replace r1 := r1.be za; replace rc := rc.be za) | (refine zp (t := 125) rfl _ rfl _ _ _ rfl (xt rc hkl he) (by first | rfl | omega) ?_; simp only [zn]) | (refine zp (t := 62) rfl _ rfl _ _ _ rfl (zu r1.cell0) (by rfl) ?_; simp only [zn]) | fail)
         refine zt (by kernel_rfl) (by kernel_rfl) ?_; repeat (first | go_big_quiet_skip | (go_big_quiet_want; first | (refine zq (fun w hw => jj (zY t1 w hw)) ?_; simp only [zn]; go_big_quiet_on) | (go_big_quiet_op; first | go_big_quiet_on | go_big_quiet_call ((first | (go_at_call 169; exact zv (ky _ _ htk)) | (go_at_call 168; exact zv (Qo _ _ _)))))))
         refine wpQuiet_nil ?_; intro wn za; obtain ⟨zf, zg, B⟩ := zM B za; try replace r1 := r1.be za
         replace t1 := t1.be za
         replace rc := rc.be za
         go_wp2; refine zt (by kernel_rfl) (by kernel_rfl) ?_; repeat (first | go_big_quiet_skip | (go_big_quiet_want; first | (refine zq (fun w hw => kf (zY t1 w hw)) ?_; simp only [zn]; go_big_quiet_on) | ((first | refine qB ?_ | refine qC ?_); simp only [zn]; go_big_quiet_on) | (refine zq (fun w hw => j0 (jJ rc w hw) hk1 he') ?_; simp only [zn]; go_big_quiet_on) | (go_big_quiet_op; first | go_big_quiet_on | go_big_quiet_call ((first | (go_at_call 157; exact zv (yU _ _ _)) | (go_at_call 170; exact zv (wT _ _ _ _ _)))))))
         refine wpQuiet_nil ?_; intro wn za; obtain ⟨zf, zg, B⟩ := zM B za; try replace r1 := r1.be za
         replace t1 := t1.be za
         replace rc := rc.be za
         go_wp2; go_ret; exact ⟨by rw [yK hkl (E.out.trans h4)]; try rfl, B⟩
        | true =>
         have hO : decide (0 ≤ QB x' y' x y) = false := by rw [Ji, h4]; rfl
         go_wp2_with (first | (go_at_call 167; refine (Zy _ _).mono ?_; rintro e wn ⟨rfl, za⟩; obtain ⟨zf, zg, B⟩ := zM B za; replace r1 := r1.be za; replace t1 := t1.be za; replace rc := rc.be za) | (refine zp (t := 123) rfl _ rfl _ _ _ rfl (jj t1) (by first | rfl | omega) ?_; simp only [zn]) | (refine zZ (t := 125) rfl _ _ rfl _ rfl _ rfl t1 (by rw [zP]; kernel_rfl) (by simp only [zP, jz]) (xK _) (xV B (by omega) ?_); clear t1 B; intro wn t1 ze zf zg B; replace r1 := r1.cg ze; replace rc := rc.cg ze; simp only [zn]) | (refine jH (t := 125) (qX _ _ rfl) B ?_; clear B; intro b_t1 wn zb zd t1 za zf zk B; replace r1 := r1.be za; replace rc := rc.be za) | (refine zp (t := 125) rfl _ rfl _ _ _ rfl (xt rc hkl he) (by first | rfl | omega) ?_; simp only [zn]) | (refine zp (t := 62) rfl _ rfl _ _ _ rfl (zu r1.cell0) (by rfl) ?_; simp only [zn]) | fail)
         refine zt (by kernel_rfl) (by kernel_rfl) ?_; repeat (first | go_big_quiet_skip | (go_big_quiet_want; first | (refine zq (fun w hw => jj (zY t1 w hw)) ?_; simp only [zn]; go_big_quiet_on) | (go_big_quiet_op; first | go_big_quiet_on | go_big_quiet_call ((first | (go_at_call 169; exact zv (ky _ _ htk)) | (go_at_call 168; exact zv (Qo _ _ _)))))))
         refine wpQuiet_nil ?_; intro wn za; obtain ⟨zf, zg, B⟩ := zM B za; try replace r1 := r1.be za
         replace t1 := t1.be za
         replace rc := rc.be za
         go_wp2; refine zt (by kernel_rfl) (by kernel_rfl) ?_; repeat (first | go_big_quiet_skip | (go_big_quiet_want; first | (refine zq (fun w hw => kf (zY t1 w hw)) ?_; simp only [zn]; go_big_quiet_on) | ((first | refine qB ?_ | refine qC ?_); simp only [zn]; go_big_quiet_on) | (refine zq (fun w hw => j0 (jJ rc w hw) hk1 he') ?_; simp only [zn]; go_big_quiet_on) | (go_big_quiet_op; first | go_big_quiet_on | go_big_quiet_call ((first | (go_at_call 157; exact zv (yU _ _ _)) | (go_at_call 170; exact zv (wT _ _ _ _ _)))))))
         refine wpQuiet_nil ?_; intro wn za; obtain ⟨zf, zg, B⟩ := zM B za; try replace r1 := r1.be za
         replace t1 := t1.be za
         replace rc := rc.be za
         go_wp2; go_roundw
         case rel => exact ⟨k + 1, by omega, by go_num, B, by omega, r1, fun j hj => by
          by_cases e : j = k
          ·rw [e, E.out, h4]
          ·exact Hst.out j (by omega)⟩
         case measure => simp [intOf]; omega
       ·obtain rfl : k = 0 := by omega
        have E := zo (Xp he h1 h2 h3); go_wp2_with (first | (go_at_call 167; refine (Zy _ _).mono ?_; rintro e wn ⟨rfl, za⟩; obtain ⟨zf, zg, B⟩ := zM B za; replace r1 := r1.be za; replace t1 := t1.be za; replace rc := rc.be za) | (refine zp (t := 123) rfl _ rfl _ _ _ rfl (jj t1) (by first | rfl | omega) ?_; simp only [zn]) | (refine zZ (t := 125) rfl _ _ rfl _ rfl _ rfl t1 (by rw [zP]; kernel_rfl) (by simp only [zP, jz]) (xK _) (xV B (by omega) ?_); clear t1 B; intro wn t1 ze zf zg B; replace r1 := r1.cg ze; replace rc := rc.cg ze; simp only [zn]) | (refine jH (t := 125) (qX _ _ rfl) B ?_; clear B; intro b_t1 wn zb zd t1 za zf zk B; replace r1 := r1.be za; replace rc := rc.be za) | (refine zp (t := 125) rfl _ rfl _ _ _ rfl (xt rc hkl he) (by first | rfl | omega) ?_; simp only [zn]) | (refine zp (t := 62) rfl _ rfl _ _ _ rfl (zu r1.cell0) (by rfl) ?_; simp only [zn]) | fail)
        refine zt (by kernel_rfl) (by kernel_rfl) ?_; repeat (first | go_big_quiet_skip | (go_big_quiet_want; first | (refine zq (fun w hw => jj (zY t1 w hw)) ?_; simp only [zn]; go_big_quiet_on) | (go_big_quiet_op; first | go_big_quiet_on | go_big_quiet_call ((first | (go_at_call 169; exact zv (ky _ _ htk)) | (go_at_call 168; exact zv (Qo _ _ _)))))))
        refine wpQuiet_nil ?_; intro wn za; obtain ⟨zf, zg, B⟩ := zM B za; try replace r1 := r1.be za
        replace t1 := t1.be za
        replace rc := rc.be za
        go_wp2; refine zt (by kernel_rfl) (by kernel_rfl) ?_; repeat (first | go_big_quiet_skip | (go_big_quiet_want; first | (refine zq (fun w hw => kf (zY t1 w hw)) ?_; simp only [zn]; go_big_quiet_on) | ((first | refine qB ?_ | refine qC ?_); simp only [zn]; go_big_quiet_on) | (refine zq (fun w hw => j0 (jJ rc w hw) hk1 he') ?_; simp only [zn]; go_big_quiet_on) | (go_big_quiet_op; first | go_big_quiet_on | go_big_quiet_call ((first | (go_at_call 157; exact zv (yU _ _ _)) | (go_at_call 170; exact zv (wT _ _ _ _ _)))))))
        refine wpQuiet_nil ?_; intro wn za; obtain ⟨zf, zg, B⟩ := zM B za; try replace r1 := r1.be za
        go_wp2; go_roundw
        case rel => exact ⟨1, by omega, by go_num, B, by omega, r1, fun j hj => by
         obtain rfl : j = 0 := by omega
         exact E.out⟩
        case measure => simp [intOf]; omega
   ·have dlt : decide ((k : Int) < (ls.length : Int)) = false := zB (by omega)
    have e1 := zo (vE (by omega) (fun j hj => Hst.out j (by omega))); go_wp2_with (first | (refine zp (t := 62) rfl _ rfl _ _ _ rfl (zu r1.cell0) (by rfl) ?_; simp only [zn]) | fail)
    go_ret; exact ⟨by rw [e1.out]; try rfl, B⟩
section
variable {ops : Array Oper} {rest : List Oper} {o : Oper} {a : Act} {w : World} {Q : Exit → Act → World → Prop}
theorem jR (hg : o.guard = none) (x : Operand) (ho : o.op = .box 123 x) (f : Nat → Px) (hx : a.eval x = Tile.v f)
  (h : ∀ b w', w.heap.size ≤ b → b ≤ w.heap.size → zV w' b f → Below b w w' → w'.heap.size = b + 1 → wpList Tryz.prog ops Q rest (a.put o.dst (.pointer (some ⟨b, 0, none⟩))) w') : wpList Tryz.prog ops Q (o :: rest) a w :=
 jt hg x ho f hx fun w' h1 h2 h3 => h _ w' (Nat.le_refl _) (Nat.le_refl _) h1 h2 h3
theorem yD (hg : o.guard = none) (x : Operand) (ho : o.op = .box 28 x) (p : Px) (hx : a.eval x = Px.v p)
  (h : ∀ b w', w.heap.size ≤ b → b ≤ w.heap.size → j3 w' b p → Below b w w' → w'.heap.size = b + 1 → wpList Tryz.prog ops Q rest (a.put o.dst (.pointer (some ⟨b, 0, none⟩))) w') : wpList Tryz.prog ops Q (o :: rest) a w :=
 uf hg x ho p hx fun w' h1 h2 h3 => h _ w' (Nat.le_refl _) (Nat.le_refl _) h1 h2 h3
theorem xD (hg : o.guard = none) (ho : o.op = .alloc 123)
  (h : ∀ b w', w.heap.size ≤ b → b ≤ w.heap.size → zV w' b (fun _ => Px.zero) → Below b w w' → w'.heap.size = b + 1 → wpList Tryz.prog ops Q rest (a.put o.dst (.pointer (some ⟨b, 0, none⟩))) w') : wpList Tryz.prog ops Q (o :: rest) a w :=
 yC hg ho fun w' h1 h2 h3 => h _ w' (Nat.le_refl _) (Nat.le_refl _) h1 h2 h3
theorem qA (hg : o.guard = none) (ho : o.op = .alloc 28)
  (h : ∀ b w', w.heap.size ≤ b → b ≤ w.heap.size → j3 w' b Px.zero → Below b w w' → w'.heap.size = b + 1 → wpList Tryz.prog ops Q rest (a.put o.dst (.pointer (some ⟨b, 0, none⟩))) w') : wpList Tryz.prog ops Q (o :: rest) a w :=
 xC hg ho fun w' h1 h2 h3 => h _ w' (Nat.le_refl _) (Nat.le_refl _) h1 h2 h3
end
theorem kz (x : Int) (n : Nat) (m : Nat) (hm : m = 2 ^ n - 1) (hn : n ≤ 32) : bits .and .i64 x (m : Int) = x % (((m + 1 : Nat)) : Int) := by
 have e : bits .and .i64 x (m : Int) = IntKind.i64.wrap ((BitVec.ofInt 64 x &&& BitVec.ofInt 64 (m : Int)).toNat : Int) := rfl
 have h1 : (2 : Nat) ^ n ≤ 2 ^ 32 := Nat.pow_le_pow_right (by omega) hn
 have h0 : 1 ≤ (2 : Nat) ^ n := Nat.one_le_two_pow
 have hm1 : m + 1 = 2 ^ n := by omega
 have hml : m < 2 ^ 32 := by omega
 have e2 : (BitVec.ofInt 64 (m : Int)).toNat = m := by
  rw [BitVec.toNat_ofInt]; have h3 : (2 : Nat) ^ 32 = 4294967296 := rfl; have h4 : ((2 : Nat) ^ 64 : Nat) = 18446744073709551616 := rfl; rw [h4]; omega
 have e3 : (BitVec.ofInt 64 x &&& BitVec.ofInt 64 (m : Int)).toNat = (BitVec.ofInt 64 x).toNat % 2 ^ n := by
  rw [BitVec.toNat_and, e2, hm, Nat.and_two_pow_sub_one_eq_mod]
 have e4 : (((BitVec.ofInt 64 x).toNat % 2 ^ n : Nat) : Int) = x % ((2 ^ n : Nat) : Int) := by
  rw [BitVec.toNat_ofInt]; have hd : ((2 ^ n : Nat) : Int) ∣ ((2 ^ 64 : Nat) : Int) := by
   refine Int.natCast_dvd_natCast.2 ?_; exact Nat.pow_dvd_pow 2 (by omega)
  have hpos : (0 : Int) < ((2 ^ 64 : Nat) : Int) := by
   have : (0 : Nat) < 2 ^ 64 := by decide
   omega
  have hnn : 0 ≤ x % ((2 ^ 64 : Nat) : Int) := Int.emod_nonneg _ (by omega); rw [Int.natCast_emod, Int.toNat_of_nonneg hnn, Int.emod_emod_of_dvd _ hd]
 have hkl : (BitVec.ofInt 64 x).toNat % 2 ^ n < 2 ^ n := Nat.mod_lt _ (by omega)
 rw [e, e3, IntKind.wrap_i64, hm1, ← e4]
 have h3 : (2 : Nat) ^ 32 = 4294967296 := rfl
 rw [h3] at h1
 generalize (BitVec.ofInt 64 x).toNat % 2 ^ n = z at hkl ⊢
 generalize (2 : Nat) ^ n = y at *
 omega
theorem XP (x : Int) : bits .and .i64 x 7 = x % 8 := kz x 3 7 rfl (by decide)
theorem ui (x : Int) : bits .and .i64 x 1048575 = x % 1048576 := kz x 20 1048575 rfl (by decide)
theorem uI (d : Nat) (x y x' y' : Int) (w : World) : (Op.equalIn (d + 2) 95 (Ps.v x y) (Ps.v x' y')).run Tryz.prog w = .ok (yG x y x' y') w := by
 have h : (Op.equalIn (d + 2) 95 (Ps.v x y) (Ps.v x' y')).run Tryz.prog w = .ok (x == x' && y == y') w := by
  simp only [Ps.v]; by_cases h1 : x = x' <;> by_cases h2 : y = y' <;> simp [go_sem, h1, h2]
 rw [h]
 congr 1
 unfold yG
 rw [Bool.eq_iff_iff]
 simp
theorem zaJ (x y x' y' : Int) (w : World) : (binOp .eql 95 (Ps.v x y) (Ps.v x' y')).run Tryz.prog w = .ok (.bool (yG x y x' y')) w := by
 have h := run_eql_struct (P := Tryz.prog) w 95 #[.int .i64 x, .int .i64 y] #[.int .i64 x', .int .i64 y']
 have e := uI 9998 x y x' y' w
 unfold Ps.v at e ⊢
 rw [h, e]; rfl
theorem zgl (x y x' y' : Int) (w : World) : (binOp .neq 95 (Ps.v x y) (Ps.v x' y')).run Tryz.prog w = .ok (.bool (!yG x y x' y')) w := by
 have h := run_neq_struct (P := Tryz.prog) w 95 #[.int .i64 x, .int .i64 y] #[.int .i64 x', .int .i64 y']
 have e := uI 9998 x y x' y' w
 unfold Ps.v at e ⊢
 rw [h, e]; rfl
@[go_sem] theorem zh4 (op : BinOp) (p q : Operand) (x y x' y' : Int) (w : World) : (eqGuard op 95 p q (Ps.v x y) (Ps.v x' y')).run Tryz.prog w = .ok () w := run_eqGuard_agg w op 95 p q _ _ (by kernel_rfl)
@[go_sem] theorem zht (op : BinOp) (p q : Operand) (x y : Int) (cs : Array Value) (w : World) : (eqGuard op 95 p q (Ps.v x y) (.agg cs)).run Tryz.prog w = .ok () w := run_eqGuard_agg w op 95 p q _ _ (by kernel_rfl)
theorem ziP {v : Value} {ls : List TA} {w : World} (h : RS v ls w) : ∀ w', (∃ u, w' = ov w u) → RS v ls w' := by
 rintro w' ⟨u, rfl⟩
 exact h.be (ji w u)
theorem zam (e : TA) (x y : Int) (b : Nat) (w : World) (p1 : zw 95 w b #[.int .i64 x, .int .i64 y]) : Calls Tryz.prog 136 #[.agg (xE e), .pointer (some ⟨b, 0, none⟩)] w fun e' w' => e' = .returned (.bool (yG e.x e.y x y)) ∧ Below w.heap.size w w' := by
 have B := Below.refl w.heap.size w
 have hb0 := p1.lt
 have heq : ∀ w, (binOp .eql 95 (Ps.v e.x e.y) (.agg #[.int .i64 x, .int .i64 y])).run Tryz.prog w = .ok (.bool (yG e.x e.y x y)) w := fun w => zaJ _ _ _ _ w
 go_enter func136, ntmps136
 go_wp2_with (first | (refine zp (t := 95) rfl _ rfl _ _ _ rfl (kf t1) (by first | rfl | omega) ?_; simp only [zn]) | (first | refine yN ?_ | refine yO ?_) | (refine jd (t := 125) B ?_; clear B; intro b_t1 wn zb zd t1 za zf zk B; replace p1 := p1.be za) | fail)
 go_ret
 exact ⟨rfl, B⟩
theorem QI (v : Value) (ls : List TA) (x y : Int) (b : Nat) (w : World) (h : RS v ls w) (hn : ls.length ≤ maxLen) (p1 : zw 95 w b #[.int .i64 x, .int .i64 y]) : Calls Tryz.prog 135 #[v, .func (.func 136) #[] #[.pointer (some ⟨b, 0, none⟩)]] w fun e w' => e = .returned (.int .i64 (if idxL ls x y < ls.length then (idxL ls x y : Int) else -1)) ∧ Below w.heap.size w w' := by
 unfold maxLen at hn
 obtain ⟨a, c, rfl, hc⟩ := h.len
 have B := Below.refl w.heap.size w
 have HS := zo h
 have P1 := zo p1
 have zb := YM ls x y
 have eg := enters_of func136 (by kernel_rfl) rfl
 clear h p1
 go_enter func135, ntmps135
 go_wp2
 go_loopw [5, 8] (fun _ i wr => ∃ k : Nat, k ≤ idxL ls x y ∧ i = .int .i64 k ∧ Below w.heap.size w wr) (fun _ i _ => (ls.length - intOf i).toNat)
 case atStart => exact ⟨0, by omega, rfl, B⟩
 case round =>
  clear B; obtain ⟨k, hk, rfl, B⟩ := hrel; have p1 := P1.out.of_eq (B.block _ P1.out.lt); by_cases hkl : k < ls.length
  ·obtain ⟨g, o, rfl, rc0⟩ := HS.out.at (by omega)
   have rc := rc0.of_eq (B.block _ rc0.lt); clear rc0; obtain ⟨e, he⟩ : ∃ e, aT ls k = e := ⟨_, rfl⟩; by_cases hki : k < idxL ls x y
   ·have hq : yG e.x e.y x y = false := by have := zaO hki; rw [he] at this; exact this
    go_wp2_with (first | (go_at_call 136; refine (zam e x y b _ p1).mono ?_; rintro e' wn ⟨rfl, za⟩; replace B := B.trans (za.mono B.size)) | (refine zp (t := 125) rfl _ rfl _ _ _ rfl (xt rc hkl he) (by first | rfl | omega) ?_; simp only [zn]) | fail)
    go_roundw
    case rel => exact ⟨k + 1, by omega, by go_num, B⟩
    case measure => simp [intOf]; omega
   ·obtain rfl : k = idxL ls x y := by omega
    have hq : yG e.x e.y x y = true := by have := zaN hkl; rw [he] at this; exact this
    have H := zo hkl; go_wp2_with (first | (go_at_call 136; refine (zam e x y b _ p1).mono ?_; rintro e' wn ⟨rfl, za⟩; replace B := B.trans (za.mono B.size)) | (refine zp (t := 125) rfl _ rfl _ _ _ rfl (xt rc hkl he) (by first | rfl | omega) ?_; simp only [zn]) | fail)
    go_ret; exact ⟨by first | rfl | (rw [if_pos H.out]; rfl), B⟩
  ·have H := zo (show ¬ idxL ls x y < ls.length by omega)
   go_wp2; go_ret; exact ⟨by first | rfl | (rw [if_neg H.out]; rfl), B⟩
theorem zg8 (v : Value) (ls : List TA) (x y : Int) (w : World) (h : RS v ls w) (hn : ls.length ≤ maxLen) : Calls Tryz.prog 80 #[.agg #[v], Ps.v x y] w fun e w' => e = .returned (Tile.v (qc ls x y)) ∧ Below w.heap.size w w' := by
 obtain ⟨a, c, rfl, hc⟩ := h.len
 have zb := YM ls x y
 have hml : (9223372036854775807 : Int) ≥ maxLen := by unfold maxLen; omega
 have B := Below.refl w.heap.size w
 have HS := zo h
 clear h
 simp only [Ps.v]
 by_cases hi : idxL ls x y < ls.length
 ·rw [Zf, if_pos hi]
  obtain ⟨g, o, rfl, rc⟩ := HS.out.at (by omega); have hg0 := rc.lt; obtain ⟨e, he⟩ : ∃ e, aT ls (idxL ls x y) = e := ⟨_, rfl⟩; rw [he]; have hif : (if idxL ls x y < ls.length then (idxL ls x y : Int) else -1) = (idxL ls x y : Int) := if_pos hi; go_enter func80, ntmps80
  go_wp2_with (first | (refine qF rfl _ _ rfl _ rfl _ rfl u1 (xV B (by omega) ?_); clear u1 B; intro wn u1 ze zf zg B; replace r1 := r1.cg ze; replace p1 := p1.cg ze; replace rc := rc.cg ze; simp only [zn]) | (refine zp (t := 123) rfl _ rfl _ _ _ rfl (za9 rc hi he) (by first | rfl | omega) ?_; simp only [zn]) | (go_at_call 135; refine (QI _ ls x y _ _ (HS.out.be B) hn p1).mono ?_; rintro e wn ⟨rfl, za⟩; obtain ⟨zf, zg, B⟩ := zM B za; replace r1 := r1.be za; replace p1 := p1.be za; replace u1 := u1.be za; replace rc := rc.be za) | (refine zp (t := 62) rfl _ rfl _ _ _ rfl (zu r1.cell0) (by rfl) ?_; simp only [zn]) | (have _ := p1; refine xD rfl rfl (kn B ?_); clear B; intro b_u1 wn zb zd u1 za zf zk B; replace r1 := r1.be (za.mono zb); replace p1 := p1.be (za.mono zb); replace rc := rc.be (za.mono zb); simp only [zn]) | (have _ := r1; refine jd (t := 95) B ?_; clear B; intro b_p1 wn zb zd p1 za zf zk B; replace r1 := r1.be za; replace rc := rc.be za) | (refine jd (t := 64) B ?_; clear B; intro b_r1 wn zb zd r1 za zf zk B; replace rc := rc.be za) | fail)
  refine bodyPost_ret (xm rfl _ _ (b_u1) rfl u1) rfl ?_; exact ⟨rfl, B⟩
 ·rw [Zf, if_neg hi]
  have hif : (if idxL ls x y < ls.length then (idxL ls x y : Int) else -1) = -1 := if_neg hi; go_enter func80, ntmps80
  go_wp2_with (first | (refine qF rfl _ _ rfl _ rfl _ rfl u1 (xV B (by omega) ?_); clear u1 B; intro wn u1 ze zf zg B; replace r1 := r1.cg ze; replace p1 := p1.cg ze; simp only [zn]) | (refine v7 rfl rfl ?_; simp only [zn]) | (go_at_call 135; refine (QI _ ls x y _ _ (HS.out.be B) hn p1).mono ?_; rintro e wn ⟨rfl, za⟩; obtain ⟨zf, zg, B⟩ := zM B za; replace r1 := r1.be za; replace p1 := p1.be za; replace u1 := u1.be za) | (refine zp (t := 62) rfl _ rfl _ _ _ rfl (zu r1.cell0) (by rfl) ?_; simp only [zn]) | (have _ := p1; refine xD rfl rfl (kn B ?_); clear B; intro b_u1 wn zb zd u1 za zf zk B; replace r1 := r1.be (za.mono zb); replace p1 := p1.be (za.mono zb); simp only [zn]) | (have _ := r1; refine jd (t := 95) B ?_; clear B; intro b_p1 wn zb zd p1 za zf zk B; replace r1 := r1.be za) | (refine jd (t := 64) B ?_; clear B; intro b_r1 wn zb zd r1 za zf zk B) | fail)
  refine bodyPost_ret (xm rfl _ _ (b_u1) rfl u1) rfl ?_; exact ⟨rfl, B⟩
theorem Jz (v : Value) (ls : List TA) (x y : Int) (w : World) (h : RS v ls w) (hn : ls.length ≤ maxLen) : Calls Tryz.prog 115 #[.agg #[v], Ps.v x y] w fun e w' => e = .returned (Tile.v (qc ls x y)) ∧ Below w.heap.size w w' := by
 unfold maxLen at hn
 obtain ⟨a, c, rfl, hc⟩ := h.len
 have zb := YM ls x y
 have B := Below.refl w.heap.size w
 have HS := zo h
 clear h
 simp only [Ps.v]
 go_enter func115, ntmps115
 go_wp2_with (first | (have _ := p1; refine xD rfl rfl (kn B ?_); clear B; intro b_u1 wn zb zd u1 za zf zk B; replace r1 := r1.be (za.mono zb); replace p1 := p1.be (za.mono zb); simp only [zn]) | (have _ := r1; refine jd (t := 95) B ?_; clear B; intro b_p1 wn zb zd p1 za zf zk B; replace r1 := r1.be za) | (refine jd (t := 64) B ?_; clear B; intro b_r1 wn zb zd r1 za zf zk B) | fail)
 have hr1 := r1.lt
 have hp1 := p1.lt
 have hu1 := u1.lt
 have q1 : w.heap.size ≤ b_r1 := by omega
 have q2 : b_r1 < b_p1 := by omega
 have q3 : b_p1 < b_u1 := by omega
 go_loopw [5] (fun i wr => ∃ k : Nat, k ≤ idxL ls x y ∧ i = .int .i64 k ∧ Below w.heap.size w wr ∧ zw 64 wr b_r1 #[.slice a ls.length c] ∧ zw 95 wr b_p1 #[.int .i64 x, .int .i64 y] ∧ zV wr b_u1 (fun _ => Px.zero)) (fun i _ => (ls.length - intOf i).toNat)
 case atStart => exact ⟨0, by omega, rfl, B, r1, p1, u1⟩
 case round =>
  clear B r1 p1 u1; obtain ⟨k, hk, rfl, B, r1, p1, u1⟩ := hrel; by_cases hkl : k < ls.length
  ·obtain ⟨g, o, rfl, rc0⟩ := HS.out.at (by omega)
   have hg0 := rc0.lt; have rc := rc0.of_eq (B.block _ rc0.lt); clear rc0; obtain ⟨e, he⟩ : ∃ e, aT ls k = e := ⟨_, rfl⟩; have heq : ∀ w, (binOp .eql 95 (Ps.v e.x e.y) (.agg #[.int .i64 x, .int .i64 y])).run Tryz.prog w = .ok (.bool (yG e.x e.y x y)) w := fun w => zaJ _ _ _ _ w
   by_cases hki : k < idxL ls x y
   ·have hq : yG e.x e.y x y = false := by have := zaO hki; rw [he] at this; exact this
    go_wp2_with (first | (refine zp (t := 62) rfl _ rfl _ _ _ rfl (zu r1.cell0) (by rfl) ?_; simp only [zn]) | fail)
    refine zt (by kernel_rfl) (by kernel_rfl) ?_; repeat (first | go_big_quiet_skip | (go_big_quiet_want; first | ((first | refine qB ?_ | refine qC ?_); simp only [zn]; go_big_quiet_on) | (refine zq (fun w hw => j0 (jJ rc w hw) hkl he) ?_; simp only [zn]; go_big_quiet_on) | (go_big_quiet_op; first | go_big_quiet_on | go_big_quiet_call ((fail)))))
    refine wpQuiet_nil ?_; intro wn za; obtain ⟨zf, zg, B⟩ := zM B za; try replace r1 := r1.be za
    replace p1 := p1.be za
    replace u1 := u1.be za
    replace rc := rc.be za
    go_wp2; go_roundw
    case rel => exact ⟨k + 1, by omega, by go_num, B, r1, p1, u1⟩
    case measure => simp [intOf]; omega
   ·obtain rfl : k = idxL ls x y := by omega
    have hq : yG e.x e.y x y = true := by have := zaN hkl; rw [he] at this; exact this
    have H := zo (show qc ls x y = e.t by rw [Zf, if_pos hkl, he]); go_wp2_with (first | (refine zp (t := 62) rfl _ rfl _ _ _ rfl (zu r1.cell0) (by rfl) ?_; simp only [zn]) | fail)
    refine zt (by kernel_rfl) (by kernel_rfl) ?_; repeat (first | go_big_quiet_skip | (go_big_quiet_want; first | ((first | refine qB ?_ | refine qC ?_); simp only [zn]; go_big_quiet_on) | (refine zq (fun w hw => j0 (jJ rc w hw) hkl he) ?_; simp only [zn]; go_big_quiet_on) | (go_big_quiet_op; first | go_big_quiet_on | go_big_quiet_call ((fail)))))
    refine wpQuiet_nil ?_; intro wn za; obtain ⟨zf, zg, B⟩ := zM B za; try replace r1 := r1.be za
    replace u1 := u1.be za
    replace rc := rc.be za
    go_wp2_with (first | (refine qF rfl _ _ rfl _ rfl _ rfl u1 (xV B (by omega) ?_); clear u1 B; intro wn u1 ze zf zg B; replace r1 := r1.cg ze; replace rc := rc.cg ze; simp only [zn]) | (refine zp (t := 123) rfl _ rfl _ _ _ rfl (za9 rc hkl he) (by first | rfl | omega) ?_; simp only [zn]) | (refine zp (t := 62) rfl _ rfl _ _ _ rfl (zu r1.cell0) (by rfl) ?_; simp only [zn]) | fail)
    refine bodyPost_ret (xm rfl _ _ (b_u1) rfl u1) rfl ?_; exact ⟨by rw [H.out], B⟩
  ·have H := zo (show qc ls x y = zT by rw [Zf, if_neg (by omega)])
   go_wp2_with (first | (refine qF rfl _ _ rfl _ rfl _ rfl u1 (xV B (by omega) ?_); clear u1 B; intro wn u1 ze zf zg B; replace r1 := r1.cg ze; simp only [zn]) | (refine v7 rfl rfl ?_; simp only [zn]) | (refine zp (t := 62) rfl _ rfl _ _ _ rfl (zu r1.cell0) (by rfl) ?_; simp only [zn]) | fail)
   refine bodyPost_ret (xm rfl _ _ (b_u1) rfl u1) rfl ?_; exact ⟨by rw [H.out]; rfl, B⟩
theorem u6 {place : Nat → Option (Nat × Nat)} {cells : Array Value} {i : Nat} {v : Value} {rest : List (Nat × Value)} {off sz : Nat} (hp : place i = some (off, sz)) (hv : v.cells.size = sz) (zb : off + sz ≤ cells.size) :
  ∃ r : Array Value, r.size = cells.size ∧ (∀ k, r[k]? = if off ≤ k ∧ k < off + sz then v.cells[k - off]? else cells[k]?) ∧ Instr.fill place cells ((i, v) :: rest) = Instr.fill place r rest := by
 obtain ⟨g1, g2⟩ := Great.foldl_set off v.cells.toList 0 cells
 refine ⟨v.cells.zipIdx.foldl (fun cs (x : Value × Nat) => cs.setIfInBounds (off + x.2) x.1) cells, ?_, fun k => ?_, ?_⟩
 ·rw [← Array.foldl_toList, Array.toList_zipIdx]; exact g1
 ·rw [← Array.foldl_toList, Array.toList_zipIdx]
  refine (g2 k).trans ?_; rw [Array.length_toList, hv, Nat.add_zero]; by_cases h : off ≤ k ∧ k < off + sz
  ·rw [if_pos h, if_pos ⟨h.1, h.2, by omega⟩, Array.getElem?_toList]
  ·rw [if_neg h, if_neg (by omega)]
 ·conv => lhs; unfold Instr.fill
  rw [hp]; simp only []; rw [if_neg (by simp [hv]; omega)]
theorem ZW (x y : Int) : (Ps.v x y).cells = #[.int .i64 x, .int .i64 y] := by simp only [Ps.v, Value.cells]
theorem uc (x y : Int) (t : Nat → Px) (k : Nat) : (xE ⟨x, y, t⟩)[k]? = if k < 2 then (#[.int .i64 x, .int .i64 y] : Array Value)[k]? else (qU t)[k - 2]? := by
 by_cases h : k < 2
 ·rw [if_pos h]
  have hc : k = 0 ∨ k = 1 := by omega
  rcases hc with rfl | rfl
  ·exact Yg _
  ·exact VY _
 ·rw [if_neg h]
  have := VX ⟨x, y, t⟩ (k - 2); rw [show 2 + (k - 2) = k by omega] at this; exact this
theorem KZ (parts : List (Nat × Value)) : Tryz.prog.built 125 parts = Instr.fill (fun i => #[(0, 2), (2, 256)][i]?) zTA parts := by kernel_rfl
theorem zf1 (x y : Int) (t : Nat → Px) : Instr.fill (fun i => #[(0, 2), (2, 256)][i]?) zTA [(0, Ps.v x y), (1, Tile.v t)] = some (xE ⟨x, y, t⟩) := by
 obtain ⟨r, hs, hr, e⟩ := u6 (place := fun i => #[(0, 2), (2, 256)][i]?) (cells := zTA) (i := 0) (v := Ps.v x y) (rest := [(1, Tile.v t)]) (off := 0) (sz := 2) rfl (by rw [ZW]; rfl) (by rw [jz]; omega)
 obtain ⟨r', hs', hr', e'⟩ := u6 (place := fun i => #[(0, 2), (2, 256)][i]?) (cells := r) (i := 1) (v := Tile.v t) (rest := []) (off := 2) (sz := 256) rfl (by rw [ZA, jN]) (by rw [hs, jz]; omega)
 rw [e, e']
 show some r' = _
 congr 1
 apply Array.ext_getElem?
 intro k
 rw [hr' k, hr k, uc, ZA, ZW]
 by_cases h2 : k < 2
 ·rw [if_neg (by omega), if_pos (by omega), if_pos h2, Nat.sub_zero]
 ·rw [if_neg h2]
  by_cases h3 : k < 258
  ·rw [if_pos (by omega)]
  ·rw [if_neg (by omega), if_neg (by omega), Array.getElem?_eq_none (by rw [jz]; omega), Array.getElem?_eq_none (by rw [jN]; omega)]
theorem Ke (w : World) (o : Oper) (p q : Operand) (ho : o.op = .build 125 #[(0, p), (1, q)]) (ev : Operand → Value) (x y : Int) (t : Nat → Px) (hp : ev p = Ps.v x y) (hq : ev q = Tile.v t) : (execOp ev o).run Tryz.prog w = .ok (.value (.agg (xE ⟨x, y, t⟩))) w := by
 unfold execOp
 have r := run_build w 125 #[(0, Ps.v x y), (1, Tile.v t)] _ ((KZ _).trans (zf1 x y t))
 simp only [ho, List.map_toArray, List.map_cons, List.map_nil, hp, hq]
 simp only [Sem.run_bind, r, Result.andThen_ok, Sem.run_pure]
section
variable {ops : Array Oper} {rest : List Oper} {o : Oper} {a : Act} {w : World} {Q : Exit → Act → World → Prop}
theorem yf (hg : o.guard = none) (p q : Operand) (ho : o.op = .build 125 #[(0, p), (1, q)]) (x y : Int) (t : Nat → Px) (hp : a.eval p = Ps.v x y) (hq : a.eval q = Tile.v t)
  (h : wpList Tryz.prog ops Q rest (a.put o.dst (.agg (xE ⟨x, y, t⟩))) w) : wpList Tryz.prog ops Q (o :: rest) a w :=
 wpList_plain hg fun K hK => by
  unfold Oper.wp; rw [Ke w o p q ho _ x y t hp hq]; exact hK _ _ h
theorem Vd (e : TA) (cs : Array Value) (hs : cs.size = 258) : Instr.fill (fun i => some (i * 258, 258)) cs [(0, .agg (xE e))] = some (xE e) := by
 have hc : (Value.agg (xE e)).cells = xE e := by simp only [Value.cells]
 obtain ⟨r, hs', hr, e'⟩ := u6 (place := fun i => some (i * 258, 258)) (cells := cs) (i := 0) (v := .agg (xE e)) (rest := []) (off := 0) (sz := 258) rfl (by rw [hc, zP]) (by omega)
 rw [e']
 show some r = _
 congr 1
 apply Array.ext_getElem?
 intro k
 rw [hr k, hc]
 by_cases h : k < 258
 ·rw [if_pos (by omega), Nat.sub_zero]
 ·rw [if_neg (by omega), Array.getElem?_eq_none (by omega), Array.getElem?_eq_none (by rw [zP]; omega)]
theorem jU (hg : o.guard = none) (x : Operand) (ho : o.op = .buildSlice 62 1 #[(0, x)]) (e : TA) (hx : a.eval x = .agg (xE e))
  (h : ∀ b w', w.heap.size ≤ b → b ≤ w.heap.size → zw 125 w' b (xE e) → Below b w w' → w'.heap.size = b + 1 → wpList Tryz.prog ops Q rest (a.put o.dst (.slice (some ⟨b, 0, none⟩) 1 1)) w') : wpList Tryz.prog ops Q (o :: rest) a w := by
 obtain ⟨i, hi⟩ : ∃ i, Tryz.prog.info? 125 = some i := by
  cases h : Tryz.prog.info? 125 with
  | some i => exact ⟨i, rfl⟩
  | none => have e := Ze; rw [h] at e; cases e
 have e1 := Ze
 rw [hi] at e1
 have e1' : i.size = 258 ∧ i.bytes = 272 := by simpa using e1
 have hz := Ki
 rw [hi] at hz
 refine wpList_buildSlice hg 62 125 1 #[(0, x)] ho (xE e) i _ underlying62 hi hz (by rw [e1'.1]; omega) (by rw [e1'.1]; omega) ?_ (h _ _ (Nat.le_refl _) (Nat.le_refl _) (by unfold zw; rw [zJ, if_pos rfl]) ((Below.refl _ _).alloc (Nat.le_refl _) _) (World.size_alloc _ _))
 rw [e1'.1]
 have hp : ((#[(0, x)] : Array (Nat × Operand)).map fun (i, x) => (i, a.eval x)).toList = [(0, Value.agg (xE e))] := by simp [hx]
 rw [hp]
 exact Vd e _ (by simp)
theorem RS.one {b : Nat} {e : TA} {w : World} (h : zw 125 w b (xE e)) : RS (.slice (some ⟨b, 0, none⟩) 1 1) [e] w :=
 .inr ⟨b, 0, 1, rfl, Nat.le_refl _, fun _ => ⟨h.lt, fun i hi j hj => by
  have hi : i < 1 := hi; obtain rfl : i = 0 := by omega
  rw [show 0 + (0 * 258 + j) = j by omega]; exact (qf h).1 j⟩⟩
theorem zeL (w : World) (o : Oper) (ho : o.op = .buildSlice 62 0 #[]) (ev : Operand → Value) : (execOp ev o).run Tryz.prog w = .ok (.value (.slice (some ⟨w.heap.size, 0, none⟩) 0 0)) (w.alloc (.cells #[] 125)) := by
 obtain ⟨d, p, t, ps, af, gd⟩ := o
 simp only at ho
 subst ho
 kernel_rfl
theorem V5 (hg : o.guard = none) (ho : o.op = .buildSlice 62 0 #[])
  (h : ∀ b w', w.heap.size ≤ b → b ≤ w.heap.size → xU b (.slice (some ⟨b, 0, none⟩) 0 0) [] w' → Below b w w' → w'.heap.size = b + 1 → wpList Tryz.prog ops Q rest (a.put o.dst (.slice (some ⟨b, 0, none⟩) 0 0)) w') : wpList Tryz.prog ops Q (o :: rest) a w :=
 wpList_plain hg fun K hK => by
  unfold Oper.wp; rw [zeL w o ho]; exact hK _ _ (h _ _ (Nat.le_refl _) (Nat.le_refl _) ⟨rfl, .inr ⟨w.heap.size, 0, #[], rfl, Nat.le_refl _, by rw [zJ, if_pos rfl], Nat.le_refl _, by unfold maxLen; omega, rfl, rfl⟩⟩ ((Below.refl _ _).alloc (Nat.le_refl _) _) (World.size_alloc _ _))
end
theorem zfn (v : Value) (ls : List TA) (w : World) (h : RS v ls w) (hn : ls.length ≤ 4000) : Calls Tryz.prog 78 #[v] w fun e w' => ∃ v', e = .returned v' ∧ xU w.heap.size v' ls w' ∧ Below w.heap.size w w' := by
 have B := Below.refl w.heap.size w
 have q22 : ∀ (w : World) (a : Option Addr) (n c n' c' : Nat), (binOp .eql 62 (.slice a n c) (.slice none n' c')).run Tryz.prog w = .ok (.bool a.isNone) w := fun w a n c n' c' => Lib.run_eql_slice_nil w _ _ a n c n' c' underlying62
 rcases h with ⟨rfl, rfl⟩ | ⟨g, o, c, rfl, hc, sc⟩
 ·go_enter func78, ntmps78
  go_wp2; go_ret; exact ⟨_, rfl, xU.nil _ _, B⟩
 ·have h : RS (.slice (some ⟨g, o, none⟩) ls.length c) ls w := .inr ⟨g, o, c, rfl, hc, sc⟩
  clear sc; go_enter func78, ntmps78
  go_wp2_with (first | (at_builtin; refine qq rfl _ _ rfl _ _ rfl rfl od (h) (by simp only [List.length_nil]; omega) (by omega) ?_; intro v_od wn ht za; have zf := B.size; have zg := za.size; replace B := B.trans (za.mono (by omega)); clear od; have od := ht; clear ht; simp only [zn]) | (refine V5 rfl rfl ?_; intro b_od wn zb zd ht za zg; have zf := B.size; replace B := B.trans (za.mono (by omega)); have od := ht; clear ht; replace h := h.be (za.mono (by omega)); simp only [zn]) | fail)
  go_ret; exact ⟨_, rfl, by rw [List.nil_append] at od; exact od.mono (by omega), B⟩
theorem zdJ {ls : List TA} (hs : QJ ls) (x y : Int) {h : Nat} (hh : h < ls.length) : jC (aT ls h).x (aT ls h).y x y = decide (h < cutL ls x y) := by
 by_cases hc : h < cutL ls x y
 ·rw [decide_eq_true hc, zaE hc]
 ·rw [decide_eq_false hc]
  have zb := ZX ls x y; have h0 : cutL ls x y < ls.length := by omega
  have h1 := zaD h0; by_cases he : cutL ls x y = h
  ·rw [← he]; exact h1
  ·have h2 := List.pairwise_iff_getElem.1 hs (cutL ls x y) h h0 hh (by omega)
   have a := vK h0; have b := vK hh; rw [List.getElem?_eq_getElem h0] at a; rw [List.getElem?_eq_getElem hh] at b; rw [Option.some.inj a, Option.some.inj b] at h2; unfold yW jC at h2; unfold jC at h1 ⊢; have h2 := of_decide_eq_true h2; have h1 := of_decide_eq_false h1; exact zB (by omega)
theorem Q9 (e : TA) (x y : Int) (w : World) : Calls Tryz.prog 165 #[.agg (xE e), .agg #[.int .i64 x, .int .i64 y]] w fun e' w' => e' = .returned (.int .i64 (QB e.x e.y x y)) ∧ Below w.heap.size w w' := by
 have B := Below.refl w.heap.size w
 go_enter func165, ntmps165
 go_wp2_with (first | (go_at_call 102; refine (wQ _ _ x y _).mono ?_; rintro e wn ⟨rfl, za⟩; obtain ⟨zf, zg, B⟩ := zM B za; replace t1 := t1.be za; replace p1 := p1.be za) | (refine zp (t := 95) rfl _ rfl _ _ _ rfl (kf t1) (by first | rfl | omega) ?_; simp only [zn]) | (first | refine yN ?_ | refine yO ?_) | (have _ := t1; refine jd (t := 95) B ?_; clear B; intro b_p1 wn zb zd p1 za zf zk B; replace t1 := t1.be za) | (refine jd (t := 125) B ?_; clear B; intro b_t1 wn zb zd t1 za zf zk B) | fail)
 go_ret
 exact ⟨rfl, B⟩
theorem zdf (v : Value) (ls : List TA) (x y : Int) (w : World) (h : RS v ls w) (hs : QJ ls) (hn : ls.length ≤ 1000000) : Calls Tryz.prog 164 #[v, .agg #[.int .i64 x, .int .i64 y], .func (.func 165) #[] #[]] w fun e w' => e = .returned (.tuple #[.int .i64 (cutL ls x y : Int), .bool (kV ls x y)]) ∧ Below w.heap.size w w' := by
 obtain ⟨a, c, rfl, hc⟩ := h.len
 have hcl := ZX ls x y
 have B := Below.refl w.heap.size w
 have HS := zo h
 have SR := zo hs
 have eg := enters_of func165 (by kernel_rfl) rfl
 clear h hs
 generalize hfin : kV ls x y = fin
 have FIN := zo hfin
 clear hfin
 go_enter func164, ntmps164
 go_wp2_with (first | (refine jd (t := 95) B ?_; clear B; intro b_p1 wn zb zd p1 za zf zk B) | fail)
 have hp1 := p1.lt
 go_loopw [9, 10, 11] (fun i j _ wr => ∃ p q : Nat, p ≤ cutL ls x y ∧ cutL ls x y ≤ q ∧ q ≤ ls.length ∧ i = .int .i64 p ∧ j = .int .i64 q ∧ Below w.heap.size w wr ∧ zw 95 wr b_p1 #[.int .i64 x, .int .i64 y]) (fun i j _ _ => (intOf j - intOf i).toNat)
 case atStart => exact ⟨0, ls.length, by omega, hcl, Nat.le_refl _, rfl, rfl, B, p1⟩
 case round =>
  clear B p1; obtain ⟨p, q, h1, h2, h3, rfl, rfl, B, p1⟩ := hrel; by_cases hpq : p < q
  ·obtain ⟨g, o, rfl, rc0⟩ := HS.out.at (by omega)
   have hg0 := rc0.lt; have rc := rc0.of_eq (B.block _ rc0.lt); clear rc0; have hm : (p + q) / 2 < ls.length := by omega
   obtain ⟨e, he⟩ : ∃ e, aT ls ((p + q) / 2) = e := ⟨_, rfl⟩; have hl := zdJ SR.out x y hm; rw [he, ← Vu] at hl; by_cases hcut : (p + q) / 2 < cutL ls x y
   ·rw [decide_eq_true hcut] at hl
    go_wp2; refine zt (by kernel_rfl) (by kernel_rfl) ?_; repeat (first | go_big_quiet_skip | (go_big_quiet_want; first | (refine zq (fun w hw => xt (jJ rc w hw) hm he) ?_; simp only [zn]; go_big_quiet_on) | ((first | refine qB ?_ | refine qC ?_); simp only [zn]; go_big_quiet_on) | (go_big_quiet_op; first | go_big_quiet_on | go_big_quiet_call ((first | (go_at_call 165; exact zv (Q9 e x y _)))))))
    refine wpQuiet_nil ?_; intro wn za; obtain ⟨zf, zg, B⟩ := zM B za; try replace p1 := p1.be za
    replace rc := rc.be za
    go_wp2; go_roundw
    case rel => exact ⟨(p + q) / 2 + 1, q, by omega, h2, h3, by first | rfl | (rw [show ((p : Int) + (q : Int)) / 2 + 1 = (((p + q) / 2 + 1 : Nat) : Int) by omega]), rfl, B, p1⟩
    case measure => simp [intOf]; omega
   ·rw [decide_eq_false hcut] at hl
    go_wp2; refine zt (by kernel_rfl) (by kernel_rfl) ?_; repeat (first | go_big_quiet_skip | (go_big_quiet_want; first | (refine zq (fun w hw => xt (jJ rc w hw) hm he) ?_; simp only [zn]; go_big_quiet_on) | ((first | refine qB ?_ | refine qC ?_); simp only [zn]; go_big_quiet_on) | (go_big_quiet_op; first | go_big_quiet_on | go_big_quiet_call ((first | (go_at_call 165; exact zv (Q9 e x y _)))))))
    refine wpQuiet_nil ?_; intro wn za; obtain ⟨zf, zg, B⟩ := zM B za; try replace p1 := p1.be za
    replace rc := rc.be za
    go_wp2; go_roundw
    case rel => exact ⟨p, (p + q) / 2, h1, by omega, by omega, rfl, by first | rfl | (rw [show ((p : Int) + (q : Int)) / 2 = (((p + q) / 2 : Nat) : Int) by omega]), B, p1⟩
    case measure => simp [intOf]; omega
  ·obtain rfl : p = cutL ls x y := by omega
   obtain rfl : q = cutL ls x y := by omega
   by_cases hin : cutL ls x y < ls.length
   ·obtain ⟨g, o, rfl, rc0⟩ := HS.out.at (by omega)
    have hg0 := rc0.lt; have rc := rc0.of_eq (B.block _ rc0.lt); clear rc0; obtain ⟨e, he⟩ : ∃ e, aT ls (cutL ls x y) = e := ⟨_, rfl⟩; have hh : kV ls x y = yG e.x e.y x y := by unfold kV; rw [decide_eq_true hin, he]; rfl
    have d1 : decide ((cutL ls x y : Int) < (ls.length : Int)) = true := zQ (by omega); have d2 : decide (cutL ls x y < ls.length) = true := zQ hin; have ho := zgr e.x e.y x y; cases hq : yG e.x e.y x y with
    | true =>
     rw [hq] at ho; have ho2 : (QB e.x e.y x y == 0) = true := ho; rw [hq] at hh; have HH := zo hh; clear hh; go_wp2; refine zt (by kernel_rfl) (by kernel_rfl) ?_; repeat (first | go_big_quiet_skip | (go_big_quiet_want; first | (refine zq (fun w hw => xt (jJ rc w hw) hin he) ?_; simp only [zn]; go_big_quiet_on) | ((first | refine qB ?_ | refine qC ?_); simp only [zn]; go_big_quiet_on) | (go_big_quiet_op; first | go_big_quiet_on | go_big_quiet_call ((first | (go_at_call 165; exact zv (Q9 e x y _)))))))
     refine wpQuiet_nil ?_; intro wn za; obtain ⟨zf, zg, B⟩ := zM B za; try replace p1 := p1.be za
     replace rc := rc.be za
     go_wp2; go_ret2
     exact ⟨by rw [← FIN.out, HH.out]; try rfl, B⟩
    | false =>
     rw [hq] at ho; have ho2 : (QB e.x e.y x y == 0) = false := ho; rw [hq] at hh; have HH := zo hh; clear hh; go_wp2; refine zt (by kernel_rfl) (by kernel_rfl) ?_; repeat (first | go_big_quiet_skip | (go_big_quiet_want; first | (refine zq (fun w hw => xt (jJ rc w hw) hin he) ?_; simp only [zn]; go_big_quiet_on) | ((first | refine qB ?_ | refine qC ?_); simp only [zn]; go_big_quiet_on) | (go_big_quiet_op; first | go_big_quiet_on | go_big_quiet_call ((first | (go_at_call 165; exact zv (Q9 e x y _)))))))
     refine wpQuiet_nil ?_; intro wn za; obtain ⟨zf, zg, B⟩ := zM B za; try replace p1 := p1.be za
     go_wp2; go_ret2
     exact ⟨by rw [← FIN.out, HH.out]; try rfl, B⟩
   ·have hh : kV ls x y = false := by unfold kV; rw [decide_eq_false hin]; rfl
    have d1 : decide ((cutL ls x y : Int) < (ls.length : Int)) = false := zB (by omega); have d2 : decide (cutL ls x y < ls.length) = false := zB hin; have HH := zo hh; clear hh; go_wp2; refine zt (by kernel_rfl) (by kernel_rfl) ?_; repeat (first | go_big_quiet_skip | (go_big_quiet_want; first | ((first | refine qB ?_ | refine qC ?_); simp only [zn]; go_big_quiet_on) | (go_big_quiet_op; first | go_big_quiet_on | go_big_quiet_call ((fail)))))
    refine wpQuiet_nil ?_; intro wn za; obtain ⟨zf, zg, B⟩ := zM B za; go_wp2; go_ret2
    exact ⟨by rw [← FIN.out, HH.out]; try rfl, B⟩
theorem Zx (v : Value) (ls : List TA) (x y : Int) (w : World) (h : RS v ls w) (hs : QJ ls) (hn : ls.length ≤ 1000000) : Calls Tryz.prog 130 #[v, .agg #[.int .i64 x, .int .i64 y]] w fun e w' => e = .returned (.tuple #[.int .i64 (cutL ls x y : Int), .bool (kV ls x y)]) ∧ Below w.heap.size w w' := by
 have B := Below.refl w.heap.size w
 have HS := zo h
 have SR := zo hs
 clear h hs
 go_enter func130, ntmps130
 go_wp2_with (first | (go_at_call 164; refine (zdf _ ls x y _ (HS.out.be B) SR.out hn).mono ?_; rintro e wn ⟨rfl, za⟩; obtain ⟨zf, zg, B⟩ := zM B za; replace p1 := p1.be za) | (first | refine yN ?_ | refine yO ?_) | (refine jd (t := 95) B ?_; clear B; intro b_p1 wn zb zd p1 za zf zk B) | fail)
 go_ret2
 exact ⟨rfl, B⟩
theorem xU.chg {B b : Nat} {v : Value} {ls : List TA} {w w' : World} (h : xU B v ls w) (hc : qY b w w') (hb : b < B) : xU B v ls w' := by
 refine World.ownsRow.kept (row := some b) h ⟨hc.os, hc.tape, hc.output, hc.size, fun k hk hne => hc.block k hk (fun e => hne (by rw [e]))⟩ ?_
 cases hv : v.ownBlock with
 | none => exact .inl rfl
 | some k =>
  right
  intro e
  injection e with e
  have := World.ownsRow.lt h k hv; omega
theorem zgy {g o : Nat} {ls : List TA} {w : World} (sc : 0 < ls.length → qP g o ls w) {k : Nat} (hk : k ≤ ls.length) : RS (.slice (some ⟨g, o, none⟩) k k) (ls.take k) w := by
 have hl : (ls.take k).length = k := by rw [List.length_take]; omega
 refine .inr ⟨g, o, k, by rw [hl], by omega, fun h => (sc (by omega)).take k⟩
theorem zbb {g o c : Nat} {ls : List TA} {w : World} (sc : 0 < ls.length → qP g o ls w) (hc : ls.length ≤ c) {k : Nat} (hk : k ≤ ls.length) : RS (.slice (if c = k then some ⟨g, o, none⟩ else some ⟨g, o + k * 258, none⟩) (ls.length - k) (c - k)) (ls.drop k) w := by
 have hl : (ls.drop k).length = ls.length - k := List.length_drop ..
 by_cases e : c = k
 ·rw [if_pos e]
  exact .inr ⟨g, o, c - k, by rw [hl], by omega, fun h => absurd h (by omega)⟩
 ·rw [if_neg e]
  exact .inr ⟨g, o + k * 258, c - k, by rw [hl], by omega, fun h => (sc (by omega)).drop k⟩
theorem qK (w : World) (o : Oper) (ho : o.op = .alloc 64) (ev : Operand → Value) : (execOp ev o).run Tryz.prog w = .ok (.value (.pointer (some ⟨w.heap.size, 0, none⟩))) (w.alloc (.cells #[.slice none 0 0] 64)) := by
 obtain ⟨d, p, t, ps, af, gd⟩ := o
 simp only at ho
 subst ho
 kernel_rfl
theorem RS.chg {v : Value} {ls : List TA} {t : TypeId} {b : Nat} {cs : Array Value} {w w' : World} (h : RS v ls w) (hb : zw t w b cs) (hs : cs.size < 258) (hc : qY b w w') : RS v ls w' := by
 rcases h with h | ⟨g, o, c, e, hcap, sc⟩
 ·exact .inl h
 ·refine .inr ⟨g, o, c, e, hcap, fun hn => (sc hn).of_eq (hc.block g (sc hn).lt fun hg => ?_)⟩
  subst hg; have h1 := (sc hn).2 0 hn 257 (by omega); rw [cell_of_row w g _ cs _ (0, 0) hb] at h1; have h2 : (xE (aT ls 0))[257]? ≠ none := by
   rw [Ne, Array.getElem?_eq_none_iff, zP]; omega
  rw [← h1, Ne, Array.getElem?_eq_none_iff] at h2; omega
theorem jl {o : Oper} {a : Act} {w : World} {Q : Exit → Act → World → Prop} {K : Act → World → Prop} {t : TypeId} {cs : Array Value} (x y : Operand) (b : Nat) (cs' : Array Value) (ho : o.op = .store t x y) (hx : a.eval x = .pointer (some ⟨b, 0, none⟩)) (hy : a.eval y = .agg cs') (ht : zw t w b cs) (zf : (Tryz.prog.info? t).map (·.size) = some cs'.size) (hss : cs'.size = cs.size) (hone : cs'.all (·.oneCell') = true)
  (h : ∀ w', zw t w' b cs' → qY b w w' → w'.heap.size = w.heap.size → K (a.put o.dst undef) w') : o.wp Tryz.prog a w K Q := by
 unfold Oper.wp execOp
 simp only [ho, hx, hy, QW ht zf hss hone, Sem.run_bind, Sem.run_pure, Result.andThen_ok]
 exact h _ (ht.setRow cs') ((qY.refl b w).setRow _) (size_setRow _ _ _)
theorem KN (a : Option Addr) (c : Nat) (ls : List TA) (w : World) (h : RS (.slice a ls.length c) ls w) (tk : qQ ls) (hn : ls.length ≤ maxLen) : Calls Tryz.prog 104 #[.agg #[.slice a ls.length c]] w fun e w' => e = .returned (if ql ls = true then .slice a ls.length c else .slice none 0 0) ∧ Below w.heap.size w w' := by
 have B := Below.refl w.heap.size w
 have HS := zo h
 clear h
 cases hv : ql ls with
 | true =>
  rw [if_pos rfl]; go_enter func104, ntmps104
  go_wp2_with (first | (go_at_call 41; refine (Yu _ ls _ (HS.out.be B) tk hn).mono ?_; rintro e wn ⟨rfl, za⟩; obtain ⟨zf, zg, B⟩ := zM B za; replace r1 := r1.be za) | (first | refine yN ?_ | refine yO ?_) | (refine zp (t := 62) rfl _ rfl _ _ _ rfl (zu r1.cell0) (by rfl) ?_; simp only [zn]) | (refine jd (t := 64) B ?_; clear B; intro b_r1 wn zb zd r1 za zf zk B) | fail)
  go_ret; exact ⟨rfl, B⟩
 | false =>
  rw [if_neg (by decide)]; go_enter func104, ntmps104
  go_wp2_with (first | (go_at_call 41; refine (Yu _ ls _ (HS.out.be B) tk hn).mono ?_; rintro e wn ⟨rfl, za⟩; obtain ⟨zf, zg, B⟩ := zM B za; replace r1 := r1.be za) | (first | refine yN ?_ | refine yO ?_) | (refine zp (t := 62) rfl _ rfl _ _ _ rfl (zu r1.cell0) (by rfl) ?_; simp only [zn]) | (refine jd (t := 64) B ?_; clear B; intro b_r1 wn zb zd r1 za zf zk B) | fail)
  go_ret; exact ⟨rfl, B⟩
theorem zas (v : Value) (ls : List TA) (w : World) (h : RS v ls w) (tk : qQ ls) (hn : ls.length ≤ maxLen) : ∃ a c, ∀ w', Below w.heap.size w w' → (Calls Tryz.prog 104 #[.agg #[v]] w' fun e w'' => e = .returned (.slice a (qh ls).length c) ∧ Below w'.heap.size w' w'') ∧ RS (.slice a (qh ls).length c) (qh ls) w' := by
 obtain ⟨a, c, rfl, hc⟩ := h.len
 cases hv : ql ls with
 | true =>
  rw [kQ hv]; refine ⟨a, c, fun w' hb => ⟨?_, h.be hb⟩⟩; have := KN a c ls w' (h.be hb) tk hn; rw [hv, if_pos rfl] at this; exact this
 | false =>
  rw [JR hv]; refine ⟨none, 0, fun w' hb => ⟨?_, RS.nil _⟩⟩; have := KN a c ls w' (h.be hb) tk hn; rw [hv, if_neg (by decide)] at this; exact this
theorem yR (v : Value) (ls : List TA) (w : World) (h : RS v ls w) (hn : ls.length ≤ 4000) : Calls Tryz.prog 78 #[v] w fun e w' => ∃ v' b, e = .returned v' ∧ w.heap.size ≤ b ∧ b ≤ w.heap.size ∧ xU b v' ls w' ∧ Below w.heap.size w w' :=
 (zfn v ls w h hn).mono fun e w' ⟨v', he, ho, hb⟩ => ⟨v', _, he, Nat.le_refl _, Nat.le_refl _, ho, hb⟩
theorem Yx (v : Value) (ls : List TA) (x y : Int) (t : Nat → Px) (w : World) (h : RS v ls w) (hs : QJ ls) (ht : Qq t) (hn : ls.length ≤ 4000) : Calls Tryz.prog 132 #[v, .agg #[.int .i64 x, .int .i64 y], Tile.v t] w fun e w' => ∃ v', e = .returned v' ∧ RS v' (xF ls x y t) w' ∧ Below w.heap.size w w' := by
 have B := Below.refl w.heap.size w
 have HS := zo h
 have SR := zo hs
 have hcl := ZX ls x y
 rcases h with ⟨rfl, rfl⟩ | ⟨g, o, c, rfl, hc, sc⟩
 ·have hcut : cutL ([] : List TA) x y = 0 := rfl
  have hhit : kV ([] : List TA) x y = false := rfl; have hp := kS ([] : List TA) x y t; rw [hhit, hcut] at hp; have HP := zo hp; clear hp hs hcl hn; cases hz : ju t with
  | true =>
   have HN := zo (show jr x y t = [] from by unfold jr; rw [hz]; rfl)
   go_enter func132, ntmps132
   go_wp2_with (first | (at_builtin; refine qq rfl _ _ rfl _ _ rfl rfl od ((RS.nil _)) (by simp) (by omega) ?_; intro v_od wn ht za; have zf := B.size; have zg := za.size; replace B := B.trans (za.mono (by omega)); clear od; replace p1 := p1.of_eq (za.block _ (by omega)); replace u1 := u1.of_eq (za.block _ (by omega)); have od := ht; clear ht; simp only [zn]) | (go_at_call 78; have qp := p1.lt; have qu := u1.lt; refine (yR _ ([]) _ (RS.nil _) (by first | (rw [List.length_take]; omega) | simp)).mono ?_; rintro e wn ⟨v_od, b_od, rfl, zb, zd, od, za⟩; obtain ⟨zf, zg, B⟩ := zM B za; replace p1 := p1.be za; replace u1 := u1.be za) | (go_at_call 130; refine (Zx _ [] x y _ (HS.out.be B) SR.out (by first | omega | simp)).mono ?_; rintro e wn ⟨rfl, za⟩; obtain ⟨zf, zg, B⟩ := zM B za; replace p1 := p1.be za; replace u1 := u1.be za) | (go_at_call 100; refine (yS _ _ ht).mono ?_; rintro e wn ⟨rfl, za⟩; obtain ⟨zf, zg, B⟩ := zM B za; replace p1 := p1.be za; replace u1 := u1.be za; replace od := od.be za) | (refine qS rfl _ rfl _ rfl u1 ?_; simp only [zn]) | (first | refine yN ?_ | refine yO ?_) | (have _ := p1; refine jR rfl _ rfl _ rfl (kn B ?_); clear B; intro b_u1 wn zb zd u1 za zf zk B; replace p1 := p1.be (za.mono zb); simp only [zn]) | (refine jd (t := 95) B ?_; clear B; intro b_p1 wn zb zd p1 za zf zk B) | fail)
   go_ret; refine ⟨_, rfl, ?_, B⟩; have e := od.rs; rw [HP.out, HN.out]
   simpa using e
  | false =>
   have HN := zo (show jr x y t = [⟨x, y, t⟩] from by unfold jr; rw [hz]; rfl)
   go_enter func132, ntmps132
   go_wp2_with (first | (at_builtin; refine qq rfl _ _ rfl _ _ rfl rfl od ((RS.nil _)) (by simp) (by omega) ?_; intro v_od wn ht za; have zf := B.size; have zg := za.size; replace B := B.trans (za.mono (by omega)); clear od; replace p1 := p1.of_eq (za.block _ (by omega)); replace u1 := u1.of_eq (za.block _ (by omega)); have od := ht; clear ht; simp only [zn]) | (at_builtin; refine qq rfl _ _ rfl _ _ rfl rfl od ((RS.one s1)) (by simp) (by omega) ?_; intro v_od wn ht za; have zf := B.size; have zg := za.size; replace B := B.trans (za.mono (by omega)); clear od; replace p1 := p1.of_eq (za.block _ (by omega)); replace u1 := u1.of_eq (za.block _ (by omega)); have od := ht; clear ht; simp only [zn]) | (refine jU rfl _ rfl ⟨x, y, t⟩ (by rfl) (kn B ?_); clear B; intro b_s1 wn zb zd s1 za zf zk B; replace p1 := p1.be (za.mono zb); replace u1 := u1.be (za.mono zb); replace od := od.be (za.mono zb); simp only [zn]) | (refine yf rfl _ _ rfl x y t (by rfl) (by rfl) ?_; simp only [zn]) | (go_at_call 78; have qp := p1.lt; have qu := u1.lt; refine (yR _ ([]) _ (RS.nil _) (by first | (rw [List.length_take]; omega) | simp)).mono ?_; rintro e wn ⟨v_od, b_od, rfl, zb, zd, od, za⟩; obtain ⟨zf, zg, B⟩ := zM B za; replace p1 := p1.be za; replace u1 := u1.be za) | (go_at_call 130; refine (Zx _ [] x y _ (HS.out.be B) SR.out (by first | omega | simp)).mono ?_; rintro e wn ⟨rfl, za⟩; obtain ⟨zf, zg, B⟩ := zM B za; replace p1 := p1.be za; replace u1 := u1.be za) | (go_at_call 100; refine (yS _ _ ht).mono ?_; rintro e wn ⟨rfl, za⟩; obtain ⟨zf, zg, B⟩ := zM B za; replace p1 := p1.be za; replace u1 := u1.be za; replace od := od.be za) | (refine qS rfl _ rfl _ rfl u1 ?_; simp only [zn]) | (first | refine yN ?_ | refine yO ?_) | (have _ := p1; refine jR rfl _ rfl _ rfl (kn B ?_); clear B; intro b_u1 wn zb zd u1 za zf zk B; replace p1 := p1.be (za.mono zb); simp only [zn]) | (refine jd (t := 95) B ?_; clear B; intro b_p1 wn zb zd p1 za zf zk B) | fail)
   go_ret; refine ⟨_, rfl, ?_, B⟩; have e := od.rs; rw [HP.out, HN.out]
   simpa using e
 ·have h : RS (.slice (some ⟨g, o, none⟩) ls.length c) ls w := .inr ⟨g, o, c, rfl, hc, sc⟩
  have HT := zo (zgy sc hcl); have HC := zo (kS ls x y t); have ze : cutL ls x y ≤ c := by omega
  cases hh : kV ls x y with
  | true =>
   have hk : cutL ls x y + 1 ≤ ls.length := by
    first
     | exact hcl
     | (unfold kV at hh; have := of_decide_eq_true (Bool.and_eq_true_iff.1 hh).1; omega)
   have HR := zo (zbb sc hc hk); cases hz : ju t with
   | true =>
    have HN := zo (show jr x y t = [] from by unfold jr; rw [hz]; rfl)
    have HH := zo hh; clear hs sc h; go_enter func132, ntmps132
    go_wp2_with (first | (at_builtin; refine qq rfl _ _ rfl _ _ rfl rfl od ((HR.out.be B)) (by simp; omega) (by omega) ?_; intro v_od wn ht za; have zf := B.size; have zg := za.size; replace B := B.trans (za.mono (by omega)); clear od; replace p1 := p1.of_eq (za.block _ (by omega)); replace u1 := u1.of_eq (za.block _ (by omega)); have od := ht; clear ht; simp only [zn]) | (go_at_call 78; have qp := p1.lt; have qu := u1.lt; refine (yR _ (ls.take (cutL ls x y)) _ (HT.out.be B) (by first | (rw [List.length_take]; omega) | simp)).mono ?_; rintro e wn ⟨v_od, b_od, rfl, zb, zd, od, za⟩; obtain ⟨zf, zg, B⟩ := zM B za; replace p1 := p1.be za; replace u1 := u1.be za) | (go_at_call 130; refine (Zx _ ls x y _ (HS.out.be B) SR.out (by first | omega | simp)).mono ?_; rintro e wn ⟨rfl, za⟩; obtain ⟨zf, zg, B⟩ := zM B za; replace p1 := p1.be za; replace u1 := u1.be za) | (go_at_call 100; refine (yS _ _ ht).mono ?_; rintro e wn ⟨rfl, za⟩; obtain ⟨zf, zg, B⟩ := zM B za; replace p1 := p1.be za; replace u1 := u1.be za; replace od := od.be za) | (refine qS rfl _ rfl _ rfl u1 ?_; simp only [zn]) | (first | refine yN ?_ | refine yO ?_) | (have _ := p1; refine jR rfl _ rfl _ rfl (kn B ?_); clear B; intro b_u1 wn zb zd u1 za zf zk B; replace p1 := p1.be (za.mono zb); simp only [zn]) | (refine jd (t := 95) B ?_; clear B; intro b_p1 wn zb zd p1 za zf zk B) | fail)
    all_goals
     go_ret; refine ⟨_, rfl, ?_, B⟩; have e := od.rs; rw [HC.out, HN.out, HH.out]
     simpa using e
   | false =>
    have HN := zo (show jr x y t = [⟨x, y, t⟩] from by unfold jr; rw [hz]; rfl)
    have HH := zo hh; clear hs sc h; go_enter func132, ntmps132
    go_wp2_with (first | (at_builtin; refine qq rfl _ _ rfl _ _ rfl rfl od ((HR.out.be B)) (by simp; omega) (by omega) ?_; intro v_od wn ht za; have zf := B.size; have zg := za.size; replace B := B.trans (za.mono (by omega)); clear od; replace p1 := p1.of_eq (za.block _ (by omega)); replace u1 := u1.of_eq (za.block _ (by omega)); have od := ht; clear ht; simp only [zn]) | (at_builtin; refine qq rfl _ _ rfl _ _ rfl rfl od ((RS.one s1)) (by simp; omega) (by omega) ?_; intro v_od wn ht za; have zf := B.size; have zg := za.size; replace B := B.trans (za.mono (by omega)); clear od; replace p1 := p1.of_eq (za.block _ (by omega)); replace u1 := u1.of_eq (za.block _ (by omega)); have od := ht; clear ht; simp only [zn]) | (refine jU rfl _ rfl ⟨x, y, t⟩ (by rfl) (kn B ?_); clear B; intro b_s1 wn zb zd s1 za zf zk B; replace p1 := p1.be (za.mono zb); replace u1 := u1.be (za.mono zb); replace od := od.be (za.mono zb); simp only [zn]) | (refine yf rfl _ _ rfl x y t (by rfl) (by rfl) ?_; simp only [zn]) | (go_at_call 78; have qp := p1.lt; have qu := u1.lt; refine (yR _ (ls.take (cutL ls x y)) _ (HT.out.be B) (by first | (rw [List.length_take]; omega) | simp)).mono ?_; rintro e wn ⟨v_od, b_od, rfl, zb, zd, od, za⟩; obtain ⟨zf, zg, B⟩ := zM B za; replace p1 := p1.be za; replace u1 := u1.be za) | (go_at_call 130; refine (Zx _ ls x y _ (HS.out.be B) SR.out (by first | omega | simp)).mono ?_; rintro e wn ⟨rfl, za⟩; obtain ⟨zf, zg, B⟩ := zM B za; replace p1 := p1.be za; replace u1 := u1.be za) | (go_at_call 100; refine (yS _ _ ht).mono ?_; rintro e wn ⟨rfl, za⟩; obtain ⟨zf, zg, B⟩ := zM B za; replace p1 := p1.be za; replace u1 := u1.be za; replace od := od.be za) | (refine qS rfl _ rfl _ rfl u1 ?_; simp only [zn]) | (first | refine yN ?_ | refine yO ?_) | (have _ := p1; refine jR rfl _ rfl _ rfl (kn B ?_); clear B; intro b_u1 wn zb zd u1 za zf zk B; replace p1 := p1.be (za.mono zb); simp only [zn]) | (refine jd (t := 95) B ?_; clear B; intro b_p1 wn zb zd p1 za zf zk B) | fail)
    all_goals
     go_ret; refine ⟨_, rfl, ?_, B⟩; have e := od.rs; rw [HC.out, HN.out, HH.out]
     simpa using e
  | false =>
   have hk : cutL ls x y ≤ ls.length := by
    first
     | exact hcl
     | (unfold kV at hh; have := of_decide_eq_true (Bool.and_eq_true_iff.1 hh).1; omega)
   have HR := zo (zbb sc hc hk); cases hz : ju t with
   | true =>
    have HN := zo (show jr x y t = [] from by unfold jr; rw [hz]; rfl)
    have HH := zo hh; clear hs sc h; go_enter func132, ntmps132
    go_wp2_with (first | (at_builtin; refine qq rfl _ _ rfl _ _ rfl rfl od ((HR.out.be B)) (by simp; omega) (by omega) ?_; intro v_od wn ht za; have zf := B.size; have zg := za.size; replace B := B.trans (za.mono (by omega)); clear od; replace p1 := p1.of_eq (za.block _ (by omega)); replace u1 := u1.of_eq (za.block _ (by omega)); have od := ht; clear ht; simp only [zn]) | (go_at_call 78; have qp := p1.lt; have qu := u1.lt; refine (yR _ (ls.take (cutL ls x y)) _ (HT.out.be B) (by first | (rw [List.length_take]; omega) | simp)).mono ?_; rintro e wn ⟨v_od, b_od, rfl, zb, zd, od, za⟩; obtain ⟨zf, zg, B⟩ := zM B za; replace p1 := p1.be za; replace u1 := u1.be za) | (go_at_call 130; refine (Zx _ ls x y _ (HS.out.be B) SR.out (by first | omega | simp)).mono ?_; rintro e wn ⟨rfl, za⟩; obtain ⟨zf, zg, B⟩ := zM B za; replace p1 := p1.be za; replace u1 := u1.be za) | (go_at_call 100; refine (yS _ _ ht).mono ?_; rintro e wn ⟨rfl, za⟩; obtain ⟨zf, zg, B⟩ := zM B za; replace p1 := p1.be za; replace u1 := u1.be za; replace od := od.be za) | (refine qS rfl _ rfl _ rfl u1 ?_; simp only [zn]) | (first | refine yN ?_ | refine yO ?_) | (have _ := p1; refine jR rfl _ rfl _ rfl (kn B ?_); clear B; intro b_u1 wn zb zd u1 za zf zk B; replace p1 := p1.be (za.mono zb); simp only [zn]) | (refine jd (t := 95) B ?_; clear B; intro b_p1 wn zb zd p1 za zf zk B) | fail)
    all_goals
     go_ret; refine ⟨_, rfl, ?_, B⟩; have e := od.rs; rw [HC.out, HN.out, HH.out]
     simpa using e
   | false =>
    have HN := zo (show jr x y t = [⟨x, y, t⟩] from by unfold jr; rw [hz]; rfl)
    have HH := zo hh; clear hs sc h; go_enter func132, ntmps132
    go_wp2_with (first | (at_builtin; refine qq rfl _ _ rfl _ _ rfl rfl od ((HR.out.be B)) (by simp; omega) (by omega) ?_; intro v_od wn ht za; have zf := B.size; have zg := za.size; replace B := B.trans (za.mono (by omega)); clear od; replace p1 := p1.of_eq (za.block _ (by omega)); replace u1 := u1.of_eq (za.block _ (by omega)); have od := ht; clear ht; simp only [zn]) | (at_builtin; refine qq rfl _ _ rfl _ _ rfl rfl od ((RS.one s1)) (by simp; omega) (by omega) ?_; intro v_od wn ht za; have zf := B.size; have zg := za.size; replace B := B.trans (za.mono (by omega)); clear od; replace p1 := p1.of_eq (za.block _ (by omega)); replace u1 := u1.of_eq (za.block _ (by omega)); have od := ht; clear ht; simp only [zn]) | (refine jU rfl _ rfl ⟨x, y, t⟩ (by rfl) (kn B ?_); clear B; intro b_s1 wn zb zd s1 za zf zk B; replace p1 := p1.be (za.mono zb); replace u1 := u1.be (za.mono zb); replace od := od.be (za.mono zb); simp only [zn]) | (refine yf rfl _ _ rfl x y t (by rfl) (by rfl) ?_; simp only [zn]) | (go_at_call 78; have qp := p1.lt; have qu := u1.lt; refine (yR _ (ls.take (cutL ls x y)) _ (HT.out.be B) (by first | (rw [List.length_take]; omega) | simp)).mono ?_; rintro e wn ⟨v_od, b_od, rfl, zb, zd, od, za⟩; obtain ⟨zf, zg, B⟩ := zM B za; replace p1 := p1.be za; replace u1 := u1.be za) | (go_at_call 130; refine (Zx _ ls x y _ (HS.out.be B) SR.out (by first | omega | simp)).mono ?_; rintro e wn ⟨rfl, za⟩; obtain ⟨zf, zg, B⟩ := zM B za; replace p1 := p1.be za; replace u1 := u1.be za) | (go_at_call 100; refine (yS _ _ ht).mono ?_; rintro e wn ⟨rfl, za⟩; obtain ⟨zf, zg, B⟩ := zM B za; replace p1 := p1.be za; replace u1 := u1.be za; replace od := od.be za) | (refine qS rfl _ rfl _ rfl u1 ?_; simp only [zn]) | (first | refine yN ?_ | refine yO ?_) | (have _ := p1; refine jR rfl _ rfl _ rfl (kn B ?_); clear B; intro b_u1 wn zb zd u1 za zf zk B; replace p1 := p1.be (za.mono zb); simp only [zn]) | (refine jd (t := 95) B ?_; clear B; intro b_p1 wn zb zd p1 za zf zk B) | fail)
    all_goals
     go_ret; refine ⟨_, rfl, ?_, B⟩; have e := od.rs; rw [HC.out, HN.out, HH.out]
     simpa using e
theorem zc9 (a : Option Addr) (n c : Nat) (w : World) (hn : n ≤ maxLen) : Calls Tryz.prog 133 #[.slice a n c] w fun e w' => e = .returned (if n ≤ 1024 then .tuple #[.agg #[.slice a n c], .int .i64 0] else .tuple #[.agg #[.slice none 0 0], .int .i64 2]) ∧ Below w.heap.size w w' := by
 have B := Below.refl w.heap.size w
 by_cases h : n ≤ 1024
 ·rw [if_pos h]
  have d1 : decide (1024 < (n : Int)) = false := zB (by omega); go_enter func133, ntmps133
  go_wp2_with (first | (refine qZ r1 B ?_; clear r1 B; intro wn r1 ze zf zg B) | (refine jH (t := 64) (qK _ _ rfl) B ?_; clear B; intro b_r1 wn zb zd r1 za zf zk B) | fail)
  refine yP r1 ?_; exact ⟨rfl, B⟩
 ·rw [if_neg h]
  have d1 : decide (1024 < (n : Int)) = true := zQ (by omega); go_enter func133, ntmps133
  go_wp2_with (first | (refine qZ r1 B ?_; clear r1 B; intro wn r1 ze zf zg B) | (refine jH (t := 64) (qK _ _ rfl) B ?_; clear B; intro b_r1 wn zb zd r1 za zf zk B) | fail)
  refine yP r1 ?_; exact ⟨rfl, B⟩
theorem XR (ls : List TA) (x y : Int) : Q4 (qc ls (x / 8) (y / 8)) (x % 8) (y % 8) = xJ ls x y := by
 have : yL (x % 8) (y % 8) = true := zQ (by omega)
 unfold Q4 xJ posI
 rw [if_pos this]
theorem vS {x : Int} (h1 : -9223372036854775808 ≤ x) (h2 : x ≤ 9223372036854775807) : (Lit.int .i64 x).wf = true := by
 have hmin : IntKind.i64.min = -9223372036854775808 := rfl
 have hmax : IntKind.i64.max = 9223372036854775807 := rfl
 simp only [Lit.wf, Bool.and_eq_true, decide_eq_true_eq]
 rw [hmin, hmax]
 exact ⟨h1, h2⟩
theorem zbh {x : Int} (h : (Lit.int .i64 x).wf = true) : -9223372036854775808 ≤ x ∧ x ≤ 9223372036854775807 := by
 have hmin : IntKind.i64.min = -9223372036854775808 := rfl
 have hmax : IntKind.i64.max = 9223372036854775807 := rfl
 simp only [Lit.wf, Bool.and_eq_true, decide_eq_true_eq] at h
 rw [hmin, hmax] at h
 exact h
theorem zg4 (v : Value) (ls : List TA) (x y : Int) (w : World) (h : RS v ls w) (hn : ls.length ≤ maxLen) (hx : (Lit.int .i64 x).wf = true) (hy : (Lit.int .i64 y).wf = true) : Calls Tryz.prog 31 #[.agg #[v], .int .i64 x, .int .i64 y] w fun e w' => e = .returned (Px.v (xJ ls x y)) ∧ Below w.heap.size w w' := by
 have B := Below.refl w.heap.size w
 obtain ⟨a, c, rfl, hc⟩ := h.len
 have HS := zo h
 clear h
 rw [← XR]
 have b1 := XP x
 have b2 := XP y
 go_enter func31, ntmps31
 go_wp2_with (first | (have _ := r1; refine qA rfl rfl (kn B ?_); clear B; intro b_q1 wn zb zd q1 za zf zk B; replace r1 := r1.be (za.mono zb); simp only [zn]) | (refine jd (t := 64) B ?_; clear B; intro b_r1 wn zb zd r1 za zf zk B) | fail)
 have rs := HS.out.be B
 refine jm 11 (by kernel_rfl) (by kernel_rfl) ?_
 simp only [List.take_succ_cons, List.take_zero, List.drop_succ_cons, List.drop_zero]
 repeat (first | go_big_quiet_skip | (go_big_quiet_want; first | ((first | refine qB ?_ | refine qC ?_); simp only [zn]; go_big_quiet_on) | (go_big_quiet_op; first | go_big_quiet_on | go_big_quiet_call ((first | (go_at_call 81; exact zv (zif _ _ _ hx hy)) | (go_at_call 80; exact zv (zg8 _ ls _ _ _ (ziP rs _ ⟨_, rfl⟩) hn)) | (go_at_call 79; exact zv (zig _ _ _ _)))))))
 refine wpQuiet_nil ?_
 intro wn za
 obtain ⟨zf, zg, B⟩ := zM B za
 replace q1 := q1.be za
 go_wp2_with (first | (refine z2 rfl _ _ rfl _ rfl (_) rfl q1 (xV B (by omega) ?_); clear q1 B; intro wn q1 ze zf zg B; simp only [zn]) | fail)
 refine bodyPost_ret (jM rfl _ _ (b_q1) rfl q1) rfl ?_
 exact ⟨rfl, B⟩
theorem zgN (a : Option Addr) (c : Nat) (ls : List TA) (w : World) (h : RS (.slice a ls.length c) ls w) (tk : qQ ls) (hn : ls.length ≤ maxLen) : Calls Tryz.prog 92 #[.agg #[.slice a ls.length c]] w fun e w' => e = .returned (.agg #[if ql ls = true then .slice a ls.length c else .slice none 0 0]) ∧ Below w.heap.size w w' := by
 have B := Below.refl w.heap.size w
 have HS := zo h
 clear h
 cases hv : ql ls with
 | true =>
  rw [if_pos rfl]; go_enter func92, ntmps92
  go_wp2_with (first | (refine qZ r2 B ?_; clear r2 B; intro wn r2 ze zf zg B; replace r1 := r1.cg ze) | (go_at_call 141; refine (zav _ ls _ (HS.out.be B) tk hn).mono ?_; rintro e wn ⟨rfl, za⟩; obtain ⟨zf, zg, B⟩ := zM B za; replace r1 := r1.be za; replace r2 := r2.be za) | (first | refine yN ?_ | refine yO ?_) | (have _ := r1; refine jH (t := 64) (qK _ _ rfl) B ?_; clear B; intro b_r2 wn zb zd r2 za zf zk B; replace r1 := r1.be za) | (refine jd (t := 64) B ?_; clear B; intro b_r1 wn zb zd r1 za zf zk B) | fail)
  refine qO r2 ?_; exact ⟨rfl, B⟩
 | false =>
  rw [if_neg (by decide)]; go_enter func92, ntmps92
  go_wp2_with (first | (refine qZ r2 B ?_; clear r2 B; intro wn r2 ze zf zg B; replace r1 := r1.cg ze) | (go_at_call 141; refine (zav _ ls _ (HS.out.be B) tk hn).mono ?_; rintro e wn ⟨rfl, za⟩; obtain ⟨zf, zg, B⟩ := zM B za; replace r1 := r1.be za; replace r2 := r2.be za) | (first | refine yN ?_ | refine yO ?_) | (have _ := r1; refine jH (t := 64) (qK _ _ rfl) B ?_; clear B; intro b_r2 wn zb zd r2 za zf zk B; replace r1 := r1.be za) | (refine jd (t := 64) B ?_; clear B; intro b_r1 wn zb zd r1 za zf zk B) | fail)
  refine qO r2 ?_; exact ⟨rfl, B⟩
theorem zbA (v : Value) (ls : List TA) (w : World) (h : RS v ls w) (tk : qQ ls) (hn : ls.length ≤ maxLen) : ∃ a c, ∀ w', Below w.heap.size w w' → (Calls Tryz.prog 92 #[.agg #[v]] w' fun e w'' => e = .returned (.agg #[.slice a (qh ls).length c]) ∧ Below w'.heap.size w' w'') ∧ RS (.slice a (qh ls).length c) (qh ls) w' := by
 obtain ⟨a, c, rfl, hc⟩ := h.len
 cases hv : ql ls with
 | true =>
  rw [kQ hv]; refine ⟨a, c, fun w' hb => ⟨?_, h.be hb⟩⟩; have := zgN a c ls w' (h.be hb) tk hn; rw [hv, if_pos rfl] at this; exact this
 | false =>
  rw [JR hv]; refine ⟨none, 0, fun w' hb => ⟨?_, RS.nil _⟩⟩; have := zgN a c ls w' (h.be hb) tk hn; rw [hv, if_neg (by decide)] at this; exact this
theorem qJ (w : World) (o : Oper) (ho : o.op = .alloc 82) (ev : Operand → Value) : (execOp ev o).run Tryz.prog w = .ok (.value (.pointer (some ⟨w.heap.size, 0, none⟩))) (w.alloc (.cells #[.slice none 0 0, .int .i64 0] 82)) := by
 obtain ⟨d, p, t, ps, af, gd⟩ := o
 simp only at ho
 subst ho
 kernel_rfl
theorem YA (a : Option Addr) (n c : Nat) (w : World) (hn : n ≤ maxLen) : Calls Tryz.prog 152 #[.agg #[.slice a n c]] w fun e w' => e = .returned (if n ≤ 1024 then .agg #[.slice a n c, .int .i64 0] else .agg #[.slice none 0 0, .int .i64 2]) ∧ Below w.heap.size w w' := by
 have B := Below.refl w.heap.size w
 by_cases h : n ≤ 1024
 ·rw [if_pos h]
  have d1 : decide (1024 < (n : Int)) = false := zB (by omega); go_enter func152, ntmps152
  go_wp2_with (first | (refine qZ g2 B ?_; clear g2 B; intro wn g2 ze zf zg B; replace r1 := r1.cg ze) | (first | refine yN ?_ | refine yO ?_) | (refine zp (t := 62) rfl _ rfl _ _ _ rfl (zu r1.cell0) (by rfl) ?_; simp only [zn]) | (have _ := r1; refine jH (t := 82) (qJ _ _ rfl) B ?_; clear B; intro b_g2 wn zb zd g2 za zf zk B; replace r1 := r1.be za) | (refine jd (t := 64) B ?_; clear B; intro b_r1 wn zb zd r1 za zf zk B) | fail)
  refine qO g2 ?_; exact ⟨rfl, B⟩
 ·rw [if_neg h]
  have d1 : decide (1024 < (n : Int)) = true := zQ (by omega); go_enter func152, ntmps152
  go_wp2_with (first | (refine qZ g2 B ?_; clear g2 B; intro wn g2 ze zf zg B; replace r1 := r1.cg ze) | (first | refine yN ?_ | refine yO ?_) | (refine zp (t := 62) rfl _ rfl _ _ _ rfl (zu r1.cell0) (by rfl) ?_; simp only [zn]) | (have _ := r1; refine jH (t := 82) (qJ _ _ rfl) B ?_; clear B; intro b_g2 wn zb zd g2 za zf zk B; replace r1 := r1.be za) | (refine jd (t := 64) B ?_; clear B; intro b_r1 wn zb zd r1 za zf zk B) | fail)
  refine qO g2 ?_; exact ⟨rfl, B⟩
theorem yE {v : Value} {ops : Array Oper} {rest : List Oper} {o : Oper} {a : Act} {w : World} {Q : Exit → Act → World → Prop} (hg : o.guard = none) (x y : Operand) (ho : o.op = .store 62 x y) (b : Nat) (hx : a.eval x = .pointer (some ⟨b, 0, none⟩)) (a' : Option Addr) (n' c' : Nat) (hy : a.eval y = .slice a' n' c') (ht : zw 64 w b #[v])
  (h : ∀ w', zw 64 w' b #[.slice a' n' c'] → qY b w w' → w'.heap.size = w.heap.size → wpList Tryz.prog ops Q rest (a.put o.dst undef) w') : wpList Tryz.prog ops Q (o :: rest) a w := by
 have c0 := ht.cell0
 have f0 := ht.frozen 0
 refine qj hg x y ho (w.setCell ⟨b, 0, none⟩ (.slice a' n' c')) ?_ (h _ ?_ ((qY.refl b w).setCell _) (by simp only [World.size_setCell]))
 ·rw [hx, hy]
  simp [go_sem, c0, f0]
 ·exact heap_setCell_same w b 0 #[v] _ _ ht
theorem J2 {o : Oper} {a : Act} {w : World} {Q : Exit → Act → World → Prop} {K : Act → World → Prop} (x : Operand) (ho : o.op = .buildSlice 62 1 #[(0, x)]) (e : TA) (hx : a.eval x = .agg (xE e))
  (h : ∀ b w', w.heap.size ≤ b → b ≤ w.heap.size → zw 125 w' b (xE e) → Below b w w' → w'.heap.size = b + 1 → K (a.put o.dst (.slice (some ⟨b, 0, none⟩) 1 1)) w') : o.wp Tryz.prog a w K Q := by
 obtain ⟨i, hi⟩ : ∃ i, Tryz.prog.info? 125 = some i := by
  cases h : Tryz.prog.info? 125 with
  | some i => exact ⟨i, rfl⟩
  | none => have e := Ze; rw [h] at e; cases e
 have e1 := Ze
 rw [hi] at e1
 have e1' : i.size = 258 ∧ i.bytes = 272 := by simpa using e1
 have hz := Ki
 rw [hi] at hz
 refine wp_buildSlice 62 125 1 #[(0, x)] ho (xE e) i _ underlying62 hi hz (by rw [e1'.1]; omega) (by rw [e1'.1]; omega) ?_ (h _ _ (Nat.le_refl _) (Nat.le_refl _) (by unfold zw; rw [zJ, if_pos rfl]) ((Below.refl _ _).alloc (Nat.le_refl _) _) (World.size_alloc _ _))
 rw [e1'.1]
 have hp : ((#[(0, x)] : Array (Nat × Operand)).map fun (i, x) => (i, a.eval x)).toList = [(0, Value.agg (xE e))] := by simp [hx]
 rw [hp]
 exact Vd e _ (by simp)
theorem zco (x y : Int) (t : Nat → Px) (d : Bool) (e : TA) (r : List TA) : y8 x y t d (e :: r) = if (!d && jC x y e.x e.y) = true then ⟨x, y, t⟩ :: (if yG e.x e.y x y = true then y8 x y t true r else e :: y8 x y t true r)
 else if yG e.x e.y x y = true then y8 x y t d r else e :: y8 x y t d r := rfl
theorem zdA (v : Value) (ls : List TA) (x y : Int) (t0 t : Nat → Px) (w : World) (h : RS v ls w) (hs : QJ ls) (ht0 : Qq t0) (htc : t = qI t0) (hn : ls.length ≤ 4000) : Calls Tryz.prog 151 #[.agg #[v], .agg #[.int .i64 x, .int .i64 y], Tile.v t0] w fun e w' => ∃ v', e = .returned (.agg #[v']) ∧ RS v' (xF ls x y t) w' ∧ Below w.heap.size w w' := by
 have B := Below.refl w.heap.size w
 obtain ⟨a, c, rfl, hc⟩ := h.len
 have HS := zo h
 have FIN := zo (VI x y t ls hs)
 clear h hs
 go_enter func151, ntmps151
 subst htc
 generalize htt : qI t0 = t at *
 have CL : ∀ w, Calls Tryz.prog 169 #[Tile.v t0] w fun e w' => e = .returned (Tile.v t) ∧ Below w.heap.size w w' := fun w => htt ▸ ky t0 w ht0
 have CLH := zo CL
 clear CL htt
 go_wp2_with (first | (go_at_call 167; refine (Zy _ _).mono ?_; rintro e wn ⟨rfl, za⟩; obtain ⟨zf, zg, B⟩ := zM B za; replace r1 := r1.be za; replace p1 := p1.be za; replace u1 := u1.be za; replace r2 := r2.be za; replace r3 := r3.be za) | (refine qF rfl _ _ rfl _ rfl _ rfl u1 (xV B (by omega) ?_); clear u1 B; intro wn u1 ze zf zg B; replace r1 := r1.cg ze; replace p1 := p1.cg ze; replace r2 := r2.cg ze; replace r3 := r3.cg ze; simp only [zn]) | (go_at_call 169; refine (CLH.out _).mono ?_; rintro e wn ⟨rfl, za⟩; obtain ⟨zf, zg, B⟩ := zM B za; replace r1 := r1.be za; replace p1 := p1.be za; replace u1 := u1.be za; replace r2 := r2.be za; replace r3 := r3.be za) | (refine qS rfl _ rfl _ rfl u1 ?_; simp only [zn]) | (refine qZ r3 B ?_; clear r3 B; intro wn r3 ze zf zg B; replace r1 := r1.cg ze; replace p1 := p1.cg ze; replace u1 := u1.cg ze; replace r2 := r2.cg ze) | (have _ := r2; refine jH (t := 64) (qK _ _ rfl) B ?_; clear B; intro b_r3 wn zb zd r3 za zf zk B; replace r1 := r1.be za; replace p1 := p1.be za; replace u1 := u1.be za; replace r2 := r2.be za) | (have _ := u1; refine jH (t := 64) (qK _ _ rfl) B ?_; clear B; intro b_r2 wn zb zd r2 za zf zk B; replace r1 := r1.be za; replace p1 := p1.be za; replace u1 := u1.be za) | (have _ := p1; refine jR rfl _ rfl _ rfl (kn B ?_); clear B; intro b_u1 wn zb zd u1 za zf zk B; replace r1 := r1.be (za.mono zb); replace p1 := p1.be (za.mono zb); simp only [zn]) | (have _ := r1; refine jd (t := 95) B ?_; clear B; intro b_p1 wn zb zd p1 za zf zk B; replace r1 := r1.be za) | (refine jd (t := 64) B ?_; clear B; intro b_r1 wn zb zd r1 za zf zk B) | fail)
 have qr1 := r1.lt
 have qp1 := p1.lt
 have qu1 := u1.lt
 have qr2 := r2.lt
 have qr3 := r3.lt
 obtain ⟨b0, hb0⟩ : ∃ n, n = wn.heap.size := ⟨_, rfl⟩
 have k1 : w.heap.size ≤ b_r1 := by omega
 have k2 : b_r1 < b_p1 := by omega
 have k3 : b_p1 < b_u1 := by omega
 have k4 : b_u1 < b_r2 := by omega
 have k5 : b_r2 < b_r3 := by omega
 have k6 : b_r3 < b0 := by omega
 have k7 : b0 ≤ wn.heap.size := by omega
 have od0 := xU.nil b0 wn
 go_loopw [9, 10] (fun d i wr => ∃ (k : Nat) (dd : Bool) (acc : List TA) (a3 : Option Addr) (n3 c3 : Nat), k ≤ ls.length ∧ i = .int .i64 k ∧ d = .bool dd ∧ acc ++ y8 x y t dd (ls.drop k) = xF ls x y t ∧ acc.length ≤ 2 * k ∧ n3 = acc.length ∧ Below w.heap.size w wr ∧ b0 ≤ wr.heap.size ∧ zw 64 wr b_r1 #[.slice a ls.length c] ∧ zw 95 wr b_p1 #[.int .i64 x, .int .i64 y] ∧ zV wr b_u1 t ∧ zw 64 wr b_r2 #[.slice none 0 0] ∧ zw 64 wr b_r3 #[.slice a3 n3 c3] ∧ xU b0 (.slice a3 n3 c3) acc wr) (fun _ i _ => (ls.length - intOf i).toNat)
 case atStart => exact ⟨0, ju t, [], none, 0, 0, by omega, rfl, rfl, FIN.out, by simp, rfl, B, k7, r1, p1, u1, r2, r3, od0⟩
 case round =>
  clear B r1 p1 u1 r2 r3 od0 hb0 k7 qr1 qp1 qu1 qr2 qr3; obtain ⟨k, dd, acc, a3, n3, c3, hk, rfl, rfl, hacc, hal, rfl, B, hwb, r1, p1, u1, r2, r3, od⟩ := hrel; by_cases hkl : k < ls.length
  ·obtain ⟨g, o, rfl, rc0⟩ := HS.out.at (by omega)
   have hg0 := rc0.lt; have rc := rc0.of_eq (B.block _ rc0.lt); clear rc0; obtain ⟨e, he⟩ : ∃ e, aT ls k = e := ⟨_, rfl⟩; rw [zfV hkl, he, zco] at hacc; have hneq : ∀ w, (binOp .neq 95 (Ps.v e.x e.y) (.agg #[.int .i64 x, .int .i64 y])).run Tryz.prog w = .ok (.bool (!yG e.x e.y x y)) w := fun w => zgl _ _ _ _ w
   cases h3 : yG e.x e.y x y with
   | true =>
    cases dd with
    | true =>
     rw [h3] at hacc; simp at hacc
     have HA := zo hacc; clear hacc; go_wp2_with (first | (refine zp (t := 62) rfl _ rfl _ _ _ rfl (zu r1.cell0) (by rfl) ?_; simp only [zn]) | fail)
     refine zt (by kernel_rfl) (by kernel_rfl) ?_; repeat (first | go_big_quiet_skip | (go_big_quiet_want; first | ((first | refine qB ?_ | refine qC ?_); simp only [zn]; go_big_quiet_on) | (refine zq (fun w hw => j0 (jJ rc w hw) hkl he) ?_; simp only [zn]; go_big_quiet_on) | (go_big_quiet_op; first | go_big_quiet_on | go_big_quiet_call ((fail)))))
     refine wpQuiet_nil ?_; intro wn za; obtain ⟨zf, zg, B⟩ := zM B za; try replace r1 := r1.be za
     replace p1 := p1.be za
     replace u1 := u1.be za
     replace r2 := r2.be za
     replace r3 := r3.be za
     replace od := od.be za
     replace rc := rc.be za
     go_wp2; refine zt (by kernel_rfl) (by kernel_rfl) ?_; repeat (first | go_big_quiet_skip | (go_big_quiet_want; first | ((first | refine qB ?_ | refine qC ?_); simp only [zn]; go_big_quiet_on) | (refine zq (fun w hw => j0 (jJ rc w hw) hkl he) ?_; simp only [zn]; go_big_quiet_on) | (go_big_quiet_op; first | go_big_quiet_on | go_big_quiet_call ((fail)))))
     refine wpQuiet_nil ?_; intro wn za; obtain ⟨zf, zg, B⟩ := zM B za; try replace r1 := r1.be za
     replace p1 := p1.be za
     replace u1 := u1.be za
     replace r2 := r2.be za
     replace r3 := r3.be za
     replace od := od.be za
     replace rc := rc.be za
     go_wp2; go_roundw
     case rel => exact ⟨k + 1, _, _, _, _, _, by omega, by go_num, rfl, by first | exact HA.out | (rw [← HA.out, List.append_assoc, List.append_assoc]; rfl) | (rw [← HA.out, List.append_assoc]; rfl) | (rw [← HA.out]; simp), by first | omega | (simp; omega), by first | rfl | simp, B, by omega, r1, p1, u1, r2, r3, od⟩
     case measure => simp [intOf]; omega
    | false =>
     cases h4 : jC x y e.x e.y with
     | true =>
      have h3 := of_decide_eq_true h3; have h4 := of_decide_eq_true h4; omega
     | false =>
      rw [h3, h4] at hacc; simp at hacc
      have HA := zo hacc; clear hacc; go_wp2_with (first | (refine zp (t := 62) rfl _ rfl _ _ _ rfl (zu r1.cell0) (by rfl) ?_; simp only [zn]) | fail)
      refine zt (by kernel_rfl) (by kernel_rfl) ?_; repeat (first | go_big_quiet_skip | (go_big_quiet_want; first | ((first | refine qB ?_ | refine qC ?_); simp only [zn]; go_big_quiet_on) | (refine zq (fun w hw => j0 (jJ rc w hw) hkl he) ?_; simp only [zn]; go_big_quiet_on) | (go_big_quiet_op; first | go_big_quiet_on | go_big_quiet_call ((first | (go_at_call 170; exact zv (wT _ _ _ _ _)))))))
      refine wpQuiet_nil ?_; intro wn za; obtain ⟨zf, zg, B⟩ := zM B za; try replace r1 := r1.be za
      replace p1 := p1.be za
      replace u1 := u1.be za
      replace r2 := r2.be za
      replace r3 := r3.be za
      replace od := od.be za
      replace rc := rc.be za
      go_wp2; refine zt (by kernel_rfl) (by kernel_rfl) ?_; repeat (first | go_big_quiet_skip | (go_big_quiet_want; first | ((first | refine qB ?_ | refine qC ?_); simp only [zn]; go_big_quiet_on) | (refine zq (fun w hw => j0 (jJ rc w hw) hkl he) ?_; simp only [zn]; go_big_quiet_on) | (go_big_quiet_op; first | go_big_quiet_on | go_big_quiet_call ((fail)))))
      refine wpQuiet_nil ?_; intro wn za; obtain ⟨zf, zg, B⟩ := zM B za; try replace r1 := r1.be za
      replace p1 := p1.be za
      replace u1 := u1.be za
      replace r2 := r2.be za
      replace r3 := r3.be za
      replace od := od.be za
      replace rc := rc.be za
      go_wp2; go_roundw
      case rel => exact ⟨k + 1, _, _, _, _, _, by omega, by go_num, rfl, by first | exact HA.out | (rw [← HA.out, List.append_assoc, List.append_assoc]; rfl) | (rw [← HA.out, List.append_assoc]; rfl) | (rw [← HA.out]; simp), by first | omega | (simp; omega), by first | rfl | simp, B, by omega, r1, p1, u1, r2, r3, od⟩
      case measure => simp [intOf]; omega
   | false =>
    cases dd with
    | true =>
     rw [h3] at hacc; simp at hacc
     have HA := zo hacc; clear hacc; go_wp2_with (first | (refine zp (t := 62) rfl _ rfl _ _ _ rfl (zu r1.cell0) (by rfl) ?_; simp only [zn]) | fail)
     refine zt (by kernel_rfl) (by kernel_rfl) ?_; repeat (first | go_big_quiet_skip | (go_big_quiet_want; first | ((first | refine qB ?_ | refine qC ?_); simp only [zn]; go_big_quiet_on) | (refine zq (fun w hw => j0 (jJ rc w hw) hkl he) ?_; simp only [zn]; go_big_quiet_on) | (go_big_quiet_op; first | go_big_quiet_on | go_big_quiet_call ((fail)))))
     refine wpQuiet_nil ?_; intro wn za; obtain ⟨zf, zg, B⟩ := zM B za; try replace r1 := r1.be za
     replace p1 := p1.be za
     replace u1 := u1.be za
     replace r2 := r2.be za
     replace r3 := r3.be za
     replace od := od.be za
     replace rc := rc.be za
     go_wp2; refine zt (by kernel_rfl) (by kernel_rfl) ?_; repeat (first | go_big_quiet_skip | (go_big_quiet_want; first | ((first | refine qB ?_ | refine qC ?_); simp only [zn]; go_big_quiet_on) | (refine zq (fun w hw => j0 (jJ rc w hw) hkl he) ?_; simp only [zn]; go_big_quiet_on) | (go_big_quiet_op; first | go_big_quiet_on | go_big_quiet_call ((fail)))))
     refine wpQuiet_nil ?_; intro wn za; obtain ⟨zf, zg, B⟩ := zM B za; try replace r1 := r1.be za
     replace p1 := p1.be za
     replace u1 := u1.be za
     replace r2 := r2.be za
     replace r3 := r3.be za
     replace od := od.be za
     replace rc := rc.be za
     go_wp2; refine uX 7 8 #[true, true, true, true, true, true, true, false, false, false, false] (by kernel_rfl) (by kernel_rfl) ?_; simp only [List.length_cons, List.length_nil, Nat.reduceAdd, Nat.reduceSub, List.take_succ_cons, List.take_zero]; repeat (first | go_big_quiet_skip | (go_big_quiet_want; first | ((first | refine qB ?_ | refine qC ?_); simp only [zn]; go_big_quiet_on) | (refine zq (fun w hw => xt (jJ rc w hw) hkl he) ?_; simp only [zn]; go_big_quiet_on) | (go_big_quiet_op; go_big_quiet_on)))
     refine wpQuiet_nil ?_; intro wn za; have hX := za; obtain ⟨zf, zg, B⟩ := zM B za; try replace r1 := r1.be za
     replace p1 := p1.be za
     replace u1 := u1.be za
     replace r2 := r2.be za
     replace r3 := r3.be za
     replace od := od.be za
     replace rc := rc.be za
     refine zU 7 rfl (by kernel_rfl) rfl (fun K hK => ?_); refine J2 _ rfl e (by rfl) ?_; intro b_s1 wn zb zd ht za zg; have zf := B.size; have hsx := hX.size; replace B := B.trans (za.mono (by omega)); replace hX := hX.trans (za.mono (by omega)); try replace r1 := r1.be (za.mono zb)
     replace p1 := p1.be (za.mono zb)
     replace u1 := u1.be (za.mono zb)
     replace r2 := r2.be (za.mono zb)
     replace r3 := r3.be (za.mono zb)
     replace od := od.be (za.mono zb)
     replace rc := rc.be (za.mono zb)
     have s1 := ht; clear ht; refine hK _ _ ⟨fun _ => ⟨_, zC hX⟩, ?_⟩; clear hK K; simp only [zn]; refine qT (by kernel_rfl) (by kernel_rfl) ?_; simp only [List.drop_succ_cons, List.drop_zero]; go_wp2_with (first | (refine yE rfl _ _ rfl _ rfl _ _ _ rfl r3 (xV B (by omega) ?_); clear r3 B; intro wn r3 ze zf zg B; replace r1 := r1.cg ze; replace p1 := p1.cg ze; replace u1 := u1.cg ze; replace r2 := r2.cg ze; replace rc := rc.cg ze; replace od := od.chg ze (by omega); simp only [zn]) | (at_builtin; refine qq rfl _ _ rfl _ _ rfl rfl od ((RS.one s1)) (by simp only [List.length_append, List.length_cons, List.length_nil]; omega) (by omega) ?_; intro v_od wn ht za; have zf := B.size; have zg := za.size; replace B := B.trans (za.mono (by omega)); clear od; replace r1 := r1.of_eq (za.block _ (by omega)); replace p1 := p1.of_eq (za.block _ (by omega)); replace u1 := u1.of_eq (za.block _ (by omega)); replace r2 := r2.of_eq (za.block _ (by omega)); replace r3 := r3.of_eq (za.block _ (by omega)); replace rc := rc.of_eq (za.block _ (by omega)); have od := ht; clear ht; obtain ⟨a_od, c_od, hv, hco⟩ := od.len; (try simp only [List.length_append, List.length_cons, List.length_nil, Nat.zero_add] at hv hco); subst hv; simp only [zn]) | (refine jU rfl _ rfl e (by rfl) (kn B ?_); clear B; intro b_s1 wn zb zd s1 za zf zk B; (try replace r1 := r1.be (za.mono zb)); (try replace p1 := p1.be (za.mono zb)); (try replace u1 := u1.be (za.mono zb)); (try replace r2 := r2.be (za.mono zb)); (try replace r3 := r3.be (za.mono zb)); (try replace od := od.be (za.mono zb)); (try replace rc := rc.be (za.mono zb)); simp only [zn]) | fail)
     refine zI.normal ?_; go_wp2; go_roundw
     case rel => exact ⟨k + 1, _, _, _, _, _, by omega, by go_num, rfl, by first | exact HA.out | (rw [← HA.out, List.append_assoc, List.append_assoc]; rfl) | (rw [← HA.out, List.append_assoc]; rfl) | (rw [← HA.out]; simp), by first | omega | (simp; omega), by first | rfl | simp, B, by omega, r1, p1, u1, r2, r3, od⟩
     case measure => simp [intOf]; omega
    | false =>
     cases h4 : jC x y e.x e.y with
     | true =>
      rw [h3, h4] at hacc; simp at hacc
      have HA := zo hacc; clear hacc; go_wp2_with (first | (refine zp (t := 62) rfl _ rfl _ _ _ rfl (zu r1.cell0) (by rfl) ?_; simp only [zn]) | fail)
      refine zt (by kernel_rfl) (by kernel_rfl) ?_; repeat (first | go_big_quiet_skip | (go_big_quiet_want; first | ((first | refine qB ?_ | refine qC ?_); simp only [zn]; go_big_quiet_on) | (refine zq (fun w hw => j0 (jJ rc w hw) hkl he) ?_; simp only [zn]; go_big_quiet_on) | (go_big_quiet_op; first | go_big_quiet_on | go_big_quiet_call ((first | (go_at_call 170; exact zv (wT _ _ _ _ _)))))))
      refine wpQuiet_nil ?_; intro wn za; obtain ⟨zf, zg, B⟩ := zM B za; try replace r1 := r1.be za
      replace p1 := p1.be za
      replace u1 := u1.be za
      replace r2 := r2.be za
      replace r3 := r3.be za
      replace od := od.be za
      replace rc := rc.be za
      go_wp2_with (first | (refine yE rfl _ _ rfl _ rfl _ _ _ rfl r3 (xV B (by omega) ?_); clear r3 B; intro wn r3 ze zf zg B; replace r1 := r1.cg ze; replace p1 := p1.cg ze; replace u1 := u1.cg ze; replace r2 := r2.cg ze; replace rc := rc.cg ze; replace od := od.chg ze (by omega); simp only [zn]) | (at_builtin; refine qq rfl _ _ rfl _ _ rfl rfl od ((RS.one s1)) (by simp only [List.length_cons, List.length_nil]; omega) (by omega) ?_; intro v_od wn ht za; have zf := B.size; have zg := za.size; replace B := B.trans (za.mono (by omega)); clear od; replace r1 := r1.of_eq (za.block _ (by omega)); replace p1 := p1.of_eq (za.block _ (by omega)); replace u1 := u1.of_eq (za.block _ (by omega)); replace r2 := r2.of_eq (za.block _ (by omega)); replace r3 := r3.of_eq (za.block _ (by omega)); replace rc := rc.of_eq (za.block _ (by omega)); have od := ht; clear ht; obtain ⟨a_od, c_od, hv, hco⟩ := od.len; (try simp only [List.length_append, List.length_cons, List.length_nil, Nat.zero_add] at hv hco); subst hv; simp only [zn]) | (refine jU rfl _ rfl ⟨x, y, t⟩ (by rfl) (kn B ?_); clear B; intro b_s1 wn zb zd s1 za zf zk B; replace r1 := r1.be (za.mono zb); replace p1 := p1.be (za.mono zb); replace u1 := u1.be (za.mono zb); replace r2 := r2.be (za.mono zb); replace r3 := r3.be (za.mono zb); replace od := od.be (za.mono zb); replace rc := rc.be (za.mono zb); simp only [zn]) | (refine yf rfl _ _ rfl x y t (by rfl) (by rfl) ?_; simp only [zn]) | (refine qS rfl _ rfl _ rfl u1 ?_; simp only [zn]) | (first | refine yN ?_ | refine yO ?_) | (refine zp (t := 62) rfl _ rfl _ _ _ rfl (zu r3.cell0) (by rfl) ?_; simp only [zn]) | fail)
      refine zt (by kernel_rfl) (by kernel_rfl) ?_; repeat (first | go_big_quiet_skip | (go_big_quiet_want; first | ((first | refine qB ?_ | refine qC ?_); simp only [zn]; go_big_quiet_on) | (refine zq (fun w hw => j0 (jJ rc w hw) hkl he) ?_; simp only [zn]; go_big_quiet_on) | (go_big_quiet_op; first | go_big_quiet_on | go_big_quiet_call ((fail)))))
      refine wpQuiet_nil ?_; intro wn za; obtain ⟨zf, zg, B⟩ := zM B za; try replace r1 := r1.be za
      replace p1 := p1.be za
      replace u1 := u1.be za
      replace r2 := r2.be za
      replace r3 := r3.be za
      replace od := od.be za
      replace rc := rc.be za
      go_wp2; refine uX 7 8 #[true, true, true, true, true, true, true, false, false, false, false] (by kernel_rfl) (by kernel_rfl) ?_; simp only [List.length_cons, List.length_nil, Nat.reduceAdd, Nat.reduceSub, List.take_succ_cons, List.take_zero]; repeat (first | go_big_quiet_skip | (go_big_quiet_want; first | ((first | refine qB ?_ | refine qC ?_); simp only [zn]; go_big_quiet_on) | (refine zq (fun w hw => xt (jJ rc w hw) hkl he) ?_; simp only [zn]; go_big_quiet_on) | (go_big_quiet_op; go_big_quiet_on)))
      refine wpQuiet_nil ?_; intro wn za; have hX := za; obtain ⟨zf, zg, B⟩ := zM B za; try replace r1 := r1.be za
      replace p1 := p1.be za
      replace u1 := u1.be za
      replace r2 := r2.be za
      replace r3 := r3.be za
      replace od := od.be za
      replace rc := rc.be za
      refine zU 7 rfl (by kernel_rfl) rfl (fun K hK => ?_); refine J2 _ rfl e (by rfl) ?_; intro b_s1 wn zb zd ht za zg; have zf := B.size; have hsx := hX.size; replace B := B.trans (za.mono (by omega)); replace hX := hX.trans (za.mono (by omega)); try replace r1 := r1.be (za.mono zb)
      replace p1 := p1.be (za.mono zb)
      replace u1 := u1.be (za.mono zb)
      replace r2 := r2.be (za.mono zb)
      replace r3 := r3.be (za.mono zb)
      replace od := od.be (za.mono zb)
      replace rc := rc.be (za.mono zb)
      have s1 := ht; clear ht; refine hK _ _ ⟨fun _ => ⟨_, zC hX⟩, ?_⟩; clear hK K; simp only [zn]; refine qT (by kernel_rfl) (by kernel_rfl) ?_; simp only [List.drop_succ_cons, List.drop_zero]; go_wp2_with (first | (refine yE rfl _ _ rfl _ rfl _ _ _ rfl r3 (xV B (by omega) ?_); clear r3 B; intro wn r3 ze zf zg B; replace r1 := r1.cg ze; replace p1 := p1.cg ze; replace u1 := u1.cg ze; replace r2 := r2.cg ze; replace rc := rc.cg ze; replace od := od.chg ze (by omega); simp only [zn]) | (at_builtin; refine qq rfl _ _ rfl _ _ rfl rfl od ((RS.one s1)) (by simp only [List.length_append, List.length_cons, List.length_nil]; omega) (by omega) ?_; intro v_od wn ht za; have zf := B.size; have zg := za.size; replace B := B.trans (za.mono (by omega)); clear od; replace r1 := r1.of_eq (za.block _ (by omega)); replace p1 := p1.of_eq (za.block _ (by omega)); replace u1 := u1.of_eq (za.block _ (by omega)); replace r2 := r2.of_eq (za.block _ (by omega)); replace r3 := r3.of_eq (za.block _ (by omega)); replace rc := rc.of_eq (za.block _ (by omega)); have od := ht; clear ht; obtain ⟨a_od, c_od, hv, hco⟩ := od.len; (try simp only [List.length_append, List.length_cons, List.length_nil, Nat.zero_add] at hv hco); subst hv; simp only [zn]) | (refine jU rfl _ rfl e (by rfl) (kn B ?_); clear B; intro b_s1 wn zb zd s1 za zf zk B; (try replace r1 := r1.be (za.mono zb)); (try replace p1 := p1.be (za.mono zb)); (try replace u1 := u1.be (za.mono zb)); (try replace r2 := r2.be (za.mono zb)); (try replace r3 := r3.be (za.mono zb)); (try replace od := od.be (za.mono zb)); (try replace rc := rc.be (za.mono zb)); simp only [zn]) | fail)
      refine zI.normal ?_; go_wp2; go_roundw
      case rel => exact ⟨k + 1, _, _, _, _, _, by omega, by go_num, rfl, by first | exact HA.out | (rw [← HA.out, List.append_assoc, List.append_assoc]; rfl) | (rw [← HA.out, List.append_assoc]; rfl) | (rw [← HA.out]; simp), by first | omega | (simp; omega), by first | rfl | simp, B, by omega, r1, p1, u1, r2, r3, od⟩
      case measure => simp [intOf]; omega
     | false =>
      rw [h3, h4] at hacc; simp at hacc
      have HA := zo hacc; clear hacc; go_wp2_with (first | (refine zp (t := 62) rfl _ rfl _ _ _ rfl (zu r1.cell0) (by rfl) ?_; simp only [zn]) | fail)
      refine zt (by kernel_rfl) (by kernel_rfl) ?_; repeat (first | go_big_quiet_skip | (go_big_quiet_want; first | ((first | refine qB ?_ | refine qC ?_); simp only [zn]; go_big_quiet_on) | (refine zq (fun w hw => j0 (jJ rc w hw) hkl he) ?_; simp only [zn]; go_big_quiet_on) | (go_big_quiet_op; first | go_big_quiet_on | go_big_quiet_call ((first | (go_at_call 170; exact zv (wT _ _ _ _ _)))))))
      refine wpQuiet_nil ?_; intro wn za; obtain ⟨zf, zg, B⟩ := zM B za; try replace r1 := r1.be za
      replace p1 := p1.be za
      replace u1 := u1.be za
      replace r2 := r2.be za
      replace r3 := r3.be za
      replace od := od.be za
      replace rc := rc.be za
      go_wp2; refine zt (by kernel_rfl) (by kernel_rfl) ?_; repeat (first | go_big_quiet_skip | (go_big_quiet_want; first | ((first | refine qB ?_ | refine qC ?_); simp only [zn]; go_big_quiet_on) | (refine zq (fun w hw => j0 (jJ rc w hw) hkl he) ?_; simp only [zn]; go_big_quiet_on) | (go_big_quiet_op; first | go_big_quiet_on | go_big_quiet_call ((fail)))))
      refine wpQuiet_nil ?_; intro wn za; obtain ⟨zf, zg, B⟩ := zM B za; try replace r1 := r1.be za
      replace p1 := p1.be za
      replace u1 := u1.be za
      replace r2 := r2.be za
      replace r3 := r3.be za
      replace od := od.be za
      replace rc := rc.be za
      go_wp2; refine uX 7 8 #[true, true, true, true, true, true, true, false, false, false, false] (by kernel_rfl) (by kernel_rfl) ?_; simp only [List.length_cons, List.length_nil, Nat.reduceAdd, Nat.reduceSub, List.take_succ_cons, List.take_zero]; repeat (first | go_big_quiet_skip | (go_big_quiet_want; first | ((first | refine qB ?_ | refine qC ?_); simp only [zn]; go_big_quiet_on) | (refine zq (fun w hw => xt (jJ rc w hw) hkl he) ?_; simp only [zn]; go_big_quiet_on) | (go_big_quiet_op; go_big_quiet_on)))
      refine wpQuiet_nil ?_; intro wn za; have hX := za; obtain ⟨zf, zg, B⟩ := zM B za; try replace r1 := r1.be za
      replace p1 := p1.be za
      replace u1 := u1.be za
      replace r2 := r2.be za
      replace r3 := r3.be za
      replace od := od.be za
      replace rc := rc.be za
      refine zU 7 rfl (by kernel_rfl) rfl (fun K hK => ?_); refine J2 _ rfl e (by rfl) ?_; intro b_s1 wn zb zd ht za zg; have zf := B.size; have hsx := hX.size; replace B := B.trans (za.mono (by omega)); replace hX := hX.trans (za.mono (by omega)); try replace r1 := r1.be (za.mono zb)
      replace p1 := p1.be (za.mono zb)
      replace u1 := u1.be (za.mono zb)
      replace r2 := r2.be (za.mono zb)
      replace r3 := r3.be (za.mono zb)
      replace od := od.be (za.mono zb)
      replace rc := rc.be (za.mono zb)
      have s1 := ht; clear ht; refine hK _ _ ⟨fun _ => ⟨_, zC hX⟩, ?_⟩; clear hK K; simp only [zn]; refine qT (by kernel_rfl) (by kernel_rfl) ?_; simp only [List.drop_succ_cons, List.drop_zero]; go_wp2_with (first | (refine yE rfl _ _ rfl _ rfl _ _ _ rfl r3 (xV B (by omega) ?_); clear r3 B; intro wn r3 ze zf zg B; replace r1 := r1.cg ze; replace p1 := p1.cg ze; replace u1 := u1.cg ze; replace r2 := r2.cg ze; replace od := od.chg ze (by omega); simp only [zn]) | (at_builtin; refine qq rfl _ _ rfl _ _ rfl rfl od ((RS.one s1)) (by simp only [List.length_append, List.length_cons, List.length_nil]; omega) (by omega) ?_; intro v_od wn ht za; have zf := B.size; have zg := za.size; replace B := B.trans (za.mono (by omega)); clear od; replace r1 := r1.of_eq (za.block _ (by omega)); replace p1 := p1.of_eq (za.block _ (by omega)); replace u1 := u1.of_eq (za.block _ (by omega)); replace r2 := r2.of_eq (za.block _ (by omega)); replace r3 := r3.of_eq (za.block _ (by omega)); have od := ht; clear ht; obtain ⟨a_od, c_od, hv, hco⟩ := od.len; (try simp only [List.length_append, List.length_cons, List.length_nil, Nat.zero_add] at hv hco); subst hv; simp only [zn]) | (refine jU rfl _ rfl e (by rfl) (kn B ?_); clear B; intro b_s1 wn zb zd s1 za zf zk B; (try replace r1 := r1.be (za.mono zb)); (try replace p1 := p1.be (za.mono zb)); (try replace u1 := u1.be (za.mono zb)); (try replace r2 := r2.be (za.mono zb)); (try replace r3 := r3.be (za.mono zb)); (try replace od := od.be (za.mono zb)); simp only [zn]) | fail)
      refine zI.normal ?_; go_wp2; go_roundw
      case rel => exact ⟨k + 1, _, _, _, _, _, by omega, by go_num, rfl, by first | exact HA.out | (rw [← HA.out, List.append_assoc, List.append_assoc]; rfl) | (rw [← HA.out, List.append_assoc]; rfl) | (rw [← HA.out]; simp), by first | omega | (simp; omega), by first | rfl | simp, B, by omega, r1, p1, u1, r2, r3, od⟩
      case measure => simp [intOf]; omega
  ·obtain rfl : k = ls.length := by omega
   rw [List.drop_length] at hacc; unfold y8 at hacc; cases dd with
   | true =>
    simp at hacc
    have HA := zo hacc; clear hacc; go_wp2_with (first | (refine qZ r2 B ?_; clear r2 B; intro wn r2 ze zf zg B; replace r1 := r1.cg ze; replace p1 := p1.cg ze; replace u1 := u1.cg ze; replace r3 := r3.cg ze; replace od := od.chg ze (by omega)) | (first | refine yN ?_ | refine yO ?_) | (refine zp (t := 62) rfl _ rfl _ _ _ rfl (zu r1.cell0) (by rfl) ?_; simp only [zn]) | fail)
    refine qO r2 ?_; exact ⟨_, rfl, by rw [← HA.out]; exact od.rs, B⟩
   | false =>
    simp at hacc
    have HA := zo hacc; clear hacc; go_wp2_with (first | (refine qZ r2 B ?_; clear r2 B; intro wn r2 ze zf zg B; replace r1 := r1.cg ze; replace p1 := p1.cg ze; replace u1 := u1.cg ze; replace r3 := r3.cg ze; replace od := od.chg ze (by omega)) | (first | refine yN ?_ | refine yO ?_) | (refine yE rfl _ _ rfl _ rfl _ _ _ rfl r3 (xV B (by omega) ?_); clear r3 B; intro wn r3 ze zf zg B; replace r1 := r1.cg ze; replace p1 := p1.cg ze; replace u1 := u1.cg ze; replace r2 := r2.cg ze; replace od := od.chg ze (by omega); simp only [zn]) | (at_builtin; refine qq rfl _ _ rfl _ _ rfl rfl od ((RS.one s1)) (by simp only [List.length_cons, List.length_nil]; omega) (by omega) ?_; intro v_od wn ht za; have zf := B.size; have zg := za.size; replace B := B.trans (za.mono (by omega)); clear od; replace r1 := r1.of_eq (za.block _ (by omega)); replace p1 := p1.of_eq (za.block _ (by omega)); replace u1 := u1.of_eq (za.block _ (by omega)); replace r2 := r2.of_eq (za.block _ (by omega)); replace r3 := r3.of_eq (za.block _ (by omega)); have od := ht; clear ht; obtain ⟨a_od, c_od, hv, hco⟩ := od.len; (try simp only [List.length_append, List.length_cons, List.length_nil, Nat.zero_add] at hv hco); subst hv; simp only [zn]) | (refine jU rfl _ rfl ⟨x, y, t⟩ (by rfl) (kn B ?_); clear B; intro b_s1 wn zb zd s1 za zf zk B; replace r1 := r1.be (za.mono zb); replace p1 := p1.be (za.mono zb); replace u1 := u1.be (za.mono zb); replace r2 := r2.be (za.mono zb); replace r3 := r3.be (za.mono zb); replace od := od.be (za.mono zb); simp only [zn]) | (refine yf rfl _ _ rfl x y t (by rfl) (by rfl) ?_; simp only [zn]) | (refine qS rfl _ rfl _ rfl u1 ?_; simp only [zn]) | (refine zp (t := 62) rfl _ rfl _ _ _ rfl (zu r3.cell0) (by rfl) ?_; simp only [zn]) | (refine zp (t := 62) rfl _ rfl _ _ _ rfl (zu r1.cell0) (by rfl) ?_; simp only [zn]) | fail)
    refine qO r2 ?_; exact ⟨_, rfl, by rw [← HA.out]; exact od.rs, B⟩
end Go.Proofs.YtepelndbbhdofaaGreatDoor
