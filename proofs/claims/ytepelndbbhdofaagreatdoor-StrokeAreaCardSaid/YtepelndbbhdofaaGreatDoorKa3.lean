import Derived.Test.YtepelndbbhdofaaGreatDoorKa2
import Derived.Deep.CutBlock
import Derived.Deep.DeepCutAuto
import Derived.Laws.MakeOwn
import Derived.Deep.MidRow
import Derived.Deep.Upon
import Derived.OrdersIn
import Derived.Sort.CutIn

/- Contracts of the reference's Get, Put, Set; of equal, Equal. -/
namespace Go.Proofs.YtepelndbbhdofaaGreatDoor
open Go.RowKit Go.Shelf Pl
set_option linter.unusedVariables false
set_option linter.unusedSimpArgs false
set_option maxRecDepth 20000
section
variable {o : Oper} {a : Act} {w : World} {Q : Exit → Act → World → Prop} {K : Act → World → Prop}
theorem ws (ho : o.op = .alloc 123)
  (h : ∀ b w', w.heap.size ≤ b → b ≤ w.heap.size → zX w' b (fun _ => Px.zero) → Below b w w' → w'.heap.size = b + 1 → K (a.put o.dst (.pointer (some ⟨b, 0, none⟩))) w') : o.wp Tryz.prog a w K Q := by
 unfold Oper.wp
 rw [wA w o ho]
 exact h _ _ (Nat.le_refl _) (Nat.le_refl _) (by unfold zX; rw [zO, if_pos rfl]) ((Below.refl _ _).alloc (Nat.le_refl _) _) (World.size_alloc _ _)
theorem zQ {t : TypeId} (cs : Array Value) (hrun : ∀ ev, (execOp ev o).run Tryz.prog w = .ok (.value (.pointer (some ⟨w.heap.size, 0, none⟩))) (w.alloc (.cells cs t)))
  (h : ∀ b w', w.heap.size ≤ b → b ≤ w.heap.size → zK t w' b cs → Below b w w' → w'.heap.size = b + 1 → K (a.put o.dst (.pointer (some ⟨b, 0, none⟩))) w') : o.wp Tryz.prog a w K Q := by
 unfold Oper.wp
 rw [hrun]
 exact h _ _ (Nat.le_refl _) (Nat.le_refl _) (by unfold zK; rw [zO, if_pos rfl]) ((Below.refl _ _).alloc (Nat.le_refl _) _) (World.size_alloc _ _)
end
set_option maxHeartbeats 1000000 in
theorem zfy (v : Value) (ls : List TA) (x y : Int) (t : Nat → Px) (w : World) (h : RS v ls w) (tk : qN ls) (hn : ls.length ≤ maxLen) (ht : Zr t) : Calls Tryz.prog 116 #[.agg #[v], .agg #[.int .i64 x, .int .i64 y], Tile.v t] w fun e w' => ∃ v', e = .returned (.agg #[v', .int .i64 (XZ ls x y t)]) ∧ RS v' (ud ls x y t) w' ∧ Below w.heap.size w w' := by
 have B := Below.refl w.heap.size w
 obtain ⟨a', c', hT⟩ := zgq v ls w h tk hn
 have HT := Lib.hid hT
 clear hT
 obtain ⟨a, c, rfl, hc⟩ := h.len
 cases hw : z8 x y with
 | false =>
  have e1 : XZ ls x y t = 1 := by unfold XZ; rw [hw]; rfl
  have e2 : ud ls x y t = [] := by unfold ud; rw [hw]; rfl
  rw [e1, e2]; clear e1 e2; go_enter Tryz.func116, Tryz.ntmps116
  go_wp2_with (first | (refine zq (t := 82) rfl _ _ rfl _ rfl _ rfl g2 (by kernel_rfl) rfl (by simp [Value.oneCell']) (qG B (by omega) ?_); clear g2 B; intro wn g2 ze zf zg B; (try replace r1 := r1.of_eq (ze.block _ r1.lt (by omega))); (try replace p1 := p1.of_eq (ze.block _ p1.lt (by omega))); (try replace u1 := u1.of_eq (ze.block _ u1.lt (by omega))); simp only [zo]) | (go_at_call 157; refine (yp x y _).mono ?_; rintro e wn ⟨rfl, za⟩; have zf := B.size; have zg := za.size; replace B := B.trans (za.mono B.size); (try replace r1 := r1.below za); (try replace p1 := p1.below za); (try replace u1 := u1.below za); (try replace g2 := g2.below za)) | (refine zp (t := 95) rfl _ rfl _ _ _ rfl (zv p1 Tryz.isAgg95 (by kernel_rfl)) (by rfl) ?_; simp only [zo]) | (have _ := u1; refine zr (t := 82) rfl _ (jH _ _ rfl) (zY B ?_); clear B; intro b_g2 wn zb zd g2 za zf zk B; (try have zh := r1.lt); (try replace r1 := r1.below (za.mono zb)); (try have zh := p1.lt); (try replace p1 := p1.below (za.mono zb)); (try have zh := u1.lt); (try replace u1 := u1.below (za.mono zb)); (try have zh := g2.lt); (try replace g2 := g2.below (za.mono zb)); simp only [zo]) | (have _ := p1; refine jt rfl _ rfl _ rfl (zY B ?_); clear B; intro b_u1 wn zb zd u1 za zf zk B; (try have zh := r1.lt); (try replace r1 := r1.below (za.mono zb)); (try have zh := p1.lt); (try replace p1 := p1.below (za.mono zb)); (try have zh := u1.lt); (try replace u1 := u1.below (za.mono zb)); (try have zh := g2.lt); (try replace g2 := g2.below (za.mono zb)); simp only [zo]) | (have _ := r1; refine zt (t := 95) rfl _ rfl _ rfl (zY B ?_); clear B; intro b_p1 wn zb zd p1 za zf zk B; (try have zh := r1.lt); (try replace r1 := r1.below (za.mono zb)); (try have zh := p1.lt); (try replace p1 := p1.below (za.mono zb)); (try have zh := u1.lt); (try replace u1 := u1.below (za.mono zb)); (try have zh := g2.lt); (try replace g2 := g2.below (za.mono zb)); simp only [zo]) | (refine zt (t := 64) rfl _ rfl _ rfl (zY B ?_); clear B; intro b_r1 wn zb zd r1 za zf zk B; (try have zh := r1.lt); (try replace r1 := r1.below (za.mono zb)); (try have zh := p1.lt); (try replace p1 := p1.below (za.mono zb)); (try have zh := u1.lt); (try replace u1 := u1.below (za.mono zb)); (try have zh := g2.lt); (try replace g2 := g2.below (za.mono zb)); simp only [zo]) | fail)
  refine bodyPost_ret (zz (t := 82) rfl _ _ (b_g2) rfl g2 Tryz.isAgg82 (by kernel_rfl)) rfl ?_; exact ⟨_, rfl, RS.nil _, B⟩
 | true =>
  have SR := Lib.hid (jC (jG ls)); have CT : Hid (Zr (qF t)) := Lib.hid (fun i hi => wO (ht i hi)); have hfl := yt ls; have hpl := wu (qc ls) x y (qF t); by_cases hm : (xS (qc ls) x y (qF t)).length ≤ 1024
  ·have e1 : XZ ls x y t = 0 := by unfold XZ kx; rw [hw, if_pos rfl, if_pos hm]
   have e2 := Lib.hid (show ud ls x y t = xS (qc ls) x y (qF t) by unfold ud xQ; rw [hw, if_pos rfl, if_pos hm])
   rw [e1]; clear e1; go_enter Tryz.func116, Tryz.ntmps116
   go_wp2_with (first | (go_at_call 157; refine (yp x y _).mono ?_; rintro e wn ⟨rfl, za⟩; have zf := B.size; have zg := za.size; replace B := B.trans (za.mono B.size); (try replace r1 := r1.below za); (try replace p1 := p1.below za); (try replace u1 := u1.below za); (try replace g2 := g2.below za)) | (refine zp (t := 95) rfl _ rfl _ _ _ rfl (zv p1 Tryz.isAgg95 (by kernel_rfl)) (by rfl) ?_; simp only [zo]) | (have _ := u1; refine zr (t := 82) rfl _ (jH _ _ rfl) (zY B ?_); clear B; intro b_g2 wn zb zd g2 za zf zk B; (try have zh := r1.lt); (try replace r1 := r1.below (za.mono zb)); (try have zh := p1.lt); (try replace p1 := p1.below (za.mono zb)); (try have zh := u1.lt); (try replace u1 := u1.below (za.mono zb)); (try have zh := g2.lt); (try replace g2 := g2.below (za.mono zb)); simp only [zo]) | (have _ := p1; refine jt rfl _ rfl _ rfl (zY B ?_); clear B; intro b_u1 wn zb zd u1 za zf zk B; (try have zh := r1.lt); (try replace r1 := r1.below (za.mono zb)); (try have zh := p1.lt); (try replace p1 := p1.below (za.mono zb)); (try have zh := u1.lt); (try replace u1 := u1.below (za.mono zb)); (try have zh := g2.lt); (try replace g2 := g2.below (za.mono zb)); simp only [zo]) | (have _ := r1; refine zt (t := 95) rfl _ rfl _ rfl (zY B ?_); clear B; intro b_p1 wn zb zd p1 za zf zk B; (try have zh := r1.lt); (try replace r1 := r1.below (za.mono zb)); (try have zh := p1.lt); (try replace p1 := p1.below (za.mono zb)); (try have zh := u1.lt); (try replace u1 := u1.below (za.mono zb)); (try have zh := g2.lt); (try replace g2 := g2.below (za.mono zb)); simp only [zo]) | (refine zt (t := 64) rfl _ rfl _ rfl (zY B ?_); clear B; intro b_r1 wn zb zd r1 za zf zk B; (try have zh := r1.lt); (try replace r1 := r1.below (za.mono zb)); (try have zh := p1.lt); (try replace p1 := p1.below (za.mono zb)); (try have zh := u1.lt); (try replace u1 := u1.below (za.mono zb)); (try have zh := g2.lt); (try replace g2 := g2.below (za.mono zb)); simp only [zo]) | fail)
   refine qZ 4 (by kernel_rfl) (by kernel_rfl) ?_; simp only [List.take_succ_cons, List.take_zero, List.drop_succ_cons, List.drop_zero]; repeat (first | go_big_quiet_skip | (go_big_quiet_want; first | (refine zn (t := 64) rfl _ _ _ rfl (fun w hw => zv (zB r1 w hw) Tryz.isAgg64 (by kernel_rfl)) (by rfl) ?_; simp only [zo]; go_big_quiet_on) | (refine zn (t := 95) rfl _ _ _ rfl (fun w hw => zv (zB p1 w hw) Tryz.isAgg95 (by kernel_rfl)) (by rfl) ?_; simp only [zo]; go_big_quiet_on) | (refine jU rfl _ rfl (xO u1) ?_; simp only [zo]; go_big_quiet_on) | (go_big_quiet_op; first | go_big_quiet_on | go_big_quiet_call ((first | (go_at_call 92; exact zC (HT.out _ (QK B B.size _)).1))))))
   refine wpQuiet_nil ?_; intro wn za; have zf := B.size; have zg := za.size; replace B := B.trans (za.mono B.size); try replace r1 := r1.below za
   try replace p1 := p1.below za
   try replace u1 := u1.below za
   try replace g2 := g2.below za
   go_wp2_with (first | (refine zq (t := 82) rfl _ _ rfl _ rfl _ rfl g2 (by kernel_rfl) rfl (by simp [Value.oneCell']) (qG B (by omega) ?_); have g2o := g2; clear g2 B; intro wn g2 ze zf zg B; replace rs1 := rs1.chg g2o (by simp) ze; (try replace r1 := r1.of_eq (ze.block _ r1.lt (by omega))); (try replace p1 := p1.of_eq (ze.block _ p1.lt (by omega))); (try replace u1 := u1.of_eq (ze.block _ u1.lt (by omega))); simp only [zo]) | (go_at_call 152; refine (zb6 _ _ _ _ (by unfold maxLen; omega)).mono ?_; rintro e wn ⟨rfl, za⟩; rw [if_pos hm]; have zf := B.size; have zg := za.size; replace B := B.trans (za.mono B.size); (try replace r1 := r1.below za); (try replace p1 := p1.below za); (try replace u1 := u1.below za); (try replace g2 := g2.below za); (try replace rs1 := rs1.below za)) | (go_at_call 151; refine (zfb _ (qc ls) x y t (qF t) _ (HT.out _ B).2 SR.out ht rfl (by omega)).mono ?_; rintro e wn ⟨v1, rfl, rs1, za⟩; obtain ⟨a1, c1, rfl, hc1⟩ := rs1.len; have zf := B.size; have zg := za.size; replace B := B.trans (za.mono B.size); (try replace r1 := r1.below za); (try replace p1 := p1.below za); (try replace u1 := u1.below za); (try replace g2 := g2.below za)) | fail)
   refine bodyPost_ret (zz (t := 82) rfl _ _ (b_g2) rfl g2 Tryz.isAgg82 (by kernel_rfl)) rfl ?_; exact ⟨_, rfl, by rw [e2.out]; exact rs1, B⟩
  ·have e1 : XZ ls x y t = 2 := by unfold XZ kx; rw [hw, if_pos rfl, if_neg hm]
   have e2 := Lib.hid (show ud ls x y t = [] by unfold ud xQ; rw [hw, if_pos rfl, if_neg hm])
   rw [e1]; clear e1; go_enter Tryz.func116, Tryz.ntmps116
   go_wp2_with (first | (go_at_call 157; refine (yp x y _).mono ?_; rintro e wn ⟨rfl, za⟩; have zf := B.size; have zg := za.size; replace B := B.trans (za.mono B.size); (try replace r1 := r1.below za); (try replace p1 := p1.below za); (try replace u1 := u1.below za); (try replace g2 := g2.below za)) | (refine zp (t := 95) rfl _ rfl _ _ _ rfl (zv p1 Tryz.isAgg95 (by kernel_rfl)) (by rfl) ?_; simp only [zo]) | (have _ := u1; refine zr (t := 82) rfl _ (jH _ _ rfl) (zY B ?_); clear B; intro b_g2 wn zb zd g2 za zf zk B; (try have zh := r1.lt); (try replace r1 := r1.below (za.mono zb)); (try have zh := p1.lt); (try replace p1 := p1.below (za.mono zb)); (try have zh := u1.lt); (try replace u1 := u1.below (za.mono zb)); (try have zh := g2.lt); (try replace g2 := g2.below (za.mono zb)); simp only [zo]) | (have _ := p1; refine jt rfl _ rfl _ rfl (zY B ?_); clear B; intro b_u1 wn zb zd u1 za zf zk B; (try have zh := r1.lt); (try replace r1 := r1.below (za.mono zb)); (try have zh := p1.lt); (try replace p1 := p1.below (za.mono zb)); (try have zh := u1.lt); (try replace u1 := u1.below (za.mono zb)); (try have zh := g2.lt); (try replace g2 := g2.below (za.mono zb)); simp only [zo]) | (have _ := r1; refine zt (t := 95) rfl _ rfl _ rfl (zY B ?_); clear B; intro b_p1 wn zb zd p1 za zf zk B; (try have zh := r1.lt); (try replace r1 := r1.below (za.mono zb)); (try have zh := p1.lt); (try replace p1 := p1.below (za.mono zb)); (try have zh := u1.lt); (try replace u1 := u1.below (za.mono zb)); (try have zh := g2.lt); (try replace g2 := g2.below (za.mono zb)); simp only [zo]) | (refine zt (t := 64) rfl _ rfl _ rfl (zY B ?_); clear B; intro b_r1 wn zb zd r1 za zf zk B; (try have zh := r1.lt); (try replace r1 := r1.below (za.mono zb)); (try have zh := p1.lt); (try replace p1 := p1.below (za.mono zb)); (try have zh := u1.lt); (try replace u1 := u1.below (za.mono zb)); (try have zh := g2.lt); (try replace g2 := g2.below (za.mono zb)); simp only [zo]) | fail)
   refine qZ 4 (by kernel_rfl) (by kernel_rfl) ?_; simp only [List.take_succ_cons, List.take_zero, List.drop_succ_cons, List.drop_zero]; repeat (first | go_big_quiet_skip | (go_big_quiet_want; first | (refine zn (t := 64) rfl _ _ _ rfl (fun w hw => zv (zB r1 w hw) Tryz.isAgg64 (by kernel_rfl)) (by rfl) ?_; simp only [zo]; go_big_quiet_on) | (refine zn (t := 95) rfl _ _ _ rfl (fun w hw => zv (zB p1 w hw) Tryz.isAgg95 (by kernel_rfl)) (by rfl) ?_; simp only [zo]; go_big_quiet_on) | (refine jU rfl _ rfl (xO u1) ?_; simp only [zo]; go_big_quiet_on) | (go_big_quiet_op; first | go_big_quiet_on | go_big_quiet_call ((first | (go_at_call 92; exact zC (HT.out _ (QK B B.size _)).1))))))
   refine wpQuiet_nil ?_; intro wn za; have zf := B.size; have zg := za.size; replace B := B.trans (za.mono B.size); try replace g2 := g2.below za
   go_wp2_with (first | (refine zq (t := 82) rfl _ _ rfl _ rfl _ rfl g2 (by kernel_rfl) rfl (by simp [Value.oneCell']) (qG B (by omega) ?_); have g2o := g2; clear g2 B; intro wn g2 ze zf zg B; replace rs1 := rs1.chg g2o (by simp) ze; simp only [zo]) | (go_at_call 152; refine (zb6 _ _ _ _ (by unfold maxLen; omega)).mono ?_; rintro e wn ⟨rfl, za⟩; rw [if_neg hm]; have zf := B.size; have zg := za.size; replace B := B.trans (za.mono B.size); (try replace g2 := g2.below za); (try replace rs1 := rs1.below za)) | (go_at_call 151; refine (zfb _ (qc ls) x y t (qF t) _ (HT.out _ B).2 SR.out ht rfl (by omega)).mono ?_; rintro e wn ⟨v1, rfl, rs1, za⟩; obtain ⟨a1, c1, rfl, hc1⟩ := rs1.len; have zf := B.size; have zg := za.size; replace B := B.trans (za.mono B.size); (try replace g2 := g2.below za)) | fail)
   refine bodyPost_ret (zz (t := 82) rfl _ _ (b_g2) rfl g2 Tryz.isAgg82 (by kernel_rfl)) rfl ?_; exact ⟨_, rfl, by rw [e2.out]; exact RS.nil _, B⟩
set_option maxHeartbeats 2000000 in
theorem XB (v : Value) (ls : List TA) (x y : Int) (p : Px) (w : World) (h : RS v ls w) (tk : qN ls) (hn : ls.length ≤ maxLen) (hx : (Lit.int .i64 x).wf = true) (hy : (Lit.int .i64 y).wf = true) (hp : p.ok) : Calls Tryz.prog 70 #[.agg #[v], .int .i64 x, .int .i64 y, Px.v p] w fun e w' => ∃ v', e = .returned (.agg #[v', .int .i64 (zdq ls x y p)]) ∧ RS v' (KU ls x y p) w' ∧ Below w.heap.size w w' := by
 have B := Below.refl w.heap.size w
 obtain ⟨a', c', hT⟩ := zgq v ls w h tk hn
 have HT := Lib.hid hT
 clear hT
 obtain ⟨a, c, rfl, hc⟩ := h.len
 have HS := Lib.hid h
 have TK := Lib.hid tk
 have hfl : (qc ls).length ≤ maxLen := by have := zcs ls; omega
 obtain ⟨l1, l2⟩ := zfm hx
 obtain ⟨l3, l4⟩ := zfm hy
 obtain ⟨q, hq⟩ : ∃ q, q = x / 8 := ⟨_, rfl⟩
 obtain ⟨q', hq'⟩ : ∃ q, q = y / 8 := ⟨_, rfl⟩
 have KK : Hid (Zr (ZI (zU (qc ls) q q') (x % 8) (y % 8) p)) := Lib.hid (by rw [hq, hq']; exact KV tk hp)
 have e1 := Lib.hid (show zdq ls x y p = XZ ls q q' (ZI (zU (qc ls) q q') (x % 8) (y % 8) p) from by rw [hq, hq']; rfl)
 have e2 := Lib.hid (show KU ls x y p = ud ls q q' (ZI (zU (qc ls) q q') (x % 8) (y % 8) p) from by rw [hq, hq']; rfl)
 have hAt : ∀ w, Calls Tryz.prog 114 #[.int .i64 x, .int .i64 y] w fun e w' => e = .returned (Ps.v q q') ∧ Below w.heap.size w w' := fun w => by rw [hq, hq']; exact zhe x y w hx hy
 have AT := Lib.hid hAt
 have f1 : x - 8 * q = x % 8 := by omega
 have f2 : y - 8 * q' = y % 8 := by omega
 have b1 : -9223372036854775808 ≤ 8 * q := by omega
 have b2 : 8 * q ≤ 9223372036854775807 := by omega
 have b3 : -9223372036854775808 ≤ 8 * q' := by omega
 have b4 : 8 * q' ≤ 9223372036854775807 := by omega
 clear hAt hq hq' hx hy tk h
 go_enter Tryz.func70, Tryz.ntmps70
 go_upto_region 2 with (first | (refine zp (t := 95) rfl _ rfl _ _ _ rfl (zv p2 Tryz.isAgg95 (by kernel_rfl)) (by rfl) ?_; simp only [zo]) | (refine zq (t := 95) rfl _ _ rfl _ rfl _ rfl p2 (by kernel_rfl) rfl (by simp [Value.oneCell']) (qG B (by omega) ?_); clear p2 B; intro wn p2 ze zf zg B; (try replace r1 := r1.of_eq (ze.block _ r1.lt (by omega))); (try replace q1 := q1.of_eq (ze.block _ q1.lt (by omega))); (try replace g2 := g2.of_eq (ze.block _ g2.lt (by omega))); (try replace u2 := u2.of_eq (ze.block _ u2.lt (by omega))); simp only [zo]) | (have _ := g2; refine zr (t := 95) rfl _ (z6 _ _ rfl) (zY B ?_); clear B; intro b_p2 wn zb zd p2 za zf zk B; (try have zh := r1.lt); (try replace r1 := r1.below (za.mono zb)); (try have zh := q1.lt); (try replace q1 := q1.below (za.mono zb)); (try have zh := g2.lt); (try replace g2 := g2.below (za.mono zb)); (try have zh := p2.lt); (try replace p2 := p2.below (za.mono zb)); (try have zh := u2.lt); (try replace u2 := u2.below (za.mono zb)); simp only [zo]) | (go_at_call 114; refine (AT.out _).mono ?_; rintro e wn ⟨rfl, za⟩; have zf := B.size; have zg := za.size; replace B := B.trans (za.mono B.size); (try replace r1 := r1.below za); (try replace q1 := q1.below za); (try replace g2 := g2.below za); (try replace p2 := p2.below za); (try replace u2 := u2.below za)) | (have _ := q1; refine zr (t := 82) rfl _ (jH _ _ rfl) (zY B ?_); clear B; intro b_g2 wn zb zd g2 za zf zk B; (try have zh := r1.lt); (try replace r1 := r1.below (za.mono zb)); (try have zh := q1.lt); (try replace q1 := q1.below (za.mono zb)); (try have zh := g2.lt); (try replace g2 := g2.below (za.mono zb)); (try have zh := p2.lt); (try replace p2 := p2.below (za.mono zb)); (try have zh := u2.lt); (try replace u2 := u2.below (za.mono zb)); simp only [zo]) | (have _ := r1; refine x3 rfl _ rfl _ rfl (zY B ?_); clear B; intro b_q1 wn zb zd q1 za zf zk B; (try have zh := r1.lt); (try replace r1 := r1.below (za.mono zb)); (try have zh := q1.lt); (try replace q1 := q1.below (za.mono zb)); (try have zh := g2.lt); (try replace g2 := g2.below (za.mono zb)); (try have zh := p2.lt); (try replace p2 := p2.below (za.mono zb)); (try have zh := u2.lt); (try replace u2 := u2.below (za.mono zb)); simp only [zo]) | (refine zt (t := 64) rfl _ rfl _ rfl (zY B ?_); clear B; intro b_r1 wn zb zd r1 za zf zk B; (try have zh := r1.lt); (try replace r1 := r1.below (za.mono zb)); (try have zh := q1.lt); (try replace q1 := q1.below (za.mono zb)); (try have zh := g2.lt); (try replace g2 := g2.below (za.mono zb)); (try have zh := p2.lt); (try replace p2 := p2.below (za.mono zb)); (try have zh := u2.lt); (try replace u2 := u2.below (za.mono zb)); simp only [zo]) | fail)
 have hp2 := p2.lt
 go_cut [10] from 14 to 17 (fun s wx => ∃ b, s = .pointer (some ⟨b, 0, none⟩) ∧ zX wx b (zU (qc ls) q q') ∧ Below w.heap.size w wx ∧ b_p2 < b ∧ zK 64 wx b_r1 #[.slice a ls.length c] ∧ jF wx b_q1 p ∧ zK 82 wx b_g2 #[.slice none 0 0, .int .i64 0] ∧ zK 95 wx b_p2 #[.int .i64 q, .int .i64 q'])
 case first =>
  try have r1B := r1
  try have q1B := q1
  try have g2B := g2
  try have p2B := p2
  try have u2B := u2
  refine yG 5 #[false, false, false, false, false, false] (by kernel_rfl) (by kernel_rfl) ?_; intro wn za; have hX := za; have zf := B.size; have zg := za.size; replace B := B.trans (za.mono B.size); try replace r1 := r1.below za
  try replace q1 := q1.below za
  try replace g2 := g2.below za
  try replace p2 := p2.below za
  try replace u2 := u2.below za
  simp only [List.length_cons, List.length_nil, Nat.reduceAdd]; refine z1 0 rfl (by kernel_rfl) ⟨_, zG hX⟩ ?_; intro K hK; try simp only [zM]
  (first | (refine zn (t := 64) rfl _ _ _ rfl (fun w hw => zv (zB r1B w hw) Tryz.isAgg64 (by kernel_rfl)) (by rfl) ?_; simp only [zo]; go_big_quiet_on) | (refine zn (t := 95) rfl _ _ _ rfl (fun w hw => zv (zB p2B w hw) Tryz.isAgg95 (by kernel_rfl)) (by rfl) ?_; simp only [zo]; go_big_quiet_on) | (go_big_quiet_op; go_big_quiet_on))
  simp only [zo]; refine z1 2 rfl (by kernel_rfl) ⟨_, zG hX⟩ ?_; intro K hK; try simp only [zM]
  (first | (refine zn (t := 64) rfl _ _ _ rfl (fun w hw => zv (zB r1B w hw) Tryz.isAgg64 (by kernel_rfl)) (by rfl) ?_; simp only [zo]; go_big_quiet_on) | (refine zn (t := 95) rfl _ _ _ rfl (fun w hw => zv (zB p2B w hw) Tryz.isAgg95 (by kernel_rfl)) (by rfl) ?_; simp only [zo]; go_big_quiet_on) | (go_big_quiet_op; go_big_quiet_on))
  simp only [zo]; refine jK 1 4 rfl rfl (by kernel_rfl) rfl rfl (fun K hK => ?_) (fun K hK => ?_)
  ·skip
   go_simp
   go_at_call 92
   refine ((HT.out _ B).1).mono ?_; rintro e wn ⟨rfl, za⟩; have zf := B.size; have zg := za.size; have hsx := hX.size; replace B := B.trans (za.mono B.size); replace hX := hX.trans (za.mono hX.size); try replace r1 := r1.below za
   try replace q1 := q1.below za
   try replace g2 := g2.below za
   try replace p2 := p2.below za
   try replace u2 := u2.below za
   refine hK _ _ ⟨fun _ => ⟨_, zG hX⟩, ?_⟩; clear hK K; simp only [zo]; refine jK 3 4 rfl rfl (by kernel_rfl) rfl rfl (fun K hK => ?_) (fun K hK => ?_)
   ·skip
    go_simp
    go_at_call 115
    refine (Vt _ (qc ls) q q' _ (HT.out _ B).2 hfl).mono ?_; rintro e wn ⟨rfl, za⟩; have zf := B.size; have zg := za.size; have hsx := hX.size; replace B := B.trans (za.mono B.size); replace hX := hX.trans (za.mono hX.size); try replace r1 := r1.below za
    try replace q1 := q1.below za
    try replace g2 := g2.below za
    try replace p2 := p2.below za
    try replace u2 := u2.below za
    refine hK _ _ ⟨fun _ => ⟨_, zG hX⟩, ?_⟩; clear hK K; simp only [zo]; refine zR 4 rfl (by kernel_rfl) rfl (fun K hK => ?_); refine ws rfl ?_; intro b_u2 wn zb zd ht za zg; have zf := B.size; have hsx := hX.size; replace B := B.trans (za.mono (by omega)); replace hX := hX.trans (za.mono (by omega)); try replace r1 := r1.below (za.mono zb)
    try replace q1 := q1.below (za.mono zb)
    try replace g2 := g2.below (za.mono zb)
    try replace p2 := p2.below (za.mono zb)
    try replace u2 := u2.below (za.mono zb)
    have u2 := ht; clear ht; refine hK _ _ ⟨fun _ => ⟨_, zG hX⟩, ?_⟩; clear hK K; simp only [zo]; refine qE (by kernel_rfl) (by kernel_rfl) ?_; simp only [List.drop_succ_cons, List.drop_zero]; go_wp2_with (first | (refine qH rfl _ _ rfl _ rfl _ rfl u2 (qG B (by omega) ?_); clear u2 B; intro wn u2 ze zf zg B; (try replace r1 := r1.of_eq (ze.block _ r1.lt (by omega))); (try replace q1 := q1.of_eq (ze.block _ q1.lt (by omega))); (try replace g2 := g2.of_eq (ze.block _ g2.lt (by omega))); (try replace p2 := p2.of_eq (ze.block _ p2.lt (by omega))); simp only [zo]) | fail)
    refine zL.normal ?_; go_wp2_with fail
    go_meet; exact ⟨_, rfl, u2, B, by omega, r1, q1, g2, p2⟩
   ·skip
    refine ws rfl ?_; intro b_u2 wn zb zd ht za zg; have zf := B.size; have hsx := hX.size; replace B := B.trans (za.mono (by omega)); replace hX := hX.trans (za.mono (by omega)); try replace r1 := r1.below (za.mono zb)
    try replace q1 := q1.below (za.mono zb)
    try replace g2 := g2.below (za.mono zb)
    try replace p2 := p2.below (za.mono zb)
    try replace u2 := u2.below (za.mono zb)
    have u2 := ht; clear ht; refine hK _ _ ⟨fun _ => ⟨_, zG hX⟩, ?_⟩; clear hK K; simp only [zo]; refine zR 3 rfl (by kernel_rfl) rfl (fun K hK => ?_); go_simp
    go_at_call 115
    refine (Vt _ (qc ls) q q' _ (HT.out _ B).2 hfl).mono ?_; rintro e wn ⟨rfl, za⟩; have zf := B.size; have zg := za.size; have hsx := hX.size; replace B := B.trans (za.mono B.size); replace hX := hX.trans (za.mono hX.size); try replace r1 := r1.below za
    try replace q1 := q1.below za
    try replace g2 := g2.below za
    try replace p2 := p2.below za
    try replace u2 := u2.below za
    refine hK _ _ ⟨fun _ => ⟨_, zG hX⟩, ?_⟩; clear hK K; simp only [zo]; refine qE (by kernel_rfl) (by kernel_rfl) ?_; simp only [List.drop_succ_cons, List.drop_zero]; go_wp2_with (first | (refine qH rfl _ _ rfl _ rfl _ rfl u2 (qG B (by omega) ?_); clear u2 B; intro wn u2 ze zf zg B; (try replace r1 := r1.of_eq (ze.block _ r1.lt (by omega))); (try replace q1 := q1.of_eq (ze.block _ q1.lt (by omega))); (try replace g2 := g2.of_eq (ze.block _ g2.lt (by omega))); (try replace p2 := p2.of_eq (ze.block _ p2.lt (by omega))); simp only [zo]) | fail)
    refine zL.normal ?_; go_wp2_with fail
    go_meet; exact ⟨_, rfl, u2, B, by omega, r1, q1, g2, p2⟩
  ·skip
   refine ws rfl ?_; intro b_u2 wn zb zd ht za zg; have zf := B.size; have hsx := hX.size; replace B := B.trans (za.mono (by omega)); replace hX := hX.trans (za.mono (by omega)); try replace r1 := r1.below (za.mono zb)
   try replace q1 := q1.below (za.mono zb)
   try replace g2 := g2.below (za.mono zb)
   try replace p2 := p2.below (za.mono zb)
   try replace u2 := u2.below (za.mono zb)
   have u2 := ht; clear ht; refine hK _ _ ⟨fun _ => ⟨_, zG hX⟩, ?_⟩; clear hK K; simp only [zo]; refine zR 1 rfl (by kernel_rfl) rfl (fun K hK => ?_); go_simp
   go_at_call 92
   refine ((HT.out _ B).1).mono ?_; rintro e wn ⟨rfl, za⟩; have zf := B.size; have zg := za.size; have hsx := hX.size; replace B := B.trans (za.mono B.size); replace hX := hX.trans (za.mono hX.size); try replace r1 := r1.below za
   try replace q1 := q1.below za
   try replace g2 := g2.below za
   try replace p2 := p2.below za
   try replace u2 := u2.below za
   refine hK _ _ ⟨fun _ => ⟨_, zG hX⟩, ?_⟩; clear hK K; simp only [zo]; refine zR 3 rfl (by kernel_rfl) rfl (fun K hK => ?_); go_simp
   go_at_call 115
   refine (Vt _ (qc ls) q q' _ (HT.out _ B).2 hfl).mono ?_; rintro e wn ⟨rfl, za⟩; have zf := B.size; have zg := za.size; have hsx := hX.size; replace B := B.trans (za.mono B.size); replace hX := hX.trans (za.mono hX.size); try replace r1 := r1.below za
   try replace q1 := q1.below za
   try replace g2 := g2.below za
   try replace p2 := p2.below za
   try replace u2 := u2.below za
   refine hK _ _ ⟨fun _ => ⟨_, zG hX⟩, ?_⟩; clear hK K; simp only [zo]; refine qE (by kernel_rfl) (by kernel_rfl) ?_; simp only [List.drop_succ_cons, List.drop_zero]; go_wp2_with (first | (refine qH rfl _ _ rfl _ rfl _ rfl u2 (qG B (by omega) ?_); clear u2 B; intro wn u2 ze zf zg B; (try replace r1 := r1.of_eq (ze.block _ r1.lt (by omega))); (try replace q1 := q1.of_eq (ze.block _ q1.lt (by omega))); (try replace g2 := g2.of_eq (ze.block _ g2.lt (by omega))); (try replace p2 := p2.of_eq (ze.block _ p2.lt (by omega))); simp only [zo]) | fail)
   refine zL.normal ?_; go_wp2_with fail
   go_meet; exact ⟨_, rfl, u2, B, by omega, r1, q1, g2, p2⟩
 case rest =>
  obtain ⟨b_u2, rfl, u2, B, hb2, r1, q1, g2, p2⟩ := hcut; go_wp2; refine qZ 15 (by kernel_rfl) (by kernel_rfl) ?_; simp only [List.take_succ_cons, List.take_zero, List.drop_succ_cons, List.drop_zero]; repeat (first | go_big_quiet_skip | (go_big_quiet_want; first | (refine zn (t := 64) rfl _ _ _ rfl (fun w hw => zv (zB r1 w hw) Tryz.isAgg64 (by kernel_rfl)) (by rfl) ?_; simp only [zo]; go_big_quiet_on) | (refine zn (t := 3) rfl _ _ _ rfl (fun w hw => zu ((zB p2 w hw).cell 0 rfl)) (by rfl) ?_; simp only [zo]; go_big_quiet_on) | (refine zn (t := 3) rfl _ _ _ rfl (fun w hw => zu ((zB p2 w hw).cell 1 rfl)) (by rfl) ?_; simp only [zo]; go_big_quiet_on) | (refine zn (t := 95) rfl _ _ _ rfl (fun w hw => zv (zB p2 w hw) Tryz.isAgg95 (by kernel_rfl)) (by rfl) ?_; simp only [zo]; go_big_quiet_on) | (refine jU rfl _ rfl (xO u2) ?_; simp only [zo]; go_big_quiet_on) | (refine qJ rfl _ rfl (ky q1) ?_; simp only [zo]; go_big_quiet_on) | (go_big_quiet_op; first | go_big_quiet_on | go_big_quiet_call ((first | (go_at_call 117; exact zC (zgr _ _ _ _ _)))))))
  refine wpQuiet_nil ?_; intro wn za; have zf := B.size; have zg := za.size; replace B := B.trans (za.mono B.size); try replace g2 := g2.below za
  go_wp2_with (first | (refine zq (t := 82) rfl _ _ rfl _ rfl _ rfl g2 (by kernel_rfl) rfl (by simp [Value.oneCell']) (qG B (by omega) ?_); have g2o := g2; clear g2 B; intro wn g2 ze zf zg B; replace rs1 := rs1.chg g2o (by simp) ze; simp only [zo]) | (go_at_call 116; refine (zfy _ ls q q' _ _ (HS.out.below B) TK.out hn KK.out).mono ?_; rintro e wn ⟨v1, rfl, rs1, za⟩; obtain ⟨a1, c1, rfl, hc1⟩ := rs1.len; have zf := B.size; have zg := za.size; replace B := B.trans (za.mono B.size); (try replace g2 := g2.below za)) | fail)
  refine bodyPost_ret (zz (t := 82) rfl _ _ (b_g2) rfl g2 Tryz.isAgg82 (by kernel_rfl)) rfl ?_; refine ⟨_, by rw [e1.out]; try rfl, ?_, B⟩
  rw [e2.out]; exact rs1
/- '==' of tiles at a position; contracts of Equal of package raster and of its reference. -/
def eqA (a b : TA) : Bool := xT a.x a.y b.x b.y && kO a.t b.t
@[go_sem] theorem zgO (op : BinOp) (p q : Operand) (a b : TA) (w : World) : (eqGuard op 125 p q (.agg (xX a)) (.agg (xX b))).run Tryz.prog w = .ok () w := run_eqGuard_agg w op 125 p q _ _ (by kernel_rfl)
/-- Two lists of tiles are equal. -/
def eqL (ls ks : List TA) : Bool := decide (ls.length = ks.length) && decide (∀ i ∈ List.range ls.length, eqA (aT ls i) (aT ks i) = true)
/- Contract of mapped of package raster, for whatever function that turns at most one block. -/
/-- Below n, block c aside, what was there is as it was. -/
structure kH (c n : Nat) (w w' : World) : Prop where
 os : w'.os = w.os
 tape : w'.tape = w.tape
 output : w'.output = w.output
 size : n ≤ w'.heap.size
 grow : w.heap.size ≤ w'.heap.size
 block : ∀ k, k < n → k ≠ c → w'.heap[k]? = w.heap[k]?
theorem kH.refl (c : Nat) (w : World) : kH c w.heap.size w w := ⟨rfl, rfl, rfl, Nat.le_refl _, Nat.le_refl _, fun _ _ _ => rfl⟩
theorem kH.trans {c n : Nat} {w1 w2 w3 : World} (h : kH c n w1 w2) (k : Below n w2 w3) : kH c n w1 w3 :=
 ⟨k.os.trans h.os, k.tape.trans h.tape, k.output.trans h.output, Nat.le_trans h.size k.size, Nat.le_trans h.grow k.size, fun i hi hc => (k.block i hi).trans (h.block i hi hc)⟩
theorem kH.store {c n b : Nat} {w1 w2 w3 : World} (h : kH c n w1 w2) (k : qV b w2 w3) (hb : n ≤ b) : kH c n w1 w3 :=
 ⟨k.os.trans h.os, k.tape.trans h.tape, k.output.trans h.output, Nat.le_trans h.size k.size, Nat.le_trans h.grow k.size, fun i hi hc => (k.block i (Nat.lt_of_lt_of_le hi h.size) (by omega)).trans (h.block i hi hc)⟩
theorem kH.chg {c n : Nat} {w1 w2 w3 : World} (h : kH c n w1 w2) (k : qV c w2 w3) : kH c n w1 w3 :=
 ⟨k.os.trans h.os, k.tape.trans h.tape, k.output.trans h.output, Nat.le_trans h.size k.size, Nat.le_trans h.grow k.size, fun i hi hc => (k.block i (Nat.lt_of_lt_of_le hi h.size) hc).trans (h.block i hi hc)⟩
theorem kH.toChg {c : Nat} {w w' : World} (h : kH c w.heap.size w w') : qV c w w' := ⟨h.os, h.tape, h.output, h.grow, h.block⟩
theorem zeX (x y : Int) (u : Nat → Px) (i : Nat) (p : Px) (hi : i < 64) : ((((xX ⟨x, y, u⟩).setIfInBounds (2 + i * 4) (.int .u8 p.r)).setIfInBounds (2 + i * 4 + 1) (.int .u8 p.g)).setIfInBounds (2 + i * 4 + 2) (.int .u8 p.b)).setIfInBounds (2 + i * 4 + 3) (.int .u8 p.a) = xX ⟨x, y, Qc u i p⟩ := by
 apply Array.ext_getElem?
 intro k
 rw [wX, ← Xd u i p hi]
 by_cases h2 : k < 2
 ·rw [if_pos h2]
  rw [Array.getElem?_setIfInBounds, if_neg (by omega), Array.getElem?_setIfInBounds, if_neg (by omega), Array.getElem?_setIfInBounds, if_neg (by omega), Array.getElem?_setIfInBounds, if_neg (by omega), wX, if_pos h2]
 ·rw [if_neg h2]
  have hs : (xX ⟨x, y, u⟩).size = 258 := zS _; have ht : (qT u).size = 256 := jN _; simp only [Array.getElem?_setIfInBounds, Array.size_setIfInBounds, hs, ht, wX, if_neg h2]; have e : ∀ j, (2 + i * 4 + j = k) ↔ (i * 4 + j = k - 2) := fun j => by omega
  by_cases c3 : 2 + i * 4 + 3 = k
  ·rw [if_pos c3, if_pos ((e 3).1 c3), if_pos (by omega), if_pos (by omega)]
  ·rw [if_neg c3, if_neg (fun h => c3 ((e 3).2 h))]
   by_cases c2 : 2 + i * 4 + 2 = k
   ·rw [if_pos c2, if_pos ((e 2).1 c2), if_pos (by omega), if_pos (by omega)]
   ·rw [if_neg c2, if_neg (fun h => c2 ((e 2).2 h))]
    by_cases c1 : 2 + i * 4 + 1 = k
    ·rw [if_pos c1, if_pos ((e 1).1 c1), if_pos (by omega), if_pos (by omega)]
    ·rw [if_neg c1, if_neg (fun h => c1 ((e 1).2 h))]
     by_cases c0 : 2 + i * 4 = k
     ·rw [if_pos c0, if_pos (by omega), if_pos (by omega), if_pos (by omega)]
     ·rw [if_neg c0, if_neg (by omega)]
theorem JM {w : World} {b i : Nat} {x y : Int} {u : Nat → Px} (h : zK 125 w b (xX ⟨x, y, u⟩)) (hi : i < 64) (p : Px) : (Instr.storeAt 28 (.pointer (some ⟨b, 2 + i * 4, none⟩)) (Px.v p)).run Tryz.prog w =
  .ok () ((((w.setCell ⟨b, 2 + i * 4, none⟩ (.int .u8 p.r)).setCell ⟨b, 2 + i * 4 + 1, none⟩ (.int .u8 p.g)).setCell ⟨b, 2 + i * 4 + 2, none⟩ (.int .u8 p.b)).setCell ⟨b, 2 + i * 4 + 3, none⟩ (.int .u8 p.a)) := by
 have hc : ∀ j, j < 4 → w.cell? ⟨b, 2 + i * 4 + j, none⟩ = (qT u)[i * 4 + j]? := fun j hj => by
  rw [(ql h).1, wX, if_neg (by omega), show 2 + i * 4 + j - 2 = i * 4 + j by omega]
 have c0 := (hc 0 (by omega)).trans (xY u i 0 hi (by omega))
 have c1 := (hc 1 (by omega)).trans (xY u i 1 hi (by omega))
 have c2 := (hc 2 (by omega)).trans (xY u i 2 hi (by omega))
 have c3 := (hc 3 (by omega)).trans (xY u i 3 hi (by omega))
 have hf := fun j => h.frozen j
 rw [Nat.add_zero] at c0
 simp [go_sem, c0, c1, c2, c3, hf, Px.v]
theorem zK.set4 {w : World} {b i : Nat} {x y : Int} {u : Nat → Px} (h : zK 125 w b (xX ⟨x, y, u⟩)) (hi : i < 64) (p : Px) :
  zK 125 ((((w.setCell ⟨b, 2 + i * 4, none⟩ (.int .u8 p.r)).setCell ⟨b, 2 + i * 4 + 1, none⟩ (.int .u8 p.g)).setCell ⟨b, 2 + i * 4 + 2, none⟩ (.int .u8 p.b)).setCell ⟨b, 2 + i * 4 + 3, none⟩ (.int .u8 p.a)) b (xX ⟨x, y, Qc u i p⟩) := by
 unfold zK
 rw [← zeX x y u i p hi]
 exact heap_setCell_same _ _ _ _ _ _ (heap_setCell_same _ _ _ _ _ _ (heap_setCell_same _ _ _ _ _ _ (heap_setCell_same _ _ _ _ _ _ h)))
theorem Qe {ops : Array Oper} {rest : List Oper} {o : Oper} {a : Act} {w : World} {Q : Exit → Act → World → Prop} (hg : o.guard = none) (x y : Operand) (ho : o.op = .store 28 x y) (b j : Nat) (hx : a.eval x = .pointer (some ⟨b, j, none⟩)) (q : Px) (hy : a.eval y = Px.v q) {px py : Int} {u : Nat → Px} (ht : zK 125 w b (xX ⟨px, py, u⟩)) (i : Nat) (hi : i < 64) (hj : j = 2 + i * 4)
  (h : ∀ w', zK 125 w' b (xX ⟨px, py, Qc u i q⟩) → qV b w w' → w'.heap.size = w.heap.size → wpList Tryz.prog ops Q rest (a.put o.dst undef) w') : wpList Tryz.prog ops Q (o :: rest) a w := by
 subst hj
 refine qk hg x y ho _ ?_ (h _ (ht.set4 hi q) (((((qV.refl b w).setCell _).setCell _).setCell _).setCell _) (by simp only [World.size_setCell]))
 rw [hx, hy]
 exact JM ht hi q
/-! ### mapped -/
/-- The first k pixels of a tile mapped: the state behind them, the tile. -/
def yZ {σ : Type} (F : σ → Int → Int → Px → σ × Px) (e : TA) : Nat → σ → σ × (Nat → Px)
 | 0, s => (s, e.t)
 | k + 1, s => ((F (yZ F e k s).1 (e.x * 8 + (k : Int) % 8) (e.y * 8 + (k : Int) / 8) (e.t k)).1, Qc (yZ F e k s).2 k (F (yZ F e k s).1 (e.x * 8 + (k : Int) % 8) (e.y * 8 + (k : Int) / 8) (e.t k)).2)
/-- The first k tiles mapped: the state behind them, the tiles that are not transparent. -/
def kh {σ : Type} (F : σ → Int → Int → Px → σ × Px) (ls : List TA) (s : σ) : Nat → σ × List TA
 | 0 => (s, [])
 | k + 1 => ((yZ F (aT ls k) 64 (kh F ls s k).1).1, (kh F ls s k).2 ++ jm (aT ls k).x (aT ls k).y (yZ F (aT ls k) 64 (kh F ls s k).1).2)
theorem Kl {σ : Type} (F : σ → Int → Int → Px → σ × Px) (ls : List TA) (s : σ) (k : Nat) : (kh F ls s k).2.length ≤ k := by
 induction k with
 | zero => exact Nat.le_refl _
 | succ k ih =>
  show ((kh F ls s k).2 ++ jm _ _ _).length ≤ _
  rw [List.length_append]; have := ZU (aT ls k).x (aT ls k).y (yZ F (aT ls k) 64 (kh F ls s k).1).2; omega
theorem KO {σ : Type} {F : σ → Int → Int → Px → σ × Px} (hF : ∀ s x y p, p.ok → (F s x y p).2.ok) {e : TA} (h : Zr e.t) (s : σ) : ∀ k, k ≤ 64 → Zr (yZ F e k s).2
 | 0, _ => h
 | k + 1, hk => fun i hi => by
  show (Qc _ k _ i).ok
  unfold Qc; split
  ·exact hF _ _ _ _ (h k (by omega))
  ·exact KO hF h s k (by omega) i hi
theorem xr.ownlt {B : Nat} {v : Value} {ls : List TA} {w : World} (h : xr B v ls w) : ∀ k, v.ownBlock = some k → k < w.heap.size := by
 intro k hk
 obtain ⟨_, h2⟩ := h
 rcases h2 with ⟨rfl, h0⟩ | ⟨g, cap, cur, rfl, hb, hg, _⟩
 ·cases hk
 ·have e : some g = some k := hk
  injection e with e
  subst e; exact (Array.getElem?_eq_some_iff.1 hg).1
theorem xr.chgN {B b : Nat} {v : Value} {ls : List TA} {w w' : World} (h : xr B v ls w) (hc : qV b w w') (hne : ∀ k, v.ownBlock = some k → k ≠ b) : xr B v ls w' := by
 refine World.ownsRow.kept (row := some b) h ⟨hc.os, hc.tape, hc.output, hc.size, fun k hk hn => hc.block k hk (fun e => hn (by rw [e]))⟩ ?_
 cases hv : v.ownBlock with
 | none => exact .inl rfl
 | some k =>
  right
  intro e
  injection e with e
  exact hne k hv e
set_option maxHeartbeats 4000000 in
theorem YL {σ : Type} (F : σ → Int → Int → Px → σ × Px) (I : σ → World → Prop) (cb gf : Nat) (lb : Array Value) (eg : Enters Tryz.prog gf) (v : Value) (ls : List TA) (s0 : σ) (w : World) (hs : RS v ls w) (tk : qN ls) (hn : ls.length ≤ 2000) (hpos : ∀ e ∈ ls, z8 e.x e.y = true)
  (hcb : cb < w.heap.size) (hsep : 0 < ls.length → v.ownBlock ≠ some cb) (hI0 : I s0 w)
  (hIb : ∀ s W W', I s W → (∀ k, k < w.heap.size → W'.heap[k]? = W.heap[k]?) → I s W')
  (hF : ∀ (s : σ) (W : World) (x y : Int) (p : Px), w.heap.size ≤ W.heap.size → I s W → -65536 ≤ x → x ≤ 65535 → -65536 ≤ y → y ≤ 65535 → p.ok →
   Calls Tryz.prog gf (#[.int .i64 x, .int .i64 y, Px.v p] ++ lb) W fun e W' => e = .returned (Px.v (F s x y p).2) ∧ I (F s x y p).1 W' ∧ qV cb W W')
  (hok : ∀ s x y p, p.ok → (F s x y p).2.ok) :
  Calls Tryz.prog 126 #[v, .func (.func gf) #[] lb] w fun e w' => ∃ v', e = .returned v' ∧ xr w.heap.size v' (kh F ls s0 ls.length).2 w' ∧ I (kh F ls s0 ls.length).1 w' ∧ qV cb w w' := by
 have eg' : ∀ args w, (callFunc gf args).run Tryz.prog w = .ok (.enter gf args) w := eg
 obtain ⟨a, c, rfl, hc⟩ := hs.len
 have HS := Lib.hid hs
 have HK := Lib.hid tk
 have HP := Lib.hid hpos
 have HF := Lib.hid hF
 have HI := Lib.hid hIb
 have HO := Lib.hid hok
 have SEP := Lib.hid hsep
 have B := kH.refl cb w
 have od := xr.nil w.heap.size w
 have hI := hI0
 clear hs tk hpos hF hIb hok hI0 hsep
 go_enter Tryz.func126, Tryz.ntmps126
 go_wp2
 go_loopw [5, 7, 8, 9, 12] (fun out _ _ _ i wr => ∃ (k : Nat) (a5 : Option Addr) (n5 c5 : Nat), k ≤ ls.length ∧ i = .int .i64 k ∧ out = .slice a5 n5 c5 ∧ n5 = (kh F ls s0 k).2.length ∧ kH cb w.heap.size w wr ∧ xr w.heap.size (.slice a5 n5 c5) (kh F ls s0 k).2 wr ∧ I (kh F ls s0 k).1 wr) (fun _ _ _ _ i _ => (ls.length - intOf i).toNat)
 case atStart => exact ⟨0, none, 0, 0, by omega, rfl, rfl, rfl, B, od, hI⟩
 case round =>
  clear B od hI; obtain ⟨k, a5, n5, c5, hk, rfl, rfl, hn5, B, od, hI⟩ := hrel; have HN5 := Lib.hid hn5; clear hn5; have hml := Kl F ls s0 k; obtain ⟨⟨s, acc⟩, hsm⟩ : ∃ m, kh F ls s0 k = m := ⟨_, rfl⟩; rw [hsm] at od hI hml; have HN5' := Lib.hid (show n5 = acc.length from by have := HN5.out; rw [hsm] at this; exact this)
  have HSM := Lib.hid hsm; clear hsm HN5; have od : xr w.heap.size (.slice a5 n5 c5) acc _ := od; have hI : I s _ := hI; have hml : acc.length ≤ k := hml; by_cases hkl : k < ls.length
  ·obtain ⟨gg, o, rfl, rc0⟩ := HS.out.at (by omega)
   have hg0 := rc0.lt; have hgc : gg ≠ cb := fun e => (SEP.out (by omega)) (by rw [e]; rfl)
   have rc := rc0.of_eq (B.block _ rc0.lt hgc); clear rc0; obtain ⟨⟨x, y, t⟩, he⟩ : ∃ e, aT ls k = e := ⟨_, rfl⟩; have htk : Zr t := by have := HK.out.at hkl; rw [he] at this; exact this
   have hT := Lib.hid htk; have hw := HP.out _ (List.mem_iff_getElem?.2 ⟨k, kN hkl⟩); rw [he] at hw; have hw := of_decide_eq_true hw; obtain ⟨w1, w2, w3, w4⟩ := hw; have HOB := Lib.hid od.ownlt; have hsz0 := B.size; go_wp2_with (first | (refine zp (t := 123) rfl _ rfl _ _ _ rfl (qW t1) (by first | rfl | omega) ?_; simp only [zo]) | (refine zq (t := 125) rfl _ _ rfl _ rfl _ rfl t1 (by rw [zS]; kernel_rfl) (by simp only [zS, jl]) (xj _) ?_; clear t1; intro wn ht ze zg; have zf := B.size; replace zg := Nat.le_of_eq zg.symm; replace B := kH.store B ze (by omega); replace hI := HI.out _ _ _ hI (fun k hk => ze.block k (by omega) (by omega)); replace od := od.chgN ze (fun kk hkk => Nat.ne_of_lt (Nat.lt_of_lt_of_le (HOB.out kk hkk) (by omega))); (try replace q1 := q1.of_eq (ze.block _ q1.lt (by omega))); (try replace od := od.of_eq (ze.block _ od.lt (by omega))); have t1 := ht; clear ht; simp only [zo]) | (refine zr (t := 125) rfl _ (qK _ _ rfl) ?_; intro b_t1 wn zb zd ht za zg; have zf := B.size; replace B := B.trans (za.mono (by omega)); replace hI := HI.out _ _ _ hI (fun k hk => za.block k (by omega)); have zk := Nat.lt_of_lt_of_eq (Nat.lt_succ_self _) zg.symm; clear zg; (try have zh := t1.lt); (try replace t1 := t1.below (za.mono zb)); (try have zh := q1.lt); (try replace q1 := q1.below (za.mono zb)); (try have zh := od.lt); (try replace od := od.below (za.mono zb)); have t1 := ht; clear ht; simp only [zo]) | (refine zp (t := 125) rfl _ rfl _ _ _ rfl (xq rc hkl he) (by first | rfl | omega) ?_; simp only [zo]) | fail)
   have hb1 := zb; have hmul1 : (2 : Nat) ≤ 2 := Nat.le_refl _; go_loopw [8, 9, 18] (fun _ _ j wx => ∃ i : Nat, i ≤ 64 ∧ j = .int .i64 i ∧ kH cb w.heap.size w wx ∧ b_t1 < wx.heap.size ∧ zK 125 wx b_t1 (xX ⟨x, y, (yZ F ⟨x, y, t⟩ i s).2⟩) ∧ xr w.heap.size (.slice a5 n5 c5) acc wx ∧ I (yZ F ⟨x, y, t⟩ i s).1 wx) (fun _ _ j _ => (64 - intOf j).toNat)
   case atStart => exact ⟨0, by omega, rfl, B, t1.lt, t1, od, hI⟩
   case round =>
    clear B t1 od hI; obtain ⟨i, hi, rfl, B, hbl, t1, od, hI⟩ := hrel; by_cases hil : i < 64
    ·have hix := QZ t i hil
     have hpk : (t i).ok := hT.out i hil; have d8 : (0 : Int) ≤ (i : Int) % 8 ∧ (i : Int) % 8 < 8 := by omega
     have d9 : (0 : Int) ≤ (i : Int) / 8 ∧ (i : Int) / 8 < 8 := by omega
     obtain ⟨u, hu⟩ : ∃ u, yZ F ⟨x, y, t⟩ i s = u := ⟨_, rfl⟩; rw [hu] at t1 hI; have HU := Lib.hid hu; clear hu; go_wp2_with (first | (refine Qe rfl _ _ rfl _ _ rfl (_) rfl t1 (i) (hil) (by first | rfl | omega) ?_; clear t1; intro wn ht ze zg; have zf := B.size; replace zg := Nat.le_of_eq zg.symm; replace B := kH.store B ze (by omega); replace hI := HI.out _ _ _ hI (fun k hk => ze.block k (by omega) (by omega)); replace od := od.chgN ze (fun kk hkk => Nat.ne_of_lt (Nat.lt_of_lt_of_le (HOB.out kk hkk) (by omega))); (try replace q1 := q1.of_eq (ze.block _ q1.lt (by omega))); have t1 := ht; clear ht; simp only [zo]) | (go_at_fn gf; refine (HF.out _ _ _ _ _ (by omega) hI (by omega) (by omega) (by omega) (by omega) hpk).mono ?_; rintro e' wn ⟨rfl, hI, hcc⟩; have zf := B.size; have zg := hcc.size; replace B := B.chg hcc; replace t1 := t1.of_eq (hcc.block _ t1.lt (by omega)); replace od := od.chg hcc hcb) | (refine zp (t := 3) rfl _ rfl _ _ _ rfl (zu (t1.cell 0 (Xl _))) (by first | rfl | omega) ?_; simp only [zo]) | (refine zp (t := 3) rfl _ rfl _ _ _ rfl (zu (t1.cell 1 (K0 _))) (by first | rfl | omega) ?_; simp only [zo]) | (refine jI rfl _ rfl _ rfl q1 ?_; simp only [zo]) | (refine qf rfl _ _ rfl _ rfl (_) rfl q1 ?_; clear q1; intro wn ht ze zg; have zf := B.size; replace zg := Nat.le_of_eq zg.symm; replace B := kH.store B ze (by omega); replace hI := HI.out _ _ _ hI (fun k hk => ze.block k (by omega) (by omega)); replace od := od.chgN ze (fun kk hkk => Nat.ne_of_lt (Nat.lt_of_lt_of_le (HOB.out kk hkk) (by omega))); (try replace t1 := t1.of_eq (ze.block _ t1.lt (by omega))); have q1 := ht; clear ht; simp only [zo]) | (refine qq rfl rfl ?_; intro b_q1 wn zb zd ht za zg; have zf := B.size; replace B := B.trans (za.mono (by omega)); replace hI := HI.out _ _ _ hI (fun k hk => za.block k (by omega)); have zk := Nat.lt_of_lt_of_eq (Nat.lt_succ_self _) zg.symm; clear zg; (try replace od := od.below (za.mono zb)); (try have zh := t1.lt); (try replace t1 := t1.below (za.mono zb)); (try have zh := q1.lt); (try replace q1 := q1.below (za.mono zb)); (try have zh := od.lt); (try replace od := od.below (za.mono zb)); have q1 := ht; clear ht; simp only [zo]) | fail)
     go_roundw
     case rel => exact ⟨i + 1, by omega, by go_num, B, by have := t1.lt; omega, by show zK _ _ _ (xX ⟨x, y, Qc (yZ F ⟨x, y, t⟩ i s).2 i (F (yZ F ⟨x, y, t⟩ i s).1 (x * 8 + (i : Int) % 8) (y * 8 + (i : Int) / 8) (t i)).2⟩); rw [HU.out]; exact t1, od, by show I (F (yZ F ⟨x, y, t⟩ i s).1 (x * 8 + (i : Int) % 8) (y * 8 + (i : Int) / 8) (t i)).1 _; rw [HU.out]; exact hI⟩
     case measure => simp [intOf]; omega
    ·obtain rfl : i = 64 := by omega
     obtain ⟨⟨s', u⟩, hu⟩ : ∃ u, yZ F ⟨x, y, t⟩ 64 s = u := ⟨_, rfl⟩; have hut : Zr u := by have := KO (e := ⟨x, y, t⟩) HO.out hT.out s 64 (Nat.le_refl _); rw [hu] at this; exact this
     rw [hu] at t1 hI; have HU := Lib.hid hu; clear hu; have t1 : zK 125 _ b_t1 (xX ⟨x, y, u⟩) := t1; have hI : I s' _ := hI; have es := Lib.hid (show kh F ls s0 (k + 1) = (s', acc ++ jm x y u) from by
      show ((yZ F (aT ls k) 64 (kh F ls s0 k).1).1, (kh F ls s0 k).2 ++ jm (aT ls k).x (aT ls k).y (yZ F (aT ls k) 64 (kh F ls s0 k).1).2) = _
      rw [HSM.out, he, HU.out])
     cases hz : jh u with
     | true =>
      have HN := Lib.hid (show jm x y u = [] from by unfold jm; rw [hz]; rfl)
      go_wp2_with (first | (go_at_call 100; refine (yn _ _ hut).mono ?_; rintro e wn ⟨rfl, za⟩; have zf := B.size; have zg := za.size; replace B := B.trans (za.mono B.size); replace hI := HI.out _ _ _ hI (fun k hk => za.block k (by omega)); (try replace t1 := t1.below za); (try replace od := od.below za)) | (refine zp (t := 123) rfl _ rfl _ _ _ rfl (qW t1) (by first | rfl | omega) ?_; simp only [zo]) | fail)
      go_roundw
      case rel => exact ⟨k + 1, _, _, _, by omega, by go_num, rfl, by rw [es.out, HN.out]; simp [HN5'.out], B, by rw [es.out, HN.out]; simpa using od, by rw [es.out]; exact hI⟩
      case measure => simp [intOf]; omega
     | false =>
      have HN := Lib.hid (show jm x y u = [⟨x, y, u⟩] from by unfold jm; rw [hz]; rfl)
      have hlen : acc.length + 1 ≤ 100000 := by omega
      have hn5 := HN5'.out; clear HN5'; subst hn5; go_wp2_with (first | (at_builtin; refine qe rfl _ _ rfl _ _ rfl rfl od ((RS.one s1)) (by simp only [List.length_cons, List.length_nil]; omega) (by omega) ?_; intro v_od wn ht za; have zf := B.size; have zg := za.size; replace B := B.trans (za.mono (by omega)); replace hI := HI.out _ _ _ hI (fun k hk => za.block k (by omega)); clear od; have od := ht; clear ht; obtain ⟨a_od, c_od, hv, hco⟩ := od.len; (try simp only [List.length_append, List.length_cons, List.length_nil, Nat.zero_add] at hv hco); subst hv; simp only [zo]) | (refine jy rfl _ rfl ⟨x, y, u⟩ (by rfl) ?_; intro b_s1 wn zb zd ht za zg; have zf := B.size; replace B := B.trans (za.mono (by omega)); replace hI := HI.out _ _ _ hI (fun k hk => za.block k (by omega)); have zk := Nat.lt_of_lt_of_eq (Nat.lt_succ_self _) zg.symm; clear zg; (try have zh := od.lt); (try replace od := od.below (za.mono zb)); have s1 := ht; clear ht; simp only [zo]) | (refine zp (t := 125) rfl _ rfl _ _ _ rfl (zv t1 Tryz.isAgg125 (zac _)) (by rfl) ?_; simp only [zo]) | (go_at_call 100; refine (yn _ _ hut).mono ?_; rintro e wn ⟨rfl, za⟩; have zf := B.size; have zg := za.size; replace B := B.trans (za.mono B.size); replace hI := HI.out _ _ _ hI (fun k hk => za.block k (by omega)); (try replace t1 := t1.below za); (try replace od := od.below za)) | (refine zp (t := 123) rfl _ rfl _ _ _ rfl (qW t1) (by first | rfl | omega) ?_; simp only [zo]) | fail)
      go_roundw
      case rel => exact ⟨k + 1, _, _, _, by omega, by go_num, rfl, by rw [es.out, HN.out]; simp, B, by rw [es.out, HN.out]; exact od, by rw [es.out]; exact hI⟩
      case measure => simp [intOf]; omega
  ·obtain rfl : k = ls.length := by omega
   go_wp2; go_ret; exact ⟨_, rfl, by rw [HSM.out]; exact od, by rw [HSM.out]; exact hI, B.toChg⟩
/- Contracts of Bounds and Crop of package raster. -/
def jV (r : Rc) : Array Value := #[.int .i64 r.x0, .int .i64 r.y0, .int .i64 r.x1, .int .i64 r.y1]
def zfE (s : Rc) (x y : Int) (p : Px) : Rc × Px := (if 0 < p.a then j0 s ⟨x, y, x + 1, y + 1⟩ else s, p)
def zhh (ls : List TA) : Rc := (kh zfE ls Rc.zero ls.length).1
def zgB (c : Rc) (s : Unit) (x y : Int) (p : Px) : Unit × Px := ((), if qU c x y = true then p else Px.zero)
def zhN (c : Rc) (ls : List TA) : List TA := (kh (zgB c) ls () ls.length).2
theorem VZ {v : Value} {ls : List TA} {w : World} (h : RS v ls w) {cb : Nat} (hc : w.heap.size ≤ cb) : 0 < ls.length → v.ownBlock ≠ some cb := by
 intro hn e
 rcases h with ⟨rfl, rfl⟩ | ⟨g, o, c, rfl, _, sc⟩
 ·exact absurd hn (by decide)
 ·have e : some g = some cb := e
  injection e with e
  have := (sc hn).lt; omega
theorem zct (ls : List TA) : ∀ e ∈ qc ls, z8 e.x e.y = true := fun e he => by
 have := xG (jG ls) e he
 unfold ka at this
 exact (Bool.and_eq_true_iff.1 this).1
/- Contracts of the reference's Bounds and Crop. -/
end Go.Proofs.YtepelndbbhdofaaGreatDoor
/- Slices of elements of whatever type: rows in memory, rows that the call owns; append, literals of one element. -/
namespace Go.Proofs.YtepelndbbhdofaaGreatDoor
open Go.RowKit
set_option linter.unusedVariables false
set_option linter.unusedSimpArgs false
set_option maxRecDepth 20000
/-- An element type: T the element's, ST the slice's number; its k cells. -/
structure Xq (α : Type) (k : Nat) (T ST : TypeId) where
 enc : α → Array Value
 bytes : Nat
 zero : α
 size : ∀ x, (enc x).size = k
 one : ∀ x, ∀ u ∈ (enc x).toList, u.oneCell' = true
 pos : 0 < k
 small : bytes ≤ 1000
 und : Tryz.prog.underlying ST = some (.slice T)
 info : (Tryz.prog.info? T).map (fun i => (i.size, i.bytes)) = some (k, bytes)
 zer : ((Tryz.prog.info? T).bind (·.zero)).map Value.cells = some (enc zero)
section
variable {α : Type} {k : Nat} {T ST : TypeId} (E : Xq α k T ST)
theorem Xq.facts : ∃ i z, Tryz.prog.info? T = some i ∧ i.zero = some z ∧ i.size = k ∧ i.bytes = E.bytes ∧ z.cells = E.enc E.zero := by
 have h1 := E.info
 have h2 := E.zer
 cases hi : Tryz.prog.info? T with
 | none => rw [hi] at h1; cases h1
 | some i =>
  rw [hi] at h1 h2; cases hz : i.zero with
  | none => simp [hz] at h2
  | some z =>
   simp [hz] at h1 h2
   exact ⟨i, z, rfl, hz, h1.1, h1.2, h2⟩
/-- The cells of a row. -/
def xW : List α → List Value
 | [] => []
 | e :: r => (E.enc e).toList ++ xW r
theorem ZX (a b : List α) : xW E (a ++ b) = xW E a ++ xW E b := by
 induction a with
 | nil => rfl
 | cons e r ih => rw [List.cons_append]; show _ ++ xW E (r ++ b) = _; rw [ih]; show _ = (_ ++ _) ++ _; rw [List.append_assoc]
theorem xE (ls : List α) : (xW E ls).length = ls.length * k := by
 induction ls with
 | nil => simp [xW]
 | cons e r ih => show ((E.enc e).toList ++ xW E r).length = _; rw [List.length_append, ih, Array.length_toList, E.size, List.length_cons, Nat.succ_mul]; omega
theorem Zc (ls : List α) : ∀ i x, ls[i]? = some x → ∀ j, j < k → (xW E ls)[i * k + j]? = (E.enc x)[j]? := by
 induction ls with
 | nil => intro i x hi; simp at hi
 | cons e r ih =>
  intro i x hi j hj; show ((E.enc e).toList ++ xW E r)[i * k + j]? = _
  cases i with
  | zero =>
   have hx : e = x := by simpa using hi
   rw [List.getElem?_append_left (by rw [Array.length_toList, E.size]; omega), Array.getElem?_toList, Nat.zero_mul, Nat.zero_add, hx]
  | succ i =>
   rw [List.getElem?_append_right (by rw [Array.length_toList, E.size, Nat.succ_mul]; omega), Array.length_toList, E.size, show (i + 1) * k + j - k = i * k + j by rw [Nat.succ_mul]; omega, ih i x (by simpa using hi) j hj]
theorem Zd (ls : List α) : ∀ u ∈ xW E ls, u.oneCell' = true := by
 induction ls with
 | nil => intro u hu; cases hu
 | cons e r ih =>
  intro u hu; rcases List.mem_append.1 hu with hu | hu
  ·exact E.one e u hu
  ·exact ih u hu
theorem uy {k j n : Nat} (hk : 0 < k) (h : j < n * k) : j / k < n ∧ j % k < k ∧ j = (j / k) * k + j % k := by
 refine ⟨Nat.div_lt_of_lt_mul (by rw [Nat.mul_comm]; exact h), Nat.mod_lt _ hk, ?_⟩
 rw [Nat.mul_comm]
 exact (Nat.div_add_mod j k).symm
/-- The cells of block g from o on are those of the row ls. -/
def zW (g o : Nat) (ls : List α) (w : World) : Prop := g < w.heap.size ∧ ∀ i x, ls[i]? = some x → ∀ j, j < k → w.cell? ⟨g, o + (i * k + j), none⟩ = (E.enc x)[j]?
section
variable {E} {g o : Nat} {ls : List α} {w w' : World}
theorem zW.lt (h : zW E g o ls w) : g < w.heap.size := h.1
theorem zW.of_eq (h : zW E g o ls w) (e : w'.heap[g]? = w.heap[g]?) : zW E g o ls w' := by
 refine ⟨?_, fun i x hi j hj => ?_⟩
 ·have := h.1
  rcases Nat.lt_or_ge g w'.heap.size with k | k
  ·exact k
  ·rw [Array.getElem?_eq_none k, Array.getElem?_eq_getElem this] at e
   cases e
 ·rw [World.cell?_of_block (w := w) e]
  exact h.2 i x hi j hj
theorem zW.below {α : Type} {k : Nat} {T ST : TypeId} {E : Xq α k T ST} {g o : Nat} {ls : List α} {w w' : World} (h : zW E g o ls w) (e : Below w.heap.size w w') : zW E g o ls w' := h.of_eq (e.block _ h.lt)
theorem zW.cg {α : Type} {k : Nat} {T ST : TypeId} {E : Xq α k T ST} {g o : Nat} {ls : List α} {w w' : World} (h : zW E g o ls w) {zc : Nat} (e : qV zc w w') (hn : g ≠ zc := by omega) : zW E g o ls w' := h.of_eq (e.block _ h.lt hn)
theorem zW.drop (h : zW E g o ls w) (n : Nat) : zW E g (o + n * k) (ls.drop n) w :=
 ⟨h.1, fun i x hi j hj => by
  rw [List.getElem?_drop] at hi; have := h.2 (n + i) x hi j hj; rw [Nat.add_mul] at this; rw [← this]
  congr 2
  omega⟩
theorem zW.take (h : zW E g o ls w) (n : Nat) : zW E g o (ls.take n) w :=
 ⟨h.1, fun i x hi j hj => by
  rw [List.getElem?_take] at hi; split at hi
  ·exact h.2 i x hi j hj
  ·cases hi⟩
theorem zW.row (h : zW E g o ls w) (j : Nat) (u : Value) (hu : (xW E ls)[j]? = some u) : w.cell? ⟨g, o + j, none⟩ = some u := by
 have hj : j < ls.length * k := by rw [← xE E]; exact (List.getElem?_eq_some_iff.1 hu).1
 obtain ⟨h1, h2, h3⟩ := uy E.pos hj
 have hx : ls[j / k]? = some ls[j / k] := List.getElem?_eq_getElem h1
 rw [h3, Zc E ls _ _ hx _ h2] at hu
 have := h.2 _ _ hx _ h2
 rw [hu, ← h3] at this
 exact this
/-- An element loaded. -/
theorem zW.load (h : zW E g o ls w) (hagg : ∀ w : World, (isAgg T).run Tryz.prog w = .ok true w) {i : Nat} {x : α} (hi : ls[i]? = some x) : (Instr.loadAt T (.pointer (some ⟨g, o + i * k, none⟩))).run Tryz.prog w = .ok (.agg (E.enc x)) w := by
 obtain ⟨f, z, hf, _, hs, _, _⟩ := E.facts
 simp only [Instr.loadAt, Instr.sureAddr, Sem.run_bind, Sem.run_pure, Result.andThen_ok]
 have hl : (loadCells ⟨g, o + i * k, none⟩ (E.enc x).toList.length).run Tryz.prog w = .ok (E.enc x).toList.toArray w :=
  run_loadCells_list (P := Tryz.prog) w ⟨g, o + i * k, none⟩ (E.enc x).toList (fun j v hv => by
   have hadd : (⟨g, o + i * k, none⟩ : Addr).add j = ⟨g, o + i * k + j, none⟩ := by unfold Addr.add; split <;> simp_all
   have hj : j < k := by
    have := (List.getElem?_eq_some_iff.1 hv).1; rw [Array.length_toList, E.size] at this; exact this
   rw [hadd, Nat.add_assoc, h.2 i x hi j hj]
   simpa using hv)
 rw [Array.length_toList, E.size] at hl
 simp only [Array.toArray_toList] at hl
 simp only [loadVar, Sem.run_bind, hagg w, sizeOf, typeInfo, hf, hs, hl, run_program, Result.andThen_ok, if_true, Sem.run_pure]
end
/-- v is a slice of ls. -/
def xp (v : Value) (ls : List α) (w : World) : Prop := (v = .slice none 0 0 ∧ ls = []) ∨ (∃ g o c, v = .slice (some ⟨g, o, none⟩) ls.length c ∧ ls.length ≤ c ∧ (0 < ls.length → zW E g o ls w)) ∨ ∃ a c, v = .slice (some a) 0 c ∧ ls = []
/-- v is a slice of ls, in a row that the call owns (from block B on). -/
def jb (B : Nat) (v : Value) (ls : List α) (w : World) : Prop := w.ownsRow B T k v ls.length (xW E ls)
section
variable {E} {v : Value} {ls : List α} {w w' : World} {B : Nat}
theorem xp.below (h : xp E v ls w) (hb : Below w.heap.size w w') : xp E v ls w' := by
 rcases h with h | ⟨g, o, c, e, hc, sc⟩ | h
 ·exact .inl h
 ·exact .inr (.inl ⟨g, o, c, e, hc, fun hn => (sc hn).of_eq (hb.block _ (sc hn).lt)⟩)
 ·exact .inr (.inr h)
theorem xp.len (h : xp E v ls w) : ∃ a c, v = .slice a ls.length c ∧ ls.length ≤ c := by
 rcases h with ⟨rfl, rfl⟩ | ⟨g, o, c, e, hc, sc⟩ | ⟨a, c, rfl, rfl⟩
 ·exact ⟨none, 0, rfl, Nat.le_refl _⟩
 ·exact ⟨_, c, e, hc⟩
 ·exact ⟨_, c, rfl, Nat.zero_le _⟩
theorem xp.at {a : Option Addr} {n c : Nat} (h : xp E (.slice a n c) ls w) (hn : 0 < ls.length) : ∃ g o, a = some ⟨g, o, none⟩ ∧ zW E g o ls w := by
 rcases h with ⟨_, rfl⟩ | ⟨g, o, c', e, _, sc⟩ | ⟨_, _, _, rfl⟩
 rotate_right
 ·exact absurd hn (by simp)
 ·exact absurd hn (by simp)
 ·injection e with e1 e2 e3
  exact ⟨g, o, e1, sc hn⟩
theorem xp.nil (w : World) : xp E (.slice none 0 0) [] w := .inl ⟨rfl, rfl⟩
theorem jX {g o : Nat} (h : zW E g o ls w) : ∀ w', (∃ u, w' = ov w u) → zW E g o ls w' := by
 rintro w' ⟨u, rfl⟩
 exact h.of_eq ((qS w u).block _ h.lt)
theorem jb.below (h : jb E B v ls w) (hb : Below w.heap.size w w') : jb E B v ls w' :=
 World.ownsRow.kept (row := none) h ⟨hb.os, hb.tape, hb.output, hb.size, fun k hk _ => hb.block k hk⟩ (Classical.em _)
theorem jb.mono {B' : Nat} (h : jb E B v ls w) (hb : B' ≤ B) : jb E B' v ls w := World.ownsRow.mono h hb
theorem jb.nil (B : Nat) (w : World) : jb E B (.slice none 0 0) [] w := World.ownsRow_nil w B _ _
theorem jb.rs (h : jb E B v ls w) : xp E v ls w := by
 obtain ⟨h1, h2⟩ := h
 rcases h2 with ⟨rfl, h0⟩ | ⟨g, cap, cur, rfl, hb, hg, hn, hm, hs, ht⟩
 ·exact .inl ⟨rfl, List.eq_nil_of_length_eq_zero h0⟩
 ·refine .inr (.inl ⟨g, 0, cap, rfl, hn, fun _ => ⟨(Array.getElem?_eq_some_iff.1 hg).1, fun i x hi j hj => ?_⟩⟩)
  have hil : i < ls.length := (List.getElem?_eq_some_iff.1 hi).1; have zh : i * k + j < ls.length * k := by
   have := Nat.mul_le_mul_right k (Nat.succ_le_of_lt hil); rw [Nat.succ_mul] at this; omega
  rw [← Zc E ls i x hi j hj, Nat.zero_add, cell_of_row w g _ cur _ (0, 0) hg, ← ht, List.getElem?_take_of_lt zh, Array.getElem?_toList]
theorem jb.len (h : jb E B v ls w) : ∃ a c, v = .slice a ls.length c ∧ ls.length ≤ c := h.rs.len
theorem jb.chg {b : Nat} (h : jb E B v ls w) (hc : qV b w w') (hb : b < B) : jb E B v ls w' := by
 refine World.ownsRow.kept (row := some b) h ⟨hc.os, hc.tape, hc.output, hc.size, fun k hk hne => hc.block k hk (fun e => hne (by rw [e]))⟩ ?_
 cases hv : v.ownBlock with
 | none => exact .inl rfl
 | some k =>
  right
  intro e
  injection e with e
  have := World.ownsRow.lt h k hv; omega
end
section
variable {E} {ops : Array Oper} {rest : List Oper} {o : Oper} {a : Act} {w : World} {Q : Exit → Act → World → Prop}
/-- A slice appended to a row of the call's own. -/
theorem jw (hg : o.guard = none) (s x : Operand) (ho : o.op = .call { callee := .builtin .append, args := #[s, x], argTypes := #[ST, ST] }) (v u : Value) (hs : a.eval s = v) (hx : a.eval x = u) {B : Nat} {ls ks : List α} (hown : jb E B v ls w) (hu : xp E u ks w) (hlen : ls.length + ks.length ≤ 100000000) (hB : B ≤ w.heap.size)
  (h : ∀ v' w', jb E B v' (ls ++ ks) w' → Below B w w' → wpList Tryz.prog ops Q rest (a.put o.dst v') w') : wpList Tryz.prog ops Q (o :: rest) a w := by
 obtain ⟨i, z, hi, hz, zf, hby, hzc⟩ := E.facts
 have hzs : z.cells.size = k := by rw [hzc, E.size]
 rcases hu with ⟨rfl, rfl⟩ | ⟨g, of, c, rfl, hc, sc⟩ | ⟨ad, c, rfl, rfl⟩
 ·refine wpList_append_own_none (P := Tryz.prog) hg s x ST ho B T i k E.und hi v ls.length (xW E ls) hs hown hx ?_
  exact h v w (by rw [List.append_nil]; exact hown) (Below.refl _ _)
 ·refine wpList_append_own (P := Tryz.prog) w hg s x ST ho B T i z k E.bytes E.und hi hz zf hby hzs E.pos v ls.length (xW E ls) hs hown ⟨g, of, none⟩ ks.length c (xW E ks) hx (xE E ks) ?_ (Zd E ks) (by unfold maxLen; omega) ?_ hB ?_
  ·intro j u hu
   have hj : j < ks.length * k := by rw [← xE E]; exact (List.getElem?_eq_some_iff.1 hu).1
   have e : (⟨g, of, none⟩ : Addr).add j = ⟨g, of + j, none⟩ := by unfold Addr.add; split <;> simp_all
   rw [e]; have hk : 0 < ks.length := by
    rcases Nat.eq_zero_or_pos ks.length with h0 | h0
    ·rw [h0, Nat.zero_mul] at hj; omega
    ·exact h0
   exact (sc hk).row j u hu
  ·have := Nat.mul_le_mul hlen E.small
   omega
  ·intro v' w' h1 h2 h3
   refine h v' w' ?_ ?_
   ·unfold jb
    rw [ZX, List.length_append]; exact h1
   ·have zh := World.ownsRow.lt hown
    exact ⟨h2.os, h2.tape, h2.output, h2.size, fun k hk => h2.block k (by omega) (fun e => by have := zh k e.symm; omega)⟩
 ·refine wpList_append_own (P := Tryz.prog) w hg s x ST ho B T i z k E.bytes E.und hi hz zf hby hzs E.pos v ls.length (xW E ls) hs hown ad 0 c [] hx (by simp) ?_ (by simp) (by unfold maxLen; simp only [List.length_nil] at hlen; omega) ?_ hB ?_
  ·intro j u hu
   simp at hu
  ·have := Nat.mul_le_mul hlen E.small
   simp only [List.length_nil] at this; omega
  ·intro v' w' h1 h2 h3
   refine h v' w' ?_ ?_
   ·unfold jb
    rw [List.append_nil]; rw [List.append_nil] at h1; exact h1
   ·have zh := World.ownsRow.lt hown
    exact ⟨h2.os, h2.tape, h2.output, h2.size, fun k hk => h2.block k (by omega) (fun e => by have := zh k e.symm; omega)⟩
end
/-! ### Literals of one element; blocks known whole as rows -/
section
variable {E}
theorem zcr {T' : TypeId} (x : α) (cs : Array Value) (hs : cs.size = k) : Instr.fill (fun i => some (i * k, k)) cs [(0, .agg (E.enc x))] = some (E.enc x) := by
 have hc : (Value.agg (E.enc x)).cells = E.enc x := by simp only [Value.cells]
 obtain ⟨r, hr1, hr2, hr3⟩ := Great.fill_dense E.pos [Value.agg (E.enc x)] 0 cs (fun v hv => by rw [List.mem_singleton.1 hv, hc, E.size]) (by simp; omega)
 have e : (([Value.agg (E.enc x)].zipIdx 0).map fun y => (y.2, y.1)) = [(0, Value.agg (E.enc x))] := rfl
 rw [e] at hr1
 rw [hr1]
 congr 1
 apply Array.ext_getElem?
 intro j
 rw [hr3 j]
 by_cases h : j < k
 ·rw [if_pos (by simp; omega), Nat.div_eq_of_lt h, Nat.mod_eq_of_lt h]
  simp [hc]
 ·rw [if_neg (by simp; omega), Array.getElem?_eq_none (by omega), Array.getElem?_eq_none (by rw [E.size]; omega)]
variable {ops : Array Oper} {rest : List Oper} {o : Oper} {a : Act} {w : World} {Q : Exit → Act → World → Prop}
theorem Kq {K : Act → World → Prop} (y : Operand) (ho : o.op = .buildSlice ST 1 #[(0, y)]) (x : α) (hy : a.eval y = .agg (E.enc x)) (hk : k ≤ 1000)
  (h : ∀ b w', w.heap.size ≤ b → b ≤ w.heap.size → zK T w' b (E.enc x) → Below b w w' → w'.heap.size = b + 1 → K (a.put o.dst (.slice (some ⟨b, 0, none⟩) 1 1)) w') : o.wp Tryz.prog a w K Q := by
 obtain ⟨i, z, hi, hz, zf, hby, hzc⟩ := E.facts
 have hp := E.pos
 refine wp_buildSlice ST T 1 #[(0, y)] ho (E.enc x) i z E.und hi hz (by rw [zf]; omega) (by rw [zf]; omega) ?_ (h _ _ (Nat.le_refl _) (Nat.le_refl _) (by unfold zK; rw [zO, if_pos rfl]) ((Below.refl _ _).alloc (Nat.le_refl _) _) (World.size_alloc _ _))
 rw [zf]
 have hp : ((#[(0, y)] : Array (Nat × Operand)).map fun (i, x) => (i, a.eval x)).toList = [(0, Value.agg (E.enc x))] := by simp [hy]
 rw [hp]
 exact zcr (T' := T) x _ (by simp)
theorem xI (hg : o.guard = none) (y : Operand) (ho : o.op = .buildSlice ST 1 #[(0, y)]) (x : α) (hy : a.eval y = .agg (E.enc x)) (hk : k ≤ 1000)
  (h : ∀ b w', w.heap.size ≤ b → b ≤ w.heap.size → zK T w' b (E.enc x) → Below b w w' → w'.heap.size = b + 1 → wpList Tryz.prog ops Q rest (a.put o.dst (.slice (some ⟨b, 0, none⟩) 1 1)) w') : wpList Tryz.prog ops Q (o :: rest) a w :=
 wpList_plain hg fun K hK => Kq y ho x hy hk fun b w' h1 h2 h3 h4 h5 => hK _ _ (h b w' h1 h2 h3 h4 h5)
theorem xp.one {b : Nat} {x : α} {w : World} (h : zK T w b (E.enc x)) : xp E (.slice (some ⟨b, 0, none⟩) 1 1) [x] w :=
 .inr (.inl ⟨b, 0, 1, rfl, Nat.le_refl _, fun _ => ⟨h.lt, fun i y hi j hj => by
  cases i with
  | zero =>
   have hx : x = y := by simpa using hi
   rw [Nat.zero_mul, Nat.zero_add, Nat.zero_add, (ql h).1, hx]
  | succ i => simp at hi⟩⟩)
/-- The block b is the row ls. -/
def jz (E : Xq α k T ST) (w : World) (b : Nat) (ls : List α) : Prop := zK T w b (xW E ls).toArray
theorem jz.of_eq {w w' : World} {b : Nat} {ls : List α} (h : jz E w b ls) (e : w'.heap[b]? = w.heap[b]?) : jz E w' b ls := zK.of_eq h e
theorem jz.lt {w : World} {b : Nat} {ls : List α} (h : jz E w b ls) : b < w.heap.size := zK.lt h
theorem jz.below {α : Type} {k : Nat} {T ST : TypeId} {E : Xq α k T ST} {b : Nat} {ls : List α} {w w' : World} (h : jz E w b ls) (e : Below w.heap.size w w') : jz E w' b ls := h.of_eq (e.block _ h.lt)
theorem jz.cg {α : Type} {k : Nat} {T ST : TypeId} {E : Xq α k T ST} {b : Nat} {ls : List α} {w w' : World} (h : jz E w b ls) {zc : Nat} (e : qV zc w w') (hn : b ≠ zc := by omega) : jz E w' b ls := h.of_eq (e.block _ h.lt hn)
theorem jz.cells {w : World} {b : Nat} {ls : List α} (h : jz E w b ls) : zW E b 0 ls w := by
 refine ⟨h.lt, fun i x hi j hj => ?_⟩
 rw [Nat.zero_add, (ql h).1, List.getElem?_toArray]
 exact Zc E ls i x hi j hj
theorem jz.rs {w : World} {b : Nat} {ls : List α} (h : jz E w b ls) : xp E (.slice (some ⟨b, 0, none⟩) ls.length ls.length) ls w :=
 .inr (.inl ⟨b, 0, ls.length, rfl, Nat.le_refl _, fun _ => h.cells⟩)
theorem Jl (n : Nat) (x : α) : ∀ j, (xW E (List.replicate n x))[j]? = if j < n * k then (E.enc x)[j % k]? else none := by
 intro j
 by_cases h : j < n * k
 ·rw [if_pos h]
  obtain ⟨h1, h2, h3⟩ := uy E.pos h; have := Zc E (List.replicate n x) (j / k) x (by rw [List.getElem?_replicate, if_pos h1]) (j % k) h2; rw [← h3] at this; exact this
 ·rw [if_neg h, List.getElem?_eq_none (by rw [xE, List.length_replicate]; omega)]
/-- A row of zero elements made. -/
theorem ZE {K : Act → World → Prop} (p q : Operand) (ho : o.op = .makeSlice ST p q) (n : Nat) (hp : a.eval p = .int .i64 n) (hq : a.eval q = .int .i64 n) (hn : n ≤ 100000000) (hsm : n * k ≤ 16777216)
 (h : ∀ b w', w.heap.size ≤ b → b ≤ w.heap.size → jz E w' b (List.replicate n E.zero) → Below b w w' → w'.heap.size = b + 1 → K (a.put o.dst (.slice (some ⟨b, 0, none⟩) n n)) w') : o.wp Tryz.prog a w K Q := by
 obtain ⟨i, z, hi, hz, zf, hby, hzc⟩ := E.facts
 have hr := run_makeSlice (P := Tryz.prog) w ST T i z E.und hi hz .i64 .i64 n n (by omega) (Int.le_refl _) (by rw [zf]; simpa using hsm) (by
  have hm := Nat.mul_le_mul E.small hn; rw [hby]; have : ((E.bytes * n : Nat) : Int) ≤ ((1000 * 100000000 : Nat) : Int) := by omega
  rw [Int.natCast_mul] at this; omega) (by omega)
 unfold Oper.wp execOp
 simp only [ho, hp, hq, hr, Sem.run_bind, Sem.run_pure, Result.andThen_ok]
 refine (h _ _ (Nat.le_refl _) (Nat.le_refl _) ?_ ((Below.refl _ _).alloc (Nat.le_refl _) _) (World.size_alloc _ _))
 unfold jz zK
 rw [zO, if_pos rfl]
 congr 2
 apply Array.ext_getElem?
 intro j
 have hR : (xW E (List.replicate n E.zero)).toArray[j]? = if j < n * k then (E.enc E.zero)[j % k]? else none := by rw [List.getElem?_toArray, Jl]
 rw [hR, hzc, zf, Int.toNat_natCast]
 unfold madeCells
 by_cases hj : j < n * k
 ·have hm : j % k < (E.enc E.zero).size := by rw [E.size]; exact Nat.mod_lt _ E.pos
  rw [if_pos hj, Array.getElem?_map, Array.getElem?_eq_getElem (by simpa using hj), Array.getElem?_eq_getElem hm]; simp [E.size, getElem!_pos, hm, Nat.mod_lt _ E.pos]
 ·rw [if_neg hj, Array.getElem?_eq_none (by simp; omega)]
end
end
end Go.Proofs.YtepelndbbhdofaaGreatDoor
/- Rows of pixels; images; contract of the closure of Image of package raster. -/
namespace Go.Proofs.YtepelndbbhdofaaGreatDoor
open Go.RowKit Go.Shelf Pl
set_option linter.unusedVariables false
set_option linter.unusedSimpArgs false
set_option maxRecDepth 20000
def kI : Xq Px 4 28 115 where
 enc := pxA
 bytes := 4
 zero := Px.zero
 size := fun _ => rfl
 one := fun x u hu => by
  have : u ∈ [Value.int .u8 x.r, .int .u8 x.g, .int .u8 x.b, .int .u8 x.a] := hu; simp at this
  rcases this with rfl | rfl | rfl | rfl <;> rfl
 pos := by omega
 small := by omega
 und := Tryz.underlying115
 info := by kernel_rfl
 zer := by kernel_rfl
theorem zdi (ls : List Px) : ∀ (i : Nat) (p : Px), i < ls.length → ((((xW kI ls).set (i * 4) (.int .u8 p.r)).set (i * 4 + 1) (.int .u8 p.g)).set (i * 4 + 2) (.int .u8 p.b)).set (i * 4 + 3) (.int .u8 p.a) = xW kI (ls.set i p) := by
 induction ls with
 | nil => intro i p h; exact absurd h (Nat.not_lt_zero _)
 | cons q r ih =>
  intro i p h; cases i with
  | zero => rfl
  | succ i =>
   have e : ∀ j, (i + 1) * 4 + j = (i * 4 + j) + 4 := fun j => by omega
   have := ih i p (by simpa using h); show ((((((Value.int .u8 q.r :: .int .u8 q.g :: .int .u8 q.b :: .int .u8 q.a :: xW kI r).set ((i + 1) * 4) _).set ((i + 1) * 4 + 1) _).set ((i + 1) * 4 + 2) _).set ((i + 1) * 4 + 3) _)) = Value.int .u8 q.r :: .int .u8 q.g :: .int .u8 q.b :: .int .u8 q.a :: xW kI (r.set i p)
   rw [show (i + 1) * 4 = (i * 4) + 4 by omega, show i * 4 + 4 + 1 = i * 4 + 1 + 4 by omega, show i * 4 + 4 + 2 = i * 4 + 2 + 4 by omega, show i * 4 + 4 + 3 = i * 4 + 3 + 4 by omega]; simp only [List.set_cons_succ]; rw [this]
theorem jz.set4 {w : World} {b i : Nat} {ls : List Px} (h : jz kI w b ls) (hi : i < ls.length) (p : Px) :
  jz kI ((((w.setCell ⟨b, i * 4, none⟩ (.int .u8 p.r)).setCell ⟨b, i * 4 + 1, none⟩ (.int .u8 p.g)).setCell ⟨b, i * 4 + 2, none⟩ (.int .u8 p.b)).setCell ⟨b, i * 4 + 3, none⟩ (.int .u8 p.a)) b (ls.set i p) := by
 unfold jz zK
 rw [← zdi ls i p hi]
 have := heap_setCell_same _ b (i * 4 + 3) _ _ (.int .u8 p.a) (heap_setCell_same _ b (i * 4 + 2) _ _ (.int .u8 p.b) (heap_setCell_same _ b (i * 4 + 1) _ _ (.int .u8 p.g) (heap_setCell_same _ b (i * 4) _ _ (.int .u8 p.r) h)))
 simpa only [List.setIfInBounds_toArray] using this
theorem JN {w : World} {b i : Nat} {ls : List Px} (h : jz kI w b ls) (hi : i < ls.length) (p : Px) : (Instr.storeAt 28 (.pointer (some ⟨b, i * 4, none⟩)) (Px.v p)).run Tryz.prog w =
  .ok () ((((w.setCell ⟨b, i * 4, none⟩ (.int .u8 p.r)).setCell ⟨b, i * 4 + 1, none⟩ (.int .u8 p.g)).setCell ⟨b, i * 4 + 2, none⟩ (.int .u8 p.b)).setCell ⟨b, i * 4 + 3, none⟩ (.int .u8 p.a)) := by
 obtain ⟨q, hq⟩ : ∃ q, ls[i]? = some q := ⟨_, List.getElem?_eq_getElem hi⟩
 have hc := h.cells.2 i q hq
 have c0 : w.cell? ⟨b, i * 4, none⟩ = some (.int .u8 q.r) := by have := hc 0 (by omega); rw [Nat.zero_add, Nat.add_zero] at this; exact this
 have c1 : w.cell? ⟨b, i * 4 + 1, none⟩ = some (.int .u8 q.g) := by have := hc 1 (by omega); rw [Nat.zero_add] at this; exact this
 have c2 : w.cell? ⟨b, i * 4 + 2, none⟩ = some (.int .u8 q.b) := by have := hc 2 (by omega); rw [Nat.zero_add] at this; exact this
 have c3 : w.cell? ⟨b, i * 4 + 3, none⟩ = some (.int .u8 q.a) := by have := hc 3 (by omega); rw [Nat.zero_add] at this; exact this
 have hf := fun j => zK.frozen h j
 simp [go_sem, c0, c1, c2, c3, hf, Px.v]
theorem vQ {ops : Array Oper} {rest : List Oper} {o : Oper} {a : Act} {w : World} {Q : Exit → Act → World → Prop} (hg : o.guard = none) (x y : Operand) (ho : o.op = .store 28 x y) (b j : Nat) (hx : a.eval x = .pointer (some ⟨b, j, none⟩)) (q : Px) (hy : a.eval y = Px.v q) {ls : List Px} (ht : jz kI w b ls) (i : Nat) (hi : i < ls.length) (hj : j = i * 4)
  (h : ∀ w', jz kI w' b (ls.set i q) → qV b w w' → w'.heap.size = w.heap.size → wpList Tryz.prog ops Q rest (a.put o.dst undef) w') : wpList Tryz.prog ops Q (o :: rest) a w := by
 subst hj
 refine qk hg x y ho _ ?_ (h _ (ht.set4 hi q) (((((qV.refl b w).setCell _).setCell _).setCell _).setCell _) (by simp only [World.size_setCell]))
 rw [hx, hy]
 exact JN ht hi q
/-! ### The closure of Image -/
def kf (c : Rc) (x y : Int) : Int := (y - c.y0) * (c.x1 - c.x0) + x - c.x0
def vj (c : Rc) (s : List Px) (x y : Int) (p : Px) : List Px × Px := (if qU c x y = true then s.set (kf c x y).toNat p else s, p)
def xA (c : Rc) (u : Value) : Array Value := #[.int .i64 c.x0, .int .i64 c.y0, .int .i64 c.x1, .int .i64 c.y1, u]
/-- A rectangle that fits. -/
structure xo (c : Rc) : Prop where
 h1 : c.x0 < c.x1
 h2 : c.y0 < c.y1
 h3 : -65536 ≤ c.x0
 h4 : -65536 ≤ c.y0
 h5 : c.x1 ≤ 65536
 h6 : c.y1 ≤ 65536
 h7 : c.x1 - c.x0 ≤ 256
 h8 : c.y1 - c.y0 ≤ 256
theorem yM {c : Rc} (h : jL c = 0) : xo c := by
 unfold jL at h
 split at h
 ·rename_i hv
  obtain ⟨⟨a1, a2⟩, a3, a4, a5, a6⟩ := (vH c).1 hv; split at h
  ·cases h
  ·exact ⟨a1, a2, a3, a4, a5, a6, by omega, by omega⟩
 ·cases h
theorem xo.valid {c : Rc} (h : xo c) : j9 c = true := (vH c).2 ⟨⟨h.h1, h.h2⟩, h.h3, h.h4, h.h5, h.h6⟩
def areaN (c : Rc) : Nat := ((c.x1 - c.x0) * (c.y1 - c.y0)).toNat
theorem WD {c : Rc} (hf : xo c) {x y : Int} (hh : qU c x y = true) : 0 ≤ (y - c.y0) * (c.x1 - c.x0) ∧ (y - c.y0) * (c.x1 - c.x0) ≤ 65536 ∧ 0 ≤ kf c x y ∧ (kf c x y).toNat < areaN c := by
 have hh := of_decide_eq_true hh
 obtain ⟨a1, a2, a3, a4, a5, a6, a7, a8⟩ := hf
 unfold kf areaN
 obtain ⟨W, hW⟩ : ∃ W : Nat, c.x1 - c.x0 = W := ⟨(c.x1 - c.x0).toNat, by omega⟩
 obtain ⟨Y, hY⟩ : ∃ Y : Nat, y - c.y0 = Y := ⟨(y - c.y0).toNat, by omega⟩
 obtain ⟨H, hH⟩ : ∃ H : Nat, c.y1 - c.y0 = H := ⟨(c.y1 - c.y0).toNat, by omega⟩
 obtain ⟨X, hX⟩ : ∃ X : Nat, x - c.x0 = X := ⟨(x - c.x0).toNat, by omega⟩
 rw [hW, hY, hH]
 have e1 : ((Y : Int) * (W : Int)) + x - c.x0 = ((Y * W + X : Nat) : Int) := by rw [Int.natCast_add, Int.natCast_mul]; omega
 have e2 : ((W : Int) * (H : Int)) = ((W * H : Nat) : Int) := by rw [Int.natCast_mul]
 have e3 : ((Y : Int) * (W : Int)) = ((Y * W : Nat) : Int) := by rw [Int.natCast_mul]
 rw [e1, e2, e3]
 have m1 : Y * W ≤ 256 * 256 := Nat.mul_le_mul (by omega) (by omega)
 have m2 : (Y + 1) * W ≤ H * W := Nat.mul_le_mul_right W (by omega)
 rw [Nat.succ_mul] at m2
 have m3 : W * H = H * W := Nat.mul_comm _ _
 omega
theorem zfU {w : World} {b : Nat} {c : Rc} (h : zK 38 w b (jV c)) : w.cell? ⟨b, 0, none⟩ = some (.int .i64 c.x0) := h.cell 0 rfl
theorem zfW {w : World} {b : Nat} {c : Rc} (h : zK 38 w b (jV c)) : w.cell? ⟨b, 1, none⟩ = some (.int .i64 c.y0) := h.cell 1 rfl
theorem zfV {w : World} {b : Nat} {c : Rc} (h : zK 38 w b (jV c)) : w.cell? ⟨b, 2, none⟩ = some (.int .i64 c.x1) := h.cell 2 rfl
theorem uA {w : World} {b : Nat} {c : Rc} {u : Value} (h : zK 117 w b (xA c u)) : w.cell? ⟨b, 4, none⟩ = some u := h.cell 4 rfl
theorem xh {w : World} {b j : Nat} {v : Value} (h : w.cell? ⟨b, j, none⟩ = some v) : (Instr.loadAt 115 (.pointer (some ⟨b, j, none⟩))).run Tryz.prog w = .ok v w := by
 simp [go_sem, h]
set_option maxHeartbeats 1000000 in
theorem zbK (c : Rc) (hf : xo c) (s : List Px) (hs : s.length = areaN c) (x y : Int) (p : Px) (bc bm cb : Nat) (w : World) (r0 : zK 38 w bc (jV c)) (m0 : zK 117 w bm (xA c (.slice (some ⟨cb, 0, none⟩) (areaN c) (areaN c)))) (row : jz kI w cb s) (h1 : bc ≠ cb) (h2 : bm ≠ cb) :
  Calls Tryz.prog 127 #[.int .i64 x, .int .i64 y, Px.v p, .pointer (some ⟨bc, 0, none⟩), .pointer (some ⟨bm, 0, none⟩)] w fun e w' => e = .returned (Px.v (vj c s x y p).2) ∧ (zK 38 w' bc (jV c) ∧ zK 117 w' bm (xA c (.slice (some ⟨cb, 0, none⟩) (areaN c) (areaN c))) ∧ jz kI w' cb (vj c s x y p).1) ∧ qV cb w w' := by
 have B := kH.refl cb w
 have hb1 := r0.lt
 have hb2 := m0.lt
 have hb3 := row.lt
 cases hh : qU c x y with
 | true =>
  have e1 := Lib.hid (show vj c s x y p = (s.set (kf c x y).toNat p, p) from by unfold vj; rw [hh]; rfl)
  obtain ⟨m1, m2, m3, m4⟩ := WD hf hh; have hix : (kf c x y).toNat < s.length := by rw [hs]; exact m4
  have hh2 := of_decide_eq_true hh; obtain ⟨g1, g2, g3, g4⟩ := hh2; obtain ⟨a1, a2, a3, a4, a5, a6, a7, a8⟩ := hf; have hidx : (y - c.y0) * (c.x1 - c.x0) + x - c.x0 = kf c x y := rfl; have m5 : kf c x y < (areaN c : Int) := by omega
  have m6 : (areaN c : Int) ≤ 65536 := by
   unfold areaN; have := j5 (a := c.x1 - c.x0) (b := c.y1 - c.y0) (m := 256) (k := 256) (by omega) (by omega) (by omega) (by omega); omega
  go_enter Tryz.func127, Tryz.ntmps127
  go_wp2_with (first | (refine qf rfl _ _ rfl _ rfl (_) rfl q2 ?_; clear q2; intro wn ht ze zg; have zf := B.size; replace zg := Nat.le_of_eq zg.symm; replace B := kH.store B ze (by omega); (try replace r0 := r0.of_eq (ze.block _ r0.lt (by omega))); (try replace m0 := m0.of_eq (ze.block _ m0.lt (by omega))); (try replace q1 := q1.of_eq (ze.block _ q1.lt (by omega))); (try replace row := row.of_eq (ze.block _ row.lt (by omega))); have q2 := ht; clear ht; simp only [zo]) | (refine vQ rfl _ _ rfl _ _ rfl _ rfl row (kf c x y).toNat hix (by first | rfl | omega) ?_; clear row; intro wn ht ze zg; have zf := B.size; replace zg := Nat.le_of_eq zg.symm; replace B := kH.chg B ze; (try replace r0 := r0.of_eq (ze.block _ r0.lt (by omega))); (try replace m0 := m0.of_eq (ze.block _ m0.lt (by omega))); (try replace q1 := q1.of_eq (ze.block _ q1.lt (by omega))); (try replace q2 := q2.of_eq (ze.block _ q2.lt (by omega))); have row := ht; clear ht; simp only [zo]) | (refine jI rfl _ rfl _ rfl q1 ?_; simp only [zo]) | (refine zp (t := 115) rfl _ rfl _ _ _ rfl (xh (uA m0)) (by rfl) ?_; simp only [zo]) | (refine zp (t := 3) rfl _ rfl _ _ _ rfl (zu (zfU r0)) (by first | rfl | omega) ?_; simp only [zo]) | (refine zp (t := 3) rfl _ rfl _ _ _ rfl (zu (zfW r0)) (by first | rfl | omega) ?_; simp only [zo]) | (refine zp (t := 3) rfl _ rfl _ _ _ rfl (zu (zfV r0)) (by first | rfl | omega) ?_; simp only [zo]) | (go_at_call 25; refine (V8 c x y _).mono ?_; rintro e wn ⟨rfl, za⟩; have zf := B.size; have zg := za.size; replace B := B.trans (za.mono B.size); (try replace r0 := r0.below za); (try replace m0 := m0.below za); (try replace q1 := q1.below za); (try replace q2 := q2.below za); (try replace row := row.below za)) | (refine zp (t := 38) rfl _ rfl _ _ _ rfl (zv r0 Tryz.isAgg38 (by kernel_rfl)) (by rfl) ?_; simp only [zo]) | (have _ := q1; refine qq rfl rfl ?_; intro b_q2 wn zb zd ht za zg; have zf := B.size; replace B := B.trans (za.mono (by omega)); have zk := Nat.lt_of_lt_of_eq (Nat.lt_succ_self _) zg.symm; clear zg; (try have zh := r0.lt); (try replace r0 := r0.below (za.mono zb)); (try have zh := m0.lt); (try replace m0 := m0.below (za.mono zb)); (try have zh := q1.lt); (try replace q1 := q1.below (za.mono zb)); (try have zh := q2.lt); (try replace q2 := q2.below (za.mono zb)); (try have zh := row.lt); (try replace row := row.below (za.mono zb)); have q2 := ht; clear ht; simp only [zo]) | (refine x3 rfl _ rfl _ rfl ?_; intro b_q1 wn zb zd ht za zg; have zf := B.size; replace B := B.trans (za.mono (by omega)); have zk := Nat.lt_of_lt_of_eq (Nat.lt_succ_self _) zg.symm; clear zg; (try have zh := r0.lt); (try replace r0 := r0.below (za.mono zb)); (try have zh := m0.lt); (try replace m0 := m0.below (za.mono zb)); (try have zh := q1.lt); (try replace q1 := q1.below (za.mono zb)); (try have zh := q2.lt); (try replace q2 := q2.below (za.mono zb)); (try have zh := row.lt); (try replace row := row.below (za.mono zb)); have q1 := ht; clear ht; simp only [zo]) | fail)
  refine bodyPost_ret (jY rfl _ _ (b_q2) rfl q2) rfl ?_; exact ⟨by rw [e1.out], by rw [e1.out]; exact ⟨r0, m0, row⟩, B.toChg⟩
 | false =>
  have e1 := Lib.hid (show vj c s x y p = (s, p) from by unfold vj; rw [hh]; rfl)
  go_enter Tryz.func127, Tryz.ntmps127
  go_wp2_with (first | (refine qf rfl _ _ rfl _ rfl (_) rfl q2 ?_; clear q2; intro wn ht ze zg; have zf := B.size; replace zg := Nat.le_of_eq zg.symm; replace B := kH.store B ze (by omega); (try replace r0 := r0.of_eq (ze.block _ r0.lt (by omega))); (try replace m0 := m0.of_eq (ze.block _ m0.lt (by omega))); (try replace q1 := q1.of_eq (ze.block _ q1.lt (by omega))); (try replace row := row.of_eq (ze.block _ row.lt (by omega))); have q2 := ht; clear ht; simp only [zo]) | (refine jI rfl _ rfl _ rfl q1 ?_; simp only [zo]) | (go_at_call 25; refine (V8 c x y _).mono ?_; rintro e wn ⟨rfl, za⟩; have zf := B.size; have zg := za.size; replace B := B.trans (za.mono B.size); (try replace r0 := r0.below za); (try replace m0 := m0.below za); (try replace q1 := q1.below za); (try replace q2 := q2.below za); (try replace row := row.below za)) | (refine zp (t := 38) rfl _ rfl _ _ _ rfl (zv r0 Tryz.isAgg38 (by kernel_rfl)) (by rfl) ?_; simp only [zo]) | (have _ := q1; refine qq rfl rfl ?_; intro b_q2 wn zb zd ht za zg; have zf := B.size; replace B := B.trans (za.mono (by omega)); have zk := Nat.lt_of_lt_of_eq (Nat.lt_succ_self _) zg.symm; clear zg; (try have zh := r0.lt); (try replace r0 := r0.below (za.mono zb)); (try have zh := m0.lt); (try replace m0 := m0.below (za.mono zb)); (try have zh := q1.lt); (try replace q1 := q1.below (za.mono zb)); (try have zh := q2.lt); (try replace q2 := q2.below (za.mono zb)); (try have zh := row.lt); (try replace row := row.below (za.mono zb)); have q2 := ht; clear ht; simp only [zo]) | (refine x3 rfl _ rfl _ rfl ?_; intro b_q1 wn zb zd ht za zg; have zf := B.size; replace B := B.trans (za.mono (by omega)); have zk := Nat.lt_of_lt_of_eq (Nat.lt_succ_self _) zg.symm; clear zg; (try have zh := r0.lt); (try replace r0 := r0.below (za.mono zb)); (try have zh := m0.lt); (try replace m0 := m0.below (za.mono zb)); (try have zh := q1.lt); (try replace q1 := q1.below (za.mono zb)); (try have zh := q2.lt); (try replace q2 := q2.below (za.mono zb)); (try have zh := row.lt); (try replace row := row.below (za.mono zb)); have q1 := ht; clear ht; simp only [zo]) | fail)
  refine bodyPost_ret (jY rfl _ _ (b_q2) rfl q2) rfl ?_; exact ⟨by rw [e1.out], by rw [e1.out]; exact ⟨r0, m0, row⟩, B.toChg⟩
/- Contract of Image of package raster. -/
theorem zcw (c : Rc) (s : List Px) (x y : Int) (p : Px) : (vj c s x y p).1.length = s.length := by
 unfold vj
 show (if _ then _ else _ : List Px).length = _
 split
 ·exact List.length_set
 ·rfl
theorem zeq (c : Rc) (s : List Px) (x y : Int) (p : Px) (h : p.ok) : (vj c s x y p).2.ok := h
/-- The pixels that Image of package raster makes. -/
def zfd (c : Rc) (ks : List TA) : List Px := (kh (vj c) ks (List.replicate (areaN c) Px.zero) ks.length).1
theorem yi {w : World} {b : Nat} {c : Rc} (h : zK 38 w b (jV c)) : (Instr.loadAt 38 (.pointer (some ⟨b, 0, none⟩))).run Tryz.prog w = .ok (.agg #[.int .i64 c.x0, .int .i64 c.y0, .int .i64 c.x1, .int .i64 c.y1]) w :=
 zv h Tryz.isAgg38 (by kernel_rfl)
theorem Zg {w : World} {b : Nat} {c : Rc} {u : Value} (h : zK 117 w b (xA c u)) : (Instr.loadAt 117 (.pointer (some ⟨b, 0, none⟩))).run Tryz.prog w = .ok (.agg #[.int .i64 c.x0, .int .i64 c.y0, .int .i64 c.x1, .int .i64 c.y1, u]) w :=
 zv h Tryz.isAgg117 (by kernel_rfl)
theorem yz (w : World) (o : Oper) (ho : o.op = .alloc 117) (ev : Operand → Value) : (execOp ev o).run Tryz.prog w = .ok (.value (.pointer (some ⟨w.heap.size, 0, none⟩))) (w.alloc (.cells (xA Rc.zero (.slice none 0 0)) 117)) := by
 obtain ⟨d, p, t, ps, af, gd⟩ := o
 simp only at ho
 subst ho
 kernel_rfl
theorem QG {c : Rc} (hf : xo c) : vL c = (areaN c : Int) := by
 obtain ⟨a1, a2, a3, a4, a5, a6, a7, a8⟩ := hf
 have hE : qn c = false := by unfold qn; exact decide_eq_false (by omega)
 have hm := j5 (a := c.x1 - c.x0) (b := c.y1 - c.y0) (m := 256) (k := 256) (by omega) (by omega) (by omega) (by omega)
 unfold vL areaN
 rw [hE]
 show (c.x1 - c.x0) * (c.y1 - c.y0) = _
 omega
theorem Qm {c : Rc} (hf : xo c) : 1 ≤ areaN c ∧ areaN c ≤ 65536 := by
 obtain ⟨a1, a2, a3, a4, a5, a6, a7, a8⟩ := hf
 unfold areaN
 have hm := j5 (a := c.x1 - c.x0) (b := c.y1 - c.y0) (m := 256) (k := 256) (by omega) (by omega) (by omega) (by omega)
 have hp : 0 < (c.x1 - c.x0) * (c.y1 - c.y0) := Int.mul_pos (by omega) (by omega)
 omega
/- The sanity check of the raster laws: its values. -/
def sP : Px := ⟨9, 0, 0, 255⟩
def sQ : Px := ⟨1, 0, 0, 0⟩
def sC : Rc := ⟨-2, 9, 0, 10⟩
theorem s1 : zdq [] (-1) 9 sP = 0 := by decide
theorem s2 : KU [] (-1) 9 sP = [⟨-1, 1, qF (ZI zT 7 1 sP)⟩] := by rfl
def sR1 : List TA := [⟨-1, 1, qF (ZI zT 7 1 sP)⟩]
theorem s3 : z2 sR1 = true := by decide
theorem s4 : qc sR1 = sR1 := xy s3
theorem s5 : zdq sR1 (-1) 9 sQ = 0 := by decide
theorem s6 : KU sR1 (-1) 9 sQ = [] := by rfl
theorem s7 : zdq sR1 65536 0 sP = 1 := by decide
theorem s8 : jL sC = 0 := by decide
/-! ### '==' of rectangles -/
instance decRc : DecidableEq Rc := fun a b =>
 if h : a.x0 = b.x0 ∧ a.y0 = b.y0 ∧ a.x1 = b.x1 ∧ a.y1 = b.y1 then isTrue (by obtain ⟨a1, a2, a3, a4⟩ := a; obtain ⟨b1, b2, b3, b4⟩ := b; obtain ⟨rfl, rfl, rfl, rfl⟩ := h; rfl)
 else isFalse fun e => h (by rw [e]; exact ⟨rfl, rfl, rfl, rfl⟩)
@[go_sem] theorem zgN (op : BinOp) (p q : Operand) (a b : Array Value) (w : World) : (eqGuard op 38 p q (.agg a) (.agg b)).run Tryz.prog w = .ok () w := run_eqGuard_agg w op 38 p q _ _ (by kernel_rfl)
theorem zdd {g o : Nat} {ls : List Px} {w : World} (h : zW kI g o ls w) {i : Nat} {x : Px} (hi : ls[i]? = some x) : (Instr.loadAt 28 (.pointer (some ⟨g, o + i * 4, none⟩))).run Tryz.prog w = .ok (Px.v x) w :=
 h.load Tryz.isAgg28 hi
/-! ### The walk -/
/- Contracts of gouacheref04.Made, gouacheref07.Made. -/
section
variable {ops : Array Oper} {rest : List Oper} {o : Oper} {a : Act} {w : World} {Q : Exit → Act → World → Prop}
theorem kF (hg : o.guard = none) (x y : Operand) (ho : o.op = .store 5 x y) (b : Nat) (hx : a.eval x = .pointer (some ⟨b, 3, none⟩)) (n : Int) (hy : a.eval y = .int .u8 n) {p : Px} (ht : jF w b p)
  (h : ∀ w', jF w' b ⟨p.r, p.g, p.b, n⟩ → qV b w w' → w'.heap.size = w.heap.size → wpList Tryz.prog ops Q rest (a.put o.dst undef) w') : wpList Tryz.prog ops Q (o :: rest) a w := by
 refine qk hg x y ho (w.setCell ⟨b, 3, none⟩ (.int .u8 n)) ?_ (h _ ?_ ((qV.refl b w).setCell _) (by simp only [World.size_setCell]))
 ·rw [hx, hy]
  obtain ⟨c0, c1, c2, c3⟩ := ht.cells; have hf := ht; unfold jF at hf; have hfr := zK.frozen (t := 28) hf 3; simp [go_sem, c3, hfr]
 ·have := heap_setCell_same w b 3 _ _ (.int .u8 n) ht
  exact this
end
def Kh (u : Int) : Int := if u % 5 = 1 then 255 else if u % 5 = 3 then 0 else u / 16777216
def kc (x : Int) : Px := ⟨x % 256, x % 4294967296 / 256 % 256, x % 4294967296 / 65536 % 256, Kh (x % 4294967296)⟩
theorem vm (x : Int) : (kc x).ok := by
 unfold kc Px.ok Kh
 refine ⟨⟨?_, ?_⟩, ⟨?_, ?_⟩, ⟨?_, ?_⟩, ?_, ?_⟩ <;> simp only <;> (try split) <;> (try split) <;> omega
set_option maxHeartbeats 1000000 in
theorem Wm (x : Int) (w : World) : Calls Tryz.prog 50 #[.int .i64 x] w fun e w' => e = .returned (Px.v (kc x)) ∧ Below w.heap.size w w' := by
 have B := Below.refl w.heap.size w
 by_cases h1 : x % 4294967296 % 5 = 1
 ·have e1 : kc x = ⟨x % 256, x % 4294967296 / 256 % 256, x % 4294967296 / 65536 % 256, 255⟩ := by unfold kc Kh; rw [if_pos h1]
  have d1 : (x % 4294967296 % 5 == 1) = true := by simp; omega
  have d3 : (x % 4294967296 % 5 == 3) = false := by simp; omega
  rw [e1]; clear e1 h1; go_enter Tryz.func50, Tryz.ntmps50
  go_wp2_with (first | (refine qf rfl _ _ rfl _ rfl (⟨_, _, _, _⟩) rfl q2 (qG B (by omega) ?_); clear q2 B; intro wn q2 ze zf zg B; (try replace q4 := q4.of_eq (ze.block _ q4.lt (by omega))); simp only [zo]) | (refine kF rfl _ _ rfl _ rfl _ rfl q4 (qG B (by omega) ?_); clear q4 B; intro wn q4 ze zf zg B; (try replace q2 := q2.of_eq (ze.block _ q2.lt (by omega))); simp only [zo]) | (refine jI rfl _ rfl _ rfl q4 ?_; simp only [zo]) | (refine qf rfl _ _ rfl _ rfl (⟨_, _, _, _⟩) rfl q4 (qG B (by omega) ?_); clear q4 B; intro wn q4 ze zf zg B; (try replace q2 := q2.of_eq (ze.block _ q2.lt (by omega))); simp only [zo]) | (have _ := q2; refine qq rfl rfl (zY B ?_); clear B; intro b_q4 wn zb zd q4 za zf zk B; (try have zh := q2.lt); (try replace q2 := q2.below (za.mono zb)); (try have zh := q4.lt); (try replace q4 := q4.below (za.mono zb)); simp only [zo]) | (refine qq rfl rfl (zY B ?_); clear B; intro b_q2 wn zb zd q2 za zf zk B; (try have zh := q2.lt); (try replace q2 := q2.below (za.mono zb)); (try have zh := q4.lt); (try replace q4 := q4.below (za.mono zb)); simp only [zo]) | fail)
  refine bodyPost_ret (jY rfl _ _ (b_q2) rfl q2) rfl ?_; exact ⟨rfl, B⟩
 ·have d1 : (x % 4294967296 % 5 == 1) = false := by simp; omega
  by_cases h3 : x % 4294967296 % 5 = 3
  ·have e1 : kc x = ⟨x % 256, x % 4294967296 / 256 % 256, x % 4294967296 / 65536 % 256, 0⟩ := by unfold kc Kh; rw [if_neg h1, if_pos h3]
   have d3 : (x % 4294967296 % 5 == 3) = true := by simp; omega
   rw [e1]; clear e1 h1 h3; go_enter Tryz.func50, Tryz.ntmps50
   go_wp2_with (first | (refine qf rfl _ _ rfl _ rfl (⟨_, _, _, _⟩) rfl q2 (qG B (by omega) ?_); clear q2 B; intro wn q2 ze zf zg B; (try replace q4 := q4.of_eq (ze.block _ q4.lt (by omega))); simp only [zo]) | (refine kF rfl _ _ rfl _ rfl _ rfl q4 (qG B (by omega) ?_); clear q4 B; intro wn q4 ze zf zg B; (try replace q2 := q2.of_eq (ze.block _ q2.lt (by omega))); simp only [zo]) | (refine jI rfl _ rfl _ rfl q4 ?_; simp only [zo]) | (refine qf rfl _ _ rfl _ rfl (⟨_, _, _, _⟩) rfl q4 (qG B (by omega) ?_); clear q4 B; intro wn q4 ze zf zg B; (try replace q2 := q2.of_eq (ze.block _ q2.lt (by omega))); simp only [zo]) | (have _ := q2; refine qq rfl rfl (zY B ?_); clear B; intro b_q4 wn zb zd q4 za zf zk B; (try have zh := q2.lt); (try replace q2 := q2.below (za.mono zb)); (try have zh := q4.lt); (try replace q4 := q4.below (za.mono zb)); simp only [zo]) | (refine qq rfl rfl (zY B ?_); clear B; intro b_q2 wn zb zd q2 za zf zk B; (try have zh := q2.lt); (try replace q2 := q2.below (za.mono zb)); (try have zh := q4.lt); (try replace q4 := q4.below (za.mono zb)); simp only [zo]) | fail)
   refine bodyPost_ret (jY rfl _ _ (b_q2) rfl q2) rfl ?_; exact ⟨rfl, B⟩
  ·have e1 : kc x = ⟨x % 256, x % 4294967296 / 256 % 256, x % 4294967296 / 65536 % 256, x % 4294967296 / 16777216⟩ := by unfold kc Kh; rw [if_neg h1, if_neg h3]
   have d3 : (x % 4294967296 % 5 == 3) = false := by simp; omega
   rw [e1]; clear e1 h1 h3; go_enter Tryz.func50, Tryz.ntmps50
   go_wp2_with (first | (refine qf rfl _ _ rfl _ rfl (⟨_, _, _, _⟩) rfl q2 (qG B (by omega) ?_); clear q2 B; intro wn q2 ze zf zg B; (try replace q4 := q4.of_eq (ze.block _ q4.lt (by omega))); simp only [zo]) | (refine kF rfl _ _ rfl _ rfl _ rfl q4 (qG B (by omega) ?_); clear q4 B; intro wn q4 ze zf zg B; (try replace q2 := q2.of_eq (ze.block _ q2.lt (by omega))); simp only [zo]) | (refine jI rfl _ rfl _ rfl q4 ?_; simp only [zo]) | (refine qf rfl _ _ rfl _ rfl (⟨_, _, _, _⟩) rfl q4 (qG B (by omega) ?_); clear q4 B; intro wn q4 ze zf zg B; (try replace q2 := q2.of_eq (ze.block _ q2.lt (by omega))); simp only [zo]) | (have _ := q2; refine qq rfl rfl (zY B ?_); clear B; intro b_q4 wn zb zd q4 za zf zk B; (try have zh := q2.lt); (try replace q2 := q2.below (za.mono zb)); (try have zh := q4.lt); (try replace q4 := q4.below (za.mono zb)); simp only [zo]) | (refine qq rfl rfl (zY B ?_); clear B; intro b_q2 wn zb zd q2 za zf zk B; (try have zh := q2.lt); (try replace q2 := q2.below (za.mono zb)); (try have zh := q4.lt); (try replace q4 := q4.below (za.mono zb)); simp only [zo]) | fail)
   refine bodyPost_ret (jY rfl _ _ (b_q2) rfl q2) rfl ?_; exact ⟨rfl, B⟩
/- Slices of integers; contracts of gouacheref07.Made, pick. -/
def inE : Xq Int 1 3 22 where
 enc := fun x => #[.int .i64 x]
 bytes := 8
 zero := 0
 size := fun _ => rfl
 one := fun x u hu => by
  have : u ∈ [Value.int .i64 x] := hu; rw [List.mem_singleton.1 this]; rfl
 pos := by omega
 small := by omega
 und := Tryz.underlying22
 info := by kernel_rfl
 zer := by kernel_rfl
theorem X4 {g o : Nat} {L : List Int} {w : World} (h : zW inE g o L w) {i : Nat} {x : Int} (hi : L[i]? = some x) : w.cell? ⟨g, o + i, none⟩ = some (.int .i64 x) := by
 have := h.2 i x hi 0 (by omega)
 rw [Nat.mul_one, Nat.add_zero] at this
 exact this
def ZA (L : List Int) (i : Nat) : Int := L.getD i 0
theorem getD_some {L : List Int} {i : Nat} (h : i < L.length) : L[i]? = some (ZA L i) := by
 unfold ZA
 rw [List.getD_eq_getElem?_getD, List.getElem?_eq_getElem h]; rfl
def zcM (L : List Int) (i : Nat) : Int := ZA L (i * L.length / 64)
def zgS (L : List Int) (i : Nat) : Px := if zcM L i % 4 = 2 then jj (kc (zcM L i + 7919 * i)) else jj (kc (zcM L i))
def zff (L : List Int) : Nat → Px := if L.length = 0 then zT else zgS L
def qX (L : List Int) (i : Nat) (m : Int) : Int := if i < L.length then ZA L i % 1048576 % m else 0
set_option maxHeartbeats 1000000 in
theorem zfz (v : Value) (L : List Int) (i : Nat) (m : Int) (w : World) (h : xp inE v L w) (hn : L.length ≤ 17592186044416) (hm : 0 < m) (hm2 : m ≤ 100) : Calls Tryz.prog 71 #[v, .int .i64 i, .int .i64 m] w fun e w' => e = .returned (.int .i64 (qX L i m)) ∧ w' = w := by
 obtain ⟨a, c, rfl, hc⟩ := h.len
 by_cases hi : i < L.length
 ·have e1 : qX L i m = ZA L i % 1048576 % m := by unfold qX; rw [if_pos hi]
  rw [e1]; obtain ⟨g, o, rfl, rc⟩ := h.at (by omega); have hix := hi; have b1 := vM (ZA L i); have d1 : decide ((i : Int) < (L.length : Int)) = true := decide_eq_true (by omega); go_enter Tryz.func71, Tryz.ntmps71
  go_wp2_with (first | (refine zp (t := 3) rfl _ rfl _ _ _ rfl (zu (X4 rc (getD_some hix))) (by first | with_reducible rfl | omega) ?_; simp only [zo]) | fail)
  go_ret; exact ⟨rfl, rfl⟩
 ·have e1 : qX L i m = 0 := by unfold qX; rw [if_neg hi]
  have d1 : decide ((i : Int) < (L.length : Int)) = false := decide_eq_false (by omega); rw [e1]; go_enter Tryz.func71, Tryz.ntmps71
  go_wp2; go_ret; exact ⟨rfl, rfl⟩
/- Contract of gouacheref08.Made. -/
theorem zAB (L : List Int) (i : Nat) : 0 ≤ qX L i 48 ∧ qX L i 48 < 48 := by
 unfold qX; split <;> omega
theorem uN (v : Value) (L : List Int) (i : Nat) (j : Int) (hj : j = i) (w : World) (h : xp inE v L w) (hn : L.length ≤ 17592186044416) : Calls Tryz.prog 71 #[v, .int .i64 j, .int .i64 48] w fun e w' => e = .returned (.int .i64 (qX L i 48)) ∧ Below w.heap.size w w' := by
 subst hj
 exact (zfz v L i 48 w h hn (by omega) (by omega)).mono fun e w' ⟨he, hw⟩ => ⟨he, hw ▸ Below.refl _ _⟩
/-- The raster that Made of gouacheref08 builds, after k rounds. -/
def xB (L : List Int) : Nat → List TA
 | 0 => []
 | k + 1 => if 3 * k + 2 < L.length then KU (xB L k) (qX L (3 * k) 48 - 20) (qX L (3 * k + 1) 48 - 20) (kc (ZA L (3 * k + 2))) else xB L k
def jM (L : List Int) : List TA := xB L 40
theorem Q4 (L : List Int) (k : Nat) (h : ¬ 3 * k + 2 < L.length) : ∀ j, xB L (k + j) = xB L k
 | 0 => rfl
 | j + 1 => by
  show (if 3 * (k + j) + 2 < L.length then _ else _) = _
  rw [if_neg (by omega)]; exact Q4 L k h j
theorem wl (L : List Int) : ∀ k, z2 (xB L k) = true
 | 0 => jO
 | k + 1 => by
  show z2 (if _ then _ else _) = true
  split
  ·exact VU _ _ _ _
  ·exact wl L k
theorem yO (L : List Int) : ∀ k, qN (xB L k)
 | 0 => qN.nil
 | k + 1 => by
  show qN (if _ then _ else _)
  split
  ·exact zdr (yO L k) (vm _)
  ·exact yO L k
theorem J3 (L : List Int) (k : Nat) : (xB L k).length ≤ 1024 := (j1.1 (wl L k)).1
theorem Yg {w : World} {b j : Nat} {v : Value} (h : w.cell? ⟨b, j, none⟩ = some v) : (Instr.loadAt 64 (.pointer (some ⟨b, j, none⟩))).run Tryz.prog w = .ok (.agg #[v]) w := by
 simp [go_sem, h]
set_option maxHeartbeats 2000000 in
theorem zd8 (v : Value) (L : List Int) (w : World) (h : xp inE v L w) (hn : L.length ≤ 17592186044416) : Calls Tryz.prog 29 #[v] w fun e w' => ∃ v', e = .returned (.agg #[v']) ∧ RS v' (jM L) w' ∧ Below w.heap.size w w' := by
 have B := Below.refl w.heap.size w
 have HL := Lib.hid h
 obtain ⟨a, c, rfl, hc⟩ := h.len
 clear h
 go_enter Tryz.func29, Tryz.ntmps29
 go_wp2_with (first | (refine zq (t := 64) rfl _ _ rfl _ rfl _ rfl r3 (by kernel_rfl) rfl (by simp [Value.oneCell']) (qG B (by omega) ?_); clear r3 B; intro wn r3 ze zf zg B; (try replace r2 := r2.of_eq (ze.block _ r2.lt (by omega))); (try replace q5 := q5.of_eq (ze.block _ q5.lt (by omega))); (try replace g6 := g6.of_eq (ze.block _ g6.lt (by omega))); simp only [zo]) | (have _ := r2; refine zr (t := 64) rfl _ (qA _ _ rfl) (zY B ?_); clear B; intro b_r3 wn zb zd r3 za zf zk B; (try have zh := r2.lt); (try replace r2 := r2.below (za.mono zb)); (try have zh := r3.lt); (try replace r3 := r3.below (za.mono zb)); (try have zh := q5.lt); (try replace q5 := q5.below (za.mono zb)); (try have zh := g6.lt); (try replace g6 := g6.below (za.mono zb)); simp only [zo]) | (refine zr (t := 64) rfl _ (qA _ _ rfl) (zY B ?_); clear B; intro b_r2 wn zb zd r2 za zf zk B; (try have zh := r2.lt); (try replace r2 := r2.below (za.mono zb)); (try have zh := r3.lt); (try replace r3 := r3.below (za.mono zb)); (try have zh := q5.lt); (try replace q5 := q5.below (za.mono zb)); (try have zh := g6.lt); (try replace g6 := g6.below (za.mono zb)); simp only [zo]) | fail)
 go_loopw [4, 5, 6] (fun i _ _ wr => ∃ (k n : Nat) (a0 : Option Addr) (c0 : Nat), n = 3 * k ∧ k ≤ 40 ∧ i = .int .i64 n ∧ Below w.heap.size w wr ∧ zK 64 wr b_r2 #[.slice none 0 0] ∧ zK 64 wr b_r3 #[.slice a0 (xB L k).length c0] ∧ RS (.slice a0 (xB L k).length c0) (xB L k) wr) (fun i _ _ _ => (120 - intOf i).toNat)
 case atStart => exact ⟨0, 0, none, 0, rfl, by omega, rfl, B, r2, r3, RS.nil _⟩
 case round =>
  clear B r2 r3; obtain ⟨k, n, a0, c0, hn3, hk, rfl, B, r2, r3, rs⟩ := hrel; have hml := J3 L k; by_cases hq : n + 2 < L.length ∧ n < 120
  ·obtain ⟨hix, zh⟩ := hq
   have E := Lib.hid (show xB L (k + 1) = KU (xB L k) (qX L n 48 - 20) (qX L (n + 1) 48 - 20) (kc (ZA L (n + 2))) from by
    show (if _ then _ else _) = _
    rw [if_pos (by omega), hn3])
   have hk39 : k < 40 := by omega
   have HN := Lib.hid hn3; clear hn3; have d1 : decide ((n : Int) + 2 < (L.length : Int)) = true := decide_eq_true (by omega); have d2 : decide ((n : Int) < 120) = true := decide_eq_true (by omega); obtain ⟨g, o, rfl, rcw⟩ := HL.out.at (by omega); have rc := rcw.of_eq (B.block _ rcw.lt); have hb1 := zAB L n; have hb2 := zAB L (n + 1); obtain ⟨x, hx⟩ : ∃ x, qX L n 48 - 20 = x := ⟨_, rfl⟩; obtain ⟨y, hy⟩ : ∃ y, qX L (n + 1) 48 - 20 = y := ⟨_, rfl⟩; have wx : (Lit.int .i64 x).wf = true := us (by omega) (by omega); have wy : (Lit.int .i64 y).wf = true := us (by omega) (by omega); rw [hx, hy] at E; go_upto_region 6 with (first | (refine qf rfl _ _ rfl _ rfl (_) rfl q5 (qG B (by omega) ?_); have q5o := q5; clear q5 B; intro wn q5 ze zf zg B; replace rs := rs.chg (show zK 28 _ b_q5 (pxA _) from q5o) (by simp [pxA]) ze; (try replace r2 := r2.of_eq (ze.block _ r2.lt (by omega))); (try replace r3 := r3.of_eq (ze.block _ r3.lt (by omega))); (try replace g6 := g6.of_eq (ze.block _ g6.lt (by omega))); simp only [zo]) | (have _ := r3; refine qq rfl rfl (zY B ?_); clear B; intro b_q5 wn zb zd q5 za zf zk B; (try have zh := r2.lt); (try replace r2 := r2.below (za.mono zb)); (try have zh := r3.lt); (try replace r3 := r3.below (za.mono zb)); (try have zh := q5.lt); (try replace q5 := q5.below (za.mono zb)); (try have zh := g6.lt); (try replace g6 := g6.below (za.mono zb)); (try have zh := rs.lt); (try replace rs := rs.below (za.mono zb)); simp only [zo]) | (go_at_call 50; refine (Wm _ _).mono ?_; rintro e wn ⟨rfl, za⟩; have zf := B.size; have zg := za.size; replace B := B.trans (za.mono B.size); (try replace r2 := r2.below za); (try replace r3 := r3.below za); (try replace q5 := q5.below za); (try replace g6 := g6.below za); (try replace rs := rs.below za)) | (refine zp (t := 3) rfl _ rfl _ _ _ rfl (zu (X4 rc (getD_some hix))) (by first | rfl | omega) ?_; simp only [zo]) | fail)
   have q1 := q5.lt; have q2 := r3.lt; go_cut [6] from 25 to 36 (fun s wx => ∃ (b_g6 : Nat) (a1 : Option Addr) (c1 : Nat) (e1 : Int), s = .pointer (some ⟨b_g6, 0, none⟩) ∧ zK 82 wx b_g6 #[.slice a1 (xB L (k + 1)).length c1, .int .i64 e1] ∧ RS (.slice a1 (xB L (k + 1)).length c1) (xB L (k + 1)) wx ∧ Below w.heap.size w wx ∧ zK 64 wx b_r2 #[.slice none 0 0] ∧ zK 64 wx b_r3 #[.slice a0 (xB L k).length c0])
   case first =>
    try have r2B := r2
    try have r3B := r3
    try have q5B := q5
    try have g6B := g6
    try have rsB := rs
    refine yG 13 #[false, false, false, false, false, false, false, false, false, false, false, false, false, false] (by kernel_rfl) (by kernel_rfl) ?_; intro wn za; have hX := za; have zf := B.size; have zg := za.size; replace B := B.trans (za.mono B.size); try replace r2 := r2.below za
    try replace r3 := r3.below za
    try replace q5 := q5.below za
    try replace g6 := g6.below za
    try replace rs := rs.below za
    simp only [List.length_cons, List.length_nil, Nat.reduceAdd]; refine z1 0 rfl (by kernel_rfl) ⟨_, zG hX⟩ ?_; intro K hK; try simp only [zM]
    (first | (refine zn (t := 64) rfl _ _ _ rfl (fun w hw => zv (zB r3B w hw) Tryz.isAgg64 (by kernel_rfl)) (by rfl) ?_; simp only [zo]; go_big_quiet_on) | (refine qJ rfl _ rfl (ky q5B) ?_; simp only [zo]; go_big_quiet_on) | (go_big_quiet_op; go_big_quiet_on))
    simp only [zo]; refine z1 1 rfl (by kernel_rfl) ⟨_, zG hX⟩ ?_; intro K hK; try simp only [zM]
    (first | (refine zn (t := 64) rfl _ _ _ rfl (fun w hw => zv (zB r3B w hw) Tryz.isAgg64 (by kernel_rfl)) (by rfl) ?_; simp only [zo]; go_big_quiet_on) | (refine qJ rfl _ rfl (ky q5B) ?_; simp only [zo]; go_big_quiet_on) | (go_big_quiet_op; go_big_quiet_on))
    simp only [zo]; refine z1 2 rfl (by kernel_rfl) ⟨_, zG hX⟩ ?_; intro K hK; try simp only [zM]
    (first | (refine zn (t := 64) rfl _ _ _ rfl (fun w hw => zv (zB r3B w hw) Tryz.isAgg64 (by kernel_rfl)) (by rfl) ?_; simp only [zo]; go_big_quiet_on) | (refine qJ rfl _ rfl (ky q5B) ?_; simp only [zo]; go_big_quiet_on) | (go_big_quiet_op; go_big_quiet_on))
    simp only [zo]; refine z1 5 rfl (by kernel_rfl) ⟨_, zG hX⟩ ?_; intro K hK; try simp only [zM]
    (first | (refine zn (t := 64) rfl _ _ _ rfl (fun w hw => zv (zB r3B w hw) Tryz.isAgg64 (by kernel_rfl)) (by rfl) ?_; simp only [zo]; go_big_quiet_on) | (refine qJ rfl _ rfl (ky q5B) ?_; simp only [zo]; go_big_quiet_on) | (go_big_quiet_op; go_big_quiet_on))
    simp only [zo]; refine z1 6 rfl (by kernel_rfl) ⟨_, zG hX⟩ ?_; intro K hK; try simp only [zM]
    (first | (refine zn (t := 64) rfl _ _ _ rfl (fun w hw => zv (zB r3B w hw) Tryz.isAgg64 (by kernel_rfl)) (by rfl) ?_; simp only [zo]; go_big_quiet_on) | (refine qJ rfl _ rfl (ky q5B) ?_; simp only [zo]; go_big_quiet_on) | (go_big_quiet_op; go_big_quiet_on))
    simp only [zo]; refine z1 7 rfl (by kernel_rfl) ⟨_, zG hX⟩ ?_; intro K hK; try simp only [zM]
    (first | (refine zn (t := 64) rfl _ _ _ rfl (fun w hw => zv (zB r3B w hw) Tryz.isAgg64 (by kernel_rfl)) (by rfl) ?_; simp only [zo]; go_big_quiet_on) | (refine qJ rfl _ rfl (ky q5B) ?_; simp only [zo]; go_big_quiet_on) | (go_big_quiet_op; go_big_quiet_on))
    simp only [zo]; refine z1 10 rfl (by kernel_rfl) ⟨_, zG hX⟩ ?_; intro K hK; try simp only [zM]
    (first | (refine zn (t := 64) rfl _ _ _ rfl (fun w hw => zv (zB r3B w hw) Tryz.isAgg64 (by kernel_rfl)) (by rfl) ?_; simp only [zo]; go_big_quiet_on) | (refine qJ rfl _ rfl (ky q5B) ?_; simp only [zo]; go_big_quiet_on) | (go_big_quiet_op; go_big_quiet_on))
    simp only [zo]; refine jK 3 12 rfl rfl (by kernel_rfl) rfl rfl (fun K hK => ?_) (fun K hK => ?_)
    ·skip
     go_simp
     go_at_call 71
     refine (uN _ L n _ rfl _ (HL.out.below B) hn).mono ?_; rintro e wn ⟨rfl, za⟩; have zf := B.size; have zg := za.size; have hsx := hX.size; replace B := B.trans (za.mono B.size); replace hX := hX.trans (za.mono hX.size); try replace r2 := r2.below za
     try replace r3 := r3.below za
     try replace q5 := q5.below za
     try replace g6 := g6.below za
     try replace rs := rs.below za
     refine hK _ _ ⟨fun _ => ⟨_, zG hX⟩, ?_⟩; clear hK K; simp only [zo]; refine z1 4 rfl (by kernel_rfl) ⟨_, zG hX⟩ ?_; intro K hK; try simp only [zM]
     (first | (refine zn (t := 64) rfl _ _ _ rfl (fun w hw => zv (zB r3B w hw) Tryz.isAgg64 (by kernel_rfl)) (by rfl) ?_; simp only [zo]; go_big_quiet_on) | (refine qJ rfl _ rfl (ky q5B) ?_; simp only [zo]; go_big_quiet_on) | (go_big_quiet_op; go_big_quiet_on))
     simp only [zo]; refine jK 8 12 rfl rfl (by kernel_rfl) rfl rfl (fun K hK => ?_) (fun K hK => ?_)
     ·skip
      go_simp
      go_at_call 71
      refine (uN _ L (n + 1) _ (by omega) _ (HL.out.below B) hn).mono ?_; rintro e wn ⟨rfl, za⟩; have zf := B.size; have zg := za.size; have hsx := hX.size; replace B := B.trans (za.mono B.size); replace hX := hX.trans (za.mono hX.size); try replace r2 := r2.below za
      try replace r3 := r3.below za
      try replace q5 := q5.below za
      try replace g6 := g6.below za
      try replace rs := rs.below za
      refine hK _ _ ⟨fun _ => ⟨_, zG hX⟩, ?_⟩; clear hK K; simp only [zo]; refine z1 9 rfl (by kernel_rfl) ⟨_, zG hX⟩ ?_; intro K hK; try simp only [zM]
      (first | (refine zn (t := 64) rfl _ _ _ rfl (fun w hw => zv (zB r3B w hw) Tryz.isAgg64 (by kernel_rfl)) (by rfl) ?_; simp only [zo]; go_big_quiet_on) | (refine qJ rfl _ rfl (ky q5B) ?_; simp only [zo]; go_big_quiet_on) | (go_big_quiet_op; go_big_quiet_on))
      simp only [zo]; refine jK 11 12 rfl rfl (by kernel_rfl) rfl rfl (fun K hK => ?_) (fun K hK => ?_)
      ·skip
       go_simp
       go_at_call 70
       refine (XB _ (xB L k) x y _ _ rs (yO L k) (by unfold maxLen; omega) wx wy (vm _)).mono ?_
       rintro e wn ⟨v1, rfl, rs1, za⟩; obtain ⟨a1, c1, rfl, hc1⟩ := rs1.len; have zf := B.size; have zg := za.size; have hsx := hX.size; replace B := B.trans (za.mono B.size); replace hX := hX.trans (za.mono hX.size); try replace r2 := r2.below za
       try replace r3 := r3.below za
       try replace q5 := q5.below za
       try replace g6 := g6.below za
       refine hK _ _ ⟨fun _ => ⟨_, zG hX⟩, ?_⟩; clear hK K; simp only [zo]; refine zR 12 rfl (by kernel_rfl) rfl (fun K hK => ?_); refine zQ (t := 82) _ (jH _ _ rfl) ?_; intro b_g6 wn zb zd ht za zg; have zf := B.size; have hsx := hX.size; replace B := B.trans (za.mono (by omega)); replace hX := hX.trans (za.mono (by omega)); try replace r2 := r2.below (za.mono zb)
       try replace r3 := r3.below (za.mono zb)
       try replace q5 := q5.below (za.mono zb)
       try replace g6 := g6.below (za.mono zb)
       try replace rs := rs.below (za.mono zb)
       try replace rs1 := rs1.below (za.mono zb)
       have g6 := ht; clear ht; refine hK _ _ ⟨fun _ => ⟨_, zG hX⟩, ?_⟩; clear hK K; simp only [zo]; refine qE (by kernel_rfl) (by kernel_rfl) ?_; simp only [List.drop_succ_cons, List.drop_zero]; go_wp2_with (first | (refine zq (t := 82) rfl _ _ rfl _ rfl _ rfl g6 (by kernel_rfl) rfl (by simp [Value.oneCell']) (qG B (by omega) ?_); have g6o := g6; clear g6 B; intro wn g6 ze zf zg B; replace rs1 := rs1.chg g6o (by simp) ze; (try replace r2 := r2.of_eq (ze.block _ r2.lt (by omega))); (try replace r3 := r3.of_eq (ze.block _ r3.lt (by omega))); (try replace q5 := q5.of_eq (ze.block _ q5.lt (by omega))); simp only [zo]) | fail)
       refine zL.normal ?_; go_wp2_with fail
       go_meet; exact ⟨b_g6, a1, c1, _, rfl, by rw [E.out]; exact g6, by rw [E.out]; exact rs1, B, r2, r3⟩
      ·skip
       refine zQ (t := 82) _ (jH _ _ rfl) ?_; intro b_g6 wn zb zd ht za zg; have zf := B.size; have hsx := hX.size; replace B := B.trans (za.mono (by omega)); replace hX := hX.trans (za.mono (by omega)); try replace r2 := r2.below (za.mono zb)
       try replace r3 := r3.below (za.mono zb)
       try replace q5 := q5.below (za.mono zb)
       try replace g6 := g6.below (za.mono zb)
       try replace rs := rs.below (za.mono zb)
       try replace rs1 := rs1.below (za.mono zb)
       have g6 := ht; clear ht; refine hK _ _ ⟨fun _ => ⟨_, zG hX⟩, ?_⟩; clear hK K; simp only [zo]; refine zR 11 rfl (by kernel_rfl) rfl (fun K hK => ?_); go_simp
       go_at_call 70
       refine (XB _ (xB L k) x y _ _ rs (yO L k) (by unfold maxLen; omega) wx wy (vm _)).mono ?_
       rintro e wn ⟨v1, rfl, rs1, za⟩; obtain ⟨a1, c1, rfl, hc1⟩ := rs1.len; have zf := B.size; have zg := za.size; have hsx := hX.size; replace B := B.trans (za.mono B.size); replace hX := hX.trans (za.mono hX.size); try replace r2 := r2.below za
       try replace r3 := r3.below za
       try replace q5 := q5.below za
       try replace g6 := g6.below za
       refine hK _ _ ⟨fun _ => ⟨_, zG hX⟩, ?_⟩; clear hK K; simp only [zo]; refine qE (by kernel_rfl) (by kernel_rfl) ?_; simp only [List.drop_succ_cons, List.drop_zero]; go_wp2_with (first | (refine zq (t := 82) rfl _ _ rfl _ rfl _ rfl g6 (by kernel_rfl) rfl (by simp [Value.oneCell']) (qG B (by omega) ?_); have g6o := g6; clear g6 B; intro wn g6 ze zf zg B; replace rs1 := rs1.chg g6o (by simp) ze; (try replace r2 := r2.of_eq (ze.block _ r2.lt (by omega))); (try replace r3 := r3.of_eq (ze.block _ r3.lt (by omega))); (try replace q5 := q5.of_eq (ze.block _ q5.lt (by omega))); simp only [zo]) | fail)
       refine zL.normal ?_; go_wp2_with fail
       go_meet; exact ⟨b_g6, a1, c1, _, rfl, by rw [E.out]; exact g6, by rw [E.out]; exact rs1, B, r2, r3⟩
     ·skip
      refine zQ (t := 82) _ (jH _ _ rfl) ?_; intro b_g6 wn zb zd ht za zg; have zf := B.size; have hsx := hX.size; replace B := B.trans (za.mono (by omega)); replace hX := hX.trans (za.mono (by omega)); try replace r2 := r2.below (za.mono zb)
      try replace r3 := r3.below (za.mono zb)
      try replace q5 := q5.below (za.mono zb)
      try replace g6 := g6.below (za.mono zb)
      try replace rs := rs.below (za.mono zb)
      try replace rs1 := rs1.below (za.mono zb)
      have g6 := ht; clear ht; refine hK _ _ ⟨fun _ => ⟨_, zG hX⟩, ?_⟩; clear hK K; simp only [zo]; refine zR 8 rfl (by kernel_rfl) rfl (fun K hK => ?_); go_simp
      go_at_call 71
      refine (uN _ L (n + 1) _ (by omega) _ (HL.out.below B) hn).mono ?_; rintro e wn ⟨rfl, za⟩; have zf := B.size; have zg := za.size; have hsx := hX.size; replace B := B.trans (za.mono B.size); replace hX := hX.trans (za.mono hX.size); try replace r2 := r2.below za
      try replace r3 := r3.below za
      try replace q5 := q5.below za
      try replace g6 := g6.below za
      try replace rs := rs.below za
      refine hK _ _ ⟨fun _ => ⟨_, zG hX⟩, ?_⟩; clear hK K; simp only [zo]; refine z1 9 rfl (by kernel_rfl) ⟨_, zG hX⟩ ?_; intro K hK; try simp only [zM]
      (first | (refine zn (t := 64) rfl _ _ _ rfl (fun w hw => zv (zB r3B w hw) Tryz.isAgg64 (by kernel_rfl)) (by rfl) ?_; simp only [zo]; go_big_quiet_on) | (refine qJ rfl _ rfl (ky q5B) ?_; simp only [zo]; go_big_quiet_on) | (go_big_quiet_op; go_big_quiet_on))
      simp only [zo]; refine zR 11 rfl (by kernel_rfl) rfl (fun K hK => ?_); go_simp
      go_at_call 70
      refine (XB _ (xB L k) x y _ _ rs (yO L k) (by unfold maxLen; omega) wx wy (vm _)).mono ?_
      rintro e wn ⟨v1, rfl, rs1, za⟩; obtain ⟨a1, c1, rfl, hc1⟩ := rs1.len; have zf := B.size; have zg := za.size; have hsx := hX.size; replace B := B.trans (za.mono B.size); replace hX := hX.trans (za.mono hX.size); try replace r2 := r2.below za
      try replace r3 := r3.below za
      try replace q5 := q5.below za
      try replace g6 := g6.below za
      refine hK _ _ ⟨fun _ => ⟨_, zG hX⟩, ?_⟩; clear hK K; simp only [zo]; refine qE (by kernel_rfl) (by kernel_rfl) ?_; simp only [List.drop_succ_cons, List.drop_zero]; go_wp2_with (first | (refine zq (t := 82) rfl _ _ rfl _ rfl _ rfl g6 (by kernel_rfl) rfl (by simp [Value.oneCell']) (qG B (by omega) ?_); have g6o := g6; clear g6 B; intro wn g6 ze zf zg B; replace rs1 := rs1.chg g6o (by simp) ze; (try replace r2 := r2.of_eq (ze.block _ r2.lt (by omega))); (try replace r3 := r3.of_eq (ze.block _ r3.lt (by omega))); (try replace q5 := q5.of_eq (ze.block _ q5.lt (by omega))); simp only [zo]) | fail)
      refine zL.normal ?_; go_wp2_with fail
      go_meet; exact ⟨b_g6, a1, c1, _, rfl, by rw [E.out]; exact g6, by rw [E.out]; exact rs1, B, r2, r3⟩
    ·skip
     refine zQ (t := 82) _ (jH _ _ rfl) ?_; intro b_g6 wn zb zd ht za zg; have zf := B.size; have hsx := hX.size; replace B := B.trans (za.mono (by omega)); replace hX := hX.trans (za.mono (by omega)); try replace r2 := r2.below (za.mono zb)
     try replace r3 := r3.below (za.mono zb)
     try replace q5 := q5.below (za.mono zb)
     try replace g6 := g6.below (za.mono zb)
     try replace rs := rs.below (za.mono zb)
     try replace rs1 := rs1.below (za.mono zb)
     have g6 := ht; clear ht; refine hK _ _ ⟨fun _ => ⟨_, zG hX⟩, ?_⟩; clear hK K; simp only [zo]; refine zR 3 rfl (by kernel_rfl) rfl (fun K hK => ?_); go_simp
     go_at_call 71
     refine (uN _ L n _ rfl _ (HL.out.below B) hn).mono ?_; rintro e wn ⟨rfl, za⟩; have zf := B.size; have zg := za.size; have hsx := hX.size; replace B := B.trans (za.mono B.size); replace hX := hX.trans (za.mono hX.size); try replace r2 := r2.below za
     try replace r3 := r3.below za
     try replace g6 := g6.below za
     try replace rs := rs.below za
     refine hK _ _ ⟨fun _ => ⟨_, zG hX⟩, ?_⟩; clear hK K; simp only [zo]; refine z1 4 rfl (by kernel_rfl) ⟨_, zG hX⟩ ?_; intro K hK; try simp only [zM]
     (first | (refine zn (t := 64) rfl _ _ _ rfl (fun w hw => zv (zB r3B w hw) Tryz.isAgg64 (by kernel_rfl)) (by rfl) ?_; simp only [zo]; go_big_quiet_on) | (refine qJ rfl _ rfl (ky q5B) ?_; simp only [zo]; go_big_quiet_on) | (go_big_quiet_op; go_big_quiet_on))
     simp only [zo]; refine zR 8 rfl (by kernel_rfl) rfl (fun K hK => ?_); go_simp
     go_at_call 71
     refine (uN _ L (n + 1) _ (by omega) _ (HL.out.below B) hn).mono ?_; rintro e wn ⟨rfl, za⟩; have zf := B.size; have zg := za.size; have hsx := hX.size; replace B := B.trans (za.mono B.size); replace hX := hX.trans (za.mono hX.size); try replace r2 := r2.below za
     try replace r3 := r3.below za
     try replace g6 := g6.below za
     try replace rs := rs.below za
     refine hK _ _ ⟨fun _ => ⟨_, zG hX⟩, ?_⟩; clear hK K; simp only [zo]; refine z1 9 rfl (by kernel_rfl) ⟨_, zG hX⟩ ?_; intro K hK; try simp only [zM]
     (first | (refine zn (t := 64) rfl _ _ _ rfl (fun w hw => zv (zB r3B w hw) Tryz.isAgg64 (by kernel_rfl)) (by rfl) ?_; simp only [zo]; go_big_quiet_on) | (refine qJ rfl _ rfl (ky q5B) ?_; simp only [zo]; go_big_quiet_on) | (go_big_quiet_op; go_big_quiet_on))
     simp only [zo]; refine zR 11 rfl (by kernel_rfl) rfl (fun K hK => ?_); go_simp
     go_at_call 70
     refine (XB _ (xB L k) x y _ _ rs (yO L k) (by unfold maxLen; omega) wx wy (vm _)).mono ?_
     rintro e wn ⟨v1, rfl, rs1, za⟩; obtain ⟨a1, c1, rfl, hc1⟩ := rs1.len; have zf := B.size; have zg := za.size; have hsx := hX.size; replace B := B.trans (za.mono B.size); replace hX := hX.trans (za.mono hX.size); try replace r2 := r2.below za
     try replace r3 := r3.below za
     try replace g6 := g6.below za
     refine hK _ _ ⟨fun _ => ⟨_, zG hX⟩, ?_⟩; clear hK K; simp only [zo]; refine qE (by kernel_rfl) (by kernel_rfl) ?_; simp only [List.drop_succ_cons, List.drop_zero]; go_wp2_with (first | (refine zq (t := 82) rfl _ _ rfl _ rfl _ rfl g6 (by kernel_rfl) rfl (by simp [Value.oneCell']) (qG B (by omega) ?_); have g6o := g6; clear g6 B; intro wn g6 ze zf zg B; replace rs1 := rs1.chg g6o (by simp) ze; (try replace r2 := r2.of_eq (ze.block _ r2.lt (by omega))); (try replace r3 := r3.of_eq (ze.block _ r3.lt (by omega))); simp only [zo]) | fail)
     refine zL.normal ?_; go_wp2_with fail
     go_meet; exact ⟨b_g6, a1, c1, _, rfl, by rw [E.out]; exact g6, by rw [E.out]; exact rs1, B, r2, r3⟩
   case rest =>
    obtain ⟨b_g6, a1, c1, e1, rfl, g6, rs1, B, r2, r3⟩ := hcut; go_wp2_with (first | (refine zq (t := 64) rfl _ _ rfl _ rfl _ rfl r3 (by kernel_rfl) rfl (by simp [Value.oneCell']) (qG B (by omega) ?_); have r3o := r3; clear r3 B; intro wn r3 ze zf zg B; replace rs1 := rs1.chg r3o (by simp) ze; (try replace r2 := r2.of_eq (ze.block _ r2.lt (by omega))); (try replace g6 := g6.of_eq (ze.block _ g6.lt (by omega))); simp only [zo]) | (refine zp (t := 64) rfl _ rfl _ _ _ rfl (Yg (g6.cell 0 rfl)) (by rfl) ?_; simp only [zo]) | fail)
    go_roundw
    case rel => exact ⟨k + 1, n + 3, a1, c1, by have := HN.out; omega, by omega, by go_num, B, r2, r3, rs1⟩
    case measure => simp [intOf]; omega
  ·have E := Lib.hid (show xB L k = jM L from by
    unfold jM; by_cases hk40 : k = 40
    ·rw [hk40]
    ·have := Q4 L k (by omega) (40 - k)
     rw [show k + (40 - k) = 40 by omega] at this; exact this.symm)
   have hnb : n ≤ 120 := by omega
   clear hn3; by_cases hix : n + 2 < L.length
   ·have d1 : decide ((n : Int) + 2 < (L.length : Int)) = true := decide_eq_true (by omega)
    have d2 : decide ((n : Int) < 120) = false := decide_eq_false (by omega); clear hq; go_wp2_with (first | (refine zq (t := 64) rfl _ _ rfl _ rfl _ rfl r2 (by kernel_rfl) rfl (by simp [Value.oneCell']) (qG B (by omega) ?_); have r2o := r2; clear r2 B; intro wn r2 ze zf zg B; replace rs := rs.chg r2o (by simp) ze; (try replace r3 := r3.of_eq (ze.block _ r3.lt (by omega))); simp only [zo]) | (refine zp (t := 64) rfl _ rfl _ _ _ rfl (zv r3 Tryz.isAgg64 (by kernel_rfl)) (by rfl) ?_; simp only [zo]) | fail)
    refine bodyPost_ret (zz (t := 64) rfl _ _ (b_r2) rfl r2 Tryz.isAgg64 (by kernel_rfl)) rfl ?_; exact ⟨_, rfl, by rw [← E.out]; exact rs, B⟩
   ·have d1 : decide ((n : Int) + 2 < (L.length : Int)) = false := decide_eq_false (by omega)
    clear hq; go_wp2_with (first | (refine zq (t := 64) rfl _ _ rfl _ rfl _ rfl r2 (by kernel_rfl) rfl (by simp [Value.oneCell']) (qG B (by omega) ?_); have r2o := r2; clear r2 B; intro wn r2 ze zf zg B; replace rs := rs.chg r2o (by simp) ze; (try replace r3 := r3.of_eq (ze.block _ r3.lt (by omega))); simp only [zo]) | (refine zp (t := 64) rfl _ rfl _ _ _ rfl (zv r3 Tryz.isAgg64 (by kernel_rfl)) (by rfl) ?_; simp only [zo]) | fail)
    refine bodyPost_ret (zz (t := 64) rfl _ _ (b_r2) rfl r2 Tryz.isAgg64 (by kernel_rfl)) rfl ?_; exact ⟨_, rfl, by rw [← E.out]; exact rs, B⟩
/- Stores into a row of tiles at positions. -/
theorem zfA (ls : List TA) (i k : Nat) (e : TA) (hi : i < ls.length) : aT (ls.set i e) k = if k = i then e else aT ls k := by
 unfold aT
 rw [List.getD_eq_getElem?_getD, List.getD_eq_getElem?_getD, List.getElem?_set]
 by_cases h : i = k
 ·subst h; simp [hi]
 ·rw [if_neg h, if_neg (Ne.symm h)]
theorem Z2 (b : Nat) : ∀ (vs : List Value) (o : Nat) (w : World), (w.setCells b o vs).heap.size = w.heap.size
 | [], _, _ => rfl
 | v :: r, o, w => by
  show ((w.setCell ⟨b, o, none⟩ v).setCells b (o + 1) r).heap.size = _
  rw [Z2 b r, World.size_setCell]
theorem qt.put {g o i s : Nat} {ls : List TA} {w : World} {vs : List Value} (h : qt g o ls w) (e' : TA) (hi : i < ls.length) (hs : s + vs.length ≤ 258)
  (he : ∀ j, j < 258 → (xX e')[j]? = if s ≤ j ∧ j < s + vs.length then vs[j - s]? else (xX (aT ls i))[j]?) : qt g o (ls.set i e') (w.setCells g (o + i * 258 + s) vs) := by
 refine ⟨by rw [Z2]; exact h.1, fun k hk j hj => ?_⟩
 rw [List.length_set] at hk
 rw [zfA ls i k e' hi]
 have hsome : ∀ j, j < vs.length → (w.cell? ⟨g, o + i * 258 + s + j, none⟩).isSome = true := fun j hj => by
  have := h.2 i hi (s + j) (by omega); rw [show o + i * 258 + s + j = o + (i * 258 + (s + j)) by omega, this, Array.getElem?_eq_getElem (by rw [zS]; omega)]
  rfl
 by_cases hki : k = i
 ·subst hki
  rw [if_pos rfl, he j hj]; by_cases hj2 : s ≤ j ∧ j < s + vs.length
  ·rw [if_pos hj2, show o + (k * 258 + j) = o + k * 258 + s + (j - s) by omega, World.cell?_setCells_in g vs _ w hsome (j - s) (by omega), List.getElem?_eq_getElem]
  ·rw [if_neg hj2, World.cell?_setCells_out g vs _ w _ (fun _ _ => by show o + (k * 258 + j) < o + k * 258 + s ∨ o + k * 258 + s + vs.length ≤ o + (k * 258 + j); omega)]
   exact h.2 k hk j hj
 ·rw [if_neg hki, World.cell?_setCells_out g vs _ w _ (fun _ _ => by
   show o + (k * 258 + j) < o + i * 258 + s ∨ o + i * 258 + s + vs.length ≤ o + (k * 258 + j)
   rcases Nat.lt_or_gt_of_ne hki with hh | hh
   ·left; have : (k + 1) * 258 ≤ i * 258 := Nat.mul_le_mul_right _ hh; omega
   ·right; have : (i + 1) * 258 ≤ k * 258 := Nat.mul_le_mul_right _ hh; omega)]
  exact h.2 k hk j hj
/-- An owned row of tiles: its cells may be written. -/
theorem xr.row {B : Nat} {v : Value} {ls : List TA} {w : World} (h : xr B v ls w) (hl : 0 < ls.length) : ∃ g c, v = .slice (some ⟨g, 0, none⟩) ls.length c ∧ B ≤ g ∧ qt g 0 ls w ∧ ∀ j, w.frozen? ⟨g, j, none⟩ = false := by
 have hr := h.rs
 obtain ⟨h1, h2⟩ := h
 rcases h2 with ⟨rfl, h0⟩ | ⟨g, cap, cur, rfl, hb, hg, hn, hm, hs, ht⟩
 ·exact absurd hl (by omega)
 ·obtain ⟨g', o', e, rc⟩ := hr.at hl
  injection e with e
  injection e with e1 e2
  subst e1; subst e2; exact ⟨g, cap, rfl, hb, rc, fun j => zK.frozen (t := 125) hg j⟩
section
variable {ops : Array Oper} {rest : List Oper} {o : Oper} {a : Act} {w : World} {Q : Exit → Act → World → Prop} {ls : List TA} {g : Nat}
end
/- Contract of `of` of the law package of rasters. -/
/-- What Raw describes (its two slices aside). -/
structure zd9 where
 at_ : Int
 px : Int
 py : Int
 how : Int
def zht (t : Nat → Px) : Nat → Px := Qc t 5 ⟨9, (t 5).g, (t 5).b, (t 5).a⟩
def zg6 (q : zd9) (T : List Int) (e : TA) : TA :=
 if q.how % 8 = 1 then ⟨q.px, q.py, e.t⟩ else if q.how % 8 = 2 then ⟨e.x, e.y, zff T⟩ else if q.how % 8 = 3 then ⟨e.x, e.y, zht e.t⟩ else e
def ofI (q : zd9) (n : Nat) : Nat := (q.at_ % 65536).toNat % n
def ofR (q : zd9) (T : List Int) (r : List TA) : List TA :=
 if r.length = 0 then r else if q.how % 8 = 4 then r ++ [aT r (ofI q r.length)] else r.set (ofI q r.length) (zg6 q T (aT r (ofI q r.length)))
def ziA (q : zd9) (L T : List Int) : List TA := ofR q T (jM L)
theorem ZD (L : List Int) : qN (jM L) := yO L 40
theorem yX (L : List Int) : z2 (jM L) = true := wl L 40
theorem J5 (L : List Int) : (jM L).length ≤ 1024 := J3 L 40
theorem zb4 (v : Value) (L : List Int) (w : World) (h : xp inE v L w) (hn : L.length ≤ 17592186044416) : Calls Tryz.prog 29 #[v] w fun e w' => ∃ a c, e = .returned (.agg #[.slice a (jM L).length c]) ∧ RS (.slice a (jM L).length c) (jM L) w' ∧ Below w.heap.size w w' :=
 (zd8 v L w h hn).mono fun e w' ⟨v', he, hr, hb⟩ => by
  obtain ⟨a, c, rfl, _⟩ := hr.len; exact ⟨a, c, he, hr, hb⟩
/- Contract of `of` of the law package of rasters: the walk. -/
/- Contracts of `of` of the law package whole. -/
/- Contract of gouacheref08.Full. -/
def zgJ (i : Nat) : TA := ⟨(i : Int) % 40, (i : Int) / 40, zfc ⟨(i : Int) % 256, 0, 0, 255⟩⟩
def zgK (n : Nat) : List TA := (List.range n).map zgJ
end Go.Proofs.YtepelndbbhdofaaGreatDoor
/- Plain laws of rasters: cropping, bounds. -/
namespace Go.Proofs.YtepelndbbhdofaaGreatDoor
open Go.RowKit Pl
set_option linter.unusedVariables false
set_option linter.unusedSimpArgs false
/-- A tile cropped. -/
def zgC (c : Rc) (x y : Int) (t : Nat → Px) : Nat → Px := fun i => if i < 64 then (if qU c (x * 8 + (i : Int) % 8) (y * 8 + (i : Int) / 8) = true then t i else Px.zero) else t i
def zhM (c : Rc) (e : TA) : List TA := jm e.x e.y (zgC c e.x e.y e.t)
theorem qz (r : Rc) (x y : Int) : qU r x y = true ↔ (r.x0 ≤ x ∧ x < r.x1 ∧ r.y0 ≤ y ∧ y < r.y1) := by unfold qU; exact decide_eq_true_iff
theorem vz (r : Rc) : qn r = true ↔ (r.x1 ≤ r.x0 ∨ r.y1 ≤ r.y0) := by unfold qn; exact decide_eq_true_iff
theorem yd (r : Rc) : qn r = false ↔ (r.x0 < r.x1 ∧ r.y0 < r.y1) := by
 rw [← Bool.not_eq_true, vz]; omega
theorem JZ (r : Rc) (x y : Int) : qU (kQ r) x y = qU r x y := by
 unfold kQ
 split
 ·rename_i h
  have h := (vz r).1 h; rw [Bool.eq_iff_iff, qz, qz]; unfold Rc.zero; simp only; omega
 ·rfl
theorem uz (c d : Rc) (x y : Int) : qU (yf c d) x y = (qU c x y && qU d x y) := by
 unfold yf
 rw [JZ, Bool.eq_iff_iff, Bool.and_eq_true, qz, qz, qz]
 simp only
 omega
theorem ua (t : Nat → Px) : jh t = true ↔ ∀ i, i < 64 → (t i).a = 0 := by
 unfold jh
 rw [decide_eq_true_iff]
 exact ⟨fun h i hi => h i (List.mem_range.2 hi), fun h i hi => h i (List.mem_range.1 hi)⟩
theorem vi (e : TA) : ka e = true ↔ z8 e.x e.y = true ∧ jh e.t = false ∧ kO (qF e.t) e.t = true := by
 unfold ka
 rw [Bool.and_eq_true, Bool.and_eq_true, Bool.not_eq_true']
theorem VA {t u : Nat → Px} (h : kO t u = true) {i : Nat} (hi : i < 64) : t i = u i := by
 unfold kO at h
 exact of_decide_eq_true h i (List.mem_range.2 hi)
/-! ### Bounds -/
/-- A pixel that is not transparent. -/
def Vis (ls : List TA) (x y : Int) : Prop := ∃ e, e ∈ ls ∧ ∃ i : Nat, i < 64 ∧ 0 < (e.t i).a ∧ x = e.x * 8 + (i : Int) % 8 ∧ y = e.y * 8 + (i : Int) / 8
/-- The least rectangle around V. -/
def zb7 (V : Int → Int → Prop) (r : Rc) : Prop := (r = Rc.zero ∧ ∀ x y, ¬ V x y) ∨ (qn r = false ∧ (∀ x y, V x y → qU r x y = true) ∧ (∃ y, V r.x0 y) ∧ (∃ x, V x r.y0) ∧ (∃ y, V (r.x1 - 1) y) ∧ ∃ x, V x (r.y1 - 1))
theorem zb7.add {V : Int → Int → Prop} {r : Rc} (h : zb7 V r) (x y : Int) : zb7 (fun a b => V a b ∨ (a = x ∧ b = y)) (j0 r ⟨x, y, x + 1, y + 1⟩) := by
 have h1 : qn ⟨x, y, x + 1, y + 1⟩ = false := (yd _).2 ⟨by show x < x + 1; omega, by show y < y + 1; omega⟩
 rcases h with ⟨rfl, hn⟩ | ⟨he, hin, ⟨ya, ha⟩, ⟨xb, hb⟩, ⟨yc, hc⟩, ⟨xd, hd⟩⟩
 ·have e : j0 Rc.zero ⟨x, y, x + 1, y + 1⟩ = ⟨x, y, x + 1, y + 1⟩ := by
   unfold j0 kQ; rw [if_pos (by decide), h1]
   rfl
  rw [e]; refine .inr ⟨h1, fun a b hv => ?_, ⟨y, .inr ⟨rfl, rfl⟩⟩, ⟨x, .inr ⟨rfl, rfl⟩⟩, ⟨y, .inr ⟨by show x + 1 - 1 = x; omega, rfl⟩⟩, ⟨x, .inr ⟨rfl, by show y + 1 - 1 = y; omega⟩⟩⟩
  rcases hv with hv | ⟨rfl, rfl⟩
  ·exact absurd hv (hn a b)
  ·rw [qz]; simp only; omega
 ·have e : j0 r ⟨x, y, x + 1, y + 1⟩ = ⟨min r.x0 x, min r.y0 y, max r.x1 (x + 1), max r.y1 (y + 1)⟩ := by
   unfold j0; rw [he, h1, if_neg (by decide), if_neg (by decide)]
  rw [e]; have hen := (yd r).1 he; refine .inr ⟨(yd _).2 ⟨by show min r.x0 x < max r.x1 (x + 1); omega, by show min r.y0 y < max r.y1 (y + 1); omega⟩, fun a b hv => ?_, ?_, ?_, ?_, ?_⟩
  ·rw [qz]
   simp only; rcases hv with hv | ⟨rfl, rfl⟩
   ·have := (qz r a b).1 (hin a b hv)
    omega
   ·omega
  ·show ∃ b, V (min r.x0 x) b ∨ (min r.x0 x = x ∧ b = y)
   by_cases hh : r.x0 ≤ x
   ·exact ⟨ya, .inl (by rw [Int.min_eq_left hh]; exact ha)⟩
   ·exact ⟨y, .inr ⟨by omega, rfl⟩⟩
  ·show ∃ a, V a (min r.y0 y) ∨ (a = x ∧ min r.y0 y = y)
   by_cases hh : r.y0 ≤ y
   ·exact ⟨xb, .inl (by rw [Int.min_eq_left hh]; exact hb)⟩
   ·exact ⟨x, .inr ⟨rfl, by omega⟩⟩
  ·show ∃ b, V (max r.x1 (x + 1) - 1) b ∨ (max r.x1 (x + 1) - 1 = x ∧ b = y)
   by_cases hh : x + 1 ≤ r.x1
   ·exact ⟨yc, .inl (by rw [Int.max_eq_left hh]; exact hc)⟩
   ·exact ⟨y, .inr ⟨by omega, rfl⟩⟩
  ·show ∃ a, V a (max r.y1 (y + 1) - 1) ∨ (a = x ∧ max r.y1 (y + 1) - 1 = y)
   by_cases hh : y + 1 ≤ r.y1
   ·exact ⟨xd, .inl (by rw [Int.max_eq_left hh]; exact hd)⟩
   ·exact ⟨x, .inr ⟨rfl, by omega⟩⟩
theorem uH (ls : List TA) (x y : Int) : zU ls x y = zT ∨ ∃ e, e ∈ ls ∧ e.x = x ∧ e.y = y ∧ zU ls x y = e.t := by
 induction ls with
 | nil => exact .inl rfl
 | cons e r ih =>
  unfold zU; by_cases h : xT e.x e.y x y = true
  ·rw [if_pos h]
   have := of_decide_eq_true h; exact .inr ⟨e, List.mem_cons_self .., this.1, this.2, rfl⟩
  ·rw [if_neg h]
   rcases ih with ih | ⟨k, hk, hr⟩
   ·exact .inl ih
   ·exact .inr ⟨k, List.mem_cons_of_mem _ hk, hr⟩
end Go.Proofs.YtepelndbbhdofaaGreatDoor
/- Specifications of values that are rasters, for regions that draw their order; the full raster's validity. -/
namespace Go.Proofs.YtepelndbbhdofaaGreatDoor
open Go.RowKit Go.Shelf Pl
set_option linter.unusedVariables false
set_option linter.unusedSimpArgs false
set_option maxRecDepth 20000
def ziE (L : List TA) : jQ := ⟨Option Addr × Nat, ⟨(none, 0)⟩, fun x => .agg #[.slice x.1 L.length x.2], fun x w => RS (.slice x.1 L.length x.2) L w, fun _ _ _ hb h => h.below hb⟩
def ziK (L : List TA) (n : Int) : jQ := ⟨Option Addr × Nat, ⟨(none, 0)⟩, fun x => .tuple #[.agg #[.slice x.1 L.length x.2], .int .i64 n], fun x w => RS (.slice x.1 L.length x.2) L w, fun _ _ _ hb h => h.below hb⟩
def zie (L : List TA) (n : Int) : jQ := ⟨Option Addr × Nat, ⟨(none, 0)⟩, fun x => .agg #[.slice x.1 L.length x.2, .int .i64 n], fun x w => RS (.slice x.1 L.length x.2) L w, fun _ _ _ hb h => h.below hb⟩
def zg0 (n : Nat) (t : TypeId) (cs : Array Value) : jQ := ⟨Nat, ⟨0⟩, fun b => .pointer (some ⟨b, 0, none⟩), fun b w => n ≤ b ∧ zK t w b cs, fun _ _ _ hb h => ⟨h.1, h.2.of_eq (hb.block _ h.2.lt)⟩⟩
theorem VG {n : Nat} (h : n ≤ 2000) : n ≤ maxLen := by unfold maxLen; omega
/-! ### The contracts at lists that are known to be valid; results told by another word -/
theorem zbS (v : Value) (ls : List TA) (r : Bool) (w : World) (h : RS v ls w) (tk : qN ls) (hn : ls.length ≤ maxLen) (e : z2 ls = r) : Calls Tryz.prog 41 #[.agg #[v]] w fun e w' => e = .returned (.bool r) ∧ Below w.heap.size w w' := e ▸ Xx v ls w h tk hn
/- Contract of gouacheref08.Near. -/
def zhX (c : Rc) : Rc := ⟨c.x0 % 64 - 30, c.y0 % 64 - 30, c.x0 % 64 - 30 + 1 + c.x1 % 32, c.y0 % 64 - 30 + 1 + c.y1 % 32⟩
@[go_sem] theorem zfh (p0 p1 p2 pa : Int) (w : World) : (Instr.field 28 (.agg #[.int .u8 p0, .int .u8 p1, .int .u8 p2, .int .u8 pa]) 3).run Tryz.prog w = .ok (.int .u8 pa) w := by kernel_rfl
/- Pairs of integers as blocks; one byte of a tile stored; contracts of Set and Put with a result told. -/
def i2 (a b : Int) (k : Nat) : Int := if k = 0 then a else b
theorem zK.cellL {t : TypeId} {w : World} {b : Nat} {l : List Value} (h : zK t w b l.toArray) (i : Nat) {v : Value} (hv : l[i]? = some v) : w.cell? ⟨b, i, none⟩ = some v := h.cell i (by simpa using hv)
end Go.Proofs.YtepelndbbhdofaaGreatDoor
/- Plain laws: how many tiles there are behind put; the full raster. -/
namespace Go.Proofs.YtepelndbbhdofaaGreatDoor
open Go.RowKit Pl
set_option linter.unusedVariables false
set_option linter.unusedSimpArgs false
theorem zdB {ls : List TA} (h : uO ls) {i j : Nat} (hij : i < j) (hj : j < ls.length) : yr (aT ls i) (aT ls j) = true := by
 have hi : i < ls.length := Nat.lt_trans hij hj
 have e : ∀ k (hk : k < ls.length), aT ls k = ls[k] := fun k hk => by
  have := kN hk; rw [List.getElem?_eq_getElem hk] at this; exact (Option.some.inj this).symm
 rw [e i hi, e j hj]
 exact List.pairwise_iff_getElem.1 h i j hi hj hij
/-- The tile of the law: its first pixel full. -/
def zii (Ls : List Int) : Nat → Px := Qc (zff Ls) 0 ⟨0, 0, 3, 255⟩
def F24 : List TA := zgK 1024
/- Plain: the pixels that Image makes are the raster's pixels, row by row. -/
/-- The pixel number j of a rectangle. -/
def widN (c : Rc) : Nat := (c.x1 - c.x0).toNat
def vW (c : Rc) (j : Nat) : Int := c.x0 + ((j % widN c : Nat) : Int)
def vX (c : Rc) (j : Nat) : Int := c.y0 + ((j / widN c : Nat) : Int)
def QY (c : Rc) (ks : List TA) : List Px := (List.range (areaN c)).map fun j => xm ks (vW c j) (vX c j)
theorem zcx (c : Rc) (ks : List TA) : (QY c ks).length = areaN c := by unfold QY; rw [List.length_map, List.length_range]
theorem zes (c : Rc) (ks : List TA) {j : Nat} (hj : j < areaN c) : (QY c ks)[j]? = some (xm ks (vW c j) (vX c j)) := by
 unfold QY
 rw [List.getElem?_map, List.getElem?_range hj]
 rfl
theorem yq {c : Rc} (hf : xo c) : areaN c = widN c * (c.y1 - c.y0).toNat ∧ 0 < widN c := by
 have h1 := hf.h1
 have h2 := hf.h2
 obtain ⟨W, hW⟩ : ∃ W : Nat, c.x1 - c.x0 = (W : Int) := ⟨(c.x1 - c.x0).toNat, by omega⟩
 obtain ⟨H, hH⟩ : ∃ H : Nat, c.y1 - c.y0 = (H : Int) := ⟨(c.y1 - c.y0).toNat, by omega⟩
 unfold areaN widN
 rw [hW, hH, ← Int.natCast_mul, Int.toNat_natCast, Int.toNat_natCast, Int.toNat_natCast]
 exact ⟨rfl, by omega⟩
theorem zdb {c : Rc} (hf : xo c) {j : Nat} (hj : j < areaN c) : qU c (vW c j) (vX c j) = true := by
 obtain ⟨ea, hw⟩ := yq hf
 have hm := Nat.mod_lt j hw
 have hd : j / widN c < (c.y1 - c.y0).toNat := Nat.div_lt_of_lt_mul (by rw [← ea]; exact hj)
 rw [qz]
 unfold vW vX
 have hw' : widN c = (c.x1 - c.x0).toNat := rfl
 generalize j % widN c = u at hm ⊢
 generalize j / widN c = v at hd ⊢
 have := hf.h1
 have := hf.h2
 omega
/-- The index of a pixel, and back. -/
theorem zfM {c : Rc} (hf : xo c) {j : Nat} (hj : j < areaN c) {x y : Int} (hh : qU c x y = true) : (kf c x y).toNat = j ↔ x = vW c j ∧ y = vX c j := by
 obtain ⟨ea, hw⟩ := yq hf
 have hr := (qz c x y).1 hh
 obtain ⟨u, hu⟩ : ∃ u : Nat, x - c.x0 = (u : Int) := ⟨(x - c.x0).toNat, by omega⟩
 obtain ⟨v, hv⟩ : ∃ v : Nat, y - c.y0 = (v : Int) := ⟨(y - c.y0).toNat, by omega⟩
 have hwi : c.x1 - c.x0 = (widN c : Int) := by unfold widN; have := hf.h1; omega
 have e : (kf c x y).toNat = v * widN c + u := by
  have : kf c x y = ((v * widN c + u : Nat) : Int) := by
   unfold kf; rw [hwi, hv]; have : (v : Int) * (widN c : Int) + x - c.x0 = (v : Int) * (widN c : Int) + (u : Int) := by omega
   rw [this]; simp
  rw [this]; exact Int.toNat_natCast _
 have hul : u < widN c := by omega
 rw [e]
 unfold vW vX
 constructor
 ·intro h
  have hm : j % widN c = u := by rw [← h, Nat.mul_comm, Nat.mul_add_mod]; exact Nat.mod_eq_of_lt hul
  have hd : j / widN c = v := by rw [← h, Nat.mul_comm, Nat.mul_add_div hw, Nat.div_eq_of_lt hul]; omega
  rw [hm, hd]; omega
 ·rintro ⟨hx, hy⟩
  have hu' : u = j % widN c := by omega
  have hv' : v = j / widN c := by omega
  rw [hu', hv', Nat.mul_comm]; exact Nat.div_add_mod j (widN c)
/-- The place of a pixel in its tile. -/
def WI (x y : Int) : Nat := (8 * (y % 8) + x % 8).toNat
theorem KM {c : Rc} (hf : xo c) (e : TA) {s : List Px} (hs : s.length = areaN c) {j : Nat} (hj : j < areaN c) : ∀ m, m ≤ 64 → (yZ (vj c) e m s).1.length = areaN c ∧ (yZ (vj c) e m s).1[j]? = if xT e.x e.y (vW c j / 8) (vX c j / 8) = true ∧ WI (vW c j) (vX c j) < m then some (e.t (WI (vW c j) (vX c j))) else s[j]?
 | 0, _ => ⟨hs, by rw [if_neg (fun h => absurd h.2 (Nat.not_lt_zero _))]; rfl⟩
 | m + 1, hm => by
  obtain ⟨hl, ih⟩ := KM hf e hs hj m (by omega); show (if qU c (e.x * 8 + (m : Int) % 8) (e.y * 8 + (m : Int) / 8) = true then (yZ (vj c) e m s).1.set (kf c (e.x * 8 + (m : Int) % 8) (e.y * 8 + (m : Int) / 8)).toNat (e.t m) else (yZ (vj c) e m s).1).length = _ ∧
   (if qU c (e.x * 8 + (m : Int) % 8) (e.y * 8 + (m : Int) / 8) = true then (yZ (vj c) e m s).1.set (kf c (e.x * 8 + (m : Int) % 8) (e.y * 8 + (m : Int) / 8)).toNat (e.t m) else (yZ (vj c) e m s).1)[j]? = _
  by_cases hh : qU c (e.x * 8 + (m : Int) % 8) (e.y * 8 + (m : Int) / 8) = true
  ·rw [if_pos hh]
   refine ⟨by rw [List.length_set]; exact hl, ?_⟩
   rw [List.getElem?_set]; have hi := zfM hf hj hh; by_cases h1 : (kf c (e.x * 8 + (m : Int) % 8) (e.y * 8 + (m : Int) / 8)).toNat = j
   ·obtain ⟨ex, ey⟩ := hi.1 h1
    rw [if_pos h1, if_pos (by rw [h1, hl]; exact hj), ← ex, ← ey, if_pos ⟨decide_eq_true (by omega), by unfold WI; omega⟩]
    congr 2
    unfold WI; omega
   ·have hn := fun h => h1 (hi.2 h)
    rw [if_neg h1, ih]; by_cases h2 : xT e.x e.y (vW c j / 8) (vX c j / 8) = true ∧ WI (vW c j) (vX c j) < m
    ·rw [if_pos h2, if_pos ⟨h2.1, by omega⟩]
    ·rw [if_neg h2, if_neg (fun h3 => ?_)]
     have hq := of_decide_eq_true h3.1; have h4 : WI (vW c j) (vX c j) = m := by
      rcases Nat.lt_or_ge (WI (vW c j) (vX c j)) m with h5 | h5
      ·exact absurd ⟨h3.1, h5⟩ h2
      ·omega
     unfold WI at h4; exact hn ⟨by omega, by omega⟩
  ·rw [if_neg hh]
   refine ⟨hl, ?_⟩; rw [ih]; by_cases h2 : xT e.x e.y (vW c j / 8) (vX c j / 8) = true ∧ WI (vW c j) (vX c j) < m
   ·rw [if_pos h2, if_pos ⟨h2.1, by omega⟩]
   ·rw [if_neg h2, if_neg (fun h3 => ?_)]
    have hq := of_decide_eq_true h3.1; have h4 : WI (vW c j) (vX c j) = m := by
     rcases Nat.lt_or_ge (WI (vW c j) (vX c j)) m with h5 | h5
     ·exact absurd ⟨h3.1, h5⟩ h2
     ·omega
    unfold WI at h4; apply hh
    have := zdb hf hj; rw [show e.x * 8 + (m : Int) % 8 = vW c j by omega, show e.y * 8 + (m : Int) / 8 = vX c j by omega]; exact this
theorem V5 (a : List TA) (e : TA) (x y : Int) (h : xT e.x e.y x y = false) : zU (a ++ [e]) x y = zU a x y := by
 induction a with
 | nil => show (if xT e.x e.y x y = true then e.t else zT) = zT; rw [h]; rfl
 | cons b r ih =>
  show (if xT b.x b.y x y = true then b.t else zU (r ++ [e]) x y) = if xT b.x b.y x y = true then b.t else zU r x y
  rw [ih]
theorem Q6 {c : Rc} (hf : xo c) {ks : List TA} (hs : uO ks) {j : Nat} (hj : j < areaN c) : ∀ k, k ≤ ks.length → (kh (vj c) ks (List.replicate (areaN c) Px.zero) k).1.length = areaN c ∧ (kh (vj c) ks (List.replicate (areaN c) Px.zero) k).1[j]? = some (xm (ks.take k) (vW c j) (vX c j))
 | 0, _ => by
  refine ⟨List.length_replicate .., ?_⟩; show (List.replicate (areaN c) Px.zero)[j]? = some (zU [] _ _ _)
  rw [List.getElem?_replicate, if_pos hj]
  rfl
 | k + 1, hk => by
  obtain ⟨hl, ih⟩ := Q6 hf hs hj k (by omega); have hr := KM hf (aT ks k) hl hj 64 (Nat.le_refl _); refine ⟨hr.1, hr.2.trans ?_⟩; have ht : ks.take (k + 1) = ks.take k ++ [aT ks k] := by
   rw [List.take_add_one, kN (show k < ks.length from hk)]
   rfl
  have h64 : WI (vW c j) (vX c j) < 64 := by unfold WI; omega
  rw [ht]; unfold xm; by_cases he : xT (aT ks k).x (aT ks k).y (vW c j / 8) (vX c j / 8) = true
  ·rw [if_pos ⟨he, h64⟩, vE]
   ·show _ = some ((if xT (aT ks k).x (aT ks k).y (vW c j / 8) (vX c j / 8) = true then (aT ks k).t else zT) _)
    rw [if_pos he]
    rfl
   ·intro b hb
    obtain ⟨i, hi⟩ := List.mem_iff_getElem?.1 hb; have hik : i < k := by
     have := (List.getElem?_eq_some_iff.1 hi).1; rw [List.length_take] at this; omega
    rw [List.getElem?_take_of_lt hik, kN (by omega)] at hi; obtain rfl := Option.some.inj hi; have zh := zdB hs hik (show k < ks.length from hk); have hq := of_decide_eq_true he; have zh := of_decide_eq_true zh; exact decide_eq_false (by omega)
  ·rw [if_neg (fun h => he h.1), ih, V5 _ _ _ _ (by simpa using he)]
   rfl
/-- What Image makes of a valid raster. -/
theorem zcy {c : Rc} (hf : xo c) {ks : List TA} (hv : z2 ks = true) : zfd c ks = QY c ks := by
 apply List.ext_getElem?
 intro j
 by_cases hj : j < areaN c
 ·have := (Q6 hf (jC hv) hj ks.length (Nat.le_refl _)).2
  rw [List.take_length] at this; rw [zes c ks hj]; exact this
 ·have e2 : (QY c ks)[j]? = none := List.getElem?_eq_none (by rw [zcx]; omega)
  rw [e2]; apply List.getElem?_eq_none
  have hz : 0 < areaN c := by have := (Qm hf).1; omega
  have := (Q6 hf (jC hv) hz ks.length (Nat.le_refl _)).1; show (kh (vj c) ks (List.replicate (areaN c) Px.zero) ks.length).1.length ≤ j
  omega
/- Plain: a raster after pixel updates, by its pixels; grids of 32 times 32 pixels. -/
/-- A pixel update, as the law sends it. -/
structure Dt where
 x : Int
 y : Int
 p : Px
/-- All positions lie near the origin. -/
def zgs (r : List TA) : Prop := ∀ e ∈ r, -2 ≤ e.x ∧ e.x ≤ 1 ∧ -2 ≤ e.y ∧ e.y ≤ 1
theorem WJ : ∀ (l : List Nat) (m n : Nat), l.Pairwise (· < ·) → (∀ x ∈ l, m ≤ x ∧ x < n) → l.length ≤ n - m
 | [], _, _, _, _ => Nat.zero_le _
 | a :: t, m, n, hp, hb => by
  have ha := hb a (List.mem_cons_self ..); have h1 := List.pairwise_cons.1 hp; have := WJ t (a + 1) n h1.2 fun x hx => ⟨h1.1 x hx, (hb x (List.mem_cons_of_mem _ hx)).2⟩
  rw [List.length_cons]; omega
theorem YV (p : Px) : jj (jj p) = jj p := by
 unfold jj
 split
 ·split <;> rfl
 ·rfl
section
variable {r : List TA} {X Y : Int} {p : Px} (hv : z2 r = true) (hs : zgs r) (hX : -16 ≤ X ∧ X ≤ 15) (hY : -16 ≤ Y ∧ Y ≤ 15)
end
/-- The raster after the first k updates. -/
def zhp (d : Dt) : Int := d.x % 32 - 16
def zhq (d : Dt) : Int := d.y % 32 - 16
def dAt (l : List Dt) (k : Nat) : Dt := l.getD k ⟨0, 0, Px.zero⟩
def zhn (l : List Dt) : Nat → List TA
 | 0 => []
 | k + 1 => KU (zhn l k) (zhp (dAt l k)) (zhq (dAt l k)) (dAt l k).p
/-- The pixels wanted. -/
def zho (l : List Dt) : Nat → Nat → Px
 | 0 => fun _ => Px.zero
 | k + 1 => Qc (zho l k) (((dAt l k).y % 32).toNat * 32 + ((dAt l k).x % 32).toNat) (jj (dAt l k).p)
/-! ### Grids -/
def zhS (f : Nat → Px) : Array Value := Array.ofFn (n := 4096) fun k => pxC (f (k.val / 4)) (k.val % 4)
end Go.Proofs.YtepelndbbhdofaaGreatDoor
/- The pixel at a column and a row of a rectangle. -/
namespace Go.Proofs.YtepelndbbhdofaaGreatDoor
open Go.RowKit Go.Shelf Pl
theorem zdc {c : Rc} (hf : xo c) {X Y : Nat} (hX : (X : Int) < c.x1 - c.x0) (hY : (Y : Int) < c.y1 - c.y0) : ∃ k : Nat, (k : Int) = (Y : Int) * (c.x1 - c.x0) + (X : Int) ∧ k < areaN c ∧ vW c k = c.x0 + X ∧ vX c k = c.y0 + Y := by
 obtain ⟨ea, hw⟩ := yq hf
 have hwi : c.x1 - c.x0 = (widN c : Int) := by unfold widN; have := hf.h1; omega
 have hX' : X < widN c := by omega
 refine ⟨Y * widN c + X, by rw [hwi]; simp, ?_, ?_, ?_⟩
 ·have h : (Y + 1) * widN c ≤ (c.y1 - c.y0).toNat * widN c := Nat.mul_le_mul_right _ (by omega)
  rw [Nat.add_mul, Nat.one_mul] at h; rw [ea, Nat.mul_comm (widN c)]; omega
 ·unfold vW
  rw [Nat.add_comm, Nat.add_mul_mod_self_right, Nat.mod_eq_of_lt hX']
 ·unfold vX
  rw [Nat.add_comm, Nat.add_mul_div_right _ _ hw, Nat.div_eq_of_lt hX', Nat.zero_add]
end Go.Proofs.YtepelndbbhdofaaGreatDoor
/- Plain: the positions of a rectangle's tiles; what Paste computes. -/
namespace Go.Proofs.YtepelndbbhdofaaGreatDoor
open Go.RowKit Pl
set_option linter.unusedVariables false
set_option linter.unusedSimpArgs false
/-- The rectangle of the tiles that a rectangle meets. -/
def zAA (c : Rc) : Rc := ⟨c.x0 / 8, c.y0 / 8, (c.x1 - 1) / 8 + 1, (c.y1 - 1) / 8 + 1⟩
theorem vG {c : Rc} (h : xo c) : xo (zAA c) := by
 obtain ⟨a1, a2, a3, a4, a5, a6, a7, a8⟩ := h
 refine ⟨?_, ?_, ?_, ?_, ?_, ?_, ?_, ?_⟩ <;> (unfold zAA; simp only; omega)
def K7 (c : Rc) : Nat := areaN (zAA c)
theorem zdH {c : Rc} (h : xo c) : K7 c ≤ 1089 := by
 have e := (yq (vG h)).1
 obtain ⟨a1, a2, a3, a4, a5, a6, a7, a8⟩ := h
 unfold K7
 rw [e]
 have h1 : widN (zAA c) ≤ 33 := by unfold widN zAA; simp only; omega
 have h2 : ((zAA c).y1 - (zAA c).y0).toNat ≤ 33 := by unfold zAA; simp only; omega
 exact Nat.mul_le_mul h1 h2
def ZG (c : Rc) (k : Nat) : Int × Int := (vW (zAA c) k, vX (zAA c) k)
def yY (c : Rc) : List (Int × Int) := (List.range (K7 c)).map (ZG c)
theorem zc2 (c : Rc) : (yY c).length = K7 c := by unfold yY; rw [List.length_map, List.length_range]
theorem W5 {c : Rc} (hf : xo c) {k : Nat} (hk : k < K7 c) : z8 (ZG c k).1 (ZG c k).2 = true := by
 have h := (qz _ _ _).1 (zdb (vG hf) hk)
 have h3 := hf.h3
 have h4 := hf.h4
 have h5 := hf.h5
 have h6 := hf.h6
 unfold ZG
 refine decide_eq_true ?_
 unfold zAA at h
 simp only at h ⊢
 unfold zAA
 omega
theorem zeR {c : Rc} (hf : xo c) : ∀ p ∈ yY c, z8 p.1 p.2 = true := fun p hp => by
 obtain ⟨k, hk, rfl⟩ := List.mem_map.1 hp
 exact W5 hf (List.mem_range.1 hk)
theorem zc3 {c : Rc} (hf : xo c) {j k : Nat} (h : ZG c j = ZG c k) : j = k := by
 have hw := (yq (vG hf)).2
 unfold ZG vW vX at h
 injection h with h1 h2
 have e1 : j % widN (zAA c) = k % widN (zAA c) := by omega
 have e2 : j / widN (zAA c) = k / widN (zAA c) := by omega
 rw [← Nat.div_add_mod j (widN (zAA c)), ← Nat.div_add_mod k (widN (zAA c)), e1, e2]
theorem VQ {c : Rc} (hf : xo c) : (yY c).Nodup := by
 unfold yY
 exact List.Pairwise.map _ (fun a b hab e => hab (zc3 hf e)) List.nodup_range
/-! ### Pasting -/
def Jc (c : Rc) (L : List Px) (X Y : Int) : Px := L.getD (kf c X Y).toNat Px.zero
def Qb (c : Rc) (L : List Px) (X Y : Int) (p : Px) : Px := if qU c X Y = true then jj (Jc c L X Y) else p
def xw (c : Rc) (L : List Px) (x y : Int) (t : Nat → Px) : Nat → Px := fun i => if i < 64 then Qb c L (x * 8 + (i : Int) % 8) (y * 8 + (i : Int) / 8) (t i) else t i
def VR (c : Rc) (L : List Px) (_ : Unit) (X Y : Int) (p : Px) : Unit × Px := ((), Qb c L X Y p)
theorem KN (c : Rc) (L : List Px) (e : TA) : ∀ k, ∀ i, (yZ (VR c L) e k ()).2 i = if i < k then Qb c L (e.x * 8 + (i : Int) % 8) (e.y * 8 + (i : Int) / 8) (e.t i) else e.t i
 | 0, i => by rw [if_neg (by omega)]; rfl
 | k + 1, i => by
  show Qc (yZ (VR c L) e k ()).2 k (Qb c L (e.x * 8 + (k : Int) % 8) (e.y * 8 + (k : Int) / 8) (e.t k)) i = _
  unfold Qc; by_cases h : i = k
  ·subst h
   rw [if_pos rfl, if_pos (Nat.lt_succ_self _)]
  ·rw [if_neg h, KN c L e k i]
   by_cases h2 : i < k
   ·rw [if_pos h2, if_pos (Nat.lt_succ_of_lt h2)]
   ·rw [if_neg h2, if_neg (show ¬ i < k + 1 from by omega)]
theorem V0 (c : Rc) (L : List Px) (e : TA) : (yZ (VR c L) e 64 ()).2 = xw c L e.x e.y e.t := funext fun i => KN c L e 64 i
theorem zcO (c : Rc) (L : List Px) (e : TA) : (kh (VR c L) [e] () 1).2 = jm e.x e.y (xw c L e.x e.y e.t) := by
 show [] ++ jm (aT [e] 0).x (aT [e] 0).y (yZ (VR c L) (aT [e] 0) 64 ()).2 = _
 have h : aT [e] 0 = e := rfl
 rw [h, V0, List.nil_append]
def OkL (L : List Px) : Prop := ∀ p ∈ L, p.ok
theorem WZ {c : Rc} {L : List Px} (h : OkL L) (X Y : Int) : (Jc c L X Y).ok := by
 unfold Jc
 rw [List.getD_eq_getElem?_getD]
 cases hk : L[(kf c X Y).toNat]? with
 | none => exact Px.zero_ok
 | some p => exact h p (List.mem_of_getElem? hk)
theorem W7 {c : Rc} {L : List Px} (h : OkL L) (X Y : Int) (p : Px) (hp : p.ok) : (Qb c L X Y p).ok := by
 unfold Qb
 split
 ·exact wO (WZ h X Y)
 ·exact hp
theorem Kz {c : Rc} {L : List Px} (h : OkL L) (x y : Int) {t : Nat → Px} (ht : Zr t) : Zr (xw c L x y t) := fun i hi => by
 unfold xw
 rw [if_pos hi]
 exact W7 h _ _ _ (ht i hi)
def Vk (ls : List TA) : Prop := ∀ e ∈ ls, kO (qF e.t) e.t = true
theorem Zj {ls : List TA} (h : Vk ls) (x y : Int) {i : Nat} (hi : i < 64) : jj (zU ls x y i) = zU ls x y i := by
 rcases uH ls x y with e | ⟨e, he, _, _, ht⟩
 ·rw [e]; rfl
 ·rw [ht]
  exact VA (h e he) hi
theorem K9 {ls : List TA} (h : z2 ls = true) : Vk ls := fun e he => ((vi e).1 (xG h e he)).2.2
theorem Je (c : Rc) (L : List Px) (x y : Int) {t : Nat → Px} (h : ∀ i, i < 64 → jj (t i) = t i) : ∀ i, i < 64 → jj (xw c L x y t i) = xw c L x y t i := fun i hi => by
 unfold xw
 rw [if_pos hi]
 unfold Qb
 split
 ·exact YV _
 ·exact h i hi
def Ku (c : Rc) (L : List Px) (ls : List TA) (p : Int × Int) : List TA := xS ls p.1 p.2 (xw c L p.1 p.2 (zU ls p.1 p.2))
def xP (c : Rc) (L : List Px) (ls : List TA) (ps : List (Int × Int)) : List TA := ps.foldl (Ku c L) ls
theorem za1 (c : Rc) (L : List Px) (ls : List TA) (ps : List (Int × Int)) (p : Int × Int) : xP c L ls (ps ++ [p]) = Ku c L (xP c L ls ps) p := by unfold xP; rw [List.foldl_append]; rfl
theorem wW (c : Rc) (L : List Px) (ls : List TA) (p : Int × Int) (ps : List (Int × Int)) : xP c L ls (p :: ps) = xP c L (Ku c L ls p) ps := rfl
theorem Kv (c : Rc) (L : List Px) (ps : List (Int × Int)) : ∀ ls, (xP c L ls ps).length ≤ ls.length + ps.length := by
 induction ps with
 | nil => intro ls; exact Nat.le_refl _
 | cons p r ih =>
  intro ls; rw [wW]; have h1 := ih (Ku c L ls p); have h2 := wu ls p.1 p.2 (xw c L p.1 p.2 (zU ls p.1 p.2)); rw [List.length_cons]; unfold Ku at h1 ⊢; omega
theorem Jd (c : Rc) (L : List Px) (ps : List (Int × Int)) : ∀ ls, uO ls → uO (xP c L ls ps) := by
 induction ps with
 | nil => intro ls h; exact h
 | cons p r ih => intro ls h; exact ih _ (Jf h)
theorem Ky {c : Rc} {L : List Px} (hL : OkL L) (ps : List (Int × Int)) : ∀ ls, qN ls → qN (xP c L ls ps) := by
 induction ps with
 | nil => intro ls h; exact h
 | cons p r ih => intro ls h; exact ih _ (KA h (Kz hL _ _ (kt h _ _)))
theorem za0 (c : Rc) (L : List Px) (ps : List (Int × Int)) : ∀ ls, (∀ e ∈ ls, ka e = true) → (∀ p ∈ ps, z8 p.1 p.2 = true) → ∀ e ∈ xP c L ls ps, ka e = true := by
 induction ps with
 | nil => intro ls h _; exact h
 | cons p r ih =>
  intro ls h hp; refine ih _ (Xb h (hp p (List.mem_cons_self ..)) ?_) (fun q hq => hp q (List.mem_cons_of_mem _ hq)); exact wh fun i hi => Je c L _ _ (fun j hj => Zj (fun e he => ((vi e).1 (h e he)).2.2) _ _ hj) i hi
/-- The tile at a position behind a paste. -/
theorem uq (c : Rc) (L : List Px) {X Y : Int} (ps : List (Int × Int)) : ∀ ls, (X, Y) ∉ ps → zU (xP c L ls ps) X Y = zU ls X Y := by
 induction ps with
 | nil => intro ls _; rfl
 | cons p r ih =>
  intro ls h; rw [wW, ih _ (fun e => h (List.mem_cons_of_mem _ e))]; refine vO _ _ _ _ (decide_eq_false fun e => h ?_); have : p = (X, Y) := Prod.ext e.1 e.2; rw [this]; exact List.mem_cons_self ..
theorem Ym (c : Rc) (L : List Px) {X Y : Int} (ps : List (Int × Int)) : ∀ ls, uO ls → ps.Nodup → (X, Y) ∈ ps → zU (xP c L ls ps) X Y = if jh (xw c L X Y (zU ls X Y)) = true then zT else xw c L X Y (zU ls X Y) := by
 induction ps with
 | nil => intro ls _ _ h; cases h
 | cons p r ih =>
  intro ls hs hn h; obtain ⟨h1, h2⟩ := List.pairwise_cons.1 hn; rw [wW]; by_cases hp : p = (X, Y)
  ·subst hp
   rw [uq c L r _ (fun e => h1 _ e rfl)]; exact Jw hs _ _ _
  ·rcases List.mem_cons.1 h with e | e
   ·exact absurd e.symm hp
   ·rw [ih (Ku c L ls p) (Jf hs) h2 e]
    have : zU (Ku c L ls p) X Y = zU ls X Y := vO _ _ _ _ (decide_eq_false fun e => hp (Prod.ext e.1 e.2)); rw [this]
theorem Ks {c : Rc} (hf : xo c) {X Y : Int} : (X, Y) ∈ yY c ↔ qU (zAA c) X Y = true := by
 constructor
 ·intro h
  obtain ⟨k, hk, e⟩ := List.mem_map.1 h; have := zdb (vG hf) (List.mem_range.1 hk); unfold ZG at e
  injection e with e1 e2
  rw [← e1, ← e2]; exact this
 ·intro h
  have hr := (qz _ _ _).1 h; obtain ⟨k, _, hk, e1, e2⟩ := zdc (vG hf) (X := (X - (zAA c).x0).toNat) (Y := (Y - (zAA c).y0).toNat) (by omega) (by omega); refine List.mem_map.2 ⟨k, List.mem_range.2 hk, ?_⟩; unfold ZG; rw [e1, e2]; exact Prod.ext (by simp only; omega) (by simp only; omega)
/-- A pixel behind a paste. -/
theorem zcu {c : Rc} (hf : xo c) (L : List Px) {ls : List TA} (hs : uO ls) (hc : Vk ls) (x y : Int) : xm (xP c L ls (yY c)) x y = if qU c x y = true then jj (Jc c L x y) else xm ls x y := by
 have hi : (8 * (y % 8) + x % 8).toNat < 64 := by omega
 have ex : x / 8 * 8 + (((8 * (y % 8) + x % 8).toNat : Nat) : Int) % 8 = x := by omega
 have ey : y / 8 * 8 + (((8 * (y % 8) + x % 8).toNat : Nat) : Int) / 8 = y := by omega
 have hp : xw c L (x / 8) (y / 8) (zU ls (x / 8) (y / 8)) (8 * (y % 8) + x % 8).toNat = if qU c x y = true then jj (Jc c L x y) else xm ls x y := by
  unfold xw; rw [if_pos hi, ex, ey]
  rfl
 unfold xm at hp ⊢
 by_cases hm : (x / 8, y / 8) ∈ yY c
 ·rw [Ym c L _ _ hs (VQ hf) hm]
  by_cases hz : jh (xw c L (x / 8) (y / 8) (zU ls (x / 8) (y / 8))) = true
  ·rw [if_pos hz, ← hp]
   have h0 := (ua _).1 hz _ hi; have h1 := Je c L (x / 8) (y / 8) (t := zU ls (x / 8) (y / 8)) (fun j hj => Zj hc _ _ hj) _ hi; rw [← h1]; unfold jj; rw [if_pos h0]
   rfl
  ·rw [if_neg hz, hp]
 ·rw [uq c L _ _ hm]
  rw [if_neg]; intro hh; apply hm
  rw [Ks hf, qz]; have := (qz _ _ _).1 hh; unfold zAA; simp only; omega
def zAC (c : Rc) (L : List Px) (ls : List TA) : Int := if j9 c = true ∧ (L.length : Int) = vL c then (if jL c = 0 then kx (xP c L (qc ls) (yY c)) else jL c) else 1
def vq (c : Rc) (L : List Px) (ls : List TA) : List TA := if j9 c = true ∧ (L.length : Int) = vL c then (if jL c = 0 then xQ (xP c L (qc ls) (yY c)) else []) else []
theorem VS (c : Rc) (L : List Px) (ls : List TA) : z2 (vq c L ls) = true := by
 unfold vq
 split
 ·split
  ·rename_i hE
   unfold xQ; split
   ·rename_i h
    exact Xo h (za0 c L _ _ (xG (jG ls)) (zeR (yM hE))) (Jd c L _ _ (jC (jG ls)))
   ·exact jO
  ·exact jO
 ·exact jO
theorem zc7 {c : Rc} {L : List Px} {ls : List TA} (hL : OkL L) (h : qN ls) : qN (vq c L ls) := by
 unfold vq
 split
 ·split
  ·unfold xQ
   split
   ·exact Ky hL _ _ (yL h)
   ·exact qN.nil
  ·exact qN.nil
 ·exact qN.nil
/-- The cut of a sorted list: what stands there. -/
theorem zfK {ls : List TA} (hs : uO ls) {x y : Int} (h : y6 ls x y = true) : cutL ls x y < ls.length ∧ aT ls (cutL ls x y) = ⟨x, y, zU ls x y⟩ := by
 unfold y6 at h
 obtain ⟨h1, h2⟩ := Bool.and_eq_true_iff.1 h
 have h1 := of_decide_eq_true h1
 have h2 := of_decide_eq_true h2
 refine ⟨h1, ?_⟩
 have hm : aT ls (cutL ls x y) ∈ ls := List.mem_of_getElem? (kN h1)
 have ht := zbh hs hm
 rw [h2.1, h2.2] at ht
 rw [ht]
 obtain ⟨e1, e2⟩ := h2
 generalize aT ls (cutL ls x y) = e at *
 obtain ⟨ex, ey, et⟩ := e
 simp only at e1 e2
 subst e1 e2
 rfl
theorem zep {ls : List TA} (hs : uO ls) {x y : Int} (h : y6 ls x y = false) : zU ls x y = zT := by
 refine vF fun e he => ?_
 obtain ⟨j, hj⟩ := List.mem_iff_getElem?.1 he
 have hjl : j < ls.length := (List.getElem?_eq_some_iff.1 hj).1
 rw [kN hjl] at hj
 obtain rfl := Option.some.inj hj
 by_cases hc : j < cutL ls x y
 ·have := of_decide_eq_true (Wu hc)
  exact decide_eq_false (by omega)
 ·unfold y6 at h
  have hcl : cutL ls x y < ls.length := by omega
  rw [decide_eq_true hcl, Bool.true_and] at h; by_cases e : j = cutL ls x y
  ·rw [e]; exact h
  ·have h1 := of_decide_eq_true (zdB hs (show cutL ls x y < j by omega) hjl)
   have h2 := of_decide_eq_false (Wt hcl); exact decide_eq_false (by omega)
theorem RS.congr {v : Value} {ls ks : List TA} {w : World} (h : RS v ls w) (hl : ls.length = ks.length) (hr : wv ls = wv ks) : RS v ks w := by
 rcases h with ⟨h1, rfl⟩ | ⟨g, o, c, e, hc, sc⟩
 ·exact .inl ⟨h1, List.eq_nil_of_length_eq_zero hl.symm⟩
 ·refine .inr ⟨g, o, c, by rw [← hl]; exact e, by omega, fun hn => ⟨(sc (by omega)).1, fun i hi j hj => ?_⟩⟩
  rw [(sc (by omega)).2 i (by omega) j hj, ← Qx ls i j (by omega) hj, hr, Qx ks i j hi hj]
theorem Xc (ls : List TA) (x y : Int) {t u : Nat → Px} (ht : jh t = true) (hu : jh u = true) : xS ls x y t = xS ls x y u := by
 rw [vr, vr]
 unfold jm
 rw [if_pos ht, if_pos hu]
/- Plain: the positions at which two rasters differ, in order; replacing them. -/
def Vi (a b : Int × Int) : Bool := qQ a.1 a.2 b.1 b.2
def jc (e : TA) : Int × Int := (e.x, e.y)
def zhf (l : List (Int × Int)) : Prop := l.Pairwise fun a b => Vi a b = true
theorem ZB {a b c d : Int} : qQ a b c d = true ↔ (b < d ∨ (b = d ∧ a < c)) := by unfold qQ; exact decide_eq_true_iff
theorem XT {a b : Int × Int} : Vi a b = true ↔ (a.2 < b.2 ∨ (a.2 = b.2 ∧ a.1 < b.1)) := ZB
theorem J2 {a b c : Int × Int} (h : Vi a b = true) (k : Vi b c = true) : Vi a c = true := by
 rw [XT] at *
 omega
theorem WR (a : Int × Int) : ¬ Vi a a = true := by rw [XT]; omega
theorem zeF {a b : Int × Int} (h : ¬ a = b) (k : ¬ Vi a b = true) : Vi b a = true := by
 rw [XT] at *
 have : ¬ (a.1 = b.1 ∧ a.2 = b.2) := fun e => h (Prod.ext e.1 e.2)
 omega
theorem Y0 {t u : Nat → Px} (h : kO t u = true) : kO u t = true := wh fun i hi => (VA h hi).symm
theorem QT (t u : Nat → Px) : kO t u = kO u t := by
 rw [Bool.eq_iff_iff]
 exact ⟨Y0, Y0⟩
theorem uV {t : Nat → Px} (h : jh t = false) : kO t zT = false := by
 by_cases e : kO t zT = true
 ·exfalso
  have : jh t = true := (ua t).2 fun i hi => by rw [VA e hi]; rfl
  rw [h] at this; cases this
 ·simpa using e
/-- No tile without a visible pixel. -/
def Nz (ls : List TA) : Prop := ∀ e ∈ ls, jh e.t = false
theorem Zk {ls : List TA} (h : z2 ls = true) : Nz ls := fun e he => ((vi e).1 (xG h e he)).2.1
def x9 (a b : List TA) (p : Int × Int) : Prop := kO (zU a p.1 p.2) (zU b p.1 p.2) = false
theorem x9.symm {a b : List TA} {p : Int × Int} (h : x9 a b p) : x9 b a p := by unfold x9 at *; rw [QT]; exact h
theorem wP {a b : List TA} {p : Int × Int} (h : x9 a b p) : (∃ e ∈ a, jc e = p) ∨ ∃ e ∈ b, jc e = p := by
 rcases uH a p.1 p.2 with e | ⟨e, he, e1, e2, _⟩
 ·rcases uH b p.1 p.2 with f | ⟨f, hf, f1, f2, _⟩
  ·unfold x9 at h
   rw [e, f, YZ] at h; cases h
  ·exact .inr ⟨f, hf, Prod.ext f1 f2⟩
 ·exact .inl ⟨e, he, Prod.ext e1 e2⟩
/-! ### Changed of package raster: two lists merged -/
def xt : List TA → List TA → List (Int × Int)
 | [], [] => []
 | [], e :: r => jc e :: xt [] r
 | d :: q, [] => jc d :: xt q []
 | d :: q, e :: r => if qQ d.x d.y e.x e.y = true then jc d :: xt q (e :: r) else if qQ e.x e.y d.x d.y = true then jc e :: xt (d :: q) r else (if kO d.t e.t = true then [] else [jc d]) ++ xt q r
termination_by a b => a.length + b.length
theorem Zx : xt [] [] = [] := by rw [xt]
theorem ux (e : TA) (r : List TA) : xt [] (e :: r) = jc e :: xt [] r := by rw [xt]
theorem Zw (d : TA) (q : List TA) : xt (d :: q) [] = jc d :: xt q [] := by rw [xt]
theorem xN (d : TA) (q : List TA) (e : TA) (r : List TA) : xt (d :: q) (e :: r) = if qQ d.x d.y e.x e.y = true then jc d :: xt q (e :: r) else if qQ e.x e.y d.x d.y = true then jc e :: xt (d :: q) r else (if kO d.t e.t = true then [] else [jc d]) ++ xt q r := by rw [xt]
theorem YT : ∀ (a b : List TA), (xt a b).length ≤ a.length + b.length := by
 intro a b
 induction a, b using xt.induct with
 | case1 => rw [Zx]; exact Nat.le_refl _
 | case2 e r ih => rw [ux]; simp only [List.length_cons, List.length_nil] at ih ⊢; omega
 | case3 d q ih => rw [Zw]; simp only [List.length_cons, List.length_nil] at ih ⊢; omega
 | case4 d q e r h ih => rw [xN, if_pos h]; simp only [List.length_cons] at ih ⊢; omega
 | case5 d q e r h k ih => rw [xN, if_neg h, if_pos k]; simp only [List.length_cons] at ih ⊢; omega
 | case6 d q e r h k ih =>
  rw [xN, if_neg h, if_neg k, List.length_append]; simp only [List.length_cons] at ih ⊢; split
  ·simp only [List.length_nil]; omega
  ·simp only [List.length_cons, List.length_nil]; omega
theorem y4 {d : TA} {q : List TA} (h : uO (d :: q)) : uO q ∧ ∀ e ∈ q, Vi (jc d) (jc e) = true := by
 obtain ⟨h1, h2⟩ := List.pairwise_cons.1 h
 exact ⟨h2, h1⟩
theorem W4 {p : Int × Int} {e : TA} (h : ¬ jc e = p) : xT e.x e.y p.1 p.2 = false := decide_eq_false fun k => h (Prod.ext k.1 k.2)
theorem yQ (d : TA) (q : List TA) : zU (d :: q) d.x d.y = d.t := by
 show (if _ then _ else _) = _
 rw [if_pos (show xT d.x d.y d.x d.y = true from decide_eq_true ⟨rfl, rfl⟩)]
theorem yR (d : TA) (q : List TA) {p : Int × Int} (h : ¬ jc d = p) : zU (d :: q) p.1 p.2 = zU q p.1 p.2 := by
 show (if _ then _ else _) = _
 rw [if_neg (by rw [W4 h]; decide)]
theorem K4 {p : Int × Int} {q : List TA} (h : ∀ e ∈ q, Vi p (jc e) = true) : zU q p.1 p.2 = zT :=
 vF fun e he => W4 fun k => WR p (by have := h e he; rw [k] at this; exact this)
theorem JX : ∀ (a b : List TA), uO a → uO b → Nz a → Nz b → zhf (xt a b) ∧ ∀ p, p ∈ xt a b ↔ x9 a b p := by
 intro a b
 induction a, b using xt.induct with
 | case1 =>
  intro _ _ _ _; rw [Zx]; refine ⟨List.Pairwise.nil, fun p => ⟨fun h => (by cases h), fun h => ?_⟩⟩; unfold x9 at h; rw [show zU ([] : List TA) p.1 p.2 = zT from rfl, YZ] at h; cases h
 | case2 e r ih =>
  intro ha hb na nb; obtain ⟨hr, zh⟩ := y4 hb; obtain ⟨i1, i2⟩ := ih ha hr na (fun x hx => nb x (List.mem_cons_of_mem _ hx)); rw [ux]; refine ⟨List.Pairwise.cons (fun p hp => ?_) i1, fun p => ?_⟩
  ·rcases wP ((i2 p).1 hp) with ⟨_, h, _⟩ | ⟨x, hx, rfl⟩
   ·cases h
   ·exact zh x hx
  ·by_cases hp : jc e = p
   ·subst hp
    refine ⟨fun _ => ?_, fun _ => List.mem_cons_self ..⟩; unfold x9; rw [show zU ([] : List TA) (jc e).1 (jc e).2 = zT from rfl, show zU (e :: r) (jc e).1 (jc e).2 = e.t from yQ e r, QT]; exact uV (nb e (List.mem_cons_self ..))
   ·have : x9 [] (e :: r) p ↔ x9 [] r p := by unfold x9; rw [yR e r hp]
    rw [this, ← i2, List.mem_cons]; exact ⟨fun h => h.resolve_left (fun e => hp e.symm), .inr⟩
 | case3 d q ih =>
  intro ha hb na nb; obtain ⟨hq, zh⟩ := y4 ha; obtain ⟨i1, i2⟩ := ih hq hb (fun x hx => na x (List.mem_cons_of_mem _ hx)) nb; rw [Zw]; refine ⟨List.Pairwise.cons (fun p hp => ?_) i1, fun p => ?_⟩
  ·rcases wP ((i2 p).1 hp) with ⟨x, hx, rfl⟩ | ⟨_, h, _⟩
   ·exact zh x hx
   ·cases h
  ·by_cases hp : jc d = p
   ·subst hp
    refine ⟨fun _ => ?_, fun _ => List.mem_cons_self ..⟩; unfold x9; rw [show zU ([] : List TA) (jc d).1 (jc d).2 = zT from rfl, show zU (d :: q) (jc d).1 (jc d).2 = d.t from yQ d q]; exact uV (na d (List.mem_cons_self ..))
   ·have : x9 (d :: q) [] p ↔ x9 q [] p := by unfold x9; rw [yR d q hp]
    rw [this, ← i2, List.mem_cons]; exact ⟨fun h => h.resolve_left (fun e => hp e.symm), .inr⟩
 | case4 d q e r h ih =>
  intro ha hb na nb; obtain ⟨hq, zh⟩ := y4 ha; obtain ⟨hr, hlr⟩ := y4 hb; obtain ⟨i1, i2⟩ := ih hq hb (fun x hx => na x (List.mem_cons_of_mem _ hx)) nb; have hde : Vi (jc d) (jc e) = true := h; have hall : ∀ x ∈ e :: r, Vi (jc d) (jc x) = true := fun x hx => by
   rcases List.mem_cons.1 hx with rfl | hx
   ·exact hde
   ·exact J2 hde (hlr x hx)
  rw [xN, if_pos h]; refine ⟨List.Pairwise.cons (fun p hp => ?_) i1, fun p => ?_⟩
  ·rcases wP ((i2 p).1 hp) with ⟨x, hx, rfl⟩ | ⟨x, hx, rfl⟩
   ·exact zh x hx
   ·exact hall x hx
  ·by_cases hp : jc d = p
   ·subst hp
    refine ⟨fun _ => ?_, fun _ => List.mem_cons_self ..⟩; unfold x9; rw [K4 hall, show zU (d :: q) (jc d).1 (jc d).2 = d.t from yQ d q]; exact uV (na d (List.mem_cons_self ..))
   ·have : x9 (d :: q) (e :: r) p ↔ x9 q (e :: r) p := by unfold x9; rw [yR d q hp]
    rw [this, ← i2, List.mem_cons]; exact ⟨fun h => h.resolve_left (fun e => hp e.symm), .inr⟩
 | case5 d q e r h k ih =>
  intro ha hb na nb; obtain ⟨hq, zh⟩ := y4 ha; obtain ⟨hr, hlr⟩ := y4 hb; obtain ⟨i1, i2⟩ := ih ha hr na (fun x hx => nb x (List.mem_cons_of_mem _ hx)); have hed : Vi (jc e) (jc d) = true := k; have hall : ∀ x ∈ d :: q, Vi (jc e) (jc x) = true := fun x hx => by
   rcases List.mem_cons.1 hx with rfl | hx
   ·exact hed
   ·exact J2 hed (zh x hx)
  rw [xN, if_neg h, if_pos k]; refine ⟨List.Pairwise.cons (fun p hp => ?_) i1, fun p => ?_⟩
  ·rcases wP ((i2 p).1 hp) with ⟨x, hx, rfl⟩ | ⟨x, hx, rfl⟩
   ·exact hall x hx
   ·exact hlr x hx
  ·by_cases hp : jc e = p
   ·subst hp
    refine ⟨fun _ => ?_, fun _ => List.mem_cons_self ..⟩; unfold x9; rw [K4 hall, show zU (e :: r) (jc e).1 (jc e).2 = e.t from yQ e r, QT]; exact uV (nb e (List.mem_cons_self ..))
   ·have : x9 (d :: q) (e :: r) p ↔ x9 (d :: q) r p := by unfold x9; rw [yR e r hp]
    rw [this, ← i2, List.mem_cons]; exact ⟨fun h => h.resolve_left (fun e => hp e.symm), .inr⟩
 | case6 d q e r h k ih =>
  intro ha hb na nb; obtain ⟨hq, zh⟩ := y4 ha; obtain ⟨hr, hlr⟩ := y4 hb; obtain ⟨i1, i2⟩ := ih hq hr (fun x hx => na x (List.mem_cons_of_mem _ hx)) (fun x hx => nb x (List.mem_cons_of_mem _ hx)); have hpe : jc d = jc e := by
   by_cases hh : jc d = jc e
   ·exact hh
   ·exact absurd (zeF hh h) k
  rw [← hpe] at hlr; have hall : ∀ p ∈ xt q r, Vi (jc d) p = true := fun p hp => by
   rcases wP ((i2 p).1 hp) with ⟨x, hx, rfl⟩ | ⟨x, hx, rfl⟩
   ·exact zh x hx
   ·exact hlr x hx
  have hno : ¬ jc d ∈ xt q r := fun hm => WR _ (hall _ hm)
  have hev : x9 (d :: q) (e :: r) (jc d) ↔ ¬ kO d.t e.t = true := by
   unfold x9; have h2 : zU (e :: r) (jc d).1 (jc d).2 = e.t := by rw [hpe]; exact yQ e r
   rw [show zU (d :: q) (jc d).1 (jc d).2 = d.t from yQ d q, h2]; simp
  have hnt : ∀ p, ¬ jc d = p → (x9 (d :: q) (e :: r) p ↔ x9 q r p) := fun p hp => by
   unfold x9; rw [yR d q hp, yR e r (by rw [← hpe]; exact hp)]
  rw [xN, if_neg h, if_neg k]; by_cases ht : kO d.t e.t = true
  ·rw [if_pos ht, List.nil_append]
   refine ⟨i1, fun p => ?_⟩; by_cases hp : jc d = p
   ·subst hp
    exact ⟨fun hm => absurd hm hno, fun hm => absurd ht (hev.1 hm)⟩
   ·rw [hnt p hp, i2]
  ·rw [if_neg ht]
   refine ⟨List.Pairwise.cons hall i1, fun p => ?_⟩; show p ∈ jc d :: xt q r ↔ _
   by_cases hp : jc d = p
   ·subst hp
    exact ⟨fun _ => hev.2 ht, fun _ => List.mem_cons_self ..⟩
   ·rw [hnt p hp, ← i2, List.mem_cons]
    exact ⟨fun h => h.resolve_left (fun e => hp e.symm), .inr⟩
/-! ### Changed of the reference: what differs of the first, then the second's inserted -/
def zgQ : List (Int × Int) → Int × Int → List (Int × Int)
 | [], p => [p]
 | q :: r, p => if q = p then q :: r else if Vi p q = true then p :: q :: r else q :: zgQ r p
def zhi (a b : List TA) : List (Int × Int) := (a.filter fun e => !kO e.t (zU b e.x e.y)).map jc
def zhj (a : List TA) (o : List (Int × Int)) (b : List TA) : List (Int × Int) := b.foldl (fun o e => if kO e.t (zU a e.x e.y) = true then o else zgQ o (jc e)) o
def zia (a b : List TA) : List (Int × Int) := zhj a (zhi a b) b
/-! ### The changed tiles replaced -/
def mv1 (b : List TA) (s : List TA) (p : Int × Int) : List TA := ud s p.1 p.2 (zU b p.1 p.2)
def mvL (b : List TA) (s : List TA) (ps : List (Int × Int)) : List TA := ps.foldl (mv1 b) s
theorem YX {a b : List TA} (ha : z2 a = true) (hb : z2 b = true) {p : Int × Int} (h : x9 a b p) : z8 p.1 p.2 = true := by
 rcases wP h with ⟨e, he, rfl⟩ | ⟨e, he, rfl⟩
 ·exact ((vi e).1 (xG ha e he)).1
 ·exact ((vi e).1 (xG hb e he)).1
theorem YU {a b : List TA} (ha : z2 a = true) (hb : z2 b = true) : ∀ p ∈ xt a b, z8 p.1 p.2 = true := fun p hp =>
 YX ha hb (((JX a b (jC ha) (jC hb) (Zk ha) (Zk hb)).2 p).1 hp)
/- Plain: strokes painted dab by dab. -/
def kz (c : Rc) (f : Int → Int → Px) : List Px := (List.range (areaN c)).map fun j => f (vW c j) (vX c j)
theorem VL (c : Rc) (f : Int → Int → Px) : (kz c f).length = areaN c := by unfold kz; rw [List.length_map, List.length_range]
theorem zaW (c : Rc) (f : Int → Int → Px) {j : Nat} (h : j < areaN c) : (kz c f)[j]? = some (f (vW c j) (vX c j)) := by
 unfold kz
 rw [List.getElem?_map, List.getElem?_range h]
 rfl
theorem zaX {c : Rc} {f : Int → Int → Px} (h : ∀ x y, (f x y).ok) : OkL (kz c f) := fun p hp => by
 unfold kz at hp
 obtain ⟨j, _, rfl⟩ := List.mem_map.1 hp
 exact h _ _
theorem zaZ {c : Rc} (hf : xo c) (f : Int → Int → Px) {x y : Int} (h : qU c x y = true) : Jc c (kz c f) x y = f x y := by
 have hh := (qz _ _ _).1 h
 obtain ⟨k, e1, e2, e3, e4⟩ := zdc hf (X := (x - c.x0).toNat) (Y := (y - c.y0).toNat) (by omega) (by omega)
 have ek : (kf c x y).toNat = k := by
  unfold kf; have hy : (((y - c.y0).toNat : Nat) : Int) = y - c.y0 := by omega
  have hx : (((x - c.x0).toNat : Nat) : Int) = x - c.x0 := by omega
  rw [hy, hx] at e1; omega
 unfold Jc
 rw [ek, List.getD_eq_getElem?_getD, zaW c f e2, e3, e4]
 show f _ _ = _
 congr 1 <;> omega
theorem ze1 {R : Rc} (hR : xo R) {ls : List TA} (hs : uO ls) (h : ∀ e ∈ ls, qU R e.x e.y = true) : ls.length ≤ areaN R := by
 obtain ⟨ea, hw⟩ := yq hR
 have hW : (widN R : Int) = R.x1 - R.x0 := by unfold widN; have := hR.h1; omega
 have key : ∀ e ∈ ls, (e.x - R.x0).toNat < widN R ∧ ((e.x - R.x0).toNat : Int) = e.x - R.x0 ∧ ((e.y - R.y0).toNat : Int) = e.y - R.y0 ∧ (e.y - R.y0).toNat < (R.y1 - R.y0).toNat := fun e he => by
  have := (qz _ _ _).1 (h e he); omega
 have hp : (ls.map fun e => (e.y - R.y0).toNat * widN R + (e.x - R.x0).toNat).Pairwise (· < ·) := by
  rw [List.pairwise_map]; refine hs.imp_of_mem fun {a b} ha hb hab => ?_
  obtain ⟨a1, a2, a3, _⟩ := key a ha; obtain ⟨b1, b2, b3, _⟩ := key b hb; have hh := of_decide_eq_true hab; rcases hh with hh | ⟨h1, h2⟩
  ·have : (a.y - R.y0).toNat + 1 ≤ (b.y - R.y0).toNat := by omega
   have := Nat.mul_le_mul_right (widN R) this; rw [Nat.add_mul, Nat.one_mul] at this; omega
  ·have : (a.y - R.y0).toNat = (b.y - R.y0).toNat := by omega
   rw [this]; omega
 have := WJ _ 0 (areaN R) hp fun x hx => by
  obtain ⟨e, he, rfl⟩ := List.mem_map.1 hx; obtain ⟨a1, a2, a3, a4⟩ := key e he; refine ⟨Nat.zero_le _, ?_⟩; have := Nat.mul_le_mul_right (widN R) (show (e.y - R.y0).toNat + 1 ≤ (R.y1 - R.y0).toNat by omega); rw [Nat.add_mul, Nat.one_mul] at this; rw [ea, Nat.mul_comm (widN R)]; omega
 simpa using this
/-! ### One dab -/
def XO (s : jd) (n : Int) (p : Px) : Px := if 0 < n then (if s.era = true then ZP p (255 - n) else Pl.u0 p s.col 0 n) else p
def Zm (d : Db) : Rc := yf (kn d) XS
def Ys (d : Db) : Bool := decide (d.r < 1) || qn (Zm d)
def vV (s : jd) (d : Db) (ls : List TA) : List Px := kz (Zm d) (fun x y => XO s (vR d x y) (xm ls x y))
def xu (s : jd) (st : List TA × Int) (d : Db) : List TA × Int :=
 if st.2 ≠ 0 ∨ Ys d = true then st else (vq (Zm d) (vV s d st.1) st.1, zAC (Zm d) (vV s d st.1) st.1)
def yk (s : jd) (l : List Db) (ls : List TA) : List TA × Int := l.foldl (xu s) (ls, 0)
def jk (s : jd) (ls : List TA) : List TA × Int := if j2 s = true then yk s (jR s) (qc ls) else ([], 1)
theorem zet {s : jd} (hc : s.col.ok) (n : Int) {p : Px} (hp : p.ok) : (XO s n p).ok := by
 unfold XO
 split
 ·split
  ·exact zco hp _
  ·exact zcX hp hc _ _
 ·exact hp
theorem YY (r : Rc) : qn (kQ r) = qn r := by
 unfold kQ
 split
 ·rename_i h
  rw [h]; rfl
 ·rfl
theorem zdz (d : Db) : qn (Zm d) = false → Zm d = ⟨max (kn d).x0 (-65536), max (kn d).y0 (-65536), min (kn d).x1 65536, min (kn d).y1 65536⟩ := fun h => by
 unfold Zm yf at h ⊢
 rw [YY] at h
 unfold kQ
 rw [h]
 rfl
theorem Yk {d : Db} (ok : VJ d) (h : Ys d = false) : jL (Zm d) = 0 ∧ xo (Zm d) := by
 unfold Ys at h
 rw [Bool.or_eq_false_iff] at h
 obtain ⟨h1, h2⟩ := h
 have e := zdz d h2
 have hE := (yd _).1 h2
 obtain ⟨a1, a2, a3, a4, a5, a6⟩ := ok
 rw [e] at hE ⊢
 unfold kn at hE ⊢
 simp only at hE
 have hF : xo ⟨max ((d.x - d.r) / 16) (-65536), max ((d.y - d.r) / 16) (-65536), min ((d.x + d.r) / 16 + 1) 65536, min ((d.y + d.r) / 16 + 1) 65536⟩ := by
  refine ⟨?_, ?_, ?_, ?_, ?_, ?_, ?_, ?_⟩ <;> (simp only; omega)
 refine ⟨?_, hF⟩
 unfold jL
 rw [if_pos hF.valid, if_neg (by have h7 := hF.h7; have h8 := hF.h8; simp only at h7 h8 ⊢; omega)]
theorem Q2 (s : jd) (d : Db) (ls : List TA) : (vV s d ls).length = areaN (Zm d) := VL _ _
theorem WK {s : jd} (hc : s.col.ok) (d : Db) {ls : List TA} (h : qN ls) : OkL (vV s d ls) := zaX fun x y => zet hc _ (kt h _ _ _ (by omega))
theorem Xa {c : Rc} {L : List Px} {ls : List TA} (hE : jL c = 0) (hL : L.length = areaN c) (hv : z2 ls = true) : zAC c L ls = kx (xP c L ls (yY c)) ∧ vq c L ls = xQ (xP c L ls (yY c)) := by
 have hF := yM hE
 have hAr : (L.length : Int) = vL c := by rw [hL, QG hF]
 have e1 : zAC c L ls = if jL c = 0 then kx (xP c L (qc ls) (yY c)) else jL c := if_pos ⟨hF.valid, hAr⟩
 have e2 : vq c L ls = if jL c = 0 then xQ (xP c L (qc ls) (yY c)) else [] := if_pos ⟨hF.valid, hAr⟩
 rw [e1, e2, if_pos hE, if_pos hE, xy hv]
 exact ⟨rfl, rfl⟩
theorem VI {l : List TA} (h : kx l = 0) : xQ l = l := by
 unfold kx at h
 unfold xQ
 split at h
 ·rename_i k
  rw [if_pos k]
 ·cases h
theorem Kk {l : List TA} (h : l.length ≤ 1024) : kx l = 0 ∧ xQ l = l := by
 unfold kx xQ
 rw [if_pos h, if_pos h]
 exact ⟨rfl, rfl⟩
theorem zcC (s : jd) {st : List TA × Int} (h : st.2 ≠ 0) (d : Db) : xu s st d = st := by unfold xu; rw [if_pos (.inl h)]
theorem wT (s : jd) (st : List TA × Int) {d : Db} (h : Ys d = true) : xu s st d = st := by unfold xu; rw [if_pos (.inr h)]
theorem XN (s : jd) {ls : List TA} {d : Db} (h : Ys d = false) : xu s (ls, 0) d = (vq (Zm d) (vV s d ls) ls, zAC (Zm d) (vV s d ls) ls) := by
 unfold xu
 rw [if_neg (by rw [h]; simp)]
theorem XP (s : jd) : ∀ (l : List Db) {st : List TA × Int}, st.2 ≠ 0 → l.foldl (xu s) st = st
 | [], _, _ => rfl
 | d :: r, st, h => by
  show r.foldl (xu s) (xu s st d) = st
  rw [zcC s h]; exact XP s r h
theorem zaI (s : jd) (l : List Db) (d : Db) (ls : List TA) : yk s (l ++ [d]) ls = xu s (yk s l ls) d := by unfold yk; rw [List.foldl_append]; rfl
/-- Valid it stays. -/
theorem uB (s : jd) {st : List TA × Int} (h : z2 st.1 = true) (d : Db) : z2 (xu s st d).1 = true := by
 unfold xu
 split
 ·exact h
 ·exact VS _ _ _
theorem Ka {s : jd} (hc : s.col.ok) {st : List TA × Int} (h : qN st.1) (d : Db) : qN (xu s st d).1 := by
 unfold xu
 split
 ·exact h
 ·exact zc7 (WK hc d h) h
theorem WM {s : jd} (hc : s.col.ok) : ∀ (l : List Db) (st : List TA × Int), z2 st.1 = true → qN st.1 → z2 (l.foldl (xu s) st).1 = true ∧ qN (l.foldl (xu s) st).1
 | [], st, h, k => ⟨h, k⟩
 | d :: r, st, h, k => WM hc r (xu s st d) (uB s h d) (Ka hc k d)
theorem uC {s : jd} (hc : s.col.ok) (l : List Db) {ls : List TA} (h : z2 ls = true) (k : qN ls) : z2 (yk s l ls).1 = true ∧ qN (yk s l ls).1 := WM hc l (ls, 0) h k
theorem zc8 (c : Rc) (L : List Px) (ls : List TA) (h : zAC c L ls ≠ 0) : vq c L ls = [] := by
 unfold zAC at h
 unfold vq
 split
 ·rename_i k
  rw [if_pos k] at h; split
  ·rename_i k2
   rw [if_pos k2] at h; unfold kx at h; unfold xQ; split
   ·rename_i k3
    rw [if_pos k3] at h; exact absurd rfl h
   ·rfl
  ·rfl
 ·rfl
theorem zcG (s : jd) (l : List Db) : ∀ (st : List TA × Int), (st.2 ≠ 0 → st.1 = []) → ((l.foldl (xu s) st).2 ≠ 0 → (l.foldl (xu s) st).1 = []) := by
 induction l with
 | nil => intro st h; exact h
 | cons d r ih =>
  intro st h; refine ih (xu s st d) fun k => ?_
  unfold xu at k ⊢; split
  ·rename_i g
   rw [if_pos g] at k; exact h k
  ·rename_i g
   rw [if_neg g] at k; exact zc8 _ _ _ k
theorem zaH (s : jd) (l : List Db) (ls : List TA) (h : (yk s l ls).2 ≠ 0) : (yk s l ls).1 = [] := zcG s l (ls, 0) (fun k => absurd rfl k) h
theorem wt {s : jd} (hc : s.col.ok) {ls : List TA} (k : qN ls) : z2 (jk s ls).1 = true ∧ qN (jk s ls).1 := by
 unfold jk
 split
 ·exact uC hc _ (jG ls) (yL k)
 ·exact ⟨jO, qN.nil⟩
/-! ### A pixel -/
def Qa (s : jd) (x y : Int) (p : Px) (d : Db) : Px := if Ys d = false ∧ qU (Zm d) x y = true then jj (XO s (vR d x y) p) else p
theorem zev {s : jd} {d : Db} {ls : List TA} (ok : VJ d) (hk : Ys d = false) (hv : z2 ls = true) (he : zAC (Zm d) (vV s d ls) ls = 0) (x y : Int) : xm (vq (Zm d) (vV s d ls) ls) x y = Qa s x y (xm ls x y) d := by
 obtain ⟨hE, hF⟩ := Yk ok hk
 obtain ⟨e1, e2⟩ := Xa hE (Q2 s d ls) hv
 rw [e1] at he
 rw [e2, VI he, zcu hF _ (jC hv) (K9 hv)]
 unfold Qa
 by_cases hh : qU (Zm d) x y = true
 ·rw [if_pos hh, if_pos ⟨hk, hh⟩]
  unfold vV; rw [zaZ hF _ hh]
 ·rw [if_neg hh, if_neg (fun k => hh k.2)]
theorem Q1 {s : jd} (hc : s.col.ok) (x y : Int) : ∀ (l : List Db) (ls : List TA), (∀ d ∈ l, VJ d) → z2 ls = true → qN ls → (yk s l ls).2 = 0 → xm (yk s l ls).1 x y = l.foldl (Qa s x y) (xm ls x y)
 | [], ls, _, _, _, _ => rfl
 | d :: r, ls, ok, hv, ht, he => by
  have e0 : yk s (d :: r) ls = r.foldl (xu s) (xu s (ls, 0) d) := rfl; rw [e0] at he ⊢; show xm _ x y = r.foldl (Qa s x y) (Qa s x y (xm ls x y) d)
  by_cases hz : (xu s (ls, 0) d).2 = 0
  ·have e1 : r.foldl (xu s) (xu s (ls, 0) d) = yk s r (xu s (ls, 0) d).1 := by
    unfold yk
    congr 1
    exact Prod.ext rfl hz
   rw [e1] at he ⊢; rw [Q1 hc x y r _ (fun e h => ok e (List.mem_cons_of_mem _ h)) (uB s (st := (ls, 0)) hv d) (Ka hc (st := (ls, 0)) ht d) he]
   congr 1
   cases hk : Ys d with
   | true =>
    rw [wT s _ hk]; unfold Qa; rw [if_neg (by rw [hk]; simp)]
   | false =>
    rw [XN s hk] at hz ⊢; exact zev (ok d (List.mem_cons_self ..)) hk hv hz x y
  ·rw [XP s r hz] at he
   exact absurd he hz
/-! ### Few tiles -/
theorem zc6 {c : Rc} {L : List Px} {ls : List TA} {p : Int × Int} {e : TA} (h : e ∈ Ku c L ls p) : e ∈ ls ∨ jc e = p := by
 rcases Za h with h | ⟨rfl, _⟩
 ·exact .inl h
 ·exact .inr rfl
theorem Kw {c : Rc} {L : List Px} : ∀ (ps : List (Int × Int)) (ls : List TA) {e : TA}, e ∈ xP c L ls ps → e ∈ ls ∨ jc e ∈ ps
 | [], ls, e, h => .inl h
 | p :: r, ls, e, h => by
  rw [wW] at h; rcases Kw r _ h with h | h
  ·rcases zc6 h with h | h
   ·exact .inl h
   ·exact .inr (h ▸ List.mem_cons_self ..)
  ·exact .inr (List.mem_cons_of_mem _ h)
/-- A raster whose tiles lie in R. -/
def vw (R : Rc) (ls : List TA) : Prop := ∀ e ∈ ls, qU R e.x e.y = true
def zbr (R : Rc) (d : Db) : Prop := Ys d = false → ∀ x y, qU (zAA (Zm d)) x y = true → qU R x y = true
theorem zcB {s : jd} {R : Rc} (hR : xo R) (hN : areaN R ≤ 1024) {ls : List TA} {d : Db} (ok : VJ d) (hv : z2 ls = true) (hb : vw R ls) (hd : zbr R d) : (xu s (ls, 0) d).2 = 0 ∧ vw R (xu s (ls, 0) d).1 := by
 cases hk : Ys d with
 | true => rw [wT s _ hk]; exact ⟨rfl, hb⟩
 | false =>
  rw [XN s hk]; obtain ⟨hE, hF⟩ := Yk ok hk; obtain ⟨e1, e2⟩ := Xa hE (Q2 s d ls) hv; have hbx : vw R (xP (Zm d) (vV s d ls) ls (yY (Zm d))) := fun e he => by
   rcases Kw _ _ he with h | h
   ·exact hb e h
   ·exact hd hk _ _ ((Ks hF).1 h)
  have hl := ze1 hR (Jd (Zm d) (vV s d ls) (yY (Zm d)) ls (jC hv)) hbx; obtain ⟨m1, m2⟩ := Kk (Nat.le_trans hl hN); simp only [e1, e2, m1, m2]; exact ⟨trivial, hbx⟩
theorem Q0 {s : jd} {R : Rc} (hR : xo R) (hN : areaN R ≤ 1024) : ∀ (l : List Db) (ls : List TA), (∀ d ∈ l, VJ d) → (∀ d ∈ l, zbr R d) → z2 ls = true → vw R ls → (yk s l ls).2 = 0 ∧ vw R (yk s l ls).1
 | [], ls, _, _, _, hb => ⟨rfl, hb⟩
 | d :: r, ls, ok, hd, hv, hb => by
  obtain ⟨h1, h2⟩ := zcB (s := s) hR hN (ok d (List.mem_cons_self ..)) hv hb (hd d (List.mem_cons_self ..)); have e1 : yk s (d :: r) ls = yk s r (xu s (ls, 0) d).1 := by
   show r.foldl (xu s) (xu s (ls, 0) d) = r.foldl (xu s) ((xu s (ls, 0) d).1, 0)
   congr 1
   exact Prod.ext rfl h1
  rw [e1]; exact Q0 hR hN r _ (fun e h => ok e (List.mem_cons_of_mem _ h)) (fun e h => hd e (List.mem_cons_of_mem _ h)) (uB s (st := (ls, 0)) hv d) h2
/-! ### The area -/
theorem QX {a b : Rc} {x y : Int} (h : qU a x y = true ∨ qU b x y = true) : qU (j0 a b) x y = true := by
 unfold j0
 split
 ·rename_i ha
  rcases h with h | h
  ·have := (qz _ _ _).1 h
   have := (vz _).1 ha; omega
  ·rw [JZ]; exact h
 ·split
  ·rename_i hb
   rcases h with h | h
   ·exact h
   ·have := (qz _ _ _).1 h
    have := (vz _).1 hb; omega
  ·rw [qz, qz] at h
   rw [qz]; simp only; omega
theorem JT : ∀ (l : List Db) (a : Rc) (x y : Int), (qU a x y = true ∨ ∃ d ∈ l, 0 < d.r ∧ qU (kn d) x y = true) → qU (l.foldl (fun a d => if 0 < d.r then j0 a (kn d) else a) a) x y = true
 | [], a, x, y, h => by
  rcases h with h | ⟨d, hd, _⟩
  ·exact h
  ·cases hd
 | d :: r, a, x, y, h => by
  refine JT r _ x y ?_; rcases h with h | ⟨e, he, h1, h2⟩
  ·left
   show qU (if 0 < d.r then j0 a (kn d) else a) x y = true
   split
   ·exact QX (.inl h)
   ·exact h
  ·rcases List.mem_cons.1 he with rfl | he
   ·left
    show qU (if 0 < e.r then j0 a (kn e) else a) x y = true
    rw [if_pos h1]; exact QX (.inr h2)
   ·exact .inr ⟨e, he, h1, h2⟩
theorem zca {s : jd} {x y : Int} (h : qU (uQ s) x y = false) : ∀ d ∈ y9 s, ¬ (Ys d = false ∧ qU (Zm d) x y = true) := fun d hd ⟨k1, k2⟩ => by
 unfold Zm at k2
 rw [uz, Bool.and_eq_true] at k2
 unfold Ys at k1
 rw [Bool.or_eq_false_iff, decide_eq_false_iff_not] at k1
 have := JT (y9 s) Rc.zero x y (.inr ⟨d, hd, by omega, k2.1⟩)
 unfold uQ at h
 rw [uz] at h
 change qU (ZN (y9 s)) x y = true at this
 rw [this, k2.2] at h
 cases h
theorem Kb {s : jd} {x y : Int} : ∀ (l : List Db) (p : Px), (∀ d ∈ l, ¬ (Ys d = false ∧ qU (Zm d) x y = true)) → l.foldl (Qa s x y) p = p
 | [], p, _ => rfl
 | d :: r, p, h => by
  show r.foldl (Qa s x y) (Qa s x y p d) = p
  have : Qa s x y p d = p := by unfold Qa; rw [if_neg (h d (List.mem_cons_self ..))]
  rw [this]; exact Kb r p fun e he => h e (List.mem_cons_of_mem _ he)
/- Plain: a stroke divided at a point, a stroke shifted. -/
theorem Kr (l : List Sp) {n i : Nat} (h : i < n) : jJ (l.take n) i = jJ l i := by
 unfold jJ
 rw [List.getD_eq_getElem?_getD, List.getD_eq_getElem?_getD, List.getElem?_take_of_lt h]
theorem J9 (l : List Sp) (n : Nat) : ∀ k, k < n → jq (l.take n) k = jq l k
 | 0, _ => rfl
 | k + 1, h => by
  show jq (l.take n) k + yI (jJ (l.take n) k) (jJ (l.take n) (k + 1)) = jq l k + yI (jJ l k) (jJ l (k + 1))
  rw [J9 l n k (by omega), Kr l (by omega), Kr l h]
/-- The phase behind the point. -/
def zcZ (s : jd) (at_ : Nat) : Int :=
 if s.pha - vc (s.pts.take (at_ + 1)) < 0 then s.pha - vc (s.pts.take (at_ + 1)) + (s.spa - 1 - (s.pha - vc (s.pts.take (at_ + 1)))) / s.spa * s.spa
 else s.pha - vc (s.pts.take (at_ + 1))
def spA (s : jd) (at_ : Nat) : jd := { s with pts := s.pts.take (at_ + 1) }
def spB (s : jd) (at_ : Nat) : jd := { s with pts := s.pts.drop at_, pha := zcZ s at_ }
section
variable {s : jd} {at_ : Nat}
theorem zdI (ha : at_ < s.pts.length) : vc (s.pts.take (at_ + 1)) = jq s.pts at_ := by
 unfold vc
 rw [List.length_take, show min (at_ + 1) s.pts.length - 1 = at_ by omega]
 exact J9 _ _ _ (by omega)
end
/-! ### Shifted -/
def shP (X Y : Int) (a : Sp) : Sp := ⟨a.x + 16 * X, a.y + 16 * Y, a.p⟩
def shS (X Y : Int) (s : jd) : jd := { s with pts := s.pts.map (shP X Y) }
def shD (X Y : Int) (d : Db) : Db := ⟨d.x + 16 * X, d.y + 16 * Y, d.r⟩
section
variable {s : jd} {X Y : Int}
end
/- Plain: coverage by a disk, a straight stroke, erasing. -/
/-! ### Disk -/
/-- A stroke of one point: its area. -/
def ziB (x y r : Int) : jd := ⟨[⟨x, y, 255⟩], r, 1, Px.zero, false, 0⟩
/-! ### A straight stroke -/
def ziJ (n r a p q c : Int) : jd := ⟨[⟨0, 0, q⟩, ⟨n, 0, c⟩], r, a, Px.zero, false, p⟩
section
variable {n r a p q c : Int}
end
/-! ### Erasing -/
/-- What erasing keeps. -/
def zaf (a b : Px) : Prop := b.a ≤ a.a ∧ (b.a = 0 ∨ (b.r = a.r ∧ b.g = a.g ∧ b.b = a.b))
theorem zaf.refl (a : Px) : zaf a a := ⟨Int.le_refl _, .inr ⟨rfl, rfl, rfl⟩⟩
theorem zaf.trans {a b c : Px} (h0 : 0 ≤ c.a) (h : zaf a b) (k : zaf b c) : zaf a c := by
 refine ⟨Int.le_trans k.1 h.1, ?_⟩
 rcases k.2 with k2 | ⟨k2, k3, k4⟩
 ·exact .inl k2
 ·rcases h.2 with h2 | ⟨h2, h3, h4⟩
  ·have := k.1
   exact .inl (by omega)
  ·exact .inr ⟨by omega, by omega, by omega⟩
end Go.Proofs.YtepelndbbhdofaaGreatDoor
/- Contract of the reference's Same at equal images. -/
namespace Go.Proofs.YtepelndbbhdofaaGreatDoor
open Go.RowKit Go.Shelf Pl
set_option linter.unusedVariables false
set_option linter.unusedSimpArgs false
set_option maxRecDepth 20000
/- Contract of the reference's Image. -/
def shC (c : Rc) (u : Value) (n : Int) : Array Value := #[.int .i64 c.x0, .int .i64 c.y0, .int .i64 c.x1, .int .i64 c.y1, u, .int .i64 n]
section
variable {o : Oper} {a : Act} {C : World → Prop} {K : Act → Prop}
end
theorem zfT {c : Rc} (hf : xo c) {k j : Nat} (hj : j < widN c) : vW c (widN c * k + j) = c.x0 + (j : Int) ∧ vX c (widN c * k + j) = c.y0 + (k : Int) := by
 have hw := (yq hf).2
 unfold vW vX
 rw [Nat.mul_add_mod, Nat.mod_eq_of_lt hj, Nat.mul_add_div hw, Nat.div_eq_of_lt hj, Nat.add_zero]
 exact ⟨rfl, rfl⟩
theorem jb.chgB {α : Type} {k : Nat} {T S : TypeId} {E : Xq α k T S} {B b : Nat} {v : Value} {ls : List α} {w w' : World} (h : jb E B v ls w) (hc : qV b w w') (hne : ∀ k, v.ownBlock = some k → k ≠ b) : jb E B v ls w' := by
 refine World.ownsRow.kept (row := some b) h ⟨hc.os, hc.tape, hc.output, hc.size, fun k hk hn => hc.block k hk (fun e => hn (by rw [e]))⟩ ?_
 cases hv : v.ownBlock with
 | none => exact .inl rfl
 | some k =>
  right
  intro e
  injection e with e
  exact hne k hv e
/- The positions of a rectangle's tiles: the reference's Tiles. -/
def psE : Xq (Int × Int) 2 95 90 where
 enc := fun p => #[.int .i64 p.1, .int .i64 p.2]
 bytes := 16
 zero := (0, 0)
 size := fun _ => rfl
 one := fun x u hu => by
  have : u ∈ [Value.int .i64 x.1, .int .i64 x.2] := hu; simp at this
  rcases this with rfl | rfl <;> rfl
 pos := by omega
 small := by omega
 und := Tryz.underlying90
 info := by kernel_rfl
 zer := by kernel_rfl
theorem zf8 {c : Rc} (hf : xo c) {k j : Nat} (hj : j < widN (zAA c)) : ZG c (widN (zAA c) * k + j) = (c.x0 / 8 + (j : Int), c.y0 / 8 + (k : Int)) := by
 obtain ⟨h1, h2⟩ := zfT (vG hf) (k := k) hj
 unfold ZG
 rw [h1, h2]
 rfl
end Go.Proofs.YtepelndbbhdofaaGreatDoor
/- Regions within a round of a range over a function: walked as anywhere. What a loop's body keeps. -/
namespace Go.Proofs.YtepelndbbhdofaaGreatDoor
open Go.RowKit
set_option linter.unusedVariables false
set_option linter.unusedSimpArgs false
/-- The walk goes on, and in no other way. -/
def qw (K : Act → World → Prop) : Exit → Act → World → Prop
 | .normal, a, w => K a w
 | _, _, _ => False
theorem qw.out (K : Act → World → Prop) : ¬ LetsOut (qw K) := fun ⟨_, _, h⟩ => h
theorem qw.at {K : Act → World → Prop} {a : Act} {w : World} (h : K a w) : qw K .normal a w := h
def wU (l : List Oper) : Bool := l.all fun o => match o.op with
 | .defer _ => false
 | _ => true
theorem vB {l : List Oper} (h : wU l = true) {o : Oper} (ho : o ∈ l) : ∀ c, o.op ≠ .defer c := fun c e => by
 have := List.all_eq_true.1 h o ho
 rw [e] at this
 cases this
section
variable {P : Program} {r n : Nat}
theorem WW {o : Oper} {a : Act} {w : World} {K K' : Act → World → Prop} {M : Act → World → Prop} {Q : Exit → Act → World → Prop} (hd : ∀ c, o.op ≠ .defer c) (hK : ∀ a w, K' a w → K a w) (h : o.wp P a w K' (qw M)) : o.wpIn (Fence.wide.inRound r) n P a w K Q := by
 refine ⟨fun _ _ => trivial, ?_⟩
 rw [Oper.semAt_eq _ _ _ hd]
 unfold Oper.wp at h
 generalize (execOp a.eval o).run P w = z at *
 cases z with
 | ok x w' =>
  cases x with
  | value v => exact hK _ _ h
  | skip => exact hK _ _ h
  | defer d => exact hK _ _ h
  | enter f args =>
   refine ⟨fun h => (by cases h), CallsIn.inRound r (callsIn_wide.2 (Calls.mono h fun e w'' he => ?_))⟩; cases e with
   | returned v => exact hK _ _ he
   | panicked c => exact he.elim
   | outgrown => exact absurd he (qw.out M)
  | row s args =>
   refine ⟨fun h => (by cases h), fun c cs _ => ?_⟩; obtain ⟨v, w'', h1, h2⟩ := h c cs; exact ⟨v, w'', hK _ _ h1, stepsIn_wide.2 h2⟩
  | _ => exact absurd h (by simp [Oper.upon])
 | halt x w' =>
  cases x with
  | panic v => exact absurd h (by simp [Oper.upon, qw])
  | _ => exact absurd h (by simp [Oper.upon])
theorem Z5 {ops : Array Oper} {K : Act → World → Prop} {Q : Exit → Act → World → Prop} (hK : ∀ a w, K a w → Q .normal a w) : ∀ (l : List Oper) (a : Act) (w : World), (∀ o ∈ l, ∀ c, o.op ≠ .defer c) → wpList P ops (qw K) l a w → wpListIn (Fence.wide.inRound r) n P ops Q l a w
 | [], a, w, _, h => hK _ _ h
 | o :: rest, a, w, hd, h => by
  unfold wpList at h; unfold wpListIn; have ih := Z5 (ops := ops) hK rest; by_cases hw : Region.wanted o (yielded ops a.tmps) = true
  ·rw [if_pos hw] at h ⊢
   rcases h with h | h
   ·exact WW (hd o (List.mem_cons_self ..)) (fun a w hh => ih a w (fun o ho => hd o (List.mem_cons_of_mem _ ho)) hh) h
   ·exact absurd h.2 (qw.out K)
  ·rw [if_neg hw] at h ⊢
   exact ⟨fun _ _ => trivial, ih _ _ (fun o ho => hd o (List.mem_cons_of_mem _ ho)) h⟩
/-- A region within a round. -/
theorem zE {id : Nat} {l : List Oper} {Q : Exit → Act → World → Prop} {a : Act} {w : World} (hd : wU l = true) (h : wpList P l.toArray (qw fun a w => Q .normal a w) l a w) : (Code.region id l.toArray false).wpIn (Fence.wide.inRound r) n P Q a w :=
 wpIn_region_lit (Z5 (fun _ _ h => h) l a w (fun o ho => vB hd ho) h)
theorem zbk {ops : Array Oper} {K K' M : Act → World → Prop} {Q : Exit → Act → World → Prop} (hd : ∀ o ∈ ops.toList, ∀ c, o.op ≠ .defer c) (hK : ∀ a w, K' a w → K a w) {i : Nat} {a : Act} {w : World} (h : wpOp P ops (qw M) i K' a w) : wpOpIn (Fence.wide.inRound r) n P ops Q i K a w := by
 unfold wpOp at h
 unfold wpOpIn
 cases ho : ops[i]? with
 | none => rw [ho] at h; exact hK _ _ h
 | some o =>
  rw [ho] at h; simp only at h ⊢; by_cases hw : Region.wanted o (yielded ops a.tmps) = true
  ·rw [if_pos hw] at h ⊢
   rcases h with h | h
   ·exact WW (hd o (by rw [Array.mem_toList_iff]; exact Array.mem_of_getElem? ho)) hK h
   ·exact absurd h.2 (qw.out M)
  ·rw [if_neg hw] at h ⊢
   exact ⟨fun _ _ => trivial, hK _ _ h⟩
theorem JB {ops : Array Oper} {md : Region.Mode} {K : Act → World → Prop} {Q : Exit → Act → World → Prop} (hd : ∀ o ∈ ops.toList, ∀ c, o.op ≠ .defer c) (hK : ∀ a w, K a w → Q .normal a w) : ∀ (f : Nat) (done : Array Bool) (a : Act) (w : World), wpAny P md ops (qw K) f done a w → wpAnyIn (Fence.wide.inRound r) n P md ops Q f done a w
 | 0, _, _, _, h => ⟨h.1, hK _ _ h.2⟩
 | f + 1, done, a, w, h => ⟨fun h0 => hK _ _ (h.1 h0), fun i hi => zbk hd (fun a w hh => JB hd hK f _ a w hh) (h.2 i hi)⟩
/-- A region that draws its order, within a round. -/
theorem za8 {id : Nat} {l : List Oper} {Q : Exit → Act → World → Prop} {a : Act} {w : World} (hm : P.follows .mixedOrders = true) (hd : wU l = true) (h : wpAny P .any l.toArray (qw fun a w => Q .normal a w) l.toArray.size (Array.replicate l.toArray.size false) a w.drew) : (Code.region id l.toArray true).wpIn (Fence.wide.inRound r) n P Q a w :=
 wpIn_region_any hm (JB (fun o ho => vB hd (by simpa using ho)) (fun _ _ h => h) _ _ _ _ h)
end
/-! ### What a body keeps that turns one block b of cells -/
structure JH (b : Nat) (W W' : World) : Prop where
 size : W.heap.size ≤ W'.heap.size
 same : ∀ (k : Nat) (o : Obj), k ≠ b → W.heap[k]? = some o → o.isCells = true → W'.heap[k]? = some o
theorem JH.trans {b : Nat} {X Y Z : World} (h : JH b X Y) (k : JH b Y Z) : JH b X Z := ⟨Nat.le_trans h.size k.size, fun i o hi ho hc => k.same i o hi (h.same i o hi ho hc) hc⟩
theorem JH.refl (b : Nat) (W : World) : JH b W W := ⟨Nat.le_refl _, fun _ _ _ h _ => h⟩
theorem JH.putObj (b : Nat) {W : World} {l : Nat} {o : Obj} (o' : Obj) (hl : W.heap[l]? = some o) (ho : o.isCells = false) : JH b W (W.putObj l o') :=
 ⟨by simp [World.putObj], fun k x hk hx hc => by
  have : k ≠ l := fun e => by rw [e, hl] at hx; cases hx; rw [ho] at hc; cases hc
  exact (World.putObj_heap_other (by omega)).trans hx⟩
theorem JH.chg {b : Nat} {W W' : World} (h : qV b W W') : JH b W W' :=
 ⟨h.size, fun k o hk ho _ => (h.block k (Array.getElem?_eq_some_iff.1 ho).1 hk).trans ho⟩
theorem JH.atB {b k : Nat} {t : TypeId} {cs : Array Value} {W W' : World} (h : JH b W W') (hk : k ≠ b) (ha : zK t W k cs) : zK t W' k cs := h.same k _ hk ha rfl
theorem KeepsFrom.chg {B b : Nat} {W W' : World} (h : qV b W W') (hb : b < B) : KeepsFrom B W W' :=
 ⟨h.size, fun k o hB hk _ => (h.block k (Array.getElem?_eq_some_iff.1 hk).1 (by omega)).trans hk⟩
theorem xz {W W' : World} (h : Below W.heap.size W W') : W.grownBy W' none :=
 ⟨h.os, h.tape, h.output, h.size, fun k hk _ => h.block k hk⟩
theorem AbidesFrom.below {β : Type} {B : Nat} {J : β → World → Prop} (h : AbidesFrom B J) {s : β} {W W' : World} (hs : J s W) (hb : Below W.heap.size W W') : J s W' :=
 h s W W' none hs (xz hb) (fun r e => by cases e)
/-! ### Facts of cells abide the turn of what is no cells -/
theorem zK.own {t : TypeId} {A B : World} {b : Nat} {cs : Array Value} {row : Option Nat} (h : zK t A b cs) (hg : A.grownBy B row) (hr : ∀ r, row = some r → ∃ o : Obj, A.heap[r]? = some o ∧ o.isCells = false) : zK t B b cs :=
 (hg.block b h.lt (fun e => by
  obtain ⟨o, ho, hc⟩ := hr b e.symm; rw [show A.heap[b]? = _ from h] at ho; cases ho
  cases hc)).trans h
theorem QP {w : World} {g o : Nat} {v : Value} (h : w.cell? ⟨g, o, none⟩ = some v) : ∀ x : Obj, w.heap[g]? = some x → x.isCells = true := fun x hx => by
 unfold World.cell? at h
 simp only [hx] at h
 cases x <;> first | rfl | (simp at h)
theorem wL {n : Nat} {w A B : World} {row : Option Nat} (h : Below n w A) (hn : n ≤ A.heap.size) (hg : A.grownBy B row) (hr : ∀ r, row = some r → n ≤ r) : Below n w B :=
 ⟨hg.os.trans h.os, hg.tape.trans h.tape, hg.output.trans h.output, Nat.le_trans h.size hg.size, fun k hk => (hg.block k (by omega) (fun e => by have := hr k e.symm; omega)).trans (h.block k hk)⟩
end Go.Proofs.YtepelndbbhdofaaGreatDoor
/- Paste of package raster: what it does to one pixel; the iterator over the tiles of a rectangle. -/
namespace Go.Proofs.YtepelndbbhdofaaGreatDoor
open Go.RowKit Go.Shelf Pl
set_option linter.unusedVariables false
set_option linter.unusedSimpArgs false
set_option maxRecDepth 20000
theorem QB (r : Rc) (b : Bool) (w : World) (e : qn r = b) : Calls Tryz.prog 45 #[.agg (jV r)] w fun e w' => e = .returned (.bool b) ∧ Below w.heap.size w w' := by
 subst e
 exact xL r w
theorem zbJ (r : Rc) (x y : Int) (b : Bool) (w : World) (e : qU r x y = b) : Calls Tryz.prog 25 #[.agg (jV r), .agg #[.int .i64 x, .int .i64 y]] w fun e w' => e = .returned (.bool b) ∧ Below w.heap.size w w' := by
 subst e
 exact V8 r x y w
theorem y7 (x y : Int) (w : World) (hx : (Lit.int .i64 x).wf = true) (hy : (Lit.int .i64 y).wf = true) : Calls Tryz.prog 81 #[.agg #[.int .i64 x, .int .i64 y]] w fun e w' => e = .returned (.agg #[.int .i64 (x / 8), .int .i64 (y / 8)]) ∧ Below w.heap.size w w' := zgn x y w hx hy
theorem zbF (p : Px) (w : World) (hp : p.ok) : Calls Tryz.prog 123 #[Px.v p] w fun e w' => e = .returned (Px.v (jj p)) ∧ Below w.heap.size w w' := Xu p w hp
set_option maxHeartbeats 2000000 in
theorem zbN (c : Rc) (hf : xo c) (L : List Px) (hL : L.length = areaN c) (okL : OkL L) (x y : Int) (p : Px) (hp : p.ok) (bc bm g o cp : Nat) (w : World) (r0 : zK 38 w bc (jV c)) (m0 : zK 117 w bm (xA c (.slice (some ⟨g, o, none⟩) (areaN c) cp))) (ce : zW kI g o L w) :
  Calls Tryz.prog 131 #[.int .i64 x, .int .i64 y, Px.v p, .pointer (some ⟨bc, 0, none⟩), .pointer (some ⟨bm, 0, none⟩)] w fun e w' => e = .returned (Px.v (Qb c L x y p)) ∧ Below w.heap.size w w' := by
 have B := Below.refl w.heap.size w
 have hb1 := r0.lt
 have hb2 := m0.lt
 have hb3 := ce.lt
 have OKL := Lib.hid okL
 cases hh : qU c x y with
 | true =>
  have e1 := Lib.hid (show Qb c L x y p = jj (Jc c L x y) from by unfold Qb; rw [hh]; rfl)
  obtain ⟨m1, m2, m3, m4⟩ := WD hf hh; have hix : (kf c x y).toNat < L.length := by rw [hL]; exact m4
  have hpx : L[(kf c x y).toNat]? = some (Jc c L x y) := by
   unfold Jc; rw [List.getD_eq_getElem?_getD, List.getElem?_eq_getElem hix]
   rfl
  have hok := Lib.hid (WZ okL (c := c) x y)
  generalize Jc c L x y = pp at *
  have hh2 := of_decide_eq_true hh; obtain ⟨g1, g2, g3, g4⟩ := hh2; obtain ⟨a1, a2, a3, a4, a5, a6, a7, a8⟩ := hf; have hidx : (y - c.y0) * (c.x1 - c.x0) + x - c.x0 = kf c x y := rfl; have m5 : kf c x y < (areaN c : Int) := by omega
  have m6 : (areaN c : Int) ≤ 65536 := by
   unfold areaN; have := j5 (a := c.x1 - c.x0) (b := c.y1 - c.y0) (m := 256) (k := 256) (by omega) (by omega) (by omega) (by omega); omega
  have HH := Lib.hid hh; clear okL hL hh; go_enter Tryz.func131, Tryz.ntmps131
  go_upto_region 0 with fail
  refine wp_region_lit ?_
  (refine x3 rfl _ rfl _ rfl (zY B ?_); clear B; intro b_q7 wn zb zd q7 za zf zk B; (try have zh := r0.lt); (try replace r0 := r0.below (za.mono zb)); (try have zh := m0.lt); (try replace m0 := m0.below (za.mono zb)); (try have zh := ce.lt); (try replace ce := ce.below (za.mono zb)); simp only [zo])
  (refine qq rfl rfl (zY B ?_); clear B; intro b_q8 wn zb zd q8 za zf zk B; (try have zh := r0.lt); (try replace r0 := r0.below (za.mono zb)); (try have zh := m0.lt); (try replace m0 := m0.below (za.mono zb)); (try have zh := ce.lt); (try replace ce := ce.below (za.mono zb)); (try have zh := q7.lt); (try replace q7 := q7.below (za.mono zb)); simp only [zo])
  refine wpList_nil ?_; go_upto_region 1 with fail
  refine wp_region_lit ?_; refine zy 4 ?_
  refine je (enters_of Tryz.func25 (by kernel_rfl) rfl) (c := zbJ c x y true _ HH.out) (h := ?_); rintro e wn ⟨rfl, za⟩; have zf := B.size; have zg := za.size; replace B := B.trans (za.mono B.size)
  (try replace r0 := r0.below za)
  (try replace m0 := m0.below za)
  (try replace ce := ce.below za)
  (try replace q7 := q7.below za)
  (try replace q8 := q8.below za)
  refine ⟨_, rfl, ?_⟩; simp only [zo]; refine wpList_nil ?_; go_upto_region 2 with fail
  refine wp_region_lit ?_; refine j4 19 ?_
  repeat (first | go_big_quiet_skip | (go_big_quiet_want; first | ((first | refine zn (t := 115) rfl _ _ _ rfl (fun w hw => xh (uA (zB m0 w hw))) (by first | rfl | omega) ?_ | refine zn (t := 28) rfl _ _ _ rfl (fun w hw => zdd (jX ce w hw) hpx) (by first | rfl | omega) ?_ | refine qJ rfl _ rfl (ky q7) ?_ | refine qB ?_ | refine qC ?_); simp only [zo]; go_big_quiet_on) | (go_big_quiet_op; go_big_quiet_on)))
  refine wpQuiet_nil ?_; refine je (enters_of Tryz.func123 (by kernel_rfl) rfl) (c := zbF pp _ hok.out) (h := ?_); rintro e wn ⟨rfl, za⟩; have zf := B.size; have zg := za.size; replace B := B.trans (za.mono B.size)
  (try replace r0 := r0.below za)
  (try replace ce := ce.below za)
  (try replace q7 := q7.below za)
  (try replace q8 := q8.below za)
  refine ⟨_, rfl, ?_⟩; simp only [zo]
  (refine qf rfl _ _ rfl _ rfl (_) rfl q8 (qG B (by omega) ?_); clear q8 B; intro wn q8 ze zf zg B; (try replace r0 := r0.of_eq (ze.block _ r0.lt (by omega))); (try replace ce := ce.of_eq (ze.block _ ce.lt (by omega))); (try replace q7 := q7.of_eq (ze.block _ q7.lt (by omega))); simp only [zo])
  refine wpList_nil ?_; go_wp2; refine bodyPost_ret (jY rfl _ _ (b_q8) rfl q8) rfl ?_; exact ⟨by rw [e1.out], B⟩
 | false =>
  have e1 := Lib.hid (show Qb c L x y p = p from by unfold Qb; rw [hh]; rfl)
  have HH := Lib.hid hh; clear okL hL hh; go_enter Tryz.func131, Tryz.ntmps131
  go_upto_region 0 with fail
  refine wp_region_lit ?_
  (refine x3 rfl _ rfl _ rfl (zY B ?_); clear B; intro b_q7 wn zb zd q7 za zf zk B; (try have zh := r0.lt); (try replace r0 := r0.below (za.mono zb)); (try have zh := m0.lt); (try have zh := ce.lt); (try replace ce := ce.below (za.mono zb)); (try have zh := q7.lt); (try replace q7 := q7.below (za.mono zb)); (try have zh := q8.lt); (try replace q8 := q8.below (za.mono zb)); simp only [zo])
  (refine qq rfl rfl (zY B ?_); clear B; intro b_q8 wn zb zd q8 za zf zk B; (try have zh := r0.lt); (try replace r0 := r0.below (za.mono zb)); (try have zh := m0.lt); (try have zh := ce.lt); (try replace ce := ce.below (za.mono zb)); (try have zh := q7.lt); (try replace q7 := q7.below (za.mono zb)); (try have zh := q8.lt); (try replace q8 := q8.below (za.mono zb)); simp only [zo])
  refine wpList_nil ?_; go_upto_region 1 with fail
  refine wp_region_lit ?_; refine zy 4 ?_
  refine je (enters_of Tryz.func25 (by kernel_rfl) rfl) (c := zbJ c x y false _ HH.out) (h := ?_); rintro e wn ⟨rfl, za⟩; have zf := B.size; have zg := za.size; replace B := B.trans (za.mono B.size)
  (try replace ce := ce.below za)
  (try replace q7 := q7.below za)
  (try replace q8 := q8.below za)
  refine ⟨_, rfl, ?_⟩; simp only [zo]; refine wpList_nil ?_; go_upto_region 3 with fail
  refine wp_region_lit ?_; refine j4 1 ?_; repeat (first | go_big_quiet_skip | (go_big_quiet_want; first | ((first | refine zn (t := 28) rfl _ _ _ rfl (fun w hw => zdd (jX ce w hw) hpx) (by first | rfl | omega) ?_ | refine qJ rfl _ rfl (ky q7) ?_ | refine qB ?_ | refine qC ?_); simp only [zo]; go_big_quiet_on) | (go_big_quiet_op; go_big_quiet_on)))
  refine wpQuiet_nil ?_
  (refine qf rfl _ _ rfl _ rfl (_) rfl q8 (qG B (by omega) ?_); clear q8 B; intro wn q8 ze zf zg B; simp only [zo])
  refine wpList_nil ?_; go_wp2; refine bodyPost_ret (jY rfl _ _ (b_q8) rfl q8) rfl ?_; exact ⟨by rw [e1.out], B⟩
theorem zdW (c : Rc) (w : World) : Calls Tryz.prog 129 #[.agg (jV c)] w fun e w' => ∃ b, e = .returned (.func (.func 163) #[] #[.pointer (some ⟨b, 0, none⟩)]) ∧ w.heap.size ≤ b ∧ zK 38 w' b (jV c) ∧ Below w.heap.size w w' := by
 have B := Below.refl w.heap.size w
 go_enter Tryz.func129, Tryz.ntmps129
 go_upto_region 0 with fail
 refine wp_region_lit ?_
 (refine zt (t := 38) rfl _ rfl _ rfl (zY B ?_); clear B; intro b_r1 wn zb zd r1 za zf zk B; simp only [zo])
 refine zy 1 ?_
 refine wpList_nil ?_
 go_wp2
 go_ret
 exact ⟨_, rfl, by omega, r1, B⟩
/- Image of both packages, whether the rectangle fits or not. -/
def imR (c : Rc) : Rc := if jL c = 0 then c else Rc.zero
def zif (c : Rc) (ks : List TA) : List Px := if jL c = 0 then QY c ks else []
end Go.Proofs.YtepelndbbhdofaaGreatDoor
/- Contract of Paste of package raster. -/
namespace Go.Proofs.YtepelndbbhdofaaGreatDoor
open Go.RowKit Go.Shelf Pl
attribute [local go_sem] Oper.semAt_some
set_option linter.unusedVariables false
set_option linter.unusedSimpArgs false
set_option maxRecDepth 20000
theorem qL {w : World} {b : Nat} {c : Rc} {u : Value} (h : zK 117 w b (xA c u)) : (Instr.loadAt 38 (.pointer (some ⟨b, 0, none⟩))).run Tryz.prog w = .ok (.agg (jV c)) w :=
 wB (cs' := jV c) h 0 Tryz.isAgg38 (by kernel_rfl) (fun j hj => by
  have hj : j < 4 := hj; have hc : j = 0 ∨ j = 1 ∨ j = 2 ∨ j = 3 := by omega
  rcases hc with rfl | rfl | rfl | rfl <;> rfl)
theorem wI (r : Rc) (b : Bool) (w : World) (e : j9 r = b) : Calls Tryz.prog 128 #[.agg (jV r)] w fun e w' => e = .returned (.bool b) ∧ Below w.heap.size w w' := e ▸ wd r w
theorem Xr (r : Rc) (n : Int) (w : World) (h : j9 r = true) (e : vL r = n) : Calls Tryz.prog 125 #[.agg (jV r)] w fun e w' => e = .returned (.int .i64 n) ∧ Below w.heap.size w w' := e ▸ zbu r w h
theorem Wf (c : Rc) (n : Int) (w : World) (e : jL c = n) : Calls Tryz.prog 124 #[.agg (jV c)] w fun e w' => e = .returned (.int .i64 n) ∧ Below w.heap.size w w' := e ▸ zbU c w
set_option maxHeartbeats 4000000 in
theorem YG (v : Value) (ls : List TA) (c : Rc) (ad : Option Addr) (n cp : Nat) (w : World) (h : RS v ls w) (hn : n ≤ maxLen) (hV0 : j9 c = false) : Calls Tryz.prog 77 #[.agg #[v], .agg (xA c (.slice ad n cp))] w fun e w' => e = .returned (.tuple #[.agg #[.slice none 0 0], .int .i64 1]) ∧ Below w.heap.size w w' := by
 have B := Below.refl w.heap.size w
 obtain ⟨a, cpv, rfl, hc⟩ := h.len
 clear h
 go_enter Tryz.func77, Tryz.ntmps77
 go_upto_region 0 with fail
 refine wp_region_lit ?_
 (refine zt (t := 64) rfl _ rfl _ rfl (zY B ?_); clear B; intro b_r2 wn zb zd r2 za zf zk B; simp only [zo])
 (refine zt (t := 117) rfl _ rfl _ rfl (zY B ?_); clear B; intro b_m3 wn zb zd m3 za zf zk B; (try have zh := r2.lt); (try replace r2 := r2.below (za.mono zb)); simp only [zo])
 (refine zr (t := 64) rfl _ (qA _ _ rfl) (zY B ?_); clear B; intro b_r4 wn zb zd r4 za zf zk B; (try have zh := r2.lt); (try replace r2 := r2.below (za.mono zb)); (try have zh := m3.lt); (try replace m3 := m3.below (za.mono zb)); simp only [zo])
 refine zy 1 ?_
 refine wpList_nil ?_
 go_upto_region 1 with fail
 refine wp_region_lit ?_
 refine j4 2 ?_
 repeat (first | go_big_quiet_skip | (go_big_quiet_want; first | ((first | refine zn (t := 38) rfl _ _ _ rfl (fun w hw => qL (zB m3 w hw)) (by first | rfl | omega) ?_ | refine qB ?_ | refine qC ?_); simp only [zo]; go_big_quiet_on) | (go_big_quiet_op; go_big_quiet_on)))
 refine wpQuiet_nil ?_
 (refine zr (t := 38) rfl _ (zZ _ _ rfl) (zY B ?_); clear B; intro b_c6 wn zb zd c6 za zf zk B; (try have zh := r2.lt); (try replace r2 := r2.below (za.mono zb)); (try have zh := m3.lt); (try replace m3 := m3.below (za.mono zb)); (try have zh := r4.lt); (try replace r4 := r4.below (za.mono zb)); (try have zh := c6.lt); (try replace c6 := c6.below (za.mono zb)); simp only [zo])
 (refine zq (t := 38) rfl _ _ rfl _ rfl _ rfl c6 (by kernel_rfl) rfl (by simp [jV, xA, Value.oneCell']) (qG B (by omega) ?_); clear c6 B; intro wn c6 ze zf zg B; (try replace r2 := r2.of_eq (ze.block _ r2.lt (by omega))); (try replace m3 := m3.of_eq (ze.block _ m3.lt (by omega))); (try replace r4 := r4.of_eq (ze.block _ r4.lt (by omega))); simp only [zo])
 refine wpList_nil ?_
 replace c6 : zK 38 _ b_c6 (jV c) := c6
 go_upto_region 2 with fail
 try have lx_r2 := r2.lt
 try have lx_m3 := m3.lt
 try have lx_r4 := r4.lt
 try have lx_c6 := c6.lt
 refine zJ 11 [(1, zN ?v1_1)] (by kernel_rfl) (by kernel_rfl) (by kernel_rfl) ?_
 rotate_left 1
 simp only [jZ, Nat.reduceAdd]
 refine ub 1 ?_
 repeat (first | go_big_quiet_skip | (go_big_quiet_want; first | ((first | refine zn (t := 38) rfl _ _ _ rfl (fun w hw => qL (zB m3 w hw)) (by first | rfl | omega) ?_ | refine qB ?_ | refine qC ?_); simp only [zo]; go_big_quiet_on) | (go_big_quiet_op; go_big_quiet_on)))
 refine wpQuiet_nil ?_
 refine zD (by rfl) (by first | rfl | simp [Region.wanted, yielded]) ?_ ?_
 ·intro wn za hE Kx hKx
  have zf := B.size; have zg := za.size; replace B := B.trans (za.mono B.size)
  (try replace m3 := m3.below za)
  (try replace r4 := r4.below za)
  (try replace c6 := c6.below za)
  refine zP rfl (enters_of Tryz.func128 (by kernel_rfl) rfl) (by simp only [Act.eval, qI]; rfl) ?_
  refine (wI c false _ hV0).mono ?_; rintro e wm ⟨rfl, zl⟩; refine ⟨_, rfl, ?_⟩; have hz := hKx () wm trivial zl
  dsimp only [zN] at hz
  exact hz
 rintro ⟨⟩
 dsimp only [zN]
 simp only [zo]
 refine ub 4 ?_
 repeat (first | go_big_quiet_skip | (go_big_quiet_want; first | ((first | refine zn (t := 115) rfl _ _ _ rfl (fun w hw => xh (uA (zB m3 w hw))) (by first | rfl | omega) ?_ | refine qB ?_ | refine qC ?_); simp only [zo]; go_big_quiet_on) | (go_big_quiet_op; go_big_quiet_on)))
 refine wpQuiet_nil ?_
 refine YtepelndbbhdofaaGreatDoor.w9 ?hw1_6 ?_
 case hw1_6 => kernel_rfl
 simp only [zo]
 refine ub 1 ?_
 repeat (first | go_big_quiet_skip | (go_big_quiet_want; first | ((first | refine zn (t := 38) rfl _ _ _ rfl (fun w hw => qL (zB m3 w hw)) (by first | rfl | omega) ?_ | refine qB ?_ | refine qC ?_); simp only [zo]; go_big_quiet_on) | (go_big_quiet_op; go_big_quiet_on)))
 refine wpQuiet_nil ?_
 refine YtepelndbbhdofaaGreatDoor.w9 ?hw1_8 ?_
 case hw1_8 => kernel_rfl
 simp only [zo]
 refine kX 2 ?_
 refine qi ?_
 intro wn za hE
 have zf := B.size
 have zg := za.size
 replace B := B.trans (za.mono B.size)
 (try replace r4 := r4.below za)
 clear hE
 try simp only [List.drop_succ_cons, List.drop_zero]
 refine zL.normal ?_
 go_upto_region 3 with fail
 refine wp_region_lit ?_
 refine zy 1 ?_
 (refine zq (t := 64) rfl _ _ rfl _ rfl _ rfl r4 (by kernel_rfl) rfl (by simp [jV, xA, Value.oneCell']) (qG B (by omega) ?_); clear r4 B; intro wn r4 ze zf zg B; simp only [zo])
 refine zy 1 ?_
 refine wpList_nil ?_
 go_wp2
 refine bodyPost_ret (zV (t := 64) rfl _ _ (b_r4) rfl _ rfl r4 Tryz.isAgg64 (by kernel_rfl)) rfl ?_
 exact ⟨rfl, B⟩
set_option maxHeartbeats 4000000 in
theorem YH (v : Value) (ls : List TA) (c : Rc) (ad : Option Addr) (n cp : Nat) (w : World) (h : RS v ls w) (hn : n ≤ maxLen) (hV0 : j9 c = true) (A : Int) (hA : vL c = A) (hlen : ¬ (n : Int) = A) : Calls Tryz.prog 77 #[.agg #[v], .agg (xA c (.slice ad n cp))] w fun e w' => e = .returned (.tuple #[.agg #[.slice none 0 0], .int .i64 1]) ∧ Below w.heap.size w w' := by
 have B := Below.refl w.heap.size w
 obtain ⟨a, cpv, rfl, hc⟩ := h.len
 have d1 : ((n : Int) != A) = true := by simpa using hlen
 have HA := Lib.hid hA
 clear h hA
 go_enter Tryz.func77, Tryz.ntmps77
 go_upto_region 0 with fail
 refine wp_region_lit ?_
 (refine zt (t := 64) rfl _ rfl _ rfl (zY B ?_); clear B; intro b_r2 wn zb zd r2 za zf zk B; simp only [zo])
 (refine zt (t := 117) rfl _ rfl _ rfl (zY B ?_); clear B; intro b_m3 wn zb zd m3 za zf zk B; (try have zh := r2.lt); (try replace r2 := r2.below (za.mono zb)); simp only [zo])
 (refine zr (t := 64) rfl _ (qA _ _ rfl) (zY B ?_); clear B; intro b_r4 wn zb zd r4 za zf zk B; (try have zh := r2.lt); (try replace r2 := r2.below (za.mono zb)); (try have zh := m3.lt); (try replace m3 := m3.below (za.mono zb)); simp only [zo])
 refine zy 1 ?_
 refine wpList_nil ?_
 go_upto_region 1 with fail
 refine wp_region_lit ?_
 refine j4 2 ?_
 repeat (first | go_big_quiet_skip | (go_big_quiet_want; first | ((first | refine zn (t := 38) rfl _ _ _ rfl (fun w hw => qL (zB m3 w hw)) (by first | rfl | omega) ?_ | refine qB ?_ | refine qC ?_); simp only [zo]; go_big_quiet_on) | (go_big_quiet_op; go_big_quiet_on)))
 refine wpQuiet_nil ?_
 (refine zr (t := 38) rfl _ (zZ _ _ rfl) (zY B ?_); clear B; intro b_c6 wn zb zd c6 za zf zk B; (try have zh := r2.lt); (try replace r2 := r2.below (za.mono zb)); (try have zh := m3.lt); (try replace m3 := m3.below (za.mono zb)); (try have zh := r4.lt); (try replace r4 := r4.below (za.mono zb)); (try have zh := c6.lt); (try replace c6 := c6.below (za.mono zb)); simp only [zo])
 (refine zq (t := 38) rfl _ _ rfl _ rfl _ rfl c6 (by kernel_rfl) rfl (by simp [jV, xA, Value.oneCell']) (qG B (by omega) ?_); clear c6 B; intro wn c6 ze zf zg B; (try replace r2 := r2.of_eq (ze.block _ r2.lt (by omega))); (try replace m3 := m3.of_eq (ze.block _ m3.lt (by omega))); (try replace r4 := r4.of_eq (ze.block _ r4.lt (by omega))); simp only [zo])
 refine wpList_nil ?_
 replace c6 : zK 38 _ b_c6 (jV c) := c6
 go_upto_region 2 with fail
 try have lx_r2 := r2.lt
 try have lx_m3 := m3.lt
 try have lx_r4 := r4.lt
 try have lx_c6 := c6.lt
 refine zJ 11 [(1, zN ?v2_1), (6, zN ?v2_6), (8, zN ?v2_8)] (by kernel_rfl) (by kernel_rfl) (by kernel_rfl) ?_
 rotate_left 3
 simp only [jZ, Nat.reduceAdd]
 refine ub 1 ?_
 repeat (first | go_big_quiet_skip | (go_big_quiet_want; first | ((first | refine zn (t := 38) rfl _ _ _ rfl (fun w hw => qL (zB m3 w hw)) (by first | rfl | omega) ?_ | refine qB ?_ | refine qC ?_); simp only [zo]; go_big_quiet_on) | (go_big_quiet_op; go_big_quiet_on)))
 refine wpQuiet_nil ?_
 refine zD (by rfl) (by first | rfl | simp [Region.wanted, yielded]) ?_ ?_
 ·intro wn za hE Kx hKx
  have zf := B.size; have zg := za.size; replace B := B.trans (za.mono B.size)
  (try replace m3 := m3.below za)
  (try replace r4 := r4.below za)
  (try replace c6 := c6.below za)
  refine zP rfl (enters_of Tryz.func128 (by kernel_rfl) rfl) (by simp only [Act.eval, qI]; rfl) ?_
  refine (wI c true _ hV0).mono ?_; rintro e wm ⟨rfl, zl⟩; refine ⟨_, rfl, ?_⟩; have hz := hKx () wm trivial zl
  dsimp only [zN] at hz
  exact hz
 rintro ⟨⟩
 dsimp only [zN]
 simp only [zo]
 refine ub 4 ?_
 repeat (first | go_big_quiet_skip | (go_big_quiet_want; first | ((first | refine zn (t := 115) rfl _ _ _ rfl (fun w hw => xh (uA (zB m3 w hw))) (by first | rfl | omega) ?_ | refine qB ?_ | refine qC ?_); simp only [zo]; go_big_quiet_on) | (go_big_quiet_op; go_big_quiet_on)))
 refine wpQuiet_nil ?_
 refine zD (by rfl) ?hw2_6 ?_ ?_
 case hw2_6 => kernel_rfl
 ·intro wn za hE Kx hKx
  have zf := B.size; have zg := za.size; replace B := B.trans (za.mono B.size)
  (try replace m3 := m3.below za)
  (try replace r4 := r4.below za)
  (try replace c6 := c6.below za)
  refine Zl rfl Tryz.underlying115 rfl ?_; exact hKx () _ trivial (Below.refl _ _)
 rintro ⟨⟩
 dsimp only [zN]
 simp only [zo]
 refine ub 1 ?_
 repeat (first | go_big_quiet_skip | (go_big_quiet_want; first | ((first | refine zn (t := 38) rfl _ _ _ rfl (fun w hw => qL (zB m3 w hw)) (by first | rfl | omega) ?_ | refine qB ?_ | refine qC ?_); simp only [zo]; go_big_quiet_on) | (go_big_quiet_op; go_big_quiet_on)))
 refine wpQuiet_nil ?_
 refine zD (by rfl) ?hw2_8 ?_ ?_
 case hw2_8 => kernel_rfl
 ·intro wn za hE Kx hKx
  have zf := B.size; have zg := za.size; replace B := B.trans (za.mono B.size)
  (try replace r4 := r4.below za)
  refine zP rfl (enters_of Tryz.func125 (by kernel_rfl) rfl) (by simp only [Act.eval, qI]; rfl) ?_
  refine (Xr c A _ hV0 HA.out).mono ?_; rintro e wm ⟨rfl, zl⟩; refine ⟨_, rfl, ?_⟩; have hz := hKx () wm trivial zl
  dsimp only [zN] at hz
  exact hz
 rintro ⟨⟩
 dsimp only [zN]
 simp only [zo]
 refine kX 2 ?_
 refine qi ?_
 intro wn za hE
 have zf := B.size
 have zg := za.size
 replace B := B.trans (za.mono B.size)
 (try replace r4 := r4.below za)
 clear hE
 try simp only [List.drop_succ_cons, List.drop_zero]
 refine zL.normal ?_
 go_upto_region 3 with fail
 refine wp_region_lit ?_
 refine zy 1 ?_
 (refine zq (t := 64) rfl _ _ rfl _ rfl _ rfl r4 (by kernel_rfl) rfl (by simp [jV, xA, Value.oneCell']) (qG B (by omega) ?_); clear r4 B; intro wn r4 ze zf zg B; simp only [zo])
 refine zy 1 ?_
 refine wpList_nil ?_
 go_wp2
 refine bodyPost_ret (zV (t := 64) rfl _ _ (b_r4) rfl _ rfl r4 Tryz.isAgg64 (by kernel_rfl)) rfl ?_
 exact ⟨rfl, B⟩
set_option maxHeartbeats 4000000 in
theorem YF (v : Value) (ls : List TA) (c : Rc) (ad : Option Addr) (n cp : Nat) (w : World) (h : RS v ls w) (hn : n ≤ maxLen) (hV0 : j9 c = true) (hA : vL c = (n : Int)) (e0 : Int) (hF : jL c = e0) (h0 : ¬ e0 = 0) : Calls Tryz.prog 77 #[.agg #[v], .agg (xA c (.slice ad n cp))] w fun e w' => e = .returned (.tuple #[.agg #[.slice none 0 0], .int .i64 e0]) ∧ Below w.heap.size w w' := by
 have B := Below.refl w.heap.size w
 obtain ⟨a, cpv, rfl, hc⟩ := h.len
 have d1 : ((n : Int) != (n : Int)) = false := by simp
 have d2 : (e0 != 0) = true := by simpa using h0
 have HA := Lib.hid hA
 have HF := Lib.hid hF
 clear h hA hF
 go_enter Tryz.func77, Tryz.ntmps77
 go_upto_region 0 with fail
 refine wp_region_lit ?_
 (refine zt (t := 64) rfl _ rfl _ rfl (zY B ?_); clear B; intro b_r2 wn zb zd r2 za zf zk B; simp only [zo])
 (refine zt (t := 117) rfl _ rfl _ rfl (zY B ?_); clear B; intro b_m3 wn zb zd m3 za zf zk B; (try have zh := r2.lt); (try replace r2 := r2.below (za.mono zb)); simp only [zo])
 (refine zr (t := 64) rfl _ (qA _ _ rfl) (zY B ?_); clear B; intro b_r4 wn zb zd r4 za zf zk B; (try have zh := r2.lt); (try replace r2 := r2.below (za.mono zb)); (try have zh := m3.lt); (try replace m3 := m3.below (za.mono zb)); simp only [zo])
 refine zy 1 ?_
 refine wpList_nil ?_
 go_upto_region 1 with fail
 refine wp_region_lit ?_
 refine j4 2 ?_
 repeat (first | go_big_quiet_skip | (go_big_quiet_want; first | ((first | refine zn (t := 38) rfl _ _ _ rfl (fun w hw => qL (zB m3 w hw)) (by first | rfl | omega) ?_ | refine qB ?_ | refine qC ?_); simp only [zo]; go_big_quiet_on) | (go_big_quiet_op; go_big_quiet_on)))
 refine wpQuiet_nil ?_
 (refine zr (t := 38) rfl _ (zZ _ _ rfl) (zY B ?_); clear B; intro b_c6 wn zb zd c6 za zf zk B; (try have zh := r2.lt); (try replace r2 := r2.below (za.mono zb)); (try have zh := m3.lt); (try replace m3 := m3.below (za.mono zb)); (try have zh := r4.lt); (try replace r4 := r4.below (za.mono zb)); (try have zh := c6.lt); (try replace c6 := c6.below (za.mono zb)); simp only [zo])
 (refine zq (t := 38) rfl _ _ rfl _ rfl _ rfl c6 (by kernel_rfl) rfl (by simp [jV, xA, Value.oneCell']) (qG B (by omega) ?_); clear c6 B; intro wn c6 ze zf zg B; (try replace r2 := r2.of_eq (ze.block _ r2.lt (by omega))); (try replace m3 := m3.of_eq (ze.block _ m3.lt (by omega))); (try replace r4 := r4.of_eq (ze.block _ r4.lt (by omega))); simp only [zo])
 refine wpList_nil ?_
 replace c6 : zK 38 _ b_c6 (jV c) := c6
 go_upto_region 2 with fail
 try have lx_r2 := r2.lt
 try have lx_m3 := m3.lt
 try have lx_r4 := r4.lt
 try have lx_c6 := c6.lt
 refine zJ 11 [(1, zN ?v3_1), (6, zN ?v3_6), (8, zN ?v3_8)] (by kernel_rfl) (by kernel_rfl) (by kernel_rfl) ?_
 rotate_left 3
 simp only [jZ, Nat.reduceAdd]
 refine ub 1 ?_
 repeat (first | go_big_quiet_skip | (go_big_quiet_want; first | ((first | refine zn (t := 38) rfl _ _ _ rfl (fun w hw => qL (zB m3 w hw)) (by first | rfl | omega) ?_ | refine qB ?_ | refine qC ?_); simp only [zo]; go_big_quiet_on) | (go_big_quiet_op; go_big_quiet_on)))
 refine wpQuiet_nil ?_
 refine zD (by rfl) (by first | rfl | simp [Region.wanted, yielded]) ?_ ?_
 ·intro wn za hE Kx hKx
  have zf := B.size; have zg := za.size; replace B := B.trans (za.mono B.size)
  (try replace m3 := m3.below za)
  (try replace r4 := r4.below za)
  (try replace c6 := c6.below za)
  refine zP rfl (enters_of Tryz.func128 (by kernel_rfl) rfl) (by simp only [Act.eval, qI]; rfl) ?_
  refine (wI c true _ hV0).mono ?_; rintro e wm ⟨rfl, zl⟩; refine ⟨_, rfl, ?_⟩; have hz := hKx () wm trivial zl
  dsimp only [zN] at hz
  exact hz
 rintro ⟨⟩
 dsimp only [zN]
 simp only [zo]
 refine ub 4 ?_
 repeat (first | go_big_quiet_skip | (go_big_quiet_want; first | ((first | refine zn (t := 115) rfl _ _ _ rfl (fun w hw => xh (uA (zB m3 w hw))) (by first | rfl | omega) ?_ | refine qB ?_ | refine qC ?_); simp only [zo]; go_big_quiet_on) | (go_big_quiet_op; go_big_quiet_on)))
 refine wpQuiet_nil ?_
 refine zD (by rfl) ?hw3_6 ?_ ?_
 case hw3_6 => kernel_rfl
 ·intro wn za hE Kx hKx
  have zf := B.size; have zg := za.size; replace B := B.trans (za.mono B.size)
  (try replace m3 := m3.below za)
  (try replace r4 := r4.below za)
  (try replace c6 := c6.below za)
  refine Zl rfl Tryz.underlying115 rfl ?_; exact hKx () _ trivial (Below.refl _ _)
 rintro ⟨⟩
 dsimp only [zN]
 simp only [zo]
 refine ub 1 ?_
 repeat (first | go_big_quiet_skip | (go_big_quiet_want; first | ((first | refine zn (t := 38) rfl _ _ _ rfl (fun w hw => qL (zB m3 w hw)) (by first | rfl | omega) ?_ | refine qB ?_ | refine qC ?_); simp only [zo]; go_big_quiet_on) | (go_big_quiet_op; go_big_quiet_on)))
 refine wpQuiet_nil ?_
 refine zD (by rfl) ?hw3_8 ?_ ?_
 case hw3_8 => kernel_rfl
 ·intro wn za hE Kx hKx
  have zf := B.size; have zg := za.size; replace B := B.trans (za.mono B.size)
  (try replace m3 := m3.below za)
  (try replace r4 := r4.below za)
  (try replace c6 := c6.below za)
  refine zP rfl (enters_of Tryz.func125 (by kernel_rfl) rfl) (by simp only [Act.eval, qI]; rfl) ?_
  refine (Xr c (n : Int) _ hV0 HA.out).mono ?_; rintro e wm ⟨rfl, zl⟩; refine ⟨_, rfl, ?_⟩; have hz := hKx () wm trivial zl
  dsimp only [zN] at hz
  exact hz
 rintro ⟨⟩
 dsimp only [zN]
 simp only [zo]
 refine kX 2 ?_
 refine qi ?_
 intro wn za hE
 have zf := B.size
 have zg := za.size
 replace B := B.trans (za.mono B.size)
 (try replace m3 := m3.below za)
 (try replace r4 := r4.below za)
 (try replace c6 := c6.below za)
 clear hE
 try simp only [List.drop_succ_cons, List.drop_zero]
 refine zL.normal ?_
 go_upto_region 4 with fail
 refine wp_region_lit ?_
 refine j4 1 ?_
 repeat (first | go_big_quiet_skip | (go_big_quiet_want; first | ((first | refine zn (t := 38) rfl _ _ _ rfl (fun w hw => qL (zB m3 w hw)) (by first | rfl | omega) ?_ | refine qB ?_ | refine qC ?_); simp only [zo]; go_big_quiet_on) | (go_big_quiet_op; go_big_quiet_on)))
 refine wpQuiet_nil ?_
 refine je (enters_of Tryz.func124 (by kernel_rfl) rfl) (c := Wf c e0 _ HF.out) (h := ?_)
 rintro e wn ⟨rfl, za⟩
 have zf := B.size
 have zg := za.size
 replace B := B.trans (za.mono B.size)
 (try replace r4 := r4.below za)
 refine ⟨_, rfl, ?_⟩
 simp only [zo]
 refine zy 1 ?_
 refine wpList_nil ?_
 go_upto_region 5 with fail
 refine wp_region_lit ?_
 refine zy 2 ?_
 refine wpList_nil ?_
 go_upto_region 6 with fail
 refine wp_region_lit ?_
 refine zy 2 ?_
 (refine zq (t := 64) rfl _ _ rfl _ rfl _ rfl r4 (by kernel_rfl) rfl (by simp [jV, xA, Value.oneCell']) (qG B (by omega) ?_); clear r4 B; intro wn r4 ze zf zg B; simp only [zo])
 refine zy 1 ?_
 refine wpList_nil ?_
 go_wp2
 refine bodyPost_ret (zV (t := 64) rfl _ _ (b_r4) rfl _ rfl r4 Tryz.isAgg64 (by kernel_rfl)) rfl ?_
 exact ⟨rfl, B⟩
end Go.Proofs.YtepelndbbhdofaaGreatDoor
/- A range over a function whose loop variable lies in memory: the round's head makes its block. -/
namespace Go.Proofs.YtepelndbbhdofaaGreatDoor
open Go Go.RowKit
set_option linter.unusedVariables false
set_option linter.unusedSimpArgs false
section
variable {F : Fence} {n : Nat} {P : Program}
/-- The statement 'for x := range seq { .. }' whose head may lay new blocks: 'As x' says what the head leaves. -/
theorem Jh {α : Type} {g : Operand} {ps : Array Tmp} {assign body : Code} {Q : Exit → Act → World → Prop} {a : Act} {w : World}
  (hro : F.round = none) (h1 : 1 ≤ n) {gf : Nat} {lb : Array Value} (hg : a.eval g = .func (.func gf) #[] lb) (hFg : F.fn gf) (eg : ∀ args w, (callFunc gf args).run P w = .ok (.enter gf args) w)
  {encs : α → Array Value} {Kp : World → World → Prop} {S Sp : List α → Prop} {N : Nat} {w0 : World} (hseq : SeqStopsK F (n - 1) P gf lb encs Kp S Sp N w0)
  (hKt : ∀ {A B C : World}, Kp A B → Kp B C → Kp A C) (hKb : ∀ (W : World) (l : Nat) (o o' : Obj), w.heap.size ≤ l → W.heap[l]? = some o → o.isCells = false → o.isWalk = false → Kp W (W.putObj l o'))
  (hKg : ∀ (A B : World), Below A.heap.size A B → Kp A B) (hb0 : Below w0.heap.size w0 w) (hps : ∀ x, (encs x).size = ps.size)
  (I : List α → World → Prop) (hI : OwnFrom w.heap.size I) (h0 : I [] w) (As : α → Act → World → Prop) (hAs : ∀ x, OwnFrom w.heap.size (As x))
  (hassign : ∀ (l : Nat) (pre : List α) (x : α) (W : World) (K : Act → World → Prop), I pre W → (∀ a' W', Below W.heap.size W W' → As x a' W' → K a' W') →
   assign.wpIn (F.inRound l) (n - 1 - 1) P (Exit.then K (fun _ _ _ => False)) { tmps := (ps.zip (encs x)).foldl (fun t (p, v) => t.setIfInBounds p v) a.tmps, defers := [] } W)
  (hbody : ∀ (l : Nat) (pre : List α) (x : α) (W : World) (a' : Act), I pre W → As x a' W → pre.length < N → body.wpIn (F.inRound l) (n - 1 - 1) P (ownPostK Kp I (fun _ _ _ => False) (pre ++ [x]) W) a' W)
  (hdone : ∀ (D : Nat) (xs : List α) (W : World), w.heap.size ≤ D → S xs → I xs W → W.heap[D]? = some (.deferred (some [])) → Q .normal { a with defers := { target := .collected D, args := #[] } :: a.defers } W) :
  (Code.rangeFunc g ps assign body).wpIn F n P Q a w := by
 refine wpIn_rangeFunc fun fn hfn => ?_
 rw [hro]
 obtain ⟨rc, hrc⟩ : ∃ rc : LoopState → Option Code → Loop, rc = fun st pe => { state := st, pending := pe, fn, tmps := a.tmps, params := ps, assign, body, defers := w.heap.size } := ⟨_, rfl⟩
 obtain ⟨W1, hW1⟩ : ∃ W1, (w.alloc (.deferred (some []))).alloc (.loop (rc .ready none)) = W1 := ⟨_, rfl⟩
 have blkL : W1.heap[w.heap.size + 1]? = some (.loop (rc .ready none)) := by
  have := World.alloc_heap_new (w.alloc (.deferred (some []))) (.loop (rc .ready none)); rw [← hW1]
  rwa [World.size_alloc] at this
 have blkD : W1.heap[w.heap.size]? = some (.deferred (some [])) := by
  rw [← hW1]; exact (Below.heap_alloc _ _ _ (by simp)).trans (World.alloc_heap_new w _)
 have grown : Below w0.heap.size w0 W1 := by
  rw [← hW1]; exact hb0.trans ((((Below.refl _ w).alloc (Nat.le_refl _) _).alloc (by simp) _).mono hb0.size)
 have szW1 : w.heap.size ≤ W1.heap.size := by rw [← hW1]; simp; omega
 have Jr : I [] W1 := by rw [← hW1]; exact hI.alloc _ (hI.alloc _ h0)
 refine ⟨w.heap.size + 1, [{ target := .collected w.heap.size, args := #[] }], W1, { target := .fn (.func gf) lb, args := #[.func (.yield (w.heap.size + 1)) #[] #[]] }, W1, gf,
  #[.func (.yield (w.heap.size + 1)) #[] #[]] ++ lb, W1, ?_, ?_, ?_, ?_, fun _ => h1, ?_⟩
 ·rw [← hW1, hrc]; exact run_enterLoop_outer _ _ _ _ _
 ·simp only [resolve, hg]
  simp [go_sem]
 ·intro f' hf'
  simp [Target.leads] at hf'
  subst hf'; exact hFg
 ·simp [invoke, go_sem, eg]
 have walks : ∀ {A : World} {row : Option Nat}, (∀ r, row = some r → W1.heap.size ≤ r ∧ ∃ o : Obj, A.heap[r]? = some o ∧ o.isWalk = true) → (∀ r, row = some r → w.heap.size ≤ r ∧ ∃ o : Obj, A.heap[r]? = some o ∧ o.isCells = false) := fun hr r e => by
  obtain ⟨hB, o, ho, hw⟩ := hr r e; exact ⟨by omega, o, ho, Obj.not_cells_of_walk hw⟩
 refine (hseq (w.heap.size + 1)
  (fun pre W => I pre W ∧ W.heap[w.heap.size + 1]? = some (.loop (rc .ready none)) ∧ W.heap[w.heap.size]? = some (.deferred (some [])))
  (fun _ _ => False) W1 grown
  (fun s A B row hs hg' hr => ⟨hI s A B row hs.1 hg' (walks hr), (grownBy_keeps hg' (fun r e => (hr r e).2) hs.2.1 rfl).trans hs.2.1, (grownBy_keeps hg' (fun r e => (hr r e).2) hs.2.2 rfl).trans hs.2.2⟩)
  (fun _ _ _ _ hs _ _ => hs) ?_ ⟨Jr, blkL, blkD⟩).mono ?_
 ·rintro pre x W ⟨hi, hl, hk⟩ hlen
  have hy := run_yield (P := P) (args := encs x) hl (by rw [hrc]; exact hps x)
  rw [hrc] at hy; refine ⟨fn, _, assign, body, hy, roundIn_of_wpIn hfn (hassign _ pre x W _ hi fun a' V hb ha => ?_)⟩; have hlV : V.heap[w.heap.size + 1]? = some (.loop (rc .ready none)) := (hb.block _ (Array.getElem?_eq_some_iff.1 hl).1).trans hl; have hkV : V.heap[w.heap.size]? = some (.deferred (some [])) := (hb.block _ (Array.getElem?_eq_some_iff.1 hk).1).trans hk; have hiV : I pre V := hI pre W V none hi (xz hb) (fun r e => by cases e); refine ⟨_, run_beginRound hlV (by rw [hrc]), ?_⟩; obtain ⟨V1, hV1⟩ : ∃ V1, V.putObj (w.heap.size + 1) (.loop { rc .ready none with state := .busy }) = V1 := ⟨_, rfl⟩; have hl1 : V1.heap[w.heap.size + 1]? = some (.loop { rc .ready none with state := .busy }) := by rw [← hV1]; exact World.putObj_heap_same (Array.getElem?_eq_some_iff.1 hlV).1
  have hk1 : V1.heap[w.heap.size]? = some (.deferred (some [])) := by rw [← hV1]; exact (World.putObj_heap_other (by omega)).trans hkV
  have hKp1 : Kp W V1 := hKt (hKg _ _ hb) (by rw [← hV1]; exact hKb _ _ _ _ (by omega) hlV rfl rfl)
  have hi1 : I pre V1 := by rw [← hV1]; exact hI.putObj _ hiV (by omega) hlV rfl
  have ha1 : As x a' V1 := by rw [← hV1]; exact (hAs x).putObj _ ha (by omega) hlV rfl
  rw [hV1]; refine wpIn_mono (hbody _ pre x V1 a' hi1 ha1 hlen) ?_; rintro e a3 W3 hp; cases e with
  | normal =>
   obtain ⟨ko, kp, hi3⟩ := hp; have hl3 := ko.same _ _ hl1 rfl; have hk3 := ko.same _ _ hk1 rfl; have he := run_endRound (P := P) none hl3; rw [hrc] at he; refine ⟨_, _, he, .inl ⟨rfl, ⟨hI.putObj _ hi3 (by omega) hl3 rfl, ?_, (World.putObj_heap_other (by omega)).trans hk3⟩, hKt (hKt hKp1 kp) (hKb _ _ _ _ (by omega) hl3 rfl rfl)⟩⟩; rw [World.putObj_heap_same (Array.getElem?_eq_some_iff.1 hl3).1, hrc]
   rfl
  | ret => exact hp.2.elim
  | exit id => exact hp.2.elim
  | goto t => exact hp.2.elim
  | panic ch => exact hp.elim
  | outgrown => exact hp.elim
 ·rintro e W2 ⟨⟨v, rfl⟩, ⟨xs, hS, hi, hl, hk⟩ | ⟨_, _, hf⟩⟩
  ·have he := run_endLoop (P := P) hl (by rw [hrc]; simp)
   rw [hrc] at he; exact ⟨none, _, he, hdone _ xs _ (Nat.le_refl _) hS (hI.putObj _ hi (by omega) hl rfl) ((World.putObj_heap_other (by omega)).trans hk)⟩
  ·exact hf.elim
end
section
variable {P : Program} {ops : Array Oper} {md : Region.Mode} {Q : Exit → Act → World → Prop} {S : World → Prop} {t0 f : Nat} {a : Act} {w : World} {T : Array Bool}
theorem QE (i j k : Nat) {oi oj ok : Oper} (hi : ops[i]? = some oi) (hj : ops[j]? = some oj) (hk : ops[k]? = some ok) (hr : Region.ready md ops T = [i, j, k]) (hgi : oi.guard = none) (hgj : oj.guard = none) (hgk : ok.guard = none)
  (Hi : ∀ K : Act → World → Prop, (∀ a w, (i < t0 → S w) ∧ jP P md ops (zL Q) S t0 f (T.setIfInBounds i true) a w → K a w) → oi.wp P a w K (zL Q))
  (Hj : ∀ K : Act → World → Prop, (∀ a w, (j < t0 → S w) ∧ jP P md ops (zL Q) S t0 f (T.setIfInBounds j true) a w → K a w) → oj.wp P a w K (zL Q))
  (Hk : ∀ K : Act → World → Prop, (∀ a w, (k < t0 → S w) ∧ jP P md ops (zL Q) S t0 f (T.setIfInBounds k true) a w → K a w) → ok.wp P a w K (zL Q)) : jP P md ops (zL Q) S t0 (f + 1) T a w := by
 refine ⟨fun h => (by rw [hr] at h; cases h), fun n hn => ?_⟩
 rw [hr] at hn
 have hn : n = i ∨ n = j ∨ n = k := by simpa using hn
 rcases hn with rfl | rfl | rfl
 ·unfold wpOp
  rw [hi]; simp only []; rw [if_pos (by simp [Region.wanted, hgi])]; exact .inl (Hi _ fun _ _ h => h)
 ·unfold wpOp
  rw [hj]; simp only []; rw [if_pos (by simp [Region.wanted, hgj])]; exact .inl (Hj _ fun _ _ h => h)
 ·unfold wpOp
  rw [hk]; simp only []; rw [if_pos (by simp [Region.wanted, hgk])]; exact .inl (Hk _ fun _ _ h => h)
end
/-- What keeps all but one block of cells, keeps whatever is no cells. -/
theorem KeepsOthers.chgB {b : Nat} {t : TypeId} {cs : Array Value} {W W' : World} (h : qV b W W') (hb : zK t W b cs) : KeepsOthers W W' :=
 ⟨h.size, fun k o hk ho => by
  by_cases e : k = b
  ·subst e
   rw [show W.heap[k]? = _ from hb] at hk; cases hk
   cases ho
  ·exact (h.block k (Array.getElem?_eq_some_iff.1 hk).1 e).trans hk⟩
theorem JH.below {b : Nat} {W W' : World} (h : Below W.heap.size W W') : JH b W W' :=
 ⟨h.size, fun k o _ ho _ => (h.block k (Array.getElem?_eq_some_iff.1 ho).1).trans ho⟩
theorem qt.own {g o : Nat} {ls : List TA} {A B : World} {row : Option Nat} (h : qt g o ls A) (hn : 0 < ls.length) (hg : A.grownBy B row) (hr : ∀ r, row = some r → ∃ o : Obj, A.heap[r]? = some o ∧ o.isCells = false) : qt g o ls B := by
 refine h.of_eq (hg.block g h.lt fun e => ?_)
 obtain ⟨x, hx, hc⟩ := hr g e.symm
 have h0 := h.2 0 hn 0 (by omega)
 have hs : ∃ v, (xX (aT ls 0))[0]? = some v := ⟨_, Xl _⟩
 obtain ⟨v, hv⟩ := hs
 rw [hv] at h0
 have := QP h0 x hx
 rw [hc] at this
 cases this
theorem RS.own {v : Value} {ls : List TA} {A B : World} {row : Option Nat} (h : RS v ls A) (hg : A.grownBy B row) (hr : ∀ r, row = some r → ∃ o : Obj, A.heap[r]? = some o ∧ o.isCells = false) : RS v ls B := by
 rcases h with h | ⟨g, o, c, e, hc, sc⟩
 ·exact .inl h
 ·exact .inr ⟨g, o, c, e, hc, fun hn => (sc hn).own hn hg hr⟩
end Go.Proofs.YtepelndbbhdofaaGreatDoor
