import Derived.Test.YtepelndbbhdofaaGreatDoorKp2
import Derived.Deep.CutBlock
import Derived.Deep.DeepCutAuto
import Derived.Laws.MakeOwn
import Derived.Deep.MidRow
import Derived.Deep.Upon
import Derived.OrdersIn
import Derived.Sort.CutIn

namespace Go.Proofs.YtepelndbbhdofaaGreatDoor
open Go.RowKit Go.Shelf Pl Sha Go.Proofs.Tryz
set_option linter.unusedVariables false
set_option linter.unusedSimpArgs false
set_option maxRecDepth 20000
set_option maxHeartbeats 8000000
section
variable {o : Oper} {a : Act} {w : World} {Q : Exit → Act → World → Prop} {K : Act → World → Prop}
theorem uM (ho : o.op = .alloc 123)
  (h : ∀ b w', w.heap.size ≤ b → b ≤ w.heap.size → zV w' b (fun _ => Px.zero) → Below b w w' → w'.heap.size = b + 1 → K (a.put o.dst (.pointer (some ⟨b, 0, none⟩))) w') : o.wp Tryz.prog a w K Q := by
 unfold Oper.wp
 rw [vD w o ho]
 exact h _ _ (Nat.le_refl _) (Nat.le_refl _) (by unfold zV; rw [zJ, if_pos rfl]) ((Below.refl _ _).alloc (Nat.le_refl _) _) (World.size_alloc _ _)
theorem zO {t : TypeId} (cs : Array Value) (hrun : ∀ ev, (execOp ev o).run Tryz.prog w = .ok (.value (.pointer (some ⟨w.heap.size, 0, none⟩))) (w.alloc (.cells cs t)))
  (h : ∀ b w', w.heap.size ≤ b → b ≤ w.heap.size → zw t w' b cs → Below b w w' → w'.heap.size = b + 1 → K (a.put o.dst (.pointer (some ⟨b, 0, none⟩))) w') : o.wp Tryz.prog a w K Q := by
 unfold Oper.wp
 rw [hrun]
 exact h _ _ (Nat.le_refl _) (Nat.le_refl _) (by unfold zw; rw [zJ, if_pos rfl]) ((Below.refl _ _).alloc (Nat.le_refl _) _) (World.size_alloc _ _)
end
theorem zhi (v : Value) (ls : List TA) (x y : Int) (t : Nat → Px) (w : World) (h : RS v ls w) (tk : qQ ls) (hn : ls.length ≤ maxLen) (ht : Qq t) : Calls Tryz.prog 116 #[.agg #[v], .agg #[.int .i64 x, .int .i64 y], Tile.v t] w fun e w' => ∃ v', e = .returned (.agg #[v', .int .i64 (YY ls x y t)]) ∧ RS v' (Z9 ls x y t) w' ∧ Below w.heap.size w w' := by
 have B := Below.refl w.heap.size w
 obtain ⟨a', c', hT⟩ := zbA v ls w h tk hn
 have HT := zo hT
 clear hT
 obtain ⟨a, c, rfl, hc⟩ := h.len
 cases hw : qo x y with
 | false =>
  have e1 : YY ls x y t = 1 := by unfold YY; rw [hw]; rfl
  have e2 : Z9 ls x y t = [] := by unfold Z9; rw [hw]; rfl
  rw [e1, e2]; clear e1 e2; go_enter func116, ntmps116
  go_wp2_with (first | (refine qZ g2 B ?_; clear g2 B; intro wn g2 ze zf zg B; replace r1 := r1.cg ze; replace p1 := p1.cg ze; replace u1 := u1.cg ze) | (go_at_call 157; refine (yU x y _).mono ?_; rintro e wn ⟨rfl, za⟩; obtain ⟨zf, zg, B⟩ := zM B za; replace r1 := r1.be za; replace p1 := p1.be za; replace u1 := u1.be za; replace g2 := g2.be za) | (first | refine yN ?_ | refine yO ?_) | (have _ := u1; refine jH (t := 82) (qJ _ _ rfl) B ?_; clear B; intro b_g2 wn zb zd g2 za zf zk B; replace r1 := r1.be za; replace p1 := p1.be za; replace u1 := u1.be za) | (have _ := p1; refine jR rfl _ rfl _ rfl (kn B ?_); clear B; intro b_u1 wn zb zd u1 za zf zk B; replace r1 := r1.be (za.mono zb); replace p1 := p1.be (za.mono zb); simp only [zn]) | (have _ := r1; refine jd (t := 95) B ?_; clear B; intro b_p1 wn zb zd p1 za zf zk B; replace r1 := r1.be za) | (refine jd (t := 64) B ?_; clear B; intro b_r1 wn zb zd r1 za zf zk B) | fail)
  refine qO g2 ?_; exact ⟨_, rfl, RS.nil _, B⟩
 | true =>
  have SR := zo (xL (jB ls)); have CT : Hid (Qq (qI t)) := zo (fun i hi => Pl.u5 (ht i hi)); have hfl := vj ls; have hpl := uN (qh ls) x y (qI t); by_cases hm : (xF (qh ls) x y (qI t)).length ≤ 1024
  ·have e1 : YY ls x y t = 0 := by unfold YY yz; rw [hw, if_pos rfl, if_pos hm]
   have e2 := zo (show Z9 ls x y t = xF (qh ls) x y (qI t) by unfold Z9 xk; rw [hw, if_pos rfl, if_pos hm])
   rw [e1]; clear e1; go_enter func116, ntmps116
   go_wp2_with (first | (go_at_call 157; refine (yU x y _).mono ?_; rintro e wn ⟨rfl, za⟩; obtain ⟨zf, zg, B⟩ := zM B za; replace r1 := r1.be za; replace p1 := p1.be za; replace u1 := u1.be za; replace g2 := g2.be za) | (first | refine yN ?_ | refine yO ?_) | (have _ := u1; refine jH (t := 82) (qJ _ _ rfl) B ?_; clear B; intro b_g2 wn zb zd g2 za zf zk B; replace r1 := r1.be za; replace p1 := p1.be za; replace u1 := u1.be za) | (have _ := p1; refine jR rfl _ rfl _ rfl (kn B ?_); clear B; intro b_u1 wn zb zd u1 za zf zk B; replace r1 := r1.be (za.mono zb); replace p1 := p1.be (za.mono zb); simp only [zn]) | (have _ := r1; refine jd (t := 95) B ?_; clear B; intro b_p1 wn zb zd p1 za zf zk B; replace r1 := r1.be za) | (refine jd (t := 64) B ?_; clear B; intro b_r1 wn zb zd r1 za zf zk B) | fail)
   refine jm 4 (by kernel_rfl) (by kernel_rfl) ?_; simp only [List.take_succ_cons, List.take_zero, List.drop_succ_cons, List.drop_zero]; repeat (first | go_big_quiet_skip | (go_big_quiet_want; first | ((first | refine qB ?_ | refine qC ?_); simp only [zn]; go_big_quiet_on) | (refine j4 rfl _ rfl (xT u1) ?_; simp only [zn]; go_big_quiet_on) | (go_big_quiet_op; first | go_big_quiet_on | go_big_quiet_call ((first | (go_at_call 92; exact zv (HT.out _ (vv B B.size _)).1))))))
   refine wpQuiet_nil ?_; intro wn za; obtain ⟨zf, zg, B⟩ := zM B za; try replace r1 := r1.be za
   replace p1 := p1.be za
   replace u1 := u1.be za
   replace g2 := g2.be za
   go_wp2_with (first | (refine qZ g2 B ?_; have g2o := g2; clear g2 B; intro wn g2 ze zf zg B; replace rs1 := rs1.chg g2o (by simp) ze; replace r1 := r1.cg ze; replace p1 := p1.cg ze; replace u1 := u1.cg ze) | (go_at_call 152; refine (YA _ _ _ _ (by unfold maxLen; omega)).mono ?_; rintro e wn ⟨rfl, za⟩; rw [if_pos hm]; obtain ⟨zf, zg, B⟩ := zM B za; replace r1 := r1.be za; replace p1 := p1.be za; replace u1 := u1.be za; replace g2 := g2.be za; replace rs1 := rs1.be za) | (go_at_call 151; refine (zdA _ (qh ls) x y t (qI t) _ (HT.out _ B).2 SR.out ht rfl (by omega)).mono ?_; rintro e wn ⟨v1, rfl, rs1, za⟩; obtain ⟨a1, c1, rfl, hc1⟩ := rs1.len; obtain ⟨zf, zg, B⟩ := zM B za; replace r1 := r1.be za; replace p1 := p1.be za; replace u1 := u1.be za; replace g2 := g2.be za) | fail)
   refine qO g2 ?_; exact ⟨_, rfl, by rw [e2.out]; exact rs1, B⟩
  ·have e1 : YY ls x y t = 2 := by unfold YY yz; rw [hw, if_pos rfl, if_neg hm]
   have e2 := zo (show Z9 ls x y t = [] by unfold Z9 xk; rw [hw, if_pos rfl, if_neg hm])
   rw [e1]; clear e1; go_enter func116, ntmps116
   go_wp2_with (first | (go_at_call 157; refine (yU x y _).mono ?_; rintro e wn ⟨rfl, za⟩; obtain ⟨zf, zg, B⟩ := zM B za; replace r1 := r1.be za; replace p1 := p1.be za; replace u1 := u1.be za; replace g2 := g2.be za) | (first | refine yN ?_ | refine yO ?_) | (have _ := u1; refine jH (t := 82) (qJ _ _ rfl) B ?_; clear B; intro b_g2 wn zb zd g2 za zf zk B; replace r1 := r1.be za; replace p1 := p1.be za; replace u1 := u1.be za) | (have _ := p1; refine jR rfl _ rfl _ rfl (kn B ?_); clear B; intro b_u1 wn zb zd u1 za zf zk B; replace r1 := r1.be (za.mono zb); replace p1 := p1.be (za.mono zb); simp only [zn]) | (have _ := r1; refine jd (t := 95) B ?_; clear B; intro b_p1 wn zb zd p1 za zf zk B; replace r1 := r1.be za) | (refine jd (t := 64) B ?_; clear B; intro b_r1 wn zb zd r1 za zf zk B) | fail)
   refine jm 4 (by kernel_rfl) (by kernel_rfl) ?_; simp only [List.take_succ_cons, List.take_zero, List.drop_succ_cons, List.drop_zero]; repeat (first | go_big_quiet_skip | (go_big_quiet_want; first | ((first | refine qB ?_ | refine qC ?_); simp only [zn]; go_big_quiet_on) | (refine j4 rfl _ rfl (xT u1) ?_; simp only [zn]; go_big_quiet_on) | (go_big_quiet_op; first | go_big_quiet_on | go_big_quiet_call ((first | (go_at_call 92; exact zv (HT.out _ (vv B B.size _)).1))))))
   refine wpQuiet_nil ?_; intro wn za; obtain ⟨zf, zg, B⟩ := zM B za; try replace g2 := g2.be za
   go_wp2_with (first | (refine qZ g2 B ?_; have g2o := g2; clear g2 B; intro wn g2 ze zf zg B; replace rs1 := rs1.chg g2o (by simp) ze) | (go_at_call 152; refine (YA _ _ _ _ (by unfold maxLen; omega)).mono ?_; rintro e wn ⟨rfl, za⟩; rw [if_neg hm]; obtain ⟨zf, zg, B⟩ := zM B za; replace g2 := g2.be za; replace rs1 := rs1.be za) | (go_at_call 151; refine (zdA _ (qh ls) x y t (qI t) _ (HT.out _ B).2 SR.out ht rfl (by omega)).mono ?_; rintro e wn ⟨v1, rfl, rs1, za⟩; obtain ⟨a1, c1, rfl, hc1⟩ := rs1.len; obtain ⟨zf, zg, B⟩ := zM B za; replace g2 := g2.be za) | fail)
   refine qO g2 ?_; exact ⟨_, rfl, by rw [e2.out]; exact RS.nil _, B⟩
theorem zhg (v : Value) (ls : List TA) (x y : Int) (w : World) (h : RS v ls w) (hn : ls.length ≤ maxLen) (hx : (Lit.int .i64 x).wf = true) (hy : (Lit.int .i64 y).wf = true) : Calls Tryz.prog 93 #[.agg #[v], .int .i64 x, .int .i64 y] w fun e w' => e = .returned (Px.v (xJ ls x y)) ∧ Below w.heap.size w w' := by
 have B := Below.refl w.heap.size w
 obtain ⟨a, c, rfl, hc⟩ := h.len
 have HS := zo h
 clear h
 rw [← XR]
 obtain ⟨l1, l2⟩ := zbh hx
 obtain ⟨l3, l4⟩ := zbh hy
 obtain ⟨q, hq⟩ : ∃ q, q = x / 8 := ⟨_, rfl⟩
 obtain ⟨q', hq'⟩ : ∃ q, q = y / 8 := ⟨_, rfl⟩
 have hAt : ∀ w, Calls Tryz.prog 114 #[.int .i64 x, .int .i64 y] w fun e w' => e = .returned (Ps.v q q') ∧ Below w.heap.size w w' := fun w => by rw [hq, hq']; exact zfE x y w hx hy
 have AT := zo hAt
 rw [← hq, ← hq']
 have e1 : x - 8 * q = x % 8 := by omega
 have e2 : y - 8 * q' = y % 8 := by omega
 have b1 : -9223372036854775808 ≤ 8 * q := by omega
 have b2 : 8 * q ≤ 9223372036854775807 := by omega
 have b3 : -9223372036854775808 ≤ 8 * q' := by omega
 have b4 : 8 * q' ≤ 9223372036854775807 := by omega
 clear hAt hq hq' hx hy
 go_enter func93, ntmps93
 go_wp2_with (first | (refine z2 rfl _ _ rfl _ rfl (_) rfl q1 (xV B (by omega) ?_); clear q1 B; intro wn q1 ze zf zg B; replace r1 := r1.cg ze; replace p2 := p2.cg ze; replace u2 := u2.cg ze; simp only [zn]) | (go_at_call 142; refine (zii _ _ _ _).mono ?_; rintro e wn ⟨rfl, za⟩; obtain ⟨zf, zg, B⟩ := zM B za; replace r1 := r1.be za; replace q1 := q1.be za; replace p2 := p2.be za; replace u2 := u2.be za) | (first | refine yN ?_ | refine yO ?_) | (refine qS rfl _ rfl _ rfl u2 ?_; simp only [zn]) | (refine qF rfl _ _ rfl _ rfl _ rfl u2 (xV B (by omega) ?_); clear u2 B; intro wn u2 ze zf zg B; replace r1 := r1.cg ze; replace q1 := q1.cg ze; replace p2 := p2.cg ze; simp only [zn]) | (have _ := p2; refine xD rfl rfl (kn B ?_); clear B; intro b_u2 wn zb zd u2 za zf zk B; replace r1 := r1.be (za.mono zb); replace q1 := q1.be (za.mono zb); replace p2 := p2.be (za.mono zb); simp only [zn]) | (go_at_call 115; refine (Jz _ ls q q' _ (HS.out.be B) hn).mono ?_; rintro e wn ⟨rfl, za⟩; obtain ⟨zf, zg, B⟩ := zM B za; replace r1 := r1.be za; replace q1 := q1.be za; replace p2 := p2.be za) | (refine qZ p2 B ?_; clear p2 B; intro wn p2 ze zf zg B; replace r1 := r1.cg ze; replace q1 := q1.cg ze) | (have _ := q1; refine jH (t := 95) (zX _ _ rfl) B ?_; clear B; intro b_p2 wn zb zd p2 za zf zk B; replace r1 := r1.be za; replace q1 := q1.be za) | (go_at_call 114; refine (AT.out _).mono ?_; rintro e wn ⟨rfl, za⟩; obtain ⟨zf, zg, B⟩ := zM B za; replace r1 := r1.be za; replace q1 := q1.be za) | (have _ := r1; refine qA rfl rfl (kn B ?_); clear B; intro b_q1 wn zb zd q1 za zf zk B; replace r1 := r1.be (za.mono zb); simp only [zn]) | (refine jd (t := 64) B ?_; clear B; intro b_r1 wn zb zd r1 za zf zk B) | fail)
 refine bodyPost_ret (jM rfl _ _ (b_q1) rfl q1) rfl ?_
 exact ⟨rfl, B⟩
theorem Yz (v : Value) (ls : List TA) (x y : Int) (p : Px) (w : World) (h : RS v ls w) (tk : qQ ls) (hn : ls.length ≤ maxLen) (hx : (Lit.int .i64 x).wf = true) (hy : (Lit.int .i64 y).wf = true) (hp : p.ok) : Calls Tryz.prog 70 #[.agg #[v], .int .i64 x, .int .i64 y, Px.v p] w fun e w' => ∃ v', e = .returned (.agg #[v', .int .i64 (zeS ls x y p)]) ∧ RS v' (VS ls x y p) w' ∧ Below w.heap.size w w' := by
 have B := Below.refl w.heap.size w
 obtain ⟨a', c', hT⟩ := zbA v ls w h tk hn
 have HT := zo hT
 clear hT
 obtain ⟨a, c, rfl, hc⟩ := h.len
 have HS := zo h
 have TK := zo tk
 have hfl : (qh ls).length ≤ maxLen := by have := JQ ls; omega
 obtain ⟨l1, l2⟩ := zbh hx
 obtain ⟨l3, l4⟩ := zbh hy
 obtain ⟨q, hq⟩ : ∃ q, q = x / 8 := ⟨_, rfl⟩
 obtain ⟨q', hq'⟩ : ∃ q, q = y / 8 := ⟨_, rfl⟩
 have KK : Hid (Qq (QF (qc (qh ls) q q') (x % 8) (y % 8) p)) := zo (by rw [hq, hq']; exact VT tk hp)
 have e1 := zo (show zeS ls x y p = YY ls q q' (QF (qc (qh ls) q q') (x % 8) (y % 8) p) from by rw [hq, hq']; rfl)
 have e2 := zo (show VS ls x y p = Z9 ls q q' (QF (qc (qh ls) q q') (x % 8) (y % 8) p) from by rw [hq, hq']; rfl)
 have hAt : ∀ w, Calls Tryz.prog 114 #[.int .i64 x, .int .i64 y] w fun e w' => e = .returned (Ps.v q q') ∧ Below w.heap.size w w' := fun w => by rw [hq, hq']; exact zfE x y w hx hy
 have AT := zo hAt
 have f1 : x - 8 * q = x % 8 := by omega
 have f2 : y - 8 * q' = y % 8 := by omega
 have b1 : -9223372036854775808 ≤ 8 * q := by omega
 have b2 : 8 * q ≤ 9223372036854775807 := by omega
 have b3 : -9223372036854775808 ≤ 8 * q' := by omega
 have b4 : 8 * q' ≤ 9223372036854775807 := by omega
 clear hAt hq hq' hx hy tk h
 go_enter func70, ntmps70
 go_upto_region 2 with (first | (first | refine yN ?_ | refine yO ?_) | (refine qZ p2 B ?_; clear p2 B; intro wn p2 ze zf zg B; replace r1 := r1.cg ze; replace q1 := q1.cg ze; replace g2 := g2.cg ze) | (have _ := g2; refine jH (t := 95) (zX _ _ rfl) B ?_; clear B; intro b_p2 wn zb zd p2 za zf zk B; replace r1 := r1.be za; replace q1 := q1.be za; replace g2 := g2.be za) | (go_at_call 114; refine (AT.out _).mono ?_; rintro e wn ⟨rfl, za⟩; obtain ⟨zf, zg, B⟩ := zM B za; replace r1 := r1.be za; replace q1 := q1.be za; replace g2 := g2.be za) | (have _ := q1; refine jH (t := 82) (qJ _ _ rfl) B ?_; clear B; intro b_g2 wn zb zd g2 za zf zk B; replace r1 := r1.be za; replace q1 := q1.be za) | (have _ := r1; refine yD rfl _ rfl _ rfl (kn B ?_); clear B; intro b_q1 wn zb zd q1 za zf zk B; replace r1 := r1.be (za.mono zb); simp only [zn]) | (refine jd (t := 64) B ?_; clear B; intro b_r1 wn zb zd r1 za zf zk B) | fail)
 have hp2 := p2.lt
 go_cut [10] from 14 to 17 (fun s wx => ∃ b, s = .pointer (some ⟨b, 0, none⟩) ∧ zV wx b (qc (qh ls) q q') ∧ Below w.heap.size w wx ∧ b_p2 < b ∧ zw 64 wx b_r1 #[.slice a ls.length c] ∧ j3 wx b_q1 p ∧ zw 82 wx b_g2 #[.slice none 0 0, .int .i64 0] ∧ zw 95 wx b_p2 #[.int .i64 q, .int .i64 q'])
 case first =>
  have r1B := r1
  have q1B := q1
  have g2B := g2
  have p2B := p2
  refine kl 5 #[false, false, false, false, false, false] (by kernel_rfl) (by kernel_rfl) ?_; intro wn za; have hX := za; obtain ⟨zf, zg, B⟩ := zM B za; try replace r1 := r1.be za
  replace q1 := q1.be za
  replace g2 := g2.be za
  replace p2 := p2.be za
  simp only [List.length_cons, List.length_nil, Nat.reduceAdd]; refine z6 0 rfl (by kernel_rfl) ⟨_, zC hX⟩ ?_; intro K hK; try simp only [zR]
  (first | ((first | refine qB ?_ | refine qC ?_); simp only [zn]; go_big_quiet_on) | (go_big_quiet_op; go_big_quiet_on))
  simp only [zn]; refine z6 2 rfl (by kernel_rfl) ⟨_, zC hX⟩ ?_; intro K hK; try simp only [zR]
  (first | ((first | refine qB ?_ | refine qC ?_); simp only [zn]; go_big_quiet_on) | (go_big_quiet_op; go_big_quiet_on))
  simp only [zn]; refine j9 1 4 rfl rfl (by kernel_rfl) rfl rfl (fun K hK => ?_) (fun K hK => ?_)
  ·skip
   go_simp
   go_at_call 92
   refine ((HT.out _ B).1).mono ?_; rintro e wn ⟨rfl, za⟩; have zf := B.size; have zg := za.size; have hsx := hX.size; replace B := B.trans (za.mono B.size); replace hX := hX.trans (za.mono hX.size); try replace r1 := r1.be za
   replace q1 := q1.be za
   replace g2 := g2.be za
   replace p2 := p2.be za
   refine hK _ _ ⟨fun _ => ⟨_, zC hX⟩, ?_⟩; clear hK K; simp only [zn]; refine j9 3 4 rfl rfl (by kernel_rfl) rfl rfl (fun K hK => ?_) (fun K hK => ?_)
   ·skip
    go_simp
    go_at_call 115
    refine (Jz _ (qh ls) q q' _ (HT.out _ B).2 hfl).mono ?_; rintro e wn ⟨rfl, za⟩; have zf := B.size; have zg := za.size; have hsx := hX.size; replace B := B.trans (za.mono B.size); replace hX := hX.trans (za.mono hX.size); try replace r1 := r1.be za
    replace q1 := q1.be za
    replace g2 := g2.be za
    replace p2 := p2.be za
    refine hK _ _ ⟨fun _ => ⟨_, zC hX⟩, ?_⟩; clear hK K; simp only [zn]; refine zU 4 rfl (by kernel_rfl) rfl (fun K hK => ?_); refine uM rfl ?_; intro b_u2 wn zb zd ht za zg; have zf := B.size; have hsx := hX.size; replace B := B.trans (za.mono (by omega)); replace hX := hX.trans (za.mono (by omega)); try replace r1 := r1.be (za.mono zb)
    replace q1 := q1.be (za.mono zb)
    replace g2 := g2.be (za.mono zb)
    replace p2 := p2.be (za.mono zb)
    have u2 := ht; clear ht; refine hK _ _ ⟨fun _ => ⟨_, zC hX⟩, ?_⟩; clear hK K; simp only [zn]; refine qT (by kernel_rfl) (by kernel_rfl) ?_; simp only [List.drop_succ_cons, List.drop_zero]; go_wp2_with (first | (refine qF rfl _ _ rfl _ rfl _ rfl u2 (xV B (by omega) ?_); clear u2 B; intro wn u2 ze zf zg B; replace r1 := r1.cg ze; replace q1 := q1.cg ze; replace g2 := g2.cg ze; replace p2 := p2.cg ze; simp only [zn]) | fail)
    refine zI.normal ?_; go_wp2_with fail
    go_meet; exact ⟨_, rfl, u2, B, by omega, r1, q1, g2, p2⟩
   ·skip
    refine uM rfl ?_; intro b_u2 wn zb zd ht za zg; have zf := B.size; have hsx := hX.size; replace B := B.trans (za.mono (by omega)); replace hX := hX.trans (za.mono (by omega)); try replace r1 := r1.be (za.mono zb)
    replace q1 := q1.be (za.mono zb)
    replace g2 := g2.be (za.mono zb)
    replace p2 := p2.be (za.mono zb)
    have u2 := ht; clear ht; refine hK _ _ ⟨fun _ => ⟨_, zC hX⟩, ?_⟩; clear hK K; simp only [zn]; refine zU 3 rfl (by kernel_rfl) rfl (fun K hK => ?_); go_simp
    go_at_call 115
    refine (Jz _ (qh ls) q q' _ (HT.out _ B).2 hfl).mono ?_; rintro e wn ⟨rfl, za⟩; have zf := B.size; have zg := za.size; have hsx := hX.size; replace B := B.trans (za.mono B.size); replace hX := hX.trans (za.mono hX.size); try replace r1 := r1.be za
    replace q1 := q1.be za
    replace g2 := g2.be za
    replace p2 := p2.be za
    replace u2 := u2.be za
    refine hK _ _ ⟨fun _ => ⟨_, zC hX⟩, ?_⟩; clear hK K; simp only [zn]; refine qT (by kernel_rfl) (by kernel_rfl) ?_; simp only [List.drop_succ_cons, List.drop_zero]; go_wp2_with (first | (refine qF rfl _ _ rfl _ rfl _ rfl u2 (xV B (by omega) ?_); clear u2 B; intro wn u2 ze zf zg B; replace r1 := r1.cg ze; replace q1 := q1.cg ze; replace g2 := g2.cg ze; replace p2 := p2.cg ze; simp only [zn]) | fail)
    refine zI.normal ?_; go_wp2_with fail
    go_meet; exact ⟨_, rfl, u2, B, by omega, r1, q1, g2, p2⟩
  ·skip
   refine uM rfl ?_; intro b_u2 wn zb zd ht za zg; have zf := B.size; have hsx := hX.size; replace B := B.trans (za.mono (by omega)); replace hX := hX.trans (za.mono (by omega)); try replace r1 := r1.be (za.mono zb)
   replace q1 := q1.be (za.mono zb)
   replace g2 := g2.be (za.mono zb)
   replace p2 := p2.be (za.mono zb)
   have u2 := ht; clear ht; refine hK _ _ ⟨fun _ => ⟨_, zC hX⟩, ?_⟩; clear hK K; simp only [zn]; refine zU 1 rfl (by kernel_rfl) rfl (fun K hK => ?_); go_simp
   go_at_call 92
   refine ((HT.out _ B).1).mono ?_; rintro e wn ⟨rfl, za⟩; have zf := B.size; have zg := za.size; have hsx := hX.size; replace B := B.trans (za.mono B.size); replace hX := hX.trans (za.mono hX.size); try replace r1 := r1.be za
   replace q1 := q1.be za
   replace g2 := g2.be za
   replace p2 := p2.be za
   replace u2 := u2.be za
   refine hK _ _ ⟨fun _ => ⟨_, zC hX⟩, ?_⟩; clear hK K; simp only [zn]; refine zU 3 rfl (by kernel_rfl) rfl (fun K hK => ?_); go_simp
   go_at_call 115
   refine (Jz _ (qh ls) q q' _ (HT.out _ B).2 hfl).mono ?_; rintro e wn ⟨rfl, za⟩; have zf := B.size; have zg := za.size; have hsx := hX.size; replace B := B.trans (za.mono B.size); replace hX := hX.trans (za.mono hX.size); try replace r1 := r1.be za
   replace q1 := q1.be za
   replace g2 := g2.be za
   replace p2 := p2.be za
   replace u2 := u2.be za
   refine hK _ _ ⟨fun _ => ⟨_, zC hX⟩, ?_⟩; clear hK K; simp only [zn]; refine qT (by kernel_rfl) (by kernel_rfl) ?_; simp only [List.drop_succ_cons, List.drop_zero]; go_wp2_with (first | (refine qF rfl _ _ rfl _ rfl _ rfl u2 (xV B (by omega) ?_); clear u2 B; intro wn u2 ze zf zg B; replace r1 := r1.cg ze; replace q1 := q1.cg ze; replace g2 := g2.cg ze; replace p2 := p2.cg ze; simp only [zn]) | fail)
   refine zI.normal ?_; go_wp2_with fail
   go_meet; exact ⟨_, rfl, u2, B, by omega, r1, q1, g2, p2⟩
 case rest =>
  obtain ⟨b_u2, rfl, u2, B, hb2, r1, q1, g2, p2⟩ := hcut; go_wp2; refine jm 15 (by kernel_rfl) (by kernel_rfl) ?_; simp only [List.take_succ_cons, List.take_zero, List.drop_succ_cons, List.drop_zero]; repeat (first | go_big_quiet_skip | (go_big_quiet_want; first | ((first | refine qB ?_ | refine qC ?_); simp only [zn]; go_big_quiet_on) | (refine j4 rfl _ rfl (xT u2) ?_; simp only [zn]; go_big_quiet_on) | (refine qW rfl _ rfl (vx q1) ?_; simp only [zn]; go_big_quiet_on) | (go_big_quiet_op; first | go_big_quiet_on | go_big_quiet_call ((first | (go_at_call 117; exact zv (zil _ _ _ _ _)))))))
  refine wpQuiet_nil ?_; intro wn za; obtain ⟨zf, zg, B⟩ := zM B za; try replace g2 := g2.be za
  go_wp2_with (first | (refine qZ g2 B ?_; have g2o := g2; clear g2 B; intro wn g2 ze zf zg B; replace rs1 := rs1.chg g2o (by simp) ze) | (go_at_call 116; refine (zhi _ ls q q' _ _ (HS.out.be B) TK.out hn KK.out).mono ?_; rintro e wn ⟨v1, rfl, rs1, za⟩; obtain ⟨a1, c1, rfl, hc1⟩ := rs1.len; obtain ⟨zf, zg, B⟩ := zM B za; replace g2 := g2.be za) | fail)
  refine qO g2 ?_; refine ⟨_, by rw [e1.out]; try rfl, ?_, B⟩
  rw [e2.out]; exact rs1
theorem Zk (d : Nat) (f g : Nat → Px) (w : World) : ∀ is : List Nat, (∀ i ∈ is, i < 64) → (Op.eqItems (d + 2) 28 4 (qU f) (qU g) is).run Tryz.prog w = .ok (decide (∀ i ∈ is, f i = g i)) w
 | [], _ => by simp [Op.eqItems]
 | i :: is, h => by
  have hi : i < 64 := h i (by simp); simp only [Op.eqItems, Sem.run_bind, wG f i hi, wG g i hi, Result.andThen_ok, ZD d]; by_cases e : f i = g i
  ·simp [e, Zk d f g w is (fun j hj => h j (by simp [hj]))]
  ·simp [e]
theorem Zl (d : Nat) (f g : Nat → Px) (w : World) : (Op.equalIn (d + 3) 123 (Tile.v f) (Tile.v g)).run Tryz.prog w = .ok (wV f g) w := by
 obtain ⟨i, hi⟩ : ∃ i, Tryz.prog.info? 28 = some i := by
  cases h : Tryz.prog.info? 28 with
  | some i => exact ⟨i, rfl⟩
  | none =>
   have e : (Tryz.prog.info? 28).isSome = true := by kernel_rfl
   rw [h] at e; cases e
 unfold Tile.v
 refine (run_equalIn_array w (d + 2) (qU f) (qU g) underlying123 hi).trans ?_
 rw [JM, Zk d f g w _ (fun i hi => List.mem_range.1 hi)]
 rfl
theorem zab (w : World) : (sizeOf 95).run Tryz.prog w = .ok 2 w := by kernel_rfl
theorem zcr (w : World) : (sizeOf 123).run Tryz.prog w = .ok 256 w := by kernel_rfl
theorem Vw (e : TA) (w : World) : (Go.part 95 (xE e) 0).run Tryz.prog w = .ok (Ps.v e.x e.y) w := by
 unfold Go.part
 simp only [Sem.run_bind, isAgg95, Result.andThen_ok, if_true, zab, Sem.run_pure, Ps.v]
 congr 2
 apply Array.ext_getElem?
 intro k
 rw [Array.getElem?_extract]
 obtain ⟨x, y, t⟩ := e
 by_cases h : k < 2
 ·rw [if_pos (by rw [zP]; omega), Nat.zero_add, uc, if_pos h]
 ·rw [if_neg (by omega)]
  exact (Array.getElem?_eq_none (by simp; omega)).symm
theorem za5 (e : TA) (w : World) : (Go.part 123 (xE e) 2).run Tryz.prog w = .ok (Tile.v e.t) w := by
 unfold Go.part
 simp only [Sem.run_bind, isAgg123, Result.andThen_ok, if_true, zcr, Sem.run_pure, Tile.v]
 congr 2
 apply Array.ext_getElem?
 intro k
 rw [Array.getElem?_extract]
 by_cases h : k < 256
 ·rw [if_pos (by rw [zP]; omega), VX]
 ·rw [if_neg (by omega)]
  exact (Array.getElem?_eq_none (by rw [jN]; omega)).symm
def eqA (a b : TA) : Bool := yG a.x a.y b.x b.y && wV a.t b.t
theorem zbT : (Tryz.prog.fieldsOf 125).toList.map (fun f => (f.name == "_", f.type, f.offset)) = [(false, 95, 0), (false, 123, 2)] := by kernel_rfl
theorem WB (d : Nat) (a b : TA) (w : World) : (Op.equalIn (d + 4) 125 (.agg (xE a)) (.agg (xE b))).run Tryz.prog w = .ok (eqA a b) w := by
 rw [run_equalIn_struct w (d + 3) 125 (xE a) (xE b) (by kernel_rfl) (by kernel_rfl)]
 have hf := zbT
 generalize (Tryz.prog.fieldsOf 125).toList = fs at hf
 obtain ⟨f, fs, rfl, hf1, hf⟩ := List.map_eq_cons_iff.1 hf
 obtain ⟨g, fs, rfl, hf2, hf⟩ := List.map_eq_cons_iff.1 hf
 obtain rfl := List.map_eq_nil_iff.1 hf
 simp only [Prod.mk.injEq] at hf1 hf2
 obtain ⟨n1, t1, o1⟩ := hf1
 obtain ⟨n2, t2, o2⟩ := hf2
 have n1 : f.name ≠ "_" := by simpa using n1
 have n2 : g.name ≠ "_" := by simpa using n2
 have p1 := fun w => Vw a w
 simp only [Op.eqFields, n1, n2, t1, t2, o1, o2, ne_eq, not_false_eq_true, if_true, Sem.run_bind, Vw, za5, Result.andThen_ok, uI (d + 1), Zl d]
 unfold eqA
 cases h1 : yG a.x a.y b.x b.y <;> cases h2 : wV a.t b.t <;> simp [za5, Zl d, h1, h2]
theorem zhB (a b : TA) (w : World) : (binOp .neq 125 (.agg (xE a)) (.agg (xE b))).run Tryz.prog w = .ok (.bool (!eqA a b)) w := by
 have h := run_neq_struct (P := Tryz.prog) w 125 (xE a) (xE b)
 rw [h, WB 9996]; rfl
@[go_sem] theorem ziI (op : BinOp) (p q : Operand) (a b : TA) (w : World) : (eqGuard op 125 p q (.agg (xE a)) (.agg (xE b))).run Tryz.prog w = .ok () w := run_eqGuard_agg w op 125 p q _ _ (by kernel_rfl)
def eqL (ls ks : List TA) : Bool := decide (ls.length = ks.length) && decide (∀ i ∈ List.range ls.length, eqA (aT ls i) (aT ks i) = true)
theorem zfW {ls ks : List TA} (h : ¬ ls.length = ks.length) : eqL ls ks = false := by unfold eqL; rw [decide_eq_false h]; rfl
theorem zhq {ls ks : List TA} {j : Nat} (hj : j < ls.length) (h : eqA (aT ls j) (aT ks j) = false) : eqL ls ks = false := by
 unfold eqL
 rw [Bool.and_eq_false_iff]
 right
 exact zB fun e => by rw [e j (List.mem_range.2 hj)] at h; cases h
theorem zaI {ls ks : List TA} (h : ls.length = ks.length) (k : ∀ j, j < ls.length → eqA (aT ls j) (aT ks j) = true) : eqL ls ks = true := by
 unfold eqL
 rw [decide_eq_true h, Bool.true_and]
 exact zQ fun j hj => k j (List.mem_range.1 hj)
theorem zfM (v u : Value) (ls ks : List TA) (w : World) (h : RS v ls w) (h' : RS u ks w) (hn : ls.length ≤ maxLen) (hn' : ks.length ≤ maxLen) : Calls Tryz.prog 98 #[.agg #[v], .agg #[u]] w fun e w' => e = .returned (.bool (eqL ls ks)) ∧ Below w.heap.size w w' := by
 unfold maxLen at hn hn'
 obtain ⟨a, c, rfl, hc⟩ := h.len
 obtain ⟨a', c', rfl, hc'⟩ := h'.len
 have B := Below.refl w.heap.size w
 have HS := zo h
 have HS' := zo h'
 clear h h'
 by_cases hlen : ls.length = ks.length
 ·have HL := zo hlen
  obtain ⟨n, hnl⟩ : ∃ n, n = ls.length := ⟨_, rfl⟩; have e1 : ls.length = n := hnl.symm; have e2 : ks.length = n := by omega
  rw [e1, e2]; rw [e1] at hn hc; rw [e2] at hn' hc'; have E1 := zo e1; have E2 := zo e2; clear hlen hnl e1 e2; go_enter func98, ntmps98
  go_wp2_with (first | (refine zp (t := 62) rfl _ rfl _ _ _ rfl (zu r1.cell0) (by rfl) ?_; simp only [zn]) | (refine zp (t := 62) rfl _ rfl _ _ _ rfl (zu r2.cell0) (by rfl) ?_; simp only [zn]) | (have _ := r1; refine jd (t := 64) B ?_; clear B; intro b_r2 wn zb zd r2 za zf zk B; replace r1 := r1.be za) | (refine jd (t := 64) B ?_; clear B; intro b_r1 wn zb zd r1 za zf zk B) | fail)
  go_loopw [5] (fun i wr => ∃ k : Nat, k ≤ n ∧ i = .int .i64 k ∧ Below w.heap.size w wr ∧ zw 64 wr b_r1 #[.slice a n c] ∧ zw 64 wr b_r2 #[.slice a' n c'] ∧ ∀ j, j < k → eqA (aT ls j) (aT ks j) = true) (fun i _ => (n - intOf i).toNat)
  case atStart => exact ⟨0, by omega, rfl, B, r1, r2, fun j hj => by omega⟩
  case round =>
   clear B r1 r2; obtain ⟨k, hk, rfl, B, r1, r2, hst⟩ := hrel; have HST := zo hst; clear hst; by_cases hkn : k < n
   ·have hkl : k < ls.length := by rw [E1.out]; exact hkn
    have hkk : k < ks.length := by rw [E2.out]; exact hkn
    obtain ⟨g, o, rfl, rc0⟩ := (E1.out ▸ HS.out).at (by omega); obtain ⟨g', o', rfl, rd0⟩ := (E2.out ▸ HS'.out).at (by omega); have hg0 := rc0.lt; have hg1 := rd0.lt; have rc := rc0.of_eq (B.block _ rc0.lt); have rd := rd0.of_eq (B.block _ rd0.lt); clear rc0 rd0; obtain ⟨e, he⟩ : ∃ e, aT ls k = e := ⟨_, rfl⟩; obtain ⟨e', he'⟩ : ∃ e, aT ks k = e := ⟨_, rfl⟩; have hneq : ∀ w, (binOp .neq 125 (.agg (xE e)) (.agg (xE e'))).run Tryz.prog w = .ok (.bool (!eqA e e')) w := fun w => zhB _ _ w
    cases hq : eqA e e' with
    | true =>
     go_wp2_with (first | (refine zp (t := 62) rfl _ rfl _ _ _ rfl (zu r1.cell0) (by rfl) ?_; simp only [zn]) | (refine zp (t := 62) rfl _ rfl _ _ _ rfl (zu r2.cell0) (by rfl) ?_; simp only [zn]) | fail)
     refine zt (by kernel_rfl) (by kernel_rfl) ?_; repeat (first | go_big_quiet_skip | (go_big_quiet_want; first | (refine zq (fun w hw => xt (jJ rc w hw) hkl he) ?_; simp only [zn]; go_big_quiet_on) | (refine zq (fun w hw => xt (jJ rd w hw) hkk he') ?_; simp only [zn]; go_big_quiet_on) | ((first | refine qB ?_ | refine qC ?_); simp only [zn]; go_big_quiet_on) | (go_big_quiet_op; first | go_big_quiet_on | go_big_quiet_call ((fail)))))
     refine wpQuiet_nil ?_; intro wn za; obtain ⟨zf, zg, B⟩ := zM B za; try replace r1 := r1.be za
     replace r2 := r2.be za
     replace rc := rc.be za
     replace rd := rd.be za
     go_wp2; go_roundw
     case rel => exact ⟨k + 1, by omega, by go_num, B, r1, r2, fun j hj => by
      by_cases ej : j = k
      ·rw [ej, he, he', hq]
      ·exact HST.out j (by omega)⟩
     case measure => simp [intOf]; omega
    | false =>
     have EN := zo (zhq (ks := ks) hkl (by rw [he, he', hq])); go_wp2_with (first | (refine zp (t := 62) rfl _ rfl _ _ _ rfl (zu r1.cell0) (by rfl) ?_; simp only [zn]) | (refine zp (t := 62) rfl _ rfl _ _ _ rfl (zu r2.cell0) (by rfl) ?_; simp only [zn]) | fail)
     refine zt (by kernel_rfl) (by kernel_rfl) ?_; repeat (first | go_big_quiet_skip | (go_big_quiet_want; first | (refine zq (fun w hw => xt (jJ rc w hw) hkl he) ?_; simp only [zn]; go_big_quiet_on) | (refine zq (fun w hw => xt (jJ rd w hw) hkk he') ?_; simp only [zn]; go_big_quiet_on) | ((first | refine qB ?_ | refine qC ?_); simp only [zn]; go_big_quiet_on) | (go_big_quiet_op; first | go_big_quiet_on | go_big_quiet_call ((fail)))))
     refine wpQuiet_nil ?_; intro wn za; obtain ⟨zf, zg, B⟩ := zM B za; try replace r1 := r1.be za
     replace r2 := r2.be za
     go_wp2; go_ret; exact ⟨by rw [EN.out]; try rfl, B⟩
   ·have EY := zo (zaI HL.out (fun j hj => HST.out j (by have := E1.out; omega)))
    go_wp2_with (first | (refine zp (t := 62) rfl _ rfl _ _ _ rfl (zu r1.cell0) (by rfl) ?_; simp only [zn]) | (refine zp (t := 62) rfl _ rfl _ _ _ rfl (zu r2.cell0) (by rfl) ?_; simp only [zn]) | fail)
    go_ret; exact ⟨by rw [EY.out]; try rfl, B⟩
 ·rw [zfW hlen]
  have hne : ((ls.length : Int) != (ks.length : Int)) = true := by simp; omega
  clear hlen; go_enter func98, ntmps98
  go_wp2_with (first | (refine zp (t := 62) rfl _ rfl _ _ _ rfl (zu r1.cell0) (by rfl) ?_; simp only [zn]) | (refine zp (t := 62) rfl _ rfl _ _ _ rfl (zu r2.cell0) (by rfl) ?_; simp only [zn]) | (have _ := r1; refine jd (t := 64) B ?_; clear B; intro b_r2 wn zb zd r2 za zf zk B; replace r1 := r1.be za) | (refine jd (t := 64) B ?_; clear B; intro b_r1 wn zb zd r1 za zf zk B) | fail)
  go_ret; exact ⟨rfl, B⟩
theorem zfH (v u : Value) (ls ks : List TA) (w : World) (h : RS v ls w) (h' : RS u ks w) (tk : qQ ls) (tk' : qQ ks) (hn : ls.length ≤ maxLen) (hn' : ks.length ≤ maxLen) : Calls Tryz.prog 40 #[.agg #[v], .agg #[u]] w fun e w' => e = .returned (.bool (eqL (qh ls) (qh ks))) ∧ Below w.heap.size w w' := by
 have B := Below.refl w.heap.size w
 obtain ⟨a1, c1, hT⟩ := zbA v ls w h tk hn
 obtain ⟨a2, c2, hU⟩ := zbA u ks w h' tk' hn'
 have HT := zo hT
 have HU := zo hU
 clear hT hU
 obtain ⟨a, c, rfl, hc⟩ := h.len
 obtain ⟨a', c', rfl, hc'⟩ := h'.len
 have hf1 : (qh ls).length ≤ maxLen := by have := JQ ls; omega
 have hf2 : (qh ks).length ≤ maxLen := by have := JQ ks; omega
 clear h h' tk tk'
 go_enter func40, ntmps40
 go_wp2_with (first | (have _ := r1; refine jd (t := 64) B ?_; clear B; intro b_r2 wn zb zd r2 za zf zk B; replace r1 := r1.be za) | (refine jd (t := 64) B ?_; clear B; intro b_r1 wn zb zd r1 za zf zk B) | fail)
 refine zt (by kernel_rfl) (by kernel_rfl) ?_
 repeat (first | go_big_quiet_skip | (go_big_quiet_want; first | ((first | refine qB ?_ | refine qC ?_); simp only [zn]; go_big_quiet_on) | (go_big_quiet_op; first | go_big_quiet_on | go_big_quiet_call ((first | (go_at_call 98; exact zv (zfM _ _ _ _ _ (HT.out _ (vv B B.size _)).2 (HU.out _ (vv B B.size _)).2 hf1 hf2)) | (go_at_call 92; with_reducible exact zv (HT.out _ (vv B B.size _)).1) | (go_at_call 92; with_reducible exact zv (HU.out _ (vv B B.size _)).1))))))
 refine wpQuiet_nil ?_
 intro wn za
 obtain ⟨zf, zg, B⟩ := zM B za
 go_wp2
 go_ret
 exact ⟨rfl, B⟩
structure vH (c n : Nat) (w w' : World) : Prop where
 os : w'.os = w.os
 tape : w'.tape = w.tape
 output : w'.output = w.output
 size : n ≤ w'.heap.size
 grow : w.heap.size ≤ w'.heap.size
 block : ∀ k, k < n → k ≠ c → w'.heap[k]? = w.heap[k]?
theorem vH.refl (c : Nat) (w : World) : vH c w.heap.size w w := ⟨rfl, rfl, rfl, Nat.le_refl _, Nat.le_refl _, fun _ _ _ => rfl⟩
theorem vH.trans {c n : Nat} {w1 w2 w3 : World} (h : vH c n w1 w2) (k : Below n w2 w3) : vH c n w1 w3 :=
 ⟨k.os.trans h.os, k.tape.trans h.tape, k.output.trans h.output, Nat.le_trans h.size k.size, Nat.le_trans h.grow k.size, fun i hi hc => (k.block i hi).trans (h.block i hi hc)⟩
theorem vH.store {c n b : Nat} {w1 w2 w3 : World} (h : vH c n w1 w2) (k : qY b w2 w3) (hb : n ≤ b) : vH c n w1 w3 :=
 ⟨k.os.trans h.os, k.tape.trans h.tape, k.output.trans h.output, Nat.le_trans h.size k.size, Nat.le_trans h.grow k.size, fun i hi hc => (k.block i (Nat.lt_of_lt_of_le hi h.size) (by omega)).trans (h.block i hi hc)⟩
theorem vH.chg {c n : Nat} {w1 w2 w3 : World} (h : vH c n w1 w2) (k : qY c w2 w3) : vH c n w1 w3 :=
 ⟨k.os.trans h.os, k.tape.trans h.tape, k.output.trans h.output, Nat.le_trans h.size k.size, Nat.le_trans h.grow k.size, fun i hi hc => (k.block i (Nat.lt_of_lt_of_le hi h.size) hc).trans (h.block i hi hc)⟩
theorem vH.toChg {c : Nat} {w w' : World} (h : vH c w.heap.size w w') : qY c w w' := ⟨h.os, h.tape, h.output, h.grow, h.block⟩
theorem zgz (x y : Int) (u : Nat → Px) (i : Nat) (p : Px) (hi : i < 64) : ((((xE ⟨x, y, u⟩).setIfInBounds (2 + i * 4) (.int .u8 p.r)).setIfInBounds (2 + i * 4 + 1) (.int .u8 p.g)).setIfInBounds (2 + i * 4 + 2) (.int .u8 p.b)).setIfInBounds (2 + i * 4 + 3) (.int .u8 p.a) = xE ⟨x, y, ZP u i p⟩ := by
 apply Array.ext_getElem?
 intro k
 rw [uc, ← X9 u i p hi]
 by_cases h2 : k < 2
 ·rw [if_pos h2]
  rw [Array.getElem?_setIfInBounds, if_neg (by omega), Array.getElem?_setIfInBounds, if_neg (by omega), Array.getElem?_setIfInBounds, if_neg (by omega), Array.getElem?_setIfInBounds, if_neg (by omega), uc, if_pos h2]
 ·rw [if_neg h2]
  have hs : (xE ⟨x, y, u⟩).size = 258 := zP _; have ht : (qU u).size = 256 := jN _; simp only [Array.getElem?_setIfInBounds, Array.size_setIfInBounds, hs, ht, uc, if_neg h2]; have e : ∀ j, (2 + i * 4 + j = k) ↔ (i * 4 + j = k - 2) := fun j => by omega
  by_cases c3 : 2 + i * 4 + 3 = k
  ·rw [if_pos c3, if_pos ((e 3).1 c3), if_pos (by omega), if_pos (by omega)]
  ·rw [if_neg c3, if_neg (fun h => c3 ((e 3).2 h))]
   by_cases c2 : 2 + i * 4 + 2 = k
   ·rw [if_pos c2, if_pos ((e 2).1 c2), if_pos (by omega), if_pos (by omega)]
   ·rw [if_neg c2, if_neg (fun h => c2 ((e 2).2 h))]
    by_cases c1 : 2 + i * 4 + 1 = k
    ·rw [if_pos c1, if_pos ((e 1).1 c1), if_pos (by omega), if_pos (by omega)]
    ·rw [if_neg c1, if_neg (fun h => c1 ((e 1).2 h))]
     by_cases c0 : 2 + i * 4 = k
     ·rw [if_pos c0, if_pos (by omega), if_pos (by omega), if_pos (by omega)]
     ·rw [if_neg c0, if_neg (by omega)]
theorem XF {w : World} {b i : Nat} {x y : Int} {u : Nat → Px} (h : zw 125 w b (xE ⟨x, y, u⟩)) (hi : i < 64) (p : Px) : (Instr.storeAt 28 (.pointer (some ⟨b, 2 + i * 4, none⟩)) (Px.v p)).run Tryz.prog w =
  .ok () ((((w.setCell ⟨b, 2 + i * 4, none⟩ (.int .u8 p.r)).setCell ⟨b, 2 + i * 4 + 1, none⟩ (.int .u8 p.g)).setCell ⟨b, 2 + i * 4 + 2, none⟩ (.int .u8 p.b)).setCell ⟨b, 2 + i * 4 + 3, none⟩ (.int .u8 p.a)) := by
 have hc : ∀ j, j < 4 → w.cell? ⟨b, 2 + i * 4 + j, none⟩ = (qU u)[i * 4 + j]? := fun j hj => by
  rw [(qf h).1, uc, if_neg (by omega), show 2 + i * 4 + j - 2 = i * 4 + j by omega]
 have c0 := (hc 0 (by omega)).trans (yB u i 0 hi (by omega))
 have c1 := (hc 1 (by omega)).trans (yB u i 1 hi (by omega))
 have c2 := (hc 2 (by omega)).trans (yB u i 2 hi (by omega))
 have c3 := (hc 3 (by omega)).trans (yB u i 3 hi (by omega))
 have hf := fun j => h.frozen j
 rw [Nat.add_zero] at c0
 simp [go_sem, c0, c1, c2, c3, hf, Px.v]
theorem zw.set4 {w : World} {b i : Nat} {x y : Int} {u : Nat → Px} (h : zw 125 w b (xE ⟨x, y, u⟩)) (hi : i < 64) (p : Px) :
  zw 125 ((((w.setCell ⟨b, 2 + i * 4, none⟩ (.int .u8 p.r)).setCell ⟨b, 2 + i * 4 + 1, none⟩ (.int .u8 p.g)).setCell ⟨b, 2 + i * 4 + 2, none⟩ (.int .u8 p.b)).setCell ⟨b, 2 + i * 4 + 3, none⟩ (.int .u8 p.a)) b (xE ⟨x, y, ZP u i p⟩) := by
 unfold zw
 rw [← zgz x y u i p hi]
 exact heap_setCell_same _ _ _ _ _ _ (heap_setCell_same _ _ _ _ _ _ (heap_setCell_same _ _ _ _ _ _ (heap_setCell_same _ _ _ _ _ _ h)))
theorem Q7 {ops : Array Oper} {rest : List Oper} {o : Oper} {a : Act} {w : World} {Q : Exit → Act → World → Prop} (hg : o.guard = none) (x y : Operand) (ho : o.op = .store 28 x y) (b j : Nat) (hx : a.eval x = .pointer (some ⟨b, j, none⟩)) (q : Px) (hy : a.eval y = Px.v q) {px py : Int} {u : Nat → Px} (ht : zw 125 w b (xE ⟨px, py, u⟩)) (i : Nat) (hi : i < 64) (hj : j = 2 + i * 4)
  (h : ∀ w', zw 125 w' b (xE ⟨px, py, ZP u i q⟩) → qY b w w' → w'.heap.size = w.heap.size → wpList Tryz.prog ops Q rest (a.put o.dst undef) w') : wpList Tryz.prog ops Q (o :: rest) a w := by
 subst hj
 refine qj hg x y ho _ ?_ (h _ (ht.set4 hi q) (((((qY.refl b w).setCell _).setCell _).setCell _).setCell _) (by simp only [World.size_setCell]))
 rw [hx, hy]
 exact XF ht hi q
def yM {σ : Type} (F : σ → Int → Int → Px → σ × Px) (e : TA) : Nat → σ → σ × (Nat → Px)
 | 0, s => (s, e.t)
 | k + 1, s => ((F (yM F e k s).1 (e.x * 8 + (k : Int) % 8) (e.y * 8 + (k : Int) / 8) (e.t k)).1, ZP (yM F e k s).2 k (F (yM F e k s).1 (e.x * 8 + (k : Int) % 8) (e.y * 8 + (k : Int) / 8) (e.t k)).2)
def vm {σ : Type} (F : σ → Int → Int → Px → σ × Px) (ls : List TA) (s : σ) : Nat → σ × List TA
 | 0 => (s, [])
 | k + 1 => ((yM F (aT ls k) 64 (vm F ls s k).1).1, (vm F ls s k).2 ++ jr (aT ls k).x (aT ls k).y (yM F (aT ls k) 64 (vm F ls s k).1).2)
theorem Vp {σ : Type} (F : σ → Int → Int → Px → σ × Px) (ls : List TA) (s : σ) (k : Nat) : (vm F ls s k).2.length ≤ k := by
 induction k with
 | zero => exact Nat.le_refl _
 | succ k ih =>
  show ((vm F ls s k).2 ++ jr _ _ _).length ≤ _
  rw [List.length_append]; have := QP (aT ls k).x (aT ls k).y (yM F (aT ls k) 64 (vm F ls s k).1).2; omega
theorem VL {σ : Type} {F : σ → Int → Int → Px → σ × Px} (hF : ∀ s x y p, p.ok → (F s x y p).2.ok) {e : TA} (h : Qq e.t) (s : σ) : ∀ k, k ≤ 64 → Qq (yM F e k s).2
 | 0, _ => h
 | k + 1, hk => fun i hi => by
  show (ZP _ k _ i).ok
  unfold ZP; split
  ·exact hF _ _ _ _ (h k (by omega))
  ·exact VL hF h s k (by omega) i hi
theorem xU.ownlt {B : Nat} {v : Value} {ls : List TA} {w : World} (h : xU B v ls w) : ∀ k, v.ownBlock = some k → k < w.heap.size := by
 intro k hk
 obtain ⟨_, h2⟩ := h
 rcases h2 with ⟨rfl, h0⟩ | ⟨g, cap, cur, rfl, hb, hg, _⟩
 ·cases hk
 ·have e : some g = some k := hk
  injection e with e
  subst e; exact (Array.getElem?_eq_some_iff.1 hg).1
theorem xU.chgN {B b : Nat} {v : Value} {ls : List TA} {w w' : World} (h : xU B v ls w) (hc : qY b w w') (hne : ∀ k, v.ownBlock = some k → k ≠ b) : xU B v ls w' := by
 refine World.ownsRow.kept (row := some b) h ⟨hc.os, hc.tape, hc.output, hc.size, fun k hk hn => hc.block k hk (fun e => hn (by rw [e]))⟩ ?_
 cases hv : v.ownBlock with
 | none => exact .inl rfl
 | some k =>
  right
  intro e
  injection e with e
  exact hne k hv e
theorem KM {σ : Type} (F : σ → Int → Int → Px → σ × Px) (I : σ → World → Prop) (cb gf : Nat) (lb : Array Value) (eg : Enters Tryz.prog gf) (v : Value) (ls : List TA) (s0 : σ) (w : World) (hs : RS v ls w) (tk : qQ ls) (hn : ls.length ≤ 2000) (hpos : ∀ e ∈ ls, qo e.x e.y = true)
  (hcb : cb < w.heap.size) (hsep : 0 < ls.length → v.ownBlock ≠ some cb) (hI0 : I s0 w)
  (hIb : ∀ s W W', I s W → (∀ k, k < w.heap.size → W'.heap[k]? = W.heap[k]?) → I s W')
  (hF : ∀ (s : σ) (W : World) (x y : Int) (p : Px), w.heap.size ≤ W.heap.size → I s W → -65536 ≤ x → x ≤ 65535 → -65536 ≤ y → y ≤ 65535 → p.ok →
   Calls Tryz.prog gf (#[.int .i64 x, .int .i64 y, Px.v p] ++ lb) W fun e W' => e = .returned (Px.v (F s x y p).2) ∧ I (F s x y p).1 W' ∧ qY cb W W')
  (hok : ∀ s x y p, p.ok → (F s x y p).2.ok) :
  Calls Tryz.prog 126 #[v, .func (.func gf) #[] lb] w fun e w' => ∃ v', e = .returned v' ∧ xU w.heap.size v' (vm F ls s0 ls.length).2 w' ∧ I (vm F ls s0 ls.length).1 w' ∧ qY cb w w' := by
 have eg' : ∀ args w, (callFunc gf args).run Tryz.prog w = .ok (.enter gf args) w := eg
 obtain ⟨a, c, rfl, hc⟩ := hs.len
 have HS := zo hs
 have HK := zo tk
 have HP := zo hpos
 have HF := zo hF
 have HI := zo hIb
 have HO := zo hok
 have SEP := zo hsep
 have B := vH.refl cb w
 have od := xU.nil w.heap.size w
 have hI := hI0
 clear hs tk hpos hF hIb hok hI0 hsep
 go_enter func126, ntmps126
 go_wp2
 go_loopw [5, 7, 8, 9, 12] (fun out _ _ _ i wr => ∃ (k : Nat) (a5 : Option Addr) (n5 c5 : Nat), k ≤ ls.length ∧ i = .int .i64 k ∧ out = .slice a5 n5 c5 ∧ n5 = (vm F ls s0 k).2.length ∧ vH cb w.heap.size w wr ∧ xU w.heap.size (.slice a5 n5 c5) (vm F ls s0 k).2 wr ∧ I (vm F ls s0 k).1 wr) (fun _ _ _ _ i _ => (ls.length - intOf i).toNat)
 case atStart => exact ⟨0, none, 0, 0, by omega, rfl, rfl, rfl, B, od, hI⟩
 case round =>
  clear B od hI; obtain ⟨k, a5, n5, c5, hk, rfl, rfl, hn5, B, od, hI⟩ := hrel; have HN5 := zo hn5; clear hn5; have hml := Vp F ls s0 k; obtain ⟨⟨s, acc⟩, hsm⟩ : ∃ m, vm F ls s0 k = m := ⟨_, rfl⟩; rw [hsm] at od hI hml; have HN5' := zo (show n5 = acc.length from by have := HN5.out; rw [hsm] at this; exact this)
  have HSM := zo hsm; clear hsm HN5; have od : xU w.heap.size (.slice a5 n5 c5) acc _ := od; have hI : I s _ := hI; have hml : acc.length ≤ k := hml; by_cases hkl : k < ls.length
  ·obtain ⟨gg, o, rfl, rc0⟩ := HS.out.at (by omega)
   have hg0 := rc0.lt; have hgc : gg ≠ cb := fun e => (SEP.out (by omega)) (by rw [e]; rfl)
   have rc := rc0.of_eq (B.block _ rc0.lt hgc); clear rc0; obtain ⟨⟨x, y, t⟩, he⟩ : ∃ e, aT ls k = e := ⟨_, rfl⟩; have htk : Qq t := by have := HK.out.at hkl; rw [he] at this; exact this
   have hT := zo htk; have hw := HP.out _ (List.mem_iff_getElem?.2 ⟨k, vK hkl⟩); rw [he] at hw; have hw := of_decide_eq_true hw; obtain ⟨w1, w2, w3, w4⟩ := hw; have HOB := zo od.ownlt; have hsz0 := B.size; go_wp2_with (first | (refine zp (t := 123) rfl _ rfl _ _ _ rfl (jj t1) (by first | rfl | omega) ?_; simp only [zn]) | (refine zZ (t := 125) rfl _ _ rfl _ rfl _ rfl t1 (by rw [zP]; kernel_rfl) (by simp only [zP, jz]) (xK _) ?_; clear t1; intro wn ht ze zg; have zf := B.size; replace zg := Nat.le_of_eq zg.symm; replace B := vH.store B ze (by omega); replace hI := HI.out _ _ _ hI (fun k hk => ze.block k (by omega) (by omega)); replace od := od.chgN ze (fun kk hkk => Nat.ne_of_lt (Nat.lt_of_lt_of_le (HOB.out kk hkk) (by omega))); have t1 := ht; clear ht; simp only [zn]) | (refine jp (t := 125) rfl _ (qX _ _ rfl) ?_; intro b_t1 wn zb zd ht za zg; have zf := B.size; replace B := B.trans (za.mono (by omega)); replace hI := HI.out _ _ _ hI (fun k hk => za.block k (by omega)); have zk := zln zg; clear zg; replace od := od.be (za.mono zb); have t1 := ht; clear ht; simp only [zn]) | (refine zp (t := 125) rfl _ rfl _ _ _ rfl (xt rc hkl he) (by first | rfl | omega) ?_; simp only [zn]) | fail)
   have hb1 := zb; have hmul1 : (2 : Nat) ≤ 2 := Nat.le_refl _; go_loopw [8, 9, 18] (fun _ _ j wx => ∃ i : Nat, i ≤ 64 ∧ j = .int .i64 i ∧ vH cb w.heap.size w wx ∧ b_t1 < wx.heap.size ∧ zw 125 wx b_t1 (xE ⟨x, y, (yM F ⟨x, y, t⟩ i s).2⟩) ∧ xU w.heap.size (.slice a5 n5 c5) acc wx ∧ I (yM F ⟨x, y, t⟩ i s).1 wx) (fun _ _ j _ => (64 - intOf j).toNat)
   case atStart => exact ⟨0, by omega, rfl, B, t1.lt, t1, od, hI⟩
   case round =>
    clear B t1 od hI; obtain ⟨i, hi, rfl, B, hbl, t1, od, hI⟩ := hrel; by_cases hil : i < 64
    ·have hix := JU t i hil
     have hpk : (t i).ok := hT.out i hil; have d8 : (0 : Int) ≤ (i : Int) % 8 ∧ (i : Int) % 8 < 8 := by omega
     have d9 : (0 : Int) ≤ (i : Int) / 8 ∧ (i : Int) / 8 < 8 := by omega
     obtain ⟨u, hu⟩ : ∃ u, yM F ⟨x, y, t⟩ i s = u := ⟨_, rfl⟩; rw [hu] at t1 hI; have HU := zo hu; clear hu; go_wp2_with (first | (refine Q7 rfl _ _ rfl _ _ rfl (_) rfl t1 (i) (hil) (by first | rfl | omega) ?_; clear t1; intro wn ht ze zg; have zf := B.size; replace zg := Nat.le_of_eq zg.symm; replace B := vH.store B ze (by omega); replace hI := HI.out _ _ _ hI (fun k hk => ze.block k (by omega) (by omega)); replace od := od.chgN ze (fun kk hkk => Nat.ne_of_lt (Nat.lt_of_lt_of_le (HOB.out kk hkk) (by omega))); have t1 := ht; clear ht; simp only [zn]) | (go_at_fn gf; refine (HF.out _ _ _ _ _ (by omega) hI (by omega) (by omega) (by omega) (by omega) hpk).mono ?_; rintro e' wn ⟨rfl, hI, hcc⟩; have zf := B.size; have zg := hcc.size; replace B := B.chg hcc; replace t1 := t1.of_eq (hcc.block _ t1.lt (by omega)); replace od := od.chg hcc hcb) | (refine zp (t := 3) rfl _ rfl _ _ _ rfl (qt (t1.cell 0 (Yg _))) (by first | rfl | omega) ?_; simp only [zn]) | (refine zp (t := 3) rfl _ rfl _ _ _ rfl (qt (t1.cell 1 (VY _))) (by first | rfl | omega) ?_; simp only [zn]) | (refine j5 rfl _ rfl _ rfl q1 ?_; simp only [zn]) | (refine z2 rfl _ _ rfl _ rfl (_) rfl q1 ?_; clear q1; intro wn ht ze zg; have zf := B.size; replace zg := Nat.le_of_eq zg.symm; replace B := vH.store B ze (by omega); replace hI := HI.out _ _ _ hI (fun k hk => ze.block k (by omega) (by omega)); replace od := od.chgN ze (fun kk hkk => Nat.ne_of_lt (Nat.lt_of_lt_of_le (HOB.out kk hkk) (by omega))); replace t1 := t1.cg ze; have q1 := ht; clear ht; simp only [zn]) | (refine qA rfl rfl ?_; intro b_q1 wn zb zd ht za zg; have zf := B.size; replace B := B.trans (za.mono (by omega)); replace hI := HI.out _ _ _ hI (fun k hk => za.block k (by omega)); have zk := zln zg; clear zg; replace od := od.be (za.mono zb); replace t1 := t1.be (za.mono zb); have q1 := ht; clear ht; simp only [zn]) | fail)
     go_roundw
     case rel => exact ⟨i + 1, by omega, by go_num, B, by have := t1.lt; omega, by show zw _ _ _ (xE ⟨x, y, ZP (yM F ⟨x, y, t⟩ i s).2 i (F (yM F ⟨x, y, t⟩ i s).1 (x * 8 + (i : Int) % 8) (y * 8 + (i : Int) / 8) (t i)).2⟩); rw [HU.out]; exact t1, od, by show I (F (yM F ⟨x, y, t⟩ i s).1 (x * 8 + (i : Int) % 8) (y * 8 + (i : Int) / 8) (t i)).1 _; rw [HU.out]; exact hI⟩
     case measure => simp [intOf]; omega
    ·obtain rfl : i = 64 := by omega
     obtain ⟨⟨s', u⟩, hu⟩ : ∃ u, yM F ⟨x, y, t⟩ 64 s = u := ⟨_, rfl⟩; have hut : Qq u := by have := VL (e := ⟨x, y, t⟩) HO.out hT.out s 64 (Nat.le_refl _); rw [hu] at this; exact this
     rw [hu] at t1 hI; have HU := zo hu; clear hu; have t1 : zw 125 _ b_t1 (xE ⟨x, y, u⟩) := t1; have hI : I s' _ := hI; have es := zo (show vm F ls s0 (k + 1) = (s', acc ++ jr x y u) from by
      show ((yM F (aT ls k) 64 (vm F ls s0 k).1).1, (vm F ls s0 k).2 ++ jr (aT ls k).x (aT ls k).y (yM F (aT ls k) 64 (vm F ls s0 k).1).2) = _
      rw [HSM.out, he, HU.out])
     cases hz : ju u with
     | true =>
      have HN := zo (show jr x y u = [] from by unfold jr; rw [hz]; rfl)
      go_wp2_with (first | (go_at_call 100; refine (yS _ _ hut).mono ?_; rintro e wn ⟨rfl, za⟩; have zf := B.size; have zg := za.size; replace B := B.trans (za.mono B.size); replace hI := HI.out _ _ _ hI (fun k hk => za.block k (by omega)); replace t1 := t1.be za; replace od := od.be za) | (refine zp (t := 123) rfl _ rfl _ _ _ rfl (jj t1) (by first | rfl | omega) ?_; simp only [zn]) | fail)
      go_roundw
      case rel => exact ⟨k + 1, _, _, _, by omega, by go_num, rfl, by rw [es.out, HN.out]; simp [HN5'.out], B, by rw [es.out, HN.out]; simpa using od, by rw [es.out]; exact hI⟩
      case measure => simp [intOf]; omega
     | false =>
      have HN := zo (show jr x y u = [⟨x, y, u⟩] from by unfold jr; rw [hz]; rfl)
      have hlen : acc.length + 1 ≤ 100000 := by omega
      have hn5 := HN5'.out; clear HN5'; subst hn5; go_wp2_with (first | (at_builtin; refine qq rfl _ _ rfl _ _ rfl rfl od ((RS.one s1)) (by simp only [List.length_cons, List.length_nil]; omega) (by omega) ?_; intro v_od wn ht za; have zf := B.size; have zg := za.size; replace B := B.trans (za.mono (by omega)); replace hI := HI.out _ _ _ hI (fun k hk => za.block k (by omega)); clear od; have od := ht; clear ht; obtain ⟨a_od, c_od, hv, hco⟩ := od.len; (try simp only [List.length_append, List.length_cons, List.length_nil, Nat.zero_add] at hv hco); subst hv; simp only [zn]) | (refine jU rfl _ rfl ⟨x, y, u⟩ (by rfl) ?_; intro b_s1 wn zb zd ht za zg; have zf := B.size; replace B := B.trans (za.mono (by omega)); replace hI := HI.out _ _ _ hI (fun k hk => za.block k (by omega)); have zk := zln zg; clear zg; replace od := od.be (za.mono zb); have s1 := ht; clear ht; simp only [zn]) | (refine zp (t := 125) rfl _ rfl _ _ _ rfl (qE t1 isAgg125 (zbf _)) (by rfl) ?_; simp only [zn]) | (go_at_call 100; refine (yS _ _ hut).mono ?_; rintro e wn ⟨rfl, za⟩; have zf := B.size; have zg := za.size; replace B := B.trans (za.mono B.size); replace hI := HI.out _ _ _ hI (fun k hk => za.block k (by omega)); replace t1 := t1.be za; replace od := od.be za) | (refine zp (t := 123) rfl _ rfl _ _ _ rfl (jj t1) (by first | rfl | omega) ?_; simp only [zn]) | fail)
      go_roundw
      case rel => exact ⟨k + 1, _, _, _, by omega, by go_num, rfl, by rw [es.out, HN.out]; simp, B, by rw [es.out, HN.out]; exact od, by rw [es.out]; exact hI⟩
      case measure => simp [intOf]; omega
  ·obtain rfl : k = ls.length := by omega
   go_wp2; go_ret; exact ⟨_, rfl, by rw [HSM.out]; exact od, by rw [HSM.out]; exact hI, B.toChg⟩
def jP (r : Rc) : Array Value := #[.int .i64 r.x0, .int .i64 r.y0, .int .i64 r.x1, .int .i64 r.y1]
def zho (s : Rc) (x y : Int) (p : Px) : Rc × Px := (if 0 < p.a then yx s ⟨x, y, x + 1, y + 1⟩ else s, p)
def zjc (ls : List TA) : Rc := (vm zho ls Rc.zero ls.length).1
def ziw (c : Rc) (s : Unit) (x y : Int) (p : Px) : Unit × Px := ((), if jx c x y = true then p else Px.zero)
def zjJ (c : Rc) (ls : List TA) : List TA := (vm (ziw c) ls () ls.length).2
theorem W8 {v : Value} {ls : List TA} {w : World} (h : RS v ls w) {cb : Nat} (hc : w.heap.size ≤ cb) : 0 < ls.length → v.ownBlock ≠ some cb := by
 intro hn e
 rcases h with ⟨rfl, rfl⟩ | ⟨g, o, c, rfl, _, sc⟩
 ·exact absurd hn (by decide)
 ·have e : some g = some cb := e
  injection e with e
  have := (sc hn).lt; omega
theorem zdZ (ls : List TA) : ∀ e ∈ qh ls, qo e.x e.y = true := fun e he => by
 have := vR (jB ls) e he
 unfold vf at this
 exact (Bool.and_eq_true_iff.1 this).1
theorem X8 {σ : Type} (F : σ → Int → Int → Px → σ × Px) (e : TA) (s : σ) : ∀ k j, k ≤ j → (yM F e k s).2 j = e.t j
 | 0, _, _ => rfl
 | k + 1, j, h => by
  show ZP _ k _ j = _
  unfold ZP; rw [if_neg (by omega)]; exact X8 F e s k j (by omega)
theorem zfb (u : Nat → Px) (k : Nat) (p : Px) (h : u k = p) : ZP u k p = u := by
 funext j
 unfold ZP
 by_cases e : j = k
 ·rw [if_pos e, e, h]
 ·rw [if_neg e]
structure Xz (α : Type) (k : Nat) (T ST : TypeId) where
 enc : α → Array Value
 bytes : Nat
 zero : α
 size : ∀ x, (enc x).size = k
 one : ∀ x, ∀ u ∈ (enc x).toList, u.oneCell' = true
 pos : 0 < k
 small : bytes ≤ 1000
 und : Tryz.prog.underlying ST = some (.slice T)
 info : (Tryz.prog.info? T).map (fun i => (i.size, i.bytes)) = some (k, bytes)
 zer : ((Tryz.prog.info? T).bind (·.zero)).map Value.cells = some (enc zero)
section
variable {α : Type} {k : Nat} {T ST : TypeId} (E : Xz α k T ST)
theorem Xz.facts : ∃ i z, Tryz.prog.info? T = some i ∧ i.zero = some z ∧ i.size = k ∧ i.bytes = E.bytes ∧ z.cells = E.enc E.zero := by
 have h1 := E.info
 have h2 := E.zer
 cases hi : Tryz.prog.info? T with
 | none => rw [hi] at h1; cases h1
 | some i =>
  rw [hi] at h1 h2; cases hz : i.zero with
  | none => simp [hz] at h2
  | some z =>
   simp [hz] at h1 h2
   exact ⟨i, z, rfl, hz, h1.1, h1.2, h2⟩
def xO : List α → List Value
 | [] => []
 | e :: r => (E.enc e).toList ++ xO r
theorem QT (a b : List α) : xO E (a ++ b) = xO E a ++ xO E b := by
 induction a with
 | nil => rfl
 | cons e r ih => rw [List.cons_append]; show _ ++ xO E (r ++ b) = _; rw [ih]; show _ = (_ ++ _) ++ _; rw [List.append_assoc]
theorem x5 (ls : List α) : (xO E ls).length = ls.length * k := by
 induction ls with
 | nil => simp [xO]
 | cons e r ih => show ((E.enc e).toList ++ xO E r).length = _; rw [List.length_append, ih, Array.length_toList, E.size, List.length_cons, Nat.succ_mul]; omega
theorem Qb (ls : List α) : ∀ i x, ls[i]? = some x → ∀ j, j < k → (xO E ls)[i * k + j]? = (E.enc x)[j]? := by
 induction ls with
 | nil => intro i x hi; simp at hi
 | cons e r ih =>
  intro i x hi j hj; show ((E.enc e).toList ++ xO E r)[i * k + j]? = _
  cases i with
  | zero =>
   have hx : e = x := by simpa using hi
   rw [List.getElem?_append_left (by rw [Array.length_toList, E.size]; omega), Array.getElem?_toList, Nat.zero_mul, Nat.zero_add, hx]
  | succ i =>
   rw [List.getElem?_append_right (by rw [Array.length_toList, E.size, Nat.succ_mul]; omega), Array.length_toList, E.size, show (i + 1) * k + j - k = i * k + j by rw [Nat.succ_mul]; omega, ih i x (by simpa using hi) j hj]
theorem Qc (ls : List α) : ∀ u ∈ xO E ls, u.oneCell' = true := by
 induction ls with
 | nil => intro u hu; cases hu
 | cons e r ih =>
  intro u hu; rcases List.mem_append.1 hu with hu | hu
  ·exact E.one e u hu
  ·exact ih u hu
theorem ZB {k j n : Nat} (hk : 0 < k) (h : j < n * k) : j / k < n ∧ j % k < k ∧ j = (j / k) * k + j % k := by
 refine ⟨Nat.div_lt_of_lt_mul (by rw [Nat.mul_comm]; exact h), Nat.mod_lt _ hk, ?_⟩
 rw [Nat.mul_comm]
 exact (Nat.div_add_mod j k).symm
def zH (g o : Nat) (ls : List α) (w : World) : Prop := g < w.heap.size ∧ ∀ i x, ls[i]? = some x → ∀ j, j < k → w.cell? ⟨g, o + (i * k + j), none⟩ = (E.enc x)[j]?
section
variable {E} {g o : Nat} {ls : List α} {w w' : World}
theorem zH.lt (h : zH E g o ls w) : g < w.heap.size := h.1
theorem zH.of_eq (h : zH E g o ls w) (e : w'.heap[g]? = w.heap[g]?) : zH E g o ls w' := by
 refine ⟨?_, fun i x hi j hj => ?_⟩
 ·have := h.1
  rcases Nat.lt_or_ge g w'.heap.size with k | k
  ·exact k
  ·rw [Array.getElem?_eq_none k, Array.getElem?_eq_getElem this] at e
   cases e
 ·rw [World.cell?_of_block (w := w) e]
  exact h.2 i x hi j hj
theorem zH.be {α : Type} {k : Nat} {T ST : TypeId} {E : Xz α k T ST} {g o : Nat} {ls : List α} {w w' : World} (h : zH E g o ls w) (e : Below w.heap.size w w') : zH E g o ls w' := h.of_eq (e.block _ h.lt)
theorem zH.cg {α : Type} {k : Nat} {T ST : TypeId} {E : Xz α k T ST} {g o : Nat} {ls : List α} {w w' : World} (h : zH E g o ls w) {zc : Nat} (e : qY zc w w') (hn : g ≠ zc := by omega) : zH E g o ls w' := h.of_eq (e.block _ h.lt hn)
theorem zH.drop (h : zH E g o ls w) (n : Nat) : zH E g (o + n * k) (ls.drop n) w :=
 ⟨h.1, fun i x hi j hj => by
  rw [List.getElem?_drop] at hi; have := h.2 (n + i) x hi j hj; rw [Nat.add_mul] at this; rw [← this]
  congr 2
  omega⟩
theorem zH.take (h : zH E g o ls w) (n : Nat) : zH E g o (ls.take n) w :=
 ⟨h.1, fun i x hi j hj => by
  rw [List.getElem?_take] at hi; split at hi
  ·exact h.2 i x hi j hj
  ·cases hi⟩
theorem zH.row (h : zH E g o ls w) (j : Nat) (u : Value) (hu : (xO E ls)[j]? = some u) : w.cell? ⟨g, o + j, none⟩ = some u := by
 have hj : j < ls.length * k := by rw [← x5 E]; exact (List.getElem?_eq_some_iff.1 hu).1
 obtain ⟨h1, h2, h3⟩ := ZB E.pos hj
 have hx : ls[j / k]? = some ls[j / k] := List.getElem?_eq_getElem h1
 rw [h3, Qb E ls _ _ hx _ h2] at hu
 have := h.2 _ _ hx _ h2
 rw [hu, ← h3] at this
 exact this
theorem zH.load (h : zH E g o ls w) (hagg : ∀ w : World, (isAgg T).run Tryz.prog w = .ok true w) {i : Nat} {x : α} (hi : ls[i]? = some x) : (Instr.loadAt T (.pointer (some ⟨g, o + i * k, none⟩))).run Tryz.prog w = .ok (.agg (E.enc x)) w := by
 obtain ⟨f, z, hf, _, hs, _, _⟩ := E.facts
 simp only [Instr.loadAt, Instr.sureAddr, Sem.run_bind, Sem.run_pure, Result.andThen_ok]
 have hl : (loadCells ⟨g, o + i * k, none⟩ (E.enc x).toList.length).run Tryz.prog w = .ok (E.enc x).toList.toArray w :=
  run_loadCells_list (P := Tryz.prog) w ⟨g, o + i * k, none⟩ (E.enc x).toList (fun j v hv => by
   have hadd : (⟨g, o + i * k, none⟩ : Addr).add j = ⟨g, o + i * k + j, none⟩ := by unfold Addr.add; split <;> simp_all
   have hj : j < k := by
    have := (List.getElem?_eq_some_iff.1 hv).1; rw [Array.length_toList, E.size] at this; exact this
   rw [hadd, Nat.add_assoc, h.2 i x hi j hj]
   simpa using hv)
 rw [Array.length_toList, E.size] at hl
 simp only [Array.toArray_toList] at hl
 simp only [loadVar, Sem.run_bind, hagg w, sizeOf, typeInfo, hf, hs, hl, run_program, Result.andThen_ok, if_true, Sem.run_pure]
end
def xh (v : Value) (ls : List α) (w : World) : Prop := (v = .slice none 0 0 ∧ ls = []) ∨ (∃ g o c, v = .slice (some ⟨g, o, none⟩) ls.length c ∧ ls.length ≤ c ∧ (0 < ls.length → zH E g o ls w)) ∨ ∃ a c, v = .slice (some a) 0 c ∧ ls = []
def qM (B : Nat) (v : Value) (ls : List α) (w : World) : Prop := w.ownsRow B T k v ls.length (xO E ls)
section
variable {E} {v : Value} {ls : List α} {w w' : World} {B : Nat}
theorem xh.be (h : xh E v ls w) (hb : Below w.heap.size w w') : xh E v ls w' := by
 rcases h with h | ⟨g, o, c, e, hc, sc⟩ | h
 ·exact .inl h
 ·exact .inr (.inl ⟨g, o, c, e, hc, fun hn => (sc hn).of_eq (hb.block _ (sc hn).lt)⟩)
 ·exact .inr (.inr h)
theorem xh.len (h : xh E v ls w) : ∃ a c, v = .slice a ls.length c ∧ ls.length ≤ c := by
 rcases h with ⟨rfl, rfl⟩ | ⟨g, o, c, e, hc, sc⟩ | ⟨a, c, rfl, rfl⟩
 ·exact ⟨none, 0, rfl, Nat.le_refl _⟩
 ·exact ⟨_, c, e, hc⟩
 ·exact ⟨_, c, rfl, Nat.zero_le _⟩
theorem xh.at {a : Option Addr} {n c : Nat} (h : xh E (.slice a n c) ls w) (hn : 0 < ls.length) : ∃ g o, a = some ⟨g, o, none⟩ ∧ zH E g o ls w := by
 rcases h with ⟨_, rfl⟩ | ⟨g, o, c', e, _, sc⟩ | ⟨_, _, _, rfl⟩
 rotate_right
 ·exact absurd hn (by simp)
 ·exact absurd hn (by simp)
 ·injection e with e1 e2 e3
  exact ⟨g, o, e1, sc hn⟩
theorem xh.nil (w : World) : xh E (.slice none 0 0) [] w := .inl ⟨rfl, rfl⟩
theorem qD {g o : Nat} (h : zH E g o ls w) : ∀ w', (∃ u, w' = ov w u) → zH E g o ls w' := by
 rintro w' ⟨u, rfl⟩
 exact h.of_eq ((ji w u).block _ h.lt)
theorem qM.be (h : qM E B v ls w) (hb : Below w.heap.size w w') : qM E B v ls w' :=
 World.ownsRow.kept (row := none) h ⟨hb.os, hb.tape, hb.output, hb.size, fun k hk _ => hb.block k hk⟩ (Classical.em _)
theorem qM.mono {B' : Nat} (h : qM E B v ls w) (hb : B' ≤ B) : qM E B' v ls w := World.ownsRow.mono h hb
theorem qM.nil (B : Nat) (w : World) : qM E B (.slice none 0 0) [] w := World.ownsRow_nil w B _ _
theorem qM.rs (h : qM E B v ls w) : xh E v ls w := by
 obtain ⟨h1, h2⟩ := h
 rcases h2 with ⟨rfl, h0⟩ | ⟨g, cap, cur, rfl, hb, hg, hn, hm, hs, ht⟩
 ·exact .inl ⟨rfl, List.eq_nil_of_length_eq_zero h0⟩
 ·refine .inr (.inl ⟨g, 0, cap, rfl, hn, fun _ => ⟨(Array.getElem?_eq_some_iff.1 hg).1, fun i x hi j hj => ?_⟩⟩)
  have hil : i < ls.length := (List.getElem?_eq_some_iff.1 hi).1; have zh : i * k + j < ls.length * k := by
   have := Nat.mul_le_mul_right k (Nat.succ_le_of_lt hil); rw [Nat.succ_mul] at this; omega
  rw [← Qb E ls i x hi j hj, Nat.zero_add, cell_of_row w g _ cur _ (0, 0) hg, ← ht, List.getElem?_take_of_lt zh, Array.getElem?_toList]
theorem qM.len (h : qM E B v ls w) : ∃ a c, v = .slice a ls.length c ∧ ls.length ≤ c := h.rs.len
theorem qM.chg {b : Nat} (h : qM E B v ls w) (hc : qY b w w') (hb : b < B) : qM E B v ls w' := by
 refine World.ownsRow.kept (row := some b) h ⟨hc.os, hc.tape, hc.output, hc.size, fun k hk hne => hc.block k hk (fun e => hne (by rw [e]))⟩ ?_
 cases hv : v.ownBlock with
 | none => exact .inl rfl
 | some k =>
  right
  intro e
  injection e with e
  have := World.ownsRow.lt h k hv; omega
end
section
variable {E} {ops : Array Oper} {rest : List Oper} {o : Oper} {a : Act} {w : World} {Q : Exit → Act → World → Prop}
theorem jA (hg : o.guard = none) (s x : Operand) (ho : o.op = .call { callee := .builtin .append, args := #[s, x], argTypes := #[ST, ST] }) (v u : Value) (hs : a.eval s = v) (hx : a.eval x = u) {B : Nat} {ls ks : List α} (hown : qM E B v ls w) (hu : xh E u ks w) (hlen : ls.length + ks.length ≤ 100000000) (hB : B ≤ w.heap.size)
  (h : ∀ v' w', qM E B v' (ls ++ ks) w' → Below B w w' → wpList Tryz.prog ops Q rest (a.put o.dst v') w') : wpList Tryz.prog ops Q (o :: rest) a w := by
 obtain ⟨i, z, hi, hz, zf, hby, hzc⟩ := E.facts
 have hzs : z.cells.size = k := by rw [hzc, E.size]
 rcases hu with ⟨rfl, rfl⟩ | ⟨g, of, c, rfl, hc, sc⟩ | ⟨ad, c, rfl, rfl⟩
 ·refine wpList_append_own_none (P := Tryz.prog) hg s x ST ho B T i k E.und hi v ls.length (xO E ls) hs hown hx ?_
  exact h v w (by rw [List.append_nil]; exact hown) (Below.refl _ _)
 ·refine wpList_append_own (P := Tryz.prog) w hg s x ST ho B T i z k E.bytes E.und hi hz zf hby hzs E.pos v ls.length (xO E ls) hs hown ⟨g, of, none⟩ ks.length c (xO E ks) hx (x5 E ks) ?_ (Qc E ks) (by unfold maxLen; omega) ?_ hB ?_
  ·intro j u hu
   have hj : j < ks.length * k := by rw [← x5 E]; exact (List.getElem?_eq_some_iff.1 hu).1
   have e : (⟨g, of, none⟩ : Addr).add j = ⟨g, of + j, none⟩ := by unfold Addr.add; split <;> simp_all
   rw [e]; have hk : 0 < ks.length := by
    rcases Nat.eq_zero_or_pos ks.length with h0 | h0
    ·rw [h0, Nat.zero_mul] at hj; omega
    ·exact h0
   exact (sc hk).row j u hu
  ·have := Nat.mul_le_mul hlen E.small
   omega
  ·intro v' w' h1 h2 h3
   refine h v' w' ?_ ?_
   ·unfold qM
    rw [QT, List.length_append]; exact h1
   ·have zh := World.ownsRow.lt hown
    exact ⟨h2.os, h2.tape, h2.output, h2.size, fun k hk => h2.block k (by omega) (fun e => by have := zh k e.symm; omega)⟩
 ·refine wpList_append_own (P := Tryz.prog) w hg s x ST ho B T i z k E.bytes E.und hi hz zf hby hzs E.pos v ls.length (xO E ls) hs hown ad 0 c [] hx (by simp) ?_ (by simp) (by unfold maxLen; simp only [List.length_nil] at hlen; omega) ?_ hB ?_
  ·intro j u hu
   simp at hu
  ·have := Nat.mul_le_mul hlen E.small
   simp only [List.length_nil] at this; omega
  ·intro v' w' h1 h2 h3
   refine h v' w' ?_ ?_
   ·unfold qM
    rw [List.append_nil]; rw [List.append_nil] at h1; exact h1
   ·have zh := World.ownsRow.lt hown
    exact ⟨h2.os, h2.tape, h2.output, h2.size, fun k hk => h2.block k (by omega) (fun e => by have := zh k e.symm; omega)⟩
end
section
variable {E}
theorem zdY {T' : TypeId} (x : α) (cs : Array Value) (hs : cs.size = k) : Instr.fill (fun i => some (i * k, k)) cs [(0, .agg (E.enc x))] = some (E.enc x) := by
 have hc : (Value.agg (E.enc x)).cells = E.enc x := by simp only [Value.cells]
 obtain ⟨r, hr1, hr2, hr3⟩ := Great.fill_dense E.pos [Value.agg (E.enc x)] 0 cs (fun v hv => by rw [List.mem_singleton.1 hv, hc, E.size]) (by simp; omega)
 have e : (([Value.agg (E.enc x)].zipIdx 0).map fun y => (y.2, y.1)) = [(0, Value.agg (E.enc x))] := rfl
 rw [e] at hr1
 rw [hr1]
 congr 1
 apply Array.ext_getElem?
 intro j
 rw [hr3 j]
 by_cases h : j < k
 ·rw [if_pos (by simp; omega), Nat.div_eq_of_lt h, Nat.mod_eq_of_lt h]
  simp [hc]
 ·rw [if_neg (by simp; omega), Array.getElem?_eq_none (by omega), Array.getElem?_eq_none (by rw [E.size]; omega)]
variable {ops : Array Oper} {rest : List Oper} {o : Oper} {a : Act} {w : World} {Q : Exit → Act → World → Prop}
theorem Z5 {K : Act → World → Prop} (y : Operand) (ho : o.op = .buildSlice ST 1 #[(0, y)]) (x : α) (hy : a.eval y = .agg (E.enc x)) (hk : k ≤ 1000)
  (h : ∀ b w', w.heap.size ≤ b → b ≤ w.heap.size → zw T w' b (E.enc x) → Below b w w' → w'.heap.size = b + 1 → K (a.put o.dst (.slice (some ⟨b, 0, none⟩) 1 1)) w') : o.wp Tryz.prog a w K Q := by
 obtain ⟨i, z, hi, hz, zf, hby, hzc⟩ := E.facts
 have hp := E.pos
 refine wp_buildSlice ST T 1 #[(0, y)] ho (E.enc x) i z E.und hi hz (by rw [zf]; omega) (by rw [zf]; omega) ?_ (h _ _ (Nat.le_refl _) (Nat.le_refl _) (by unfold zw; rw [zJ, if_pos rfl]) ((Below.refl _ _).alloc (Nat.le_refl _) _) (World.size_alloc _ _))
 rw [zf]
 have hp : ((#[(0, y)] : Array (Nat × Operand)).map fun (i, x) => (i, a.eval x)).toList = [(0, Value.agg (E.enc x))] := by simp [hy]
 rw [hp]
 exact zdY (T' := T) x _ (by simp)
theorem yd (hg : o.guard = none) (y : Operand) (ho : o.op = .buildSlice ST 1 #[(0, y)]) (x : α) (hy : a.eval y = .agg (E.enc x)) (hk : k ≤ 1000)
  (h : ∀ b w', w.heap.size ≤ b → b ≤ w.heap.size → zw T w' b (E.enc x) → Below b w w' → w'.heap.size = b + 1 → wpList Tryz.prog ops Q rest (a.put o.dst (.slice (some ⟨b, 0, none⟩) 1 1)) w') : wpList Tryz.prog ops Q (o :: rest) a w :=
 wpList_plain hg fun K hK => Z5 y ho x hy hk fun b w' h1 h2 h3 h4 h5 => hK _ _ (h b w' h1 h2 h3 h4 h5)
theorem xh.one {b : Nat} {x : α} {w : World} (h : zw T w b (E.enc x)) : xh E (.slice (some ⟨b, 0, none⟩) 1 1) [x] w :=
 .inr (.inl ⟨b, 0, 1, rfl, Nat.le_refl _, fun _ => ⟨h.lt, fun i y hi j hj => by
  cases i with
  | zero =>
   have hx : x = y := by simpa using hi
   rw [Nat.zero_mul, Nat.zero_add, Nat.zero_add, (qf h).1, hx]
  | succ i => simp at hi⟩⟩)
def jW (E : Xz α k T ST) (w : World) (b : Nat) (ls : List α) : Prop := zw T w b (xO E ls).toArray
theorem jW.of_eq {w w' : World} {b : Nat} {ls : List α} (h : jW E w b ls) (e : w'.heap[b]? = w.heap[b]?) : jW E w' b ls := zw.of_eq h e
theorem jW.lt {w : World} {b : Nat} {ls : List α} (h : jW E w b ls) : b < w.heap.size := zw.lt h
theorem jW.be {α : Type} {k : Nat} {T ST : TypeId} {E : Xz α k T ST} {b : Nat} {ls : List α} {w w' : World} (h : jW E w b ls) (e : Below w.heap.size w w') : jW E w' b ls := h.of_eq (e.block _ h.lt)
theorem jW.cg {α : Type} {k : Nat} {T ST : TypeId} {E : Xz α k T ST} {b : Nat} {ls : List α} {w w' : World} (h : jW E w b ls) {zc : Nat} (e : qY zc w w') (hn : b ≠ zc := by omega) : jW E w' b ls := h.of_eq (e.block _ h.lt hn)
theorem jW.cells {w : World} {b : Nat} {ls : List α} (h : jW E w b ls) : zH E b 0 ls w := by
 refine ⟨h.lt, fun i x hi j hj => ?_⟩
 rw [Nat.zero_add, (qf h).1, List.getElem?_toArray]
 exact Qb E ls i x hi j hj
theorem jW.rs {w : World} {b : Nat} {ls : List α} (h : jW E w b ls) : xh E (.slice (some ⟨b, 0, none⟩) ls.length ls.length) ls w :=
 .inr (.inl ⟨b, 0, ls.length, rfl, Nat.le_refl _, fun _ => h.cells⟩)
theorem Xf (n : Nat) (x : α) : ∀ j, (xO E (List.replicate n x))[j]? = if j < n * k then (E.enc x)[j % k]? else none := by
 intro j
 by_cases h : j < n * k
 ·rw [if_pos h]
  obtain ⟨h1, h2, h3⟩ := ZB E.pos h; have := Qb E (List.replicate n x) (j / k) x (by rw [List.getElem?_replicate, if_pos h1]) (j % k) h2; rw [← h3] at this; exact this
 ·rw [if_neg h, List.getElem?_eq_none (by rw [x5, List.length_replicate]; omega)]
theorem QD {K : Act → World → Prop} (p q : Operand) (ho : o.op = .makeSlice ST p q) (n : Nat) (hp : a.eval p = .int .i64 n) (hq : a.eval q = .int .i64 n) (hn : n ≤ 100000000) (hsm : n * k ≤ 16777216)
 (h : ∀ b w', w.heap.size ≤ b → b ≤ w.heap.size → jW E w' b (List.replicate n E.zero) → Below b w w' → w'.heap.size = b + 1 → K (a.put o.dst (.slice (some ⟨b, 0, none⟩) n n)) w') : o.wp Tryz.prog a w K Q := by
 obtain ⟨i, z, hi, hz, zf, hby, hzc⟩ := E.facts
 have hr := run_makeSlice (P := Tryz.prog) w ST T i z E.und hi hz .i64 .i64 n n (by omega) (Int.le_refl _) (by rw [zf]; simpa using hsm) (by
  have hm := Nat.mul_le_mul E.small hn; rw [hby]; have : ((E.bytes * n : Nat) : Int) ≤ ((1000 * 100000000 : Nat) : Int) := by omega
  rw [Int.natCast_mul] at this; omega) (by omega)
 unfold Oper.wp execOp
 simp only [ho, hp, hq, hr, Sem.run_bind, Sem.run_pure, Result.andThen_ok]
 refine (h _ _ (Nat.le_refl _) (Nat.le_refl _) ?_ ((Below.refl _ _).alloc (Nat.le_refl _) _) (World.size_alloc _ _))
 unfold jW zw
 rw [zJ, if_pos rfl]
 congr 2
 apply Array.ext_getElem?
 intro j
 have hR : (xO E (List.replicate n E.zero)).toArray[j]? = if j < n * k then (E.enc E.zero)[j % k]? else none := by rw [List.getElem?_toArray, Xf]
 rw [hR, hzc, zf, Int.toNat_natCast]
 unfold madeCells
 by_cases hj : j < n * k
 ·have hm : j % k < (E.enc E.zero).size := by rw [E.size]; exact Nat.mod_lt _ E.pos
  rw [if_pos hj, Array.getElem?_map, Array.getElem?_eq_getElem (by simpa using hj), Array.getElem?_eq_getElem hm]; simp [E.size, getElem!_pos, hm, Nat.mod_lt _ E.pos]
 ·rw [if_neg hj, Array.getElem?_eq_none (by simp; omega)]
end
end
def yq : Xz Px 4 28 115 where
 enc := WY
 bytes := 4
 zero := Px.zero
 size := fun _ => rfl
 one := fun x u hu => by
  have : u ∈ [Value.int .u8 x.r, .int .u8 x.g, .int .u8 x.b, .int .u8 x.a] := hu; simp at this
  rcases this with rfl | rfl | rfl | rfl <;> rfl
 pos := by omega
 small := by omega
 und := underlying115
 info := by kernel_rfl
 zer := by kernel_rfl
theorem zeK (ls : List Px) : ∀ (i : Nat) (p : Px), i < ls.length → ((((xO yq ls).set (i * 4) (.int .u8 p.r)).set (i * 4 + 1) (.int .u8 p.g)).set (i * 4 + 2) (.int .u8 p.b)).set (i * 4 + 3) (.int .u8 p.a) = xO yq (ls.set i p) := by
 induction ls with
 | nil => intro i p h; exact absurd h (Nat.not_lt_zero _)
 | cons q r ih =>
  intro i p h; cases i with
  | zero => rfl
  | succ i =>
   have e : ∀ j, (i + 1) * 4 + j = (i * 4 + j) + 4 := fun j => by omega
   have := ih i p (by simpa using h); show ((((((Value.int .u8 q.r :: .int .u8 q.g :: .int .u8 q.b :: .int .u8 q.a :: xO yq r).set ((i + 1) * 4) _).set ((i + 1) * 4 + 1) _).set ((i + 1) * 4 + 2) _).set ((i + 1) * 4 + 3) _)) = Value.int .u8 q.r :: .int .u8 q.g :: .int .u8 q.b :: .int .u8 q.a :: xO yq (r.set i p)
   rw [show (i + 1) * 4 = (i * 4) + 4 by omega, show i * 4 + 4 + 1 = i * 4 + 1 + 4 by omega, show i * 4 + 4 + 2 = i * 4 + 2 + 4 by omega, show i * 4 + 4 + 3 = i * 4 + 3 + 4 by omega]; simp only [List.set_cons_succ]; rw [this]
theorem jW.set4 {w : World} {b i : Nat} {ls : List Px} (h : jW yq w b ls) (hi : i < ls.length) (p : Px) :
  jW yq ((((w.setCell ⟨b, i * 4, none⟩ (.int .u8 p.r)).setCell ⟨b, i * 4 + 1, none⟩ (.int .u8 p.g)).setCell ⟨b, i * 4 + 2, none⟩ (.int .u8 p.b)).setCell ⟨b, i * 4 + 3, none⟩ (.int .u8 p.a)) b (ls.set i p) := by
 unfold jW zw
 rw [← zeK ls i p hi]
 have := heap_setCell_same _ b (i * 4 + 3) _ _ (.int .u8 p.a) (heap_setCell_same _ b (i * 4 + 2) _ _ (.int .u8 p.b) (heap_setCell_same _ b (i * 4 + 1) _ _ (.int .u8 p.g) (heap_setCell_same _ b (i * 4) _ _ (.int .u8 p.r) h)))
 simpa only [List.setIfInBounds_toArray] using this
theorem XG {w : World} {b i : Nat} {ls : List Px} (h : jW yq w b ls) (hi : i < ls.length) (p : Px) : (Instr.storeAt 28 (.pointer (some ⟨b, i * 4, none⟩)) (Px.v p)).run Tryz.prog w =
  .ok () ((((w.setCell ⟨b, i * 4, none⟩ (.int .u8 p.r)).setCell ⟨b, i * 4 + 1, none⟩ (.int .u8 p.g)).setCell ⟨b, i * 4 + 2, none⟩ (.int .u8 p.b)).setCell ⟨b, i * 4 + 3, none⟩ (.int .u8 p.a)) := by
 obtain ⟨q, hq⟩ : ∃ q, ls[i]? = some q := ⟨_, List.getElem?_eq_getElem hi⟩
 have hc := h.cells.2 i q hq
 have c0 : w.cell? ⟨b, i * 4, none⟩ = some (.int .u8 q.r) := by have := hc 0 (by omega); rw [Nat.zero_add, Nat.add_zero] at this; exact this
 have c1 : w.cell? ⟨b, i * 4 + 1, none⟩ = some (.int .u8 q.g) := by have := hc 1 (by omega); rw [Nat.zero_add] at this; exact this
 have c2 : w.cell? ⟨b, i * 4 + 2, none⟩ = some (.int .u8 q.b) := by have := hc 2 (by omega); rw [Nat.zero_add] at this; exact this
 have c3 : w.cell? ⟨b, i * 4 + 3, none⟩ = some (.int .u8 q.a) := by have := hc 3 (by omega); rw [Nat.zero_add] at this; exact this
 have hf := fun j => zw.frozen h j
 simp [go_sem, c0, c1, c2, c3, hf, Px.v]
theorem ut {ops : Array Oper} {rest : List Oper} {o : Oper} {a : Act} {w : World} {Q : Exit → Act → World → Prop} (hg : o.guard = none) (x y : Operand) (ho : o.op = .store 28 x y) (b j : Nat) (hx : a.eval x = .pointer (some ⟨b, j, none⟩)) (q : Px) (hy : a.eval y = Px.v q) {ls : List Px} (ht : jW yq w b ls) (i : Nat) (hi : i < ls.length) (hj : j = i * 4)
  (h : ∀ w', jW yq w' b (ls.set i q) → qY b w w' → w'.heap.size = w.heap.size → wpList Tryz.prog ops Q rest (a.put o.dst undef) w') : wpList Tryz.prog ops Q (o :: rest) a w := by
 subst hj
 refine qj hg x y ho _ ?_ (h _ (ht.set4 hi q) (((((qY.refl b w).setCell _).setCell _).setCell _).setCell _) (by simp only [World.size_setCell]))
 rw [hx, hy]
 exact XG ht hi q
def kq (c : Rc) (x y : Int) : Int := (y - c.y0) * (c.x1 - c.x0) + x - c.x0
def wA (c : Rc) (s : List Px) (x y : Int) (p : Px) : List Px × Px := (if jx c x y = true then s.set (kq c x y).toNat p else s, p)
def jy (c : Rc) (u : Value) : Array Value := #[.int .i64 c.x0, .int .i64 c.y0, .int .i64 c.x1, .int .i64 c.y1, u]
structure xM (c : Rc) : Prop where
 h1 : c.x0 < c.x1
 h2 : c.y0 < c.y1
 h3 : -65536 ≤ c.x0
 h4 : -65536 ≤ c.y0
 h5 : c.x1 ≤ 65536
 h6 : c.y1 ≤ 65536
 h7 : c.x1 - c.x0 ≤ 256
 h8 : c.y1 - c.y0 ≤ 256
theorem xY {c : Rc} (h : jh c = 0) : xM c := by
 unfold jh at h
 split at h
 ·rename_i hv
  obtain ⟨⟨a1, a2⟩, a3, a4, a5, a6⟩ := (kG c).1 hv; split at h
  ·cases h
  ·exact ⟨a1, a2, a3, a4, a5, a6, by omega, by omega⟩
 ·cases h
theorem xM.valid {c : Rc} (h : xM c) : jk c = true := (kG c).2 ⟨⟨h.h1, h.h2⟩, h.h3, h.h4, h.h5, h.h6⟩
def areaN (c : Rc) : Nat := ((c.x1 - c.x0) * (c.y1 - c.y0)).toNat
theorem YL {c : Rc} (hf : xM c) {x y : Int} (hh : jx c x y = true) : 0 ≤ (y - c.y0) * (c.x1 - c.x0) ∧ (y - c.y0) * (c.x1 - c.x0) ≤ 65536 ∧ 0 ≤ kq c x y ∧ (kq c x y).toNat < areaN c := by
 have hh := of_decide_eq_true hh
 obtain ⟨a1, a2, a3, a4, a5, a6, a7, a8⟩ := hf
 unfold kq areaN
 obtain ⟨W, hW⟩ : ∃ W : Nat, c.x1 - c.x0 = W := ⟨(c.x1 - c.x0).toNat, by omega⟩
 obtain ⟨Y, hY⟩ : ∃ Y : Nat, y - c.y0 = Y := ⟨(y - c.y0).toNat, by omega⟩
 obtain ⟨H, hH⟩ : ∃ H : Nat, c.y1 - c.y0 = H := ⟨(c.y1 - c.y0).toNat, by omega⟩
 obtain ⟨X, hX⟩ : ∃ X : Nat, x - c.x0 = X := ⟨(x - c.x0).toNat, by omega⟩
 rw [hW, hY, hH]
 have e1 : ((Y : Int) * (W : Int)) + x - c.x0 = ((Y * W + X : Nat) : Int) := by rw [Int.natCast_add, Int.natCast_mul]; omega
 have e2 : ((W : Int) * (H : Int)) = ((W * H : Nat) : Int) := by rw [Int.natCast_mul]
 have e3 : ((Y : Int) * (W : Int)) = ((Y * W : Nat) : Int) := by rw [Int.natCast_mul]
 rw [e1, e2, e3]
 have m1 : Y * W ≤ 256 * 256 := Nat.mul_le_mul (by omega) (by omega)
 have m2 : (Y + 1) * W ≤ H * W := Nat.mul_le_mul_right W (by omega)
 rw [Nat.succ_mul] at m2
 have m3 : W * H = H * W := Nat.mul_comm _ _
 omega
theorem zhE {w : World} {b : Nat} {c : Rc} (h : zw 38 w b (jP c)) : w.cell? ⟨b, 0, none⟩ = some (.int .i64 c.x0) := h.cell 0 rfl
theorem zhG {w : World} {b : Nat} {c : Rc} (h : zw 38 w b (jP c)) : w.cell? ⟨b, 1, none⟩ = some (.int .i64 c.y0) := h.cell 1 rfl
theorem zhF {w : World} {b : Nat} {c : Rc} (h : zw 38 w b (jP c)) : w.cell? ⟨b, 2, none⟩ = some (.int .i64 c.x1) := h.cell 2 rfl
theorem xQ {w : World} {b : Nat} {c : Rc} {u : Value} (h : zw 117 w b (jy c u)) : w.cell? ⟨b, 4, none⟩ = some u := h.cell 4 rfl
theorem qL {w : World} {b j : Nat} {v : Value} (h : w.cell? ⟨b, j, none⟩ = some v) : (Instr.loadAt 115 (.pointer (some ⟨b, j, none⟩))).run Tryz.prog w = .ok v w := by
 simp [go_sem, h]
theorem zcX (c : Rc) (hf : xM c) (s : List Px) (hs : s.length = areaN c) (x y : Int) (p : Px) (bc bm cb : Nat) (w : World) (r0 : zw 38 w bc (jP c)) (m0 : zw 117 w bm (jy c (.slice (some ⟨cb, 0, none⟩) (areaN c) (areaN c)))) (row : jW yq w cb s) (h1 : bc ≠ cb) (h2 : bm ≠ cb) :
  Calls Tryz.prog 127 #[.int .i64 x, .int .i64 y, Px.v p, .pointer (some ⟨bc, 0, none⟩), .pointer (some ⟨bm, 0, none⟩)] w fun e w' => e = .returned (Px.v (wA c s x y p).2) ∧ (zw 38 w' bc (jP c) ∧ zw 117 w' bm (jy c (.slice (some ⟨cb, 0, none⟩) (areaN c) (areaN c))) ∧ jW yq w' cb (wA c s x y p).1) ∧ qY cb w w' := by
 have B := vH.refl cb w
 have hb1 := r0.lt
 have hb2 := m0.lt
 have hb3 := row.lt
 cases hh : jx c x y with
 | true =>
  have e1 := zo (show wA c s x y p = (s.set (kq c x y).toNat p, p) from by unfold wA; rw [hh]; rfl)
  obtain ⟨m1, m2, m3, m4⟩ := YL hf hh; have hix : (kq c x y).toNat < s.length := by rw [hs]; exact m4
  have hh2 := of_decide_eq_true hh; obtain ⟨g1, g2, g3, g4⟩ := hh2; obtain ⟨a1, a2, a3, a4, a5, a6, a7, a8⟩ := hf; have hidx : (y - c.y0) * (c.x1 - c.x0) + x - c.x0 = kq c x y := rfl; have m5 : kq c x y < (areaN c : Int) := by omega
  have m6 : (areaN c : Int) ≤ 65536 := by
   unfold areaN; have := jX (a := c.x1 - c.x0) (b := c.y1 - c.y0) (m := 256) (k := 256) (by omega) (by omega) (by omega) (by omega); omega
  go_enter func127, ntmps127
  go_wp2_with (first | (refine z2 rfl _ _ rfl _ rfl (_) rfl q2 ?_; clear q2; intro wn ht ze zg; have zf := B.size; replace zg := Nat.le_of_eq zg.symm; replace B := vH.store B ze (by omega); replace r0 := r0.cg ze; replace m0 := m0.cg ze; replace q1 := q1.cg ze; replace row := row.cg ze; have q2 := ht; clear ht; simp only [zn]) | (refine ut rfl _ _ rfl _ _ rfl _ rfl row (kq c x y).toNat hix (by first | rfl | omega) ?_; clear row; intro wn ht ze zg; have zf := B.size; replace zg := Nat.le_of_eq zg.symm; replace B := vH.chg B ze; replace r0 := r0.cg ze; replace m0 := m0.cg ze; replace q1 := q1.cg ze; replace q2 := q2.cg ze; have row := ht; clear ht; simp only [zn]) | (refine j5 rfl _ rfl _ rfl q1 ?_; simp only [zn]) | (refine zp (t := 115) rfl _ rfl _ _ _ rfl (qL (xQ m0)) (by rfl) ?_; simp only [zn]) | (refine zp (t := 3) rfl _ rfl _ _ _ rfl (qt (zhE r0)) (by first | rfl | omega) ?_; simp only [zn]) | (refine zp (t := 3) rfl _ rfl _ _ _ rfl (qt (zhG r0)) (by first | rfl | omega) ?_; simp only [zn]) | (refine zp (t := 3) rfl _ rfl _ _ _ rfl (qt (zhF r0)) (by first | rfl | omega) ?_; simp only [zn]) | (go_at_call 25; refine (zah c x y _).mono ?_; rintro e wn ⟨rfl, za⟩; have zf := B.size; have zg := za.size; replace B := B.trans (za.mono B.size); replace r0 := r0.be za; replace m0 := m0.be za; replace q1 := q1.be za; replace q2 := q2.be za; replace row := row.be za) | (first | refine yN ?_ | refine yO ?_) | (have _ := q1; refine qA rfl rfl ?_; intro b_q2 wn zb zd ht za zg; have zf := B.size; replace B := B.trans (za.mono (by omega)); have zk := zln zg; clear zg; replace r0 := r0.be (za.mono zb); replace m0 := m0.be (za.mono zb); replace q1 := q1.be (za.mono zb); replace row := row.be (za.mono zb); have q2 := ht; clear ht; simp only [zn]) | (refine yD rfl _ rfl _ rfl ?_; intro b_q1 wn zb zd ht za zg; have zf := B.size; replace B := B.trans (za.mono (by omega)); have zk := zln zg; clear zg; replace r0 := r0.be (za.mono zb); replace m0 := m0.be (za.mono zb); replace row := row.be (za.mono zb); have q1 := ht; clear ht; simp only [zn]) | fail)
  refine bodyPost_ret (jM rfl _ _ (b_q2) rfl q2) rfl ?_; exact ⟨by rw [e1.out], by rw [e1.out]; exact ⟨r0, m0, row⟩, B.toChg⟩
 | false =>
  have e1 := zo (show wA c s x y p = (s, p) from by unfold wA; rw [hh]; rfl)
  go_enter func127, ntmps127
  go_wp2_with (first | (refine z2 rfl _ _ rfl _ rfl (_) rfl q2 ?_; clear q2; intro wn ht ze zg; have zf := B.size; replace zg := Nat.le_of_eq zg.symm; replace B := vH.store B ze (by omega); replace r0 := r0.cg ze; replace m0 := m0.cg ze; replace q1 := q1.cg ze; replace row := row.cg ze; have q2 := ht; clear ht; simp only [zn]) | (refine j5 rfl _ rfl _ rfl q1 ?_; simp only [zn]) | (go_at_call 25; refine (zah c x y _).mono ?_; rintro e wn ⟨rfl, za⟩; have zf := B.size; have zg := za.size; replace B := B.trans (za.mono B.size); replace r0 := r0.be za; replace m0 := m0.be za; replace q1 := q1.be za; replace q2 := q2.be za; replace row := row.be za) | (first | refine yN ?_ | refine yO ?_) | (have _ := q1; refine qA rfl rfl ?_; intro b_q2 wn zb zd ht za zg; have zf := B.size; replace B := B.trans (za.mono (by omega)); have zk := zln zg; clear zg; replace r0 := r0.be (za.mono zb); replace m0 := m0.be (za.mono zb); replace q1 := q1.be (za.mono zb); replace row := row.be (za.mono zb); have q2 := ht; clear ht; simp only [zn]) | (refine yD rfl _ rfl _ rfl ?_; intro b_q1 wn zb zd ht za zg; have zf := B.size; replace B := B.trans (za.mono (by omega)); have zk := zln zg; clear zg; replace r0 := r0.be (za.mono zb); replace m0 := m0.be (za.mono zb); replace row := row.be (za.mono zb); have q1 := ht; clear ht; simp only [zn]) | fail)
  refine bodyPost_ret (jM rfl _ _ (b_q2) rfl q2) rfl ?_; exact ⟨by rw [e1.out], by rw [e1.out]; exact ⟨r0, m0, row⟩, B.toChg⟩
theorem zd2 (c : Rc) (s : List Px) (x y : Int) (p : Px) : (wA c s x y p).1.length = s.length := by
 unfold wA
 show (if _ then _ else _ : List Px).length = _
 split
 ·exact List.length_set
 ·rfl
theorem zf5 (c : Rc) (s : List Px) (x y : Int) (p : Px) (h : p.ok) : (wA c s x y p).2.ok := h
def zgR (c : Rc) (ks : List TA) : List Px := (vm (wA c) ks (List.replicate (areaN c) Px.zero) ks.length).1
theorem yI {w : World} {b : Nat} {c : Rc} (h : zw 38 w b (jP c)) : (Instr.loadAt 38 (.pointer (some ⟨b, 0, none⟩))).run Tryz.prog w = .ok (.agg #[.int .i64 c.x0, .int .i64 c.y0, .int .i64 c.x1, .int .i64 c.y1]) w :=
 qE h isAgg38 (by kernel_rfl)
theorem ub {w : World} {b : Nat} {c : Rc} {u : Value} (h : zw 117 w b (jy c u)) : (Instr.loadAt 117 (.pointer (some ⟨b, 0, none⟩))).run Tryz.prog w = .ok (.agg #[.int .i64 c.x0, .int .i64 c.y0, .int .i64 c.x1, .int .i64 c.y1, u]) w :=
 qE h isAgg117 (by kernel_rfl)
theorem ym (w : World) (o : Oper) (ho : o.op = .alloc 117) (ev : Operand → Value) : (execOp ev o).run Tryz.prog w = .ok (.value (.pointer (some ⟨w.heap.size, 0, none⟩))) (w.alloc (.cells (jy Rc.zero (.slice none 0 0)) 117)) := by
 obtain ⟨d, p, t, ps, af, gd⟩ := o
 simp only at ho
 subst ho
 kernel_rfl
theorem uF {c : Rc} (hf : xM c) : yV c = (areaN c : Int) := by
 obtain ⟨a1, a2, a3, a4, a5, a6, a7, a8⟩ := hf
 have hE : z8 c = false := by unfold z8; exact zB (by omega)
 have hm := jX (a := c.x1 - c.x0) (b := c.y1 - c.y0) (m := 256) (k := 256) (by omega) (by omega) (by omega) (by omega)
 unfold yV areaN
 rw [hE]
 show (c.x1 - c.x0) * (c.y1 - c.y0) = _
 omega
theorem wU {c : Rc} (hf : xM c) : 1 ≤ areaN c ∧ areaN c ≤ 65536 := by
 obtain ⟨a1, a2, a3, a4, a5, a6, a7, a8⟩ := hf
 unfold areaN
 have hm := jX (a := c.x1 - c.x0) (b := c.y1 - c.y0) (m := 256) (k := 256) (by omega) (by omega) (by omega) (by omega)
 have hp : 0 < (c.x1 - c.x0) * (c.y1 - c.y0) := Int.mul_pos (by omega) (by omega)
 omega
def sP : Px := ⟨9, 0, 0, 255⟩
def sQ : Px := ⟨1, 0, 0, 0⟩
def sC : Rc := ⟨-2, 9, 0, 10⟩
theorem s1 : zeS [] (-1) 9 sP = 0 := by decide
theorem s2 : VS [] (-1) 9 sP = [⟨-1, 1, qI (QF zT 7 1 sP)⟩] := by rfl
def sR1 : List TA := [⟨-1, 1, qI (QF zT 7 1 sP)⟩]
theorem s3 : ql sR1 = true := by decide
theorem s4 : qh sR1 = sR1 := kQ s3
theorem s5 : zeS sR1 (-1) 9 sQ = 0 := by decide
theorem s6 : VS sR1 (-1) 9 sQ = [] := by rfl
theorem s7 : zeS sR1 65536 0 sP = 1 := by decide
theorem s8 : jh sC = 0 := by decide
instance decRc : DecidableEq Rc := fun a b =>
 if h : a.x0 = b.x0 ∧ a.y0 = b.y0 ∧ a.x1 = b.x1 ∧ a.y1 = b.y1 then isTrue (by obtain ⟨a1, a2, a3, a4⟩ := a; obtain ⟨b1, b2, b3, b4⟩ := b; obtain ⟨rfl, rfl, rfl, rfl⟩ := h; rfl)
 else isFalse fun e => h (by rw [e]; exact ⟨rfl, rfl, rfl, rfl⟩)
@[go_sem] theorem ziH (op : BinOp) (p q : Operand) (a b : Array Value) (w : World) : (eqGuard op 38 p q (.agg a) (.agg b)).run Tryz.prog w = .ok () w := run_eqGuard_agg w op 38 p q _ _ (by kernel_rfl)
theorem W4 {g o : Nat} {ls : List Px} {w : World} (h : zH yq g o ls w) {i : Nat} {x : Px} (hi : ls[i]? = some x) : (Instr.loadAt 28 (.pointer (some ⟨g, o + i * 4, none⟩))).run Tryz.prog w = .ok (Px.v x) w :=
 h.load isAgg28 hi
section
variable {ops : Array Oper} {rest : List Oper} {o : Oper} {a : Act} {w : World} {Q : Exit → Act → World → Prop}
theorem vG (hg : o.guard = none) (x y : Operand) (ho : o.op = .store 5 x y) (b : Nat) (hx : a.eval x = .pointer (some ⟨b, 3, none⟩)) (n : Int) (hy : a.eval y = .int .u8 n) {p : Px} (ht : j3 w b p)
  (h : ∀ w', j3 w' b ⟨p.r, p.g, p.b, n⟩ → qY b w w' → w'.heap.size = w.heap.size → wpList Tryz.prog ops Q rest (a.put o.dst undef) w') : wpList Tryz.prog ops Q (o :: rest) a w := by
 refine qj hg x y ho (w.setCell ⟨b, 3, none⟩ (.int .u8 n)) ?_ (h _ ?_ ((qY.refl b w).setCell _) (by simp only [World.size_setCell]))
 ·rw [hx, hy]
  obtain ⟨c0, c1, c2, c3⟩ := ht.cells; have hf := ht; unfold j3 at hf; have hfr := zw.frozen (t := 28) hf 3; simp [go_sem, c3, hfr]
 ·have := heap_setCell_same w b 3 _ _ (.int .u8 n) ht
  exact this
end
def Vn (u : Int) : Int := if u % 5 = 1 then 255 else if u % 5 = 3 then 0 else u / 16777216
def vg (x : Int) : Px := ⟨x % 256, x % 4294967296 / 256 % 256, x % 4294967296 / 65536 % 256, Vn (x % 4294967296)⟩
theorem wD (x : Int) : (vg x).ok := by
 unfold vg Px.ok Vn
 refine ⟨⟨?_, ?_⟩, ⟨?_, ?_⟩, ⟨?_, ?_⟩, ?_, ?_⟩ <;> simp only <;> (try split) <;> (try split) <;> omega
theorem zau (x : Int) (w : World) : Calls Tryz.prog 50 #[.int .i64 x] w fun e w' => e = .returned (Px.v (vg x)) ∧ Below w.heap.size w w' := by
 have B := Below.refl w.heap.size w
 by_cases h1 : x % 4294967296 % 5 = 1
 ·have e1 : vg x = ⟨x % 256, x % 4294967296 / 256 % 256, x % 4294967296 / 65536 % 256, 255⟩ := by unfold vg Vn; rw [if_pos h1]
  have d1 : (x % 4294967296 % 5 == 1) = true := by simp; omega
  have d3 : (x % 4294967296 % 5 == 3) = false := by simp; omega
  rw [e1]; clear e1 h1; go_enter func50, ntmps50
  go_wp2_with (first | (refine z2 rfl _ _ rfl _ rfl (⟨_, _, _, _⟩) rfl q2 (xV B (by omega) ?_); clear q2 B; intro wn q2 ze zf zg B; replace q4 := q4.cg ze; simp only [zn]) | (refine vG rfl _ _ rfl _ rfl _ rfl q4 (xV B (by omega) ?_); clear q4 B; intro wn q4 ze zf zg B; replace q2 := q2.cg ze; simp only [zn]) | (refine j5 rfl _ rfl _ rfl q4 ?_; simp only [zn]) | (refine z2 rfl _ _ rfl _ rfl (⟨_, _, _, _⟩) rfl q4 (xV B (by omega) ?_); clear q4 B; intro wn q4 ze zf zg B; replace q2 := q2.cg ze; simp only [zn]) | (have _ := q2; refine qA rfl rfl (kn B ?_); clear B; intro b_q4 wn zb zd q4 za zf zk B; replace q2 := q2.be (za.mono zb); simp only [zn]) | (refine qA rfl rfl (kn B ?_); clear B; intro b_q2 wn zb zd q2 za zf zk B; simp only [zn]) | fail)
  refine bodyPost_ret (jM rfl _ _ (b_q2) rfl q2) rfl ?_; exact ⟨rfl, B⟩
 ·have d1 : (x % 4294967296 % 5 == 1) = false := by simp; omega
  by_cases h3 : x % 4294967296 % 5 = 3
  ·have e1 : vg x = ⟨x % 256, x % 4294967296 / 256 % 256, x % 4294967296 / 65536 % 256, 0⟩ := by unfold vg Vn; rw [if_neg h1, if_pos h3]
   have d3 : (x % 4294967296 % 5 == 3) = true := by simp; omega
   rw [e1]; clear e1 h1 h3; go_enter func50, ntmps50
   go_wp2_with (first | (refine z2 rfl _ _ rfl _ rfl (⟨_, _, _, _⟩) rfl q2 (xV B (by omega) ?_); clear q2 B; intro wn q2 ze zf zg B; replace q4 := q4.cg ze; simp only [zn]) | (refine vG rfl _ _ rfl _ rfl _ rfl q4 (xV B (by omega) ?_); clear q4 B; intro wn q4 ze zf zg B; replace q2 := q2.cg ze; simp only [zn]) | (refine j5 rfl _ rfl _ rfl q4 ?_; simp only [zn]) | (refine z2 rfl _ _ rfl _ rfl (⟨_, _, _, _⟩) rfl q4 (xV B (by omega) ?_); clear q4 B; intro wn q4 ze zf zg B; replace q2 := q2.cg ze; simp only [zn]) | (have _ := q2; refine qA rfl rfl (kn B ?_); clear B; intro b_q4 wn zb zd q4 za zf zk B; replace q2 := q2.be (za.mono zb); simp only [zn]) | (refine qA rfl rfl (kn B ?_); clear B; intro b_q2 wn zb zd q2 za zf zk B; simp only [zn]) | fail)
   refine bodyPost_ret (jM rfl _ _ (b_q2) rfl q2) rfl ?_; exact ⟨rfl, B⟩
  ·have e1 : vg x = ⟨x % 256, x % 4294967296 / 256 % 256, x % 4294967296 / 65536 % 256, x % 4294967296 / 16777216⟩ := by unfold vg Vn; rw [if_neg h1, if_neg h3]
   have d3 : (x % 4294967296 % 5 == 3) = false := by simp; omega
   rw [e1]; clear e1 h1 h3; go_enter func50, ntmps50
   go_wp2_with (first | (refine z2 rfl _ _ rfl _ rfl (⟨_, _, _, _⟩) rfl q2 (xV B (by omega) ?_); clear q2 B; intro wn q2 ze zf zg B; replace q4 := q4.cg ze; simp only [zn]) | (refine vG rfl _ _ rfl _ rfl _ rfl q4 (xV B (by omega) ?_); clear q4 B; intro wn q4 ze zf zg B; (try replace q2 := q2.cg ze); simp only [zn]) | (refine j5 rfl _ rfl _ rfl q4 ?_; simp only [zn]) | (refine z2 rfl _ _ rfl _ rfl (⟨_, _, _, _⟩) rfl q4 (xV B (by omega) ?_); clear q4 B; intro wn q4 ze zf zg B; replace q2 := q2.cg ze; simp only [zn]) | (have _ := q2; refine qA rfl rfl (kn B ?_); clear B; intro b_q4 wn zb zd q4 za zf zk B; replace q2 := q2.be (za.mono zb); simp only [zn]) | (refine qA rfl rfl (kn B ?_); clear B; intro b_q2 wn zb zd q2 za zf zk B; simp only [zn]) | fail)
   refine bodyPost_ret (jM rfl _ _ (b_q2) rfl q2) rfl ?_; exact ⟨rfl, B⟩
def inE : Xz Int 1 3 22 where
 enc := fun x => #[.int .i64 x]
 bytes := 8
 zero := 0
 size := fun _ => rfl
 one := fun x u hu => by
  have : u ∈ [Value.int .i64 x] := hu; rw [List.mem_singleton.1 this]; rfl
 pos := by omega
 small := by omega
 und := underlying22
 info := by kernel_rfl
 zer := by kernel_rfl
theorem Y5 {g o : Nat} {L : List Int} {w : World} (h : zH inE g o L w) {i : Nat} {x : Int} (hi : L[i]? = some x) : w.cell? ⟨g, o + i, none⟩ = some (.int .i64 x) := by
 have := h.2 i x hi 0 (by omega)
 rw [Nat.mul_one, Nat.add_zero] at this
 exact this
def Qw (L : List Int) (i : Nat) : Int := L.getD i 0
theorem getD_some {L : List Int} {i : Nat} (h : i < L.length) : L[i]? = some (Qw L i) := by
 unfold Qw
 rw [List.getD_eq_getElem?_getD, List.getElem?_eq_getElem h]; rfl
def zej (L : List Int) (i : Nat) : Int := Qw L (i * L.length / 64)
def ziM (L : List Int) (i : Nat) : Px := if zej L i % 4 = 2 then jo (vg (zej L i + 7919 * i)) else jo (vg (zej L i))
def zgT (L : List Int) : Nat → Px := if L.length = 0 then zT else ziM L
def js (L : List Int) (i : Nat) (m : Int) : Int := if i < L.length then Qw L i % 1048576 % m else 0
theorem zhl (v : Value) (L : List Int) (i : Nat) (m : Int) (w : World) (h : xh inE v L w) (hn : L.length ≤ 17592186044416) (hm : 0 < m) (hm2 : m ≤ 100) : Calls Tryz.prog 71 #[v, .int .i64 i, .int .i64 m] w fun e w' => e = .returned (.int .i64 (js L i m)) ∧ w' = w := by
 obtain ⟨a, c, rfl, hc⟩ := h.len
 by_cases hi : i < L.length
 ·have e1 : js L i m = Qw L i % 1048576 % m := by unfold js; rw [if_pos hi]
  rw [e1]; obtain ⟨g, o, rfl, rc⟩ := h.at (by omega); have hix := hi; have b1 := ui (Qw L i); have d1 : decide ((i : Int) < (L.length : Int)) = true := zQ (by omega); go_enter func71, ntmps71
  go_wp2_with (first | (refine zp (t := 3) rfl _ rfl _ _ _ rfl (qt (Y5 rc (getD_some hix))) (by first | with_reducible rfl | omega) ?_; simp only [zn]) | fail)
  go_ret; exact ⟨rfl, rfl⟩
 ·have e1 : js L i m = 0 := by unfold js; rw [if_neg hi]
  have d1 : decide ((i : Int) < (L.length : Int)) = false := zB (by omega); rw [e1]; go_enter func71, ntmps71
  go_wp2; go_ret; exact ⟨rfl, rfl⟩
theorem Vx (L : List Int) (i : Nat) : 0 ≤ js L i 48 ∧ js L i 48 < 48 := by
 unfold js; split <;> omega
theorem ZU (v : Value) (L : List Int) (i : Nat) (j : Int) (hj : j = i) (w : World) (h : xh inE v L w) (hn : L.length ≤ 17592186044416) : Calls Tryz.prog 71 #[v, .int .i64 j, .int .i64 48] w fun e w' => e = .returned (.int .i64 (js L i 48)) ∧ Below w.heap.size w w' := by
 subst hj
 exact (zhl v L i 48 w h hn (by omega) (by omega)).mono fun e w' ⟨he, hw⟩ => ⟨he, hw ▸ Below.refl _ _⟩
def yp (L : List Int) : Nat → List TA
 | 0 => []
 | k + 1 => if 3 * k + 2 < L.length then VS (yp L k) (js L (3 * k) 48 - 20) (js L (3 * k + 1) 48 - 20) (vg (Qw L (3 * k + 2))) else yp L k
def kw (L : List Int) : List TA := yp L 40
theorem JX (L : List Int) (k : Nat) (h : ¬ 3 * k + 2 < L.length) : ∀ j, yp L (k + j) = yp L k
 | 0 => rfl
 | j + 1 => by
  show (if 3 * (k + j) + 2 < L.length then _ else _) = _
  rw [if_neg (by omega)]; exact JX L k h j
theorem QN (L : List Int) : ∀ k, ql (yp L k) = true
 | 0 => xf
 | k + 1 => by
  show ql (if _ then _ else _) = true
  split
  ·exact WX _ _ _ _
  ·exact QN L k
theorem kD (L : List Int) : ∀ k, qQ (yp L k)
 | 0 => qQ.nil
 | k + 1 => by
  show qQ (if _ then _ else _)
  split
  ·exact zeT (kD L k) (wD _)
  ·exact kD L k
theorem XV (L : List Int) (k : Nat) : (yp L k).length ≤ 1024 := (xp.1 (QN L k)).1
theorem jQ {w : World} {b j : Nat} {v : Value} (h : w.cell? ⟨b, j, none⟩ = some v) : (Instr.loadAt 64 (.pointer (some ⟨b, j, none⟩))).run Tryz.prog w = .ok (.agg #[v]) w := by
 simp [go_sem, h]
theorem zfJ (v : Value) (L : List Int) (w : World) (h : xh inE v L w) (hn : L.length ≤ 17592186044416) : Calls Tryz.prog 29 #[v] w fun e w' => ∃ v', e = .returned (.agg #[v']) ∧ RS v' (kw L) w' ∧ Below w.heap.size w w' := by
 have B := Below.refl w.heap.size w
 have HL := zo h
 obtain ⟨a, c, rfl, hc⟩ := h.len
 clear h
 go_enter func29, ntmps29
 go_wp2_with (first | (refine zZ (t := 64) rfl _ _ rfl _ rfl _ rfl r3 (by kernel_rfl) rfl (by simp [Value.oneCell']) (xV B (by omega) ?_); clear r3 B; intro wn r3 ze zf zg B; (try replace r2 := r2.cg ze); (try replace q5 := q5.cg ze); (try replace g6 := g6.cg ze); simp only [zn]) | (have _ := r2; refine jH (t := 64) (qK _ _ rfl) B ?_; clear B; intro b_r3 wn zb zd r3 za zf zk B; (try have zh := r2.lt); (try replace r2 := r2.be za); (try have zh := r3.lt); (try replace r3 := r3.be za); (try have zh := q5.lt); (try replace q5 := q5.be za); (try have zh := g6.lt); (try replace g6 := g6.be za)) | (refine jH (t := 64) (qK _ _ rfl) B ?_; clear B; intro b_r2 wn zb zd r2 za zf zk B; (try have zh := r2.lt); (try replace r2 := r2.be za); (try have zh := r3.lt); (try replace r3 := r3.be za); (try have zh := q5.lt); (try replace q5 := q5.be za); (try have zh := g6.lt); (try replace g6 := g6.be za)) | fail)
 go_loopw [4, 5, 6] (fun i _ _ wr => ∃ (k n : Nat) (a0 : Option Addr) (c0 : Nat), n = 3 * k ∧ k ≤ 40 ∧ i = .int .i64 n ∧ Below w.heap.size w wr ∧ zw 64 wr b_r2 #[.slice none 0 0] ∧ zw 64 wr b_r3 #[.slice a0 (yp L k).length c0] ∧ RS (.slice a0 (yp L k).length c0) (yp L k) wr) (fun i _ _ _ => (120 - intOf i).toNat)
 case atStart => exact ⟨0, 0, none, 0, rfl, by omega, rfl, B, r2, r3, RS.nil _⟩
 case round =>
  clear B r2 r3; obtain ⟨k, n, a0, c0, hn3, hk, rfl, B, r2, r3, rs⟩ := hrel; have hml := XV L k; by_cases hq : n + 2 < L.length ∧ n < 120
  ·obtain ⟨hix, zh⟩ := hq
   have E := zo (show yp L (k + 1) = VS (yp L k) (js L n 48 - 20) (js L (n + 1) 48 - 20) (vg (Qw L (n + 2))) from by
    show (if _ then _ else _) = _
    rw [if_pos (by omega), hn3])
   have hk39 : k < 40 := by omega
   have HN := zo hn3; clear hn3; have d1 : decide ((n : Int) + 2 < (L.length : Int)) = true := zQ (by omega); have d2 : decide ((n : Int) < 120) = true := zQ (by omega); obtain ⟨g, o, rfl, rcw⟩ := HL.out.at (by omega); have rc := rcw.of_eq (B.block _ rcw.lt); have hb1 := Vx L n; have hb2 := Vx L (n + 1); obtain ⟨x, hx⟩ : ∃ x, js L n 48 - 20 = x := ⟨_, rfl⟩; obtain ⟨y, hy⟩ : ∃ y, js L (n + 1) 48 - 20 = y := ⟨_, rfl⟩; have wx : (Lit.int .i64 x).wf = true := vS (by omega) (by omega); have wy : (Lit.int .i64 y).wf = true := vS (by omega) (by omega); rw [hx, hy] at E; go_upto_region 6 with (first | (refine z2 rfl _ _ rfl _ rfl (_) rfl q5 (xV B (by omega) ?_); have q5o := q5; clear q5 B; intro wn q5 ze zf zg B; replace rs := rs.chg (show zw 28 _ b_q5 (WY _) from q5o) (by simp [WY]) ze; (try replace r2 := r2.cg ze); (try replace r3 := r3.cg ze); (try replace g6 := g6.cg ze); simp only [zn]) | (have _ := r3; refine qA rfl rfl (kn B ?_); clear B; intro b_q5 wn zb zd q5 za zf zk B; (try have zh := r2.lt); (try replace r2 := r2.be (za.mono zb)); (try have zh := r3.lt); (try replace r3 := r3.be (za.mono zb)); (try have zh := q5.lt); (try replace q5 := q5.be (za.mono zb)); (try have zh := g6.lt); (try replace g6 := g6.be (za.mono zb)); (try have zh := rs.lt); (try replace rs := rs.be (za.mono zb)); simp only [zn]) | (go_at_call 50; refine (zau _ _).mono ?_; rintro e wn ⟨rfl, za⟩; obtain ⟨zf, zg, B⟩ := zM B za; (try replace r2 := r2.be za); (try replace r3 := r3.be za); (try replace q5 := q5.be za); (try replace g6 := g6.be za); (try replace rs := rs.be za)) | (refine zp (t := 3) rfl _ rfl _ _ _ rfl (qt (Y5 rc (getD_some hix))) (by first | rfl | omega) ?_; simp only [zn]) | fail)
   have q1 := q5.lt; have q2 := r3.lt; go_cut [6] from 25 to 36 (fun s wx => ∃ (b_g6 : Nat) (a1 : Option Addr) (c1 : Nat) (e1 : Int), s = .pointer (some ⟨b_g6, 0, none⟩) ∧ zw 82 wx b_g6 #[.slice a1 (yp L (k + 1)).length c1, .int .i64 e1] ∧ RS (.slice a1 (yp L (k + 1)).length c1) (yp L (k + 1)) wx ∧ Below w.heap.size w wx ∧ zw 64 wx b_r2 #[.slice none 0 0] ∧ zw 64 wx b_r3 #[.slice a0 (yp L k).length c0])
   case first =>
    try have r2B := r2
    try have r3B := r3
    try have q5B := q5
    try have g6B := g6
    try have rsB := rs
    refine kl 13 #[false, false, false, false, false, false, false, false, false, false, false, false, false, false] (by kernel_rfl) (by kernel_rfl) ?_; intro wn za; have hX := za; obtain ⟨zf, zg, B⟩ := zM B za; try replace r2 := r2.be za
    try replace r3 := r3.be za
    try replace q5 := q5.be za
    try replace g6 := g6.be za
    try replace rs := rs.be za
    simp only [List.length_cons, List.length_nil, Nat.reduceAdd]; refine z6 0 rfl (by kernel_rfl) ⟨_, zC hX⟩ ?_; intro K hK; try simp only [zR]
    (first | (refine Zm (t := 64) rfl _ _ _ rfl (fun w hw => qE (zY r3B w hw) isAgg64 (by kernel_rfl)) (by rfl) ?_; simp only [zn]; go_big_quiet_on) | (refine qW rfl _ rfl (vx q5B) ?_; simp only [zn]; go_big_quiet_on) | (go_big_quiet_op; go_big_quiet_on))
    simp only [zn]; refine z6 1 rfl (by kernel_rfl) ⟨_, zC hX⟩ ?_; intro K hK; try simp only [zR]
    (first | (refine Zm (t := 64) rfl _ _ _ rfl (fun w hw => qE (zY r3B w hw) isAgg64 (by kernel_rfl)) (by rfl) ?_; simp only [zn]; go_big_quiet_on) | (refine qW rfl _ rfl (vx q5B) ?_; simp only [zn]; go_big_quiet_on) | (go_big_quiet_op; go_big_quiet_on))
    simp only [zn]; refine z6 2 rfl (by kernel_rfl) ⟨_, zC hX⟩ ?_; intro K hK; try simp only [zR]
    (first | (refine Zm (t := 64) rfl _ _ _ rfl (fun w hw => qE (zY r3B w hw) isAgg64 (by kernel_rfl)) (by rfl) ?_; simp only [zn]; go_big_quiet_on) | (refine qW rfl _ rfl (vx q5B) ?_; simp only [zn]; go_big_quiet_on) | (go_big_quiet_op; go_big_quiet_on))
    simp only [zn]; refine z6 5 rfl (by kernel_rfl) ⟨_, zC hX⟩ ?_; intro K hK; try simp only [zR]
    (first | (refine Zm (t := 64) rfl _ _ _ rfl (fun w hw => qE (zY r3B w hw) isAgg64 (by kernel_rfl)) (by rfl) ?_; simp only [zn]; go_big_quiet_on) | (refine qW rfl _ rfl (vx q5B) ?_; simp only [zn]; go_big_quiet_on) | (go_big_quiet_op; go_big_quiet_on))
    simp only [zn]; refine z6 6 rfl (by kernel_rfl) ⟨_, zC hX⟩ ?_; intro K hK; try simp only [zR]
    (first | (refine Zm (t := 64) rfl _ _ _ rfl (fun w hw => qE (zY r3B w hw) isAgg64 (by kernel_rfl)) (by rfl) ?_; simp only [zn]; go_big_quiet_on) | (refine qW rfl _ rfl (vx q5B) ?_; simp only [zn]; go_big_quiet_on) | (go_big_quiet_op; go_big_quiet_on))
    simp only [zn]; refine z6 7 rfl (by kernel_rfl) ⟨_, zC hX⟩ ?_; intro K hK; try simp only [zR]
    (first | (refine Zm (t := 64) rfl _ _ _ rfl (fun w hw => qE (zY r3B w hw) isAgg64 (by kernel_rfl)) (by rfl) ?_; simp only [zn]; go_big_quiet_on) | (refine qW rfl _ rfl (vx q5B) ?_; simp only [zn]; go_big_quiet_on) | (go_big_quiet_op; go_big_quiet_on))
    simp only [zn]; refine z6 10 rfl (by kernel_rfl) ⟨_, zC hX⟩ ?_; intro K hK; try simp only [zR]
    (first | (refine Zm (t := 64) rfl _ _ _ rfl (fun w hw => qE (zY r3B w hw) isAgg64 (by kernel_rfl)) (by rfl) ?_; simp only [zn]; go_big_quiet_on) | (refine qW rfl _ rfl (vx q5B) ?_; simp only [zn]; go_big_quiet_on) | (go_big_quiet_op; go_big_quiet_on))
    simp only [zn]; refine j9 3 12 rfl rfl (by kernel_rfl) rfl rfl (fun K hK => ?_) (fun K hK => ?_)
    ·skip
     go_simp
     go_at_call 71
     refine (ZU _ L n _ rfl _ (HL.out.be B) hn).mono ?_; rintro e wn ⟨rfl, za⟩; have zf := B.size; have zg := za.size; have hsx := hX.size; replace B := B.trans (za.mono B.size); replace hX := hX.trans (za.mono hX.size); try replace r2 := r2.be za
     try replace r3 := r3.be za
     try replace q5 := q5.be za
     try replace g6 := g6.be za
     try replace rs := rs.be za
     refine hK _ _ ⟨fun _ => ⟨_, zC hX⟩, ?_⟩; clear hK K; simp only [zn]; refine z6 4 rfl (by kernel_rfl) ⟨_, zC hX⟩ ?_; intro K hK; try simp only [zR]
     (first | (refine Zm (t := 64) rfl _ _ _ rfl (fun w hw => qE (zY r3B w hw) isAgg64 (by kernel_rfl)) (by rfl) ?_; simp only [zn]; go_big_quiet_on) | (refine qW rfl _ rfl (vx q5B) ?_; simp only [zn]; go_big_quiet_on) | (go_big_quiet_op; go_big_quiet_on))
     simp only [zn]; refine j9 8 12 rfl rfl (by kernel_rfl) rfl rfl (fun K hK => ?_) (fun K hK => ?_)
     ·skip
      go_simp
      go_at_call 71
      refine (ZU _ L (n + 1) _ (by omega) _ (HL.out.be B) hn).mono ?_; rintro e wn ⟨rfl, za⟩; have zf := B.size; have zg := za.size; have hsx := hX.size; replace B := B.trans (za.mono B.size); replace hX := hX.trans (za.mono hX.size); try replace r2 := r2.be za
      try replace r3 := r3.be za
      try replace q5 := q5.be za
      try replace g6 := g6.be za
      try replace rs := rs.be za
      refine hK _ _ ⟨fun _ => ⟨_, zC hX⟩, ?_⟩; clear hK K; simp only [zn]; refine z6 9 rfl (by kernel_rfl) ⟨_, zC hX⟩ ?_; intro K hK; try simp only [zR]
      (first | (refine Zm (t := 64) rfl _ _ _ rfl (fun w hw => qE (zY r3B w hw) isAgg64 (by kernel_rfl)) (by rfl) ?_; simp only [zn]; go_big_quiet_on) | (refine qW rfl _ rfl (vx q5B) ?_; simp only [zn]; go_big_quiet_on) | (go_big_quiet_op; go_big_quiet_on))
      simp only [zn]; refine j9 11 12 rfl rfl (by kernel_rfl) rfl rfl (fun K hK => ?_) (fun K hK => ?_)
      ·skip
       go_simp
       go_at_call 70
       refine (Yz _ (yp L k) x y _ _ rs (kD L k) (by unfold maxLen; omega) wx wy (wD _)).mono ?_
       rintro e wn ⟨v1, rfl, rs1, za⟩; obtain ⟨a1, c1, rfl, hc1⟩ := rs1.len; have zf := B.size; have zg := za.size; have hsx := hX.size; replace B := B.trans (za.mono B.size); replace hX := hX.trans (za.mono hX.size); try replace r2 := r2.be za
       try replace r3 := r3.be za
       try replace q5 := q5.be za
       try replace g6 := g6.be za
       refine hK _ _ ⟨fun _ => ⟨_, zC hX⟩, ?_⟩; clear hK K; simp only [zn]; refine zU 12 rfl (by kernel_rfl) rfl (fun K hK => ?_); refine zO (t := 82) _ (qJ _ _ rfl) ?_; intro b_g6 wn zb zd ht za zg; have zf := B.size; have hsx := hX.size; replace B := B.trans (za.mono (by omega)); replace hX := hX.trans (za.mono (by omega)); try replace r2 := r2.be (za.mono zb)
       try replace r3 := r3.be (za.mono zb)
       try replace q5 := q5.be (za.mono zb)
       try replace g6 := g6.be (za.mono zb)
       try replace rs := rs.be (za.mono zb)
       try replace rs1 := rs1.be (za.mono zb)
       have g6 := ht; clear ht; refine hK _ _ ⟨fun _ => ⟨_, zC hX⟩, ?_⟩; clear hK K; simp only [zn]; refine qT (by kernel_rfl) (by kernel_rfl) ?_; simp only [List.drop_succ_cons, List.drop_zero]; go_wp2_with (first | (refine zZ (t := 82) rfl _ _ rfl _ rfl _ rfl g6 (by kernel_rfl) rfl (by simp [Value.oneCell']) (xV B (by omega) ?_); have g6o := g6; clear g6 B; intro wn g6 ze zf zg B; replace rs1 := rs1.chg g6o (by simp) ze; (try replace r2 := r2.cg ze); (try replace r3 := r3.cg ze); (try replace q5 := q5.cg ze); simp only [zn]) | fail)
       refine zI.normal ?_; go_wp2_with fail
       go_meet; exact ⟨b_g6, a1, c1, _, rfl, by rw [E.out]; exact g6, by rw [E.out]; exact rs1, B, r2, r3⟩
      ·skip
       refine zO (t := 82) _ (qJ _ _ rfl) ?_; intro b_g6 wn zb zd ht za zg; have zf := B.size; have hsx := hX.size; replace B := B.trans (za.mono (by omega)); replace hX := hX.trans (za.mono (by omega)); try replace r2 := r2.be (za.mono zb)
       try replace r3 := r3.be (za.mono zb)
       try replace q5 := q5.be (za.mono zb)
       try replace g6 := g6.be (za.mono zb)
       try replace rs := rs.be (za.mono zb)
       try replace rs1 := rs1.be (za.mono zb)
       have g6 := ht; clear ht; refine hK _ _ ⟨fun _ => ⟨_, zC hX⟩, ?_⟩; clear hK K; simp only [zn]; refine zU 11 rfl (by kernel_rfl) rfl (fun K hK => ?_); go_simp
       go_at_call 70
       refine (Yz _ (yp L k) x y _ _ rs (kD L k) (by unfold maxLen; omega) wx wy (wD _)).mono ?_
       rintro e wn ⟨v1, rfl, rs1, za⟩; obtain ⟨a1, c1, rfl, hc1⟩ := rs1.len; have zf := B.size; have zg := za.size; have hsx := hX.size; replace B := B.trans (za.mono B.size); replace hX := hX.trans (za.mono hX.size); try replace r2 := r2.be za
       try replace r3 := r3.be za
       try replace q5 := q5.be za
       try replace g6 := g6.be za
       refine hK _ _ ⟨fun _ => ⟨_, zC hX⟩, ?_⟩; clear hK K; simp only [zn]; refine qT (by kernel_rfl) (by kernel_rfl) ?_; simp only [List.drop_succ_cons, List.drop_zero]; go_wp2_with (first | (refine zZ (t := 82) rfl _ _ rfl _ rfl _ rfl g6 (by kernel_rfl) rfl (by simp [Value.oneCell']) (xV B (by omega) ?_); have g6o := g6; clear g6 B; intro wn g6 ze zf zg B; replace rs1 := rs1.chg g6o (by simp) ze; (try replace r2 := r2.cg ze); (try replace r3 := r3.cg ze); (try replace q5 := q5.cg ze); simp only [zn]) | fail)
       refine zI.normal ?_; go_wp2_with fail
       go_meet; exact ⟨b_g6, a1, c1, _, rfl, by rw [E.out]; exact g6, by rw [E.out]; exact rs1, B, r2, r3⟩
     ·skip
      refine zO (t := 82) _ (qJ _ _ rfl) ?_; intro b_g6 wn zb zd ht za zg; have zf := B.size; have hsx := hX.size; replace B := B.trans (za.mono (by omega)); replace hX := hX.trans (za.mono (by omega)); try replace r2 := r2.be (za.mono zb)
      try replace r3 := r3.be (za.mono zb)
      try replace q5 := q5.be (za.mono zb)
      try replace g6 := g6.be (za.mono zb)
      try replace rs := rs.be (za.mono zb)
      try replace rs1 := rs1.be (za.mono zb)
      have g6 := ht; clear ht; refine hK _ _ ⟨fun _ => ⟨_, zC hX⟩, ?_⟩; clear hK K; simp only [zn]; refine zU 8 rfl (by kernel_rfl) rfl (fun K hK => ?_); go_simp
      go_at_call 71
      refine (ZU _ L (n + 1) _ (by omega) _ (HL.out.be B) hn).mono ?_; rintro e wn ⟨rfl, za⟩; have zf := B.size; have zg := za.size; have hsx := hX.size; replace B := B.trans (za.mono B.size); replace hX := hX.trans (za.mono hX.size); try replace r2 := r2.be za
      try replace r3 := r3.be za
      try replace q5 := q5.be za
      try replace g6 := g6.be za
      try replace rs := rs.be za
      refine hK _ _ ⟨fun _ => ⟨_, zC hX⟩, ?_⟩; clear hK K; simp only [zn]; refine z6 9 rfl (by kernel_rfl) ⟨_, zC hX⟩ ?_; intro K hK; try simp only [zR]
      (first | (refine Zm (t := 64) rfl _ _ _ rfl (fun w hw => qE (zY r3B w hw) isAgg64 (by kernel_rfl)) (by rfl) ?_; simp only [zn]; go_big_quiet_on) | (refine qW rfl _ rfl (vx q5B) ?_; simp only [zn]; go_big_quiet_on) | (go_big_quiet_op; go_big_quiet_on))
      simp only [zn]; refine zU 11 rfl (by kernel_rfl) rfl (fun K hK => ?_); go_simp
      go_at_call 70
      refine (Yz _ (yp L k) x y _ _ rs (kD L k) (by unfold maxLen; omega) wx wy (wD _)).mono ?_
      rintro e wn ⟨v1, rfl, rs1, za⟩; obtain ⟨a1, c1, rfl, hc1⟩ := rs1.len; have zf := B.size; have zg := za.size; have hsx := hX.size; replace B := B.trans (za.mono B.size); replace hX := hX.trans (za.mono hX.size); try replace r2 := r2.be za
      try replace r3 := r3.be za
      try replace q5 := q5.be za
      try replace g6 := g6.be za
      refine hK _ _ ⟨fun _ => ⟨_, zC hX⟩, ?_⟩; clear hK K; simp only [zn]; refine qT (by kernel_rfl) (by kernel_rfl) ?_; simp only [List.drop_succ_cons, List.drop_zero]; go_wp2_with (first | (refine zZ (t := 82) rfl _ _ rfl _ rfl _ rfl g6 (by kernel_rfl) rfl (by simp [Value.oneCell']) (xV B (by omega) ?_); have g6o := g6; clear g6 B; intro wn g6 ze zf zg B; replace rs1 := rs1.chg g6o (by simp) ze; (try replace r2 := r2.cg ze); (try replace r3 := r3.cg ze); (try replace q5 := q5.cg ze); simp only [zn]) | fail)
      refine zI.normal ?_; go_wp2_with fail
      go_meet; exact ⟨b_g6, a1, c1, _, rfl, by rw [E.out]; exact g6, by rw [E.out]; exact rs1, B, r2, r3⟩
    ·skip
     refine zO (t := 82) _ (qJ _ _ rfl) ?_; intro b_g6 wn zb zd ht za zg; have zf := B.size; have hsx := hX.size; replace B := B.trans (za.mono (by omega)); replace hX := hX.trans (za.mono (by omega)); try replace r2 := r2.be (za.mono zb)
     try replace r3 := r3.be (za.mono zb)
     try replace q5 := q5.be (za.mono zb)
     try replace g6 := g6.be (za.mono zb)
     try replace rs := rs.be (za.mono zb)
     try replace rs1 := rs1.be (za.mono zb)
     have g6 := ht; clear ht; refine hK _ _ ⟨fun _ => ⟨_, zC hX⟩, ?_⟩; clear hK K; simp only [zn]; refine zU 3 rfl (by kernel_rfl) rfl (fun K hK => ?_); go_simp
     go_at_call 71
     refine (ZU _ L n _ rfl _ (HL.out.be B) hn).mono ?_; rintro e wn ⟨rfl, za⟩; have zf := B.size; have zg := za.size; have hsx := hX.size; replace B := B.trans (za.mono B.size); replace hX := hX.trans (za.mono hX.size); try replace r2 := r2.be za
     try replace r3 := r3.be za
     try replace g6 := g6.be za
     try replace rs := rs.be za
     refine hK _ _ ⟨fun _ => ⟨_, zC hX⟩, ?_⟩; clear hK K; simp only [zn]; refine z6 4 rfl (by kernel_rfl) ⟨_, zC hX⟩ ?_; intro K hK; try simp only [zR]
     (first | (refine Zm (t := 64) rfl _ _ _ rfl (fun w hw => qE (zY r3B w hw) isAgg64 (by kernel_rfl)) (by rfl) ?_; simp only [zn]; go_big_quiet_on) | (refine qW rfl _ rfl (vx q5B) ?_; simp only [zn]; go_big_quiet_on) | (go_big_quiet_op; go_big_quiet_on))
     simp only [zn]; refine zU 8 rfl (by kernel_rfl) rfl (fun K hK => ?_); go_simp
     go_at_call 71
     refine (ZU _ L (n + 1) _ (by omega) _ (HL.out.be B) hn).mono ?_; rintro e wn ⟨rfl, za⟩; have zf := B.size; have zg := za.size; have hsx := hX.size; replace B := B.trans (za.mono B.size); replace hX := hX.trans (za.mono hX.size); try replace r2 := r2.be za
     try replace r3 := r3.be za
     try replace g6 := g6.be za
     try replace rs := rs.be za
     refine hK _ _ ⟨fun _ => ⟨_, zC hX⟩, ?_⟩; clear hK K; simp only [zn]; refine z6 9 rfl (by kernel_rfl) ⟨_, zC hX⟩ ?_; intro K hK; try simp only [zR]
     (first | (refine Zm (t := 64) rfl _ _ _ rfl (fun w hw => qE (zY r3B w hw) isAgg64 (by kernel_rfl)) (by rfl) ?_; simp only [zn]; go_big_quiet_on) | (refine qW rfl _ rfl (vx q5B) ?_; simp only [zn]; go_big_quiet_on) | (go_big_quiet_op; go_big_quiet_on))
     simp only [zn]; refine zU 11 rfl (by kernel_rfl) rfl (fun K hK => ?_); go_simp
     go_at_call 70
     refine (Yz _ (yp L k) x y _ _ rs (kD L k) (by unfold maxLen; omega) wx wy (wD _)).mono ?_
     rintro e wn ⟨v1, rfl, rs1, za⟩; obtain ⟨a1, c1, rfl, hc1⟩ := rs1.len; have zf := B.size; have zg := za.size; have hsx := hX.size; replace B := B.trans (za.mono B.size); replace hX := hX.trans (za.mono hX.size); try replace r2 := r2.be za
     try replace r3 := r3.be za
     try replace g6 := g6.be za
     refine hK _ _ ⟨fun _ => ⟨_, zC hX⟩, ?_⟩; clear hK K; simp only [zn]; refine qT (by kernel_rfl) (by kernel_rfl) ?_; simp only [List.drop_succ_cons, List.drop_zero]; go_wp2_with (first | (refine zZ (t := 82) rfl _ _ rfl _ rfl _ rfl g6 (by kernel_rfl) rfl (by simp [Value.oneCell']) (xV B (by omega) ?_); have g6o := g6; clear g6 B; intro wn g6 ze zf zg B; replace rs1 := rs1.chg g6o (by simp) ze; (try replace r2 := r2.cg ze); (try replace r3 := r3.cg ze); simp only [zn]) | fail)
     refine zI.normal ?_; go_wp2_with fail
     go_meet; exact ⟨b_g6, a1, c1, _, rfl, by rw [E.out]; exact g6, by rw [E.out]; exact rs1, B, r2, r3⟩
   case rest =>
    obtain ⟨b_g6, a1, c1, e1, rfl, g6, rs1, B, r2, r3⟩ := hcut; go_wp2_with (first | (refine zZ (t := 64) rfl _ _ rfl _ rfl _ rfl r3 (by kernel_rfl) rfl (by simp [Value.oneCell']) (xV B (by omega) ?_); have r3o := r3; clear r3 B; intro wn r3 ze zf zg B; replace rs1 := rs1.chg r3o (by simp) ze; (try replace r2 := r2.cg ze); (try replace g6 := g6.cg ze); simp only [zn]) | (refine zp (t := 64) rfl _ rfl _ _ _ rfl (jQ (g6.cell 0 rfl)) (by rfl) ?_; simp only [zn]) | fail)
    go_roundw
    case rel => exact ⟨k + 1, n + 3, a1, c1, by have := HN.out; omega, by omega, by go_num, B, r2, r3, rs1⟩
    case measure => simp [intOf]; omega
  ·have E := zo (show yp L k = kw L from by
    unfold kw; by_cases hk40 : k = 40
    ·rw [hk40]
    ·have := JX L k (by omega) (40 - k)
     rw [show k + (40 - k) = 40 by omega] at this; exact this.symm)
   have hnb : n ≤ 120 := by omega
   clear hn3; by_cases hix : n + 2 < L.length
   ·have d1 : decide ((n : Int) + 2 < (L.length : Int)) = true := zQ (by omega)
    have d2 : decide ((n : Int) < 120) = false := zB (by omega); clear hq; go_wp2_with (first | (refine zZ (t := 64) rfl _ _ rfl _ rfl _ rfl r2 (by kernel_rfl) rfl (by simp [Value.oneCell']) (xV B (by omega) ?_); have r2o := r2; clear r2 B; intro wn r2 ze zf zg B; replace rs := rs.chg r2o (by simp) ze; (try replace r3 := r3.cg ze); simp only [zn]) | (first | refine yN ?_ | refine yO ?_) | fail)
    refine qO r2 ?_; exact ⟨_, rfl, by rw [← E.out]; exact rs, B⟩
   ·have d1 : decide ((n : Int) + 2 < (L.length : Int)) = false := zB (by omega)
    clear hq; go_wp2_with (first | (refine zZ (t := 64) rfl _ _ rfl _ rfl _ rfl r2 (by kernel_rfl) rfl (by simp [Value.oneCell']) (xV B (by omega) ?_); have r2o := r2; clear r2 B; intro wn r2 ze zf zg B; replace rs := rs.chg r2o (by simp) ze; (try replace r3 := r3.cg ze); simp only [zn]) | (first | refine yN ?_ | refine yO ?_) | fail)
    refine qO r2 ?_; exact ⟨_, rfl, by rw [← E.out]; exact rs, B⟩
theorem zhm (ls : List TA) (i k : Nat) (e : TA) (hi : i < ls.length) : aT (ls.set i e) k = if k = i then e else aT ls k := by
 unfold aT
 rw [List.getD_eq_getElem?_getD, List.getD_eq_getElem?_getD, List.getElem?_set]
 by_cases h : i = k
 ·subst h; simp [hi]
 ·rw [if_neg h, if_neg (Ne.symm h)]
theorem QY (b : Nat) : ∀ (vs : List Value) (o : Nat) (w : World), (w.setCells b o vs).heap.size = w.heap.size
 | [], _, _ => rfl
 | v :: r, o, w => by
  show ((w.setCell ⟨b, o, none⟩ v).setCells b (o + 1) r).heap.size = _
  rw [QY b r, World.size_setCell]
theorem qP.put {g o i s : Nat} {ls : List TA} {w : World} {vs : List Value} (h : qP g o ls w) (e' : TA) (hi : i < ls.length) (hs : s + vs.length ≤ 258)
  (he : ∀ j, j < 258 → (xE e')[j]? = if s ≤ j ∧ j < s + vs.length then vs[j - s]? else (xE (aT ls i))[j]?) : qP g o (ls.set i e') (w.setCells g (o + i * 258 + s) vs) := by
 refine ⟨by rw [QY]; exact h.1, fun k hk j hj => ?_⟩
 rw [List.length_set] at hk
 rw [zhm ls i k e' hi]
 have hsome : ∀ j, j < vs.length → (w.cell? ⟨g, o + i * 258 + s + j, none⟩).isSome = true := fun j hj => by
  have := h.2 i hi (s + j) (by omega); rw [show o + i * 258 + s + j = o + (i * 258 + (s + j)) by omega, this, Array.getElem?_eq_getElem (by rw [zP]; omega)]
  rfl
 by_cases hki : k = i
 ·subst hki
  rw [if_pos rfl, he j hj]; by_cases hj2 : s ≤ j ∧ j < s + vs.length
  ·rw [if_pos hj2, show o + (k * 258 + j) = o + k * 258 + s + (j - s) by omega, World.cell?_setCells_in g vs _ w hsome (j - s) (by omega), List.getElem?_eq_getElem]
  ·rw [if_neg hj2, World.cell?_setCells_out g vs _ w _ (fun _ _ => by show o + (k * 258 + j) < o + k * 258 + s ∨ o + k * 258 + s + vs.length ≤ o + (k * 258 + j); omega)]
   exact h.2 k hk j hj
 ·rw [if_neg hki, World.cell?_setCells_out g vs _ w _ (fun _ _ => by
   show o + (k * 258 + j) < o + i * 258 + s ∨ o + i * 258 + s + vs.length ≤ o + (k * 258 + j)
   rcases Nat.lt_or_gt_of_ne hki with hh | hh
   ·left; have : (k + 1) * 258 ≤ i * 258 := Nat.mul_le_mul_right _ hh; omega
   ·right; have : (i + 1) * 258 ≤ k * 258 := Nat.mul_le_mul_right _ hh; omega)]
  exact h.2 k hk j hj
theorem xU.row {B : Nat} {v : Value} {ls : List TA} {w : World} (h : xU B v ls w) (hl : 0 < ls.length) : ∃ g c, v = .slice (some ⟨g, 0, none⟩) ls.length c ∧ B ≤ g ∧ qP g 0 ls w ∧ ∀ j, w.frozen? ⟨g, j, none⟩ = false := by
 have hr := h.rs
 obtain ⟨h1, h2⟩ := h
 rcases h2 with ⟨rfl, h0⟩ | ⟨g, cap, cur, rfl, hb, hg, hn, hm, hs, ht⟩
 ·exact absurd hl (by omega)
 ·obtain ⟨g', o', e, rc⟩ := hr.at hl
  injection e with e
  injection e with e1 e2
  subst e1; subst e2; exact ⟨g, cap, rfl, hb, rc, fun j => zw.frozen (t := 125) hg j⟩
section
variable {ops : Array Oper} {rest : List Oper} {o : Oper} {a : Act} {w : World} {Q : Exit → Act → World → Prop} {ls : List TA} {g : Nat}
end
structure zfN where
 at_ : Int
 px : Int
 py : Int
 how : Int
def zjp (t : Nat → Px) : Nat → Px := ZP t 5 ⟨9, (t 5).g, (t 5).b, (t 5).a⟩
def zi2 (q : zfN) (T : List Int) (e : TA) : TA :=
 if q.how % 8 = 1 then ⟨q.px, q.py, e.t⟩ else if q.how % 8 = 2 then ⟨e.x, e.y, zgT T⟩ else if q.how % 8 = 3 then ⟨e.x, e.y, zjp e.t⟩ else e
def ofI (q : zfN) (n : Nat) : Nat := (q.at_ % 65536).toNat % n
def ofR (q : zfN) (T : List Int) (r : List TA) : List TA :=
 if r.length = 0 then r else if q.how % 8 = 4 then r ++ [aT r (ofI q r.length)] else r.set (ofI q r.length) (zi2 q T (aT r (ofI q r.length)))
def zku (q : zfN) (L T : List Int) : List TA := ofR q T (kw L)
theorem zb6 (L : List Int) : qQ (kw L) := kD L 40
theorem zb5 (L : List Int) : (kw L).length ≤ 1024 := XV L 40
theorem zdu (v : Value) (L : List Int) (w : World) (h : xh inE v L w) (hn : L.length ≤ 17592186044416) : Calls Tryz.prog 29 #[v] w fun e w' => ∃ a c, e = .returned (.agg #[.slice a (kw L).length c]) ∧ RS (.slice a (kw L).length c) (kw L) w' ∧ Below w.heap.size w w' :=
 (zfJ v L w h hn).mono fun e w' ⟨v', he, hr, hb⟩ => by
  obtain ⟨a, c, rfl, _⟩ := hr.len; exact ⟨a, c, he, hr, hb⟩
def ziD (i : Nat) : TA := ⟨(i : Int) % 40, (i : Int) / 40, zgQ ⟨(i : Int) % 256, 0, 0, 255⟩⟩
def ziE (n : Nat) : List TA := (List.range n).map ziD
def zix (c : Rc) (x y : Int) (t : Nat → Px) : Nat → Px := fun i => if i < 64 then (if jx c (x * 8 + (i : Int) % 8) (y * 8 + (i : Int) / 8) = true then t i else Px.zero) else t i
def zjI (c : Rc) (e : TA) : List TA := jr e.x e.y (zix c e.x e.y e.t)
theorem xe (r : Rc) (x y : Int) : jx r x y = true ↔ (r.x0 ≤ x ∧ x < r.x1 ∧ r.y0 ≤ y ∧ y < r.y1) := by unfold jx; exact decide_eq_true_iff
theorem WA (r : Rc) : z8 r = true ↔ (r.x1 ≤ r.x0 ∨ r.y1 ≤ r.y0) := by unfold z8; exact decide_eq_true_iff
theorem kB (r : Rc) : z8 r = false ↔ (r.x0 < r.x1 ∧ r.y0 < r.y1) := by
 rw [← Bool.not_eq_true, WA]; omega
theorem wP (t : Nat → Px) : ju t = true ↔ ∀ i, i < 64 → (t i).a = 0 := by
 unfold ju
 rw [decide_eq_true_iff]
 exact ⟨fun h i hi => h i (List.mem_range.2 hi), fun h i hi => h i (List.mem_range.1 hi)⟩
theorem XS (e : TA) : vf e = true ↔ qo e.x e.y = true ∧ ju e.t = false ∧ wV (qI e.t) e.t = true := by
 unfold vf
 rw [Bool.and_eq_true, Bool.and_eq_true, Bool.not_eq_true']
theorem zdR {t u : Nat → Px} (h : wV t u = true) {i : Nat} (hi : i < 64) : t i = u i := by
 unfold wV at h
 exact of_decide_eq_true h i (List.mem_range.2 hi)
theorem zdQ (e : TA) : eqA e e = true := by
 unfold eqA yG
 rw [zdT, zQ ⟨rfl, rfl⟩]
 rfl
theorem K7 (ls : List TA) : eqL ls ls = true := zaI rfl fun j _ => zdQ _
def Vis (ls : List TA) (x y : Int) : Prop := ∃ e, e ∈ ls ∧ ∃ i : Nat, i < 64 ∧ 0 < (e.t i).a ∧ x = e.x * 8 + (i : Int) % 8 ∧ y = e.y * 8 + (i : Int) / 8
def zdC (V : Int → Int → Prop) (r : Rc) : Prop := (r = Rc.zero ∧ ∀ x y, ¬ V x y) ∨ (z8 r = false ∧ (∀ x y, V x y → jx r x y = true) ∧ (∃ y, V r.x0 y) ∧ (∃ x, V x r.y0) ∧ (∃ y, V (r.x1 - 1) y) ∧ ∃ x, V x (r.y1 - 1))
theorem zdC.add {V : Int → Int → Prop} {r : Rc} (h : zdC V r) (x y : Int) : zdC (fun a b => V a b ∨ (a = x ∧ b = y)) (yx r ⟨x, y, x + 1, y + 1⟩) := by
 have h1 : z8 ⟨x, y, x + 1, y + 1⟩ = false := (kB _).2 ⟨by show x < x + 1; omega, by show y < y + 1; omega⟩
 rcases h with ⟨rfl, hn⟩ | ⟨he, hin, ⟨ya, ha⟩, ⟨xb, hb⟩, ⟨yc, hc⟩, ⟨xd, hd⟩⟩
 ·have e : yx Rc.zero ⟨x, y, x + 1, y + 1⟩ = ⟨x, y, x + 1, y + 1⟩ := by
   unfold yx kR; rw [if_pos (by decide), h1]
   rfl
  rw [e]; refine .inr ⟨h1, fun a b hv => ?_, ⟨y, .inr ⟨rfl, rfl⟩⟩, ⟨x, .inr ⟨rfl, rfl⟩⟩, ⟨y, .inr ⟨by show x + 1 - 1 = x; omega, rfl⟩⟩, ⟨x, .inr ⟨rfl, by show y + 1 - 1 = y; omega⟩⟩⟩
  rcases hv with hv | ⟨rfl, rfl⟩
  ·exact absurd hv (hn a b)
  ·rw [xe]; simp only; omega
 ·have e : yx r ⟨x, y, x + 1, y + 1⟩ = ⟨min r.x0 x, min r.y0 y, max r.x1 (x + 1), max r.y1 (y + 1)⟩ := by
   unfold yx; rw [he, h1, if_neg (by decide), if_neg (by decide)]
  rw [e]; have hen := (kB r).1 he; refine .inr ⟨(kB _).2 ⟨by show min r.x0 x < max r.x1 (x + 1); omega, by show min r.y0 y < max r.y1 (y + 1); omega⟩, fun a b hv => ?_, ?_, ?_, ?_, ?_⟩
  ·rw [xe]
   simp only; rcases hv with hv | ⟨rfl, rfl⟩
   ·have := (xe r a b).1 (hin a b hv)
    omega
   ·omega
  ·show ∃ b, V (min r.x0 x) b ∨ (min r.x0 x = x ∧ b = y)
   by_cases hh : r.x0 ≤ x
   ·exact ⟨ya, .inl (by rw [Int.min_eq_left hh]; exact ha)⟩
   ·exact ⟨y, .inr ⟨by omega, rfl⟩⟩
  ·show ∃ a, V a (min r.y0 y) ∨ (a = x ∧ min r.y0 y = y)
   by_cases hh : r.y0 ≤ y
   ·exact ⟨xb, .inl (by rw [Int.min_eq_left hh]; exact hb)⟩
   ·exact ⟨x, .inr ⟨rfl, by omega⟩⟩
  ·show ∃ b, V (max r.x1 (x + 1) - 1) b ∨ (max r.x1 (x + 1) - 1 = x ∧ b = y)
   by_cases hh : x + 1 ≤ r.x1
   ·exact ⟨yc, .inl (by rw [Int.max_eq_left hh]; exact hc)⟩
   ·exact ⟨y, .inr ⟨by omega, rfl⟩⟩
  ·show ∃ a, V a (max r.y1 (y + 1) - 1) ∨ (a = x ∧ max r.y1 (y + 1) - 1 = y)
   by_cases hh : y + 1 ≤ r.y1
   ·exact ⟨xd, .inl (by rw [Int.max_eq_left hh]; exact hd)⟩
   ·exact ⟨x, .inr ⟨rfl, by omega⟩⟩
theorem zae (ls : List TA) (x y : Int) : qc ls x y = zT ∨ ∃ e, e ∈ ls ∧ e.x = x ∧ e.y = y ∧ qc ls x y = e.t := by
 induction ls with
 | nil => exact .inl rfl
 | cons e r ih =>
  unfold qc; by_cases h : yG e.x e.y x y = true
  ·rw [if_pos h]
   have := of_decide_eq_true h; exact .inr ⟨e, List.mem_cons_self .., this.1, this.2, rfl⟩
  ·rw [if_neg h]
   rcases ih with ih | ⟨k, hk, hr⟩
   ·exact .inl ih
   ·exact .inr ⟨k, List.mem_cons_of_mem _ hk, hr⟩
def ziV (L : List TA) : j2 := ⟨Option Addr × Nat, ⟨(none, 0)⟩, fun x => .agg #[.slice x.1 L.length x.2], fun x w => RS (.slice x.1 L.length x.2) L w, fun _ _ _ hb h => h.be hb⟩
def zkE (L : List TA) (n : Int) : j2 := ⟨Option Addr × Nat, ⟨(none, 0)⟩, fun x => .tuple #[.agg #[.slice x.1 L.length x.2], .int .i64 n], fun x w => RS (.slice x.1 L.length x.2) L w, fun _ _ _ hb h => h.be hb⟩
def zkb (L : List TA) (n : Int) : j2 := ⟨Option Addr × Nat, ⟨(none, 0)⟩, fun x => .agg #[.slice x.1 L.length x.2, .int .i64 n], fun x w => RS (.slice x.1 L.length x.2) L w, fun _ _ _ hb h => h.be hb⟩
def zgv (n : Nat) (t : TypeId) (cs : Array Value) : j2 := ⟨Nat, ⟨0⟩, fun b => .pointer (some ⟨b, 0, none⟩), fun b w => n ≤ b ∧ zw t w b cs, fun _ _ _ hb h => ⟨h.1, h.2.of_eq (hb.block _ h.2.lt)⟩⟩
theorem WG {n : Nat} (h : n ≤ 2000) : n ≤ maxLen := by unfold maxLen; omega
theorem Ju (v : Value) (ls : List TA) (r : Bool) (w : World) (h : RS v ls w) (tk : qQ ls) (hn : ls.length ≤ maxLen) (e : ql ls = r) : Calls Tryz.prog 41 #[.agg #[v]] w fun e w' => e = .returned (.bool r) ∧ Below w.heap.size w w' := e ▸ Yu v ls w h tk hn
def zjU (c : Rc) : Rc := ⟨c.x0 % 64 - 30, c.y0 % 64 - 30, c.x0 % 64 - 30 + 1 + c.x1 % 32, c.y0 % 64 - 30 + 1 + c.y1 % 32⟩
@[go_sem] theorem zgV (p0 p1 p2 pa : Int) (w : World) : (Instr.field 28 (.agg #[.int .u8 p0, .int .u8 p1, .int .u8 p2, .int .u8 pa]) 3).run Tryz.prog w = .ok (.int .u8 pa) w := by kernel_rfl
def i2 (a b : Int) (k : Nat) : Int := if k = 0 then a else b
theorem zw.cellL {t : TypeId} {w : World} {b : Nat} {l : List Value} (h : zw t w b l.toArray) (i : Nat) {v : Value} (hv : l[i]? = some v) : w.cell? ⟨b, i, none⟩ = some v := h.cell i (by simpa using hv)
theorem RS.chgT {v : Value} {ls : List TA} {b : Nat} {f : Nat → Px} {w w' : World} (h : RS v ls w) (hb : zV w b f) (hc : qY b w w') : RS v ls w' :=
 RS.chg (t := 123) (cs := qU f) h hb (by rw [jN]; omega) hc
theorem ze4 {ls : List TA} (h : QJ ls) {i j : Nat} (hij : i < j) (hj : j < ls.length) : yW (aT ls i) (aT ls j) = true := by
 have hi : i < ls.length := Nat.lt_trans hij hj
 have e : ∀ k (hk : k < ls.length), aT ls k = ls[k] := fun k hk => by
  have := vK hk; rw [List.getElem?_eq_getElem hk] at this; exact (Option.some.inj this).symm
 rw [e i hi, e j hj]
 exact List.pairwise_iff_getElem.1 h i j hi hj hij
def zke (Ls : List Int) : Nat → Px := ZP (zgT Ls) 0 ⟨0, 0, 3, 255⟩
def F24 : List TA := ziE 1024
def widN (c : Rc) : Nat := (c.x1 - c.x0).toNat
def um (c : Rc) (j : Nat) : Int := c.x0 + ((j % widN c : Nat) : Int)
def un (c : Rc) (j : Nat) : Int := c.y0 + ((j / widN c : Nat) : Int)
def JT (c : Rc) (ks : List TA) : List Px := (List.range (areaN c)).map fun j => xJ ks (um c j) (un c j)
theorem zd3 (c : Rc) (ks : List TA) : (JT c ks).length = areaN c := by unfold JT; rw [List.length_map, List.length_range]
theorem zf6 (c : Rc) (ks : List TA) {j : Nat} (hj : j < areaN c) : (JT c ks)[j]? = some (xJ ks (um c j) (un c j)) := by
 unfold JT
 rw [List.getElem?_map, List.getElem?_range hj]
 rfl
theorem xX {c : Rc} (hf : xM c) : areaN c = widN c * (c.y1 - c.y0).toNat ∧ 0 < widN c := by
 have h1 := hf.h1
 have h2 := hf.h2
 obtain ⟨W, hW⟩ : ∃ W : Nat, c.x1 - c.x0 = (W : Int) := ⟨(c.x1 - c.x0).toNat, by omega⟩
 obtain ⟨H, hH⟩ : ∃ H : Nat, c.y1 - c.y0 = (H : Int) := ⟨(c.y1 - c.y0).toNat, by omega⟩
 unfold areaN widN
 rw [hW, hH, ← Int.natCast_mul, Int.toNat_natCast, Int.toNat_natCast, Int.toNat_natCast]
 exact ⟨rfl, by omega⟩
theorem zeE {c : Rc} (hf : xM c) {j : Nat} (hj : j < areaN c) : jx c (um c j) (un c j) = true := by
 obtain ⟨ea, hw⟩ := xX hf
 have hm := Nat.mod_lt j hw
 have hd : j / widN c < (c.y1 - c.y0).toNat := Nat.div_lt_of_lt_mul (by rw [← ea]; exact hj)
 rw [xe]
 unfold um un
 have hw' : widN c = (c.x1 - c.x0).toNat := rfl
 generalize j % widN c = u at hm ⊢
 generalize j / widN c = v at hd ⊢
 have := hf.h1
 have := hf.h2
 omega
theorem zhx {c : Rc} (hf : xM c) {j : Nat} (hj : j < areaN c) {x y : Int} (hh : jx c x y = true) : (kq c x y).toNat = j ↔ x = um c j ∧ y = un c j := by
 obtain ⟨ea, hw⟩ := xX hf
 have hr := (xe c x y).1 hh
 obtain ⟨u, hu⟩ : ∃ u : Nat, x - c.x0 = (u : Int) := ⟨(x - c.x0).toNat, by omega⟩
 obtain ⟨v, hv⟩ : ∃ v : Nat, y - c.y0 = (v : Int) := ⟨(y - c.y0).toNat, by omega⟩
 have hwi : c.x1 - c.x0 = (widN c : Int) := by unfold widN; have := hf.h1; omega
 have e : (kq c x y).toNat = v * widN c + u := by
  have : kq c x y = ((v * widN c + u : Nat) : Int) := by
   unfold kq; rw [hwi, hv]; have : (v : Int) * (widN c : Int) + x - c.x0 = (v : Int) * (widN c : Int) + (u : Int) := by omega
   rw [this]; simp
  rw [this]; exact Int.toNat_natCast _
 have hul : u < widN c := by omega
 rw [e]
 unfold um un
 constructor
 ·intro h
  have hm : j % widN c = u := by rw [← h, Nat.mul_comm, Nat.mul_add_mod]; exact Nat.mod_eq_of_lt hul
  have hd : j / widN c = v := by rw [← h, Nat.mul_comm, Nat.mul_add_div hw, Nat.div_eq_of_lt hul]; omega
  rw [hm, hd]; omega
 ·rintro ⟨hx, hy⟩
  have hu' : u = j % widN c := by omega
  have hv' : v = j / widN c := by omega
  rw [hu', hv', Nat.mul_comm]; exact Nat.div_add_mod j (widN c)
def inT (x y : Int) : Nat := (8 * (y % 8) + x % 8).toNat
theorem VJ {c : Rc} (hf : xM c) (e : TA) {s : List Px} (hs : s.length = areaN c) {j : Nat} (hj : j < areaN c) : ∀ m, m ≤ 64 → (yM (wA c) e m s).1.length = areaN c ∧ (yM (wA c) e m s).1[j]? = if yG e.x e.y (um c j / 8) (un c j / 8) = true ∧ inT (um c j) (un c j) < m then some (e.t (inT (um c j) (un c j))) else s[j]?
 | 0, _ => ⟨hs, by rw [if_neg (fun h => absurd h.2 (Nat.not_lt_zero _))]; rfl⟩
 | m + 1, hm => by
  obtain ⟨hl, ih⟩ := VJ hf e hs hj m (by omega); show (if jx c (e.x * 8 + (m : Int) % 8) (e.y * 8 + (m : Int) / 8) = true then (yM (wA c) e m s).1.set (kq c (e.x * 8 + (m : Int) % 8) (e.y * 8 + (m : Int) / 8)).toNat (e.t m) else (yM (wA c) e m s).1).length = _ ∧
   (if jx c (e.x * 8 + (m : Int) % 8) (e.y * 8 + (m : Int) / 8) = true then (yM (wA c) e m s).1.set (kq c (e.x * 8 + (m : Int) % 8) (e.y * 8 + (m : Int) / 8)).toNat (e.t m) else (yM (wA c) e m s).1)[j]? = _
  by_cases hh : jx c (e.x * 8 + (m : Int) % 8) (e.y * 8 + (m : Int) / 8) = true
  ·rw [if_pos hh]
   refine ⟨by rw [List.length_set]; exact hl, ?_⟩
   rw [List.getElem?_set]; have hi := zhx hf hj hh; by_cases h1 : (kq c (e.x * 8 + (m : Int) % 8) (e.y * 8 + (m : Int) / 8)).toNat = j
   ·obtain ⟨ex, ey⟩ := hi.1 h1
    rw [if_pos h1, if_pos (by rw [h1, hl]; exact hj), ← ex, ← ey, if_pos ⟨zQ (by omega), by unfold inT; omega⟩]
    congr 2
    unfold inT; omega
   ·have hn := fun h => h1 (hi.2 h)
    rw [if_neg h1, ih]; by_cases h2 : yG e.x e.y (um c j / 8) (un c j / 8) = true ∧ inT (um c j) (un c j) < m
    ·rw [if_pos h2, if_pos ⟨h2.1, by omega⟩]
    ·rw [if_neg h2, if_neg (fun h3 => ?_)]
     have hq := of_decide_eq_true h3.1; have h4 : inT (um c j) (un c j) = m := by
      rcases Nat.lt_or_ge (inT (um c j) (un c j)) m with h5 | h5
      ·exact absurd ⟨h3.1, h5⟩ h2
      ·omega
     unfold inT at h4; exact hn ⟨by omega, by omega⟩
  ·rw [if_neg hh]
   refine ⟨hl, ?_⟩; rw [ih]; by_cases h2 : yG e.x e.y (um c j / 8) (un c j / 8) = true ∧ inT (um c j) (un c j) < m
   ·rw [if_pos h2, if_pos ⟨h2.1, by omega⟩]
   ·rw [if_neg h2, if_neg (fun h3 => ?_)]
    have hq := of_decide_eq_true h3.1; have h4 : inT (um c j) (un c j) = m := by
     rcases Nat.lt_or_ge (inT (um c j) (un c j)) m with h5 | h5
     ·exact absurd ⟨h3.1, h5⟩ h2
     ·omega
    unfold inT at h4; apply hh
    have := zeE hf hj; rw [show e.x * 8 + (m : Int) % 8 = um c j by omega, show e.y * 8 + (m : Int) / 8 = un c j by omega]; exact this
theorem zad (a : List TA) (e : TA) (x y : Int) (h : yG e.x e.y x y = false) : qc (a ++ [e]) x y = qc a x y := by
 induction a with
 | nil => show (if yG e.x e.y x y = true then e.t else zT) = zT; rw [h]; rfl
 | cons b r ih =>
  show (if yG b.x b.y x y = true then b.t else qc (r ++ [e]) x y) = if yG b.x b.y x y = true then b.t else qc r x y
  rw [ih]
theorem JZ {c : Rc} (hf : xM c) {ks : List TA} (hs : QJ ks) {j : Nat} (hj : j < areaN c) : ∀ k, k ≤ ks.length → (vm (wA c) ks (List.replicate (areaN c) Px.zero) k).1.length = areaN c ∧ (vm (wA c) ks (List.replicate (areaN c) Px.zero) k).1[j]? = some (xJ (ks.take k) (um c j) (un c j))
 | 0, _ => by
  refine ⟨List.length_replicate .., ?_⟩; show (List.replicate (areaN c) Px.zero)[j]? = some (qc [] _ _ _)
  rw [List.getElem?_replicate, if_pos hj]
  rfl
 | k + 1, hk => by
  obtain ⟨hl, ih⟩ := JZ hf hs hj k (by omega); have hr := VJ hf (aT ks k) hl hj 64 (Nat.le_refl _); refine ⟨hr.1, hr.2.trans ?_⟩; have ht : ks.take (k + 1) = ks.take k ++ [aT ks k] := by
   rw [List.take_add_one, vK (show k < ks.length from hk)]
   rfl
  have h64 : inT (um c j) (un c j) < 64 := by unfold inT; omega
  rw [ht]; unfold xJ; by_cases he : yG (aT ks k).x (aT ks k).y (um c j / 8) (un c j / 8) = true
  ·rw [if_pos ⟨he, h64⟩, ud]
   ·show _ = some ((if yG (aT ks k).x (aT ks k).y (um c j / 8) (un c j / 8) = true then (aT ks k).t else zT) _)
    rw [if_pos he]
    rfl
   ·intro b hb
    obtain ⟨i, hi⟩ := List.mem_iff_getElem?.1 hb; have hik : i < k := by
     have := (List.getElem?_eq_some_iff.1 hi).1; rw [List.length_take] at this; omega
    rw [List.getElem?_take_of_lt hik, vK (by omega)] at hi; obtain rfl := Option.some.inj hi; have zh := ze4 hs hik (show k < ks.length from hk); have hq := of_decide_eq_true he; have zh := of_decide_eq_true zh; exact zB (by omega)
  ·rw [if_neg (fun h => he h.1), ih, zad _ _ _ _ (by simpa using he)]
   rfl
theorem zd4 {c : Rc} (hf : xM c) {ks : List TA} (hv : ql ks = true) : zgR c ks = JT c ks := by
 apply List.ext_getElem?
 intro j
 by_cases hj : j < areaN c
 ·have := (JZ hf (xL hv) hj ks.length (Nat.le_refl _)).2
  rw [List.take_length] at this; rw [zf6 c ks hj]; exact this
 ·have e2 : (JT c ks)[j]? = none := List.getElem?_eq_none (by rw [zd3]; omega)
  rw [e2]; apply List.getElem?_eq_none
  have hz : 0 < areaN c := by have := (wU hf).1; omega
  have := (JZ hf (xL hv) hz ks.length (Nat.le_refl _)).1; show (vm (wA c) ks (List.replicate (areaN c) Px.zero) ks.length).1.length ≤ j
  omega
structure Dt where
 x : Int
 y : Int
 p : Px
def zim (r : List TA) : Prop := ∀ e ∈ r, -2 ≤ e.x ∧ e.x ≤ 1 ∧ -2 ≤ e.y ∧ e.y ≤ 1
theorem zaR : ∀ (l : List Nat) (m n : Nat), l.Pairwise (· < ·) → (∀ x ∈ l, m ≤ x ∧ x < n) → l.length ≤ n - m
 | [], _, _, _, _ => Nat.zero_le _
 | a :: t, m, n, hp, hb => by
  have ha := hb a (List.mem_cons_self ..); have h1 := List.pairwise_cons.1 hp; have := zaR t (a + 1) n h1.2 fun x hx => ⟨h1.1 x hx, (hb x (List.mem_cons_of_mem _ hx)).2⟩
  rw [List.length_cons]; omega
theorem K3 (p : Px) : jo (jo p) = jo p := by
 unfold jo
 split
 ·split <;> rfl
 ·rfl
section
variable {r : List TA} {X Y : Int} {p : Px} (hv : ql r = true) (hs : zim r) (hX : -16 ≤ X ∧ X ≤ 15) (hY : -16 ≤ Y ∧ Y ≤ 15)
end
def zjk (d : Dt) : Int := d.x % 32 - 16
def zjl (d : Dt) : Int := d.y % 32 - 16
def dAt (l : List Dt) (k : Nat) : Dt := l.getD k ⟨0, 0, Px.zero⟩
def zji (l : List Dt) : Nat → List TA
 | 0 => []
 | k + 1 => VS (zji l k) (zjk (dAt l k)) (zjl (dAt l k)) (dAt l k).p
def zjj (l : List Dt) : Nat → Nat → Px
 | 0 => fun _ => Px.zero
 | k + 1 => ZP (zjj l k) (((dAt l k).y % 32).toNat * 32 + ((dAt l k).x % 32).toNat) (jo (dAt l k).p)
def zjO (f : Nat → Px) : Array Value := Array.ofFn (n := 4096) fun k => pxC (f (k.val / 4)) (k.val % 4)
theorem za8 {c : Rc} (hf : xM c) {X Y : Nat} (hX : (X : Int) < c.x1 - c.x0) (hY : (Y : Int) < c.y1 - c.y0) : ∃ k : Nat, (k : Int) = (Y : Int) * (c.x1 - c.x0) + (X : Int) ∧ k < areaN c ∧ um c k = c.x0 + X ∧ un c k = c.y0 + Y := by
 obtain ⟨ea, hw⟩ := xX hf
 have hwi : c.x1 - c.x0 = (widN c : Int) := by unfold widN; have := hf.h1; omega
 have hX' : X < widN c := by omega
 refine ⟨Y * widN c + X, by rw [hwi]; simp, ?_, ?_, ?_⟩
 ·have h : (Y + 1) * widN c ≤ (c.y1 - c.y0).toNat * widN c := Nat.mul_le_mul_right _ (by omega)
  rw [Nat.add_mul, Nat.one_mul] at h; rw [ea, Nat.mul_comm (widN c)]; omega
 ·unfold um
  rw [Nat.add_comm, Nat.add_mul_mod_self_right, Nat.mod_eq_of_lt hX']
 ·unfold un
  rw [Nat.add_comm, Nat.add_mul_div_right _ _ hw, Nat.div_eq_of_lt hX', Nat.zero_add]
def ue (c : Rc) : Rc := ⟨c.x0 / 8, c.y0 / 8, (c.x1 - 1) / 8 + 1, (c.y1 - 1) / 8 + 1⟩
theorem vq {c : Rc} (h : xM c) : xM (ue c) := by
 obtain ⟨a1, a2, a3, a4, a5, a6, a7, a8⟩ := h
 refine ⟨?_, ?_, ?_, ?_, ?_, ?_, ?_, ?_⟩ <;> (unfold ue; simp only; omega)
def tlN (c : Rc) : Nat := areaN (ue c)
theorem Kl {c : Rc} (h : xM c) : tlN c ≤ 1089 := by
 have e := (xX (vq h)).1
 obtain ⟨a1, a2, a3, a4, a5, a6, a7, a8⟩ := h
 unfold tlN
 rw [e]
 have h1 : widN (ue c) ≤ 33 := by unfold widN ue; simp only; omega
 have h2 : ((ue c).y1 - (ue c).y0).toNat ≤ 33 := by unfold ue; simp only; omega
 exact Nat.mul_le_mul h1 h2
def Zh (c : Rc) (k : Nat) : Int × Int := (um (ue c) k, un (ue c) k)
def jG (c : Rc) : List (Int × Int) := (List.range (tlN c)).map (Zh c)
theorem vy (c : Rc) : (jG c).length = tlN c := by unfold jG; rw [List.length_map, List.length_range]
theorem za6 (c : Rc) {k : Nat} (hk : k < tlN c) : (jG c)[k]? = some (Zh c k) := by
 unfold jG
 rw [List.getElem?_map, List.getElem?_range hk]
 rfl
theorem XY (c : Rc) {k : Nat} (hk : k < tlN c) : (jG c).take (k + 1) = (jG c).take k ++ [Zh c k] := by
 rw [List.take_add_one, za6 c hk]
 rfl
theorem YW {c : Rc} (hf : xM c) {k : Nat} (hk : k < tlN c) : qo (Zh c k).1 (Zh c k).2 = true := by
 have h := (xe _ _ _).1 (zeE (vq hf) hk)
 have h3 := hf.h3
 have h4 := hf.h4
 have h5 := hf.h5
 have h6 := hf.h6
 unfold Zh
 refine zQ ?_
 unfold ue at h
 simp only at h ⊢
 unfold ue
 omega
theorem zgt {c : Rc} (hf : xM c) : ∀ p ∈ jG c, qo p.1 p.2 = true := fun p hp => by
 obtain ⟨k, hk, rfl⟩ := List.mem_map.1 hp
 exact YW hf (List.mem_range.1 hk)
theorem zey {c : Rc} (hf : xM c) {j k : Nat} (h : Zh c j = Zh c k) : j = k := by
 have hw := (xX (vq hf)).2
 unfold Zh um un at h
 injection h with h1 h2
 have e1 : j % widN (ue c) = k % widN (ue c) := by omega
 have e2 : j / widN (ue c) = k / widN (ue c) := by omega
 rw [← Nat.div_add_mod j (widN (ue c)), ← Nat.div_add_mod k (widN (ue c)), e1, e2]
theorem WQ {c : Rc} (hf : xM c) : (jG c).Nodup := by
 unfold jG
 exact List.Pairwise.map _ (fun a b hab e => hab (zey hf e)) List.nodup_range
def ZI (c : Rc) (L : List Px) (X Y : Int) : Px := L.getD (kq c X Y).toNat Px.zero
def uy (c : Rc) (L : List Px) (X Y : Int) (p : Px) : Px := if jx c X Y = true then jo (ZI c L X Y) else p
def xo (c : Rc) (L : List Px) (x y : Int) (t : Nat → Px) : Nat → Px := fun i => if i < 64 then uy c L (x * 8 + (i : Int) % 8) (y * 8 + (i : Int) / 8) (t i) else t i
def J5 (c : Rc) (L : List Px) (_ : Unit) (X Y : Int) (p : Px) : Unit × Px := ((), uy c L X Y p)
theorem VK (c : Rc) (L : List Px) (e : TA) : ∀ k, ∀ i, (yM (J5 c L) e k ()).2 i = if i < k then uy c L (e.x * 8 + (i : Int) % 8) (e.y * 8 + (i : Int) / 8) (e.t i) else e.t i
 | 0, i => by rw [if_neg (by omega)]; rfl
 | k + 1, i => by
  show ZP (yM (J5 c L) e k ()).2 k (uy c L (e.x * 8 + (k : Int) % 8) (e.y * 8 + (k : Int) / 8) (e.t k)) i = _
  unfold ZP; by_cases h : i = k
  ·subst h
   rw [if_pos rfl, if_pos (Nat.lt_succ_self _)]
  ·rw [if_neg h, VK c L e k i]
   by_cases h2 : i < k
   ·rw [if_pos h2, if_pos (Nat.lt_succ_of_lt h2)]
   ·rw [if_neg h2, if_neg (show ¬ i < k + 1 from by omega)]
theorem Xh (c : Rc) (L : List Px) (e : TA) : (yM (J5 c L) e 64 ()).2 = xo c L e.x e.y e.t := funext fun i => VK c L e 64 i
theorem zek (c : Rc) (L : List Px) (e : TA) : (vm (J5 c L) [e] () 1).2 = jr e.x e.y (xo c L e.x e.y e.t) := by
 show [] ++ jr (aT [e] 0).x (aT [e] 0).y (yM (J5 c L) (aT [e] 0) 64 ()).2 = _
 have h : aT [e] 0 = e := rfl
 rw [h, Xh, List.nil_append]
def Ks (L : List Px) : Prop := ∀ p ∈ L, p.ok
theorem YU {c : Rc} {L : List Px} (h : Ks L) (X Y : Int) : (ZI c L X Y).ok := by
 unfold ZI
 rw [List.getD_eq_getElem?_getD]
 cases hk : L[(kq c X Y).toNat]? with
 | none => exact Px.zero_ok
 | some p => exact h p (List.mem_of_getElem? hk)
theorem za7 {c : Rc} {L : List Px} (h : Ks L) (X Y : Int) (p : Px) (hp : p.ok) : (uy c L X Y p).ok := by
 unfold uy
 split
 ·exact Pl.u5 (YU h X Y)
 ·exact hp
theorem J8 {c : Rc} {L : List Px} (h : Ks L) (x y : Int) {t : Nat → Px} (ht : Qq t) : Qq (xo c L x y t) := fun i hi => by
 unfold xo
 rw [if_pos hi]
 exact za7 h _ _ _ (ht i hi)
def uA (ls : List TA) : Prop := ∀ e ∈ ls, wV (qI e.t) e.t = true
theorem vp {ls : List TA} (h : uA ls) (x y : Int) {i : Nat} (hi : i < 64) : jo (qc ls x y i) = qc ls x y i := by
 rcases zae ls x y with e | ⟨e, he, _, _, ht⟩
 ·rw [e]; rfl
 ·rw [ht]
  exact zdR (h e he) hi
theorem Q0 {ls : List TA} (h : ql ls = true) : uA ls := fun e he => ((XS e).1 (vR h e he)).2.2
theorem zAA (c : Rc) (L : List Px) (x y : Int) {t : Nat → Px} (h : ∀ i, i < 64 → jo (t i) = t i) : ∀ i, i < 64 → jo (xo c L x y t i) = xo c L x y t i := fun i hi => by
 unfold xo
 rw [if_pos hi]
 unfold uy
 split
 ·exact K3 _
 ·exact h i hi
def YX (c : Rc) (L : List Px) (ls : List TA) (p : Int × Int) : List TA := xF ls p.1 p.2 (xo c L p.1 p.2 (qc ls p.1 p.2))
def xj (c : Rc) (L : List Px) (ls : List TA) (ps : List (Int × Int)) : List TA := ps.foldl (YX c L) ls
theorem X3 (c : Rc) (L : List Px) (ls : List TA) (ps : List (Int × Int)) (p : Int × Int) : xj c L ls (ps ++ [p]) = YX c L (xj c L ls ps) p := by unfold xj; rw [List.foldl_append]; rfl
theorem Zd (c : Rc) (L : List Px) (ls : List TA) (p : Int × Int) (ps : List (Int × Int)) : xj c L ls (p :: ps) = xj c L (YX c L ls p) ps := rfl
theorem J6 (c : Rc) (L : List Px) (ps : List (Int × Int)) : ∀ ls, (xj c L ls ps).length ≤ ls.length + ps.length := by
 induction ps with
 | nil => intro ls; exact Nat.le_refl _
 | cons p r ih =>
  intro ls; rw [Zd]; have h1 := ih (YX c L ls p); have h2 := uN ls p.1 p.2 (xo c L p.1 p.2 (qc ls p.1 p.2)); rw [List.length_cons]; unfold YX at h1 ⊢; omega
theorem Z6 (c : Rc) (L : List Px) (ps : List (Int × Int)) : ∀ ls, QJ ls → QJ (xj c L ls ps) := by
 induction ps with
 | nil => intro ls h; exact h
 | cons p r ih => intro ls h; exact ih _ (J9 h)
theorem J7 {c : Rc} {L : List Px} (hL : Ks L) (ps : List (Int × Int)) : ∀ ls, qQ ls → qQ (xj c L ls ps) := by
 induction ps with
 | nil => intro ls h; exact h
 | cons p r ih => intro ls h; exact ih _ (VC h (J8 hL _ _ (yJ h _ _)))
theorem WR (c : Rc) (L : List Px) {ls : List TA} (h : uA ls) (p : Int × Int) : uA (YX c L ls p) := fun e he => by
 rcases Z8 he with he | ⟨rfl, _⟩
 ·exact h e he
 ·exact uH fun i hi => zAA c L _ _ (fun j hj => vp h _ _ hj) i hi
theorem WS (c : Rc) (L : List Px) (ps : List (Int × Int)) : ∀ ls, uA ls → uA (xj c L ls ps) := by
 induction ps with
 | nil => intro ls h; exact h
 | cons p r ih => intro ls h; exact ih _ (WR c L h p)
theorem zce (c : Rc) (L : List Px) (ps : List (Int × Int)) : ∀ ls, (∀ e ∈ ls, vf e = true) → (∀ p ∈ ps, qo p.1 p.2 = true) → ∀ e ∈ xj c L ls ps, vf e = true := by
 induction ps with
 | nil => intro ls h _; exact h
 | cons p r ih =>
  intro ls h hp; refine ih _ (X5 h (hp p (List.mem_cons_self ..)) ?_) (fun q hq => hp q (List.mem_cons_of_mem _ hq)); exact uH fun i hi => zAA c L _ _ (fun j hj => vp (fun e he => ((XS e).1 (h e he)).2.2) _ _ hj) i hi
theorem Zv (c : Rc) (L : List Px) {X Y : Int} (ps : List (Int × Int)) : ∀ ls, (X, Y) ∉ ps → qc (xj c L ls ps) X Y = qc ls X Y := by
 induction ps with
 | nil => intro ls _; rfl
 | cons p r ih =>
  intro ls h; rw [Zd, ih _ (fun e => h (List.mem_cons_of_mem _ e))]; refine uq _ _ _ _ (zB fun e => h ?_); have : p = (X, Y) := Prod.ext e.1 e.2; rw [this]; exact List.mem_cons_self ..
theorem Kj (c : Rc) (L : List Px) {X Y : Int} (ps : List (Int × Int)) : ∀ ls, QJ ls → ps.Nodup → (X, Y) ∈ ps → qc (xj c L ls ps) X Y = if ju (xo c L X Y (qc ls X Y)) = true then zT else xo c L X Y (qc ls X Y) := by
 induction ps with
 | nil => intro ls _ _ h; cases h
 | cons p r ih =>
  intro ls hs hn h; obtain ⟨h1, h2⟩ := List.pairwise_cons.1 hn; rw [Zd]; by_cases hp : p = (X, Y)
  ·subst hp
   rw [Zv c L r _ (fun e => h1 _ e rfl)]; exact Xq hs _ _ _
  ·rcases List.mem_cons.1 h with e | e
   ·exact absurd e.symm hp
   ·rw [ih (YX c L ls p) (J9 hs) h2 e]
    have : qc (YX c L ls p) X Y = qc ls X Y := uq _ _ _ _ (zB fun e => hp (Prod.ext e.1 e.2)); rw [this]
theorem Vy {c : Rc} (hf : xM c) {X Y : Int} : (X, Y) ∈ jG c ↔ jx (ue c) X Y = true := by
 constructor
 ·intro h
  obtain ⟨k, hk, e⟩ := List.mem_map.1 h; have := zeE (vq hf) (List.mem_range.1 hk); unfold Zh at e
  injection e with e1 e2
  rw [← e1, ← e2]; exact this
 ·intro h
  have hr := (xe _ _ _).1 h; obtain ⟨k, _, hk, e1, e2⟩ := za8 (vq hf) (X := (X - (ue c).x0).toNat) (Y := (Y - (ue c).y0).toNat) (by omega) (by omega); refine List.mem_map.2 ⟨k, List.mem_range.2 hk, ?_⟩; unfold Zh; rw [e1, e2]; exact Prod.ext (by simp only; omega) (by simp only; omega)
theorem zd0 {c : Rc} (hf : xM c) (L : List Px) {ls : List TA} (hs : QJ ls) (hc : uA ls) (x y : Int) : xJ (xj c L ls (jG c)) x y = if jx c x y = true then jo (ZI c L x y) else xJ ls x y := by
 have hi : (8 * (y % 8) + x % 8).toNat < 64 := by omega
 have ex : x / 8 * 8 + (((8 * (y % 8) + x % 8).toNat : Nat) : Int) % 8 = x := by omega
 have ey : y / 8 * 8 + (((8 * (y % 8) + x % 8).toNat : Nat) : Int) / 8 = y := by omega
 have hp : xo c L (x / 8) (y / 8) (qc ls (x / 8) (y / 8)) (8 * (y % 8) + x % 8).toNat = if jx c x y = true then jo (ZI c L x y) else xJ ls x y := by
  unfold xo; rw [if_pos hi, ex, ey]
  rfl
 unfold xJ at hp ⊢
 by_cases hm : (x / 8, y / 8) ∈ jG c
 ·rw [Kj c L _ _ hs (WQ hf) hm]
  by_cases hz : ju (xo c L (x / 8) (y / 8) (qc ls (x / 8) (y / 8))) = true
  ·rw [if_pos hz, ← hp]
   have h0 := (wP _).1 hz _ hi; have h1 := zAA c L (x / 8) (y / 8) (t := qc ls (x / 8) (y / 8)) (fun j hj => vp hc _ _ hj) _ hi; rw [← h1]; unfold jo; rw [if_pos h0]
   rfl
  ·rw [if_neg hz, hp]
 ·rw [Zv c L _ _ hm]
  rw [if_neg]; intro hh; apply hm
  rw [Vy hf, xe]; have := (xe _ _ _).1 hh; unfold ue; simp only; omega
def vX (c : Rc) (L : List Px) (ls : List TA) : Int := if jk c = true ∧ (L.length : Int) = yV c then (if jh c = 0 then yz (xj c L (qh ls) (jG c)) else jh c) else 1
def y7 (c : Rc) (L : List Px) (ls : List TA) : List TA := if jk c = true ∧ (L.length : Int) = yV c then (if jh c = 0 then xk (xj c L (qh ls) (jG c)) else []) else []
theorem WU (c : Rc) (L : List Px) (ls : List TA) : ql (y7 c L ls) = true := by
 unfold y7
 split
 ·split
  ·rename_i hE
   unfold xk; split
   ·rename_i h
    exact Ym h (zce c L _ _ (vR (jB ls)) (zgt (xY hE))) (Z6 c L _ _ (xL (jB ls)))
   ·exact xf
  ·exact xf
 ·exact xf
theorem zeB {c : Rc} {L : List Px} {ls : List TA} (hL : Ks L) (h : qQ ls) : qQ (y7 c L ls) := by
 unfold y7
 split
 ·split
  ·unfold xk
   split
   ·exact J7 hL _ _ (yk h)
   ·exact qQ.nil
  ·exact qQ.nil
 ·exact qQ.nil
theorem zhv {ls : List TA} (hs : QJ ls) {x y : Int} (h : kV ls x y = true) : cutL ls x y < ls.length ∧ aT ls (cutL ls x y) = ⟨x, y, qc ls x y⟩ := by
 unfold kV at h
 obtain ⟨h1, h2⟩ := Bool.and_eq_true_iff.1 h
 have h1 := of_decide_eq_true h1
 have h2 := of_decide_eq_true h2
 refine ⟨h1, ?_⟩
 have hm : aT ls (cutL ls x y) ∈ ls := List.mem_of_getElem? (vK h1)
 have ht := zcv hs hm
 rw [h2.1, h2.2] at ht
 rw [ht]
 obtain ⟨e1, e2⟩ := h2
 generalize aT ls (cutL ls x y) = e at *
 obtain ⟨ex, ey, et⟩ := e
 simp only at e1 e2
 subst e1 e2
 rfl
theorem zf4 {ls : List TA} (hs : QJ ls) {x y : Int} (h : kV ls x y = false) : qc ls x y = zT := by
 refine ZK fun e he => ?_
 obtain ⟨j, hj⟩ := List.mem_iff_getElem?.1 he
 have hjl : j < ls.length := (List.getElem?_eq_some_iff.1 hj).1
 rw [vK hjl] at hj
 obtain rfl := Option.some.inj hj
 by_cases hc : j < cutL ls x y
 ·have := of_decide_eq_true (zaE hc)
  exact zB (by omega)
 ·unfold kV at h
  have hcl : cutL ls x y < ls.length := by omega
  rw [decide_eq_true hcl, Bool.true_and] at h; by_cases e : j = cutL ls x y
  ·rw [e]; exact h
  ·have h1 := of_decide_eq_true (ze4 hs (show cutL ls x y < j by omega) hjl)
   have h2 := of_decide_eq_false (zaD hcl); exact zB (by omega)
theorem WV (ls : List TA) (x y : Int) {t u : Nat → Px} (h : ∀ i, i < 64 → t i = u i) : vC (xF ls x y t) = vC (xF ls x y u) ∧ (xF ls x y t).length = (xF ls x y u).length := by
 have hz : ju t = ju u := by
  rw [Bool.eq_iff_iff, wP, wP]; exact ⟨fun g i hi => h i hi ▸ g i hi, fun g i hi => (h i hi).symm ▸ g i hi⟩
 have hn : vC (jr x y t) = vC (jr x y u) ∧ (jr x y t).length = (jr x y u).length := by
  unfold jr; rw [hz]; split
  ·exact ⟨rfl, rfl⟩
  ·refine ⟨?_, rfl⟩
   show (xE ⟨x, y, t⟩).toList ++ vC [] = (xE ⟨x, y, u⟩).toList ++ vC []
   rw [zhX ⟨x, y, t⟩ ⟨x, y, u⟩ rfl rfl (uR h)]
 rw [kS, kS, kT, kT, kT, kT, hn.1, List.length_append, List.length_append, List.length_append, List.length_append, hn.2]
 exact ⟨rfl, rfl⟩
theorem RS.congr {v : Value} {ls ks : List TA} {w : World} (h : RS v ls w) (hl : ls.length = ks.length) (hr : vC ls = vC ks) : RS v ks w := by
 rcases h with ⟨h1, rfl⟩ | ⟨g, o, c, e, hc, sc⟩
 ·exact .inl ⟨h1, List.eq_nil_of_length_eq_zero hl.symm⟩
 ·refine .inr ⟨g, o, c, by rw [← hl]; exact e, by omega, fun hn => ⟨(sc (by omega)).1, fun i hi j hj => ?_⟩⟩
  rw [(sc (by omega)).2 i (by omega) j hj, ← Jl ls i j (by omega) hj, hr, Jl ks i j hi hj]
theorem X6 (ls : List TA) (x y : Int) {t u : Nat → Px} (ht : ju t = true) (hu : ju u = true) : xF ls x y t = xF ls x y u := by
 rw [kS, kS]
 unfold jr
 rw [if_pos ht, if_pos hu]
def ltP (a b : Int × Int) : Bool := jC a.1 a.2 b.1 b.2
def YV (e : TA) : Int × Int := (e.x, e.y)
def zj2 (l : List (Int × Int)) : Prop := l.Pairwise fun a b => ltP a b = true
theorem K8 {t u : Nat → Px} (h : wV t u = true) : wV u t = true := uH fun i hi => (zdR h hi).symm
theorem zdS (t u : Nat → Px) : wV t u = wV u t := by
 rw [Bool.eq_iff_iff]
 exact ⟨K8, K8⟩
def Nz (ls : List TA) : Prop := ∀ e ∈ ls, ju e.t = false
def zfk (a b : List TA) (p : Int × Int) : Prop := wV (qc a p.1 p.2) (qc b p.1 p.2) = false
theorem zfk.symm {a b : List TA} {p : Int × Int} (h : zfk a b p) : zfk b a p := by unfold zfk at *; rw [zdS]; exact h
def zdI : List TA → List TA → List (Int × Int)
 | [], [] => []
 | [], e :: r => YV e :: zdI [] r
 | d :: q, [] => YV d :: zdI q []
 | d :: q, e :: r => if jC d.x d.y e.x e.y = true then YV d :: zdI q (e :: r) else if jC e.x e.y d.x d.y = true then YV e :: zdI (d :: q) r else (if wV d.t e.t = true then [] else [YV d]) ++ zdI q r
termination_by a b => a.length + b.length
def ziK : List (Int × Int) → Int × Int → List (Int × Int)
 | [], p => [p]
 | q :: r, p => if q = p then q :: r else if ltP p q = true then p :: q :: r else q :: ziK r p
def zjd (a b : List TA) : List (Int × Int) := (a.filter fun e => !wV e.t (qc b e.x e.y)).map YV
def zje (a : List TA) (o : List (Int × Int)) (b : List TA) : List (Int × Int) := b.foldl (fun o e => if wV e.t (qc a e.x e.y) = true then o else ziK o (YV e)) o
def zj6 (a b : List TA) : List (Int × Int) := zje a (zjd a b) b
def mv1 (b : List TA) (s : List TA) (p : Int × Int) : List TA := Z9 s p.1 p.2 (qc b p.1 p.2)
def mvL (b : List TA) (s : List TA) (ps : List (Int × Int)) : List TA := ps.foldl (mv1 b) s
def kE (c : Rc) (f : Int → Int → Px) : List Px := (List.range (areaN c)).map fun j => f (um c j) (un c j)
theorem WN (c : Rc) (f : Int → Int → Px) : (kE c f).length = areaN c := by unfold kE; rw [List.length_map, List.length_range]
theorem zca (c : Rc) (f : Int → Int → Px) {j : Nat} (h : j < areaN c) : (kE c f)[j]? = some (f (um c j) (un c j)) := by
 unfold kE
 rw [List.getElem?_map, List.getElem?_range h]
 rfl
theorem zcb {c : Rc} {f : Int → Int → Px} (h : ∀ x y, (f x y).ok) : Ks (kE c f) := fun p hp => by
 unfold kE at hp
 obtain ⟨j, _, rfl⟩ := List.mem_map.1 hp
 exact h _ _
theorem zcd {c : Rc} (hf : xM c) (f : Int → Int → Px) {x y : Int} (h : jx c x y = true) : ZI c (kE c f) x y = f x y := by
 have hh := (xe _ _ _).1 h
 obtain ⟨k, e1, e2, e3, e4⟩ := za8 hf (X := (x - c.x0).toNat) (Y := (y - c.y0).toNat) (by omega) (by omega)
 have ek : (kq c x y).toNat = k := by
  unfold kq; have hy : (((y - c.y0).toNat : Nat) : Int) = y - c.y0 := by omega
  have hx : (((x - c.x0).toNat : Nat) : Int) = x - c.x0 := by omega
  rw [hy, hx] at e1; omega
 unfold ZI
 rw [ek, List.getD_eq_getElem?_getD, zca c f e2, e3, e4]
 show f _ _ = _
 congr 1 <;> omega
theorem zgF {R : Rc} (hR : xM R) {ls : List TA} (hs : QJ ls) (h : ∀ e ∈ ls, jx R e.x e.y = true) : ls.length ≤ areaN R := by
 obtain ⟨ea, hw⟩ := xX hR
 have hW : (widN R : Int) = R.x1 - R.x0 := by unfold widN; have := hR.h1; omega
 have key : ∀ e ∈ ls, (e.x - R.x0).toNat < widN R ∧ ((e.x - R.x0).toNat : Int) = e.x - R.x0 ∧ ((e.y - R.y0).toNat : Int) = e.y - R.y0 ∧ (e.y - R.y0).toNat < (R.y1 - R.y0).toNat := fun e he => by
  have := (xe _ _ _).1 (h e he); omega
 have hp : (ls.map fun e => (e.y - R.y0).toNat * widN R + (e.x - R.x0).toNat).Pairwise (· < ·) := by
  rw [List.pairwise_map]; refine hs.imp_of_mem fun {a b} ha hb hab => ?_
  obtain ⟨a1, a2, a3, _⟩ := key a ha; obtain ⟨b1, b2, b3, _⟩ := key b hb; have hh := of_decide_eq_true hab; rcases hh with hh | ⟨h1, h2⟩
  ·have : (a.y - R.y0).toNat + 1 ≤ (b.y - R.y0).toNat := by omega
   have := Nat.mul_le_mul_right (widN R) this; rw [Nat.add_mul, Nat.one_mul] at this; omega
  ·have : (a.y - R.y0).toNat = (b.y - R.y0).toNat := by omega
   rw [this]; omega
 have := zaR _ 0 (areaN R) hp fun x hx => by
  obtain ⟨e, he, rfl⟩ := List.mem_map.1 hx; obtain ⟨a1, a2, a3, a4⟩ := key e he; refine ⟨Nat.zero_le _, ?_⟩; have := Nat.mul_le_mul_right (widN R) (show (e.y - R.y0).toNat + 1 ≤ (R.y1 - R.y0).toNat by omega); rw [Nat.add_mul, Nat.one_mul] at this; rw [ea, Nat.mul_comm (widN R)]; omega
 simpa using this
def ux (s : jb) (n : Int) (p : Px) : Px := if 0 < n then (if s.era = true then uj p (255 - n) else vP p s.col 0 n) else p
def Qk (d : Db) : Rc := y4 (kZ d) Q5
def Kq (d : Db) : Bool := decide (d.r < 1) || z8 (Qk d)
def kX (s : jb) (d : Db) (ls : List TA) : List Px := kE (Qk d) (fun x y => ux s (kP d x y) (xJ ls x y))
def xR (s : jb) (st : List TA × Int) (d : Db) : List TA × Int :=
 if st.2 ≠ 0 ∨ Kq d = true then st else (y7 (Qk d) (kX s d st.1) st.1, vX (Qk d) (kX s d st.1) st.1)
def xw (s : jb) (l : List Db) (ls : List TA) : List TA × Int := l.foldl (xR s) (ls, 0)
def jF (s : jb) (ls : List TA) : List TA × Int := if jT s = true then xw s (xS s) (qh ls) else ([], 1)
theorem zf8 {s : jb} (hc : s.col.ok) (n : Int) {p : Px} (hp : p.ok) : (ux s n p).ok := by
 unfold ux
 split
 ·split
  ·exact zdV hp _
  ·exact zes hp hc _ _
 ·exact hp
theorem QL (r : Rc) : z8 (kR r) = z8 r := by
 unfold kR
 split
 ·rename_i h
  rw [h]; rfl
 ·rfl
theorem zhW (d : Db) : z8 (Qk d) = false → Qk d = ⟨max (kZ d).x0 (-65536), max (kZ d).y0 (-65536), min (kZ d).x1 65536, min (kZ d).y1 65536⟩ := fun h => by
 unfold Qk y4 at h ⊢
 rw [QL] at h
 unfold kR
 rw [h]
 rfl
theorem Jn {d : Db} (ok : Wc d) (h : Kq d = false) : jh (Qk d) = 0 ∧ xM (Qk d) := by
 unfold Kq at h
 rw [Bool.or_eq_false_iff] at h
 obtain ⟨h1, h2⟩ := h
 have e := zhW d h2
 have hE := (kB _).1 h2
 obtain ⟨a1, a2, a3, a4, a5, a6⟩ := ok
 rw [e] at hE ⊢
 unfold kZ at hE ⊢
 simp only at hE
 have hF : xM ⟨max ((d.x - d.r) / 16) (-65536), max ((d.y - d.r) / 16) (-65536), min ((d.x + d.r) / 16 + 1) 65536, min ((d.y + d.r) / 16 + 1) 65536⟩ := by
  refine ⟨?_, ?_, ?_, ?_, ?_, ?_, ?_, ?_⟩ <;> (simp only; omega)
 refine ⟨?_, hF⟩
 unfold jh
 rw [if_pos hF.valid, if_neg (by have h7 := hF.h7; have h8 := hF.h8; simp only at h7 h8 ⊢; omega)]
theorem Z2 (s : jb) (d : Db) (ls : List TA) : (kX s d ls).length = areaN (Qk d) := WN _ _
theorem YP {s : jb} (hc : s.col.ok) (d : Db) {ls : List TA} (h : qQ ls) : Ks (kX s d ls) := zcb fun x y => zf8 hc _ (yJ h _ _ _ (by omega))
theorem X4 {c : Rc} {L : List Px} {ls : List TA} (hE : jh c = 0) (hL : L.length = areaN c) (hv : ql ls = true) : vX c L ls = yz (xj c L ls (jG c)) ∧ y7 c L ls = xk (xj c L ls (jG c)) := by
 have hF := xY hE
 have hAr : (L.length : Int) = yV c := by rw [hL, uF hF]
 have e1 : vX c L ls = if jh c = 0 then yz (xj c L (qh ls) (jG c)) else jh c := if_pos ⟨hF.valid, hAr⟩
 have e2 : y7 c L ls = if jh c = 0 then xk (xj c L (qh ls) (jG c)) else [] := if_pos ⟨hF.valid, hAr⟩
 rw [e1, e2, if_pos hE, if_pos hE, kQ hv]
 exact ⟨rfl, rfl⟩
theorem WI {l : List TA} (h : yz l = 0) : xk l = l := by
 unfold yz at h
 unfold xk
 split at h
 ·rename_i k
  rw [if_pos k]
 ·cases h
theorem Vo {l : List TA} (h : l.length ≤ 1024) : yz l = 0 ∧ xk l = l := by
 unfold yz xk
 rw [if_pos h, if_pos h]
 exact ⟨rfl, rfl⟩
theorem zd6 (s : jb) {st : List TA × Int} (h : st.2 ≠ 0) (d : Db) : xR s st d = st := by unfold xR; rw [if_pos (.inl h)]
theorem vt (s : jb) (st : List TA × Int) {d : Db} (h : Kq d = true) : xR s st d = st := by unfold xR; rw [if_pos (.inr h)]
theorem Jg (s : jb) {ls : List TA} {d : Db} (h : Kq d = false) : xR s (ls, 0) d = (y7 (Qk d) (kX s d ls) ls, vX (Qk d) (kX s d ls) ls) := by
 unfold xR
 rw [if_neg (by rw [h]; simp)]
theorem Jh (s : jb) : ∀ (l : List Db) {st : List TA × Int}, st.2 ≠ 0 → l.foldl (xR s) st = st
 | [], _, _ => rfl
 | d :: r, st, h => by
  show r.foldl (xR s) (xR s st d) = st
  rw [zd6 s h]; exact Jh s r h
theorem XT (s : jb) (l : List Db) (d : Db) (ls : List TA) : xw s (l ++ [d]) ls = xR s (xw s l ls) d := by unfold xw; rw [List.foldl_append]; rfl
theorem ZF (s : jb) {st : List TA × Int} (h : ql st.1 = true) (d : Db) : ql (xR s st d).1 = true := by
 unfold xR
 split
 ·exact h
 ·exact WU _ _ _
theorem Vg {s : jb} (hc : s.col.ok) {st : List TA × Int} (h : qQ st.1) (d : Db) : qQ (xR s st d).1 := by
 unfold xR
 split
 ·exact h
 ·exact zeB (YP hc d h) h
theorem zaT {s : jb} (hc : s.col.ok) : ∀ (l : List Db) (st : List TA × Int), ql st.1 = true → qQ st.1 → ql (l.foldl (xR s) st).1 = true ∧ qQ (l.foldl (xR s) st).1
 | [], st, h, k => ⟨h, k⟩
 | d :: r, st, h, k => zaT hc r (xR s st d) (ZF s h d) (Vg hc k d)
theorem wW {s : jb} (hc : s.col.ok) (l : List Db) {ls : List TA} (h : ql ls = true) (k : qQ ls) : ql (xw s l ls).1 = true ∧ qQ (xw s l ls).1 := zaT hc l (ls, 0) h k
theorem zeC (c : Rc) (L : List Px) (ls : List TA) (h : vX c L ls ≠ 0) : y7 c L ls = [] := by
 unfold vX at h
 unfold y7
 split
 ·rename_i k
  rw [if_pos k] at h; split
  ·rename_i k2
   rw [if_pos k2] at h; unfold yz at h; unfold xk; split
   ·rename_i k3
    rw [if_pos k3] at h; exact absurd rfl h
   ·rfl
  ·rfl
 ·rfl
theorem zec (s : jb) (l : List Db) : ∀ (st : List TA × Int), (st.2 ≠ 0 → st.1 = []) → ((l.foldl (xR s) st).2 ≠ 0 → (l.foldl (xR s) st).1 = []) := by
 induction l with
 | nil => intro st h; exact h
 | cons d r ih =>
  intro st h; refine ih (xR s st d) fun k => ?_
  unfold xR at k ⊢; split
  ·rename_i g
   rw [if_pos g] at k; exact h k
  ·rename_i g
   rw [if_neg g] at k; exact zeC _ _ _ k
theorem Qy (s : jb) (l : List Db) (ls : List TA) (h : (xw s l ls).2 ≠ 0) : (xw s l ls).1 = [] := zec s l (ls, 0) (fun k => absurd rfl k) h
theorem QQ {s : jb} (hc : s.col.ok) {ls : List TA} (k : qQ ls) : ql (jF s ls).1 = true ∧ qQ (jF s ls).1 := by
 unfold jF
 split
 ·exact wW hc _ (jB ls) (yk k)
 ·exact ⟨xf, qQ.nil⟩
def zb1 (s : jb) (x y : Int) (p : Px) (d : Db) : Px := if Kq d = false ∧ jx (Qk d) x y = true then jo (ux s (kP d x y) p) else p
theorem zga {s : jb} {d : Db} {ls : List TA} (ok : Wc d) (hk : Kq d = false) (hv : ql ls = true) (he : vX (Qk d) (kX s d ls) ls = 0) (x y : Int) : xJ (y7 (Qk d) (kX s d ls) ls) x y = zb1 s x y (xJ ls x y) d := by
 obtain ⟨hE, hF⟩ := Jn ok hk
 obtain ⟨e1, e2⟩ := X4 hE (Z2 s d ls) hv
 rw [e1] at he
 rw [e2, WI he, zd0 hF _ (xL hv) (Q0 hv)]
 unfold zb1
 by_cases hh : jx (Qk d) x y = true
 ·rw [if_pos hh, if_pos ⟨hk, hh⟩]
  unfold kX; rw [zcd hF _ hh]
 ·rw [if_neg hh, if_neg (fun k => hh k.2)]
theorem Vi {s : jb} (hc : s.col.ok) (x y : Int) : ∀ (l : List Db) (ls : List TA), (∀ d ∈ l, Wc d) → ql ls = true → qQ ls → (xw s l ls).2 = 0 → xJ (xw s l ls).1 x y = l.foldl (zb1 s x y) (xJ ls x y)
 | [], ls, _, _, _, _ => rfl
 | d :: r, ls, ok, hv, ht, he => by
  have e0 : xw s (d :: r) ls = r.foldl (xR s) (xR s (ls, 0) d) := rfl; rw [e0] at he ⊢; show xJ _ x y = r.foldl (zb1 s x y) (zb1 s x y (xJ ls x y) d)
  by_cases hz : (xR s (ls, 0) d).2 = 0
  ·have e1 : r.foldl (xR s) (xR s (ls, 0) d) = xw s r (xR s (ls, 0) d).1 := by
    unfold xw
    congr 1
    exact Prod.ext rfl hz
   rw [e1] at he ⊢; rw [Vi hc x y r _ (fun e h => ok e (List.mem_cons_of_mem _ h)) (ZF s (st := (ls, 0)) hv d) (Vg hc (st := (ls, 0)) ht d) he]
   congr 1
   cases hk : Kq d with
   | true =>
    rw [vt s _ hk]; unfold zb1; rw [if_neg (by rw [hk]; simp)]
   | false =>
    rw [Jg s hk] at hz ⊢; exact zga (ok d (List.mem_cons_self ..)) hk hv hz x y
  ·rw [Jh s r hz] at he
   exact absurd he hz
theorem zeA {c : Rc} {L : List Px} {ls : List TA} {p : Int × Int} {e : TA} (h : e ∈ YX c L ls p) : e ∈ ls ∨ YV e = p := by
 rcases Z8 h with h | ⟨rfl, _⟩
 ·exact .inl h
 ·exact .inr rfl
theorem VB {c : Rc} {L : List Px} : ∀ (ps : List (Int × Int)) (ls : List TA) {e : TA}, e ∈ xj c L ls ps → e ∈ ls ∨ YV e ∈ ps
 | [], ls, e, h => .inl h
 | p :: r, ls, e, h => by
  rw [Zd] at h; rcases VB r _ h with h | h
  ·rcases zeA h with h | h
   ·exact .inl h
   ·exact .inr (h ▸ List.mem_cons_self ..)
  ·exact .inr (List.mem_cons_of_mem _ h)
def Wf (R : Rc) (ls : List TA) : Prop := ∀ e ∈ ls, jx R e.x e.y = true
def zg1 (R : Rc) (d : Db) : Prop := Kq d = false → ∀ x y, jx (ue (Qk d)) x y = true → jx R x y = true
theorem zd5 {s : jb} {R : Rc} (hR : xM R) (hN : areaN R ≤ 1024) {ls : List TA} {d : Db} (ok : Wc d) (hv : ql ls = true) (hb : Wf R ls) (hd : zg1 R d) : (xR s (ls, 0) d).2 = 0 ∧ Wf R (xR s (ls, 0) d).1 := by
 cases hk : Kq d with
 | true => rw [vt s _ hk]; exact ⟨rfl, hb⟩
 | false =>
  rw [Jg s hk]; obtain ⟨hE, hF⟩ := Jn ok hk; obtain ⟨e1, e2⟩ := X4 hE (Z2 s d ls) hv; have hbx : Wf R (xj (Qk d) (kX s d ls) ls (jG (Qk d))) := fun e he => by
   rcases VB _ _ he with h | h
   ·exact hb e h
   ·exact hd hk _ _ ((Vy hF).1 h)
  have hl := zgF hR (Z6 (Qk d) (kX s d ls) (jG (Qk d)) ls (xL hv)) hbx; obtain ⟨m1, m2⟩ := Vo (Nat.le_trans hl hN); simp only [e1, e2, m1, m2]; exact ⟨trivial, hbx⟩
theorem Vh {s : jb} {R : Rc} (hR : xM R) (hN : areaN R ≤ 1024) : ∀ (l : List Db) (ls : List TA), (∀ d ∈ l, Wc d) → (∀ d ∈ l, zg1 R d) → ql ls = true → Wf R ls → (xw s l ls).2 = 0 ∧ Wf R (xw s l ls).1
 | [], ls, _, _, _, hb => ⟨rfl, hb⟩
 | d :: r, ls, ok, hd, hv, hb => by
  obtain ⟨h1, h2⟩ := zd5 (s := s) hR hN (ok d (List.mem_cons_self ..)) hv hb (hd d (List.mem_cons_self ..)); have e1 : xw s (d :: r) ls = xw s r (xR s (ls, 0) d).1 := by
   show r.foldl (xR s) (xR s (ls, 0) d) = r.foldl (xR s) ((xR s (ls, 0) d).1, 0)
   congr 1
   exact Prod.ext rfl h1
  rw [e1]; exact Vh hR hN r _ (fun e h => ok e (List.mem_cons_of_mem _ h)) (fun e h => hd e (List.mem_cons_of_mem _ h)) (ZF s (st := (ls, 0)) hv d) h2
theorem Vv (l : List Sp) {n i : Nat} (h : i < n) : jc (l.take n) i = jc l i := by
 unfold jc
 rw [List.getD_eq_getElem?_getD, List.getD_eq_getElem?_getD, List.getElem?_take_of_lt h]
theorem X0 (l : List Sp) (n : Nat) : ∀ k, k < n → jK (l.take n) k = jK l k
 | 0, _ => rfl
 | k + 1, h => by
  show jK (l.take n) k + kt (jc (l.take n) k) (jc (l.take n) (k + 1)) = jK l k + kt (jc l k) (jc l (k + 1))
  rw [X0 l n k (by omega), Vv l (by omega), Vv l h]
def zev (s : jb) (at_ : Nat) : Int :=
 if s.pha - yn (s.pts.take (at_ + 1)) < 0 then s.pha - yn (s.pts.take (at_ + 1)) + (s.spa - 1 - (s.pha - yn (s.pts.take (at_ + 1)))) / s.spa * s.spa
 else s.pha - yn (s.pts.take (at_ + 1))
def spA (s : jb) (at_ : Nat) : jb := { s with pts := s.pts.take (at_ + 1) }
def spB (s : jb) (at_ : Nat) : jb := { s with pts := s.pts.drop at_, pha := zev s at_ }
section
variable {s : jb} {at_ : Nat}
theorem zfa (ha : at_ < s.pts.length) : yn (s.pts.take (at_ + 1)) = jK s.pts at_ := by
 unfold yn
 rw [List.length_take, show min (at_ + 1) s.pts.length - 1 = at_ by omega]
 exact X0 _ _ _ (by omega)
end
def shP (X Y : Int) (a : Sp) : Sp := ⟨a.x + 16 * X, a.y + 16 * Y, a.p⟩
def shS (X Y : Int) (s : jb) : jb := { s with pts := s.pts.map (shP X Y) }
def shD (X Y : Int) (d : Db) : Db := ⟨d.x + 16 * X, d.y + 16 * Y, d.r⟩
section
variable {s : jb} {X Y : Int}
theorem zhR : (shS X Y s).pts.length = s.pts.length := List.length_map _
end
def zkv (x y r : Int) : jb := ⟨[⟨x, y, 255⟩], r, 1, Px.zero, false, 0⟩
def zkC (n r a p q c : Int) : jb := ⟨[⟨0, 0, q⟩, ⟨n, 0, c⟩], r, a, Px.zero, false, p⟩
section
variable {n r a p q c : Int}
end
def zbk (a b : Px) : Prop := b.a ≤ a.a ∧ (b.a = 0 ∨ (b.r = a.r ∧ b.g = a.g ∧ b.b = a.b))
theorem zbk.refl (a : Px) : zbk a a := ⟨Int.le_refl _, .inr ⟨rfl, rfl, rfl⟩⟩
theorem zbk.trans {a b c : Px} (h0 : 0 ≤ c.a) (h : zbk a b) (k : zbk b c) : zbk a c := by
 refine ⟨Int.le_trans k.1 h.1, ?_⟩
 rcases k.2 with k2 | ⟨k2, k3, k4⟩
 ·exact .inl k2
 ·rcases h.2 with h2 | ⟨h2, h3, h4⟩
  ·have := k.1
   exact .inl (by omega)
  ·exact .inr ⟨by omega, by omega, by omega⟩
def shC (c : Rc) (u : Value) (n : Int) : Array Value := #[.int .i64 c.x0, .int .i64 c.y0, .int .i64 c.x1, .int .i64 c.y1, u, .int .i64 n]
theorem zaw (c : Rc) (n : Int) (w : World) (e : jh c = n) : Calls Tryz.prog 148 #[.agg (jP c)] w fun e w' => e = .returned (.int .i64 n) ∧ Below w.heap.size w w' := e ▸ zhj c w
theorem we {ops : Array Oper} {rest : List Oper} {o : Oper} {a : Act} {w : World} {Q : Exit → Act → World → Prop} (hg : o.guard = none) (x y : Operand) (ho : o.op = .store 115 x y) (b : Nat) (hx : a.eval x = .pointer (some ⟨b, 4, none⟩)) (ad : Option Addr) (n cp : Nat) (hy : a.eval y = .slice ad n cp) {c : Rc} {u : Value} (ht : zw 117 w b (jy c u))
  (h : ∀ w', zw 117 w' b (jy c (.slice ad n cp)) → qY b w w' → w'.heap.size = w.heap.size → wpList Tryz.prog ops Q rest (a.put o.dst undef) w') : wpList Tryz.prog ops Q (o :: rest) a w := by
 have e : zw 117 (w.setCell ⟨b, 4, none⟩ (.slice ad n cp)) b (jy c (.slice ad n cp)) := by
  have e1 : (jy c u).setIfInBounds 4 (.slice ad n cp) = jy c (.slice ad n cp) := rfl; unfold zw; rw [← e1]; exact heap_setCell_same _ _ _ _ _ _ ht
 refine qj hg x y ho _ ?_ (h _ e ((qY.refl b w).setCell _) (by simp only [World.size_setCell]))
 rw [hx, hy]
 have c0 := xQ ht
 have f0 := ht.frozen 4
 simp [go_sem, c0, f0]
section
variable {o : Oper} {a : Act} {C : World → Prop} {K : Act → Prop}
theorem Kd (w : World) (c : Rc) : (Instr.build 117 #[(0, .agg (jP c))]).run Tryz.prog w = .ok (.agg (jy c (.slice none 0 0))) w := by kernel_rfl
theorem XC {x : Operand} (h : o.op = .build 117 #[(0, x)]) (c : Rc) (hx : a.eval x = .agg (jP c)) (hk : K (a.put o.dst (.agg (jy c (.slice none 0 0))))) : o.quiet Tryz.prog a C K :=
 ⟨_, fun w hw => by
  unfold Oper.quietAt execOp; simp only [h, List.map_toArray, List.map_cons, List.map_nil, hx, Sem.run_bind, Kd, Result.andThen_ok, Sem.run_pure]; exact ⟨rfl, rfl⟩, hk⟩
end
theorem zhD {c : Rc} (hf : xM c) {k j : Nat} (hj : j < widN c) : um c (widN c * k + j) = c.x0 + (j : Int) ∧ un c (widN c * k + j) = c.y0 + (k : Int) := by
 have hw := (xX hf).2
 unfold um un
 rw [Nat.mul_add_mod, Nat.mod_eq_of_lt hj, Nat.mul_add_div hw, Nat.div_eq_of_lt hj, Nat.add_zero]
 exact ⟨rfl, rfl⟩
theorem qM.chgB {α : Type} {k : Nat} {T S : TypeId} {E : Xz α k T S} {B b : Nat} {v : Value} {ls : List α} {w w' : World} (h : qM E B v ls w) (hc : qY b w w') (hne : ∀ k, v.ownBlock = some k → k ≠ b) : qM E B v ls w' := by
 refine World.ownsRow.kept (row := some b) h ⟨hc.os, hc.tape, hc.output, hc.size, fun k hk hn => hc.block k hk (fun e => hn (by rw [e]))⟩ ?_
 cases hv : v.ownBlock with
 | none => exact .inl rfl
 | some k =>
  right
  intro e
  injection e with e
  exact hne k hv e
def psE : Xz (Int × Int) 2 95 90 where
 enc := fun p => #[.int .i64 p.1, .int .i64 p.2]
 bytes := 16
 zero := (0, 0)
 size := fun _ => rfl
 one := fun x u hu => by
  have : u ∈ [Value.int .i64 x.1, .int .i64 x.2] := hu; simp at this
  rcases this with rfl | rfl <;> rfl
 pos := by omega
 small := by omega
 und := underlying90
 info := by kernel_rfl
 zer := by kernel_rfl
theorem ze9 {c : Rc} (hf : xM c) {k j : Nat} (hj : j < widN (ue c)) : Zh c (widN (ue c) * k + j) = (c.x0 / 8 + (j : Int), c.y0 / 8 + (k : Int)) := by
 obtain ⟨h1, h2⟩ := zhD (vq hf) (k := k) hj
 unfold Zh
 rw [h1, h2]
 rfl
theorem zdy (c : Rc) (w : World) (HF : xM c) : Calls Tryz.prog 149 #[.agg (jP c), .int .i64 2000] w fun e w' => ∃ a cp, e = .returned (.slice a (tlN c) cp) ∧ xh psE (.slice a (tlN c) cp) (jG c) w' ∧ Below w.heap.size w w' := by
 have B := Below.refl w.heap.size w
 have hf := zo HF
 obtain ⟨hew, hw0⟩ := xX (vq HF)
 have hNle := Kl HF
 obtain ⟨f1, f2, f3, f4, f5, f6, f7, f8⟩ := HF
 have hE : z8 ⟨c.x0, c.y0, c.x1, c.y1⟩ = false := (kB _).2 ⟨f1, f2⟩
 obtain ⟨W, hW⟩ : ∃ W : Nat, (c.x1 - 1) / 8 + 1 - c.x0 / 8 = (W : Int) := ⟨((c.x1 - 1) / 8 + 1 - c.x0 / 8).toNat, by omega⟩
 obtain ⟨H, hH⟩ : ∃ H : Nat, (c.y1 - 1) / 8 + 1 - c.y0 / 8 = (H : Int) := ⟨((c.y1 - 1) / 8 + 1 - c.y0 / 8).toNat, by omega⟩
 have eW : widN (ue c) = W := by unfold widN ue; simp only; rw [hW]; exact Int.toNat_natCast _
 have eH : ((ue c).y1 - (ue c).y0).toNat = H := by unfold ue; simp only; rw [hH]; exact Int.toNat_natCast _
 rw [eW, eH] at hew
 rw [eW] at hw0
 change tlN c = W * H at hew
 have HR := zo (fun (k j : Nat) (hj : j < W) => by
  have := ze9 (c := c) hf.out (k := k) (j := j) (by rw [eW]; exact hj)
  rw [eW] at this; exact this)
 have HNX := zo (fun (n : Nat) (h : n < tlN c) => XY c h)
 have HLN := zo (vy c)
 have wf1 : (Lit.int .i64 c.x0).wf = true := vS (by omega) (by omega)
 have wf2 : (Lit.int .i64 c.y0).wf = true := vS (by omega) (by omega)
 have wf3 : (Lit.int .i64 (c.x1 - 1)).wf = true := vS (by omega) (by omega)
 have wf4 : (Lit.int .i64 (c.y1 - 1)).wf = true := vS (by omega) (by omega)
 go_enter func149, ntmps149
 go_upto_region 0 with fail
 refine wp_region_lit ?_
 (refine jd (t := 38) B ?_; clear B; intro b_c2 wn zb zd c2 za zf zk B)
 refine z7 1 ?_
 go_upto_region 1 with fail
 refine zS 1 ?_
 go_upto_region 2 with fail
 refine qz 1 ?_
 refine qe B (zE func112) (c := zdq c.x0 c.y0 c.x1 c.y1 _) ?_
 clear B
 intro wn za zf zg B
 replace c2 := c2.be za
 rw [hE]
 refine z7 1 ?_
 go_upto_region 5 with fail
 refine qz 4 ?_
 refine qe B (zE func114) (c := zfE c.x0 c.y0 _ wf1 wf2) ?_
 clear B
 intro wn za zf zg B
 replace c2 := c2.be za
 (refine jH (t := 95) (zX _ _ rfl) B ?_; clear B; intro b_p7 wn zb zd p7 za zf zk B; replace c2 := c2.be za)
 (refine qZ p7 B ?_; clear p7 B; intro wn p7 ze zf zg B; replace c2 := c2.cg ze)
 refine wpList_nil ?_
 go_upto_region 6 with fail
 refine qz 6 ?_
 refine qe B (zE func114) (c := zfE (c.x1 - 1) (c.y1 - 1) _ wf3 wf4) ?_
 clear B
 intro wn za zf zg B
 replace c2 := c2.be za
 replace p7 := p7.be za
 (refine jH (t := 95) (zX _ _ rfl) B ?_; clear B; intro b_p8 wn zb zd p8 za zf zk B; replace c2 := c2.be za; replace p7 := p7.be za)
 (refine qZ p8 B ?_; clear p8 B; intro wn p8 ze zf zg B; replace c2 := c2.cg ze; replace p7 := p7.cg ze)
 refine wpList_nil ?_
 have k1 : w.heap.size ≤ b_c2 := by omega
 have k2 : b_c2 < b_p7 := by have := c2.lt; omega
 have k3 : b_p7 < b_p8 := by have := p7.lt; omega
 have k4 := p8.lt
 obtain ⟨b0, hb0⟩ : ∃ n, n = wn.heap.size := ⟨_, rfl⟩
 have k5 : b_p8 < b0 := by omega
 have k6 : b0 ≤ wn.heap.size := by omega
 have od : qM psE b0 (.slice none 0 0) ((jG c).take 0) wn := qM.nil b0 wn
 clear hb0 k4
 go_upto_region 7 with fail
 refine zS 3 ?_
 go_wp2
 go_loopw [5, 9, 10] (fun ov yv _ wr => ∃ (k n cp : Nat) (ad : Option Addr), k ≤ H ∧ yv = .int .i64 (c.y0 / 8 + (k : Int)) ∧ n = W * k ∧ ov = .slice ad n cp ∧ Below w.heap.size w wr ∧ b0 ≤ wr.heap.size ∧ zw 38 wr b_c2 (jP c) ∧ zw 95 wr b_p7 #[.int .i64 (c.x0 / 8), .int .i64 (c.y0 / 8)] ∧ zw 95 wr b_p8 #[.int .i64 ((c.x1 - 1) / 8), .int .i64 ((c.y1 - 1) / 8)] ∧ qM psE b0 (.slice ad n cp) ((jG c).take n) wr) (fun _ yv _ _ => ((c.y1 - 1) / 8 + 1 - intOf yv).toNat)
 case atStart => exact ⟨0, 0, 0, none, by omega, by simp, by simp, rfl, B, k6, c2, p7, p8, od⟩
 case round =>
  clear B c2 p7 p8 od k6; obtain ⟨k, n, cp, ad, hk, rfl, hnk, rfl, B, k6, c2, p7, p8, od⟩ := hrel; by_cases hkH : k < H
  ·have q1 : decide (c.y0 / 8 + (k : Int) ≤ (c.y1 - 1) / 8) = true := zQ (by omega)
   have hn2 : W * k + W ≤ W * H := by
    have := Nat.mul_le_mul_left W (show k + 1 ≤ H from hkH); rw [Nat.mul_succ] at this; exact this
   have q3 : decide ((n : Int) < 2000) = true := zQ (by omega); have q4 : decide (n < 2000) = true := zQ (by omega); go_upto_region 8 with fail
   refine qz 6 ?_
   refine j1 underlying90 ?_; refine z7 3 ?_; go_upto_region 10 with fail
   refine zS 3 ?_; go_wp2; go_loopw [5, 10] (fun ov xv wr => ∃ (j n cp : Nat) (ad : Option Addr), j ≤ W ∧ xv = .int .i64 (c.x0 / 8 + (j : Int)) ∧ n = W * k + j ∧ ov = .slice ad n cp ∧ Below w.heap.size w wr ∧ b0 ≤ wr.heap.size ∧ zw 38 wr b_c2 (jP c) ∧ zw 95 wr b_p7 #[.int .i64 (c.x0 / 8), .int .i64 (c.y0 / 8)] ∧ zw 95 wr b_p8 #[.int .i64 ((c.x1 - 1) / 8), .int .i64 ((c.y1 - 1) / 8)] ∧ qM psE b0 (.slice ad n cp) ((jG c).take n) wr) (fun _ xv _ => ((c.x1 - 1) / 8 + 1 - intOf xv).toNat)
   case atStart => exact ⟨0, n, cp, ad, by omega, by simp, by omega, rfl, B, k6, c2, p7, p8, od⟩
   case round =>
    clear B c2 p7 p8 od k6 hnk q3 q4; obtain ⟨j, n, cp, ad, hj, rfl, hnj, rfl, B, k6, c2, p7, p8, od⟩ := hrel; have q3 : decide ((n : Int) < 2000) = true := zQ (by omega); have q4 : decide (n < 2000) = true := zQ (by omega); by_cases hjW : j < W
    ·have q2 : decide (c.x0 / 8 + (j : Int) ≤ (c.x1 - 1) / 8) = true := zQ (by omega)
     have hna : n < tlN c := by omega
     have hol : ((jG c).take n).length = n := by rw [List.length_take, HLN.out]; omega
     have HNXT := zo (show (jG c).take (n + 1) = (jG c).take n ++ [(c.x0 / 8 + (j : Int), c.y0 / 8 + (k : Int))] by
      have := HNX.out n hna; rw [hnj] at this ⊢; rw [HR.out k j hjW] at this; exact this)
     go_upto_region 11 with fail
     refine qz 6 ?_
     refine j1 underlying90 ?_; refine z7 3 ?_; go_upto_region 13 with fail
     refine qz 4 ?_
     (refine yd (E := psE) rfl _ rfl (c.x0 / 8 + (j : Int), c.y0 / 8 + (k : Int)) rfl (by omega) (kn B ?_); clear B; intro b_s1 wn zb zd s1 za zf zk B; replace od := od.be (za.mono zb); replace c2 := c2.be (za.mono zb); replace p7 := p7.be (za.mono zb); replace p8 := p8.be (za.mono zb); simp only [zn])
     (at_builtin; refine jA rfl _ _ rfl _ _ rfl rfl od (xh.one s1) (by simp only [List.length_cons, List.length_nil]; omega) (by omega) ?_; intro v_od wn ht za; have zf := B.size; have hbz := za.size; replace B := B.trans (za.mono (by omega)); clear od; replace c2 := c2.of_eq (za.block _ (by omega)); replace p7 := p7.of_eq (za.block _ (by omega)); replace p8 := p8.of_eq (za.block _ (by omega)); have od := ht; clear ht; obtain ⟨a_od, c_od, hv, hco⟩ := od.len; rw [List.length_append, hol] at hv; subst hv; simp only [zn])
     refine z7 1 ?_; go_wp2; go_roundw
     case rel => exact ⟨j + 1, n + 1, _, _, by omega, by go_num, by omega, rfl, B, by omega, c2, p7, p8, by rw [HNXT.out]; exact od⟩
     case measure => simp [intOf]; omega
    ·obtain rfl : j = W := by omega
     have q2 : decide (c.x0 / 8 + (j : Int) ≤ (c.x1 - 1) / 8) = false := zB (by omega); go_upto_region 11 with fail
     refine qz 6 ?_
     refine qm ?hs11_6 ?_
     case hs11_6 => kernel_rfl
     simp only [zn]; refine z7 3 ?_; go_wp2; go_roundw
     case rel => exact ⟨k + 1, n, cp, ad, by omega, by go_num, by rw [hnj, Nat.mul_succ], rfl, B, k6, c2, p7, p8, od⟩
     case measure => simp [intOf]; omega
  ·obtain rfl : k = H := by omega
   have q1 : decide (c.y0 / 8 + (k : Int) ≤ (c.y1 - 1) / 8) = false := zB (by omega); go_upto_region 8 with fail
   refine qz 6 ?_
   refine qm ?hs12_6 ?_
   case hs12_6 => kernel_rfl
   simp only [zn]; refine z7 3 ?_; go_upto_region 14 with fail
   refine zS 2 ?_; go_wp2; go_ret; obtain rfl : n = tlN c := by omega
   refine ⟨_, _, rfl, ?_, B⟩; have e : (jG c).take (tlN c) = jG c := List.take_of_length_le (by rw [HLN.out]; omega)
   rw [e] at od; exact od.rs
def qN (K : Act → World → Prop) : Exit → Act → World → Prop
 | .normal, a, w => K a w
 | _, _, _ => False
theorem qN.out (K : Act → World → Prop) : ¬ LetsOut (qN K) := fun ⟨_, _, h⟩ => h
theorem qN.at {K : Act → World → Prop} {a : Act} {w : World} (h : K a w) : qN K .normal a w := h
def Za (l : List Oper) : Bool := l.all fun o => match o.op with
 | .defer _ => false
 | _ => true
theorem wY {l : List Oper} (h : Za l = true) {o : Oper} (ho : o ∈ l) : ∀ c, o.op ≠ .defer c := fun c e => by
 have := List.all_eq_true.1 h o ho
 rw [e] at this
 cases this
section
variable {P : Program} {r n : Nat}
theorem za3 {o : Oper} {a : Act} {w : World} {K K' : Act → World → Prop} {M : Act → World → Prop} {Q : Exit → Act → World → Prop} (hd : ∀ c, o.op ≠ .defer c) (hK : ∀ a w, K' a w → K a w) (h : o.wp P a w K' (qN M)) : o.wpIn (Fence.wide.inRound r) n P a w K Q := by
 refine ⟨fun _ _ => trivial, ?_⟩
 rw [Oper.semAt_eq _ _ _ hd]
 unfold Oper.wp at h
 generalize (execOp a.eval o).run P w = z at *
 cases z with
 | ok x w' =>
  cases x with
  | value v => exact hK _ _ h
  | skip => exact hK _ _ h
  | defer d => exact hK _ _ h
  | enter f args =>
   refine ⟨fun h => (by cases h), CallsIn.inRound r (callsIn_wide.2 (Calls.mono h fun e w'' he => ?_))⟩; cases e with
   | returned v => exact hK _ _ he
   | panicked c => exact he.elim
   | outgrown => exact absurd he (qN.out M)
  | row s args =>
   refine ⟨fun h => (by cases h), fun c cs _ => ?_⟩; obtain ⟨v, w'', h1, h2⟩ := h c cs; exact ⟨v, w'', hK _ _ h1, stepsIn_wide.2 h2⟩
  | _ => exact absurd h (by simp [Oper.upon])
 | halt x w' =>
  cases x with
  | panic v => exact absurd h (by simp [Oper.upon, qN])
  | _ => exact absurd h (by simp [Oper.upon])
theorem Q1 {ops : Array Oper} {K : Act → World → Prop} {Q : Exit → Act → World → Prop} (hK : ∀ a w, K a w → Q .normal a w) : ∀ (l : List Oper) (a : Act) (w : World), (∀ o ∈ l, ∀ c, o.op ≠ .defer c) → wpList P ops (qN K) l a w → wpListIn (Fence.wide.inRound r) n P ops Q l a w
 | [], a, w, _, h => hK _ _ h
 | o :: rest, a, w, hd, h => by
  unfold wpList at h; unfold wpListIn; have ih := Q1 (ops := ops) hK rest; by_cases hw : Region.wanted o (yielded ops a.tmps) = true
  ·rw [if_pos hw] at h ⊢
   rcases h with h | h
   ·exact za3 (hd o (List.mem_cons_self ..)) (fun a w hh => ih a w (fun o ho => hd o (List.mem_cons_of_mem _ ho)) hh) h
   ·exact absurd h.2 (qN.out K)
  ·rw [if_neg hw] at h ⊢
   exact ⟨fun _ _ => trivial, ih _ _ (fun o ho => hd o (List.mem_cons_of_mem _ ho)) h⟩
theorem zx {id : Nat} {l : List Oper} {Q : Exit → Act → World → Prop} {a : Act} {w : World} (hd : Za l = true) (h : wpList P l.toArray (qN fun a w => Q .normal a w) l a w) : (Code.region id l.toArray false).wpIn (Fence.wide.inRound r) n P Q a w :=
 wpIn_region_lit (Q1 (fun _ _ h => h) l a w (fun o ho => wY hd ho) h)
theorem zcx {ops : Array Oper} {K K' M : Act → World → Prop} {Q : Exit → Act → World → Prop} (hd : ∀ o ∈ ops.toList, ∀ c, o.op ≠ .defer c) (hK : ∀ a w, K' a w → K a w) {i : Nat} {a : Act} {w : World} (h : wpOp P ops (qN M) i K' a w) : wpOpIn (Fence.wide.inRound r) n P ops Q i K a w := by
 unfold wpOp at h
 unfold wpOpIn
 cases ho : ops[i]? with
 | none => rw [ho] at h; exact hK _ _ h
 | some o =>
  rw [ho] at h; simp only at h ⊢; by_cases hw : Region.wanted o (yielded ops a.tmps) = true
  ·rw [if_pos hw] at h ⊢
   rcases h with h | h
   ·exact za3 (hd o (by rw [Array.mem_toList_iff]; exact Array.mem_of_getElem? ho)) hK h
   ·exact absurd h.2 (qN.out M)
  ·rw [if_neg hw] at h ⊢
   exact ⟨fun _ _ => trivial, hK _ _ h⟩
theorem Xu {ops : Array Oper} {md : Region.Mode} {K : Act → World → Prop} {Q : Exit → Act → World → Prop} (hd : ∀ o ∈ ops.toList, ∀ c, o.op ≠ .defer c) (hK : ∀ a w, K a w → Q .normal a w) : ∀ (f : Nat) (done : Array Bool) (a : Act) (w : World), wpAny P md ops (qN K) f done a w → wpAnyIn (Fence.wide.inRound r) n P md ops Q f done a w
 | 0, _, _, _, h => ⟨h.1, hK _ _ h.2⟩
 | f + 1, done, a, w, h => ⟨fun h0 => hK _ _ (h.1 h0), fun i hi => zcx hd (fun a w hh => Xu hd hK f _ a w hh) (h.2 i hi)⟩
theorem zcm {id : Nat} {l : List Oper} {Q : Exit → Act → World → Prop} {a : Act} {w : World} (hm : P.follows .mixedOrders = true) (hd : Za l = true) (h : wpAny P .any l.toArray (qN fun a w => Q .normal a w) l.toArray.size (Array.replicate l.toArray.size false) a w.drew) : (Code.region id l.toArray true).wpIn (Fence.wide.inRound r) n P Q a w :=
 wpIn_region_any hm (Xu (fun o ho => wY hd (by simpa using ho)) (fun _ _ h => h) _ _ _ _ h)
end
structure Xy (b : Nat) (W W' : World) : Prop where
 size : W.heap.size ≤ W'.heap.size
 same : ∀ (k : Nat) (o : Obj), k ≠ b → W.heap[k]? = some o → o.isCells = true → W'.heap[k]? = some o
theorem Xy.trans {b : Nat} {X Y Z : World} (h : Xy b X Y) (k : Xy b Y Z) : Xy b X Z := ⟨Nat.le_trans h.size k.size, fun i o hi ho hc => k.same i o hi (h.same i o hi ho hc) hc⟩
theorem Xy.refl (b : Nat) (W : World) : Xy b W W := ⟨Nat.le_refl _, fun _ _ _ h _ => h⟩
theorem Xy.putObj (b : Nat) {W : World} {l : Nat} {o : Obj} (o' : Obj) (hl : W.heap[l]? = some o) (ho : o.isCells = false) : Xy b W (W.putObj l o') :=
 ⟨by simp [World.putObj], fun k x hk hx hc => by
  have : k ≠ l := fun e => by rw [e, hl] at hx; cases hx; rw [ho] at hc; cases hc
  exact (World.putObj_heap_other (by omega)).trans hx⟩
theorem Xy.chg {b : Nat} {W W' : World} (h : qY b W W') : Xy b W W' :=
 ⟨h.size, fun k o hk ho _ => (h.block k (Array.getElem?_eq_some_iff.1 ho).1 hk).trans ho⟩
theorem Xy.atB {b k : Nat} {t : TypeId} {cs : Array Value} {W W' : World} (h : Xy b W W') (hk : k ≠ b) (ha : zw t W k cs) : zw t W' k cs := h.same k _ hk ha rfl
theorem KeepsFrom.chg {B b : Nat} {W W' : World} (h : qY b W W') (hb : b < B) : KeepsFrom B W W' :=
 ⟨h.size, fun k o hB hk _ => (h.block k (Array.getElem?_eq_some_iff.1 hk).1 (by omega)).trans hk⟩
theorem xZ {W W' : World} (h : Below W.heap.size W W') : W.grownBy W' none :=
 ⟨h.os, h.tape, h.output, h.size, fun k hk _ => h.block k hk⟩
theorem AbidesFrom.be {β : Type} {B : Nat} {J : β → World → Prop} (h : AbidesFrom B J) {s : β} {W W' : World} (hs : J s W) (hb : Below W.heap.size W W') : J s W' :=
 h s W W' none hs (xZ hb) (fun r e => by cases e)
theorem zw.own {t : TypeId} {A B : World} {b : Nat} {cs : Array Value} {row : Option Nat} (h : zw t A b cs) (hg : A.grownBy B row) (hr : ∀ r, row = some r → ∃ o : Obj, A.heap[r]? = some o ∧ o.isCells = false) : zw t B b cs :=
 (hg.block b h.lt (fun e => by
  obtain ⟨o, ho, hc⟩ := hr b e.symm; rw [show A.heap[b]? = _ from h] at ho; cases ho
  cases hc)).trans h
theorem JL {w : World} {g o : Nat} {v : Value} (h : w.cell? ⟨g, o, none⟩ = some v) : ∀ x : Obj, w.heap[g]? = some x → x.isCells = true := fun x hx => by
 unfold World.cell? at h
 simp only [hx] at h
 cases x <;> first | rfl | (simp at h)
theorem wu {n : Nat} {w A B : World} {row : Option Nat} (h : Below n w A) (hn : n ≤ A.heap.size) (hg : A.grownBy B row) (hr : ∀ r, row = some r → n ≤ r) : Below n w B :=
 ⟨hg.os.trans h.os, hg.tape.trans h.tape, hg.output.trans h.output, Nat.le_trans h.size hg.size, fun k hk => (hg.block k (by omega) (fun e => by have := hr k e.symm; omega)).trans (h.block k hk)⟩
theorem Js (r : Rc) (b : Bool) (w : World) (e : z8 r = b) : Calls Tryz.prog 45 #[.agg (jP r)] w fun e w' => e = .returned (.bool b) ∧ Below w.heap.size w w' := by
 subst e
 exact yF r w
theorem zcW (r : Rc) (x y : Int) (b : Bool) (w : World) (e : jx r x y = b) : Calls Tryz.prog 25 #[.agg (jP r), .agg #[.int .i64 x, .int .i64 y]] w fun e w' => e = .returned (.bool b) ∧ Below w.heap.size w w' := by
 subst e
 exact zah r x y w
theorem vc (x y : Int) (w : World) (hx : (Lit.int .i64 x).wf = true) (hy : (Lit.int .i64 y).wf = true) : Calls Tryz.prog 81 #[.agg #[.int .i64 x, .int .i64 y]] w fun e w' => e = .returned (.agg #[.int .i64 (x / 8), .int .i64 (y / 8)]) ∧ Below w.heap.size w w' := zif x y w hx hy
theorem zcU (p : Px) (w : World) (hp : p.ok) : Calls Tryz.prog 123 #[Px.v p] w fun e w' => e = .returned (Px.v (jo p)) ∧ Below w.heap.size w w' := Yr p w hp
theorem zc0 (c : Rc) (hf : xM c) (L : List Px) (hL : L.length = areaN c) (okL : Ks L) (x y : Int) (p : Px) (hp : p.ok) (bc bm g o cp : Nat) (w : World) (r0 : zw 38 w bc (jP c)) (m0 : zw 117 w bm (jy c (.slice (some ⟨g, o, none⟩) (areaN c) cp))) (ce : zH yq g o L w) :
  Calls Tryz.prog 131 #[.int .i64 x, .int .i64 y, Px.v p, .pointer (some ⟨bc, 0, none⟩), .pointer (some ⟨bm, 0, none⟩)] w fun e w' => e = .returned (Px.v (uy c L x y p)) ∧ Below w.heap.size w w' := by
 have B := Below.refl w.heap.size w
 have hb1 := r0.lt
 have hb2 := m0.lt
 have hb3 := ce.lt
 have OKL := zo okL
 cases hh : jx c x y with
 | true =>
  have e1 := zo (show uy c L x y p = jo (ZI c L x y) from by unfold uy; rw [hh]; rfl)
  obtain ⟨m1, m2, m3, m4⟩ := YL hf hh; have hix : (kq c x y).toNat < L.length := by rw [hL]; exact m4
  have hpx : L[(kq c x y).toNat]? = some (ZI c L x y) := by
   unfold ZI; rw [List.getD_eq_getElem?_getD, List.getElem?_eq_getElem hix]
   rfl
  have hok := zo (YU okL (c := c) x y)
  generalize ZI c L x y = pp at *
  have hh2 := of_decide_eq_true hh; obtain ⟨g1, g2, g3, g4⟩ := hh2; obtain ⟨a1, a2, a3, a4, a5, a6, a7, a8⟩ := hf; have hidx : (y - c.y0) * (c.x1 - c.x0) + x - c.x0 = kq c x y := rfl; have m5 : kq c x y < (areaN c : Int) := by omega
  have m6 : (areaN c : Int) ≤ 65536 := by
   unfold areaN; have := jX (a := c.x1 - c.x0) (b := c.y1 - c.y0) (m := 256) (k := 256) (by omega) (by omega) (by omega) (by omega); omega
  have HH := zo hh; clear okL hL hh; go_enter func131, ntmps131
  go_upto_region 0 with fail
  refine wp_region_lit ?_
  (refine yD rfl _ rfl _ rfl (kn B ?_); clear B; intro b_q7 wn zb zd q7 za zf zk B; replace r0 := r0.be (za.mono zb); replace m0 := m0.be (za.mono zb); replace ce := ce.be (za.mono zb); simp only [zn])
  (refine qA rfl rfl (kn B ?_); clear B; intro b_q8 wn zb zd q8 za zf zk B; replace r0 := r0.be (za.mono zb); replace m0 := m0.be (za.mono zb); replace ce := ce.be (za.mono zb); replace q7 := q7.be (za.mono zb); simp only [zn])
  refine wpList_nil ?_; go_upto_region 1 with fail
  refine qz 4 ?_
  refine qe B (zE func25) (c := zcW c x y true _ HH.out) ?_; clear B; intro wn za zf zg B
  replace r0 := r0.be za
  replace m0 := m0.be za
  replace ce := ce.be za
  replace q7 := q7.be za
  replace q8 := q8.be za; refine wpList_nil ?_; go_upto_region 2 with fail
  refine wp_region_lit ?_; refine jD 19 ?_
  repeat (first | go_big_quiet_skip | (go_big_quiet_want; first | ((first | refine zq (fun w hw => qL (xQ (zY m0 w hw))) ?_ | refine zq (fun w hw => W4 (qD ce w hw) hpx) ?_ | refine qW rfl _ rfl (vx q7) ?_ | refine qB ?_ | refine qC ?_); simp only [zn]; go_big_quiet_on) | (go_big_quiet_op; go_big_quiet_on)))
  refine wpQuiet_nil ?_; refine qe B (zE func123) (c := zcU pp _ hok.out) ?_; clear B; intro wn za zf zg B
  replace r0 := r0.be za
  replace ce := ce.be za
  replace q7 := q7.be za
  replace q8 := q8.be za
  (refine z2 rfl _ _ rfl _ rfl (_) rfl q8 (xV B (by omega) ?_); clear q8 B; intro wn q8 ze zf zg B; replace r0 := r0.cg ze; replace ce := ce.cg ze; replace q7 := q7.cg ze; simp only [zn])
  refine wpList_nil ?_; go_wp2; refine bodyPost_ret (jM rfl _ _ (b_q8) rfl q8) rfl ?_; exact ⟨by rw [e1.out], B⟩
 | false =>
  have e1 := zo (show uy c L x y p = p from by unfold uy; rw [hh]; rfl)
  have HH := zo hh; clear okL hL hh; go_enter func131, ntmps131
  go_upto_region 0 with fail
  refine wp_region_lit ?_
  (refine yD rfl _ rfl _ rfl (kn B ?_); clear B; intro b_q7 wn zb zd q7 za zf zk B; replace r0 := r0.be (za.mono zb); replace ce := ce.be (za.mono zb); simp only [zn])
  (refine qA rfl rfl (kn B ?_); clear B; intro b_q8 wn zb zd q8 za zf zk B; replace r0 := r0.be (za.mono zb); replace ce := ce.be (za.mono zb); replace q7 := q7.be (za.mono zb); simp only [zn])
  refine wpList_nil ?_; go_upto_region 1 with fail
  refine qz 4 ?_
  refine qe B (zE func25) (c := zcW c x y false _ HH.out) ?_; clear B; intro wn za zf zg B
  replace ce := ce.be za
  replace q7 := q7.be za
  replace q8 := q8.be za; refine wpList_nil ?_; go_upto_region 3 with fail
  refine wp_region_lit ?_; refine jD 1 ?_; repeat (first | go_big_quiet_skip | (go_big_quiet_want; first | ((first | refine zq (fun w hw => W4 (qD ce w hw) hpx) ?_ | refine qW rfl _ rfl (vx q7) ?_ | refine qB ?_ | refine qC ?_); simp only [zn]; go_big_quiet_on) | (go_big_quiet_op; go_big_quiet_on)))
  refine wpQuiet_nil ?_
  (refine z2 rfl _ _ rfl _ rfl (_) rfl q8 (xV B (by omega) ?_); clear q8 B; intro wn q8 ze zf zg B; simp only [zn])
  refine wpList_nil ?_; go_wp2; refine bodyPost_ret (jM rfl _ _ (b_q8) rfl q8) rfl ?_; exact ⟨by rw [e1.out], B⟩
theorem zft (c : Rc) (w : World) : Calls Tryz.prog 129 #[.agg (jP c)] w fun e w' => ∃ b, e = .returned (.func (.func 163) #[] #[.pointer (some ⟨b, 0, none⟩)]) ∧ w.heap.size ≤ b ∧ zw 38 w' b (jP c) ∧ Below w.heap.size w w' := by
 have B := Below.refl w.heap.size w
 go_enter func129, ntmps129
 go_upto_region 0 with fail
 refine wp_region_lit ?_
 (refine jd (t := 38) B ?_; clear B; intro b_r1 wn zb zd r1 za zf zk B)
 refine z7 1 ?_
 go_wp2
 go_ret
 exact ⟨_, rfl, by omega, r1, B⟩
def imR (c : Rc) : Rc := if jh c = 0 then c else Rc.zero
def zkc (c : Rc) (ks : List TA) : List Px := if jh c = 0 then JT c ks else []
attribute [local go_sem] Oper.semAt_some
set_option linter.unusedVariables false
set_option linter.unusedSimpArgs false
set_option maxRecDepth 20000
theorem zK {w : World} {b : Nat} {c : Rc} {u : Value} (h : zw 117 w b (jy c u)) : (Instr.loadAt 38 (.pointer (some ⟨b, 0, none⟩))).run Tryz.prog w = .ok (.agg (jP c)) w :=
 uP (cs' := jP c) h 0 isAgg38 (by kernel_rfl) (fun j hj => by
  have hj : j < 4 := hj; have hc : j = 0 ∨ j = 1 ∨ j = 2 ∨ j = 3 := by omega
  rcases hc with rfl | rfl | rfl | rfl <;> rfl)
theorem uZ (r : Rc) (b : Bool) (w : World) (e : jk r = b) : Calls Tryz.prog 128 #[.agg (jP r)] w fun e w' => e = .returned (.bool b) ∧ Below w.heap.size w w' := e ▸ uC r w
theorem Yo (r : Rc) (n : Int) (w : World) (h : jk r = true) (e : yV r = n) : Calls Tryz.prog 125 #[.agg (jP r)] w fun e w' => e = .returned (.int .i64 n) ∧ Below w.heap.size w w' := e ▸ zcI r w h
theorem zao (c : Rc) (n : Int) (w : World) (e : jh c = n) : Calls Tryz.prog 124 #[.agg (jP c)] w fun e w' => e = .returned (.int .i64 n) ∧ Below w.heap.size w w' := e ▸ zc7 c w
theorem KD (v : Value) (ls : List TA) (c : Rc) (ad : Option Addr) (n cp : Nat) (w : World) (h : RS v ls w) (hn : n ≤ maxLen) (hV0 : jk c = false) : Calls Tryz.prog 77 #[.agg #[v], .agg (jy c (.slice ad n cp))] w fun e w' => e = .returned (.tuple #[.agg #[.slice none 0 0], .int .i64 1]) ∧ Below w.heap.size w w' := by
 have B := Below.refl w.heap.size w
 obtain ⟨a, cpv, rfl, hc⟩ := h.len
 clear h
 go_enter func77, ntmps77
 go_upto_region 0 with fail
 refine wp_region_lit ?_
 (refine jd (t := 64) B ?_; clear B; intro b_r2 wn zb zd r2 za zf zk B)
 (refine jd (t := 117) B ?_; clear B; intro b_m3 wn zb zd m3 za zf zk B; replace r2 := r2.be za)
 (refine jH (t := 64) (qK _ _ rfl) B ?_; clear B; intro b_r4 wn zb zd r4 za zf zk B; replace r2 := r2.be za; replace m3 := m3.be za)
 refine z7 1 ?_
 go_upto_region 1 with fail
 refine wp_region_lit ?_
 refine jD 2 ?_
 repeat (first | go_big_quiet_skip | (go_big_quiet_want; first | ((first | refine zq (fun w hw => zK (zY m3 w hw)) ?_ | refine qB ?_ | refine qC ?_); simp only [zn]; go_big_quiet_on) | (go_big_quiet_op; go_big_quiet_on)))
 refine wpQuiet_nil ?_
 (refine jH (t := 38) (zN _ _ rfl) B ?_; clear B; intro b_c6 wn zb zd c6 za zf zk B; replace r2 := r2.be za; replace m3 := m3.be za; replace r4 := r4.be za)
 (refine qZ (hone := (by simp [jP, jy, Value.oneCell'])) c6 B ?_; clear c6 B; intro wn c6 ze zf zg B; replace r2 := r2.cg ze; replace m3 := m3.cg ze; replace r4 := r4.cg ze)
 refine wpList_nil ?_
 replace c6 : zw 38 _ b_c6 (jP c) := c6
 go_upto_region 2 with fail
 refine zA 11 [(1, zF ?v1_1)] (by kernel_rfl) (by kernel_rfl) (by kernel_rfl) ?_
 rotate_left 1
 simp only [jS, Nat.reduceAdd]
 refine vV 1 ?_
 repeat (first | go_big_quiet_skip | (go_big_quiet_want; first | ((first | refine zq (fun w hw => zK (zY m3 w hw)) ?_ | refine qB ?_ | refine qC ?_); simp only [zn]; go_big_quiet_on) | (go_big_quiet_op; go_big_quiet_on)))
 refine wpQuiet_nil ?_
 refine zcB ?_ ?_
 ·intro wn za hE Kx hKx
  obtain ⟨zf, zg, B⟩ := zM B za
  replace m3 := m3.be za
  replace r4 := r4.be za
  replace c6 := c6.be za
  refine zcF func128 ?_
  refine (uZ c false _ hV0).mono ?_; rintro e wm ⟨rfl, zl⟩; refine ⟨_, rfl, ?_⟩; have hz := hKx () wm trivial zl
  dsimp only [zF] at hz
  exact hz
 rintro ⟨⟩
 dsimp only [zF]
 simp only [zn]
 refine vV 4 ?_
 repeat (first | go_big_quiet_skip | (go_big_quiet_want; first | ((first | refine zq (fun w hw => qL (xQ (zY m3 w hw))) ?_ | refine qB ?_ | refine qC ?_); simp only [zn]; go_big_quiet_on) | (go_big_quiet_op; go_big_quiet_on)))
 refine wpQuiet_nil ?_
 refine wO ?hw1_6 ?_
 case hw1_6 => kernel_rfl
 simp only [zn]
 refine vV 1 ?_
 repeat (first | go_big_quiet_skip | (go_big_quiet_want; first | ((first | refine zq (fun w hw => zK (zY m3 w hw)) ?_ | refine qB ?_ | refine qC ?_); simp only [zn]; go_big_quiet_on) | (go_big_quiet_op; go_big_quiet_on)))
 refine wpQuiet_nil ?_
 refine wO ?hw1_8 ?_
 case hw1_8 => kernel_rfl
 simp only [zn]
 refine vi 2 ?_
 refine qi ?_
 intro wn za hE
 obtain ⟨zf, zg, B⟩ := zM B za
 replace r4 := r4.be za
 clear hE
 try simp only [List.drop_succ_cons, List.drop_zero]
 refine zI.normal ?_
 go_upto_region 3 with fail
 refine qz 1 ?_
 (refine qZ (hone := (by simp [jP, jy, Value.oneCell'])) r4 B ?_; clear r4 B; intro wn r4 ze zf zg B)
 refine z7 1 ?_
 go_wp2
 refine yP r4 ?_
 exact ⟨rfl, B⟩
theorem KH (v : Value) (ls : List TA) (c : Rc) (ad : Option Addr) (n cp : Nat) (w : World) (h : RS v ls w) (hn : n ≤ maxLen) (hV0 : jk c = true) (A : Int) (hA : yV c = A) (hlen : ¬ (n : Int) = A) : Calls Tryz.prog 77 #[.agg #[v], .agg (jy c (.slice ad n cp))] w fun e w' => e = .returned (.tuple #[.agg #[.slice none 0 0], .int .i64 1]) ∧ Below w.heap.size w w' := by
 have B := Below.refl w.heap.size w
 obtain ⟨a, cpv, rfl, hc⟩ := h.len
 have d1 : ((n : Int) != A) = true := by simpa using hlen
 have HA := zo hA
 clear h hA
 go_enter func77, ntmps77
 go_upto_region 0 with fail
 refine wp_region_lit ?_
 (refine jd (t := 64) B ?_; clear B; intro b_r2 wn zb zd r2 za zf zk B)
 (refine jd (t := 117) B ?_; clear B; intro b_m3 wn zb zd m3 za zf zk B; replace r2 := r2.be za)
 (refine jH (t := 64) (qK _ _ rfl) B ?_; clear B; intro b_r4 wn zb zd r4 za zf zk B; replace r2 := r2.be za; replace m3 := m3.be za)
 refine z7 1 ?_
 go_upto_region 1 with fail
 refine wp_region_lit ?_
 refine jD 2 ?_
 repeat (first | go_big_quiet_skip | (go_big_quiet_want; first | ((first | refine zq (fun w hw => zK (zY m3 w hw)) ?_ | refine qB ?_ | refine qC ?_); simp only [zn]; go_big_quiet_on) | (go_big_quiet_op; go_big_quiet_on)))
 refine wpQuiet_nil ?_
 (refine jH (t := 38) (zN _ _ rfl) B ?_; clear B; intro b_c6 wn zb zd c6 za zf zk B; replace r2 := r2.be za; replace m3 := m3.be za; replace r4 := r4.be za)
 (refine qZ (hone := (by simp [jP, jy, Value.oneCell'])) c6 B ?_; clear c6 B; intro wn c6 ze zf zg B; replace r2 := r2.cg ze; replace m3 := m3.cg ze; replace r4 := r4.cg ze)
 refine wpList_nil ?_
 replace c6 : zw 38 _ b_c6 (jP c) := c6
 go_upto_region 2 with fail
 refine zA 11 [(1, zF ?v2_1), (6, zF ?v2_6), (8, zF ?v2_8)] (by kernel_rfl) (by kernel_rfl) (by kernel_rfl) ?_
 rotate_left 3
 simp only [jS, Nat.reduceAdd]
 refine vV 1 ?_
 repeat (first | go_big_quiet_skip | (go_big_quiet_want; first | ((first | refine zq (fun w hw => zK (zY m3 w hw)) ?_ | refine qB ?_ | refine qC ?_); simp only [zn]; go_big_quiet_on) | (go_big_quiet_op; go_big_quiet_on)))
 refine wpQuiet_nil ?_
 refine zcB ?_ ?_
 ·intro wn za hE Kx hKx
  obtain ⟨zf, zg, B⟩ := zM B za
  replace m3 := m3.be za
  replace r4 := r4.be za
  replace c6 := c6.be za
  refine zcF func128 ?_
  refine (uZ c true _ hV0).mono ?_; rintro e wm ⟨rfl, zl⟩; refine ⟨_, rfl, ?_⟩; have hz := hKx () wm trivial zl
  dsimp only [zF] at hz
  exact hz
 rintro ⟨⟩
 dsimp only [zF]
 simp only [zn]
 refine vV 4 ?_
 repeat (first | go_big_quiet_skip | (go_big_quiet_want; first | ((first | refine zq (fun w hw => qL (xQ (zY m3 w hw))) ?_ | refine qB ?_ | refine qC ?_); simp only [zn]; go_big_quiet_on) | (go_big_quiet_op; go_big_quiet_on)))
 refine wpQuiet_nil ?_
 refine qv (by rfl) ?hw2_6 ?_ ?_
 case hw2_6 => kernel_rfl
 ·intro wn za hE Kx hKx
  obtain ⟨zf, zg, B⟩ := zM B za
  replace m3 := m3.be za
  replace r4 := r4.be za
  replace c6 := c6.be za
  refine kK rfl underlying115 rfl ?_; exact hKx () _ trivial (Below.refl _ _)
 rintro ⟨⟩
 dsimp only [zF]
 simp only [zn]
 refine vV 1 ?_
 repeat (first | go_big_quiet_skip | (go_big_quiet_want; first | ((first | refine zq (fun w hw => zK (zY m3 w hw)) ?_ | refine qB ?_ | refine qC ?_); simp only [zn]; go_big_quiet_on) | (go_big_quiet_op; go_big_quiet_on)))
 refine wpQuiet_nil ?_
 refine qv (by rfl) ?hw2_8 ?_ ?_
 case hw2_8 => kernel_rfl
 ·intro wn za hE Kx hKx
  obtain ⟨zf, zg, B⟩ := zM B za
  replace r4 := r4.be za
  refine zcF func125 ?_
  refine (Yo c A _ hV0 HA.out).mono ?_; rintro e wm ⟨rfl, zl⟩; refine ⟨_, rfl, ?_⟩; have hz := hKx () wm trivial zl
  dsimp only [zF] at hz
  exact hz
 rintro ⟨⟩
 dsimp only [zF]
 simp only [zn]
 refine vi 2 ?_
 refine qi ?_
 intro wn za hE
 obtain ⟨zf, zg, B⟩ := zM B za
 replace r4 := r4.be za
 clear hE
 try simp only [List.drop_succ_cons, List.drop_zero]
 refine zI.normal ?_
 go_upto_region 3 with fail
 refine qz 1 ?_
 (refine qZ (hone := (by simp [jP, jy, Value.oneCell'])) r4 B ?_; clear r4 B; intro wn r4 ze zf zg B)
 refine z7 1 ?_
 go_wp2
 refine yP r4 ?_
 exact ⟨rfl, B⟩
theorem KC (v : Value) (ls : List TA) (c : Rc) (ad : Option Addr) (n cp : Nat) (w : World) (h : RS v ls w) (hn : n ≤ maxLen) (hV0 : jk c = true) (hA : yV c = (n : Int)) (e0 : Int) (hF : jh c = e0) (h0 : ¬ e0 = 0) : Calls Tryz.prog 77 #[.agg #[v], .agg (jy c (.slice ad n cp))] w fun e w' => e = .returned (.tuple #[.agg #[.slice none 0 0], .int .i64 e0]) ∧ Below w.heap.size w w' := by
 have B := Below.refl w.heap.size w
 obtain ⟨a, cpv, rfl, hc⟩ := h.len
 have d1 : ((n : Int) != (n : Int)) = false := by simp
 have d2 : (e0 != 0) = true := by simpa using h0
 have HA := zo hA
 have HF := zo hF
 clear h hA hF
 go_enter func77, ntmps77
 go_upto_region 0 with fail
 refine wp_region_lit ?_
 (refine jd (t := 64) B ?_; clear B; intro b_r2 wn zb zd r2 za zf zk B)
 (refine jd (t := 117) B ?_; clear B; intro b_m3 wn zb zd m3 za zf zk B; replace r2 := r2.be za)
 (refine jH (t := 64) (qK _ _ rfl) B ?_; clear B; intro b_r4 wn zb zd r4 za zf zk B; replace r2 := r2.be za; replace m3 := m3.be za)
 refine z7 1 ?_
 go_upto_region 1 with fail
 refine wp_region_lit ?_
 refine jD 2 ?_
 repeat (first | go_big_quiet_skip | (go_big_quiet_want; first | ((first | refine zq (fun w hw => zK (zY m3 w hw)) ?_ | refine qB ?_ | refine qC ?_); simp only [zn]; go_big_quiet_on) | (go_big_quiet_op; go_big_quiet_on)))
 refine wpQuiet_nil ?_
 (refine jH (t := 38) (zN _ _ rfl) B ?_; clear B; intro b_c6 wn zb zd c6 za zf zk B; replace r2 := r2.be za; replace m3 := m3.be za; replace r4 := r4.be za)
 (refine qZ (hone := (by simp [jP, jy, Value.oneCell'])) c6 B ?_; clear c6 B; intro wn c6 ze zf zg B; replace r2 := r2.cg ze; replace m3 := m3.cg ze; replace r4 := r4.cg ze)
 refine wpList_nil ?_
 replace c6 : zw 38 _ b_c6 (jP c) := c6
 go_upto_region 2 with fail
 refine zA 11 [(1, zF ?v3_1), (6, zF ?v3_6), (8, zF ?v3_8)] (by kernel_rfl) (by kernel_rfl) (by kernel_rfl) ?_
 rotate_left 3
 simp only [jS, Nat.reduceAdd]
 refine vV 1 ?_
 repeat (first | go_big_quiet_skip | (go_big_quiet_want; first | ((first | refine zq (fun w hw => zK (zY m3 w hw)) ?_ | refine qB ?_ | refine qC ?_); simp only [zn]; go_big_quiet_on) | (go_big_quiet_op; go_big_quiet_on)))
 refine wpQuiet_nil ?_
 refine zcB ?_ ?_
 ·intro wn za hE Kx hKx
  obtain ⟨zf, zg, B⟩ := zM B za
  replace m3 := m3.be za
  replace r4 := r4.be za
  replace c6 := c6.be za
  refine zcF func128 ?_
  refine (uZ c true _ hV0).mono ?_; rintro e wm ⟨rfl, zl⟩; refine ⟨_, rfl, ?_⟩; have hz := hKx () wm trivial zl
  dsimp only [zF] at hz
  exact hz
 rintro ⟨⟩
 dsimp only [zF]
 simp only [zn]
 refine vV 4 ?_
 repeat (first | go_big_quiet_skip | (go_big_quiet_want; first | ((first | refine zq (fun w hw => qL (xQ (zY m3 w hw))) ?_ | refine qB ?_ | refine qC ?_); simp only [zn]; go_big_quiet_on) | (go_big_quiet_op; go_big_quiet_on)))
 refine wpQuiet_nil ?_
 refine qv (by rfl) ?hw3_6 ?_ ?_
 case hw3_6 => kernel_rfl
 ·intro wn za hE Kx hKx
  obtain ⟨zf, zg, B⟩ := zM B za
  replace m3 := m3.be za
  replace r4 := r4.be za
  replace c6 := c6.be za
  refine kK rfl underlying115 rfl ?_; exact hKx () _ trivial (Below.refl _ _)
 rintro ⟨⟩
 dsimp only [zF]
 simp only [zn]
 refine vV 1 ?_
 repeat (first | go_big_quiet_skip | (go_big_quiet_want; first | ((first | refine zq (fun w hw => zK (zY m3 w hw)) ?_ | refine qB ?_ | refine qC ?_); simp only [zn]; go_big_quiet_on) | (go_big_quiet_op; go_big_quiet_on)))
 refine wpQuiet_nil ?_
 refine qv (by rfl) ?hw3_8 ?_ ?_
 case hw3_8 => kernel_rfl
 ·intro wn za hE Kx hKx
  obtain ⟨zf, zg, B⟩ := zM B za
  replace m3 := m3.be za
  replace r4 := r4.be za
  replace c6 := c6.be za
  refine zcF func125 ?_
  refine (Yo c (n : Int) _ hV0 HA.out).mono ?_; rintro e wm ⟨rfl, zl⟩; refine ⟨_, rfl, ?_⟩; have hz := hKx () wm trivial zl
  dsimp only [zF] at hz
  exact hz
 rintro ⟨⟩
 dsimp only [zF]
 simp only [zn]
 refine vi 2 ?_
 refine qi ?_
 intro wn za hE
 obtain ⟨zf, zg, B⟩ := zM B za
 replace m3 := m3.be za
 replace r4 := r4.be za
 replace c6 := c6.be za
 clear hE
 try simp only [List.drop_succ_cons, List.drop_zero]
 refine zI.normal ?_
 go_upto_region 4 with fail
 refine wp_region_lit ?_
 refine jD 1 ?_
 repeat (first | go_big_quiet_skip | (go_big_quiet_want; first | ((first | refine zq (fun w hw => zK (zY m3 w hw)) ?_ | refine qB ?_ | refine qC ?_); simp only [zn]; go_big_quiet_on) | (go_big_quiet_op; go_big_quiet_on)))
 refine wpQuiet_nil ?_
 refine qe B (zE func124) (c := zao c e0 _ HF.out) ?_
 clear B
 intro wn za zf zg B
 replace r4 := r4.be za
 refine z7 1 ?_
 go_upto_region 5 with fail
 refine zS 2 ?_
 go_upto_region 6 with fail
 refine qz 2 ?_
 (refine qZ (hone := (by simp [jP, jy, Value.oneCell'])) r4 B ?_; clear r4 B; intro wn r4 ze zf zg B)
 refine z7 1 ?_
 go_wp2
 refine yP r4 ?_
 exact ⟨rfl, B⟩
section
variable {F : Fence} {n : Nat} {P : Program}
theorem Xb {α : Type} {g : Operand} {ps : Array Tmp} {assign body : Code} {Q : Exit → Act → World → Prop} {a : Act} {w : World}
  (hro : F.round = none) (h1 : 1 ≤ n) {gf : Nat} {lb : Array Value} (hg : a.eval g = .func (.func gf) #[] lb) (hFg : F.fn gf) (eg : ∀ args w, (callFunc gf args).run P w = .ok (.enter gf args) w)
  {encs : α → Array Value} {Kp : World → World → Prop} {S Sp : List α → Prop} {N : Nat} {w0 : World} (hseq : SeqStopsK F (n - 1) P gf lb encs Kp S Sp N w0)
  (hKt : ∀ {A B C : World}, Kp A B → Kp B C → Kp A C) (hKb : ∀ (W : World) (l : Nat) (o o' : Obj), w.heap.size ≤ l → W.heap[l]? = some o → o.isCells = false → o.isWalk = false → Kp W (W.putObj l o'))
  (hKg : ∀ (A B : World), Below A.heap.size A B → Kp A B) (hb0 : Below w0.heap.size w0 w) (hps : ∀ x, (encs x).size = ps.size)
  (I : List α → World → Prop) (hI : OwnFrom w.heap.size I) (h0 : I [] w) (As : α → Act → World → Prop) (hAs : ∀ x, OwnFrom w.heap.size (As x))
  (hassign : ∀ (l : Nat) (pre : List α) (x : α) (W : World) (K : Act → World → Prop), I pre W → (∀ a' W', Below W.heap.size W W' → As x a' W' → K a' W') →
   assign.wpIn (F.inRound l) (n - 1 - 1) P (Exit.then K (fun _ _ _ => False)) { tmps := (ps.zip (encs x)).foldl (fun t (p, v) => t.setIfInBounds p v) a.tmps, defers := [] } W)
  (hbody : ∀ (l : Nat) (pre : List α) (x : α) (W : World) (a' : Act), I pre W → As x a' W → pre.length < N → body.wpIn (F.inRound l) (n - 1 - 1) P (ownPostK Kp I (fun _ _ _ => False) (pre ++ [x]) W) a' W)
  (hdone : ∀ (D : Nat) (xs : List α) (W : World), w.heap.size ≤ D → S xs → I xs W → W.heap[D]? = some (.deferred (some [])) → Q .normal { a with defers := { target := .collected D, args := #[] } :: a.defers } W) :
  (Code.rangeFunc g ps assign body).wpIn F n P Q a w := by
 refine wpIn_rangeFunc fun fn hfn => ?_
 rw [hro]
 obtain ⟨rc, hrc⟩ : ∃ rc : LoopState → Option Code → Loop, rc = fun st pe => { state := st, pending := pe, fn, tmps := a.tmps, params := ps, assign, body, defers := w.heap.size } := ⟨_, rfl⟩
 obtain ⟨W1, hW1⟩ : ∃ W1, (w.alloc (.deferred (some []))).alloc (.loop (rc .ready none)) = W1 := ⟨_, rfl⟩
 have blkL : W1.heap[w.heap.size + 1]? = some (.loop (rc .ready none)) := by
  have := World.alloc_heap_new (w.alloc (.deferred (some []))) (.loop (rc .ready none)); rw [← hW1]
  rwa [World.size_alloc] at this
 have blkD : W1.heap[w.heap.size]? = some (.deferred (some [])) := by
  rw [← hW1]; exact (Below.heap_alloc _ _ _ (by simp)).trans (World.alloc_heap_new w _)
 have grown : Below w0.heap.size w0 W1 := by
  rw [← hW1]; exact hb0.trans ((((Below.refl _ w).alloc (Nat.le_refl _) _).alloc (by simp) _).mono hb0.size)
 have szW1 : w.heap.size ≤ W1.heap.size := by rw [← hW1]; simp; omega
 have Xl : I [] W1 := by rw [← hW1]; exact hI.alloc _ (hI.alloc _ h0)
 refine ⟨w.heap.size + 1, [{ target := .collected w.heap.size, args := #[] }], W1, { target := .fn (.func gf) lb, args := #[.func (.yield (w.heap.size + 1)) #[] #[]] }, W1, gf,
  #[.func (.yield (w.heap.size + 1)) #[] #[]] ++ lb, W1, ?_, ?_, ?_, ?_, fun _ => h1, ?_⟩
 ·rw [← hW1, hrc]; exact run_enterLoop_outer _ _ _ _ _
 ·simp only [resolve, hg]
  simp [go_sem]
 ·intro f' hf'
  simp [Target.leads] at hf'
  subst hf'; exact hFg
 ·simp [invoke, go_sem, eg]
 have walks : ∀ {A : World} {row : Option Nat}, (∀ r, row = some r → W1.heap.size ≤ r ∧ ∃ o : Obj, A.heap[r]? = some o ∧ o.isWalk = true) → (∀ r, row = some r → w.heap.size ≤ r ∧ ∃ o : Obj, A.heap[r]? = some o ∧ o.isCells = false) := fun hr r e => by
  obtain ⟨hB, o, ho, hw⟩ := hr r e; exact ⟨by omega, o, ho, Obj.not_cells_of_walk hw⟩
 refine (hseq (w.heap.size + 1)
  (fun pre W => I pre W ∧ W.heap[w.heap.size + 1]? = some (.loop (rc .ready none)) ∧ W.heap[w.heap.size]? = some (.deferred (some [])))
  (fun _ _ => False) W1 grown
  (fun s A B row hs hg' hr => ⟨hI s A B row hs.1 hg' (walks hr), (grownBy_keeps hg' (fun r e => (hr r e).2) hs.2.1 rfl).trans hs.2.1, (grownBy_keeps hg' (fun r e => (hr r e).2) hs.2.2 rfl).trans hs.2.2⟩)
  (fun _ _ _ _ hs _ _ => hs) ?_ ⟨Xl, blkL, blkD⟩).mono ?_
 ·rintro pre x W ⟨hi, hl, hk⟩ hlen
  have hy := run_yield (P := P) (args := encs x) hl (by rw [hrc]; exact hps x)
  rw [hrc] at hy; refine ⟨fn, _, assign, body, hy, roundIn_of_wpIn hfn (hassign _ pre x W _ hi fun a' V hb ha => ?_)⟩; have hlV : V.heap[w.heap.size + 1]? = some (.loop (rc .ready none)) := (hb.block _ (Array.getElem?_eq_some_iff.1 hl).1).trans hl; have hkV : V.heap[w.heap.size]? = some (.deferred (some [])) := (hb.block _ (Array.getElem?_eq_some_iff.1 hk).1).trans hk; have hiV : I pre V := hI pre W V none hi (xZ hb) (fun r e => by cases e); refine ⟨_, run_beginRound hlV (by rw [hrc]), ?_⟩; obtain ⟨V1, hV1⟩ : ∃ V1, V.putObj (w.heap.size + 1) (.loop { rc .ready none with state := .busy }) = V1 := ⟨_, rfl⟩; have hl1 : V1.heap[w.heap.size + 1]? = some (.loop { rc .ready none with state := .busy }) := by rw [← hV1]; exact World.putObj_heap_same (Array.getElem?_eq_some_iff.1 hlV).1
  have hk1 : V1.heap[w.heap.size]? = some (.deferred (some [])) := by rw [← hV1]; exact (World.putObj_heap_other (by omega)).trans hkV
  have hKp1 : Kp W V1 := hKt (hKg _ _ hb) (by rw [← hV1]; exact hKb _ _ _ _ (by omega) hlV rfl rfl)
  have hi1 : I pre V1 := by rw [← hV1]; exact hI.putObj _ hiV (by omega) hlV rfl
  have ha1 : As x a' V1 := by rw [← hV1]; exact (hAs x).putObj _ ha (by omega) hlV rfl
  rw [hV1]; refine wpIn_mono (hbody _ pre x V1 a' hi1 ha1 hlen) ?_; rintro e a3 W3 hp; cases e with
  | normal =>
   obtain ⟨ko, kp, hi3⟩ := hp; have hl3 := ko.same _ _ hl1 rfl; have hk3 := ko.same _ _ hk1 rfl; have he := run_endRound (P := P) none hl3; rw [hrc] at he; refine ⟨_, _, he, .inl ⟨rfl, ⟨hI.putObj _ hi3 (by omega) hl3 rfl, ?_, (World.putObj_heap_other (by omega)).trans hk3⟩, hKt (hKt hKp1 kp) (hKb _ _ _ _ (by omega) hl3 rfl rfl)⟩⟩; rw [World.putObj_heap_same (Array.getElem?_eq_some_iff.1 hl3).1, hrc]
   rfl
  | ret => exact hp.2.elim
  | exit id => exact hp.2.elim
  | goto t => exact hp.2.elim
  | panic ch => exact hp.elim
  | outgrown => exact hp.elim
 ·rintro e W2 ⟨⟨v, rfl⟩, ⟨xs, hS, hi, hl, hk⟩ | ⟨_, _, hf⟩⟩
  ·have he := run_endLoop (P := P) hl (by rw [hrc]; simp)
   rw [hrc] at he; exact ⟨none, _, he, hdone _ xs _ (Nat.le_refl _) hS (hI.putObj _ hi (by omega) hl rfl) ((World.putObj_heap_other (by omega)).trans hk)⟩
  ·exact hf.elim
end
section
variable {P : Program} {ops : Array Oper} {md : Region.Mode} {Q : Exit → Act → World → Prop} {S : World → Prop} {t0 f : Nat} {a : Act} {w : World} {T : Array Bool}
theorem JB (i j k : Nat) {oi oj ok : Oper} (hi : ops[i]? = some oi) (hj : ops[j]? = some oj) (hk : ops[k]? = some ok) (hr : Region.ready md ops T = [i, j, k]) (hgi : oi.guard = none) (hgj : oj.guard = none) (hgk : ok.guard = none)
  (Hi : ∀ K : Act → World → Prop, (∀ a w, (i < t0 → S w) ∧ xg P md ops (zI Q) S t0 f (T.setIfInBounds i true) a w → K a w) → oi.wp P a w K (zI Q))
  (Hj : ∀ K : Act → World → Prop, (∀ a w, (j < t0 → S w) ∧ xg P md ops (zI Q) S t0 f (T.setIfInBounds j true) a w → K a w) → oj.wp P a w K (zI Q))
  (Hk : ∀ K : Act → World → Prop, (∀ a w, (k < t0 → S w) ∧ xg P md ops (zI Q) S t0 f (T.setIfInBounds k true) a w → K a w) → ok.wp P a w K (zI Q)) : xg P md ops (zI Q) S t0 (f + 1) T a w := by
 refine ⟨fun h => (by rw [hr] at h; cases h), fun n hn => ?_⟩
 rw [hr] at hn
 have hn : n = i ∨ n = j ∨ n = k := by simpa using hn
 rcases hn with rfl | rfl | rfl
 ·unfold wpOp
  rw [hi]; simp only []; rw [if_pos (by simp [Region.wanted, hgi])]; exact .inl (Hi _ fun _ _ h => h)
 ·unfold wpOp
  rw [hj]; simp only []; rw [if_pos (by simp [Region.wanted, hgj])]; exact .inl (Hj _ fun _ _ h => h)
 ·unfold wpOp
  rw [hk]; simp only []; rw [if_pos (by simp [Region.wanted, hgk])]; exact .inl (Hk _ fun _ _ h => h)
end
theorem KeepsOthers.chgB {b : Nat} {t : TypeId} {cs : Array Value} {W W' : World} (h : qY b W W') (hb : zw t W b cs) : KeepsOthers W W' :=
 ⟨h.size, fun k o hk ho => by
  by_cases e : k = b
  ·subst e
   rw [show W.heap[k]? = _ from hb] at hk; cases hk
   cases ho
  ·exact (h.block k (Array.getElem?_eq_some_iff.1 hk).1 e).trans hk⟩
theorem Xy.be {b : Nat} {W W' : World} (h : Below W.heap.size W W') : Xy b W W' :=
 ⟨h.size, fun k o _ ho _ => (h.block k (Array.getElem?_eq_some_iff.1 ho).1).trans ho⟩
theorem qP.own {g o : Nat} {ls : List TA} {A B : World} {row : Option Nat} (h : qP g o ls A) (hn : 0 < ls.length) (hg : A.grownBy B row) (hr : ∀ r, row = some r → ∃ o : Obj, A.heap[r]? = some o ∧ o.isCells = false) : qP g o ls B := by
 refine h.of_eq (hg.block g h.lt fun e => ?_)
 obtain ⟨x, hx, hc⟩ := hr g e.symm
 have h0 := h.2 0 hn 0 (by omega)
 have hs : ∃ v, (xE (aT ls 0))[0]? = some v := ⟨_, Yg _⟩
 obtain ⟨v, hv⟩ := hs
 rw [hv] at h0
 have := JL h0 x hx
 rw [hc] at this
 cases this
theorem RS.own {v : Value} {ls : List TA} {A B : World} {row : Option Nat} (h : RS v ls A) (hg : A.grownBy B row) (hr : ∀ r, row = some r → ∃ o : Obj, A.heap[r]? = some o ∧ o.isCells = false) : RS v ls B := by
 rcases h with h | ⟨g, o, c, e, hc, sc⟩
 ·exact .inl h
 ·exact .inr ⟨g, o, c, e, hc, fun hn => (sc hn).own hn hg hr⟩
attribute [local go_sem] Oper.semAt_some
set_option linter.unusedVariables false
set_option linter.unusedSimpArgs false
set_option maxRecDepth 20000
def vw (N k : Nat) : List (Fin N) := (List.finRange N).take k
theorem Qv {N k : Nat} (h : k < N) : vw N (k + 1) = vw N k ++ [⟨k, h⟩] := by
 unfold vw
 rw [List.take_succ_eq_append_getElem (by simp; omega)]
 simp
theorem uK {N k : Nat} (h : k ≤ N) : (vw N k).length = k := by unfold vw; simp; omega
theorem zbW (N : Nat) : vw N 0 = [] := rfl
theorem JS (N : Nat) : vw N N = List.finRange N := by unfold vw; rw [List.take_of_length_le (by simp)]
def wH (c : Rc) (i : Fin (tlN c)) : Int × Int := Zh c i.val
theorem zex (c : Rc) : (List.finRange (tlN c)).map (wH c) = jG c := by
 unfold jG
 refine List.ext_getElem (by simp) fun i h1 h2 => ?_
 simp [wH]
theorem V2 (c : Rc) (HF : xM c) (bc b8 n : Nat) (hn1 : 1 ≤ n) (w : World) (r0 : zw 38 w bc (jP c)) (hb8 : b8 < w.heap.size) :
  SeqStopsK Fence.wide n Tryz.prog 163 #[.pointer (some ⟨bc, 0, none⟩)] (fun i : Fin (tlN c) => #[.agg #[.int .i64 (wH c i).1, .int .i64 (wH c i).2]]) (Xy b8) (fun xs => xs = List.finRange (tlN c)) (fun _ => True) (tlN c) w := fun l J Jx W0 hW hJa hJxa hY h0 => by
 have hb8 := Nat.lt_of_lt_of_le hb8 hW.size
 have r0 := r0.of_eq (hW.block _ r0.lt)
 have B := Below.refl W0.heap.size W0
 clear hW hJxa
 have hf := zo HF
 have HJ := zo (fun (W' : World) (hb : Below W0.heap.size W0 W') => AbidesFrom.be hJa h0 hb)
 have HY := zo hY
 clear h0 hJa hY
 obtain ⟨hew, hw0⟩ := xX (vq HF)
 have hNle := Kl HF
 obtain ⟨f1, f2, f3, f4, f5, f6, f7, f8⟩ := HF
 have hE := zo (show z8 c = false from (kB _).2 ⟨f1, f2⟩)
 obtain ⟨W, hW⟩ : ∃ W : Nat, (c.x1 - 1) / 8 + 1 - c.x0 / 8 = (W : Int) := ⟨((c.x1 - 1) / 8 + 1 - c.x0 / 8).toNat, by omega⟩
 obtain ⟨H, hH⟩ : ∃ H : Nat, (c.y1 - 1) / 8 + 1 - c.y0 / 8 = (H : Int) := ⟨((c.y1 - 1) / 8 + 1 - c.y0 / 8).toNat, by omega⟩
 have eW : widN (ue c) = W := by unfold widN ue; simp only; rw [hW]; exact Int.toNat_natCast _
 have eH : ((ue c).y1 - (ue c).y0).toNat = H := by unfold ue; simp only; rw [hH]; exact Int.toNat_natCast _
 rw [eW, eH] at hew
 rw [eW] at hw0
 change tlN c = W * H at hew
 have HR := zo (fun (k j : Nat) (hj : j < W) => by
  have := ze9 (c := c) hf.out (k := k) (j := j) (by rw [eW]; exact hj)
  rw [eW] at this; exact this)
 have wf1 := zo (show (Lit.int .i64 c.x0).wf = true from vS (by omega) (by omega))
 have wf2 := zo (show (Lit.int .i64 c.y0).wf = true from vS (by omega) (by omega))
 have wf3 := zo (show (Lit.int .i64 (c.x1 - 1)).wf = true from vS (by omega) (by omega))
 have wf4 := zo (show (Lit.int .i64 (c.y1 - 1)).wf = true from vS (by omega) (by omega))
 refine callsIn_wide.2 ?_
 show Calls Tryz.prog 163 #[.func (.yield l) #[] #[], .pointer (some ⟨bc, 0, none⟩)] W0 _
 go_enter func163, ntmps163
 go_upto_region 0 with fail
 refine qz 1 ?_
 refine qe B (zE func45) (c := Js c false _ hE.out) ?_
 clear B
 intro wn za zf zg B
 replace r0 := r0.be za
 refine wpList_nil ?_
 have hsw := za.size
 go_upto_region 1 with fail
 have r0B := r0
 go_cut [3, 4] from 9 to 29 (fun s3 s4 wx => ∃ b_p3 b_p4, s3 = .pointer (some ⟨b_p3, 0, none⟩) ∧ s4 = .pointer (some ⟨b_p4, 0, none⟩) ∧ Below W0.heap.size W0 wx ∧ W0.heap.size ≤ b_p3 ∧ W0.heap.size ≤ b_p4 ∧ zw 95 wx b_p3 #[.int .i64 (c.x0 / 8), .int .i64 (c.y0 / 8)] ∧ zw 95 wx b_p4 #[.int .i64 ((c.x1 - 1) / 8), .int .i64 ((c.y1 - 1) / 8)])
 case first =>
  refine kl 16 #[false, false, false, false, false, false, false, false, false, false, false, false, false, false, false, false, false, false] (by kernel_rfl) (by kernel_rfl) ?_; intro wn za; have hX := za; obtain ⟨zf, zg, B⟩ := zM B za; try replace r0 := r0.be za
  simp only [List.length_cons, List.length_nil, Nat.reduceAdd]; refine z6 0 rfl (by kernel_rfl) ⟨_, zC hX⟩ ?_; intro K hK; try simp only [zR]
  (first | ((first | refine qB ?_ | refine qC ?_); simp only [zn]; go_big_quiet_on) | (go_big_quiet_op; go_big_quiet_on))
  simp only [zn]; refine z6 1 rfl (by kernel_rfl) ⟨_, zC hX⟩ ?_; intro K hK; try simp only [zR]
  (first | ((first | refine qB ?_ | refine qC ?_); simp only [zn]; go_big_quiet_on) | (go_big_quiet_op; go_big_quiet_on))
  simp only [zn]; refine z6 2 rfl (by kernel_rfl) ⟨_, zC hX⟩ ?_; intro K hK; try simp only [zR]
  (first | ((first | refine qB ?_ | refine qC ?_); simp only [zn]; go_big_quiet_on) | (go_big_quiet_op; go_big_quiet_on))
  simp only [zn]; refine z6 3 rfl (by kernel_rfl) ⟨_, zC hX⟩ ?_; intro K hK; try simp only [zR]
  (first | ((first | refine qB ?_ | refine qC ?_); simp only [zn]; go_big_quiet_on) | (go_big_quiet_op; go_big_quiet_on))
  simp only [zn]; refine z6 4 rfl (by kernel_rfl) ⟨_, zC hX⟩ ?_; intro K hK; try simp only [zR]
  (first | ((first | refine qB ?_ | refine qC ?_); simp only [zn]; go_big_quiet_on) | (go_big_quiet_op; go_big_quiet_on))
  simp only [zn]; refine z6 6 rfl (by kernel_rfl) ⟨_, zC hX⟩ ?_; intro K hK; try simp only [zR]
  (first | ((first | refine qB ?_ | refine qC ?_); simp only [zn]; go_big_quiet_on) | (go_big_quiet_op; go_big_quiet_on))
  simp only [zn]; refine z6 7 rfl (by kernel_rfl) ⟨_, zC hX⟩ ?_; intro K hK; try simp only [zR]
  (first | ((first | refine qB ?_ | refine qC ?_); simp only [zn]; go_big_quiet_on) | (go_big_quiet_op; go_big_quiet_on))
  simp only [zn]; refine z6 8 rfl (by kernel_rfl) ⟨_, zC hX⟩ ?_; intro K hK; try simp only [zR]
  (first | ((first | refine qB ?_ | refine qC ?_); simp only [zn]; go_big_quiet_on) | (go_big_quiet_op; go_big_quiet_on))
  simp only [zn]; refine z6 9 rfl (by kernel_rfl) ⟨_, zC hX⟩ ?_; intro K hK; try simp only [zR]
  (first | ((first | refine qB ?_ | refine qC ?_); simp only [zn]; go_big_quiet_on) | (go_big_quiet_op; go_big_quiet_on))
  simp only [zn]; refine z6 10 rfl (by kernel_rfl) ⟨_, zC hX⟩ ?_; intro K hK; try simp only [zR]
  (first | ((first | refine qB ?_ | refine qC ?_); simp only [zn]; go_big_quiet_on) | (go_big_quiet_op; go_big_quiet_on))
  simp only [zn]; refine z6 11 rfl (by kernel_rfl) ⟨_, zC hX⟩ ?_; intro K hK; try simp only [zR]
  (first | ((first | refine qB ?_ | refine qC ?_); simp only [zn]; go_big_quiet_on) | (go_big_quiet_op; go_big_quiet_on))
  simp only [zn]; refine z6 12 rfl (by kernel_rfl) ⟨_, zC hX⟩ ?_; intro K hK; try simp only [zR]
  (first | ((first | refine qB ?_ | refine qC ?_); simp only [zn]; go_big_quiet_on) | (go_big_quiet_op; go_big_quiet_on))
  simp only [zn]; refine JB 5 14 15 rfl rfl rfl (by kernel_rfl) rfl rfl rfl (fun K hK => ?_) (fun K hK => ?_) (fun K hK => ?_)
  ·skip
   go_simp
   go_at_call 81
   refine (vc c.x0 c.y0 _ wf1.out wf2.out).mono ?_; rintro e wn ⟨rfl, za⟩; have zf := B.size; have zg := za.size; have hsx := hX.size; replace B := B.trans (za.mono B.size); replace hX := hX.trans (za.mono hX.size); try replace p3 := p3.be za
   refine hK _ _ ⟨fun _ => ⟨_, zC hX⟩, ?_⟩; clear hK K; simp only [zn]; refine JB 13 14 15 rfl rfl rfl (by kernel_rfl) rfl rfl rfl (fun K hK => ?_) (fun K hK => ?_) (fun K hK => ?_)
   ·skip
    go_simp
    go_at_call 81
    refine (vc (c.x1 - 1) (c.y1 - 1) _ wf3.out wf4.out).mono ?_; rintro e wn ⟨rfl, za⟩; have zf := B.size; have zg := za.size; have hsx := hX.size; replace B := B.trans (za.mono B.size); replace hX := hX.trans (za.mono hX.size); try replace p3 := p3.be za
    refine hK _ _ ⟨fun _ => ⟨_, zC hX⟩, ?_⟩; clear hK K; simp only [zn]; refine j9 14 15 rfl rfl (by kernel_rfl) rfl rfl (fun K hK => ?_) (fun K hK => ?_)
    ·skip
     refine zO (t := 95) _ (zX _ _ rfl) ?_; intro b_p3 wn zb zd ht za zg; have zf := B.size; have hsx := hX.size; replace B := B.trans (za.mono (by omega)); replace hX := hX.trans (za.mono (by omega)); try replace p3 := p3.be (za.mono zb)
     have p3 := ht; clear ht; refine hK _ _ ⟨fun _ => ⟨_, zC hX⟩, ?_⟩; clear hK K; simp only [zn]; refine zU 15 rfl (by kernel_rfl) rfl (fun K hK => ?_); refine zO (t := 95) _ (zX _ _ rfl) ?_; intro b_p4 wn zb zd ht za zg; have zf := B.size; have hsx := hX.size; replace B := B.trans (za.mono (by omega)); replace hX := hX.trans (za.mono (by omega)); try replace p3 := p3.be (za.mono zb)
     have p4 := ht; clear ht; refine hK _ _ ⟨fun _ => ⟨_, zC hX⟩, ?_⟩; clear hK K; simp only [zn]; refine qT (by kernel_rfl) (by kernel_rfl) ?_; simp only [List.drop_succ_cons, List.drop_zero]; go_wp2_with (first | (refine qZ p3 B ?_; clear p3 B; intro wn p3 ze zf zg B; replace p4 := p4.cg ze) | (refine qZ p4 B ?_; clear p4 B; intro wn p4 ze zf zg B; replace p3 := p3.cg ze) | fail)
     refine zI.normal ?_; go_wp2_with fail
     go_meet; exact ⟨b_p3, b_p4, rfl, rfl, B, by omega, by omega, p3, p4⟩
    ·skip
     refine zO (t := 95) _ (zX _ _ rfl) ?_; intro b_p4 wn zb zd ht za zg; have zf := B.size; have hsx := hX.size; replace B := B.trans (za.mono (by omega)); replace hX := hX.trans (za.mono (by omega)); try replace p3 := p3.be (za.mono zb)
     have p4 := ht; clear ht; refine hK _ _ ⟨fun _ => ⟨_, zC hX⟩, ?_⟩; clear hK K; simp only [zn]; refine zU 14 rfl (by kernel_rfl) rfl (fun K hK => ?_); refine zO (t := 95) _ (zX _ _ rfl) ?_; intro b_p3 wn zb zd ht za zg; have zf := B.size; have hsx := hX.size; replace B := B.trans (za.mono (by omega)); replace hX := hX.trans (za.mono (by omega)); try replace p3 := p3.be (za.mono zb)
     replace p4 := p4.be (za.mono zb)
     have p3 := ht; clear ht; refine hK _ _ ⟨fun _ => ⟨_, zC hX⟩, ?_⟩; clear hK K; simp only [zn]; refine qT (by kernel_rfl) (by kernel_rfl) ?_; simp only [List.drop_succ_cons, List.drop_zero]; go_wp2_with (first | (refine qZ p3 B ?_; clear p3 B; intro wn p3 ze zf zg B; replace p4 := p4.cg ze) | (refine qZ p4 B ?_; clear p4 B; intro wn p4 ze zf zg B; replace p3 := p3.cg ze) | fail)
     refine zI.normal ?_; go_wp2_with fail
     go_meet; exact ⟨b_p3, b_p4, rfl, rfl, B, by omega, by omega, p3, p4⟩
   ·skip
    refine zO (t := 95) _ (zX _ _ rfl) ?_; intro b_p3 wn zb zd ht za zg; have zf := B.size; have hsx := hX.size; replace B := B.trans (za.mono (by omega)); replace hX := hX.trans (za.mono (by omega)); try replace p3 := p3.be (za.mono zb)
    have p3 := ht; clear ht; refine hK _ _ ⟨fun _ => ⟨_, zC hX⟩, ?_⟩; clear hK K; simp only [zn]; refine j9 13 15 rfl rfl (by kernel_rfl) rfl rfl (fun K hK => ?_) (fun K hK => ?_)
    ·skip
     go_simp
     go_at_call 81
     refine (vc (c.x1 - 1) (c.y1 - 1) _ wf3.out wf4.out).mono ?_; rintro e wn ⟨rfl, za⟩; have zf := B.size; have zg := za.size; have hsx := hX.size; replace B := B.trans (za.mono B.size); replace hX := hX.trans (za.mono hX.size); try replace p3 := p3.be za
     refine hK _ _ ⟨fun _ => ⟨_, zC hX⟩, ?_⟩; clear hK K; simp only [zn]; refine zU 15 rfl (by kernel_rfl) rfl (fun K hK => ?_); refine zO (t := 95) _ (zX _ _ rfl) ?_; intro b_p4 wn zb zd ht za zg; have zf := B.size; have hsx := hX.size; replace B := B.trans (za.mono (by omega)); replace hX := hX.trans (za.mono (by omega)); try replace p3 := p3.be (za.mono zb)
     have p4 := ht; clear ht; refine hK _ _ ⟨fun _ => ⟨_, zC hX⟩, ?_⟩; clear hK K; simp only [zn]; refine qT (by kernel_rfl) (by kernel_rfl) ?_; simp only [List.drop_succ_cons, List.drop_zero]; go_wp2_with (first | (refine qZ p3 B ?_; clear p3 B; intro wn p3 ze zf zg B; replace p4 := p4.cg ze) | (refine qZ p4 B ?_; clear p4 B; intro wn p4 ze zf zg B; replace p3 := p3.cg ze) | fail)
     refine zI.normal ?_; go_wp2_with fail
     go_meet; exact ⟨b_p3, b_p4, rfl, rfl, B, by omega, by omega, p3, p4⟩
    ·skip
     refine zO (t := 95) _ (zX _ _ rfl) ?_; intro b_p4 wn zb zd ht za zg; have zf := B.size; have hsx := hX.size; replace B := B.trans (za.mono (by omega)); replace hX := hX.trans (za.mono (by omega)); try replace p3 := p3.be (za.mono zb)
     have p4 := ht; clear ht; refine hK _ _ ⟨fun _ => ⟨_, zC hX⟩, ?_⟩; clear hK K; simp only [zn]; refine zU 13 rfl (by kernel_rfl) rfl (fun K hK => ?_); go_simp
     go_at_call 81
     refine (vc (c.x1 - 1) (c.y1 - 1) _ wf3.out wf4.out).mono ?_; rintro e wn ⟨rfl, za⟩; have zf := B.size; have zg := za.size; have hsx := hX.size; replace B := B.trans (za.mono B.size); replace hX := hX.trans (za.mono hX.size); try replace p3 := p3.be za
     replace p4 := p4.be za
     refine hK _ _ ⟨fun _ => ⟨_, zC hX⟩, ?_⟩; clear hK K; simp only [zn]; refine qT (by kernel_rfl) (by kernel_rfl) ?_; simp only [List.drop_succ_cons, List.drop_zero]; go_wp2_with (first | (refine qZ p3 B ?_; clear p3 B; intro wn p3 ze zf zg B; replace p4 := p4.cg ze) | (refine qZ p4 B ?_; clear p4 B; intro wn p4 ze zf zg B; replace p3 := p3.cg ze) | fail)
     refine zI.normal ?_; go_wp2_with fail
     go_meet; exact ⟨b_p3, b_p4, rfl, rfl, B, by omega, by omega, p3, p4⟩
   ·skip
    refine zO (t := 95) _ (zX _ _ rfl) ?_; intro b_p4 wn zb zd ht za zg; have zf := B.size; have hsx := hX.size; replace B := B.trans (za.mono (by omega)); replace hX := hX.trans (za.mono (by omega)); try replace p3 := p3.be (za.mono zb)
    have p4 := ht; clear ht; refine hK _ _ ⟨fun _ => ⟨_, zC hX⟩, ?_⟩; clear hK K; simp only [zn]; refine j9 13 14 rfl rfl (by kernel_rfl) rfl rfl (fun K hK => ?_) (fun K hK => ?_)
    ·skip
     go_simp
     go_at_call 81
     refine (vc (c.x1 - 1) (c.y1 - 1) _ wf3.out wf4.out).mono ?_; rintro e wn ⟨rfl, za⟩; have zf := B.size; have zg := za.size; have hsx := hX.size; replace B := B.trans (za.mono B.size); replace hX := hX.trans (za.mono hX.size); try replace p3 := p3.be za
     replace p4 := p4.be za
     refine hK _ _ ⟨fun _ => ⟨_, zC hX⟩, ?_⟩; clear hK K; simp only [zn]; refine zU 14 rfl (by kernel_rfl) rfl (fun K hK => ?_); refine zO (t := 95) _ (zX _ _ rfl) ?_; intro b_p3 wn zb zd ht za zg; have zf := B.size; have hsx := hX.size; replace B := B.trans (za.mono (by omega)); replace hX := hX.trans (za.mono (by omega)); try replace p3 := p3.be (za.mono zb)
     replace p4 := p4.be (za.mono zb)
     have p3 := ht; clear ht; refine hK _ _ ⟨fun _ => ⟨_, zC hX⟩, ?_⟩; clear hK K; simp only [zn]; refine qT (by kernel_rfl) (by kernel_rfl) ?_; simp only [List.drop_succ_cons, List.drop_zero]; go_wp2_with (first | (refine qZ p3 B ?_; clear p3 B; intro wn p3 ze zf zg B; replace p4 := p4.cg ze) | (refine qZ p4 B ?_; clear p4 B; intro wn p4 ze zf zg B; replace p3 := p3.cg ze) | fail)
     refine zI.normal ?_; go_wp2_with fail
     go_meet; exact ⟨b_p3, b_p4, rfl, rfl, B, by omega, by omega, p3, p4⟩
    ·skip
     refine zO (t := 95) _ (zX _ _ rfl) ?_; intro b_p3 wn zb zd ht za zg; have zf := B.size; have hsx := hX.size; replace B := B.trans (za.mono (by omega)); replace hX := hX.trans (za.mono (by omega)); try replace p3 := p3.be (za.mono zb)
     replace p4 := p4.be (za.mono zb)
     have p3 := ht; clear ht; refine hK _ _ ⟨fun _ => ⟨_, zC hX⟩, ?_⟩; clear hK K; simp only [zn]; refine zU 13 rfl (by kernel_rfl) rfl (fun K hK => ?_); go_simp
     go_at_call 81
     refine (vc (c.x1 - 1) (c.y1 - 1) _ wf3.out wf4.out).mono ?_; rintro e wn ⟨rfl, za⟩; have zf := B.size; have zg := za.size; have hsx := hX.size; replace B := B.trans (za.mono B.size); replace hX := hX.trans (za.mono hX.size); try replace p3 := p3.be za
     replace p4 := p4.be za
     refine hK _ _ ⟨fun _ => ⟨_, zC hX⟩, ?_⟩; clear hK K; simp only [zn]; refine qT (by kernel_rfl) (by kernel_rfl) ?_; simp only [List.drop_succ_cons, List.drop_zero]; go_wp2_with (first | (refine qZ p3 B ?_; clear p3 B; intro wn p3 ze zf zg B; replace p4 := p4.cg ze) | (refine qZ p4 B ?_; clear p4 B; intro wn p4 ze zf zg B; replace p3 := p3.cg ze) | fail)
     refine zI.normal ?_; go_wp2_with fail
     go_meet; exact ⟨b_p3, b_p4, rfl, rfl, B, by omega, by omega, p3, p4⟩
  ·skip
   refine zO (t := 95) _ (zX _ _ rfl) ?_; intro b_p3 wn zb zd ht za zg; have zf := B.size; have hsx := hX.size; replace B := B.trans (za.mono (by omega)); replace hX := hX.trans (za.mono (by omega)); try replace p3 := p3.be (za.mono zb)
   have p3 := ht; clear ht; refine hK _ _ ⟨fun _ => ⟨_, zC hX⟩, ?_⟩; clear hK K; simp only [zn]; refine j9 5 15 rfl rfl (by kernel_rfl) rfl rfl (fun K hK => ?_) (fun K hK => ?_)
   ·skip
    go_simp
    go_at_call 81
    refine (vc c.x0 c.y0 _ wf1.out wf2.out).mono ?_; rintro e wn ⟨rfl, za⟩; have zf := B.size; have zg := za.size; have hsx := hX.size; replace B := B.trans (za.mono B.size); replace hX := hX.trans (za.mono hX.size); try replace p3 := p3.be za
    refine hK _ _ ⟨fun _ => ⟨_, zC hX⟩, ?_⟩; clear hK K; simp only [zn]; refine j9 13 15 rfl rfl (by kernel_rfl) rfl rfl (fun K hK => ?_) (fun K hK => ?_)
    ·skip
     go_simp
     go_at_call 81
     refine (vc (c.x1 - 1) (c.y1 - 1) _ wf3.out wf4.out).mono ?_; rintro e wn ⟨rfl, za⟩; have zf := B.size; have zg := za.size; have hsx := hX.size; replace B := B.trans (za.mono B.size); replace hX := hX.trans (za.mono hX.size); try replace p3 := p3.be za
     refine hK _ _ ⟨fun _ => ⟨_, zC hX⟩, ?_⟩; clear hK K; simp only [zn]; refine zU 15 rfl (by kernel_rfl) rfl (fun K hK => ?_); refine zO (t := 95) _ (zX _ _ rfl) ?_; intro b_p4 wn zb zd ht za zg; have zf := B.size; have hsx := hX.size; replace B := B.trans (za.mono (by omega)); replace hX := hX.trans (za.mono (by omega)); try replace p3 := p3.be (za.mono zb)
     have p4 := ht; clear ht; refine hK _ _ ⟨fun _ => ⟨_, zC hX⟩, ?_⟩; clear hK K; simp only [zn]; refine qT (by kernel_rfl) (by kernel_rfl) ?_; simp only [List.drop_succ_cons, List.drop_zero]; go_wp2_with (first | (refine qZ p3 B ?_; clear p3 B; intro wn p3 ze zf zg B; replace p4 := p4.cg ze) | (refine qZ p4 B ?_; clear p4 B; intro wn p4 ze zf zg B; replace p3 := p3.cg ze) | fail)
     refine zI.normal ?_; go_wp2_with fail
     go_meet; exact ⟨b_p3, b_p4, rfl, rfl, B, by omega, by omega, p3, p4⟩
    ·skip
     refine zO (t := 95) _ (zX _ _ rfl) ?_; intro b_p4 wn zb zd ht za zg; have zf := B.size; have hsx := hX.size; replace B := B.trans (za.mono (by omega)); replace hX := hX.trans (za.mono (by omega)); try replace p3 := p3.be (za.mono zb)
     have p4 := ht; clear ht; refine hK _ _ ⟨fun _ => ⟨_, zC hX⟩, ?_⟩; clear hK K; simp only [zn]; refine zU 13 rfl (by kernel_rfl) rfl (fun K hK => ?_); go_simp
     go_at_call 81
     refine (vc (c.x1 - 1) (c.y1 - 1) _ wf3.out wf4.out).mono ?_; rintro e wn ⟨rfl, za⟩; have zf := B.size; have zg := za.size; have hsx := hX.size; replace B := B.trans (za.mono B.size); replace hX := hX.trans (za.mono hX.size); try replace p3 := p3.be za
     replace p4 := p4.be za
     refine hK _ _ ⟨fun _ => ⟨_, zC hX⟩, ?_⟩; clear hK K; simp only [zn]; refine qT (by kernel_rfl) (by kernel_rfl) ?_; simp only [List.drop_succ_cons, List.drop_zero]; go_wp2_with (first | (refine qZ p3 B ?_; clear p3 B; intro wn p3 ze zf zg B; replace p4 := p4.cg ze) | (refine qZ p4 B ?_; clear p4 B; intro wn p4 ze zf zg B; replace p3 := p3.cg ze) | fail)
     refine zI.normal ?_; go_wp2_with fail
     go_meet; exact ⟨b_p3, b_p4, rfl, rfl, B, by omega, by omega, p3, p4⟩
   ·skip
    refine zO (t := 95) _ (zX _ _ rfl) ?_; intro b_p4 wn zb zd ht za zg; have zf := B.size; have hsx := hX.size; replace B := B.trans (za.mono (by omega)); replace hX := hX.trans (za.mono (by omega)); try replace p3 := p3.be (za.mono zb)
    have p4 := ht; clear ht; refine hK _ _ ⟨fun _ => ⟨_, zC hX⟩, ?_⟩; clear hK K; simp only [zn]; refine zU 5 rfl (by kernel_rfl) rfl (fun K hK => ?_); go_simp
    go_at_call 81
    refine (vc c.x0 c.y0 _ wf1.out wf2.out).mono ?_; rintro e wn ⟨rfl, za⟩; have zf := B.size; have zg := za.size; have hsx := hX.size; replace B := B.trans (za.mono B.size); replace hX := hX.trans (za.mono hX.size); try replace p3 := p3.be za
    replace p4 := p4.be za
    refine hK _ _ ⟨fun _ => ⟨_, zC hX⟩, ?_⟩; clear hK K; simp only [zn]; refine zU 13 rfl (by kernel_rfl) rfl (fun K hK => ?_); go_simp
    go_at_call 81
    refine (vc (c.x1 - 1) (c.y1 - 1) _ wf3.out wf4.out).mono ?_; rintro e wn ⟨rfl, za⟩; have zf := B.size; have zg := za.size; have hsx := hX.size; replace B := B.trans (za.mono B.size); replace hX := hX.trans (za.mono hX.size); try replace p3 := p3.be za
    replace p4 := p4.be za
    refine hK _ _ ⟨fun _ => ⟨_, zC hX⟩, ?_⟩; clear hK K; simp only [zn]; refine qT (by kernel_rfl) (by kernel_rfl) ?_; simp only [List.drop_succ_cons, List.drop_zero]; go_wp2_with (first | (refine qZ p3 B ?_; clear p3 B; intro wn p3 ze zf zg B; replace p4 := p4.cg ze) | (refine qZ p4 B ?_; clear p4 B; intro wn p4 ze zf zg B; replace p3 := p3.cg ze) | fail)
    refine zI.normal ?_; go_wp2_with fail
    go_meet; exact ⟨b_p3, b_p4, rfl, rfl, B, by omega, by omega, p3, p4⟩
  ·skip
   refine zO (t := 95) _ (zX _ _ rfl) ?_; intro b_p4 wn zb zd ht za zg; have zf := B.size; have hsx := hX.size; replace B := B.trans (za.mono (by omega)); replace hX := hX.trans (za.mono (by omega)); try replace p3 := p3.be (za.mono zb)
   have p4 := ht; clear ht; refine hK _ _ ⟨fun _ => ⟨_, zC hX⟩, ?_⟩; clear hK K; simp only [zn]; refine j9 5 14 rfl rfl (by kernel_rfl) rfl rfl (fun K hK => ?_) (fun K hK => ?_)
   ·skip
    go_simp
    go_at_call 81
    refine (vc c.x0 c.y0 _ wf1.out wf2.out).mono ?_; rintro e wn ⟨rfl, za⟩; have zf := B.size; have zg := za.size; have hsx := hX.size; replace B := B.trans (za.mono B.size); replace hX := hX.trans (za.mono hX.size); try replace p3 := p3.be za
    replace p4 := p4.be za
    refine hK _ _ ⟨fun _ => ⟨_, zC hX⟩, ?_⟩; clear hK K; simp only [zn]; refine j9 13 14 rfl rfl (by kernel_rfl) rfl rfl (fun K hK => ?_) (fun K hK => ?_)
    ·skip
     go_simp
     go_at_call 81
     refine (vc (c.x1 - 1) (c.y1 - 1) _ wf3.out wf4.out).mono ?_; rintro e wn ⟨rfl, za⟩; have zf := B.size; have zg := za.size; have hsx := hX.size; replace B := B.trans (za.mono B.size); replace hX := hX.trans (za.mono hX.size); try replace p3 := p3.be za
     replace p4 := p4.be za
     refine hK _ _ ⟨fun _ => ⟨_, zC hX⟩, ?_⟩; clear hK K; simp only [zn]; refine zU 14 rfl (by kernel_rfl) rfl (fun K hK => ?_); refine zO (t := 95) _ (zX _ _ rfl) ?_; intro b_p3 wn zb zd ht za zg; have zf := B.size; have hsx := hX.size; replace B := B.trans (za.mono (by omega)); replace hX := hX.trans (za.mono (by omega)); try replace p3 := p3.be (za.mono zb)
     replace p4 := p4.be (za.mono zb)
     have p3 := ht; clear ht; refine hK _ _ ⟨fun _ => ⟨_, zC hX⟩, ?_⟩; clear hK K; simp only [zn]; refine qT (by kernel_rfl) (by kernel_rfl) ?_; simp only [List.drop_succ_cons, List.drop_zero]; go_wp2_with (first | (refine qZ p3 B ?_; clear p3 B; intro wn p3 ze zf zg B; replace p4 := p4.cg ze) | (refine qZ p4 B ?_; clear p4 B; intro wn p4 ze zf zg B; replace p3 := p3.cg ze) | fail)
     refine zI.normal ?_; go_wp2_with fail
     go_meet; exact ⟨b_p3, b_p4, rfl, rfl, B, by omega, by omega, p3, p4⟩
    ·skip
     refine zO (t := 95) _ (zX _ _ rfl) ?_; intro b_p3 wn zb zd ht za zg; have zf := B.size; have hsx := hX.size; replace B := B.trans (za.mono (by omega)); replace hX := hX.trans (za.mono (by omega)); try replace p3 := p3.be (za.mono zb)
     replace p4 := p4.be (za.mono zb)
     have p3 := ht; clear ht; refine hK _ _ ⟨fun _ => ⟨_, zC hX⟩, ?_⟩; clear hK K; simp only [zn]; refine zU 13 rfl (by kernel_rfl) rfl (fun K hK => ?_); go_simp
     go_at_call 81
     refine (vc (c.x1 - 1) (c.y1 - 1) _ wf3.out wf4.out).mono ?_; rintro e wn ⟨rfl, za⟩; have zf := B.size; have zg := za.size; have hsx := hX.size; replace B := B.trans (za.mono B.size); replace hX := hX.trans (za.mono hX.size); try replace p3 := p3.be za
     replace p4 := p4.be za
     refine hK _ _ ⟨fun _ => ⟨_, zC hX⟩, ?_⟩; clear hK K; simp only [zn]; refine qT (by kernel_rfl) (by kernel_rfl) ?_; simp only [List.drop_succ_cons, List.drop_zero]; go_wp2_with (first | (refine qZ p3 B ?_; clear p3 B; intro wn p3 ze zf zg B; replace p4 := p4.cg ze) | (refine qZ p4 B ?_; clear p4 B; intro wn p4 ze zf zg B; replace p3 := p3.cg ze) | fail)
     refine zI.normal ?_; go_wp2_with fail
     go_meet; exact ⟨b_p3, b_p4, rfl, rfl, B, by omega, by omega, p3, p4⟩
   ·skip
    refine zO (t := 95) _ (zX _ _ rfl) ?_; intro b_p3 wn zb zd ht za zg; have zf := B.size; have hsx := hX.size; replace B := B.trans (za.mono (by omega)); replace hX := hX.trans (za.mono (by omega)); try replace p3 := p3.be (za.mono zb)
    replace p4 := p4.be (za.mono zb)
    have p3 := ht; clear ht; refine hK _ _ ⟨fun _ => ⟨_, zC hX⟩, ?_⟩; clear hK K; simp only [zn]; refine zU 5 rfl (by kernel_rfl) rfl (fun K hK => ?_); go_simp
    go_at_call 81
    refine (vc c.x0 c.y0 _ wf1.out wf2.out).mono ?_; rintro e wn ⟨rfl, za⟩; have zf := B.size; have zg := za.size; have hsx := hX.size; replace B := B.trans (za.mono B.size); replace hX := hX.trans (za.mono hX.size); try replace p3 := p3.be za
    replace p4 := p4.be za
    refine hK _ _ ⟨fun _ => ⟨_, zC hX⟩, ?_⟩; clear hK K; simp only [zn]; refine zU 13 rfl (by kernel_rfl) rfl (fun K hK => ?_); go_simp
    go_at_call 81
    refine (vc (c.x1 - 1) (c.y1 - 1) _ wf3.out wf4.out).mono ?_; rintro e wn ⟨rfl, za⟩; have zf := B.size; have zg := za.size; have hsx := hX.size; replace B := B.trans (za.mono B.size); replace hX := hX.trans (za.mono hX.size); try replace p3 := p3.be za
    replace p4 := p4.be za
    refine hK _ _ ⟨fun _ => ⟨_, zC hX⟩, ?_⟩; clear hK K; simp only [zn]; refine qT (by kernel_rfl) (by kernel_rfl) ?_; simp only [List.drop_succ_cons, List.drop_zero]; go_wp2_with (first | (refine qZ p3 B ?_; clear p3 B; intro wn p3 ze zf zg B; replace p4 := p4.cg ze) | (refine qZ p4 B ?_; clear p4 B; intro wn p4 ze zf zg B; replace p3 := p3.cg ze) | fail)
    refine zI.normal ?_; go_wp2_with fail
    go_meet; exact ⟨b_p3, b_p4, rfl, rfl, B, by omega, by omega, p3, p4⟩
 case rest =>
 clear B r0 r0B
 obtain ⟨b_p3, b_p4, rfl, rfl, B, k3, k4, p3, p4⟩ := hcut
 have hJ := HJ.out _ B
 have n3 : b_p3 ≠ b8 := by omega
 have n4 : b_p4 ≠ b8 := by omega
 clear B HJ
 go_upto_region 2 with fail
 refine zS 7 ?_
 go_wp2
 go_loopw [5, 6, 29] (fun _ _ iv wr => ∃ k : Nat, k ≤ H ∧ iv = .int .i64 (k : Int) ∧ J (vw (tlN c) (W * k)) wr ∧ zw 95 wr b_p3 #[.int .i64 (c.x0 / 8), .int .i64 (c.y0 / 8)] ∧ zw 95 wr b_p4 #[.int .i64 ((c.x1 - 1) / 8), .int .i64 ((c.y1 - 1) / 8)]) (fun _ _ iv _ => (H - intOf iv).toNat)
 case atStart => exact ⟨0, by omega, by simp, by rw [Nat.mul_zero, zbW]; exact hJ, p3, p4⟩
 case round =>
  clear p3 p4 hJ; obtain ⟨k, hk, rfl, hJ, p3, p4⟩ := hrel; by_cases hkH : k < H
  ·have q1 : decide ((k : Int) < (c.y1 - 1) / 8 - c.y0 / 8 + 1) = true := zQ (by omega)
   have hn2 : W * k + W ≤ W * H := by
    have := Nat.mul_le_mul_left W (show k + 1 ≤ H from hkH); rw [Nat.mul_succ] at this; exact this
   go_upto_region 3 with fail
   refine zS 1 ?_; go_upto_region 4 with fail
   refine zS 2 ?_; go_upto_region 5 with fail
   refine zS 7 ?_; go_wp2; go_loopw [6, 38] (fun _ iv wr => ∃ j : Nat, j ≤ W ∧ iv = .int .i64 (j : Int) ∧ J (vw (tlN c) (W * k + j)) wr ∧ zw 95 wr b_p3 #[.int .i64 (c.x0 / 8), .int .i64 (c.y0 / 8)] ∧ zw 95 wr b_p4 #[.int .i64 ((c.x1 - 1) / 8), .int .i64 ((c.y1 - 1) / 8)]) (fun _ iv _ => (W - intOf iv).toNat)
   case atStart => exact ⟨0, by omega, by simp, hJ, p3, p4⟩
   case round =>
    clear p3 p4 hJ; obtain ⟨j, hj, rfl, hJ, p3, p4⟩ := hrel; by_cases hjW : j < W
    ·have q2 : decide ((j : Int) < (c.x1 - 1) / 8 - c.x0 / 8 + 1) = true := zQ (by omega)
     have zh : W * k + j < tlN c := by omega
     go_upto_region 6 with fail
     refine zS 1 ?_; go_upto_region 7 with fail
     refine zS 2 ?_; go_upto_region 8 with fail
     obtain ⟨fn, tmps, assign, body, hy, hR⟩ := HY.out (vw (tlN c) (W * k + j)) ⟨W * k + j, zh⟩ _ hJ (by rw [uK (by omega)]; exact zh)
     have ep : wH c ⟨W * k + j, zh⟩ = (c.x0 / 8 + (j : Int), c.y0 / 8 + (k : Int)) := HR.out k j hjW; rw [ep] at hy; try dsimp only at hy
     rw [← Qv zh] at hR; have c0 := p3.cellL 0 rfl; have c1 := p3.cellL 1 rfl; try dsimp only at c0 c1
     refine (wpIn_wide (n := n)).1 ?_; gi_wp2
     refine hR.mono ?_; rintro e W1 (⟨rfl, hJ1, hkp⟩ | ⟨rfl, hx1⟩)
     ·replace p3 := hkp.atB n3 p3
      replace p4 := hkp.atB n4 p4; clear c0 c1; gi_wp2
      go_wp2; go_roundw
      case rel => exact ⟨j + 1, by omega, by go_num, hJ1, p3, p4⟩
      case measure => simp [intOf]; omega
     ·gi_wp2
      go_wp2; refine bodyPost_ret (results_none rfl _ _ _) rfl ?_; exact ⟨⟨_, rfl⟩, .inr ⟨_, trivial, hx1⟩⟩
    ·obtain rfl : j = W := by omega
     have q2 : decide ((j : Int) < (c.x1 - 1) / 8 - c.x0 / 8 + 1) = false := zB (by omega); go_upto_region 6 with fail
     refine zS 1 ?_; go_upto_region 10 with fail
     refine zS 2 ?_; go_wp2; go_roundw
     case rel => exact ⟨k + 1, by omega, by go_num, by rw [Nat.mul_succ]; exact hJ, p3, p4⟩
     case measure => simp [intOf]; omega
  ·obtain rfl : k = H := by omega
   have q1 : decide ((k : Int) < (c.y1 - 1) / 8 - c.y0 / 8 + 1) = false := zB (by omega); go_upto_region 3 with fail
   refine zS 1 ?_; go_wp2; go_end0
   have eF : vw (tlN c) (W * k) = List.finRange (tlN c) := by rw [← hew]; exact JS _
   rw [eF] at hJ; exact ⟨⟨_, rfl⟩, .inl ⟨_, rfl, hJ⟩⟩
end Go.Proofs.YtepelndbbhdofaaGreatDoor
