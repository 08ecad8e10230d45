import Derived.Test.YtepelndbbhdofaaGreatDoorKs1
import Derived.Great.BuildSlice
import Derived.Lib.SliceRun
import Derived.Deep.CutBlock
import Derived.Deep.DeepCutAuto
import Derived.Laws.MakeOwn
import Derived.Deep.MidRow
import Derived.Deep.Upon

/- Contracts of package rect and of its reference, as far as rasters want them. -/
namespace Go.Proofs.YtepelndbbhdofaaGreatDoor
open Go.RowKit Pl
set_option linter.unusedVariables false
set_option linter.unusedSimpArgs false
set_option maxRecDepth 20000
theorem xD (r : Rc) (w : World) : Calls Tryz.prog 45 #[Rc.v r] w fun e w' => e = .returned (.bool (qo r)) ∧ Below w.heap.size w w' := by
 obtain ⟨a, b, c, d⟩ := r
 simp only [Rc.v_mk]
 by_cases h0 : c ≤ a
 ·rw [show qo ⟨a, b, c, d⟩ = true from by unfold qo; exact decide_eq_true (by simp only; omega)]
  have d0 : decide (c ≤ a) = true := decide_eq_true h0; go_enter Tryz.func45, Tryz.ntmps45
  go_wp2; go_ret; exact ⟨rfl, by go_grown⟩
 ·by_cases h1 : d ≤ b
  ·rw [show qo ⟨a, b, c, d⟩ = true from by unfold qo; exact decide_eq_true (by simp only; omega)]
   have d0 : decide (c ≤ a) = false := decide_eq_false h0; have d1 : decide (d ≤ b) = true := decide_eq_true h1; go_enter Tryz.func45, Tryz.ntmps45
   go_wp2; go_ret; exact ⟨rfl, by go_grown⟩
  ·rw [show qo ⟨a, b, c, d⟩ = false from by unfold qo; exact decide_eq_false (by simp only; omega)]
   have d0 : decide (c ≤ a) = false := decide_eq_false h0; have d1 : decide (d ≤ b) = false := decide_eq_false h1; go_enter Tryz.func45, Tryz.ntmps45
   go_wp2; go_ret; exact ⟨rfl, by go_grown⟩
theorem KW (r : Rc) (x y : Int) (w : World) : Calls Tryz.prog 25 #[Rc.v r, Ps.v x y] w fun e w' => e = .returned (.bool (js r x y)) ∧ Below w.heap.size w w' := by
 obtain ⟨a, b, c, d⟩ := r
 simp only [Rc.v_mk, Ps.v]
 by_cases h0 : a ≤ x
 ·by_cases h1 : x < c
  ·by_cases h2 : b ≤ y
   ·by_cases h3 : y < d
    ·rw [show js ⟨a, b, c, d⟩ x y = true from by unfold js; exact decide_eq_true (by simp only; omega)]
     have d0 : decide (a ≤ x) = true := decide_eq_true h0; have d1 : decide (x < c) = true := decide_eq_true h1; have d2 : decide (b ≤ y) = true := decide_eq_true h2; have d3 : decide (y < d) = true := decide_eq_true h3; go_enter Tryz.func25, Tryz.ntmps25
     go_wp2; go_ret; exact ⟨rfl, by go_grown⟩
    ·rw [show js ⟨a, b, c, d⟩ x y = false from by unfold js; exact decide_eq_false (by simp only; omega)]
     have d0 : decide (a ≤ x) = true := decide_eq_true h0; have d1 : decide (x < c) = true := decide_eq_true h1; have d2 : decide (b ≤ y) = true := decide_eq_true h2; have d3 : decide (y < d) = false := decide_eq_false h3; go_enter Tryz.func25, Tryz.ntmps25
     go_wp2; go_ret; exact ⟨rfl, by go_grown⟩
   ·rw [show js ⟨a, b, c, d⟩ x y = false from by unfold js; exact decide_eq_false (by simp only; omega)]
    have d0 : decide (a ≤ x) = true := decide_eq_true h0; have d1 : decide (x < c) = true := decide_eq_true h1; have d2 : decide (b ≤ y) = false := decide_eq_false h2; go_enter Tryz.func25, Tryz.ntmps25
    go_wp2; go_ret; exact ⟨rfl, by go_grown⟩
  ·rw [show js ⟨a, b, c, d⟩ x y = false from by unfold js; exact decide_eq_false (by simp only; omega)]
   have d0 : decide (a ≤ x) = true := decide_eq_true h0; have d1 : decide (x < c) = false := decide_eq_false h1; go_enter Tryz.func25, Tryz.ntmps25
   go_wp2; go_ret; exact ⟨rfl, by go_grown⟩
 ·rw [show js ⟨a, b, c, d⟩ x y = false from by unfold js; exact decide_eq_false (by simp only; omega)]
  have d0 : decide (a ≤ x) = false := decide_eq_false h0; go_enter Tryz.func25, Tryz.ntmps25
  go_wp2; go_ret; exact ⟨rfl, by go_grown⟩
theorem ZU (r : Rc) (w : World) : Calls Tryz.prog 105 #[Rc.v r] w fun e w' => e = .returned (Rc.v (vk r)) ∧ Below w.heap.size w w' := by
 obtain ⟨a, b, c, d⟩ := r
 have B := Below.refl w.heap.size w
 by_cases hE : qo ⟨a, b, c, d⟩ = true
 ·rw [show vk ⟨a, b, c, d⟩ = Rc.zero from if_pos hE]
  simp only [Rc.v_mk]; go_enter Tryz.func105, Tryz.ntmps105
  go_wp2_with (first | (go_at_call 45; refine (xD ⟨a, b, c, d⟩ _).mono ?_; rintro e wn ⟨rfl, za⟩; have zf := B.size; have zg := za.size; replace B := B.trans (za.mono B.size); (try replace r1 := r1.below za); (try replace r2 := r2.below za)) | (refine zp (t := 38) rfl _ _ rfl _ rfl _ rfl r2 (by kernel_rfl) rfl (by simp [Value.oneCell']) (qt B (by omega) ?_); clear r2 B; intro wn r2 ze zf zg B; (try replace r1 := r1.of_eq (ze.block _ r1.lt (by omega))); simp only [zn]) | (have _ := r1; refine zr (t := 38) rfl _ (zY _ _ rfl) (zV B ?_); clear B; intro b_r2 wn zb zd r2 za zf zk B; (try have zh := r1.lt); (try replace r1 := r1.below (za.mono zb)); (try have zh := r2.lt); (try replace r2 := r2.below (za.mono zb)); simp only [zn]) | (refine zt (t := 38) rfl _ rfl _ rfl (zV B ?_); clear B; intro b_r1 wn zb zd r1 za zf zk B; (try have zh := r1.lt); (try replace r1 := r1.below (za.mono zb)); (try have zh := r2.lt); (try replace r2 := r2.below (za.mono zb)); simp only [zn]) | (refine zq (t := 38) rfl _ rfl _ _ _ rfl (zy r1 Tryz.isAgg38 (by kernel_rfl)) (by rfl) ?_; simp only [zn]))
  refine bodyPost_ret (zv (t := 38) rfl _ _ (b_r2) rfl r2 Tryz.isAgg38 (by kernel_rfl)) rfl ?_; exact ⟨rfl, B⟩
 ·rw [show vk ⟨a, b, c, d⟩ = ⟨a, b, c, d⟩ from if_neg hE]
  have hE' : qo ⟨a, b, c, d⟩ = false := by simpa using hE
  simp only [Rc.v_mk]; clear hE; go_enter Tryz.func105, Tryz.ntmps105
  go_wp2_with (first | (go_at_call 45; refine (xD ⟨a, b, c, d⟩ _).mono ?_; rintro e wn ⟨rfl, za⟩; have zf := B.size; have zg := za.size; replace B := B.trans (za.mono B.size); (try replace r1 := r1.below za); (try replace r2 := r2.below za)) | (refine zp (t := 38) rfl _ _ rfl _ rfl _ rfl r2 (by kernel_rfl) rfl (by simp [Value.oneCell']) (qt B (by omega) ?_); clear r2 B; intro wn r2 ze zf zg B; (try replace r1 := r1.of_eq (ze.block _ r1.lt (by omega))); simp only [zn]) | (have _ := r1; refine zr (t := 38) rfl _ (zY _ _ rfl) (zV B ?_); clear B; intro b_r2 wn zb zd r2 za zf zk B; (try have zh := r1.lt); (try replace r1 := r1.below (za.mono zb)); (try have zh := r2.lt); (try replace r2 := r2.below (za.mono zb)); simp only [zn]) | (refine zt (t := 38) rfl _ rfl _ rfl (zV B ?_); clear B; intro b_r1 wn zb zd r1 za zf zk B; (try have zh := r1.lt); (try replace r1 := r1.below (za.mono zb)); (try have zh := r2.lt); (try replace r2 := r2.below (za.mono zb)); simp only [zn]) | (refine zq (t := 38) rfl _ rfl _ _ _ rfl (zy r1 Tryz.isAgg38 (by kernel_rfl)) (by rfl) ?_; simp only [zn]))
  refine bodyPost_ret (zv (t := 38) rfl _ _ (b_r2) rfl r2 Tryz.isAgg38 (by kernel_rfl)) rfl ?_; exact ⟨rfl, B⟩
/- Contracts of package rect and of its reference: Floor by 8, At, Valid, Area, Intersect, Union; fits of package raster and of its reference. -/
theorem WZ (x : Int) (h : x < 0) : (x.tmod 8 = 0 → x.tdiv 8 = x / 8) ∧ (x.tmod 8 ≠ 0 → x.tdiv 8 - 1 = x / 8) := by
 obtain ⟨n, rfl⟩ : ∃ n : Nat, x = -(n : Int) := ⟨(-x).toNat, by omega⟩
 have e1 : (-(n : Int)).tdiv 8 = -((n : Int) / 8) := by rw [Int.neg_tdiv]; rfl
 have e2 : (-(n : Int)).tmod 8 = -((n : Int) % 8) := by rw [Int.neg_tmod]; rfl
 rw [e1, e2]
 constructor <;> intro h2 <;> omega
set_option maxHeartbeats 1000000 in
theorem Xo (x : Int) (w : World) (hx : (Lit.int .i64 x).wf = true) : Calls Tryz.prog 111 #[.int .i64 x, .int .i64 8] w fun e w' => e = .returned (.int .i64 (x / 8)) ∧ w = w' := by
 have hmin : IntKind.i64.min = -9223372036854775808 := rfl
 have hmax : IntKind.i64.max = 9223372036854775807 := rfl
 simp only [Lit.wf, Bool.and_eq_true, decide_eq_true_eq] at hx
 rw [hmin, hmax] at hx
 obtain ⟨l1, l2⟩ := hx
 clear hmin hmax
 by_cases h0 : 0 ≤ x
 ·have h1 : ¬ x < 0 := by omega
  have d1 : decide (x < 0) = false := decide_eq_false h1; by_cases hm : x % 8 = 0
  ·have e1 : (x % 8 == 0) = true := by simpa using hm
   go_enter Tryz.func111, Tryz.ntmps111
   go_wp2; go_ret; exact ⟨rfl, rfl⟩
  ·have e1 : (x % 8 == 0) = false := by simpa using hm
   go_enter Tryz.func111, Tryz.ntmps111
   go_wp2; go_ret; exact ⟨rfl, rfl⟩
 ·have h1 : x < 0 := by omega
  have d1 : decide (x < 0) = true := decide_eq_true h1; obtain ⟨t1, t2⟩ := WZ x h1; by_cases hm : x.tmod 8 = 0
  ·have E := Lib.hid (t1 hm)
   have e1 : (x.tmod 8 == 0) = true := by simpa using hm
   have hb : -9223372036854775808 ≤ x.tdiv 8 ∧ x.tdiv 8 ≤ 0 := by rw [E.out]; omega
   clear t1 t2 h0; go_enter Tryz.func111, Tryz.ntmps111
   go_wp2; go_ret; exact ⟨jl E.out, rfl⟩
  ·have E := Lib.hid (t2 hm)
   have e1 : (x.tmod 8 == 0) = false := by simpa using hm
   have hb : -9223372036854775807 ≤ x.tdiv 8 ∧ x.tdiv 8 ≤ 0 := by have := E.out; omega
   clear t1 t2 h0; go_enter Tryz.func111, Tryz.ntmps111
   go_wp2; go_ret; exact ⟨jl E.out, rfl⟩
theorem ze7 (x y : Int) (w : World) (hx : (Lit.int .i64 x).wf = true) (hy : (Lit.int .i64 y).wf = true) : Calls Tryz.prog 81 #[Ps.v x y] w fun e w' => e = .returned (Ps.v (x / 8) (y / 8)) ∧ Below w.heap.size w w' := by
 have B := Below.refl w.heap.size w
 simp only [Ps.v]
 go_enter Tryz.func81, Tryz.ntmps81
 go_wp2_with (first | (have _ := p1; refine zr (t := 95) rfl _ (zZ _ _ rfl) ?_; intro b_p2 wn zb zd ht za zg; have zf := B.size; replace B := B.trans (za.mono (by omega)); have zk := Nat.lt_of_lt_of_eq (Nat.lt_succ_self _) zg.symm; clear zg; (try have zh := p1.lt); (try replace p1 := p1.below (za.mono zb)); (try have zh := p2.lt); (try replace p2 := p2.below (za.mono zb)); have p2 := ht; clear ht; simp only [zn]) | (refine zt (t := 51) rfl _ rfl _ rfl ?_; intro b_p1 wn zb zd ht za zg; have zf := B.size; replace B := B.trans (za.mono (by omega)); have zk := Nat.lt_of_lt_of_eq (Nat.lt_succ_self _) zg.symm; clear zg; (try have zh := p1.lt); (try replace p1 := p1.below (za.mono zb)); (try have zh := p2.lt); (try replace p2 := p2.below (za.mono zb)); have p1 := ht; clear ht; simp only [zn]))
 refine jA 7 (by kernel_rfl) (by kernel_rfl) ?_
 simp only [List.take_succ_cons, List.take_zero, List.drop_succ_cons, List.drop_zero]
 repeat (first | go_big_quiet_skip | (go_big_quiet_want; first | (refine zo (t := 3) rfl _ _ _ rfl (fun w hw => zu ((zD p1 w hw).cell 0 rfl)) (by rfl) ?_; simp only [zn]; go_big_quiet_on) | (refine zo (t := 3) rfl _ _ _ rfl (fun w hw => zu ((zD p1 w hw).cell 1 rfl)) (by rfl) ?_; simp only [zn]; go_big_quiet_on) | (go_big_quiet_op; first | go_big_quiet_on | go_big_quiet_call ((first | (go_at_call 111; exact xB (Xo _ _ hx)) | (go_at_call 111; exact xB (Xo _ _ hy)))))))
 refine wpQuiet_nil ?_
 intro wn za
 have zf := B.size
 have zg := za.size
 replace B := B.trans (za.mono B.size)
 try replace p2 := p2.below za
 go_wp2_with (first | (refine zp (t := 95) rfl _ _ rfl _ rfl _ rfl p2 (by kernel_rfl) rfl (by simp [Value.oneCell']) ?_; clear p2; intro wn ht ze zg; have zf := B.size; replace zg := Nat.le_of_eq zg.symm; replace B := qN.below B ze (by omega) B.size; have p2 := ht; clear ht; simp only [zn]))
 refine bodyPost_ret (zv (t := 95) rfl _ _ (b_p2) rfl p2 Tryz.isAgg95 (by kernel_rfl)) rfl ?_
 exact ⟨rfl, B⟩
theorem ve (r : Rc) : jN r = true ↔ (r.x0 < r.x1 ∧ r.y0 < r.y1) ∧ (-65536 ≤ r.x0 ∧ -65536 ≤ r.y0 ∧ r.x1 ≤ 65536 ∧ r.y1 ≤ 65536) := by
 unfold jN qo uv
 rw [Bool.and_eq_true, Bool.not_eq_true', decide_eq_false_iff_not, decide_eq_true_iff]
 constructor <;> rintro ⟨h1, h2⟩ <;> refine ⟨?_, h2⟩ <;> omega
set_option maxHeartbeats 2000000 in
theorem QV (r : Rc) (w : World) (hE : qo r = false) : Calls Tryz.prog 162 #[Rc.v r, Rc.v ⟨-65536, -65536, 65536, 65536⟩] w fun e w' => e = .returned (.bool (uv r)) ∧ Below w.heap.size w w' := by
 obtain ⟨a, b, c, d⟩ := r
 have B := Below.refl w.heap.size w
 simp only [Rc.v_mk]
 by_cases h0 : -65536 ≤ a
 ·by_cases h1 : c ≤ 65536
  ·by_cases h2 : -65536 ≤ b
   ·by_cases h3 : d ≤ 65536
    ·rw [show uv ⟨a, b, c, d⟩ = true from by unfold uv; exact decide_eq_true (by simp only; omega)]
     have d0 : decide (-65536 ≤ a) = true := decide_eq_true h0; have d1 : decide (c ≤ 65536) = true := decide_eq_true h1; have d2 : decide (-65536 ≤ b) = true := decide_eq_true h2; have d3 : decide (d ≤ 65536) = true := decide_eq_true h3; go_enter Tryz.func162, Tryz.ntmps162
     go_wp2_with (first | (go_at_call 45; refine (xD ⟨a, b, c, d⟩ _).mono ?_; rintro e wn ⟨rfl, za⟩; have zf := B.size; have zg := za.size; replace B := B.trans (za.mono B.size); (try replace r1 := r1.below za); (try replace r2 := r2.below za); have c_r1_0 := r1.cell 0 rfl; have c_r1_1 := r1.cell 1 rfl; have c_r1_2 := r1.cell 2 rfl; have c_r1_3 := r1.cell 3 rfl; have c_r2_0 := r2.cell 0 rfl; have c_r2_1 := r2.cell 1 rfl; have c_r2_2 := r2.cell 2 rfl; have c_r2_3 := r2.cell 3 rfl) | (have _ := r1; refine zt (t := 38) rfl _ rfl _ rfl ?_; intro b_r2 wn zb zd ht za zg; have zf := B.size; replace B := B.trans (za.mono (by omega)); have zk := Nat.lt_of_lt_of_eq (Nat.lt_succ_self _) zg.symm; clear zg; (try have zh := r1.lt); (try replace r1 := r1.below (za.mono zb)); (try have zh := r2.lt); (try replace r2 := r2.below (za.mono zb)); have r2 := ht; clear ht; simp only [zn]) | (refine zt (t := 38) rfl _ rfl _ rfl ?_; intro b_r1 wn zb zd ht za zg; have zf := B.size; replace B := B.trans (za.mono (by omega)); have zk := Nat.lt_of_lt_of_eq (Nat.lt_succ_self _) zg.symm; clear zg; (try have zh := r1.lt); (try replace r1 := r1.below (za.mono zb)); (try have zh := r2.lt); (try replace r2 := r2.below (za.mono zb)); have r1 := ht; clear ht; simp only [zn]) | (refine zq (t := 38) rfl _ rfl _ _ _ rfl (zy r1 Tryz.isAgg38 (by kernel_rfl)) (by rfl) ?_; simp only [zn]) | fail)
     go_ret; exact ⟨rfl, B⟩
    ·rw [show uv ⟨a, b, c, d⟩ = false from by unfold uv; exact decide_eq_false (by simp only; omega)]
     have d0 : decide (-65536 ≤ a) = true := decide_eq_true h0; have d1 : decide (c ≤ 65536) = true := decide_eq_true h1; have d2 : decide (-65536 ≤ b) = true := decide_eq_true h2; have d3 : decide (d ≤ 65536) = false := decide_eq_false h3; go_enter Tryz.func162, Tryz.ntmps162
     go_wp2_with (first | (go_at_call 45; refine (xD ⟨a, b, c, d⟩ _).mono ?_; rintro e wn ⟨rfl, za⟩; have zf := B.size; have zg := za.size; replace B := B.trans (za.mono B.size); (try replace r1 := r1.below za); (try replace r2 := r2.below za); have c_r1_0 := r1.cell 0 rfl; have c_r1_1 := r1.cell 1 rfl; have c_r1_2 := r1.cell 2 rfl; have c_r1_3 := r1.cell 3 rfl; have c_r2_0 := r2.cell 0 rfl; have c_r2_1 := r2.cell 1 rfl; have c_r2_2 := r2.cell 2 rfl; have c_r2_3 := r2.cell 3 rfl) | (have _ := r1; refine zt (t := 38) rfl _ rfl _ rfl ?_; intro b_r2 wn zb zd ht za zg; have zf := B.size; replace B := B.trans (za.mono (by omega)); have zk := Nat.lt_of_lt_of_eq (Nat.lt_succ_self _) zg.symm; clear zg; (try have zh := r1.lt); (try replace r1 := r1.below (za.mono zb)); (try have zh := r2.lt); (try replace r2 := r2.below (za.mono zb)); have r2 := ht; clear ht; simp only [zn]) | (refine zt (t := 38) rfl _ rfl _ rfl ?_; intro b_r1 wn zb zd ht za zg; have zf := B.size; replace B := B.trans (za.mono (by omega)); have zk := Nat.lt_of_lt_of_eq (Nat.lt_succ_self _) zg.symm; clear zg; (try have zh := r1.lt); (try replace r1 := r1.below (za.mono zb)); (try have zh := r2.lt); (try replace r2 := r2.below (za.mono zb)); have r1 := ht; clear ht; simp only [zn]) | (refine zq (t := 38) rfl _ rfl _ _ _ rfl (zy r1 Tryz.isAgg38 (by kernel_rfl)) (by rfl) ?_; simp only [zn]) | fail)
     go_ret; exact ⟨rfl, B⟩
   ·rw [show uv ⟨a, b, c, d⟩ = false from by unfold uv; exact decide_eq_false (by simp only; omega)]
    have d0 : decide (-65536 ≤ a) = true := decide_eq_true h0; have d1 : decide (c ≤ 65536) = true := decide_eq_true h1; have d2 : decide (-65536 ≤ b) = false := decide_eq_false h2; go_enter Tryz.func162, Tryz.ntmps162
    go_wp2_with (first | (go_at_call 45; refine (xD ⟨a, b, c, d⟩ _).mono ?_; rintro e wn ⟨rfl, za⟩; have zf := B.size; have zg := za.size; replace B := B.trans (za.mono B.size); (try replace r1 := r1.below za); (try replace r2 := r2.below za); have c_r1_0 := r1.cell 0 rfl; have c_r1_1 := r1.cell 1 rfl; have c_r1_2 := r1.cell 2 rfl; have c_r1_3 := r1.cell 3 rfl; have c_r2_0 := r2.cell 0 rfl; have c_r2_1 := r2.cell 1 rfl; have c_r2_2 := r2.cell 2 rfl; have c_r2_3 := r2.cell 3 rfl) | (have _ := r1; refine zt (t := 38) rfl _ rfl _ rfl ?_; intro b_r2 wn zb zd ht za zg; have zf := B.size; replace B := B.trans (za.mono (by omega)); have zk := Nat.lt_of_lt_of_eq (Nat.lt_succ_self _) zg.symm; clear zg; (try have zh := r1.lt); (try replace r1 := r1.below (za.mono zb)); (try have zh := r2.lt); (try replace r2 := r2.below (za.mono zb)); have r2 := ht; clear ht; simp only [zn]) | (refine zt (t := 38) rfl _ rfl _ rfl ?_; intro b_r1 wn zb zd ht za zg; have zf := B.size; replace B := B.trans (za.mono (by omega)); have zk := Nat.lt_of_lt_of_eq (Nat.lt_succ_self _) zg.symm; clear zg; (try have zh := r1.lt); (try replace r1 := r1.below (za.mono zb)); (try have zh := r2.lt); (try replace r2 := r2.below (za.mono zb)); have r1 := ht; clear ht; simp only [zn]) | (refine zq (t := 38) rfl _ rfl _ _ _ rfl (zy r1 Tryz.isAgg38 (by kernel_rfl)) (by rfl) ?_; simp only [zn]) | fail)
    go_ret; exact ⟨rfl, B⟩
  ·rw [show uv ⟨a, b, c, d⟩ = false from by unfold uv; exact decide_eq_false (by simp only; omega)]
   have d0 : decide (-65536 ≤ a) = true := decide_eq_true h0; have d1 : decide (c ≤ 65536) = false := decide_eq_false h1; go_enter Tryz.func162, Tryz.ntmps162
   go_wp2_with (first | (go_at_call 45; refine (xD ⟨a, b, c, d⟩ _).mono ?_; rintro e wn ⟨rfl, za⟩; have zf := B.size; have zg := za.size; replace B := B.trans (za.mono B.size); (try replace r1 := r1.below za); (try replace r2 := r2.below za); have c_r1_0 := r1.cell 0 rfl; have c_r1_1 := r1.cell 1 rfl; have c_r1_2 := r1.cell 2 rfl; have c_r1_3 := r1.cell 3 rfl; have c_r2_0 := r2.cell 0 rfl; have c_r2_1 := r2.cell 1 rfl; have c_r2_2 := r2.cell 2 rfl; have c_r2_3 := r2.cell 3 rfl) | (have _ := r1; refine zt (t := 38) rfl _ rfl _ rfl ?_; intro b_r2 wn zb zd ht za zg; have zf := B.size; replace B := B.trans (za.mono (by omega)); have zk := Nat.lt_of_lt_of_eq (Nat.lt_succ_self _) zg.symm; clear zg; (try have zh := r1.lt); (try replace r1 := r1.below (za.mono zb)); (try have zh := r2.lt); (try replace r2 := r2.below (za.mono zb)); have r2 := ht; clear ht; simp only [zn]) | (refine zt (t := 38) rfl _ rfl _ rfl ?_; intro b_r1 wn zb zd ht za zg; have zf := B.size; replace B := B.trans (za.mono (by omega)); have zk := Nat.lt_of_lt_of_eq (Nat.lt_succ_self _) zg.symm; clear zg; (try have zh := r1.lt); (try replace r1 := r1.below (za.mono zb)); (try have zh := r2.lt); (try replace r2 := r2.below (za.mono zb)); have r1 := ht; clear ht; simp only [zn]) | (refine zq (t := 38) rfl _ rfl _ _ _ rfl (zy r1 Tryz.isAgg38 (by kernel_rfl)) (by rfl) ?_; simp only [zn]) | fail)
   go_ret; exact ⟨rfl, B⟩
 ·rw [show uv ⟨a, b, c, d⟩ = false from by unfold uv; exact decide_eq_false (by simp only; omega)]
  have d0 : decide (-65536 ≤ a) = false := decide_eq_false h0; go_enter Tryz.func162, Tryz.ntmps162
  go_wp2_with (first | (go_at_call 45; refine (xD ⟨a, b, c, d⟩ _).mono ?_; rintro e wn ⟨rfl, za⟩; have zf := B.size; have zg := za.size; replace B := B.trans (za.mono B.size); (try replace r1 := r1.below za); (try replace r2 := r2.below za); have c_r1_0 := r1.cell 0 rfl; have c_r1_1 := r1.cell 1 rfl; have c_r1_2 := r1.cell 2 rfl; have c_r1_3 := r1.cell 3 rfl; have c_r2_0 := r2.cell 0 rfl; have c_r2_1 := r2.cell 1 rfl; have c_r2_2 := r2.cell 2 rfl; have c_r2_3 := r2.cell 3 rfl) | (have _ := r1; refine zt (t := 38) rfl _ rfl _ rfl ?_; intro b_r2 wn zb zd ht za zg; have zf := B.size; replace B := B.trans (za.mono (by omega)); have zk := Nat.lt_of_lt_of_eq (Nat.lt_succ_self _) zg.symm; clear zg; (try have zh := r1.lt); (try replace r1 := r1.below (za.mono zb)); (try have zh := r2.lt); (try replace r2 := r2.below (za.mono zb)); have r2 := ht; clear ht; simp only [zn]) | (refine zt (t := 38) rfl _ rfl _ rfl ?_; intro b_r1 wn zb zd ht za zg; have zf := B.size; replace B := B.trans (za.mono (by omega)); have zk := Nat.lt_of_lt_of_eq (Nat.lt_succ_self _) zg.symm; clear zg; (try have zh := r1.lt); (try replace r1 := r1.below (za.mono zb)); (try have zh := r2.lt); (try replace r2 := r2.below (za.mono zb)); have r1 := ht; clear ht; simp only [zn]) | (refine zq (t := 38) rfl _ rfl _ _ _ rfl (zy r1 Tryz.isAgg38 (by kernel_rfl)) (by rfl) ?_; simp only [zn]) | fail)
  go_ret; exact ⟨rfl, B⟩
theorem vE (r : Rc) (w : World) : Calls Tryz.prog 128 #[Rc.v r] w fun e w' => e = .returned (.bool (jN r)) ∧ Below w.heap.size w w' := by
 obtain ⟨a, b, c, d⟩ := r
 have B := Below.refl w.heap.size w
 simp only [Rc.v_mk]
 by_cases hE : qo ⟨a, b, c, d⟩ = true
 ·rw [show jN ⟨a, b, c, d⟩ = false from by unfold jN; rw [hE]; rfl]
  go_enter Tryz.func128, Tryz.ntmps128
  go_wp2_with (first | (go_at_call 45; refine (xD ⟨a, b, c, d⟩ _).mono ?_; rintro e wn ⟨rfl, za⟩; have zf := B.size; have zg := za.size; replace B := B.trans (za.mono B.size); (try replace r1 := r1.below za); have c_r1_0 := r1.cell 0 rfl; have c_r1_1 := r1.cell 1 rfl; have c_r1_2 := r1.cell 2 rfl; have c_r1_3 := r1.cell 3 rfl) | (go_at_call 162; refine (QV ⟨a, b, c, d⟩ _ hE').mono ?_; rintro e wn ⟨rfl, za⟩; have zf := B.size; have zg := za.size; replace B := B.trans (za.mono B.size); (try replace r1 := r1.below za)) | (refine zt (t := 38) rfl _ rfl _ rfl ?_; intro b_r1 wn zb zd ht za zg; have zf := B.size; replace B := B.trans (za.mono (by omega)); have zk := Nat.lt_of_lt_of_eq (Nat.lt_succ_self _) zg.symm; clear zg; (try have zh := r1.lt); (try replace r1 := r1.below (za.mono zb)); have r1 := ht; clear ht; simp only [zn]) | (refine zq (t := 38) rfl _ rfl _ _ _ rfl (zy r1 Tryz.isAgg38 (by kernel_rfl)) (by rfl) ?_; simp only [zn]) | fail)
  go_ret; exact ⟨rfl, B⟩
 ·have hE' : qo ⟨a, b, c, d⟩ = false := by simpa using hE
  rw [show jN ⟨a, b, c, d⟩ = uv ⟨a, b, c, d⟩ from by unfold jN; rw [hE']; rfl]
  clear hE; go_enter Tryz.func128, Tryz.ntmps128
  go_wp2_with (first | (go_at_call 45; refine (xD ⟨a, b, c, d⟩ _).mono ?_; rintro e wn ⟨rfl, za⟩; have zf := B.size; have zg := za.size; replace B := B.trans (za.mono B.size); (try replace r1 := r1.below za); have c_r1_0 := r1.cell 0 rfl; have c_r1_1 := r1.cell 1 rfl; have c_r1_2 := r1.cell 2 rfl; have c_r1_3 := r1.cell 3 rfl) | (go_at_call 162; refine (QV ⟨a, b, c, d⟩ _ hE').mono ?_; rintro e wn ⟨rfl, za⟩; have zf := B.size; have zg := za.size; replace B := B.trans (za.mono B.size); (try replace r1 := r1.below za)) | (refine zt (t := 38) rfl _ rfl _ rfl ?_; intro b_r1 wn zb zd ht za zg; have zf := B.size; replace B := B.trans (za.mono (by omega)); have zk := Nat.lt_of_lt_of_eq (Nat.lt_succ_self _) zg.symm; clear zg; (try have zh := r1.lt); (try replace r1 := r1.below (za.mono zb)); have r1 := ht; clear ht; simp only [zn]) | (refine zq (t := 38) rfl _ rfl _ _ _ rfl (zy r1 Tryz.isAgg38 (by kernel_rfl)) (by rfl) ?_; simp only [zn]) | fail)
  go_ret; exact ⟨rfl, B⟩
theorem zaj (r : Rc) (w : World) (hv : jN r = true) : Calls Tryz.prog 125 #[Rc.v r] w fun e w' => e = .returned (.int .i64 (vj r)) ∧ Below w.heap.size w w' := by
 have hv2 := (ve r).1 hv
 obtain ⟨a, b, c, d⟩ := r
 simp only at hv2
 obtain ⟨⟨l1, l2⟩, l3, l4, l5, l6⟩ := hv2
 have hE : qo ⟨a, b, c, d⟩ = false := by unfold qo; exact decide_eq_false (by simp only; omega)
 have hm := jL (a := c - a) (b := d - b) (m := 131072) (k := 131072) (by omega) (by omega) (by omega) (by omega)
 obtain ⟨m1, m2⟩ := hm
 have B := Below.refl w.heap.size w
 rw [show vj ⟨a, b, c, d⟩ = (c - a) * (d - b) from by unfold vj; rw [hE]; rfl]
 clear hv
 simp only [Rc.v_mk]
 go_enter Tryz.func125, Tryz.ntmps125
 go_wp2_with (first | (go_at_call 45; refine (xD ⟨a, b, c, d⟩ _).mono ?_; rintro e wn ⟨rfl, za⟩; have zf := B.size; have zg := za.size; replace B := B.trans (za.mono B.size); (try replace r1 := r1.below za); have c_r1_0 := r1.cell 0 rfl; have c_r1_1 := r1.cell 1 rfl; have c_r1_2 := r1.cell 2 rfl; have c_r1_3 := r1.cell 3 rfl) | (refine zt (t := 38) rfl _ rfl _ rfl ?_; intro b_r1 wn zb zd ht za zg; have zf := B.size; replace B := B.trans (za.mono (by omega)); have zk := Nat.lt_of_lt_of_eq (Nat.lt_succ_self _) zg.symm; clear zg; (try have zh := r1.lt); (try replace r1 := r1.below (za.mono zb)); have r1 := ht; clear ht; simp only [zn]) | (refine zq (t := 38) rfl _ rfl _ _ _ rfl (zy r1 Tryz.isAgg38 (by kernel_rfl)) (by rfl) ?_; simp only [zn]) | fail)
 go_ret
 exact ⟨rfl, B⟩
/-- The error of a requested rectangle. -/
def jr (r : Rc) : Int := if jN r = true then (if 256 < r.x1 - r.x0 ∨ 256 < r.y1 - r.y0 then 45 else 0) else 1
set_option maxHeartbeats 1000000 in
theorem zaJ (r : Rc) (w : World) : Calls Tryz.prog 124 #[Rc.v r] w fun e w' => e = .returned (.int .i64 (jr r)) ∧ Below w.heap.size w w' := by
 have hv2 := (ve r).1
 obtain ⟨a, b, c, d⟩ := r
 have B := Below.refl w.heap.size w
 simp only [Rc.v_mk]
 by_cases hv : jN ⟨a, b, c, d⟩ = true
 ·obtain ⟨⟨l1, l2⟩, l3, l4, l5, l6⟩ := hv2 hv
  simp only at l1 l2 l3 l4 l5 l6; clear hv2; by_cases h0 : 256 < c - a
  ·rw [show jr ⟨a, b, c, d⟩ = 45 from by unfold jr; rw [if_pos hv, if_pos (by simp only; omega)]]
   have d0 : decide (256 < c - a) = true := decide_eq_true h0; go_enter Tryz.func124, Tryz.ntmps124
   go_wp2_with (first | (go_at_call 128; refine (vE ⟨a, b, c, d⟩ _).mono ?_; rintro e wn ⟨rfl, za⟩; have zf := B.size; have zg := za.size; replace B := B.trans (za.mono B.size); (try replace r1 := r1.below za); have c_r1_0 := r1.cell 0 rfl; have c_r1_1 := r1.cell 1 rfl; have c_r1_2 := r1.cell 2 rfl; have c_r1_3 := r1.cell 3 rfl) | (refine zt (t := 38) rfl _ rfl _ rfl ?_; intro b_r1 wn zb zd ht za zg; have zf := B.size; replace B := B.trans (za.mono (by omega)); have zk := Nat.lt_of_lt_of_eq (Nat.lt_succ_self _) zg.symm; clear zg; (try have zh := r1.lt); (try replace r1 := r1.below (za.mono zb)); have r1 := ht; clear ht; simp only [zn]) | (refine zq (t := 38) rfl _ rfl _ _ _ rfl (zy r1 Tryz.isAgg38 (by kernel_rfl)) (by rfl) ?_; simp only [zn]) | fail)
   go_ret; exact ⟨rfl, B⟩
  ·by_cases h1 : 256 < d - b
   ·rw [show jr ⟨a, b, c, d⟩ = 45 from by unfold jr; rw [if_pos hv, if_pos (by simp only; omega)]]
    have d0 : decide (256 < c - a) = false := decide_eq_false h0; have d1 : decide (256 < d - b) = true := decide_eq_true h1; go_enter Tryz.func124, Tryz.ntmps124
    go_wp2_with (first | (go_at_call 128; refine (vE ⟨a, b, c, d⟩ _).mono ?_; rintro e wn ⟨rfl, za⟩; have zf := B.size; have zg := za.size; replace B := B.trans (za.mono B.size); (try replace r1 := r1.below za); have c_r1_0 := r1.cell 0 rfl; have c_r1_1 := r1.cell 1 rfl; have c_r1_2 := r1.cell 2 rfl; have c_r1_3 := r1.cell 3 rfl) | (refine zt (t := 38) rfl _ rfl _ rfl ?_; intro b_r1 wn zb zd ht za zg; have zf := B.size; replace B := B.trans (za.mono (by omega)); have zk := Nat.lt_of_lt_of_eq (Nat.lt_succ_self _) zg.symm; clear zg; (try have zh := r1.lt); (try replace r1 := r1.below (za.mono zb)); have r1 := ht; clear ht; simp only [zn]) | (refine zq (t := 38) rfl _ rfl _ _ _ rfl (zy r1 Tryz.isAgg38 (by kernel_rfl)) (by rfl) ?_; simp only [zn]) | fail)
    go_ret; exact ⟨rfl, B⟩
   ·rw [show jr ⟨a, b, c, d⟩ = 0 from by unfold jr; rw [if_pos hv, if_neg (by simp only; omega)]]
    have d0 : decide (256 < c - a) = false := decide_eq_false h0; have d1 : decide (256 < d - b) = false := decide_eq_false h1; go_enter Tryz.func124, Tryz.ntmps124
    go_wp2_with (first | (go_at_call 128; refine (vE ⟨a, b, c, d⟩ _).mono ?_; rintro e wn ⟨rfl, za⟩; have zf := B.size; have zg := za.size; replace B := B.trans (za.mono B.size); (try replace r1 := r1.below za); have c_r1_0 := r1.cell 0 rfl; have c_r1_1 := r1.cell 1 rfl; have c_r1_2 := r1.cell 2 rfl; have c_r1_3 := r1.cell 3 rfl) | (refine zt (t := 38) rfl _ rfl _ rfl ?_; intro b_r1 wn zb zd ht za zg; have zf := B.size; replace B := B.trans (za.mono (by omega)); have zk := Nat.lt_of_lt_of_eq (Nat.lt_succ_self _) zg.symm; clear zg; (try have zh := r1.lt); (try replace r1 := r1.below (za.mono zb)); have r1 := ht; clear ht; simp only [zn]) | (refine zq (t := 38) rfl _ rfl _ _ _ rfl (zy r1 Tryz.isAgg38 (by kernel_rfl)) (by rfl) ?_; simp only [zn]) | fail)
    go_ret; exact ⟨rfl, B⟩
 ·rw [show jr ⟨a, b, c, d⟩ = 1 from by unfold jr; rw [if_neg hv]]
  have hv' : jN ⟨a, b, c, d⟩ = false := by simpa using hv
  clear hv2 hv; go_enter Tryz.func124, Tryz.ntmps124
  go_wp2_with (first | (go_at_call 128; refine (vE ⟨a, b, c, d⟩ _).mono ?_; rintro e wn ⟨rfl, za⟩; have zf := B.size; have zg := za.size; replace B := B.trans (za.mono B.size); (try replace r1 := r1.below za); have c_r1_0 := r1.cell 0 rfl; have c_r1_1 := r1.cell 1 rfl; have c_r1_2 := r1.cell 2 rfl; have c_r1_3 := r1.cell 3 rfl) | (refine zt (t := 38) rfl _ rfl _ rfl ?_; intro b_r1 wn zb zd ht za zg; have zf := B.size; replace B := B.trans (za.mono (by omega)); have zk := Nat.lt_of_lt_of_eq (Nat.lt_succ_self _) zg.symm; clear zg; (try have zh := r1.lt); (try replace r1 := r1.below (za.mono zb)); have r1 := ht; clear ht; simp only [zn]) | (refine zq (t := 38) rfl _ rfl _ _ _ rfl (zy r1 Tryz.isAgg38 (by kernel_rfl)) (by rfl) ?_; simp only [zn]) | fail)
  go_ret; exact ⟨rfl, B⟩
/- Contracts of Intersect and Union of package rect and of its reference; of cmp.Compare, cmp.Or at int; of order, within of package raster, of less, within of its reference. -/
set_option maxHeartbeats 2000000 in
theorem Xs (r s : Rc) (w : World) : Calls Tryz.prog 46 #[Rc.v r, Rc.v s] w fun e w' => e = .returned (Rc.v (kP r s)) ∧ Below w.heap.size w w' := by
 obtain ⟨a, b, c, d⟩ := r
 obtain ⟨a', b', c', d'⟩ := s
 have B := Below.refl w.heap.size w
 have hfin : kP ⟨a, b, c, d⟩ ⟨a', b', c', d'⟩ = vk ⟨max a a', max b b', min c c', min d d'⟩ := rfl
 rw [hfin]
 clear hfin
 simp only [Rc.v_mk]
 go_enter Tryz.func46, Tryz.ntmps46
 go_wp2_with (first | (refine zp (t := 38) rfl _ _ rfl _ rfl _ rfl r3 (by kernel_rfl) rfl (by simp [Value.oneCell']) (qt B (by omega) ?_); clear r3 B; intro wn r3 ze zf zg B; (try replace r1 := r1.of_eq (ze.block _ r1.lt (by omega))); (try replace r2 := r2.of_eq (ze.block _ r2.lt (by omega))); simp only [zn]) | (go_at_call 105; refine (ZU ⟨max a a', max b b', min c c', min d d'⟩ _).mono ?_; rintro e wn ⟨rfl, za⟩; have zf := B.size; have zg := za.size; replace B := B.trans (za.mono B.size); (try replace r1 := r1.below za); (try replace r2 := r2.below za); (try replace r3 := r3.below za)) | (have _ := r2; refine zr (t := 38) rfl _ (zY _ _ rfl) (zV B ?_); clear B; intro b_r3 wn zb zd r3 za zf zk B; (try have zh := r1.lt); (try replace r1 := r1.below (za.mono zb)); (try have zh := r2.lt); (try replace r2 := r2.below (za.mono zb)); (try have zh := r3.lt); (try replace r3 := r3.below (za.mono zb)); simp only [zn]) | (have _ := r1; refine zt (t := 38) rfl _ rfl _ rfl (zV B ?_); clear B; intro b_r2 wn zb zd r2 za zf zk B; (try have zh := r1.lt); (try replace r1 := r1.below (za.mono zb)); (try have zh := r2.lt); (try replace r2 := r2.below (za.mono zb)); (try have zh := r3.lt); (try replace r3 := r3.below (za.mono zb)); simp only [zn]) | (refine zt (t := 38) rfl _ rfl _ rfl (zV B ?_); clear B; intro b_r1 wn zb zd r1 za zf zk B; (try have zh := r1.lt); (try replace r1 := r1.below (za.mono zb)); (try have zh := r2.lt); (try replace r2 := r2.below (za.mono zb)); (try have zh := r3.lt); (try replace r3 := r3.below (za.mono zb)); simp only [zn]) | (refine zq (t := 3) rfl _ rfl _ _ _ rfl (zu (r1.cell 0 rfl)) (by rfl) ?_; simp only [zn]) | (refine zq (t := 3) rfl _ rfl _ _ _ rfl (zu (r1.cell 1 rfl)) (by rfl) ?_; simp only [zn]) | (refine zq (t := 3) rfl _ rfl _ _ _ rfl (zu (r1.cell 2 rfl)) (by rfl) ?_; simp only [zn]) | (refine zq (t := 3) rfl _ rfl _ _ _ rfl (zu (r1.cell 3 rfl)) (by rfl) ?_; simp only [zn]) | (refine zq (t := 3) rfl _ rfl _ _ _ rfl (zu (r2.cell 0 rfl)) (by rfl) ?_; simp only [zn]) | (refine zq (t := 3) rfl _ rfl _ _ _ rfl (zu (r2.cell 1 rfl)) (by rfl) ?_; simp only [zn]) | (refine zq (t := 3) rfl _ rfl _ _ _ rfl (zu (r2.cell 2 rfl)) (by rfl) ?_; simp only [zn]) | (refine zq (t := 3) rfl _ rfl _ _ _ rfl (zu (r2.cell 3 rfl)) (by rfl) ?_; simp only [zn]) | fail)
 refine bodyPost_ret (zv (t := 38) rfl _ _ (b_r3) rfl r3 Tryz.isAgg38 (by kernel_rfl)) rfl ?_
 exact ⟨rfl, B⟩
theorem yr (a b c d : Int) (w : World) : Calls Tryz.prog 45 #[.agg #[.int .i64 a, .int .i64 b, .int .i64 c, .int .i64 d]] w fun e w' => e = .returned (.bool (qo ⟨a, b, c, d⟩)) ∧ Below w.heap.size w w' := xD ⟨a, b, c, d⟩ w
set_option maxHeartbeats 4000000 in
theorem zcE (r s : Rc) (w : World) : Calls Tryz.prog 61 #[Rc.v r, Rc.v s] w fun e w' => e = .returned (Rc.v (xy r s)) ∧ Below w.heap.size w w' := by
 obtain ⟨a, b, c, d⟩ := r
 obtain ⟨a', b', c', d'⟩ := s
 have B := Below.refl w.heap.size w
 by_cases h1 : qo ⟨a, b, c, d⟩ = true
 ·rw [show xy ⟨a, b, c, d⟩ ⟨a', b', c', d'⟩ = vk ⟨a', b', c', d'⟩ from if_pos h1]
  by_cases h2 : qo ⟨a', b', c', d'⟩ = true
  ·simp only [Rc.v_mk]
   go_enter Tryz.func61, Tryz.ntmps61
   go_wp2_with (first | (refine zp (t := 38) rfl _ _ rfl _ rfl _ rfl r3 (by kernel_rfl) rfl (by simp [Value.oneCell']) (qt B (by omega) ?_); clear r3 B; intro wn r3 ze zf zg B; (try replace r1 := r1.of_eq (ze.block _ r1.lt (by omega))); (try replace r2 := r2.of_eq (ze.block _ r2.lt (by omega))); simp only [zn]) | (go_at_call 105; refine (ZU ⟨a', b', c', d'⟩ _).mono ?_; rintro e wn ⟨rfl, za⟩; have zf := B.size; have zg := za.size; replace B := B.trans (za.mono B.size); (try replace r1 := r1.below za); (try replace r2 := r2.below za); (try replace r3 := r3.below za)) | (have _ := r2; refine zr (t := 38) rfl _ (zY _ _ rfl) (zV B ?_); clear B; intro b_r3 wn zb zd r3 za zf zk B; (try have zh := r1.lt); (try replace r1 := r1.below (za.mono zb)); (try have zh := r2.lt); (try replace r2 := r2.below (za.mono zb)); (try have zh := r3.lt); (try replace r3 := r3.below (za.mono zb)); simp only [zn]) | (have _ := r1; refine zt (t := 38) rfl _ rfl _ rfl (zV B ?_); clear B; intro b_r2 wn zb zd r2 za zf zk B; (try have zh := r1.lt); (try replace r1 := r1.below (za.mono zb)); (try have zh := r2.lt); (try replace r2 := r2.below (za.mono zb)); (try have zh := r3.lt); (try replace r3 := r3.below (za.mono zb)); simp only [zn]) | (refine zt (t := 38) rfl _ rfl _ rfl (zV B ?_); clear B; intro b_r1 wn zb zd r1 za zf zk B; (try have zh := r1.lt); (try replace r1 := r1.below (za.mono zb)); (try have zh := r2.lt); (try replace r2 := r2.below (za.mono zb)); (try have zh := r3.lt); (try replace r3 := r3.below (za.mono zb)); simp only [zn]) | (go_at_call 45; ((with_reducible refine (yr a b c d _).mono ?_)); rintro e wn ⟨rfl, za⟩; have zf := B.size; have zg := za.size; replace B := B.trans (za.mono B.size); (try replace r1 := r1.below za); (try replace r2 := r2.below za); (try replace r3 := r3.below za)) | (go_at_call 45; ((with_reducible refine (yr a' b' c' d' _).mono ?_)); rintro e wn ⟨rfl, za⟩; have zf := B.size; have zg := za.size; replace B := B.trans (za.mono B.size); (try replace r1 := r1.below za); (try replace r2 := r2.below za); (try replace r3 := r3.below za)) | (refine zq (t := 38) rfl _ rfl _ _ _ rfl (zy r1 Tryz.isAgg38 (by kernel_rfl)) (by rfl) ?_; simp only [zn]) | (refine zq (t := 38) rfl _ rfl _ _ _ rfl (zy r2 Tryz.isAgg38 (by kernel_rfl)) (by rfl) ?_; simp only [zn]) | (refine zq (t := 3) rfl _ rfl _ _ _ rfl (zu (r1.cell 0 rfl)) (by rfl) ?_; simp only [zn]) | (refine zq (t := 3) rfl _ rfl _ _ _ rfl (zu (r1.cell 1 rfl)) (by rfl) ?_; simp only [zn]) | (refine zq (t := 3) rfl _ rfl _ _ _ rfl (zu (r1.cell 2 rfl)) (by rfl) ?_; simp only [zn]) | (refine zq (t := 3) rfl _ rfl _ _ _ rfl (zu (r1.cell 3 rfl)) (by rfl) ?_; simp only [zn]) | (refine zq (t := 3) rfl _ rfl _ _ _ rfl (zu (r2.cell 0 rfl)) (by rfl) ?_; simp only [zn]) | (refine zq (t := 3) rfl _ rfl _ _ _ rfl (zu (r2.cell 1 rfl)) (by rfl) ?_; simp only [zn]) | (refine zq (t := 3) rfl _ rfl _ _ _ rfl (zu (r2.cell 2 rfl)) (by rfl) ?_; simp only [zn]) | (refine zq (t := 3) rfl _ rfl _ _ _ rfl (zu (r2.cell 3 rfl)) (by rfl) ?_; simp only [zn]) | fail)
   refine bodyPost_ret (zv (t := 38) rfl _ _ (b_r3) rfl r3 Tryz.isAgg38 (by kernel_rfl)) rfl ?_; exact ⟨rfl, B⟩
  ·have h2' : qo ⟨a', b', c', d'⟩ = false := by simpa using h2
   clear h2; simp only [Rc.v_mk]; go_enter Tryz.func61, Tryz.ntmps61
   go_wp2_with (first | (refine zp (t := 38) rfl _ _ rfl _ rfl _ rfl r3 (by kernel_rfl) rfl (by simp [Value.oneCell']) (qt B (by omega) ?_); clear r3 B; intro wn r3 ze zf zg B; (try replace r1 := r1.of_eq (ze.block _ r1.lt (by omega))); (try replace r2 := r2.of_eq (ze.block _ r2.lt (by omega))); simp only [zn]) | (go_at_call 105; refine (ZU ⟨a', b', c', d'⟩ _).mono ?_; rintro e wn ⟨rfl, za⟩; have zf := B.size; have zg := za.size; replace B := B.trans (za.mono B.size); (try replace r1 := r1.below za); (try replace r2 := r2.below za); (try replace r3 := r3.below za)) | (have _ := r2; refine zr (t := 38) rfl _ (zY _ _ rfl) (zV B ?_); clear B; intro b_r3 wn zb zd r3 za zf zk B; (try have zh := r1.lt); (try replace r1 := r1.below (za.mono zb)); (try have zh := r2.lt); (try replace r2 := r2.below (za.mono zb)); (try have zh := r3.lt); (try replace r3 := r3.below (za.mono zb)); simp only [zn]) | (have _ := r1; refine zt (t := 38) rfl _ rfl _ rfl (zV B ?_); clear B; intro b_r2 wn zb zd r2 za zf zk B; (try have zh := r1.lt); (try replace r1 := r1.below (za.mono zb)); (try have zh := r2.lt); (try replace r2 := r2.below (za.mono zb)); (try have zh := r3.lt); (try replace r3 := r3.below (za.mono zb)); simp only [zn]) | (refine zt (t := 38) rfl _ rfl _ rfl (zV B ?_); clear B; intro b_r1 wn zb zd r1 za zf zk B; (try have zh := r1.lt); (try replace r1 := r1.below (za.mono zb)); (try have zh := r2.lt); (try replace r2 := r2.below (za.mono zb)); (try have zh := r3.lt); (try replace r3 := r3.below (za.mono zb)); simp only [zn]) | (go_at_call 45; ((with_reducible refine (yr a b c d _).mono ?_)); rintro e wn ⟨rfl, za⟩; have zf := B.size; have zg := za.size; replace B := B.trans (za.mono B.size); (try replace r1 := r1.below za); (try replace r2 := r2.below za); (try replace r3 := r3.below za)) | (go_at_call 45; ((with_reducible refine (yr a' b' c' d' _).mono ?_)); rintro e wn ⟨rfl, za⟩; have zf := B.size; have zg := za.size; replace B := B.trans (za.mono B.size); (try replace r1 := r1.below za); (try replace r2 := r2.below za); (try replace r3 := r3.below za)) | (refine zq (t := 38) rfl _ rfl _ _ _ rfl (zy r1 Tryz.isAgg38 (by kernel_rfl)) (by rfl) ?_; simp only [zn]) | (refine zq (t := 38) rfl _ rfl _ _ _ rfl (zy r2 Tryz.isAgg38 (by kernel_rfl)) (by rfl) ?_; simp only [zn]) | (refine zq (t := 3) rfl _ rfl _ _ _ rfl (zu (r1.cell 0 rfl)) (by rfl) ?_; simp only [zn]) | (refine zq (t := 3) rfl _ rfl _ _ _ rfl (zu (r1.cell 1 rfl)) (by rfl) ?_; simp only [zn]) | (refine zq (t := 3) rfl _ rfl _ _ _ rfl (zu (r1.cell 2 rfl)) (by rfl) ?_; simp only [zn]) | (refine zq (t := 3) rfl _ rfl _ _ _ rfl (zu (r1.cell 3 rfl)) (by rfl) ?_; simp only [zn]) | (refine zq (t := 3) rfl _ rfl _ _ _ rfl (zu (r2.cell 0 rfl)) (by rfl) ?_; simp only [zn]) | (refine zq (t := 3) rfl _ rfl _ _ _ rfl (zu (r2.cell 1 rfl)) (by rfl) ?_; simp only [zn]) | (refine zq (t := 3) rfl _ rfl _ _ _ rfl (zu (r2.cell 2 rfl)) (by rfl) ?_; simp only [zn]) | (refine zq (t := 3) rfl _ rfl _ _ _ rfl (zu (r2.cell 3 rfl)) (by rfl) ?_; simp only [zn]) | fail)
   refine bodyPost_ret (zv (t := 38) rfl _ _ (b_r3) rfl r3 Tryz.isAgg38 (by kernel_rfl)) rfl ?_; exact ⟨rfl, B⟩
 ·have h1' : qo ⟨a, b, c, d⟩ = false := by simpa using h1
  by_cases h2 : qo ⟨a', b', c', d'⟩ = true
  ·rw [show xy ⟨a, b, c, d⟩ ⟨a', b', c', d'⟩ = ⟨a, b, c, d⟩ from by unfold xy; rw [if_neg h1, if_pos h2]]
   clear h1; simp only [Rc.v_mk]; go_enter Tryz.func61, Tryz.ntmps61
   go_wp2_with (first | (refine zp (t := 38) rfl _ _ rfl _ rfl _ rfl r3 (by kernel_rfl) rfl (by simp [Value.oneCell']) (qt B (by omega) ?_); clear r3 B; intro wn r3 ze zf zg B; (try replace r1 := r1.of_eq (ze.block _ r1.lt (by omega))); (try replace r2 := r2.of_eq (ze.block _ r2.lt (by omega))); simp only [zn]) | (go_at_call 105; refine (ZU ⟨a', b', c', d'⟩ _).mono ?_; rintro e wn ⟨rfl, za⟩; have zf := B.size; have zg := za.size; replace B := B.trans (za.mono B.size); (try replace r1 := r1.below za); (try replace r2 := r2.below za); (try replace r3 := r3.below za)) | (have _ := r2; refine zr (t := 38) rfl _ (zY _ _ rfl) (zV B ?_); clear B; intro b_r3 wn zb zd r3 za zf zk B; (try have zh := r1.lt); (try replace r1 := r1.below (za.mono zb)); (try have zh := r2.lt); (try replace r2 := r2.below (za.mono zb)); (try have zh := r3.lt); (try replace r3 := r3.below (za.mono zb)); simp only [zn]) | (have _ := r1; refine zt (t := 38) rfl _ rfl _ rfl (zV B ?_); clear B; intro b_r2 wn zb zd r2 za zf zk B; (try have zh := r1.lt); (try replace r1 := r1.below (za.mono zb)); (try have zh := r2.lt); (try replace r2 := r2.below (za.mono zb)); (try have zh := r3.lt); (try replace r3 := r3.below (za.mono zb)); simp only [zn]) | (refine zt (t := 38) rfl _ rfl _ rfl (zV B ?_); clear B; intro b_r1 wn zb zd r1 za zf zk B; (try have zh := r1.lt); (try replace r1 := r1.below (za.mono zb)); (try have zh := r2.lt); (try replace r2 := r2.below (za.mono zb)); (try have zh := r3.lt); (try replace r3 := r3.below (za.mono zb)); simp only [zn]) | (go_at_call 45; ((with_reducible refine (yr a b c d _).mono ?_)); rintro e wn ⟨rfl, za⟩; have zf := B.size; have zg := za.size; replace B := B.trans (za.mono B.size); (try replace r1 := r1.below za); (try replace r2 := r2.below za); (try replace r3 := r3.below za)) | (go_at_call 45; ((with_reducible refine (yr a' b' c' d' _).mono ?_)); rintro e wn ⟨rfl, za⟩; have zf := B.size; have zg := za.size; replace B := B.trans (za.mono B.size); (try replace r1 := r1.below za); (try replace r2 := r2.below za); (try replace r3 := r3.below za)) | (refine zq (t := 38) rfl _ rfl _ _ _ rfl (zy r1 Tryz.isAgg38 (by kernel_rfl)) (by rfl) ?_; simp only [zn]) | (refine zq (t := 38) rfl _ rfl _ _ _ rfl (zy r2 Tryz.isAgg38 (by kernel_rfl)) (by rfl) ?_; simp only [zn]) | (refine zq (t := 3) rfl _ rfl _ _ _ rfl (zu (r1.cell 0 rfl)) (by rfl) ?_; simp only [zn]) | (refine zq (t := 3) rfl _ rfl _ _ _ rfl (zu (r1.cell 1 rfl)) (by rfl) ?_; simp only [zn]) | (refine zq (t := 3) rfl _ rfl _ _ _ rfl (zu (r1.cell 2 rfl)) (by rfl) ?_; simp only [zn]) | (refine zq (t := 3) rfl _ rfl _ _ _ rfl (zu (r1.cell 3 rfl)) (by rfl) ?_; simp only [zn]) | (refine zq (t := 3) rfl _ rfl _ _ _ rfl (zu (r2.cell 0 rfl)) (by rfl) ?_; simp only [zn]) | (refine zq (t := 3) rfl _ rfl _ _ _ rfl (zu (r2.cell 1 rfl)) (by rfl) ?_; simp only [zn]) | (refine zq (t := 3) rfl _ rfl _ _ _ rfl (zu (r2.cell 2 rfl)) (by rfl) ?_; simp only [zn]) | (refine zq (t := 3) rfl _ rfl _ _ _ rfl (zu (r2.cell 3 rfl)) (by rfl) ?_; simp only [zn]) | fail)
   refine bodyPost_ret (zv (t := 38) rfl _ _ (b_r3) rfl r3 Tryz.isAgg38 (by kernel_rfl)) rfl ?_; exact ⟨rfl, B⟩
  ·have h2' : qo ⟨a', b', c', d'⟩ = false := by simpa using h2
   rw [show xy ⟨a, b, c, d⟩ ⟨a', b', c', d'⟩ = ⟨min a a', min b b', max c c', max d d'⟩ from by unfold xy; rw [if_neg h1, if_neg h2]]
   clear h1 h2; simp only [Rc.v_mk]; go_enter Tryz.func61, Tryz.ntmps61
   go_wp2_with (first | (refine zp (t := 38) rfl _ _ rfl _ rfl _ rfl r3 (by kernel_rfl) rfl (by simp [Value.oneCell']) (qt B (by omega) ?_); clear r3 B; intro wn r3 ze zf zg B; (try replace r1 := r1.of_eq (ze.block _ r1.lt (by omega))); (try replace r2 := r2.of_eq (ze.block _ r2.lt (by omega))); simp only [zn]) | (go_at_call 105; refine (ZU ⟨a', b', c', d'⟩ _).mono ?_; rintro e wn ⟨rfl, za⟩; have zf := B.size; have zg := za.size; replace B := B.trans (za.mono B.size); (try replace r1 := r1.below za); (try replace r2 := r2.below za); (try replace r3 := r3.below za)) | (have _ := r2; refine zr (t := 38) rfl _ (zY _ _ rfl) (zV B ?_); clear B; intro b_r3 wn zb zd r3 za zf zk B; (try have zh := r1.lt); (try replace r1 := r1.below (za.mono zb)); (try have zh := r2.lt); (try replace r2 := r2.below (za.mono zb)); (try have zh := r3.lt); (try replace r3 := r3.below (za.mono zb)); simp only [zn]) | (have _ := r1; refine zt (t := 38) rfl _ rfl _ rfl (zV B ?_); clear B; intro b_r2 wn zb zd r2 za zf zk B; (try have zh := r1.lt); (try replace r1 := r1.below (za.mono zb)); (try have zh := r2.lt); (try replace r2 := r2.below (za.mono zb)); (try have zh := r3.lt); (try replace r3 := r3.below (za.mono zb)); simp only [zn]) | (refine zt (t := 38) rfl _ rfl _ rfl (zV B ?_); clear B; intro b_r1 wn zb zd r1 za zf zk B; (try have zh := r1.lt); (try replace r1 := r1.below (za.mono zb)); (try have zh := r2.lt); (try replace r2 := r2.below (za.mono zb)); (try have zh := r3.lt); (try replace r3 := r3.below (za.mono zb)); simp only [zn]) | (go_at_call 45; ((with_reducible refine (yr a b c d _).mono ?_)); rintro e wn ⟨rfl, za⟩; have zf := B.size; have zg := za.size; replace B := B.trans (za.mono B.size); (try replace r1 := r1.below za); (try replace r2 := r2.below za); (try replace r3 := r3.below za)) | (go_at_call 45; ((with_reducible refine (yr a' b' c' d' _).mono ?_)); rintro e wn ⟨rfl, za⟩; have zf := B.size; have zg := za.size; replace B := B.trans (za.mono B.size); (try replace r1 := r1.below za); (try replace r2 := r2.below za); (try replace r3 := r3.below za)) | (refine zq (t := 38) rfl _ rfl _ _ _ rfl (zy r1 Tryz.isAgg38 (by kernel_rfl)) (by rfl) ?_; simp only [zn]) | (refine zq (t := 38) rfl _ rfl _ _ _ rfl (zy r2 Tryz.isAgg38 (by kernel_rfl)) (by rfl) ?_; simp only [zn]) | (refine zq (t := 3) rfl _ rfl _ _ _ rfl (zu (r1.cell 0 rfl)) (by rfl) ?_; simp only [zn]) | (refine zq (t := 3) rfl _ rfl _ _ _ rfl (zu (r1.cell 1 rfl)) (by rfl) ?_; simp only [zn]) | (refine zq (t := 3) rfl _ rfl _ _ _ rfl (zu (r1.cell 2 rfl)) (by rfl) ?_; simp only [zn]) | (refine zq (t := 3) rfl _ rfl _ _ _ rfl (zu (r1.cell 3 rfl)) (by rfl) ?_; simp only [zn]) | (refine zq (t := 3) rfl _ rfl _ _ _ rfl (zu (r2.cell 0 rfl)) (by rfl) ?_; simp only [zn]) | (refine zq (t := 3) rfl _ rfl _ _ _ rfl (zu (r2.cell 1 rfl)) (by rfl) ?_; simp only [zn]) | (refine zq (t := 3) rfl _ rfl _ _ _ rfl (zu (r2.cell 2 rfl)) (by rfl) ?_; simp only [zn]) | (refine zq (t := 3) rfl _ rfl _ _ _ rfl (zu (r2.cell 3 rfl)) (by rfl) ?_; simp only [zn]) | fail)
   refine bodyPost_ret (zv (t := 38) rfl _ _ (b_r3) rfl r3 Tryz.isAgg38 (by kernel_rfl)) rfl ?_; exact ⟨rfl, B⟩
/- Contracts of cmp.isNaN, Compare, Or at int; of order, within of package raster; of less, within of its reference. -/
def QL (x y : Int) : Int := if x < y then -1 else if y < x then 1 else 0
def orI (x y : Int) : Int := if x = 0 then y else x
theorem X2 {x y : Int} (h : x = 0) : orI x y = y := if_pos h
theorem zex {x y : Int} (h : ¬ x = 0) : orI x y = x := if_neg h
def Qi (ax ay bx bv : Int) : Int := orI (QL ay bv) (QL ax bx)
theorem X3 (ax ay bx bv : Int) : decide (Qi ax ay bx bv < 0) = jZ ax ay bx bv := by
 unfold Qi orI QL jZ
 rw [Bool.eq_iff_iff, decide_eq_true_iff, decide_eq_true_iff]
 split <;> rename_i h <;> repeat' split
 all_goals (repeat' split at h)
 all_goals omega
theorem zdv (ax ay bx bv : Int) : decide (Qi ax ay bx bv = 0) = yH ax ay bx bv := by
 unfold Qi orI QL yH
 rw [Bool.eq_iff_iff, decide_eq_true_iff, decide_eq_true_iff]
 split <;> rename_i h <;> repeat' split
 all_goals (repeat' split at h)
 all_goals omega
theorem VH (ax ay bx bv : Int) : decide (0 ≤ Qi ax ay bx bv) = !jZ ax ay bx bv := by
 rw [← X3, Bool.eq_iff_iff]
 simp
theorem Ju (x : Int) (w : World) : Calls Tryz.prog 173 #[.int .i64 x] w fun e w' => e = .returned (.bool false) ∧ w = w' := by
 go_enter Tryz.func173, Tryz.ntmps173
 go_wp2
 go_ret
 exact ⟨rfl, rfl⟩
theorem Wa (x y : Int) (w : World) : Calls Tryz.prog 154 #[.int .i64 x, .int .i64 y] w fun e w' => e = .returned (.int .i64 (QL x y)) ∧ w = w' := by
 by_cases h1 : x < y
 ·rw [show QL x y = -1 from if_pos h1]
  go_enter Tryz.func154, Tryz.ntmps154
  go_wp2_with ((go_at_call 173; refine (Ju _ _).mono ?_; rintro e w' ⟨rfl, rfl⟩))
  go_ret; exact ⟨rfl, rfl⟩
 ·by_cases h2 : y < x
  ·rw [show QL x y = 1 from by unfold QL; rw [if_neg h1, if_pos h2]]
   go_enter Tryz.func154, Tryz.ntmps154
   go_wp2_with ((go_at_call 173; refine (Ju _ _).mono ?_; rintro e w' ⟨rfl, rfl⟩))
   go_ret; exact ⟨rfl, rfl⟩
  ·rw [show QL x y = 0 from by unfold QL; rw [if_neg h1, if_neg h2]]
   go_enter Tryz.func154, Tryz.ntmps154
   go_wp2_with ((go_at_call 173; refine (Ju _ _).mono ?_; rintro e w' ⟨rfl, rfl⟩))
   go_ret; exact ⟨rfl, rfl⟩
theorem ze9 (x y : Int) (b : Nat) (w : World) (h : zF 3 w b #[.int .i64 x, .int .i64 y]) : Calls Tryz.prog 153 #[.slice (some ⟨b, 0, none⟩) 2 2] w fun e w' => e = .returned (.int .i64 (orI x y)) ∧ w = w' := by
 have c0 := h.cell 0 rfl
 have c1 := h.cell 1 rfl
 clear h
 go_enter Tryz.func153, Tryz.ntmps153
 go_wp2
 go_loopw [8] (fun i wr => ∃ k : Nat, k ≤ 2 ∧ i = .int .i64 k ∧ wr = w ∧ (1 ≤ k → x = 0) ∧ (2 ≤ k → y = 0)) (fun i _ => (2 - intOf i).toNat)
 case atStart => exact ⟨0, by omega, rfl, rfl, by omega, by omega⟩
 case round =>
  obtain ⟨k, hk, rfl, rfl, h1, h2⟩ := hrel; have hc : k = 0 ∨ k = 1 ∨ k = 2 := by omega
  rcases hc with rfl | rfl | rfl
  ·clear h1 h2
   by_cases hx : x = 0
   ·have e1 : (x == 0) = true := by simpa using hx
    have e2 : (x != 0) = false := by simpa using hx
    have H := Lib.hid hx; clear hx; go_wp2; go_roundw
    case rel => exact ⟨1, by omega, rfl, by simp, fun _ => H.out, by omega⟩
    case measure => simp [intOf]
   ·have e1 : (x == 0) = false := by simpa using hx
    have e2 : (x != 0) = true := by simpa using hx
    have H := Lib.hid hx; clear hx; go_wp2; go_ret; exact ⟨by rw [zex H.out]; rfl, rfl⟩
  ·have H1 := Lib.hid (h1 (by omega))
   clear h1 h2; by_cases hx : y = 0
   ·have e1 : (y == 0) = true := by simpa using hx
    have e2 : (y != 0) = false := by simpa using hx
    have H := Lib.hid hx; clear hx; go_wp2; go_roundw
    case rel => exact ⟨2, by omega, rfl, by simp, fun _ => H1.out, fun _ => H.out⟩
    case measure => simp [intOf]
   ·have e1 : (y == 0) = false := by simpa using hx
    have e2 : (y != 0) = true := by simpa using hx
    have H := Lib.hid hx; clear hx; go_wp2; go_ret; exact ⟨by rw [X2 H1.out]; rfl, rfl⟩
  ·have H1 := Lib.hid (h1 (by omega))
   have H2 := Lib.hid (h2 (by omega)); clear h1 h2; go_wp2; go_ret; exact ⟨by rw [X2 H1.out, H2.out]; rfl, rfl⟩
theorem zb3 (w : World) (o : Oper) (x y : Operand) (ho : o.op = .buildSlice 22 2 #[(0, x), (1, y)]) (ev : Operand → Value) (p q : Int) (hx : ev x = .int .i64 p) (hy : ev y = .int .i64 q) : (execOp ev o).run Tryz.prog w = .ok (.value (.slice (some ⟨w.heap.size, 0, none⟩) 2 2)) (w.alloc (.cells #[.int .i64 p, .int .i64 q] 3)) := by
 obtain ⟨d, po, t, ps, af, gd⟩ := o
 simp only at ho
 subst ho
 unfold execOp
 simp only [List.map_toArray, List.map_cons, List.map_nil, hx, hy]
 kernel_rfl
theorem YM {ops : Array Oper} {rest : List Oper} {o : Oper} {a : Act} {w : World} {Q : Exit → Act → World → Prop} (hg : o.guard = none) (x y : Operand) (ho : o.op = .buildSlice 22 2 #[(0, x), (1, y)]) (p q : Int) (hx : a.eval x = .int .i64 p) (hy : a.eval y = .int .i64 q)
  (h : ∀ b w', w.heap.size ≤ b → b ≤ w.heap.size → zF 3 w' b #[.int .i64 p, .int .i64 q] → Below b w w' → w'.heap.size = b + 1 → wpList Tryz.prog ops Q rest (a.put o.dst (.slice (some ⟨b, 0, none⟩) 2 2)) w') : wpList Tryz.prog ops Q (o :: rest) a w :=
 wpList_plain hg fun K hK => by
  unfold Oper.wp; rw [zb3 w o x y ho _ p q hx hy]; exact hK _ _ (h _ _ (Nat.le_refl _) (Nat.le_refl _) (by unfold zF; rw [zI, if_pos rfl]) ((Below.refl _ _).alloc (Nat.le_refl _) _) (World.size_alloc _ _))
theorem kL (ax ay bx bv : Int) (w : World) : Calls Tryz.prog 102 #[Ps.v ax ay, Ps.v bx bv] w fun e w' => e = .returned (.int .i64 (Qi ax ay bx bv)) ∧ Below w.heap.size w w' := by
 have B := Below.refl w.heap.size w
 simp only [Ps.v]
 go_enter Tryz.func102, Tryz.ntmps102
 go_wp2_with (first | (have _ := p1; refine zt (t := 95) rfl _ rfl _ rfl (zV B ?_); clear B; intro b_p2 wn zb zd p2 za zf zk B; (try have zh := p1.lt); (try replace p1 := p1.below (za.mono zb)); (try have zh := p2.lt); (try replace p2 := p2.below (za.mono zb)); (try have zh := bs.lt); (try replace bs := bs.below (za.mono zb)); simp only [zn]) | (refine zt (t := 95) rfl _ rfl _ rfl (zV B ?_); clear B; intro b_p1 wn zb zd p1 za zf zk B; (try have zh := p1.lt); (try replace p1 := p1.below (za.mono zb)); (try have zh := p2.lt); (try replace p2 := p2.below (za.mono zb)); (try have zh := bs.lt); (try replace bs := bs.below (za.mono zb)); simp only [zn]) | fail)
 refine jA 10 (by kernel_rfl) (by kernel_rfl) ?_
 simp only [List.take_succ_cons, List.take_zero, List.drop_succ_cons, List.drop_zero]
 repeat (first | go_big_quiet_skip | (go_big_quiet_want; first | (refine zo (t := 3) rfl _ _ _ rfl (fun w hw => zu ((zD p1 w hw).cell 0 rfl)) (by rfl) ?_; simp only [zn]; go_big_quiet_on) | (refine zo (t := 3) rfl _ _ _ rfl (fun w hw => zu ((zD p1 w hw).cell 1 rfl)) (by rfl) ?_; simp only [zn]; go_big_quiet_on) | (refine zo (t := 3) rfl _ _ _ rfl (fun w hw => zu ((zD p2 w hw).cell 0 rfl)) (by rfl) ?_; simp only [zn]; go_big_quiet_on) | (refine zo (t := 3) rfl _ _ _ rfl (fun w hw => zu ((zD p2 w hw).cell 1 rfl)) (by rfl) ?_; simp only [zn]; go_big_quiet_on) | (go_big_quiet_op; first | go_big_quiet_on | go_big_quiet_call ((first | (go_at_call 154; exact xB (Wa _ _ _)))))))
 refine wpQuiet_nil ?_
 intro wn za
 have zf := B.size
 have zg := za.size
 replace B := B.trans (za.mono B.size)
 try replace bs := bs.below za
 go_wp2_with (first | (refine YM rfl _ _ rfl _ _ rfl rfl (zV B ?_); clear B; intro b_bs wn zb zd bs za zf zk B; (try have zh := p1.lt); (try have zh := p2.lt); (try have zh := bs.lt); (try replace bs := bs.below (za.mono zb)); simp only [zn]) | (go_at_call 153; refine (ze9 _ _ _ _ bs).mono ?_; rintro e wq ⟨rfl, rfl⟩) | fail)
 go_ret
 exact ⟨rfl, B⟩
theorem kt (x y : Int) (w : World) : Calls Tryz.prog 99 #[Ps.v x y] w fun e w' => e = .returned (.bool (qP x y)) ∧ Below w.heap.size w w' := by
 simp only [Ps.v]
 by_cases h0 : -8192 ≤ x
 ·by_cases h1 : x ≤ 8191
  ·by_cases h2 : -8192 ≤ y
   ·by_cases h3 : y ≤ 8191
    ·rw [show qP x y = true from by unfold qP; exact decide_eq_true (by omega)]
     have d0 : decide (-8192 ≤ x) = true := decide_eq_true h0; have d1 : decide (x ≤ 8191) = true := decide_eq_true h1; have d2 : decide (-8192 ≤ y) = true := decide_eq_true h2; have d3 : decide (y ≤ 8191) = true := decide_eq_true h3; go_enter Tryz.func99, Tryz.ntmps99
     go_wp2; go_ret; exact ⟨rfl, by go_grown⟩
    ·rw [show qP x y = false from by unfold qP; exact decide_eq_false (by omega)]
     have d0 : decide (-8192 ≤ x) = true := decide_eq_true h0; have d1 : decide (x ≤ 8191) = true := decide_eq_true h1; have d2 : decide (-8192 ≤ y) = true := decide_eq_true h2; have d3 : decide (y ≤ 8191) = false := decide_eq_false h3; go_enter Tryz.func99, Tryz.ntmps99
     go_wp2; go_ret; exact ⟨rfl, by go_grown⟩
   ·rw [show qP x y = false from by unfold qP; exact decide_eq_false (by omega)]
    have d0 : decide (-8192 ≤ x) = true := decide_eq_true h0; have d1 : decide (x ≤ 8191) = true := decide_eq_true h1; have d2 : decide (-8192 ≤ y) = false := decide_eq_false h2; go_enter Tryz.func99, Tryz.ntmps99
    go_wp2; go_ret; exact ⟨rfl, by go_grown⟩
  ·rw [show qP x y = false from by unfold qP; exact decide_eq_false (by omega)]
   have d0 : decide (-8192 ≤ x) = true := decide_eq_true h0; have d1 : decide (x ≤ 8191) = false := decide_eq_false h1; go_enter Tryz.func99, Tryz.ntmps99
   go_wp2; go_ret; exact ⟨rfl, by go_grown⟩
 ·rw [show qP x y = false from by unfold qP; exact decide_eq_false (by omega)]
  have d0 : decide (-8192 ≤ x) = false := decide_eq_false h0; go_enter Tryz.func99, Tryz.ntmps99
  go_wp2; go_ret; exact ⟨rfl, by go_grown⟩
/- Arms for rasters: boxed rasters, tiles at a position, rows of them; contracts of Valid of package raster and of its reference. -/
theorem zF.cell0 {t : TypeId} {w : World} {b : Nat} {v : Value} (h : zF t w b #[v]) : w.cell? ⟨b, 0, none⟩ = some v := h.cell 0 rfl
theorem qj {w : World} {b j : Nat} {v : Value} (h : w.cell? ⟨b, j, none⟩ = some v) : (Instr.loadAt 62 (.pointer (some ⟨b, j, none⟩))).run Tryz.prog w = .ok v w := by
 simp [go_sem, h]
/-- Loaded from cells that are known one by one. -/
theorem xk {w : World} {b off : Nat} {cs : Array Value} {t : TypeId} (hagg : ∀ w : World, (isAgg t).run Tryz.prog w = .ok true w)
  (zf : (Tryz.prog.info? t).map (·.size) = some cs.size) (hc : ∀ j, j < cs.size → w.cell? ⟨b, off + j, none⟩ = cs[j]?) : (Instr.loadAt t (.pointer (some ⟨b, off, none⟩))).run Tryz.prog w = .ok (.agg cs) w := by
 simp only [Instr.loadAt, Instr.sureAddr, Sem.run_bind, Sem.run_pure, Result.andThen_ok]
 have hl : (loadCells ⟨b, off, none⟩ cs.toList.length).run Tryz.prog w = .ok cs.toList.toArray w :=
  run_loadCells_list (P := Tryz.prog) w ⟨b, off, none⟩ cs.toList (fun j v hv => by
   have hadd : (⟨b, off, none⟩ : Addr).add j = ⟨b, off + j, none⟩ := by unfold Addr.add; split <;> simp_all
   have hj : j < cs.size := by
    have := (List.getElem?_eq_some_iff.1 hv).1; rw [Array.length_toList] at this; exact this
   rw [hadd, hc j hj]
   simpa using hv)
 cases hq : Tryz.prog.info? t with
 | none => rw [hq] at zf; cases zf
 | some i =>
  have he : i.size = cs.size := by rw [hq] at zf; simpa using zf
  rw [Array.length_toList] at hl; simp only [Array.toArray_toList] at hl; simp only [loadVar, Sem.run_bind, hagg w, sizeOf, typeInfo, hq, he, hl, run_program, Result.andThen_ok, if_true, Sem.run_pure]
theorem VW (e : TA) : (Tryz.prog.info? 125).map (·.size) = some (xL e).size := by rw [qc]; kernel_rfl
theorem Ya (x y : Int) : (Tryz.prog.info? 95).map (·.size) = some (#[Value.int .i64 x, .int .i64 y] : Array Value).size := by kernel_rfl
section
variable {w : World} {b g o i : Nat} {e : TA} {ls : List TA}
theorem vP (h : zF 125 w b (xL e)) : (Instr.loadAt 95 (.pointer (some ⟨b, 0, none⟩))).run Tryz.prog w = .ok (Ps.v e.x e.y) w :=
 xk Tryz.isAgg95 (Ya _ _) (fun j hj => by
  have hj : j < 2 := hj; have hc : j = 0 ∨ j = 1 := by omega
  rcases hc with rfl | rfl
  ·exact h.cell 0 (Ji e)
  ·exact h.cell 1 (YC e))
theorem jT (h : zF 125 w b (xL e)) : (Instr.loadAt 123 (.pointer (some ⟨b, 2, none⟩))).run Tryz.prog w = .ok (Tile.v e.t) w :=
 yz h 2 Tryz.isAgg123 (kI _) (fun j hj => VV e j)
theorem yX (h : qm g o ls w) (hi : i < ls.length) (he : aT ls i = e) : (Instr.loadAt 125 (.pointer (some ⟨g, o + i * 258, none⟩))).run Tryz.prog w = .ok (.agg (xL e)) w :=
 xk Tryz.isAgg125 (VW _) (fun j hj => by
  rw [qc] at hj; rw [← he, Nat.add_assoc]; exact h.2 i hi j hj)
theorem u6 (h : qm g o ls w) (hi : i < ls.length) (he : aT ls i = e) : (Instr.loadAt 95 (.pointer (some ⟨g, o + i * 258, none⟩))).run Tryz.prog w = .ok (Ps.v e.x e.y) w :=
 xk Tryz.isAgg95 (Ya _ _) (fun j hj => by
  have hj : j < 2 := hj; have hc : j = 0 ∨ j = 1 := by omega
  subst he; rcases hc with rfl | rfl
  ·exact h.x hi
  ·exact h.y hi)
theorem zdC (h : qm g o ls w) (hi : i < ls.length) (he : aT ls i = e) : (Instr.loadAt 123 (.pointer (some ⟨g, o + i * 258 + 2, none⟩))).run Tryz.prog w = .ok (Tile.v e.t) w :=
 xk Tryz.isAgg123 (kI _) (fun j hj => by
  rw [ju] at hj; subst he; exact h.t hi hj)
theorem vn (h : qm g o ls w) : ∀ w', (∃ u, w' = ov w u) → qm g o ls w' := by
 rintro w' ⟨u, rfl⟩
 exact h.of_eq ((qJ w u).block _ h.lt)
end
def zTA : Array Value := #[.int .i64 0, .int .i64 0] ++ Array.replicate 256 (.int .u8 0)
theorem jM : zTA.size = 258 := by unfold zTA; rw [Array.size_append, Array.size_replicate]; rfl
theorem yN (e : TA) : (xL e).all (·.oneCell') = true := by
 rw [← Array.all_toList]
 exact List.all_eq_true.2 (Zv e)
theorem jm (w : World) (o : Oper) (ho : o.op = .alloc 125) (ev : Operand → Value) : (execOp ev o).run Tryz.prog w = .ok (.value (.pointer (some ⟨w.heap.size, 0, none⟩))) (w.alloc (.cells zTA 125)) := by
 obtain ⟨d, p, t, ps, af, gd⟩ := o
 simp only at ho
 subst ho
 kernel_rfl
attribute [irreducible] zTA
theorem YB {ls : List TA} {k : Nat} {x y : Int} {t : Nat → Px} (he : aT ls k = ⟨x, y, t⟩) (h : qP x y = false) : yf ls k = false := by
 unfold yf yF; rw [he, h]; rfl
theorem WX {ls : List TA} {k : Nat} {x y : Int} {t : Nat → Px} (he : aT ls k = ⟨x, y, t⟩) (h : jE t = true) : yf ls k = false := by
 unfold yf yF; rw [he, h]; simp
theorem KO {ls : List TA} {k : Nat} {x y : Int} {t : Nat → Px} (he : aT ls k = ⟨x, y, t⟩) (h : uR (jJ t) t = false) : yf ls k = false := by
 unfold yf yF; rw [he, h]; simp
theorem KP {ls : List TA} {x y : Int} {t : Nat → Px} (he : aT ls 0 = ⟨x, y, t⟩) (h1 : qP x y = true) (h2 : jE t = false) (h3 : uR (jJ t) t = true) : yf ls 0 = true := by
 unfold yf yF; rw [he, h1, h2, h3]; rfl
theorem WW {ls : List TA} {k : Nat} {x y x' y' : Int} {t t' : Nat → Px} (hk : 0 < k) (he : aT ls k = ⟨x, y, t⟩) (he' : aT ls (k - 1) = ⟨x', y', t'⟩) (h1 : qP x y = true) (h2 : jE t = false) (h3 : uR (jJ t) t = true) : yf ls k = jZ x' y' x y := by
 unfold yf yF xR; rw [he, he', h1, h2, h3, decide_eq_false (by omega)]; simp
set_option maxHeartbeats 4000000 in
theorem Jt (v : Value) (ls : List TA) (w : World) (h : RS v ls w) (tk : jc ls) (hn : ls.length ≤ maxLen) : Calls Tryz.prog 41 #[.agg #[v]] w fun e w' => e = .returned (.bool (qq ls)) ∧ Below w.heap.size w w' := by
 unfold maxLen at hn
 obtain ⟨a, c, rfl, hc⟩ := h.len
 have B := Below.refl w.heap.size w
 have HS := Lib.hid h
 have HK := Lib.hid tk
 clear h tk
 by_cases hbig : 1024 < ls.length
 ·rw [KT hbig]
  have d1 : decide (1024 < (ls.length : Int)) = true := decide_eq_true (by omega); go_enter Tryz.func41, Tryz.ntmps41
  go_wp2_with (first | (refine zq (t := 62) rfl _ rfl _ _ _ rfl (qj r1.cell0) (by rfl) ?_; simp only [zn]) | (refine zt (t := 64) rfl _ rfl _ rfl (zV B ?_); clear B; intro b_r1 wn zb zd r1 za zf zk B; (try have zh := r1.lt); (try replace r1 := r1.below (za.mono zb)); (try have zh := t1.lt); (try replace t1 := t1.below (za.mono zb)); (try have zh := rc.lt); (try replace rc := rc.below (za.mono zb)); simp only [zn]) | fail)
  go_ret; exact ⟨rfl, B⟩
 ·have d1 : decide (1024 < (ls.length : Int)) = false := decide_eq_false (by omega)
  go_enter Tryz.func41, Tryz.ntmps41
  go_wp2_with (first | (refine zq (t := 62) rfl _ rfl _ _ _ rfl (qj r1.cell0) (by rfl) ?_; simp only [zn]) | (refine zt (t := 64) rfl _ rfl _ rfl (zV B ?_); clear B; intro b_r1 wn zb zd r1 za zf zk B; (try have zh := r1.lt); (try replace r1 := r1.below (za.mono zb)); (try have zh := t1.lt); (try replace t1 := t1.below (za.mono zb)); (try have zh := rc.lt); (try replace rc := rc.below (za.mono zb)); simp only [zn]) | fail)
  clear d1; have hr1 := r1.lt; go_loopw [3, 4, 12] (fun _ _ i wr => ∃ k : Nat, k ≤ ls.length ∧ i = .int .i64 k ∧ Below w.heap.size w wr ∧ wn.heap.size ≤ wr.heap.size ∧ zF 64 wr b_r1 #[.slice a ls.length c] ∧ ∀ j, j < k → yf ls j = true) (fun _ _ i _ => (ls.length - intOf i).toNat)
  case atStart => exact ⟨0, by omega, rfl, B, Nat.le_refl _, r1, fun j hj => by omega⟩
  case round =>
   clear B r1; obtain ⟨k, hk, rfl, B, hwn, r1, hst⟩ := hrel; have Hst := Lib.hid hst; clear hst; by_cases hkl : k < ls.length
   ·obtain ⟨g, o, rfl, rc0⟩ := HS.out.at (by omega)
    have hg0 := rc0.lt; have rc := rc0.of_eq (B.block _ rc0.lt); clear rc0; obtain ⟨⟨x, y, t⟩, he⟩ : ∃ e, aT ls k = e := ⟨_, rfl⟩; have htk : YR t := by have := HK.out.at hkl; rw [he] at this; exact this
    have HT := Lib.hid htk; obtain ⟨⟨x', y', t'⟩, he'⟩ : ∃ e, aT ls (k - 1) = e := ⟨_, rfl⟩; have hk1 : k - 1 < ls.length := by omega
    have dlt : decide ((k : Int) < (ls.length : Int)) = true := decide_eq_true (by omega); have hneq : ∀ w, (binOp .neq 123 (Tile.v (jJ t)) (Tile.v t)).run Tryz.prog w = .ok (.bool (!uR (jJ t) t)) w := fun w => zbE _ _ w
    cases h1 : qP x y with
    | false =>
     have E := Lib.hid (YB he h1); go_wp2_with (first | (refine zp (t := 125) rfl _ _ rfl _ rfl _ rfl t1 (by rw [qc]; kernel_rfl) (by simp only [qc, jM]) (yN _) (qt B (by omega) ?_); clear t1 B; intro wn t1 ze zf zg B; (try replace r1 := r1.of_eq (ze.block _ r1.lt (by omega))); (try replace rc := rc.of_eq (ze.block _ rc.lt (by omega))); simp only [zn]) | (refine zr (t := 125) rfl _ (jm _ _ rfl) (zV B ?_); clear B; intro b_t1 wn zb zd t1 za zf zk B; (try have zh := r1.lt); (try replace r1 := r1.below (za.mono zb)); (try have zh := t1.lt); (try replace t1 := t1.below (za.mono zb)); (try have zh := rc.lt); (try replace rc := rc.below (za.mono zb)); simp only [zn]) | (refine zq (t := 125) rfl _ rfl _ _ _ rfl (yX rc hkl he) (by first | rfl | omega) ?_; simp only [zn]) | (refine zq (t := 62) rfl _ rfl _ _ _ rfl (qj r1.cell0) (by rfl) ?_; simp only [zn]) | fail)
     refine qH (by kernel_rfl) (by kernel_rfl) ?_; repeat (first | go_big_quiet_skip | (go_big_quiet_want; first | (refine zo (t := 95) rfl _ _ _ rfl (fun w hw => vP (zD t1 w hw)) (by first | rfl | omega) ?_; simp only [zn]; go_big_quiet_on) | (refine zo (t := 123) rfl _ _ _ rfl (fun w hw => jT (zD t1 w hw)) (by first | rfl | omega) ?_; simp only [zn]; go_big_quiet_on) | (refine zo (t := 62) rfl _ _ _ rfl (fun w hw => qj (zD r1 w hw).cell0) (by rfl) ?_; simp only [zn]; go_big_quiet_on) | (refine zo (t := 95) rfl _ _ _ rfl (fun w hw => u6 (vn rc w hw) hk1 he') (by first | rfl | omega) ?_; simp only [zn]; go_big_quiet_on) | (go_big_quiet_op; first | go_big_quiet_on | go_big_quiet_call ((first | (go_at_call 99; exact zX (kt _ _ _)) | (go_at_call 100; exact zX (xO _ _ htk)) | (go_at_call 101; exact zX (yg _ _ htk)) | (go_at_call 102; exact zX (kL _ _ _ _ _)))))))
     refine wpQuiet_nil ?_; intro wn za; have zf := B.size; have zg := za.size; replace B := B.trans (za.mono B.size); try replace r1 := r1.below za
     try replace t1 := t1.below za
     try replace rc := rc.below za
     go_wp2; go_ret; exact ⟨by rw [wy hkl E.out]; try rfl, B⟩
    | true =>
     cases h2 : jE t with
     | true =>
      have E := Lib.hid (WX he h2); go_wp2_with (first | (refine zp (t := 125) rfl _ _ rfl _ rfl _ rfl t1 (by rw [qc]; kernel_rfl) (by simp only [qc, jM]) (yN _) (qt B (by omega) ?_); clear t1 B; intro wn t1 ze zf zg B; (try replace r1 := r1.of_eq (ze.block _ r1.lt (by omega))); (try replace rc := rc.of_eq (ze.block _ rc.lt (by omega))); simp only [zn]) | (refine zr (t := 125) rfl _ (jm _ _ rfl) (zV B ?_); clear B; intro b_t1 wn zb zd t1 za zf zk B; (try have zh := r1.lt); (try replace r1 := r1.below (za.mono zb)); (try have zh := t1.lt); (try replace t1 := t1.below (za.mono zb)); (try have zh := rc.lt); (try replace rc := rc.below (za.mono zb)); simp only [zn]) | (refine zq (t := 125) rfl _ rfl _ _ _ rfl (yX rc hkl he) (by first | rfl | omega) ?_; simp only [zn]) | (refine zq (t := 62) rfl _ rfl _ _ _ rfl (qj r1.cell0) (by rfl) ?_; simp only [zn]) | fail)
      refine qH (by kernel_rfl) (by kernel_rfl) ?_; repeat (first | go_big_quiet_skip | (go_big_quiet_want; first | (refine zo (t := 95) rfl _ _ _ rfl (fun w hw => vP (zD t1 w hw)) (by first | rfl | omega) ?_; simp only [zn]; go_big_quiet_on) | (refine zo (t := 123) rfl _ _ _ rfl (fun w hw => jT (zD t1 w hw)) (by first | rfl | omega) ?_; simp only [zn]; go_big_quiet_on) | (refine zo (t := 62) rfl _ _ _ rfl (fun w hw => qj (zD r1 w hw).cell0) (by rfl) ?_; simp only [zn]; go_big_quiet_on) | (refine zo (t := 95) rfl _ _ _ rfl (fun w hw => u6 (vn rc w hw) hk1 he') (by first | rfl | omega) ?_; simp only [zn]; go_big_quiet_on) | (go_big_quiet_op; first | go_big_quiet_on | go_big_quiet_call ((first | (go_at_call 99; exact zX (kt _ _ _)) | (go_at_call 100; exact zX (xO _ _ htk)) | (go_at_call 101; exact zX (yg _ _ htk)) | (go_at_call 102; exact zX (kL _ _ _ _ _)))))))
      refine wpQuiet_nil ?_; intro wn za; have zf := B.size; have zg := za.size; replace B := B.trans (za.mono B.size); try replace r1 := r1.below za
      try replace t1 := t1.below za
      try replace rc := rc.below za
      go_wp2; go_ret; exact ⟨by rw [wy hkl E.out]; try rfl, B⟩
     | false =>
      cases h3 : uR (jJ t) t with
      | false =>
       have E := Lib.hid (KO he h3); go_wp2_with (first | (refine zp (t := 125) rfl _ _ rfl _ rfl _ rfl t1 (by rw [qc]; kernel_rfl) (by simp only [qc, jM]) (yN _) (qt B (by omega) ?_); clear t1 B; intro wn t1 ze zf zg B; (try replace r1 := r1.of_eq (ze.block _ r1.lt (by omega))); (try replace rc := rc.of_eq (ze.block _ rc.lt (by omega))); simp only [zn]) | (refine zr (t := 125) rfl _ (jm _ _ rfl) (zV B ?_); clear B; intro b_t1 wn zb zd t1 za zf zk B; (try have zh := r1.lt); (try replace r1 := r1.below (za.mono zb)); (try have zh := t1.lt); (try replace t1 := t1.below (za.mono zb)); (try have zh := rc.lt); (try replace rc := rc.below (za.mono zb)); simp only [zn]) | (refine zq (t := 125) rfl _ rfl _ _ _ rfl (yX rc hkl he) (by first | rfl | omega) ?_; simp only [zn]) | (refine zq (t := 62) rfl _ rfl _ _ _ rfl (qj r1.cell0) (by rfl) ?_; simp only [zn]) | fail)
       refine qH (by kernel_rfl) (by kernel_rfl) ?_; repeat (first | go_big_quiet_skip | (go_big_quiet_want; first | (refine zo (t := 95) rfl _ _ _ rfl (fun w hw => vP (zD t1 w hw)) (by first | rfl | omega) ?_; simp only [zn]; go_big_quiet_on) | (refine zo (t := 123) rfl _ _ _ rfl (fun w hw => jT (zD t1 w hw)) (by first | rfl | omega) ?_; simp only [zn]; go_big_quiet_on) | (refine zo (t := 62) rfl _ _ _ rfl (fun w hw => qj (zD r1 w hw).cell0) (by rfl) ?_; simp only [zn]; go_big_quiet_on) | (refine zo (t := 95) rfl _ _ _ rfl (fun w hw => u6 (vn rc w hw) hk1 he') (by first | rfl | omega) ?_; simp only [zn]; go_big_quiet_on) | (go_big_quiet_op; first | go_big_quiet_on | go_big_quiet_call ((first | (go_at_call 99; exact zX (kt _ _ _)) | (go_at_call 100; exact zX (xO _ _ htk)) | (go_at_call 101; exact zX (yg _ _ htk)) | (go_at_call 102; exact zX (kL _ _ _ _ _)))))))
       refine wpQuiet_nil ?_; intro wn za; have zf := B.size; have zg := za.size; replace B := B.trans (za.mono B.size); try replace r1 := r1.below za
       try replace t1 := t1.below za
       try replace rc := rc.below za
       go_wp2; go_ret; exact ⟨by rw [wy hkl E.out]; try rfl, B⟩
      | true =>
       by_cases hk0 : 0 < k
       ·have E := Lib.hid (WW hk0 he he' h1 h2 h3)
        have d3 : decide ((0 : Int) < (k : Int)) = true := decide_eq_true (by omega); have d4 : decide (0 < k) = true := decide_eq_true hk0; cases h4 : jZ x' y' x y with
        | false =>
         have hO : decide (0 ≤ Qi x' y' x y) = true := by rw [VH, h4]; rfl
         go_wp2_with (first | (refine zp (t := 125) rfl _ _ rfl _ rfl _ rfl t1 (by rw [qc]; kernel_rfl) (by simp only [qc, jM]) (yN _) (qt B (by omega) ?_); clear t1 B; intro wn t1 ze zf zg B; (try replace r1 := r1.of_eq (ze.block _ r1.lt (by omega))); (try replace rc := rc.of_eq (ze.block _ rc.lt (by omega))); simp only [zn]) | (refine zr (t := 125) rfl _ (jm _ _ rfl) (zV B ?_); clear B; intro b_t1 wn zb zd t1 za zf zk B; (try have zh := r1.lt); (try replace r1 := r1.below (za.mono zb)); (try have zh := t1.lt); (try replace t1 := t1.below (za.mono zb)); (try have zh := rc.lt); (try replace rc := rc.below (za.mono zb)); simp only [zn]) | (refine zq (t := 125) rfl _ rfl _ _ _ rfl (yX rc hkl he) (by first | rfl | omega) ?_; simp only [zn]) | (refine zq (t := 62) rfl _ rfl _ _ _ rfl (qj r1.cell0) (by rfl) ?_; simp only [zn]) | fail)
         refine qH (by kernel_rfl) (by kernel_rfl) ?_; repeat (first | go_big_quiet_skip | (go_big_quiet_want; first | (refine zo (t := 95) rfl _ _ _ rfl (fun w hw => vP (zD t1 w hw)) (by first | rfl | omega) ?_; simp only [zn]; go_big_quiet_on) | (refine zo (t := 123) rfl _ _ _ rfl (fun w hw => jT (zD t1 w hw)) (by first | rfl | omega) ?_; simp only [zn]; go_big_quiet_on) | (refine zo (t := 62) rfl _ _ _ rfl (fun w hw => qj (zD r1 w hw).cell0) (by rfl) ?_; simp only [zn]; go_big_quiet_on) | (refine zo (t := 95) rfl _ _ _ rfl (fun w hw => u6 (vn rc w hw) hk1 he') (by first | rfl | omega) ?_; simp only [zn]; go_big_quiet_on) | (go_big_quiet_op; first | go_big_quiet_on | go_big_quiet_call ((first | (go_at_call 99; exact zX (kt _ _ _)) | (go_at_call 100; exact zX (xO _ _ htk)) | (go_at_call 101; exact zX (yg _ _ htk)) | (go_at_call 102; exact zX (kL _ _ _ _ _)))))))
         refine wpQuiet_nil ?_; intro wn za; have zf := B.size; have zg := za.size; replace B := B.trans (za.mono B.size); try replace r1 := r1.below za
         try replace t1 := t1.below za
         try replace rc := rc.below za
         go_wp2; go_ret; exact ⟨by rw [wy hkl (E.out.trans h4)]; try rfl, B⟩
        | true =>
         have hO : decide (0 ≤ Qi x' y' x y) = false := by rw [VH, h4]; rfl
         go_wp2_with (first | (refine zp (t := 125) rfl _ _ rfl _ rfl _ rfl t1 (by rw [qc]; kernel_rfl) (by simp only [qc, jM]) (yN _) (qt B (by omega) ?_); clear t1 B; intro wn t1 ze zf zg B; (try replace r1 := r1.of_eq (ze.block _ r1.lt (by omega))); (try replace rc := rc.of_eq (ze.block _ rc.lt (by omega))); simp only [zn]) | (refine zr (t := 125) rfl _ (jm _ _ rfl) (zV B ?_); clear B; intro b_t1 wn zb zd t1 za zf zk B; (try have zh := r1.lt); (try replace r1 := r1.below (za.mono zb)); (try have zh := t1.lt); (try replace t1 := t1.below (za.mono zb)); (try have zh := rc.lt); (try replace rc := rc.below (za.mono zb)); simp only [zn]) | (refine zq (t := 125) rfl _ rfl _ _ _ rfl (yX rc hkl he) (by first | rfl | omega) ?_; simp only [zn]) | (refine zq (t := 62) rfl _ rfl _ _ _ rfl (qj r1.cell0) (by rfl) ?_; simp only [zn]) | fail)
         refine qH (by kernel_rfl) (by kernel_rfl) ?_; repeat (first | go_big_quiet_skip | (go_big_quiet_want; first | (refine zo (t := 95) rfl _ _ _ rfl (fun w hw => vP (zD t1 w hw)) (by first | rfl | omega) ?_; simp only [zn]; go_big_quiet_on) | (refine zo (t := 123) rfl _ _ _ rfl (fun w hw => jT (zD t1 w hw)) (by first | rfl | omega) ?_; simp only [zn]; go_big_quiet_on) | (refine zo (t := 62) rfl _ _ _ rfl (fun w hw => qj (zD r1 w hw).cell0) (by rfl) ?_; simp only [zn]; go_big_quiet_on) | (refine zo (t := 95) rfl _ _ _ rfl (fun w hw => u6 (vn rc w hw) hk1 he') (by first | rfl | omega) ?_; simp only [zn]; go_big_quiet_on) | (go_big_quiet_op; first | go_big_quiet_on | go_big_quiet_call ((first | (go_at_call 99; exact zX (kt _ _ _)) | (go_at_call 100; exact zX (xO _ _ htk)) | (go_at_call 101; exact zX (yg _ _ htk)) | (go_at_call 102; exact zX (kL _ _ _ _ _)))))))
         refine wpQuiet_nil ?_; intro wn za; have zf := B.size; have zg := za.size; replace B := B.trans (za.mono B.size); try replace r1 := r1.below za
         try replace t1 := t1.below za
         try replace rc := rc.below za
         go_wp2; go_roundw
         case rel => exact ⟨k + 1, by omega, by go_num, B, by omega, r1, fun j hj => by
          by_cases e : j = k
          ·rw [e, E.out, h4]
          ·exact Hst.out j (by omega)⟩
         case measure => simp [intOf]; omega
       ·obtain rfl : k = 0 := by omega
        have E := Lib.hid (KP he h1 h2 h3); go_wp2_with (first | (refine zp (t := 125) rfl _ _ rfl _ rfl _ rfl t1 (by rw [qc]; kernel_rfl) (by simp only [qc, jM]) (yN _) (qt B (by omega) ?_); clear t1 B; intro wn t1 ze zf zg B; (try replace r1 := r1.of_eq (ze.block _ r1.lt (by omega))); (try replace rc := rc.of_eq (ze.block _ rc.lt (by omega))); simp only [zn]) | (refine zr (t := 125) rfl _ (jm _ _ rfl) (zV B ?_); clear B; intro b_t1 wn zb zd t1 za zf zk B; (try have zh := r1.lt); (try replace r1 := r1.below (za.mono zb)); (try have zh := t1.lt); (try replace t1 := t1.below (za.mono zb)); (try have zh := rc.lt); (try replace rc := rc.below (za.mono zb)); simp only [zn]) | (refine zq (t := 125) rfl _ rfl _ _ _ rfl (yX rc hkl he) (by first | rfl | omega) ?_; simp only [zn]) | (refine zq (t := 62) rfl _ rfl _ _ _ rfl (qj r1.cell0) (by rfl) ?_; simp only [zn]) | fail)
        refine qH (by kernel_rfl) (by kernel_rfl) ?_; repeat (first | go_big_quiet_skip | (go_big_quiet_want; first | (refine zo (t := 95) rfl _ _ _ rfl (fun w hw => vP (zD t1 w hw)) (by first | rfl | omega) ?_; simp only [zn]; go_big_quiet_on) | (refine zo (t := 123) rfl _ _ _ rfl (fun w hw => jT (zD t1 w hw)) (by first | rfl | omega) ?_; simp only [zn]; go_big_quiet_on) | (refine zo (t := 62) rfl _ _ _ rfl (fun w hw => qj (zD r1 w hw).cell0) (by rfl) ?_; simp only [zn]; go_big_quiet_on) | (refine zo (t := 95) rfl _ _ _ rfl (fun w hw => u6 (vn rc w hw) hk1 he') (by first | rfl | omega) ?_; simp only [zn]; go_big_quiet_on) | (go_big_quiet_op; first | go_big_quiet_on | go_big_quiet_call ((first | (go_at_call 99; exact zX (kt _ _ _)) | (go_at_call 100; exact zX (xO _ _ htk)) | (go_at_call 101; exact zX (yg _ _ htk)) | (go_at_call 102; exact zX (kL _ _ _ _ _)))))))
        refine wpQuiet_nil ?_; intro wn za; have zf := B.size; have zg := za.size; replace B := B.trans (za.mono B.size); try replace r1 := r1.below za
        go_wp2; go_roundw
        case rel => exact ⟨1, by omega, by go_num, B, by omega, r1, fun j hj => by
         obtain rfl : j = 0 := by omega
         exact E.out⟩
        case measure => simp [intOf]; omega
   ·have dlt : decide ((k : Int) < (ls.length : Int)) = false := decide_eq_false (by omega)
    have e1 := Lib.hid (vd (by omega) (fun j hj => Hst.out j (by omega))); go_wp2_with (first | (refine zq (t := 62) rfl _ rfl _ _ _ rfl (qj r1.cell0) (by rfl) ?_; simp only [zn]) | fail)
    go_ret; exact ⟨by rw [e1.out]; try rfl, B⟩
/- Boxing and making, with a name for the new block. -/
section
variable {ops : Array Oper} {rest : List Oper} {o : Oper} {a : Act} {w : World} {Q : Exit → Act → World → Prop}
theorem xt (hg : o.guard = none) (x : Operand) (ho : o.op = .box 123 x) (f : Nat → Px) (hx : a.eval x = Tile.v f)
  (h : ∀ b w', w.heap.size ≤ b → b ≤ w.heap.size → z1 w' b f → Below b w w' → w'.heap.size = b + 1 → wpList Tryz.prog ops Q rest (a.put o.dst (.pointer (some ⟨b, 0, none⟩))) w') : wpList Tryz.prog ops Q (o :: rest) a w :=
 yA hg x ho f hx fun w' h1 h2 h3 => h _ w' (Nat.le_refl _) (Nat.le_refl _) h1 h2 h3
theorem yp (hg : o.guard = none) (x : Operand) (ho : o.op = .box 28 x) (p : Px) (hx : a.eval x = Px.v p)
  (h : ∀ b w', w.heap.size ≤ b → b ≤ w.heap.size → jq w' b p → Below b w w' → w'.heap.size = b + 1 → wpList Tryz.prog ops Q rest (a.put o.dst (.pointer (some ⟨b, 0, none⟩))) w') : wpList Tryz.prog ops Q (o :: rest) a w :=
 Xg hg x ho p hx fun w' h1 h2 h3 => h _ w' (Nat.le_refl _) (Nat.le_refl _) h1 h2 h3
theorem x3 (hg : o.guard = none) (ho : o.op = .alloc 123)
  (h : ∀ b w', w.heap.size ≤ b → b ≤ w.heap.size → z1 w' b (fun _ => Px.zero) → Below b w w' → w'.heap.size = b + 1 → wpList Tryz.prog ops Q rest (a.put o.dst (.pointer (some ⟨b, 0, none⟩))) w') : wpList Tryz.prog ops Q (o :: rest) a w :=
 wT hg ho fun w' h1 h2 h3 => h _ w' (Nat.le_refl _) (Nat.le_refl _) h1 h2 h3
theorem qn (hg : o.guard = none) (ho : o.op = .alloc 28)
  (h : ∀ b w', w.heap.size ≤ b → b ≤ w.heap.size → jq w' b Px.zero → Below b w w' → w'.heap.size = b + 1 → wpList Tryz.prog ops Q rest (a.put o.dst (.pointer (some ⟨b, 0, none⟩))) w') : wpList Tryz.prog ops Q (o :: rest) a w :=
 xZ hg ho fun w' h1 h2 h3 => h _ w' (Nat.le_refl _) (Nat.le_refl _) h1 h2 h3
end
end Go.Proofs.YtepelndbbhdofaaGreatDoor
/- Contracts of Tile and Get of package raster and of its reference; '&' with a mask; '==' of positions. -/
namespace Go.Proofs.YtepelndbbhdofaaGreatDoor
open Go.RowKit Go.Shelf Pl
set_option linter.unusedVariables false
set_option linter.unusedSimpArgs false
set_option maxRecDepth 20000
/-- '&' with 2^n - 1. -/
theorem yQ (x : Int) (n : Nat) (m : Nat) (hm : m = 2 ^ n - 1) (hn : n ≤ 32) : bits .and .i64 x (m : Int) = x % (((m + 1 : Nat)) : Int) := by
 have e : bits .and .i64 x (m : Int) = IntKind.i64.wrap ((BitVec.ofInt 64 x &&& BitVec.ofInt 64 (m : Int)).toNat : Int) := rfl
 have h1 : (2 : Nat) ^ n ≤ 2 ^ 32 := Nat.pow_le_pow_right (by omega) hn
 have h0 : 1 ≤ (2 : Nat) ^ n := Nat.one_le_two_pow
 have hm1 : m + 1 = 2 ^ n := by omega
 have hml : m < 2 ^ 32 := by omega
 have e2 : (BitVec.ofInt 64 (m : Int)).toNat = m := by
  rw [BitVec.toNat_ofInt]; have h3 : (2 : Nat) ^ 32 = 4294967296 := rfl; have h4 : ((2 : Nat) ^ 64 : Nat) = 18446744073709551616 := rfl; rw [h4]; omega
 have e3 : (BitVec.ofInt 64 x &&& BitVec.ofInt 64 (m : Int)).toNat = (BitVec.ofInt 64 x).toNat % 2 ^ n := by
  rw [BitVec.toNat_and, e2, hm, Nat.and_two_pow_sub_one_eq_mod]
 have e4 : (((BitVec.ofInt 64 x).toNat % 2 ^ n : Nat) : Int) = x % ((2 ^ n : Nat) : Int) := by
  rw [BitVec.toNat_ofInt]; have hd : ((2 ^ n : Nat) : Int) ∣ ((2 ^ 64 : Nat) : Int) := by
   refine Int.natCast_dvd_natCast.2 ?_; exact Nat.pow_dvd_pow 2 (by omega)
  have hpos : (0 : Int) < ((2 ^ 64 : Nat) : Int) := by
   have : (0 : Nat) < 2 ^ 64 := by decide
   omega
  have hnn : 0 ≤ x % ((2 ^ 64 : Nat) : Int) := Int.emod_nonneg _ (by omega); rw [Int.natCast_emod, Int.toNat_of_nonneg hnn, Int.emod_emod_of_dvd _ hd]
 have hkl : (BitVec.ofInt 64 x).toNat % 2 ^ n < 2 ^ n := Nat.mod_lt _ (by omega)
 rw [e, e3, IntKind.wrap_i64, hm1, ← e4]
 have h3 : (2 : Nat) ^ 32 = 4294967296 := rfl
 rw [h3] at h1
 generalize (BitVec.ofInt 64 x).toNat % 2 ^ n = z at hkl ⊢
 generalize (2 : Nat) ^ n = y at *
 omega
theorem Q0 (x : Int) : bits .and .i64 x 7 = x % 8 := yQ x 3 7 rfl (by decide)
theorem Zz (x : Int) : bits .and .i64 x 1048575 = x % 1048576 := yQ x 20 1048575 rfl (by decide)
/-! ### '==' of positions -/
theorem XL (d : Nat) (x y x' y' : Int) (w : World) : (Op.equalIn (d + 2) 95 (Ps.v x y) (Ps.v x' y')).run Tryz.prog w = .ok (yH x y x' y') w := by
 have h : (Op.equalIn (d + 2) 95 (Ps.v x y) (Ps.v x' y')).run Tryz.prog w = .ok (x == x' && y == y') w := by
  simp only [Ps.v]; by_cases h1 : x = x' <;> by_cases h2 : y = y' <;> simp [go_sem, h1, h2]
 rw [h]
 congr 1
 unfold yH
 rw [Bool.eq_iff_iff]
 simp
theorem zc2 (x y x' y' : Int) (w : World) : (binOp .eql 95 (Ps.v x y) (Ps.v x' y')).run Tryz.prog w = .ok (.bool (yH x y x' y')) w := by
 have h := run_eql_struct (P := Tryz.prog) w 95 #[.int .i64 x, .int .i64 y] #[.int .i64 x', .int .i64 y']
 have e := XL 9998 x y x' y' w
 unfold Ps.v at e ⊢
 rw [h, e]; rfl
@[go_sem] theorem zeZ (op : BinOp) (p q : Operand) (x y x' y' : Int) (w : World) : (eqGuard op 95 p q (Ps.v x y) (Ps.v x' y')).run Tryz.prog w = .ok () w := run_eqGuard_agg w op 95 p q _ _ (by kernel_rfl)
@[go_sem] theorem zep (op : BinOp) (p q : Operand) (x y : Int) (cs : Array Value) (w : World) : (eqGuard op 95 p q (Ps.v x y) (.agg cs)).run Tryz.prog w = .ok () w := run_eqGuard_agg w op 95 p q _ _ (by kernel_rfl)
theorem zfF {v : Value} {ls : List TA} {w : World} (h : RS v ls w) : ∀ w', (∃ u, w' = ov w u) → RS v ls w' := by
 rintro w' ⟨u, rfl⟩
 exact h.below (qJ w u)
/-! ### Tile -/
theorem K3 (e : TA) (x y : Int) (b : Nat) (w : World) (p1 : zF 95 w b #[.int .i64 x, .int .i64 y]) : Calls Tryz.prog 136 #[.agg (xL e), .pointer (some ⟨b, 0, none⟩)] w fun e' w' => e' = .returned (.bool (yH e.x e.y x y)) ∧ Below w.heap.size w w' := by
 have B := Below.refl w.heap.size w
 have hb0 := p1.lt
 have heq : ∀ w, (binOp .eql 95 (Ps.v e.x e.y) (.agg #[.int .i64 x, .int .i64 y])).run Tryz.prog w = .ok (.bool (yH e.x e.y x y)) w := fun w => zc2 _ _ _ _ w
 go_enter Tryz.func136, Tryz.ntmps136
 go_wp2_with (first | (refine zq (t := 95) rfl _ rfl _ _ _ rfl (vP t1) (by first | rfl | omega) ?_; simp only [zn]) | (refine zq (t := 95) rfl _ rfl _ _ _ rfl (zy p1 Tryz.isAgg95 (by kernel_rfl)) (by rfl) ?_; simp only [zn]) | (refine zt (t := 125) rfl _ rfl _ rfl (zV B ?_); clear B; intro b_t1 wn zb zd t1 za zf zk B; (try have zh := t1.lt); (try replace t1 := t1.below (za.mono zb)); (try have zh := p1.lt); (try replace p1 := p1.below (za.mono zb)); simp only [zn]) | fail)
 go_ret
 exact ⟨rfl, B⟩
set_option maxHeartbeats 1000000 in
theorem Zf (v : Value) (ls : List TA) (x y : Int) (b : Nat) (w : World) (h : RS v ls w) (hn : ls.length ≤ maxLen) (p1 : zF 95 w b #[.int .i64 x, .int .i64 y]) : Calls Tryz.prog 135 #[v, .func (.func 136) #[] #[.pointer (some ⟨b, 0, none⟩)]] w fun e w' => e = .returned (.int .i64 (if idxL ls x y < ls.length then (idxL ls x y : Int) else -1)) ∧ Below w.heap.size w w' := by
 unfold maxLen at hn
 obtain ⟨a, c, rfl, hc⟩ := h.len
 have B := Below.refl w.heap.size w
 have HS := Lib.hid h
 have P1 := Lib.hid p1
 have zb := Vo ls x y
 have eg := enters_of Tryz.func136 (by kernel_rfl) rfl
 clear h p1
 go_enter Tryz.func135, Tryz.ntmps135
 go_wp2
 go_loopw [5, 8] (fun _ i wr => ∃ k : Nat, k ≤ idxL ls x y ∧ i = .int .i64 k ∧ Below w.heap.size w wr) (fun _ i _ => (ls.length - intOf i).toNat)
 case atStart => exact ⟨0, by omega, rfl, B⟩
 case round =>
  clear B; obtain ⟨k, hk, rfl, B⟩ := hrel; have p1 := P1.out.of_eq (B.block _ P1.out.lt); by_cases hkl : k < ls.length
  ·obtain ⟨g, o, rfl, rc0⟩ := HS.out.at (by omega)
   have rc := rc0.of_eq (B.block _ rc0.lt); clear rc0; obtain ⟨e, he⟩ : ∃ e, aT ls k = e := ⟨_, rfl⟩; by_cases hki : k < idxL ls x y
   ·have hq : yH e.x e.y x y = false := by have := zdb hki; rw [he] at this; exact this
    go_wp2_with (first | (go_at_call 136; refine (K3 e x y b _ p1).mono ?_; rintro e' wn ⟨rfl, za⟩; replace B := B.trans (za.mono B.size)) | (refine zq (t := 125) rfl _ rfl _ _ _ rfl (yX rc hkl he) (by first | rfl | omega) ?_; simp only [zn]) | fail)
    go_roundw
    case rel => exact ⟨k + 1, by omega, by go_num, B⟩
    case measure => simp [intOf]; omega
   ·obtain rfl : k = idxL ls x y := by omega
    have hq : yH e.x e.y x y = true := by have := zda hkl; rw [he] at this; exact this
    have H := Lib.hid hkl; go_wp2_with (first | (go_at_call 136; refine (K3 e x y b _ p1).mono ?_; rintro e' wn ⟨rfl, za⟩; replace B := B.trans (za.mono B.size)) | (refine zq (t := 125) rfl _ rfl _ _ _ rfl (yX rc hkl he) (by first | rfl | omega) ?_; simp only [zn]) | fail)
    go_ret; exact ⟨by first | rfl | (rw [if_pos H.out]; rfl), B⟩
  ·have H := Lib.hid (show ¬ idxL ls x y < ls.length by omega)
   go_wp2; go_ret; exact ⟨by first | rfl | (rw [if_neg H.out]; rfl), B⟩
set_option maxHeartbeats 1000000 in
theorem zed (v : Value) (ls : List TA) (x y : Int) (w : World) (h : RS v ls w) (hn : ls.length ≤ maxLen) : Calls Tryz.prog 80 #[.agg #[v], Ps.v x y] w fun e w' => e = .returned (Tile.v (z7 ls x y)) ∧ Below w.heap.size w w' := by
 obtain ⟨a, c, rfl, hc⟩ := h.len
 have zb := Vo ls x y
 have hml : (9223372036854775807 : Int) ≥ maxLen := by unfold maxLen; omega
 have B := Below.refl w.heap.size w
 have HS := Lib.hid h
 clear h
 simp only [Ps.v]
 by_cases hi : idxL ls x y < ls.length
 ·rw [Jj, if_pos hi]
  obtain ⟨g, o, rfl, rc⟩ := HS.out.at (by omega); have hg0 := rc.lt; obtain ⟨e, he⟩ : ∃ e, aT ls (idxL ls x y) = e := ⟨_, rfl⟩; rw [he]; have hif : (if idxL ls x y < ls.length then (idxL ls x y : Int) else -1) = (idxL ls x y : Int) := if_pos hi; go_enter Tryz.func80, Tryz.ntmps80
  go_wp2_with (first | (refine xC rfl _ _ rfl _ rfl _ rfl u1 (qt B (by omega) ?_); clear u1 B; intro wn u1 ze zf zg B; (try replace r1 := r1.of_eq (ze.block _ r1.lt (by omega))); (try replace p1 := p1.of_eq (ze.block _ p1.lt (by omega))); (try replace rc := rc.of_eq (ze.block _ rc.lt (by omega))); simp only [zn]) | (refine zq (t := 123) rfl _ rfl _ _ _ rfl (zdC rc hi he) (by first | rfl | omega) ?_; simp only [zn]) | (go_at_call 135; refine (Zf _ ls x y _ _ (HS.out.below B) hn p1).mono ?_; rintro e wn ⟨rfl, za⟩; have zf := B.size; have zg := za.size; replace B := B.trans (za.mono B.size); (try replace r1 := r1.below za); (try replace p1 := p1.below za); (try replace u1 := u1.below za); (try replace rc := rc.below za)) | (refine zq (t := 62) rfl _ rfl _ _ _ rfl (qj r1.cell0) (by rfl) ?_; simp only [zn]) | (have _ := p1; refine x3 rfl rfl (zV B ?_); clear B; intro b_u1 wn zb zd u1 za zf zk B; (try have zh := r1.lt); (try replace r1 := r1.below (za.mono zb)); (try have zh := p1.lt); (try replace p1 := p1.below (za.mono zb)); (try have zh := u1.lt); (try replace u1 := u1.below (za.mono zb)); (try have zh := rc.lt); (try replace rc := rc.below (za.mono zb)); simp only [zn]) | (have _ := r1; refine zt (t := 95) rfl _ rfl _ rfl (zV B ?_); clear B; intro b_p1 wn zb zd p1 za zf zk B; (try have zh := r1.lt); (try replace r1 := r1.below (za.mono zb)); (try have zh := p1.lt); (try replace p1 := p1.below (za.mono zb)); (try have zh := u1.lt); (try replace u1 := u1.below (za.mono zb)); (try have zh := rc.lt); (try replace rc := rc.below (za.mono zb)); simp only [zn]) | (refine zt (t := 64) rfl _ rfl _ rfl (zV B ?_); clear B; intro b_r1 wn zb zd r1 za zf zk B; (try have zh := r1.lt); (try replace r1 := r1.below (za.mono zb)); (try have zh := p1.lt); (try replace p1 := p1.below (za.mono zb)); (try have zh := u1.lt); (try replace u1 := u1.below (za.mono zb)); (try have zh := rc.lt); (try replace rc := rc.below (za.mono zb)); simp only [zn]) | fail)
  refine bodyPost_ret (kU rfl _ _ (b_u1) rfl u1) rfl ?_; exact ⟨rfl, B⟩
 ·rw [Jj, if_neg hi]
  have hif : (if idxL ls x y < ls.length then (idxL ls x y : Int) else -1) = -1 := if_neg hi; go_enter Tryz.func80, Tryz.ntmps80
  go_wp2_with (first | (refine xC rfl _ _ rfl _ rfl _ rfl u1 (qt B (by omega) ?_); clear u1 B; intro wn u1 ze zf zg B; (try replace r1 := r1.of_eq (ze.block _ r1.lt (by omega))); (try replace p1 := p1.of_eq (ze.block _ p1.lt (by omega))); simp only [zn]) | (refine wU rfl rfl ?_; simp only [zn]) | (go_at_call 135; refine (Zf _ ls x y _ _ (HS.out.below B) hn p1).mono ?_; rintro e wn ⟨rfl, za⟩; have zf := B.size; have zg := za.size; replace B := B.trans (za.mono B.size); (try replace r1 := r1.below za); (try replace p1 := p1.below za); (try replace u1 := u1.below za)) | (refine zq (t := 62) rfl _ rfl _ _ _ rfl (qj r1.cell0) (by rfl) ?_; simp only [zn]) | (have _ := p1; refine x3 rfl rfl (zV B ?_); clear B; intro b_u1 wn zb zd u1 za zf zk B; (try have zh := r1.lt); (try replace r1 := r1.below (za.mono zb)); (try have zh := p1.lt); (try replace p1 := p1.below (za.mono zb)); (try have zh := u1.lt); (try replace u1 := u1.below (za.mono zb)); (try have zh := rc.lt); simp only [zn]) | (have _ := r1; refine zt (t := 95) rfl _ rfl _ rfl (zV B ?_); clear B; intro b_p1 wn zb zd p1 za zf zk B; (try have zh := r1.lt); (try replace r1 := r1.below (za.mono zb)); (try have zh := p1.lt); (try replace p1 := p1.below (za.mono zb)); (try have zh := u1.lt); (try replace u1 := u1.below (za.mono zb)); (try have zh := rc.lt); simp only [zn]) | (refine zt (t := 64) rfl _ rfl _ rfl (zV B ?_); clear B; intro b_r1 wn zb zd r1 za zf zk B; (try have zh := r1.lt); (try replace r1 := r1.below (za.mono zb)); (try have zh := p1.lt); (try replace p1 := p1.below (za.mono zb)); (try have zh := u1.lt); (try replace u1 := u1.below (za.mono zb)); (try have zh := rc.lt); simp only [zn]) | fail)
  refine bodyPost_ret (kU rfl _ _ (b_u1) rfl u1) rfl ?_; exact ⟨rfl, B⟩
/- Tiles at a position built, put into slices; contracts of Get, BinarySearchFunc, find, Clone. -/
theorem v7 {place : Nat → Option (Nat × Nat)} {cells : Array Value} {i : Nat} {v : Value} {rest : List (Nat × Value)} {off sz : Nat} (hp : place i = some (off, sz)) (hv : v.cells.size = sz) (zb : off + sz ≤ cells.size) :
  ∃ r : Array Value, r.size = cells.size ∧ (∀ k, r[k]? = if off ≤ k ∧ k < off + sz then v.cells[k - off]? else cells[k]?) ∧ Instr.fill place cells ((i, v) :: rest) = Instr.fill place r rest := by
 obtain ⟨g1, g2⟩ := Great.foldl_set off v.cells.toList 0 cells
 refine ⟨v.cells.zipIdx.foldl (fun cs (x : Value × Nat) => cs.setIfInBounds (off + x.2) x.1) cells, ?_, fun k => ?_, ?_⟩
 ·rw [← Array.foldl_toList, Array.toList_zipIdx]; exact g1
 ·rw [← Array.foldl_toList, Array.toList_zipIdx]
  refine (g2 k).trans ?_; rw [Array.length_toList, hv, Nat.add_zero]; by_cases h : off ≤ k ∧ k < off + sz
  ·rw [if_pos h, if_pos ⟨h.1, h.2, by omega⟩, Array.getElem?_toList]
  ·rw [if_neg h, if_neg (by omega)]
 ·conv => lhs; unfold Instr.fill
  rw [hp]; simp only []; rw [if_neg (by simp [hv]; omega)]
theorem um (x y : Int) : (Ps.v x y).cells = #[.int .i64 x, .int .i64 y] := by simp only [Ps.v, Value.cells]
theorem ww (x y : Int) (t : Nat → Px) (k : Nat) : (xL ⟨x, y, t⟩)[k]? = if k < 2 then (#[.int .i64 x, .int .i64 y] : Array Value)[k]? else (qS t)[k - 2]? := by
 by_cases h : k < 2
 ·rw [if_pos h]
  have hc : k = 0 ∨ k = 1 := by omega
  rcases hc with rfl | rfl
  ·exact Ji _
  ·exact YC _
 ·rw [if_neg h]
  have := VV ⟨x, y, t⟩ (k - 2); rw [show 2 + (k - 2) = k by omega] at this; exact this
theorem XE (parts : List (Nat × Value)) : Tryz.prog.built 125 parts = Instr.fill (fun i => #[(0, 2), (2, 256)][i]?) zTA parts := by kernel_rfl
theorem zc6 (x y : Int) (t : Nat → Px) : Instr.fill (fun i => #[(0, 2), (2, 256)][i]?) zTA [(0, Ps.v x y), (1, Tile.v t)] = some (xL ⟨x, y, t⟩) := by
 obtain ⟨r, hs, hr, e⟩ := v7 (place := fun i => #[(0, 2), (2, 256)][i]?) (cells := zTA) (i := 0) (v := Ps.v x y) (rest := [(1, Tile.v t)]) (off := 0) (sz := 2) rfl (by rw [um]; rfl) (by rw [jM]; omega)
 obtain ⟨r', hs', hr', e'⟩ := v7 (place := fun i => #[(0, 2), (2, 256)][i]?) (cells := r) (i := 1) (v := Tile.v t) (rest := []) (off := 2) (sz := 256) rfl (by rw [wX, ju]) (by rw [hs, jM]; omega)
 rw [e, e']
 show some r' = _
 congr 1
 apply Array.ext_getElem?
 intro k
 rw [hr' k, hr k, ww, wX, um]
 by_cases h2 : k < 2
 ·rw [if_neg (by omega), if_pos (by omega), if_pos h2, Nat.sub_zero]
 ·rw [if_neg h2]
  by_cases h3 : k < 258
  ·rw [if_pos (by omega)]
  ·rw [if_neg (by omega), if_neg (by omega), Array.getElem?_eq_none (by rw [jM]; omega), Array.getElem?_eq_none (by rw [ju]; omega)]
theorem J5 (w : World) (o : Oper) (p q : Operand) (ho : o.op = .build 125 #[(0, p), (1, q)]) (ev : Operand → Value) (x y : Int) (t : Nat → Px) (hp : ev p = Ps.v x y) (hq : ev q = Tile.v t) : (execOp ev o).run Tryz.prog w = .ok (.value (.agg (xL ⟨x, y, t⟩))) w := by
 unfold execOp
 have r := run_build w 125 #[(0, Ps.v x y), (1, Tile.v t)] _ ((XE _).trans (zc6 x y t))
 simp only [ho, List.map_toArray, List.map_cons, List.map_nil, hp, hq]
 simp only [Sem.run_bind, r, Result.andThen_ok, Sem.run_pure]
section
variable {ops : Array Oper} {rest : List Oper} {o : Oper} {a : Act} {w : World} {Q : Exit → Act → World → Prop}
theorem y7 (hg : o.guard = none) (p q : Operand) (ho : o.op = .build 125 #[(0, p), (1, q)]) (x y : Int) (t : Nat → Px) (hp : a.eval p = Ps.v x y) (hq : a.eval q = Tile.v t)
  (h : wpList Tryz.prog ops Q rest (a.put o.dst (.agg (xL ⟨x, y, t⟩))) w) : wpList Tryz.prog ops Q (o :: rest) a w :=
 wpList_plain hg fun K hK => by
  unfold Oper.wp; rw [J5 w o p q ho _ x y t hp hq]; exact hK _ _ h
theorem zbf (e : TA) (cs : Array Value) (hs : cs.size = 258) : Instr.fill (fun i => some (i * 258, 258)) cs [(0, .agg (xL e))] = some (xL e) := by
 have hc : (Value.agg (xL e)).cells = xL e := by simp only [Value.cells]
 obtain ⟨r, hs', hr, e'⟩ := v7 (place := fun i => some (i * 258, 258)) (cells := cs) (i := 0) (v := .agg (xL e)) (rest := []) (off := 0) (sz := 258) rfl (by rw [hc, qc]) (by omega)
 rw [e']
 show some r = _
 congr 1
 apply Array.ext_getElem?
 intro k
 rw [hr k, hc]
 by_cases h : k < 258
 ·rw [if_pos (by omega), Nat.sub_zero]
 ·rw [if_neg (by omega), Array.getElem?_eq_none (by omega), Array.getElem?_eq_none (by rw [qc]; omega)]
/-- A slice of one tile. -/
theorem xI (hg : o.guard = none) (x : Operand) (ho : o.op = .buildSlice 62 1 #[(0, x)]) (e : TA) (hx : a.eval x = .agg (xL e))
  (h : ∀ b w', w.heap.size ≤ b → b ≤ w.heap.size → zF 125 w' b (xL e) → Below b w w' → w'.heap.size = b + 1 → wpList Tryz.prog ops Q rest (a.put o.dst (.slice (some ⟨b, 0, none⟩) 1 1)) w') : wpList Tryz.prog ops Q (o :: rest) a w := by
 obtain ⟨i, hi⟩ : ∃ i, Tryz.prog.info? 125 = some i := by
  cases h : Tryz.prog.info? 125 with
  | some i => exact ⟨i, rfl⟩
  | none => have e := ZP; rw [h] at e; cases e
 have e1 := ZP
 rw [hi] at e1
 have e1' : i.size = 258 ∧ i.bytes = 272 := by simpa using e1
 have hz := VX
 rw [hi] at hz
 refine wpList_buildSlice hg 62 125 1 #[(0, x)] ho (xL e) i _ Tryz.underlying62 hi hz (by rw [e1'.1]; omega) (by rw [e1'.1]; omega) ?_ (h _ _ (Nat.le_refl _) (Nat.le_refl _) (by unfold zF; rw [zI, if_pos rfl]) ((Below.refl _ _).alloc (Nat.le_refl _) _) (World.size_alloc _ _))
 rw [e1'.1]
 have hp : ((#[(0, x)] : Array (Nat × Operand)).map fun (i, x) => (i, a.eval x)).toList = [(0, Value.agg (xL e))] := by simp [hx]
 rw [hp]
 exact zbf e _ (by simp)
theorem RS.one {b : Nat} {e : TA} {w : World} (h : zF 125 w b (xL e)) : RS (.slice (some ⟨b, 0, none⟩) 1 1) [e] w :=
 .inr ⟨b, 0, 1, rfl, Nat.le_refl _, fun _ => ⟨h.lt, fun i hi j hj => by
  have hi : i < 1 := hi; obtain rfl : i = 0 := by omega
  rw [show 0 + (0 * 258 + j) = j by omega]; exact (z2 h).1 j⟩⟩
theorem zb2 (w : World) (o : Oper) (ho : o.op = .buildSlice 62 0 #[]) (ev : Operand → Value) : (execOp ev o).run Tryz.prog w = .ok (.value (.slice (some ⟨w.heap.size, 0, none⟩) 0 0)) (w.alloc (.cells #[] 125)) := by
 obtain ⟨d, p, t, ps, af, gd⟩ := o
 simp only at ho
 subst ho
 kernel_rfl
/-- A slice of no tiles, in memory of the call's own. -/
theorem YL (hg : o.guard = none) (ho : o.op = .buildSlice 62 0 #[])
  (h : ∀ b w', w.heap.size ≤ b → b ≤ w.heap.size → xo b (.slice (some ⟨b, 0, none⟩) 0 0) [] w' → Below b w w' → w'.heap.size = b + 1 → wpList Tryz.prog ops Q rest (a.put o.dst (.slice (some ⟨b, 0, none⟩) 0 0)) w') : wpList Tryz.prog ops Q (o :: rest) a w :=
 wpList_plain hg fun K hK => by
  unfold Oper.wp; rw [zb2 w o ho]; exact hK _ _ (h _ _ (Nat.le_refl _) (Nat.le_refl _) ⟨rfl, .inr ⟨w.heap.size, 0, #[], rfl, Nat.le_refl _, by rw [zI, if_pos rfl], Nat.le_refl _, by unfold maxLen; omega, rfl, rfl⟩⟩ ((Below.refl _ _).alloc (Nat.le_refl _) _) (World.size_alloc _ _))
end
/-! ### Clone -/
set_option maxHeartbeats 1000000 in
theorem zcx (v : Value) (ls : List TA) (w : World) (h : RS v ls w) (hn : ls.length ≤ 4000) : Calls Tryz.prog 78 #[v] w fun e w' => ∃ v', e = .returned v' ∧ xo w.heap.size v' ls w' ∧ Below w.heap.size w w' := by
 have B := Below.refl w.heap.size w
 have q22 : ∀ (w : World) (a : Option Addr) (n c n' c' : Nat), (binOp .eql 62 (.slice a n c) (.slice none n' c')).run Tryz.prog w = .ok (.bool a.isNone) w := fun w a n c n' c' => Lib.run_eql_slice_nil w _ _ a n c n' c' Tryz.underlying62
 rcases h with ⟨rfl, rfl⟩ | ⟨g, o, c, rfl, hc, sc⟩
 ·go_enter Tryz.func78, Tryz.ntmps78
  go_wp2; go_ret; exact ⟨_, rfl, xo.nil _ _, B⟩
 ·have h : RS (.slice (some ⟨g, o, none⟩) ls.length c) ls w := .inr ⟨g, o, c, rfl, hc, sc⟩
  clear sc; go_enter Tryz.func78, Tryz.ntmps78
  go_wp2_with (first | (at_builtin; refine qK rfl _ _ rfl _ _ rfl rfl od (h) (by simp only [List.length_nil]; omega) (by omega) ?_; intro v_od wn ht za; have zf := B.size; have zg := za.size; replace B := B.trans (za.mono (by omega)); clear od; have od := ht; clear ht; simp only [zn]) | (refine YL rfl rfl ?_; intro b_od wn zb zd ht za zg; have zf := B.size; replace B := B.trans (za.mono (by omega)); have od := ht; clear ht; replace h := h.below (za.mono (by omega)); simp only [zn]) | fail)
  go_ret; exact ⟨_, rfl, by rw [List.nil_append] at od; exact od.mono (by omega), B⟩
/-! ### The search -/
theorem za3 {ls : List TA} (hs : ZW ls) (x y : Int) {h : Nat} (hh : h < ls.length) : jZ (aT ls h).x (aT ls h).y x y = decide (h < cutL ls x y) := by
 by_cases hc : h < cutL ls x y
 ·rw [decide_eq_true hc, Vh hc]
 ·rw [decide_eq_false hc]
  have zb := un ls x y; have h0 : cutL ls x y < ls.length := by omega
  have h1 := Vg h0; by_cases he : cutL ls x y = h
  ·rw [← he]; exact h1
  ·have h2 := List.pairwise_iff_getElem.1 hs (cutL ls x y) h h0 hh (by omega)
   have a := ku h0; have b := ku hh; rw [List.getElem?_eq_getElem h0] at a; rw [List.getElem?_eq_getElem hh] at b; rw [Option.some.inj a, Option.some.inj b] at h2; unfold xR jZ at h2; unfold jZ at h1 ⊢; have h2 := of_decide_eq_true h2; have h1 := of_decide_eq_false h1; exact decide_eq_false (by omega)
theorem ZF (e : TA) (x y : Int) (w : World) : Calls Tryz.prog 165 #[.agg (xL e), .agg #[.int .i64 x, .int .i64 y]] w fun e' w' => e' = .returned (.int .i64 (Qi e.x e.y x y)) ∧ Below w.heap.size w w' := by
 have B := Below.refl w.heap.size w
 go_enter Tryz.func165, Tryz.ntmps165
 go_wp2_with (first | (go_at_call 102; refine (kL _ _ x y _).mono ?_; rintro e wn ⟨rfl, za⟩; have zf := B.size; have zg := za.size; replace B := B.trans (za.mono B.size); (try replace t1 := t1.below za); (try replace p1 := p1.below za)) | (refine zq (t := 95) rfl _ rfl _ _ _ rfl (vP t1) (by first | rfl | omega) ?_; simp only [zn]) | (refine zq (t := 95) rfl _ rfl _ _ _ rfl (zy p1 Tryz.isAgg95 (by kernel_rfl)) (by rfl) ?_; simp only [zn]) | (have _ := t1; refine zt (t := 95) rfl _ rfl _ rfl (zV B ?_); clear B; intro b_p1 wn zb zd p1 za zf zk B; (try have zh := t1.lt); (try replace t1 := t1.below (za.mono zb)); (try have zh := p1.lt); (try replace p1 := p1.below (za.mono zb)); simp only [zn]) | (refine zt (t := 125) rfl _ rfl _ rfl (zV B ?_); clear B; intro b_t1 wn zb zd t1 za zf zk B; (try have zh := t1.lt); (try replace t1 := t1.below (za.mono zb)); (try have zh := p1.lt); (try replace p1 := p1.below (za.mono zb)); simp only [zn]) | fail)
 go_ret
 exact ⟨rfl, B⟩
set_option maxHeartbeats 2000000 in
theorem zaR (v : Value) (ls : List TA) (x y : Int) (w : World) (h : RS v ls w) (hs : ZW ls) (hn : ls.length ≤ 1000000) : Calls Tryz.prog 164 #[v, .agg #[.int .i64 x, .int .i64 y], .func (.func 165) #[] #[]] w fun e w' => e = .returned (.tuple #[.int .i64 (cutL ls x y : Int), .bool (yC ls x y)]) ∧ Below w.heap.size w w' := by
 obtain ⟨a, c, rfl, hc⟩ := h.len
 have hcl := un ls x y
 have B := Below.refl w.heap.size w
 have HS := Lib.hid h
 have SR := Lib.hid hs
 have eg := enters_of Tryz.func165 (by kernel_rfl) rfl
 clear h hs
 generalize hfin : yC ls x y = fin
 have FIN := Lib.hid hfin
 clear hfin
 go_enter Tryz.func164, Tryz.ntmps164
 go_wp2_with (first | (refine zt (t := 95) rfl _ rfl _ rfl (zV B ?_); clear B; intro b_p1 wn zb zd p1 za zf zk B; (try have zh := p1.lt); (try replace p1 := p1.below (za.mono zb)); (try have zh := rc.lt); (try replace rc := rc.below (za.mono zb)); simp only [zn]) | fail)
 have hp1 := p1.lt
 go_loopw [9, 10, 11] (fun i j _ wr => ∃ p q : Nat, p ≤ cutL ls x y ∧ cutL ls x y ≤ q ∧ q ≤ ls.length ∧ i = .int .i64 p ∧ j = .int .i64 q ∧ Below w.heap.size w wr ∧ zF 95 wr b_p1 #[.int .i64 x, .int .i64 y]) (fun i j _ _ => (intOf j - intOf i).toNat)
 case atStart => exact ⟨0, ls.length, by omega, hcl, Nat.le_refl _, rfl, rfl, B, p1⟩
 case round =>
  clear B p1; obtain ⟨p, q, h1, h2, h3, rfl, rfl, B, p1⟩ := hrel; by_cases hpq : p < q
  ·obtain ⟨g, o, rfl, rc0⟩ := HS.out.at (by omega)
   have hg0 := rc0.lt; have rc := rc0.of_eq (B.block _ rc0.lt); clear rc0; have hm : (p + q) / 2 < ls.length := by omega
   obtain ⟨e, he⟩ : ∃ e, aT ls ((p + q) / 2) = e := ⟨_, rfl⟩; have hl := za3 SR.out x y hm; rw [he, ← X3] at hl; by_cases hcut : (p + q) / 2 < cutL ls x y
   ·rw [decide_eq_true hcut] at hl
    go_wp2; refine qH (by kernel_rfl) (by kernel_rfl) ?_; repeat (first | go_big_quiet_skip | (go_big_quiet_want; first | (refine zo (t := 125) rfl _ _ _ rfl (fun w hw => yX (vn rc w hw) hm he) (by first | rfl | omega) ?_; simp only [zn]; go_big_quiet_on) | (refine zo (t := 95) rfl _ _ _ rfl (fun w hw => zy (zD p1 w hw) Tryz.isAgg95 (by kernel_rfl)) (by rfl) ?_; simp only [zn]; go_big_quiet_on) | (go_big_quiet_op; first | go_big_quiet_on | go_big_quiet_call ((first | (go_at_call 165; exact zX (ZF e x y _)))))))
    refine wpQuiet_nil ?_; intro wn za; have zf := B.size; have zg := za.size; replace B := B.trans (za.mono B.size); try replace p1 := p1.below za
    try replace rc := rc.below za
    go_wp2; go_roundw
    case rel => exact ⟨(p + q) / 2 + 1, q, by omega, h2, h3, by first | rfl | (rw [show ((p : Int) + (q : Int)) / 2 + 1 = (((p + q) / 2 + 1 : Nat) : Int) by omega]), rfl, B, p1⟩
    case measure => simp [intOf]; omega
   ·rw [decide_eq_false hcut] at hl
    go_wp2; refine qH (by kernel_rfl) (by kernel_rfl) ?_; repeat (first | go_big_quiet_skip | (go_big_quiet_want; first | (refine zo (t := 125) rfl _ _ _ rfl (fun w hw => yX (vn rc w hw) hm he) (by first | rfl | omega) ?_; simp only [zn]; go_big_quiet_on) | (refine zo (t := 95) rfl _ _ _ rfl (fun w hw => zy (zD p1 w hw) Tryz.isAgg95 (by kernel_rfl)) (by rfl) ?_; simp only [zn]; go_big_quiet_on) | (go_big_quiet_op; first | go_big_quiet_on | go_big_quiet_call ((first | (go_at_call 165; exact zX (ZF e x y _)))))))
    refine wpQuiet_nil ?_; intro wn za; have zf := B.size; have zg := za.size; replace B := B.trans (za.mono B.size); try replace p1 := p1.below za
    try replace rc := rc.below za
    go_wp2; go_roundw
    case rel => exact ⟨p, (p + q) / 2, h1, by omega, by omega, rfl, by first | rfl | (rw [show ((p : Int) + (q : Int)) / 2 = (((p + q) / 2 : Nat) : Int) by omega]), B, p1⟩
    case measure => simp [intOf]; omega
  ·obtain rfl : p = cutL ls x y := by omega
   obtain rfl : q = cutL ls x y := by omega
   by_cases hin : cutL ls x y < ls.length
   ·obtain ⟨g, o, rfl, rc0⟩ := HS.out.at (by omega)
    have hg0 := rc0.lt; have rc := rc0.of_eq (B.block _ rc0.lt); clear rc0; obtain ⟨e, he⟩ : ∃ e, aT ls (cutL ls x y) = e := ⟨_, rfl⟩; have hh : yC ls x y = yH e.x e.y x y := by unfold yC; rw [decide_eq_true hin, he]; rfl
    have d1 : decide ((cutL ls x y : Int) < (ls.length : Int)) = true := decide_eq_true (by omega); have d2 : decide (cutL ls x y < ls.length) = true := decide_eq_true hin; have ho := zdv e.x e.y x y; cases hq : yH e.x e.y x y with
    | true =>
     rw [hq] at ho; have ho2 : (Qi e.x e.y x y == 0) = true := ho; rw [hq] at hh; have HH := Lib.hid hh; clear hh; go_wp2; refine qH (by kernel_rfl) (by kernel_rfl) ?_; repeat (first | go_big_quiet_skip | (go_big_quiet_want; first | (refine zo (t := 125) rfl _ _ _ rfl (fun w hw => yX (vn rc w hw) hin he) (by first | rfl | omega) ?_; simp only [zn]; go_big_quiet_on) | (refine zo (t := 95) rfl _ _ _ rfl (fun w hw => zy (zD p1 w hw) Tryz.isAgg95 (by kernel_rfl)) (by rfl) ?_; simp only [zn]; go_big_quiet_on) | (go_big_quiet_op; first | go_big_quiet_on | go_big_quiet_call ((first | (go_at_call 165; exact zX (ZF e x y _)))))))
     refine wpQuiet_nil ?_; intro wn za; have zf := B.size; have zg := za.size; replace B := B.trans (za.mono B.size); try replace p1 := p1.below za
     try replace rc := rc.below za
     go_wp2; go_ret2
     exact ⟨by rw [← FIN.out, HH.out]; try rfl, B⟩
    | false =>
     rw [hq] at ho; have ho2 : (Qi e.x e.y x y == 0) = false := ho; rw [hq] at hh; have HH := Lib.hid hh; clear hh; go_wp2; refine qH (by kernel_rfl) (by kernel_rfl) ?_; repeat (first | go_big_quiet_skip | (go_big_quiet_want; first | (refine zo (t := 125) rfl _ _ _ rfl (fun w hw => yX (vn rc w hw) hin he) (by first | rfl | omega) ?_; simp only [zn]; go_big_quiet_on) | (refine zo (t := 95) rfl _ _ _ rfl (fun w hw => zy (zD p1 w hw) Tryz.isAgg95 (by kernel_rfl)) (by rfl) ?_; simp only [zn]; go_big_quiet_on) | (go_big_quiet_op; first | go_big_quiet_on | go_big_quiet_call ((first | (go_at_call 165; exact zX (ZF e x y _)))))))
     refine wpQuiet_nil ?_; intro wn za; have zf := B.size; have zg := za.size; replace B := B.trans (za.mono B.size); try replace p1 := p1.below za
     go_wp2; go_ret2
     exact ⟨by rw [← FIN.out, HH.out]; try rfl, B⟩
   ·have hh : yC ls x y = false := by unfold yC; rw [decide_eq_false hin]; rfl
    have d1 : decide ((cutL ls x y : Int) < (ls.length : Int)) = false := decide_eq_false (by omega); have d2 : decide (cutL ls x y < ls.length) = false := decide_eq_false hin; have HH := Lib.hid hh; clear hh; go_wp2; refine qH (by kernel_rfl) (by kernel_rfl) ?_; repeat (first | go_big_quiet_skip | (go_big_quiet_want; first | (refine zo (t := 95) rfl _ _ _ rfl (fun w hw => zy (zD p1 w hw) Tryz.isAgg95 (by kernel_rfl)) (by rfl) ?_; simp only [zn]; go_big_quiet_on) | (go_big_quiet_op; first | go_big_quiet_on | go_big_quiet_call ((fail)))))
    refine wpQuiet_nil ?_; intro wn za; have zf := B.size; have zg := za.size; replace B := B.trans (za.mono B.size); go_wp2; go_ret2
    exact ⟨by rw [← FIN.out, HH.out]; try rfl, B⟩
theorem wV (v : Value) (ls : List TA) (x y : Int) (w : World) (h : RS v ls w) (hs : ZW ls) (hn : ls.length ≤ 1000000) : Calls Tryz.prog 130 #[v, .agg #[.int .i64 x, .int .i64 y]] w fun e w' => e = .returned (.tuple #[.int .i64 (cutL ls x y : Int), .bool (yC ls x y)]) ∧ Below w.heap.size w w' := by
 have B := Below.refl w.heap.size w
 have HS := Lib.hid h
 have SR := Lib.hid hs
 clear h hs
 go_enter Tryz.func130, Tryz.ntmps130
 go_wp2_with (first | (go_at_call 164; refine (zaR _ ls x y _ (HS.out.below B) SR.out hn).mono ?_; rintro e wn ⟨rfl, za⟩; have zf := B.size; have zg := za.size; replace B := B.trans (za.mono B.size); (try replace p1 := p1.below za)) | (refine zq (t := 95) rfl _ rfl _ _ _ rfl (zy p1 Tryz.isAgg95 (by kernel_rfl)) (by rfl) ?_; simp only [zn]) | (refine zt (t := 95) rfl _ rfl _ rfl (zV B ?_); clear B; intro b_p1 wn zb zd p1 za zf zk B; (try have zh := p1.lt); (try replace p1 := p1.below (za.mono zb)); simp only [zn]) | fail)
 go_ret2
 exact ⟨rfl, B⟩
/- Contracts of tiles, with, made, Put, Set, Get of package raster. -/
theorem xo.chg {B b : Nat} {v : Value} {ls : List TA} {w w' : World} (h : xo B v ls w) (hc : qN b w w') (hb : b < B) : xo B v ls w' := by
 refine World.ownsRow.kept (row := some b) h ⟨hc.os, hc.tape, hc.output, hc.size, fun k hk hne => hc.block k hk (fun e => hne (by rw [e]))⟩ ?_
 cases hv : v.ownBlock with
 | none => exact .inl rfl
 | some k =>
  right
  intro e
  injection e with e
  have := World.ownsRow.lt h k hv; omega
theorem zdF {g o : Nat} {ls : List TA} {w : World} (sc : 0 < ls.length → qm g o ls w) {k : Nat} (hk : k ≤ ls.length) : RS (.slice (some ⟨g, o, none⟩) k k) (ls.take k) w := by
 have hl : (ls.take k).length = k := by rw [List.length_take]; omega
 refine .inr ⟨g, o, k, by rw [hl], by omega, fun h => (sc (by omega)).take k⟩
theorem VP {g o c : Nat} {ls : List TA} {w : World} (sc : 0 < ls.length → qm g o ls w) (hc : ls.length ≤ c) {k : Nat} (hk : k ≤ ls.length) : RS (.slice (if c = k then some ⟨g, o, none⟩ else some ⟨g, o + k * 258, none⟩) (ls.length - k) (c - k)) (ls.drop k) w := by
 have hl : (ls.drop k).length = ls.length - k := List.length_drop ..
 by_cases e : c = k
 ·rw [if_pos e]
  exact .inr ⟨g, o, c - k, by rw [hl], by omega, fun h => absurd h (by omega)⟩
 ·rw [if_neg e]
  exact .inr ⟨g, o + k * 258, c - k, by rw [hl], by omega, fun h => (sc (by omega)).drop k⟩
theorem jp (w : World) (o : Oper) (ho : o.op = .alloc 64) (ev : Operand → Value) : (execOp ev o).run Tryz.prog w = .ok (.value (.pointer (some ⟨w.heap.size, 0, none⟩))) (w.alloc (.cells #[.slice none 0 0] 64)) := by
 obtain ⟨d, p, t, ps, af, gd⟩ := o
 simp only at ho
 subst ho
 kernel_rfl
/-- A row of tiles is no small block. -/
theorem RS.chg {v : Value} {ls : List TA} {t : TypeId} {b : Nat} {cs : Array Value} {w w' : World} (h : RS v ls w) (hb : zF t w b cs) (hs : cs.size < 258) (hc : qN b w w') : RS v ls w' := by
 rcases h with h | ⟨g, o, c, e, hcap, sc⟩
 ·exact .inl h
 ·refine .inr ⟨g, o, c, e, hcap, fun hn => (sc hn).of_eq (hc.block g (sc hn).lt fun hg => ?_)⟩
  subst hg; have h1 := (sc hn).2 0 hn 257 (by omega); rw [cell_of_row w g _ cs _ (0, 0) hb] at h1; have h2 : (xL (aT ls 0))[257]? ≠ none := by
   rw [Ne, Array.getElem?_eq_none_iff, qc]; omega
  rw [← h1, Ne, Array.getElem?_eq_none_iff] at h2; omega
theorem qO {o : Oper} {a : Act} {w : World} {Q : Exit → Act → World → Prop} {K : Act → World → Prop} {t : TypeId} {cs : Array Value} (x y : Operand) (b : Nat) (cs' : Array Value) (ho : o.op = .store t x y) (hx : a.eval x = .pointer (some ⟨b, 0, none⟩)) (hy : a.eval y = .agg cs') (ht : zF t w b cs) (zf : (Tryz.prog.info? t).map (·.size) = some cs'.size) (hss : cs'.size = cs.size) (hone : cs'.all (·.oneCell') = true)
  (h : ∀ w', zF t w' b cs' → qN b w w' → w'.heap.size = w.heap.size → K (a.put o.dst undef) w') : o.wp Tryz.prog a w K Q := by
 unfold Oper.wp execOp
 simp only [ho, hx, hy, Zr ht zf hss hone, Sem.run_bind, Sem.run_pure, Result.andThen_ok]
 exact h _ (ht.setRow cs') ((qN.refl b w).setRow _) (size_setRow _ _ _)
/-! ### tiles -/
theorem XB (a : Option Addr) (c : Nat) (ls : List TA) (w : World) (h : RS (.slice a ls.length c) ls w) (tk : jc ls) (hn : ls.length ≤ maxLen) : Calls Tryz.prog 104 #[.agg #[.slice a ls.length c]] w fun e w' => e = .returned (if qq ls = true then .slice a ls.length c else .slice none 0 0) ∧ Below w.heap.size w w' := by
 have B := Below.refl w.heap.size w
 have HS := Lib.hid h
 clear h
 cases hv : qq ls with
 | true =>
  rw [if_pos rfl]; go_enter Tryz.func104, Tryz.ntmps104
  go_wp2_with (first | (go_at_call 41; refine (Jt _ ls _ (HS.out.below B) tk hn).mono ?_; rintro e wn ⟨rfl, za⟩; have zf := B.size; have zg := za.size; replace B := B.trans (za.mono B.size); (try replace r1 := r1.below za)) | (refine zq (t := 64) rfl _ rfl _ _ _ rfl (zy r1 Tryz.isAgg64 (by kernel_rfl)) (by rfl) ?_; simp only [zn]) | (refine zq (t := 62) rfl _ rfl _ _ _ rfl (qj r1.cell0) (by rfl) ?_; simp only [zn]) | (refine zt (t := 64) rfl _ rfl _ rfl (zV B ?_); clear B; intro b_r1 wn zb zd r1 za zf zk B; (try have zh := r1.lt); (try replace r1 := r1.below (za.mono zb)); simp only [zn]) | fail)
  go_ret; exact ⟨rfl, B⟩
 | false =>
  rw [if_neg (by decide)]; go_enter Tryz.func104, Tryz.ntmps104
  go_wp2_with (first | (go_at_call 41; refine (Jt _ ls _ (HS.out.below B) tk hn).mono ?_; rintro e wn ⟨rfl, za⟩; have zf := B.size; have zg := za.size; replace B := B.trans (za.mono B.size); (try replace r1 := r1.below za)) | (refine zq (t := 64) rfl _ rfl _ _ _ rfl (zy r1 Tryz.isAgg64 (by kernel_rfl)) (by rfl) ?_; simp only [zn]) | (refine zq (t := 62) rfl _ rfl _ _ _ rfl (qj r1.cell0) (by rfl) ?_; simp only [zn]) | (refine zt (t := 64) rfl _ rfl _ rfl (zV B ?_); clear B; intro b_r1 wn zb zd r1 za zf zk B; (try have zh := r1.lt); (try replace r1 := r1.below (za.mono zb)); simp only [zn]) | fail)
  go_ret; exact ⟨rfl, B⟩
/-- The tiles of a valid raster: a slice that is known ahead of the walk. -/
theorem K9 (v : Value) (ls : List TA) (w : World) (h : RS v ls w) (tk : jc ls) (hn : ls.length ≤ maxLen) : ∃ a c, ∀ w', Below w.heap.size w w' → (Calls Tryz.prog 104 #[.agg #[v]] w' fun e w'' => e = .returned (.slice a (qX ls).length c) ∧ Below w'.heap.size w' w'') ∧ RS (.slice a (qX ls).length c) (qX ls) w' := by
 obtain ⟨a, c, rfl, hc⟩ := h.len
 cases hv : qq ls with
 | true =>
  rw [yT hv]; refine ⟨a, c, fun w' hb => ⟨?_, h.below hb⟩⟩; have := XB a c ls w' (h.below hb) tk hn; rw [hv, if_pos rfl] at this; exact this
 | false =>
  rw [XP hv]; refine ⟨none, 0, fun w' hb => ⟨?_, RS.nil _⟩⟩; have := XB a c ls w' (h.below hb) tk hn; rw [hv, if_neg (by decide)] at this; exact this
/-! ### with -/
theorem xN (v : Value) (ls : List TA) (w : World) (h : RS v ls w) (hn : ls.length ≤ 4000) : Calls Tryz.prog 78 #[v] w fun e w' => ∃ v' b, e = .returned v' ∧ w.heap.size ≤ b ∧ b ≤ w.heap.size ∧ xo b v' ls w' ∧ Below w.heap.size w w' :=
 (zcx v ls w h hn).mono fun e w' ⟨v', he, ho, hb⟩ => ⟨v', _, he, Nat.le_refl _, Nat.le_refl _, ho, hb⟩
set_option maxHeartbeats 1000000 in
theorem Jw (v : Value) (ls : List TA) (x y : Int) (t : Nat → Px) (w : World) (h : RS v ls w) (hs : ZW ls) (ht : YR t) (hn : ls.length ≤ 4000) : Calls Tryz.prog 132 #[v, .agg #[.int .i64 x, .int .i64 y], Tile.v t] w fun e w' => ∃ v', e = .returned v' ∧ RS v' (yK ls x y t) w' ∧ Below w.heap.size w w' := by
 have B := Below.refl w.heap.size w
 have HS := Lib.hid h
 have SR := Lib.hid hs
 have hcl := un ls x y
 rcases h with ⟨rfl, rfl⟩ | ⟨g, o, c, rfl, hc, sc⟩
 ·have hcut : cutL ([] : List TA) x y = 0 := rfl
  have hhit : yC ([] : List TA) x y = false := rfl; have hp := kF ([] : List TA) x y t; rw [hhit, hcut] at hp; have HP := Lib.hid hp; clear hp hs hcl hn; cases hz : jE t with
  | true =>
   have HN := Lib.hid (show jd x y t = [] from by unfold jd; rw [hz]; rfl)
   go_enter Tryz.func132, Tryz.ntmps132
   go_wp2_with (first | (at_builtin; refine qK rfl _ _ rfl _ _ rfl rfl od ((RS.nil _)) (by simp) (by omega) ?_; intro v_od wn ht za; have zf := B.size; have zg := za.size; replace B := B.trans (za.mono (by omega)); clear od; (try replace p1 := p1.of_eq (za.block _ (by omega))); (try replace u1 := u1.of_eq (za.block _ (by omega))); have od := ht; clear ht; simp only [zn]) | (go_at_call 78; have qp := p1.lt; have qu := u1.lt; refine (xN _ ([]) _ (RS.nil _) (by first | (rw [List.length_take]; omega) | simp)).mono ?_; rintro e wn ⟨v_od, b_od, rfl, zb, zd, od, za⟩; have zf := B.size; have zg := za.size; replace B := B.trans (za.mono B.size); (try replace p1 := p1.below za); (try replace u1 := u1.below za); (try replace od := od.below za)) | (go_at_call 130; refine (wV _ [] x y _ (HS.out.below B) SR.out (by first | omega | simp)).mono ?_; rintro e wn ⟨rfl, za⟩; have zf := B.size; have zg := za.size; replace B := B.trans (za.mono B.size); (try replace p1 := p1.below za); (try replace u1 := u1.below za); (try replace od := od.below za)) | (go_at_call 100; refine (xO _ _ ht).mono ?_; rintro e wn ⟨rfl, za⟩; have zf := B.size; have zg := za.size; replace B := B.trans (za.mono B.size); (try replace p1 := p1.below za); (try replace u1 := u1.below za); (try replace od := od.below za)) | (refine jn rfl _ rfl _ rfl u1 ?_; simp only [zn]) | (refine zq (t := 95) rfl _ rfl _ _ _ rfl (zy p1 Tryz.isAgg95 (by kernel_rfl)) (by rfl) ?_; simp only [zn]) | (have _ := p1; refine xt rfl _ rfl _ rfl (zV B ?_); clear B; intro b_u1 wn zb zd u1 za zf zk B; (try have zh := p1.lt); (try replace p1 := p1.below (za.mono zb)); (try have zh := u1.lt); (try replace u1 := u1.below (za.mono zb)); (try have zh := od.lt); (try replace od := od.below (za.mono zb)); simp only [zn]) | (refine zt (t := 95) rfl _ rfl _ rfl (zV B ?_); clear B; intro b_p1 wn zb zd p1 za zf zk B; (try have zh := p1.lt); (try replace p1 := p1.below (za.mono zb)); (try have zh := u1.lt); (try replace u1 := u1.below (za.mono zb)); (try have zh := od.lt); (try replace od := od.below (za.mono zb)); simp only [zn]) | fail)
   go_ret; refine ⟨_, rfl, ?_, B⟩; have e := od.rs; rw [HP.out, HN.out]
   simpa using e
  | false =>
   have HN := Lib.hid (show jd x y t = [⟨x, y, t⟩] from by unfold jd; rw [hz]; rfl)
   go_enter Tryz.func132, Tryz.ntmps132
   go_wp2_with (first | (at_builtin; refine qK rfl _ _ rfl _ _ rfl rfl od ((RS.nil _)) (by simp) (by omega) ?_; intro v_od wn ht za; have zf := B.size; have zg := za.size; replace B := B.trans (za.mono (by omega)); clear od; (try replace p1 := p1.of_eq (za.block _ (by omega))); (try replace u1 := u1.of_eq (za.block _ (by omega))); have od := ht; clear ht; simp only [zn]) | (at_builtin; refine qK rfl _ _ rfl _ _ rfl rfl od ((RS.one s1)) (by simp) (by omega) ?_; intro v_od wn ht za; have zf := B.size; have zg := za.size; replace B := B.trans (za.mono (by omega)); clear od; (try replace p1 := p1.of_eq (za.block _ (by omega))); (try replace u1 := u1.of_eq (za.block _ (by omega))); have od := ht; clear ht; simp only [zn]) | (refine xI rfl _ rfl ⟨x, y, t⟩ (by rfl) (zV B ?_); clear B; intro b_s1 wn zb zd s1 za zf zk B; (try have zh := p1.lt); (try replace p1 := p1.below (za.mono zb)); (try have zh := u1.lt); (try replace u1 := u1.below (za.mono zb)); (try have zh := od.lt); (try replace od := od.below (za.mono zb)); simp only [zn]) | (refine y7 rfl _ _ rfl x y t (by rfl) (by rfl) ?_; simp only [zn]) | (go_at_call 78; have qp := p1.lt; have qu := u1.lt; refine (xN _ ([]) _ (RS.nil _) (by first | (rw [List.length_take]; omega) | simp)).mono ?_; rintro e wn ⟨v_od, b_od, rfl, zb, zd, od, za⟩; have zf := B.size; have zg := za.size; replace B := B.trans (za.mono B.size); (try replace p1 := p1.below za); (try replace u1 := u1.below za); (try replace od := od.below za)) | (go_at_call 130; refine (wV _ [] x y _ (HS.out.below B) SR.out (by first | omega | simp)).mono ?_; rintro e wn ⟨rfl, za⟩; have zf := B.size; have zg := za.size; replace B := B.trans (za.mono B.size); (try replace p1 := p1.below za); (try replace u1 := u1.below za); (try replace od := od.below za)) | (go_at_call 100; refine (xO _ _ ht).mono ?_; rintro e wn ⟨rfl, za⟩; have zf := B.size; have zg := za.size; replace B := B.trans (za.mono B.size); (try replace p1 := p1.below za); (try replace u1 := u1.below za); (try replace od := od.below za)) | (refine jn rfl _ rfl _ rfl u1 ?_; simp only [zn]) | (refine zq (t := 95) rfl _ rfl _ _ _ rfl (zy p1 Tryz.isAgg95 (by kernel_rfl)) (by rfl) ?_; simp only [zn]) | (have _ := p1; refine xt rfl _ rfl _ rfl (zV B ?_); clear B; intro b_u1 wn zb zd u1 za zf zk B; (try have zh := p1.lt); (try replace p1 := p1.below (za.mono zb)); (try have zh := u1.lt); (try replace u1 := u1.below (za.mono zb)); (try have zh := od.lt); (try replace od := od.below (za.mono zb)); simp only [zn]) | (refine zt (t := 95) rfl _ rfl _ rfl (zV B ?_); clear B; intro b_p1 wn zb zd p1 za zf zk B; (try have zh := p1.lt); (try replace p1 := p1.below (za.mono zb)); (try have zh := u1.lt); (try replace u1 := u1.below (za.mono zb)); (try have zh := od.lt); (try replace od := od.below (za.mono zb)); simp only [zn]) | fail)
   go_ret; refine ⟨_, rfl, ?_, B⟩; have e := od.rs; rw [HP.out, HN.out]
   simpa using e
 ·have h : RS (.slice (some ⟨g, o, none⟩) ls.length c) ls w := .inr ⟨g, o, c, rfl, hc, sc⟩
  have HT := Lib.hid (zdF sc hcl); have HC := Lib.hid (kF ls x y t); have ze : cutL ls x y ≤ c := by omega
  cases hh : yC ls x y with
  | true =>
   have hk : cutL ls x y + 1 ≤ ls.length := by
    first
     | exact hcl
     | (unfold yC at hh; have := of_decide_eq_true (Bool.and_eq_true_iff.1 hh).1; omega)
   have HR := Lib.hid (VP sc hc hk); cases hz : jE t with
   | true =>
    have HN := Lib.hid (show jd x y t = [] from by unfold jd; rw [hz]; rfl)
    have HH := Lib.hid hh; clear hs sc h; go_enter Tryz.func132, Tryz.ntmps132
    go_wp2_with (first | (at_builtin; refine qK rfl _ _ rfl _ _ rfl rfl od ((HR.out.below B)) (by simp; omega) (by omega) ?_; intro v_od wn ht za; have zf := B.size; have zg := za.size; replace B := B.trans (za.mono (by omega)); clear od; (try replace p1 := p1.of_eq (za.block _ (by omega))); (try replace u1 := u1.of_eq (za.block _ (by omega))); have od := ht; clear ht; simp only [zn]) | (go_at_call 78; have qp := p1.lt; have qu := u1.lt; refine (xN _ (ls.take (cutL ls x y)) _ (HT.out.below B) (by first | (rw [List.length_take]; omega) | simp)).mono ?_; rintro e wn ⟨v_od, b_od, rfl, zb, zd, od, za⟩; have zf := B.size; have zg := za.size; replace B := B.trans (za.mono B.size); (try replace p1 := p1.below za); (try replace u1 := u1.below za); (try replace od := od.below za)) | (go_at_call 130; refine (wV _ ls x y _ (HS.out.below B) SR.out (by first | omega | simp)).mono ?_; rintro e wn ⟨rfl, za⟩; have zf := B.size; have zg := za.size; replace B := B.trans (za.mono B.size); (try replace p1 := p1.below za); (try replace u1 := u1.below za); (try replace od := od.below za)) | (go_at_call 100; refine (xO _ _ ht).mono ?_; rintro e wn ⟨rfl, za⟩; have zf := B.size; have zg := za.size; replace B := B.trans (za.mono B.size); (try replace p1 := p1.below za); (try replace u1 := u1.below za); (try replace od := od.below za)) | (refine jn rfl _ rfl _ rfl u1 ?_; simp only [zn]) | (refine zq (t := 95) rfl _ rfl _ _ _ rfl (zy p1 Tryz.isAgg95 (by kernel_rfl)) (by rfl) ?_; simp only [zn]) | (have _ := p1; refine xt rfl _ rfl _ rfl (zV B ?_); clear B; intro b_u1 wn zb zd u1 za zf zk B; (try have zh := p1.lt); (try replace p1 := p1.below (za.mono zb)); (try have zh := u1.lt); (try replace u1 := u1.below (za.mono zb)); (try have zh := od.lt); (try replace od := od.below (za.mono zb)); simp only [zn]) | (refine zt (t := 95) rfl _ rfl _ rfl (zV B ?_); clear B; intro b_p1 wn zb zd p1 za zf zk B; (try have zh := p1.lt); (try replace p1 := p1.below (za.mono zb)); (try have zh := u1.lt); (try replace u1 := u1.below (za.mono zb)); (try have zh := od.lt); (try replace od := od.below (za.mono zb)); simp only [zn]) | fail)
    all_goals
     go_ret; refine ⟨_, rfl, ?_, B⟩; have e := od.rs; rw [HC.out, HN.out, HH.out]
     simpa using e
   | false =>
    have HN := Lib.hid (show jd x y t = [⟨x, y, t⟩] from by unfold jd; rw [hz]; rfl)
    have HH := Lib.hid hh; clear hs sc h; go_enter Tryz.func132, Tryz.ntmps132
    go_wp2_with (first | (at_builtin; refine qK rfl _ _ rfl _ _ rfl rfl od ((HR.out.below B)) (by simp; omega) (by omega) ?_; intro v_od wn ht za; have zf := B.size; have zg := za.size; replace B := B.trans (za.mono (by omega)); clear od; (try replace p1 := p1.of_eq (za.block _ (by omega))); (try replace u1 := u1.of_eq (za.block _ (by omega))); have od := ht; clear ht; simp only [zn]) | (at_builtin; refine qK rfl _ _ rfl _ _ rfl rfl od ((RS.one s1)) (by simp; omega) (by omega) ?_; intro v_od wn ht za; have zf := B.size; have zg := za.size; replace B := B.trans (za.mono (by omega)); clear od; (try replace p1 := p1.of_eq (za.block _ (by omega))); (try replace u1 := u1.of_eq (za.block _ (by omega))); have od := ht; clear ht; simp only [zn]) | (refine xI rfl _ rfl ⟨x, y, t⟩ (by rfl) (zV B ?_); clear B; intro b_s1 wn zb zd s1 za zf zk B; (try have zh := p1.lt); (try replace p1 := p1.below (za.mono zb)); (try have zh := u1.lt); (try replace u1 := u1.below (za.mono zb)); (try have zh := od.lt); (try replace od := od.below (za.mono zb)); simp only [zn]) | (refine y7 rfl _ _ rfl x y t (by rfl) (by rfl) ?_; simp only [zn]) | (go_at_call 78; have qp := p1.lt; have qu := u1.lt; refine (xN _ (ls.take (cutL ls x y)) _ (HT.out.below B) (by first | (rw [List.length_take]; omega) | simp)).mono ?_; rintro e wn ⟨v_od, b_od, rfl, zb, zd, od, za⟩; have zf := B.size; have zg := za.size; replace B := B.trans (za.mono B.size); (try replace p1 := p1.below za); (try replace u1 := u1.below za); (try replace od := od.below za)) | (go_at_call 130; refine (wV _ ls x y _ (HS.out.below B) SR.out (by first | omega | simp)).mono ?_; rintro e wn ⟨rfl, za⟩; have zf := B.size; have zg := za.size; replace B := B.trans (za.mono B.size); (try replace p1 := p1.below za); (try replace u1 := u1.below za); (try replace od := od.below za)) | (go_at_call 100; refine (xO _ _ ht).mono ?_; rintro e wn ⟨rfl, za⟩; have zf := B.size; have zg := za.size; replace B := B.trans (za.mono B.size); (try replace p1 := p1.below za); (try replace u1 := u1.below za); (try replace od := od.below za)) | (refine jn rfl _ rfl _ rfl u1 ?_; simp only [zn]) | (refine zq (t := 95) rfl _ rfl _ _ _ rfl (zy p1 Tryz.isAgg95 (by kernel_rfl)) (by rfl) ?_; simp only [zn]) | (have _ := p1; refine xt rfl _ rfl _ rfl (zV B ?_); clear B; intro b_u1 wn zb zd u1 za zf zk B; (try have zh := p1.lt); (try replace p1 := p1.below (za.mono zb)); (try have zh := u1.lt); (try replace u1 := u1.below (za.mono zb)); (try have zh := od.lt); (try replace od := od.below (za.mono zb)); simp only [zn]) | (refine zt (t := 95) rfl _ rfl _ rfl (zV B ?_); clear B; intro b_p1 wn zb zd p1 za zf zk B; (try have zh := p1.lt); (try replace p1 := p1.below (za.mono zb)); (try have zh := u1.lt); (try replace u1 := u1.below (za.mono zb)); (try have zh := od.lt); (try replace od := od.below (za.mono zb)); simp only [zn]) | fail)
    all_goals
     go_ret; refine ⟨_, rfl, ?_, B⟩; have e := od.rs; rw [HC.out, HN.out, HH.out]
     simpa using e
  | false =>
   have hk : cutL ls x y ≤ ls.length := by
    first
     | exact hcl
     | (unfold yC at hh; have := of_decide_eq_true (Bool.and_eq_true_iff.1 hh).1; omega)
   have HR := Lib.hid (VP sc hc hk); cases hz : jE t with
   | true =>
    have HN := Lib.hid (show jd x y t = [] from by unfold jd; rw [hz]; rfl)
    have HH := Lib.hid hh; clear hs sc h; go_enter Tryz.func132, Tryz.ntmps132
    go_wp2_with (first | (at_builtin; refine qK rfl _ _ rfl _ _ rfl rfl od ((HR.out.below B)) (by simp; omega) (by omega) ?_; intro v_od wn ht za; have zf := B.size; have zg := za.size; replace B := B.trans (za.mono (by omega)); clear od; (try replace p1 := p1.of_eq (za.block _ (by omega))); (try replace u1 := u1.of_eq (za.block _ (by omega))); have od := ht; clear ht; simp only [zn]) | (go_at_call 78; have qp := p1.lt; have qu := u1.lt; refine (xN _ (ls.take (cutL ls x y)) _ (HT.out.below B) (by first | (rw [List.length_take]; omega) | simp)).mono ?_; rintro e wn ⟨v_od, b_od, rfl, zb, zd, od, za⟩; have zf := B.size; have zg := za.size; replace B := B.trans (za.mono B.size); (try replace p1 := p1.below za); (try replace u1 := u1.below za); (try replace od := od.below za)) | (go_at_call 130; refine (wV _ ls x y _ (HS.out.below B) SR.out (by first | omega | simp)).mono ?_; rintro e wn ⟨rfl, za⟩; have zf := B.size; have zg := za.size; replace B := B.trans (za.mono B.size); (try replace p1 := p1.below za); (try replace u1 := u1.below za); (try replace od := od.below za)) | (go_at_call 100; refine (xO _ _ ht).mono ?_; rintro e wn ⟨rfl, za⟩; have zf := B.size; have zg := za.size; replace B := B.trans (za.mono B.size); (try replace p1 := p1.below za); (try replace u1 := u1.below za); (try replace od := od.below za)) | (refine jn rfl _ rfl _ rfl u1 ?_; simp only [zn]) | (refine zq (t := 95) rfl _ rfl _ _ _ rfl (zy p1 Tryz.isAgg95 (by kernel_rfl)) (by rfl) ?_; simp only [zn]) | (have _ := p1; refine xt rfl _ rfl _ rfl (zV B ?_); clear B; intro b_u1 wn zb zd u1 za zf zk B; (try have zh := p1.lt); (try replace p1 := p1.below (za.mono zb)); (try have zh := u1.lt); (try replace u1 := u1.below (za.mono zb)); (try have zh := od.lt); (try replace od := od.below (za.mono zb)); simp only [zn]) | (refine zt (t := 95) rfl _ rfl _ rfl (zV B ?_); clear B; intro b_p1 wn zb zd p1 za zf zk B; (try have zh := p1.lt); (try replace p1 := p1.below (za.mono zb)); (try have zh := u1.lt); (try replace u1 := u1.below (za.mono zb)); (try have zh := od.lt); (try replace od := od.below (za.mono zb)); simp only [zn]) | fail)
    all_goals
     go_ret; refine ⟨_, rfl, ?_, B⟩; have e := od.rs; rw [HC.out, HN.out, HH.out]
     simpa using e
   | false =>
    have HN := Lib.hid (show jd x y t = [⟨x, y, t⟩] from by unfold jd; rw [hz]; rfl)
    have HH := Lib.hid hh; clear hs sc h; go_enter Tryz.func132, Tryz.ntmps132
    go_wp2_with (first | (at_builtin; refine qK rfl _ _ rfl _ _ rfl rfl od ((HR.out.below B)) (by simp; omega) (by omega) ?_; intro v_od wn ht za; have zf := B.size; have zg := za.size; replace B := B.trans (za.mono (by omega)); clear od; (try replace p1 := p1.of_eq (za.block _ (by omega))); (try replace u1 := u1.of_eq (za.block _ (by omega))); have od := ht; clear ht; simp only [zn]) | (at_builtin; refine qK rfl _ _ rfl _ _ rfl rfl od ((RS.one s1)) (by simp; omega) (by omega) ?_; intro v_od wn ht za; have zf := B.size; have zg := za.size; replace B := B.trans (za.mono (by omega)); clear od; (try replace p1 := p1.of_eq (za.block _ (by omega))); (try replace u1 := u1.of_eq (za.block _ (by omega))); have od := ht; clear ht; simp only [zn]) | (refine xI rfl _ rfl ⟨x, y, t⟩ (by rfl) (zV B ?_); clear B; intro b_s1 wn zb zd s1 za zf zk B; (try have zh := p1.lt); (try replace p1 := p1.below (za.mono zb)); (try have zh := u1.lt); (try replace u1 := u1.below (za.mono zb)); (try have zh := od.lt); (try replace od := od.below (za.mono zb)); simp only [zn]) | (refine y7 rfl _ _ rfl x y t (by rfl) (by rfl) ?_; simp only [zn]) | (go_at_call 78; have qp := p1.lt; have qu := u1.lt; refine (xN _ (ls.take (cutL ls x y)) _ (HT.out.below B) (by first | (rw [List.length_take]; omega) | simp)).mono ?_; rintro e wn ⟨v_od, b_od, rfl, zb, zd, od, za⟩; have zf := B.size; have zg := za.size; replace B := B.trans (za.mono B.size); (try replace p1 := p1.below za); (try replace u1 := u1.below za); (try replace od := od.below za)) | (go_at_call 130; refine (wV _ ls x y _ (HS.out.below B) SR.out (by first | omega | simp)).mono ?_; rintro e wn ⟨rfl, za⟩; have zf := B.size; have zg := za.size; replace B := B.trans (za.mono B.size); (try replace p1 := p1.below za); (try replace u1 := u1.below za); (try replace od := od.below za)) | (go_at_call 100; refine (xO _ _ ht).mono ?_; rintro e wn ⟨rfl, za⟩; have zf := B.size; have zg := za.size; replace B := B.trans (za.mono B.size); (try replace p1 := p1.below za); (try replace u1 := u1.below za); (try replace od := od.below za)) | (refine jn rfl _ rfl _ rfl u1 ?_; simp only [zn]) | (refine zq (t := 95) rfl _ rfl _ _ _ rfl (zy p1 Tryz.isAgg95 (by kernel_rfl)) (by rfl) ?_; simp only [zn]) | (have _ := p1; refine xt rfl _ rfl _ rfl (zV B ?_); clear B; intro b_u1 wn zb zd u1 za zf zk B; (try have zh := p1.lt); (try replace p1 := p1.below (za.mono zb)); (try have zh := u1.lt); (try replace u1 := u1.below (za.mono zb)); (try have zh := od.lt); (try replace od := od.below (za.mono zb)); simp only [zn]) | (refine zt (t := 95) rfl _ rfl _ rfl (zV B ?_); clear B; intro b_p1 wn zb zd p1 za zf zk B; (try have zh := p1.lt); (try replace p1 := p1.below (za.mono zb)); (try have zh := u1.lt); (try replace u1 := u1.below (za.mono zb)); (try have zh := od.lt); (try replace od := od.below (za.mono zb)); simp only [zn]) | fail)
    all_goals
     go_ret; refine ⟨_, rfl, ?_, B⟩; have e := od.rs; rw [HC.out, HN.out, HH.out]
     simpa using e
/-! ### made -/
theorem zaL (a : Option Addr) (n c : Nat) (w : World) (hn : n ≤ maxLen) : Calls Tryz.prog 133 #[.slice a n c] w fun e w' => e = .returned (if n ≤ 1024 then .tuple #[.agg #[.slice a n c], .int .i64 0] else .tuple #[.agg #[.slice none 0 0], .int .i64 2]) ∧ Below w.heap.size w w' := by
 have B := Below.refl w.heap.size w
 by_cases h : n ≤ 1024
 ·rw [if_pos h]
  have d1 : decide (1024 < (n : Int)) = false := decide_eq_false (by omega); go_enter Tryz.func133, Tryz.ntmps133
  go_wp2_with (first | (refine zp (t := 64) rfl _ _ rfl _ rfl _ rfl r1 (by kernel_rfl) rfl (by simp [Value.oneCell']) (qt B (by omega) ?_); clear r1 B; intro wn r1 ze zf zg B; simp only [zn]) | (refine zr (t := 64) rfl _ (jp _ _ rfl) (zV B ?_); clear B; intro b_r1 wn zb zd r1 za zf zk B; (try have zh := r1.lt); (try replace r1 := r1.below (za.mono zb)); simp only [zn]) | fail)
  refine bodyPost_ret (zJ (t := 64) rfl _ _ (b_r1) rfl _ rfl r1 Tryz.isAgg64 (by kernel_rfl)) rfl ?_; exact ⟨rfl, B⟩
 ·rw [if_neg h]
  have d1 : decide (1024 < (n : Int)) = true := decide_eq_true (by omega); go_enter Tryz.func133, Tryz.ntmps133
  go_wp2_with (first | (refine zp (t := 64) rfl _ _ rfl _ rfl _ rfl r1 (by kernel_rfl) rfl (by simp [Value.oneCell']) (qt B (by omega) ?_); clear r1 B; intro wn r1 ze zf zg B; simp only [zn]) | (refine zr (t := 64) rfl _ (jp _ _ rfl) (zV B ?_); clear B; intro b_r1 wn zb zd r1 za zf zk B; (try have zh := r1.lt); (try replace r1 := r1.below (za.mono zb)); simp only [zn]) | fail)
  refine bodyPost_ret (zJ (t := 64) rfl _ _ (b_r1) rfl _ rfl r1 Tryz.isAgg64 (by kernel_rfl)) rfl ?_; exact ⟨rfl, B⟩
/-! ### Put -/
/- Contracts of Set and Get of package raster. -/
theorem Wq (ls : List TA) (x y : Int) : Kh (z7 ls (x / 8) (y / 8)) (x % 8) (y % 8) = xJ ls x y := by
 have : vJ (x % 8) (y % 8) = true := decide_eq_true (by omega)
 unfold Kh xJ posI
 rw [if_pos this]
theorem Jl {x : Int} (h1 : -9223372036854775808 ≤ x) (h2 : x ≤ 9223372036854775807) : (Lit.int .i64 x).wf = true := by
 have hmin : IntKind.i64.min = -9223372036854775808 := rfl
 have hmax : IntKind.i64.max = 9223372036854775807 := rfl
 simp only [Lit.wf, Bool.and_eq_true, decide_eq_true_eq]
 rw [hmin, hmax]
 exact ⟨h1, h2⟩
set_option maxHeartbeats 1000000 in
theorem zd9 (v : Value) (ls : List TA) (x y : Int) (w : World) (h : RS v ls w) (hn : ls.length ≤ maxLen) (hx : (Lit.int .i64 x).wf = true) (hy : (Lit.int .i64 y).wf = true) : Calls Tryz.prog 31 #[.agg #[v], .int .i64 x, .int .i64 y] w fun e w' => e = .returned (Px.v (xJ ls x y)) ∧ Below w.heap.size w w' := by
 have B := Below.refl w.heap.size w
 obtain ⟨a, c, rfl, hc⟩ := h.len
 have HS := Lib.hid h
 clear h
 rw [← Wq]
 have b1 := Q0 x
 have b2 := Q0 y
 go_enter Tryz.func31, Tryz.ntmps31
 go_wp2_with (first | (have _ := r1; refine qn rfl rfl (zV B ?_); clear B; intro b_q1 wn zb zd q1 za zf zk B; (try have zh := r1.lt); (try replace r1 := r1.below (za.mono zb)); (try have zh := q1.lt); (try replace q1 := q1.below (za.mono zb)); simp only [zn]) | (refine zt (t := 64) rfl _ rfl _ rfl (zV B ?_); clear B; intro b_r1 wn zb zd r1 za zf zk B; (try have zh := r1.lt); (try replace r1 := r1.below (za.mono zb)); (try have zh := q1.lt); (try replace q1 := q1.below (za.mono zb)); simp only [zn]) | fail)
 have rs := HS.out.below B
 refine jA 11 (by kernel_rfl) (by kernel_rfl) ?_
 simp only [List.take_succ_cons, List.take_zero, List.drop_succ_cons, List.drop_zero]
 repeat (first | go_big_quiet_skip | (go_big_quiet_want; first | (refine zo (t := 64) rfl _ _ _ rfl (fun w hw => zy (zD r1 w hw) Tryz.isAgg64 (by kernel_rfl)) (by rfl) ?_; simp only [zn]; go_big_quiet_on) | (go_big_quiet_op; first | go_big_quiet_on | go_big_quiet_call ((first | (go_at_call 81; exact zX (ze7 _ _ _ hx hy)) | (go_at_call 80; exact zX (zed _ ls _ _ _ (zfF rs _ ⟨_, rfl⟩) hn)) | (go_at_call 79; exact zX (ze8 _ _ _ _)))))))
 refine wpQuiet_nil ?_
 intro wn za
 have zf := B.size
 have zg := za.size
 replace B := B.trans (za.mono B.size)
 try replace q1 := q1.below za
 go_wp2_with (first | (refine qh rfl _ _ rfl _ rfl (_) rfl q1 (qt B (by omega) ?_); clear q1 B; intro wn q1 ze zf zg B; simp only [zn]) | fail)
 refine bodyPost_ret (jB rfl _ _ (b_q1) rfl q1) rfl ?_
 exact ⟨rfl, B⟩
/- Contracts of the reference's Of, many, put, Put, Set, Get. -/
/-! ### put -/
/- Contracts of the reference's Get, Put, Set; of equal, Equal. -/
section
variable {o : Oper} {a : Act} {w : World} {Q : Exit → Act → World → Prop} {K : Act → World → Prop}
theorem zR {t : TypeId} (cs : Array Value) (hrun : ∀ ev, (execOp ev o).run Tryz.prog w = .ok (.value (.pointer (some ⟨w.heap.size, 0, none⟩))) (w.alloc (.cells cs t)))
  (h : ∀ b w', w.heap.size ≤ b → b ≤ w.heap.size → zF t w' b cs → Below b w w' → w'.heap.size = b + 1 → K (a.put o.dst (.pointer (some ⟨b, 0, none⟩))) w') : o.wp Tryz.prog a w K Q := by
 unfold Oper.wp
 rw [hrun]
 exact h _ _ (Nat.le_refl _) (Nat.le_refl _) (by unfold zF; rw [zI, if_pos rfl]) ((Below.refl _ _).alloc (Nat.le_refl _) _) (World.size_alloc _ _)
end
/- '==' of tiles at a position; contracts of Equal of package raster and of its reference. -/
def eqA (a b : TA) : Bool := yH a.x a.y b.x b.y && uR a.t b.t
@[go_sem] theorem zfw (op : BinOp) (p q : Operand) (a b : TA) (w : World) : (eqGuard op 125 p q (.agg (xL a)) (.agg (xL b))).run Tryz.prog w = .ok () w := run_eqGuard_agg w op 125 p q _ _ (by kernel_rfl)
/-- Two lists of tiles are equal. -/
def eqL (ls ks : List TA) : Bool := decide (ls.length = ks.length) && decide (∀ i ∈ List.range ls.length, eqA (aT ls i) (aT ks i) = true)
/- Contract of mapped of package raster, for whatever function that turns at most one block. -/
/-- Below n, block c aside, what was there is as it was. -/
structure y9 (c n : Nat) (w w' : World) : Prop where
 os : w'.os = w.os
 tape : w'.tape = w.tape
 output : w'.output = w.output
 size : n ≤ w'.heap.size
 grow : w.heap.size ≤ w'.heap.size
 block : ∀ k, k < n → k ≠ c → w'.heap[k]? = w.heap[k]?
theorem y9.refl (c : Nat) (w : World) : y9 c w.heap.size w w := ⟨rfl, rfl, rfl, Nat.le_refl _, Nat.le_refl _, fun _ _ _ => rfl⟩
theorem y9.trans {c n : Nat} {w1 w2 w3 : World} (h : y9 c n w1 w2) (k : Below n w2 w3) : y9 c n w1 w3 :=
 ⟨k.os.trans h.os, k.tape.trans h.tape, k.output.trans h.output, Nat.le_trans h.size k.size, Nat.le_trans h.grow k.size, fun i hi hc => (k.block i hi).trans (h.block i hi hc)⟩
theorem y9.store {c n b : Nat} {w1 w2 w3 : World} (h : y9 c n w1 w2) (k : qN b w2 w3) (hb : n ≤ b) : y9 c n w1 w3 :=
 ⟨k.os.trans h.os, k.tape.trans h.tape, k.output.trans h.output, Nat.le_trans h.size k.size, Nat.le_trans h.grow k.size, fun i hi hc => (k.block i (Nat.lt_of_lt_of_le hi h.size) (by omega)).trans (h.block i hi hc)⟩
theorem y9.chg {c n : Nat} {w1 w2 w3 : World} (h : y9 c n w1 w2) (k : qN c w2 w3) : y9 c n w1 w3 :=
 ⟨k.os.trans h.os, k.tape.trans h.tape, k.output.trans h.output, Nat.le_trans h.size k.size, Nat.le_trans h.grow k.size, fun i hi hc => (k.block i (Nat.lt_of_lt_of_le hi h.size) hc).trans (h.block i hi hc)⟩
theorem y9.toChg {c : Nat} {w w' : World} (h : y9 c w.heap.size w w') : qN c w w' := ⟨h.os, h.tape, h.output, h.grow, h.block⟩
theorem zdH (x y : Int) (u : Nat → Px) (i : Nat) (p : Px) (hi : i < 64) : ((((xL ⟨x, y, u⟩).setIfInBounds (2 + i * 4) (.int .u8 p.r)).setIfInBounds (2 + i * 4 + 1) (.int .u8 p.g)).setIfInBounds (2 + i * 4 + 2) (.int .u8 p.b)).setIfInBounds (2 + i * 4 + 3) (.int .u8 p.a) = xL ⟨x, y, QC u i p⟩ := by
 apply Array.ext_getElem?
 intro k
 rw [ww, ← Jd u i p hi]
 by_cases h2 : k < 2
 ·rw [if_pos h2]
  rw [Array.getElem?_setIfInBounds, if_neg (by omega), Array.getElem?_setIfInBounds, if_neg (by omega), Array.getElem?_setIfInBounds, if_neg (by omega), Array.getElem?_setIfInBounds, if_neg (by omega), ww, if_pos h2]
 ·rw [if_neg h2]
  have hs : (xL ⟨x, y, u⟩).size = 258 := qc _; have ht : (qS u).size = 256 := ju _; simp only [Array.getElem?_setIfInBounds, Array.size_setIfInBounds, hs, ht, ww, if_neg h2]; have e : ∀ j, (2 + i * 4 + j = k) ↔ (i * 4 + j = k - 2) := fun j => by omega
  by_cases c3 : 2 + i * 4 + 3 = k
  ·rw [if_pos c3, if_pos ((e 3).1 c3), if_pos (by omega), if_pos (by omega)]
  ·rw [if_neg c3, if_neg (fun h => c3 ((e 3).2 h))]
   by_cases c2 : 2 + i * 4 + 2 = k
   ·rw [if_pos c2, if_pos ((e 2).1 c2), if_pos (by omega), if_pos (by omega)]
   ·rw [if_neg c2, if_neg (fun h => c2 ((e 2).2 h))]
    by_cases c1 : 2 + i * 4 + 1 = k
    ·rw [if_pos c1, if_pos ((e 1).1 c1), if_pos (by omega), if_pos (by omega)]
    ·rw [if_neg c1, if_neg (fun h => c1 ((e 1).2 h))]
     by_cases c0 : 2 + i * 4 = k
     ·rw [if_pos c0, if_pos (by omega), if_pos (by omega), if_pos (by omega)]
     ·rw [if_neg c0, if_neg (by omega)]
theorem QQ {w : World} {b i : Nat} {x y : Int} {u : Nat → Px} (h : zF 125 w b (xL ⟨x, y, u⟩)) (hi : i < 64) (p : Px) : (Instr.storeAt 28 (.pointer (some ⟨b, 2 + i * 4, none⟩)) (Px.v p)).run Tryz.prog w =
  .ok () ((((w.setCell ⟨b, 2 + i * 4, none⟩ (.int .u8 p.r)).setCell ⟨b, 2 + i * 4 + 1, none⟩ (.int .u8 p.g)).setCell ⟨b, 2 + i * 4 + 2, none⟩ (.int .u8 p.b)).setCell ⟨b, 2 + i * 4 + 3, none⟩ (.int .u8 p.a)) := by
 have hc : ∀ j, j < 4 → w.cell? ⟨b, 2 + i * 4 + j, none⟩ = (qS u)[i * 4 + j]? := fun j hj => by
  rw [(z2 h).1, ww, if_neg (by omega), show 2 + i * 4 + j - 2 = i * 4 + j by omega]
 have c0 := (hc 0 (by omega)).trans (xY u i 0 hi (by omega))
 have c1 := (hc 1 (by omega)).trans (xY u i 1 hi (by omega))
 have c2 := (hc 2 (by omega)).trans (xY u i 2 hi (by omega))
 have c3 := (hc 3 (by omega)).trans (xY u i 3 hi (by omega))
 have hf := fun j => h.frozen j
 rw [Nat.add_zero] at c0
 simp [go_sem, c0, c1, c2, c3, hf, Px.v]
theorem zF.set4 {w : World} {b i : Nat} {x y : Int} {u : Nat → Px} (h : zF 125 w b (xL ⟨x, y, u⟩)) (hi : i < 64) (p : Px) :
  zF 125 ((((w.setCell ⟨b, 2 + i * 4, none⟩ (.int .u8 p.r)).setCell ⟨b, 2 + i * 4 + 1, none⟩ (.int .u8 p.g)).setCell ⟨b, 2 + i * 4 + 2, none⟩ (.int .u8 p.b)).setCell ⟨b, 2 + i * 4 + 3, none⟩ (.int .u8 p.a)) b (xL ⟨x, y, QC u i p⟩) := by
 unfold zF
 rw [← zdH x y u i p hi]
 exact heap_setCell_same _ _ _ _ _ _ (heap_setCell_same _ _ _ _ _ _ (heap_setCell_same _ _ _ _ _ _ (heap_setCell_same _ _ _ _ _ _ h)))
theorem ZD {ops : Array Oper} {rest : List Oper} {o : Oper} {a : Act} {w : World} {Q : Exit → Act → World → Prop} (hg : o.guard = none) (x y : Operand) (ho : o.op = .store 28 x y) (b j : Nat) (hx : a.eval x = .pointer (some ⟨b, j, none⟩)) (q : Px) (hy : a.eval y = Px.v q) {px py : Int} {u : Nat → Px} (ht : zF 125 w b (xL ⟨px, py, u⟩)) (i : Nat) (hi : i < 64) (hj : j = 2 + i * 4)
  (h : ∀ w', zF 125 w' b (xL ⟨px, py, QC u i q⟩) → qN b w w' → w'.heap.size = w.heap.size → wpList Tryz.prog ops Q rest (a.put o.dst undef) w') : wpList Tryz.prog ops Q (o :: rest) a w := by
 subst hj
 refine qe hg x y ho _ ?_ (h _ (ht.set4 hi q) (((((qN.refl b w).setCell _).setCell _).setCell _).setCell _) (by simp only [World.size_setCell]))
 rw [hx, hy]
 exact QQ ht hi q
/-! ### mapped -/
/-- The first k pixels of a tile mapped: the state behind them, the tile. -/
def yy {σ : Type} (F : σ → Int → Int → Px → σ × Px) (e : TA) : Nat → σ → σ × (Nat → Px)
 | 0, s => (s, e.t)
 | k + 1, s => ((F (yy F e k s).1 (e.x * 8 + (k : Int) % 8) (e.y * 8 + (k : Int) / 8) (e.t k)).1, QC (yy F e k s).2 k (F (yy F e k s).1 (e.x * 8 + (k : Int) % 8) (e.y * 8 + (k : Int) / 8) (e.t k)).2)
/-- The first k tiles mapped: the state behind them, the tiles that are not transparent. -/
def yJ {σ : Type} (F : σ → Int → Int → Px → σ × Px) (ls : List TA) (s : σ) : Nat → σ × List TA
 | 0 => (s, [])
 | k + 1 => ((yy F (aT ls k) 64 (yJ F ls s k).1).1, (yJ F ls s k).2 ++ jd (aT ls k).x (aT ls k).y (yy F (aT ls k) 64 (yJ F ls s k).1).2)
theorem X0 {σ : Type} (F : σ → Int → Int → Px → σ × Px) (ls : List TA) (s : σ) (k : Nat) : (yJ F ls s k).2.length ≤ k := by
 induction k with
 | zero => exact Nat.le_refl _
 | succ k ih =>
  show ((yJ F ls s k).2 ++ jd _ _ _).length ≤ _
  rw [List.length_append]; have := Zk (aT ls k).x (aT ls k).y (yy F (aT ls k) 64 (yJ F ls s k).1).2; omega
theorem Yr {σ : Type} {F : σ → Int → Int → Px → σ × Px} (hF : ∀ s x y p, p.ok → (F s x y p).2.ok) {e : TA} (h : YR e.t) (s : σ) : ∀ k, k ≤ 64 → YR (yy F e k s).2
 | 0, _ => h
 | k + 1, hk => fun i hi => by
  show (QC _ k _ i).ok
  unfold QC; split
  ·exact hF _ _ _ _ (h k (by omega))
  ·exact Yr hF h s k (by omega) i hi
theorem xo.ownlt {B : Nat} {v : Value} {ls : List TA} {w : World} (h : xo B v ls w) : ∀ k, v.ownBlock = some k → k < w.heap.size := by
 intro k hk
 obtain ⟨_, h2⟩ := h
 rcases h2 with ⟨rfl, h0⟩ | ⟨g, cap, cur, rfl, hb, hg, _⟩
 ·cases hk
 ·have e : some g = some k := hk
  injection e with e
  subst e; exact (Array.getElem?_eq_some_iff.1 hg).1
theorem xo.chgN {B b : Nat} {v : Value} {ls : List TA} {w w' : World} (h : xo B v ls w) (hc : qN b w w') (hne : ∀ k, v.ownBlock = some k → k ≠ b) : xo B v ls w' := by
 refine World.ownsRow.kept (row := some b) h ⟨hc.os, hc.tape, hc.output, hc.size, fun k hk hn => hc.block k hk (fun e => hn (by rw [e]))⟩ ?_
 cases hv : v.ownBlock with
 | none => exact .inl rfl
 | some k =>
  right
  intro e
  injection e with e
  exact hne k hv e
set_option maxHeartbeats 4000000 in
theorem XA {σ : Type} (F : σ → Int → Int → Px → σ × Px) (I : σ → World → Prop) (cb gf : Nat) (lb : Array Value) (eg : Enters Tryz.prog gf) (v : Value) (ls : List TA) (s0 : σ) (w : World) (hs : RS v ls w) (tk : jc ls) (hn : ls.length ≤ 2000) (hpos : ∀ e ∈ ls, qP e.x e.y = true)
  (hcb : cb < w.heap.size) (hsep : 0 < ls.length → v.ownBlock ≠ some cb) (hI0 : I s0 w)
  (hIb : ∀ s W W', I s W → (∀ k, k < w.heap.size → W'.heap[k]? = W.heap[k]?) → I s W')
  (hF : ∀ (s : σ) (W : World) (x y : Int) (p : Px), w.heap.size ≤ W.heap.size → I s W → -65536 ≤ x → x ≤ 65535 → -65536 ≤ y → y ≤ 65535 → p.ok →
   Calls Tryz.prog gf (#[.int .i64 x, .int .i64 y, Px.v p] ++ lb) W fun e W' => e = .returned (Px.v (F s x y p).2) ∧ I (F s x y p).1 W' ∧ qN cb W W')
  (hok : ∀ s x y p, p.ok → (F s x y p).2.ok) :
  Calls Tryz.prog 126 #[v, .func (.func gf) #[] lb] w fun e w' => ∃ v', e = .returned v' ∧ xo w.heap.size v' (yJ F ls s0 ls.length).2 w' ∧ I (yJ F ls s0 ls.length).1 w' ∧ qN cb w w' := by
 have eg' : ∀ args w, (callFunc gf args).run Tryz.prog w = .ok (.enter gf args) w := eg
 obtain ⟨a, c, rfl, hc⟩ := hs.len
 have HS := Lib.hid hs
 have HK := Lib.hid tk
 have HP := Lib.hid hpos
 have HF := Lib.hid hF
 have HI := Lib.hid hIb
 have HO := Lib.hid hok
 have SEP := Lib.hid hsep
 have B := y9.refl cb w
 have od := xo.nil w.heap.size w
 have hI := hI0
 clear hs tk hpos hF hIb hok hI0 hsep
 go_enter Tryz.func126, Tryz.ntmps126
 go_wp2
 go_loopw [5, 7, 8, 9, 12] (fun out _ _ _ i wr => ∃ (k : Nat) (a5 : Option Addr) (n5 c5 : Nat), k ≤ ls.length ∧ i = .int .i64 k ∧ out = .slice a5 n5 c5 ∧ n5 = (yJ F ls s0 k).2.length ∧ y9 cb w.heap.size w wr ∧ xo w.heap.size (.slice a5 n5 c5) (yJ F ls s0 k).2 wr ∧ I (yJ F ls s0 k).1 wr) (fun _ _ _ _ i _ => (ls.length - intOf i).toNat)
 case atStart => exact ⟨0, none, 0, 0, by omega, rfl, rfl, rfl, B, od, hI⟩
 case round =>
  clear B od hI; obtain ⟨k, a5, n5, c5, hk, rfl, rfl, hn5, B, od, hI⟩ := hrel; have HN5 := Lib.hid hn5; clear hn5; have hml := X0 F ls s0 k; obtain ⟨⟨s, acc⟩, hsm⟩ : ∃ m, yJ F ls s0 k = m := ⟨_, rfl⟩; rw [hsm] at od hI hml; have HN5' := Lib.hid (show n5 = acc.length from by have := HN5.out; rw [hsm] at this; exact this)
  have HSM := Lib.hid hsm; clear hsm HN5; have od : xo w.heap.size (.slice a5 n5 c5) acc _ := od; have hI : I s _ := hI; have hml : acc.length ≤ k := hml; by_cases hkl : k < ls.length
  ·obtain ⟨gg, o, rfl, rc0⟩ := HS.out.at (by omega)
   have hg0 := rc0.lt; have hgc : gg ≠ cb := fun e => (SEP.out (by omega)) (by rw [e]; rfl)
   have rc := rc0.of_eq (B.block _ rc0.lt hgc); clear rc0; obtain ⟨⟨x, y, t⟩, he⟩ : ∃ e, aT ls k = e := ⟨_, rfl⟩; have htk : YR t := by have := HK.out.at hkl; rw [he] at this; exact this
   have hT := Lib.hid htk; have hw := HP.out _ (List.mem_iff_getElem?.2 ⟨k, ku hkl⟩); rw [he] at hw; have hw := of_decide_eq_true hw; obtain ⟨w1, w2, w3, w4⟩ := hw; have HOB := Lib.hid od.ownlt; have hsz0 := B.size; go_wp2_with (first | (refine zq (t := 123) rfl _ rfl _ _ _ rfl (jT t1) (by first | rfl | omega) ?_; simp only [zn]) | (refine zp (t := 125) rfl _ _ rfl _ rfl _ rfl t1 (by rw [qc]; kernel_rfl) (by simp only [qc, jM]) (yN _) ?_; clear t1; intro wn ht ze zg; have zf := B.size; replace zg := Nat.le_of_eq zg.symm; replace B := y9.store B ze (by omega); replace hI := HI.out _ _ _ hI (fun k hk => ze.block k (by omega) (by omega)); replace od := od.chgN ze (fun kk hkk => Nat.ne_of_lt (Nat.lt_of_lt_of_le (HOB.out kk hkk) (by omega))); (try replace q1 := q1.of_eq (ze.block _ q1.lt (by omega))); (try replace od := od.of_eq (ze.block _ od.lt (by omega))); have t1 := ht; clear ht; simp only [zn]) | (refine zr (t := 125) rfl _ (jm _ _ rfl) ?_; intro b_t1 wn zb zd ht za zg; have zf := B.size; replace B := B.trans (za.mono (by omega)); replace hI := HI.out _ _ _ hI (fun k hk => za.block k (by omega)); have zk := Nat.lt_of_lt_of_eq (Nat.lt_succ_self _) zg.symm; clear zg; (try have zh := t1.lt); (try replace t1 := t1.below (za.mono zb)); (try have zh := q1.lt); (try replace q1 := q1.below (za.mono zb)); (try have zh := od.lt); (try replace od := od.below (za.mono zb)); have t1 := ht; clear ht; simp only [zn]) | (refine zq (t := 125) rfl _ rfl _ _ _ rfl (yX rc hkl he) (by first | rfl | omega) ?_; simp only [zn]) | fail)
   have hb1 := zb; have hmul1 : (2 : Nat) ≤ 2 := Nat.le_refl _; go_loopw [8, 9, 18] (fun _ _ j wx => ∃ i : Nat, i ≤ 64 ∧ j = .int .i64 i ∧ y9 cb w.heap.size w wx ∧ b_t1 < wx.heap.size ∧ zF 125 wx b_t1 (xL ⟨x, y, (yy F ⟨x, y, t⟩ i s).2⟩) ∧ xo w.heap.size (.slice a5 n5 c5) acc wx ∧ I (yy F ⟨x, y, t⟩ i s).1 wx) (fun _ _ j _ => (64 - intOf j).toNat)
   case atStart => exact ⟨0, by omega, rfl, B, t1.lt, t1, od, hI⟩
   case round =>
    clear B t1 od hI; obtain ⟨i, hi, rfl, B, hbl, t1, od, hI⟩ := hrel; by_cases hil : i < 64
    ·have hix := Qd t i hil
     have hpk : (t i).ok := hT.out i hil; have d8 : (0 : Int) ≤ (i : Int) % 8 ∧ (i : Int) % 8 < 8 := by omega
     have d9 : (0 : Int) ≤ (i : Int) / 8 ∧ (i : Int) / 8 < 8 := by omega
     obtain ⟨u, hu⟩ : ∃ u, yy F ⟨x, y, t⟩ i s = u := ⟨_, rfl⟩; rw [hu] at t1 hI; have HU := Lib.hid hu; clear hu; go_wp2_with (first | (refine ZD rfl _ _ rfl _ _ rfl (_) rfl t1 (i) (hil) (by first | rfl | omega) ?_; clear t1; intro wn ht ze zg; have zf := B.size; replace zg := Nat.le_of_eq zg.symm; replace B := y9.store B ze (by omega); replace hI := HI.out _ _ _ hI (fun k hk => ze.block k (by omega) (by omega)); replace od := od.chgN ze (fun kk hkk => Nat.ne_of_lt (Nat.lt_of_lt_of_le (HOB.out kk hkk) (by omega))); (try replace q1 := q1.of_eq (ze.block _ q1.lt (by omega))); have t1 := ht; clear ht; simp only [zn]) | (go_at_fn gf; refine (HF.out _ _ _ _ _ (by omega) hI (by omega) (by omega) (by omega) (by omega) hpk).mono ?_; rintro e' wn ⟨rfl, hI, hcc⟩; have zf := B.size; have zg := hcc.size; replace B := B.chg hcc; replace t1 := t1.of_eq (hcc.block _ t1.lt (by omega)); replace od := od.chg hcc hcb) | (refine zq (t := 3) rfl _ rfl _ _ _ rfl (zu (t1.cell 0 (Ji _))) (by first | rfl | omega) ?_; simp only [zn]) | (refine zq (t := 3) rfl _ rfl _ _ _ rfl (zu (t1.cell 1 (YC _))) (by first | rfl | omega) ?_; simp only [zn]) | (refine jC rfl _ rfl _ rfl q1 ?_; simp only [zn]) | (refine qh rfl _ _ rfl _ rfl (_) rfl q1 ?_; clear q1; intro wn ht ze zg; have zf := B.size; replace zg := Nat.le_of_eq zg.symm; replace B := y9.store B ze (by omega); replace hI := HI.out _ _ _ hI (fun k hk => ze.block k (by omega) (by omega)); replace od := od.chgN ze (fun kk hkk => Nat.ne_of_lt (Nat.lt_of_lt_of_le (HOB.out kk hkk) (by omega))); (try replace t1 := t1.of_eq (ze.block _ t1.lt (by omega))); have q1 := ht; clear ht; simp only [zn]) | (refine qn rfl rfl ?_; intro b_q1 wn zb zd ht za zg; have zf := B.size; replace B := B.trans (za.mono (by omega)); replace hI := HI.out _ _ _ hI (fun k hk => za.block k (by omega)); have zk := Nat.lt_of_lt_of_eq (Nat.lt_succ_self _) zg.symm; clear zg; (try replace od := od.below (za.mono zb)); (try have zh := t1.lt); (try replace t1 := t1.below (za.mono zb)); (try have zh := q1.lt); (try replace q1 := q1.below (za.mono zb)); (try have zh := od.lt); (try replace od := od.below (za.mono zb)); have q1 := ht; clear ht; simp only [zn]) | fail)
     go_roundw
     case rel => exact ⟨i + 1, by omega, by go_num, B, by have := t1.lt; omega, by show zF _ _ _ (xL ⟨x, y, QC (yy F ⟨x, y, t⟩ i s).2 i (F (yy F ⟨x, y, t⟩ i s).1 (x * 8 + (i : Int) % 8) (y * 8 + (i : Int) / 8) (t i)).2⟩); rw [HU.out]; exact t1, od, by show I (F (yy F ⟨x, y, t⟩ i s).1 (x * 8 + (i : Int) % 8) (y * 8 + (i : Int) / 8) (t i)).1 _; rw [HU.out]; exact hI⟩
     case measure => simp [intOf]; omega
    ·obtain rfl : i = 64 := by omega
     obtain ⟨⟨s', u⟩, hu⟩ : ∃ u, yy F ⟨x, y, t⟩ 64 s = u := ⟨_, rfl⟩; have hut : YR u := by have := Yr (e := ⟨x, y, t⟩) HO.out hT.out s 64 (Nat.le_refl _); rw [hu] at this; exact this
     rw [hu] at t1 hI; have HU := Lib.hid hu; clear hu; have t1 : zF 125 _ b_t1 (xL ⟨x, y, u⟩) := t1; have hI : I s' _ := hI; have es := Lib.hid (show yJ F ls s0 (k + 1) = (s', acc ++ jd x y u) from by
      show ((yy F (aT ls k) 64 (yJ F ls s0 k).1).1, (yJ F ls s0 k).2 ++ jd (aT ls k).x (aT ls k).y (yy F (aT ls k) 64 (yJ F ls s0 k).1).2) = _
      rw [HSM.out, he, HU.out])
     cases hz : jE u with
     | true =>
      have HN := Lib.hid (show jd x y u = [] from by unfold jd; rw [hz]; rfl)
      go_wp2_with (first | (go_at_call 100; refine (xO _ _ hut).mono ?_; rintro e wn ⟨rfl, za⟩; have zf := B.size; have zg := za.size; replace B := B.trans (za.mono B.size); replace hI := HI.out _ _ _ hI (fun k hk => za.block k (by omega)); (try replace t1 := t1.below za); (try replace od := od.below za)) | (refine zq (t := 123) rfl _ rfl _ _ _ rfl (jT t1) (by first | rfl | omega) ?_; simp only [zn]) | fail)
      go_roundw
      case rel => exact ⟨k + 1, _, _, _, by omega, by go_num, rfl, by rw [es.out, HN.out]; simp [HN5'.out], B, by rw [es.out, HN.out]; simpa using od, by rw [es.out]; exact hI⟩
      case measure => simp [intOf]; omega
     | false =>
      have HN := Lib.hid (show jd x y u = [⟨x, y, u⟩] from by unfold jd; rw [hz]; rfl)
      have hlen : acc.length + 1 ≤ 100000 := by omega
      have hn5 := HN5'.out; clear HN5'; subst hn5; go_wp2_with (first | (at_builtin; refine qK rfl _ _ rfl _ _ rfl rfl od ((RS.one s1)) (by simp only [List.length_cons, List.length_nil]; omega) (by omega) ?_; intro v_od wn ht za; have zf := B.size; have zg := za.size; replace B := B.trans (za.mono (by omega)); replace hI := HI.out _ _ _ hI (fun k hk => za.block k (by omega)); clear od; have od := ht; clear ht; obtain ⟨a_od, c_od, hv, hco⟩ := od.len; (try simp only [List.length_append, List.length_cons, List.length_nil, Nat.zero_add] at hv hco); subst hv; simp only [zn]) | (refine xI rfl _ rfl ⟨x, y, u⟩ (by rfl) ?_; intro b_s1 wn zb zd ht za zg; have zf := B.size; replace B := B.trans (za.mono (by omega)); replace hI := HI.out _ _ _ hI (fun k hk => za.block k (by omega)); have zk := Nat.lt_of_lt_of_eq (Nat.lt_succ_self _) zg.symm; clear zg; (try have zh := od.lt); (try replace od := od.below (za.mono zb)); have s1 := ht; clear ht; simp only [zn]) | (refine zq (t := 125) rfl _ rfl _ _ _ rfl (zy t1 Tryz.isAgg125 (VW _)) (by rfl) ?_; simp only [zn]) | (go_at_call 100; refine (xO _ _ hut).mono ?_; rintro e wn ⟨rfl, za⟩; have zf := B.size; have zg := za.size; replace B := B.trans (za.mono B.size); replace hI := HI.out _ _ _ hI (fun k hk => za.block k (by omega)); (try replace t1 := t1.below za); (try replace od := od.below za)) | (refine zq (t := 123) rfl _ rfl _ _ _ rfl (jT t1) (by first | rfl | omega) ?_; simp only [zn]) | fail)
      go_roundw
      case rel => exact ⟨k + 1, _, _, _, by omega, by go_num, rfl, by rw [es.out, HN.out]; simp, B, by rw [es.out, HN.out]; exact od, by rw [es.out]; exact hI⟩
      case measure => simp [intOf]; omega
  ·obtain rfl : k = ls.length := by omega
   go_wp2; go_ret; exact ⟨_, rfl, by rw [HSM.out]; exact od, by rw [HSM.out]; exact hI, B.toChg⟩
/- Contracts of Bounds and Crop of package raster. -/
def jV (r : Rc) : Array Value := #[.int .i64 r.x0, .int .i64 r.y0, .int .i64 r.x1, .int .i64 r.y1]
def zel (s : Rc) (x y : Int) (p : Px) : Rc × Px := (if 0 < p.a then xy s ⟨x, y, x + 1, y + 1⟩ else s, p)
def zf4 (ls : List TA) : Rc := (yJ zel ls Rc.zero ls.length).1
def zfj (c : Rc) (s : Unit) (x y : Int) (p : Px) : Unit × Px := ((), if js c x y = true then p else Px.zero)
def zgC (c : Rc) (ls : List TA) : List TA := (yJ (zfj c) ls () ls.length).2
theorem KD {v : Value} {ls : List TA} {w : World} (h : RS v ls w) {cb : Nat} (hc : w.heap.size ≤ cb) : 0 < ls.length → v.ownBlock ≠ some cb := by
 intro hn e
 rcases h with ⟨rfl, rfl⟩ | ⟨g, o, c, rfl, _, sc⟩
 ·exact absurd hn (by decide)
 ·have e : some g = some cb := e
  injection e with e
  have := (sc hn).lt; omega
theorem zbh (ls : List TA) : ∀ e ∈ qX ls, qP e.x e.y = true := fun e he => by
 have := vR (xe ls) e he
 unfold yF at this
 exact (Bool.and_eq_true_iff.1 this).1
/- Contracts of the reference's Bounds and Crop. -/
end Go.Proofs.YtepelndbbhdofaaGreatDoor
/- Slices of elements of whatever type: rows in memory, rows that the call owns; append, literals of one element. -/
namespace Go.Proofs.YtepelndbbhdofaaGreatDoor
open Go.RowKit
set_option linter.unusedVariables false
set_option linter.unusedSimpArgs false
set_option maxRecDepth 20000
/-- An element type: T the element's, ST the slice's number; its k cells. -/
structure ZQ (α : Type) (k : Nat) (T ST : TypeId) where
 enc : α → Array Value
 bytes : Nat
 zero : α
 size : ∀ x, (enc x).size = k
 one : ∀ x, ∀ u ∈ (enc x).toList, u.oneCell' = true
 pos : 0 < k
 small : bytes ≤ 1000
 und : Tryz.prog.underlying ST = some (.slice T)
 info : (Tryz.prog.info? T).map (fun i => (i.size, i.bytes)) = some (k, bytes)
 zer : ((Tryz.prog.info? T).bind (·.zero)).map Value.cells = some (enc zero)
section
variable {α : Type} {k : Nat} {T ST : TypeId} (E : ZQ α k T ST)
theorem ZQ.facts : ∃ i z, Tryz.prog.info? T = some i ∧ i.zero = some z ∧ i.size = k ∧ i.bytes = E.bytes ∧ z.cells = E.enc E.zero := by
 have h1 := E.info
 have h2 := E.zer
 cases hi : Tryz.prog.info? T with
 | none => rw [hi] at h1; cases h1
 | some i =>
  rw [hi] at h1 h2; cases hz : i.zero with
  | none => simp [hz] at h2
  | some z =>
   simp [hz] at h1 h2
   exact ⟨i, z, rfl, hz, h1.1, h1.2, h2⟩
/-- The cells of a row. -/
def jH : List α → List Value
 | [] => []
 | e :: r => (E.enc e).toList ++ jH r
theorem Zp (a b : List α) : jH E (a ++ b) = jH E a ++ jH E b := by
 induction a with
 | nil => rfl
 | cons e r ih => rw [List.cons_append]; show _ ++ jH E (r ++ b) = _; rw [ih]; show _ = (_ ++ _) ++ _; rw [List.append_assoc]
theorem jz (ls : List α) : (jH E ls).length = ls.length * k := by
 induction ls with
 | nil => simp [jH]
 | cons e r ih => show ((E.enc e).toList ++ jH E r).length = _; rw [List.length_append, ih, Array.length_toList, E.size, List.length_cons, Nat.succ_mul]; omega
theorem uI (ls : List α) : ∀ i x, ls[i]? = some x → ∀ j, j < k → (jH E ls)[i * k + j]? = (E.enc x)[j]? := by
 induction ls with
 | nil => intro i x hi; simp at hi
 | cons e r ih =>
  intro i x hi j hj; show ((E.enc e).toList ++ jH E r)[i * k + j]? = _
  cases i with
  | zero =>
   have hx : e = x := by simpa using hi
   rw [List.getElem?_append_left (by rw [Array.length_toList, E.size]; omega), Array.getElem?_toList, Nat.zero_mul, Nat.zero_add, hx]
  | succ i =>
   rw [List.getElem?_append_right (by rw [Array.length_toList, E.size, Nat.succ_mul]; omega), Array.length_toList, E.size, show (i + 1) * k + j - k = i * k + j by rw [Nat.succ_mul]; omega, ih i x (by simpa using hi) j hj]
theorem kV (ls : List α) : ∀ u ∈ jH E ls, u.oneCell' = true := by
 induction ls with
 | nil => intro u hu; cases hu
 | cons e r ih =>
  intro u hu; rcases List.mem_append.1 hu with hu | hu
  ·exact E.one e u hu
  ·exact ih u hu
theorem wY {k j n : Nat} (hk : 0 < k) (h : j < n * k) : j / k < n ∧ j % k < k ∧ j = (j / k) * k + j % k := by
 refine ⟨Nat.div_lt_of_lt_mul (by rw [Nat.mul_comm]; exact h), Nat.mod_lt _ hk, ?_⟩
 rw [Nat.mul_comm]
 exact (Nat.div_add_mod j k).symm
/-- The cells of block g from o on are those of the row ls. -/
def zK (g o : Nat) (ls : List α) (w : World) : Prop := g < w.heap.size ∧ ∀ i x, ls[i]? = some x → ∀ j, j < k → w.cell? ⟨g, o + (i * k + j), none⟩ = (E.enc x)[j]?
section
variable {E} {g o : Nat} {ls : List α} {w w' : World}
theorem zK.lt (h : zK E g o ls w) : g < w.heap.size := h.1
theorem zK.of_eq (h : zK E g o ls w) (e : w'.heap[g]? = w.heap[g]?) : zK E g o ls w' := by
 refine ⟨?_, fun i x hi j hj => ?_⟩
 ·have := h.1
  rcases Nat.lt_or_ge g w'.heap.size with k | k
  ·exact k
  ·rw [Array.getElem?_eq_none k, Array.getElem?_eq_getElem this] at e
   cases e
 ·rw [World.cell?_of_block (w := w) e]
  exact h.2 i x hi j hj
theorem zK.below {α : Type} {k : Nat} {T ST : TypeId} {E : ZQ α k T ST} {g o : Nat} {ls : List α} {w w' : World} (h : zK E g o ls w) (e : Below w.heap.size w w') : zK E g o ls w' := h.of_eq (e.block _ h.lt)
theorem zK.cg {α : Type} {k : Nat} {T ST : TypeId} {E : ZQ α k T ST} {g o : Nat} {ls : List α} {w w' : World} (h : zK E g o ls w) {zc : Nat} (e : qN zc w w') (hn : g ≠ zc := by omega) : zK E g o ls w' := h.of_eq (e.block _ h.lt hn)
theorem zK.drop (h : zK E g o ls w) (n : Nat) : zK E g (o + n * k) (ls.drop n) w :=
 ⟨h.1, fun i x hi j hj => by
  rw [List.getElem?_drop] at hi; have := h.2 (n + i) x hi j hj; rw [Nat.add_mul] at this; rw [← this]
  congr 2
  omega⟩
theorem zK.take (h : zK E g o ls w) (n : Nat) : zK E g o (ls.take n) w :=
 ⟨h.1, fun i x hi j hj => by
  rw [List.getElem?_take] at hi; split at hi
  ·exact h.2 i x hi j hj
  ·cases hi⟩
theorem zK.row (h : zK E g o ls w) (j : Nat) (u : Value) (hu : (jH E ls)[j]? = some u) : w.cell? ⟨g, o + j, none⟩ = some u := by
 have hj : j < ls.length * k := by rw [← jz E]; exact (List.getElem?_eq_some_iff.1 hu).1
 obtain ⟨h1, h2, h3⟩ := wY E.pos hj
 have hx : ls[j / k]? = some ls[j / k] := List.getElem?_eq_getElem h1
 rw [h3, uI E ls _ _ hx _ h2] at hu
 have := h.2 _ _ hx _ h2
 rw [hu, ← h3] at this
 exact this
/-- An element loaded. -/
theorem zK.load (h : zK E g o ls w) (hagg : ∀ w : World, (isAgg T).run Tryz.prog w = .ok true w) {i : Nat} {x : α} (hi : ls[i]? = some x) : (Instr.loadAt T (.pointer (some ⟨g, o + i * k, none⟩))).run Tryz.prog w = .ok (.agg (E.enc x)) w := by
 obtain ⟨f, z, hf, _, hs, _, _⟩ := E.facts
 simp only [Instr.loadAt, Instr.sureAddr, Sem.run_bind, Sem.run_pure, Result.andThen_ok]
 have hl : (loadCells ⟨g, o + i * k, none⟩ (E.enc x).toList.length).run Tryz.prog w = .ok (E.enc x).toList.toArray w :=
  run_loadCells_list (P := Tryz.prog) w ⟨g, o + i * k, none⟩ (E.enc x).toList (fun j v hv => by
   have hadd : (⟨g, o + i * k, none⟩ : Addr).add j = ⟨g, o + i * k + j, none⟩ := by unfold Addr.add; split <;> simp_all
   have hj : j < k := by
    have := (List.getElem?_eq_some_iff.1 hv).1; rw [Array.length_toList, E.size] at this; exact this
   rw [hadd, Nat.add_assoc, h.2 i x hi j hj]
   simpa using hv)
 rw [Array.length_toList, E.size] at hl
 simp only [Array.toArray_toList] at hl
 simp only [loadVar, Sem.run_bind, hagg w, sizeOf, typeInfo, hf, hs, hl, run_program, Result.andThen_ok, if_true, Sem.run_pure]
end
/-- v is a slice of ls. -/
def jF (v : Value) (ls : List α) (w : World) : Prop := (v = .slice none 0 0 ∧ ls = []) ∨ (∃ g o c, v = .slice (some ⟨g, o, none⟩) ls.length c ∧ ls.length ≤ c ∧ (0 < ls.length → zK E g o ls w)) ∨ ∃ a c, v = .slice (some a) 0 c ∧ ls = []
/-- v is a slice of ls, in a row that the call owns (from block B on). -/
def zW (B : Nat) (v : Value) (ls : List α) (w : World) : Prop := w.ownsRow B T k v ls.length (jH E ls)
section
variable {E} {v : Value} {ls : List α} {w w' : World} {B : Nat}
theorem jF.below (h : jF E v ls w) (hb : Below w.heap.size w w') : jF E v ls w' := by
 rcases h with h | ⟨g, o, c, e, hc, sc⟩ | h
 ·exact .inl h
 ·exact .inr (.inl ⟨g, o, c, e, hc, fun hn => (sc hn).of_eq (hb.block _ (sc hn).lt)⟩)
 ·exact .inr (.inr h)
theorem jF.len (h : jF E v ls w) : ∃ a c, v = .slice a ls.length c ∧ ls.length ≤ c := by
 rcases h with ⟨rfl, rfl⟩ | ⟨g, o, c, e, hc, sc⟩ | ⟨a, c, rfl, rfl⟩
 ·exact ⟨none, 0, rfl, Nat.le_refl _⟩
 ·exact ⟨_, c, e, hc⟩
 ·exact ⟨_, c, rfl, Nat.zero_le _⟩
theorem jF.at {a : Option Addr} {n c : Nat} (h : jF E (.slice a n c) ls w) (hn : 0 < ls.length) : ∃ g o, a = some ⟨g, o, none⟩ ∧ zK E g o ls w := by
 rcases h with ⟨_, rfl⟩ | ⟨g, o, c', e, _, sc⟩ | ⟨_, _, _, rfl⟩
 rotate_right
 ·exact absurd hn (by simp)
 ·exact absurd hn (by simp)
 ·injection e with e1 e2 e3
  exact ⟨g, o, e1, sc hn⟩
theorem jF.nil (w : World) : jF E (.slice none 0 0) [] w := .inl ⟨rfl, rfl⟩
theorem jt {g o : Nat} (h : zK E g o ls w) : ∀ w', (∃ u, w' = ov w u) → zK E g o ls w' := by
 rintro w' ⟨u, rfl⟩
 exact h.of_eq ((qJ w u).block _ h.lt)
theorem zW.below (h : zW E B v ls w) (hb : Below w.heap.size w w') : zW E B v ls w' :=
 World.ownsRow.kept (row := none) h ⟨hb.os, hb.tape, hb.output, hb.size, fun k hk _ => hb.block k hk⟩ (Classical.em _)
theorem zW.mono {B' : Nat} (h : zW E B v ls w) (hb : B' ≤ B) : zW E B' v ls w := World.ownsRow.mono h hb
theorem zW.nil (B : Nat) (w : World) : zW E B (.slice none 0 0) [] w := World.ownsRow_nil w B _ _
theorem zW.rs (h : zW E B v ls w) : jF E v ls w := by
 obtain ⟨h1, h2⟩ := h
 rcases h2 with ⟨rfl, h0⟩ | ⟨g, cap, cur, rfl, hb, hg, hn, hm, hs, ht⟩
 ·exact .inl ⟨rfl, List.eq_nil_of_length_eq_zero h0⟩
 ·refine .inr (.inl ⟨g, 0, cap, rfl, hn, fun _ => ⟨(Array.getElem?_eq_some_iff.1 hg).1, fun i x hi j hj => ?_⟩⟩)
  have hil : i < ls.length := (List.getElem?_eq_some_iff.1 hi).1; have zh : i * k + j < ls.length * k := by
   have := Nat.mul_le_mul_right k (Nat.succ_le_of_lt hil); rw [Nat.succ_mul] at this; omega
  rw [← uI E ls i x hi j hj, Nat.zero_add, cell_of_row w g _ cur _ (0, 0) hg, ← ht, List.getElem?_take_of_lt zh, Array.getElem?_toList]
theorem zW.len (h : zW E B v ls w) : ∃ a c, v = .slice a ls.length c ∧ ls.length ≤ c := h.rs.len
theorem zW.chg {b : Nat} (h : zW E B v ls w) (hc : qN b w w') (hb : b < B) : zW E B v ls w' := by
 refine World.ownsRow.kept (row := some b) h ⟨hc.os, hc.tape, hc.output, hc.size, fun k hk hne => hc.block k hk (fun e => hne (by rw [e]))⟩ ?_
 cases hv : v.ownBlock with
 | none => exact .inl rfl
 | some k =>
  right
  intro e
  injection e with e
  have := World.ownsRow.lt h k hv; omega
end
section
variable {E} {ops : Array Oper} {rest : List Oper} {o : Oper} {a : Act} {w : World} {Q : Exit → Act → World → Prop}
/-- A slice appended to a row of the call's own. -/
theorem xm (hg : o.guard = none) (s x : Operand) (ho : o.op = .call { callee := .builtin .append, args := #[s, x], argTypes := #[ST, ST] }) (v u : Value) (hs : a.eval s = v) (hx : a.eval x = u) {B : Nat} {ls ks : List α} (hown : zW E B v ls w) (hu : jF E u ks w) (hlen : ls.length + ks.length ≤ 100000000) (hB : B ≤ w.heap.size)
  (h : ∀ v' w', zW E B v' (ls ++ ks) w' → Below B w w' → wpList Tryz.prog ops Q rest (a.put o.dst v') w') : wpList Tryz.prog ops Q (o :: rest) a w := by
 obtain ⟨i, z, hi, hz, zf, hby, hzc⟩ := E.facts
 have hzs : z.cells.size = k := by rw [hzc, E.size]
 rcases hu with ⟨rfl, rfl⟩ | ⟨g, of, c, rfl, hc, sc⟩ | ⟨ad, c, rfl, rfl⟩
 ·refine wpList_append_own_none (P := Tryz.prog) hg s x ST ho B T i k E.und hi v ls.length (jH E ls) hs hown hx ?_
  exact h v w (by rw [List.append_nil]; exact hown) (Below.refl _ _)
 ·refine wpList_append_own (P := Tryz.prog) w hg s x ST ho B T i z k E.bytes E.und hi hz zf hby hzs E.pos v ls.length (jH E ls) hs hown ⟨g, of, none⟩ ks.length c (jH E ks) hx (jz E ks) ?_ (kV E ks) (by unfold maxLen; omega) ?_ hB ?_
  ·intro j u hu
   have hj : j < ks.length * k := by rw [← jz E]; exact (List.getElem?_eq_some_iff.1 hu).1
   have e : (⟨g, of, none⟩ : Addr).add j = ⟨g, of + j, none⟩ := by unfold Addr.add; split <;> simp_all
   rw [e]; have hk : 0 < ks.length := by
    rcases Nat.eq_zero_or_pos ks.length with h0 | h0
    ·rw [h0, Nat.zero_mul] at hj; omega
    ·exact h0
   exact (sc hk).row j u hu
  ·have := Nat.mul_le_mul hlen E.small
   omega
  ·intro v' w' h1 h2 h3
   refine h v' w' ?_ ?_
   ·unfold zW
    rw [Zp, List.length_append]; exact h1
   ·have zh := World.ownsRow.lt hown
    exact ⟨h2.os, h2.tape, h2.output, h2.size, fun k hk => h2.block k (by omega) (fun e => by have := zh k e.symm; omega)⟩
 ·refine wpList_append_own (P := Tryz.prog) w hg s x ST ho B T i z k E.bytes E.und hi hz zf hby hzs E.pos v ls.length (jH E ls) hs hown ad 0 c [] hx (by simp) ?_ (by simp) (by unfold maxLen; simp only [List.length_nil] at hlen; omega) ?_ hB ?_
  ·intro j u hu
   simp at hu
  ·have := Nat.mul_le_mul hlen E.small
   simp only [List.length_nil] at this; omega
  ·intro v' w' h1 h2 h3
   refine h v' w' ?_ ?_
   ·unfold zW
    rw [List.append_nil]; rw [List.append_nil] at h1; exact h1
   ·have zh := World.ownsRow.lt hown
    exact ⟨h2.os, h2.tape, h2.output, h2.size, fun k hk => h2.block k (by omega) (fun e => by have := zh k e.symm; omega)⟩
end
/-! ### Literals of one element; blocks known whole as rows -/
section
variable {E}
theorem zbg {T' : TypeId} (x : α) (cs : Array Value) (hs : cs.size = k) : Instr.fill (fun i => some (i * k, k)) cs [(0, .agg (E.enc x))] = some (E.enc x) := by
 have hc : (Value.agg (E.enc x)).cells = E.enc x := by simp only [Value.cells]
 obtain ⟨r, hr1, hr2, hr3⟩ := Great.fill_dense E.pos [Value.agg (E.enc x)] 0 cs (fun v hv => by rw [List.mem_singleton.1 hv, hc, E.size]) (by simp; omega)
 have e : (([Value.agg (E.enc x)].zipIdx 0).map fun y => (y.2, y.1)) = [(0, Value.agg (E.enc x))] := rfl
 rw [e] at hr1
 rw [hr1]
 congr 1
 apply Array.ext_getElem?
 intro j
 rw [hr3 j]
 by_cases h : j < k
 ·rw [if_pos (by simp; omega), Nat.div_eq_of_lt h, Nat.mod_eq_of_lt h]
  simp [hc]
 ·rw [if_neg (by simp; omega), Array.getElem?_eq_none (by omega), Array.getElem?_eq_none (by rw [E.size]; omega)]
variable {ops : Array Oper} {rest : List Oper} {o : Oper} {a : Act} {w : World} {Q : Exit → Act → World → Prop}
theorem X6 {K : Act → World → Prop} (y : Operand) (ho : o.op = .buildSlice ST 1 #[(0, y)]) (x : α) (hy : a.eval y = .agg (E.enc x)) (hk : k ≤ 1000)
  (h : ∀ b w', w.heap.size ≤ b → b ≤ w.heap.size → zF T w' b (E.enc x) → Below b w w' → w'.heap.size = b + 1 → K (a.put o.dst (.slice (some ⟨b, 0, none⟩) 1 1)) w') : o.wp Tryz.prog a w K Q := by
 obtain ⟨i, z, hi, hz, zf, hby, hzc⟩ := E.facts
 have hp := E.pos
 refine wp_buildSlice ST T 1 #[(0, y)] ho (E.enc x) i z E.und hi hz (by rw [zf]; omega) (by rw [zf]; omega) ?_ (h _ _ (Nat.le_refl _) (Nat.le_refl _) (by unfold zF; rw [zI, if_pos rfl]) ((Below.refl _ _).alloc (Nat.le_refl _) _) (World.size_alloc _ _))
 rw [zf]
 have hp : ((#[(0, y)] : Array (Nat × Operand)).map fun (i, x) => (i, a.eval x)).toList = [(0, Value.agg (E.enc x))] := by simp [hy]
 rw [hp]
 exact zbg (T' := T) x _ (by simp)
theorem vS (hg : o.guard = none) (y : Operand) (ho : o.op = .buildSlice ST 1 #[(0, y)]) (x : α) (hy : a.eval y = .agg (E.enc x)) (hk : k ≤ 1000)
  (h : ∀ b w', w.heap.size ≤ b → b ≤ w.heap.size → zF T w' b (E.enc x) → Below b w w' → w'.heap.size = b + 1 → wpList Tryz.prog ops Q rest (a.put o.dst (.slice (some ⟨b, 0, none⟩) 1 1)) w') : wpList Tryz.prog ops Q (o :: rest) a w :=
 wpList_plain hg fun K hK => X6 y ho x hy hk fun b w' h1 h2 h3 h4 h5 => hK _ _ (h b w' h1 h2 h3 h4 h5)
theorem jF.one {b : Nat} {x : α} {w : World} (h : zF T w b (E.enc x)) : jF E (.slice (some ⟨b, 0, none⟩) 1 1) [x] w :=
 .inr (.inl ⟨b, 0, 1, rfl, Nat.le_refl _, fun _ => ⟨h.lt, fun i y hi j hj => by
  cases i with
  | zero =>
   have hx : x = y := by simpa using hi
   rw [Nat.zero_mul, Nat.zero_add, Nat.zero_add, (z2 h).1, hx]
  | succ i => simp at hi⟩⟩)
/-- The block b is the row ls. -/
def ji (E : ZQ α k T ST) (w : World) (b : Nat) (ls : List α) : Prop := zF T w b (jH E ls).toArray
theorem ji.of_eq {w w' : World} {b : Nat} {ls : List α} (h : ji E w b ls) (e : w'.heap[b]? = w.heap[b]?) : ji E w' b ls := zF.of_eq h e
theorem ji.lt {w : World} {b : Nat} {ls : List α} (h : ji E w b ls) : b < w.heap.size := zF.lt h
theorem ji.below {α : Type} {k : Nat} {T ST : TypeId} {E : ZQ α k T ST} {b : Nat} {ls : List α} {w w' : World} (h : ji E w b ls) (e : Below w.heap.size w w') : ji E w' b ls := h.of_eq (e.block _ h.lt)
theorem ji.cg {α : Type} {k : Nat} {T ST : TypeId} {E : ZQ α k T ST} {b : Nat} {ls : List α} {w w' : World} (h : ji E w b ls) {zc : Nat} (e : qN zc w w') (hn : b ≠ zc := by omega) : ji E w' b ls := h.of_eq (e.block _ h.lt hn)
theorem ji.cells {w : World} {b : Nat} {ls : List α} (h : ji E w b ls) : zK E b 0 ls w := by
 refine ⟨h.lt, fun i x hi j hj => ?_⟩
 rw [Nat.zero_add, (z2 h).1, List.getElem?_toArray]
 exact uI E ls i x hi j hj
theorem ji.rs {w : World} {b : Nat} {ls : List α} (h : ji E w b ls) : jF E (.slice (some ⟨b, 0, none⟩) ls.length ls.length) ls w :=
 .inr (.inl ⟨b, 0, ls.length, rfl, Nat.le_refl _, fun _ => h.cells⟩)
theorem Qt (n : Nat) (x : α) : ∀ j, (jH E (List.replicate n x))[j]? = if j < n * k then (E.enc x)[j % k]? else none := by
 intro j
 by_cases h : j < n * k
 ·rw [if_pos h]
  obtain ⟨h1, h2, h3⟩ := wY E.pos h; have := uI E (List.replicate n x) (j / k) x (by rw [List.getElem?_replicate, if_pos h1]) (j % k) h2; rw [← h3] at this; exact this
 ·rw [if_neg h, List.getElem?_eq_none (by rw [jz, List.length_replicate]; omega)]
/-- A row of zero elements made. -/
theorem u0 {K : Act → World → Prop} (p q : Operand) (ho : o.op = .makeSlice ST p q) (n : Nat) (hp : a.eval p = .int .i64 n) (hq : a.eval q = .int .i64 n) (hn : n ≤ 100000000) (hsm : n * k ≤ 16777216)
 (h : ∀ b w', w.heap.size ≤ b → b ≤ w.heap.size → ji E w' b (List.replicate n E.zero) → Below b w w' → w'.heap.size = b + 1 → K (a.put o.dst (.slice (some ⟨b, 0, none⟩) n n)) w') : o.wp Tryz.prog a w K Q := by
 obtain ⟨i, z, hi, hz, zf, hby, hzc⟩ := E.facts
 have hr := run_makeSlice (P := Tryz.prog) w ST T i z E.und hi hz .i64 .i64 n n (by omega) (Int.le_refl _) (by rw [zf]; simpa using hsm) (by
  have hm := Nat.mul_le_mul E.small hn; rw [hby]; have : ((E.bytes * n : Nat) : Int) ≤ ((1000 * 100000000 : Nat) : Int) := by omega
  rw [Int.natCast_mul] at this; omega) (by omega)
 unfold Oper.wp execOp
 simp only [ho, hp, hq, hr, Sem.run_bind, Sem.run_pure, Result.andThen_ok]
 refine (h _ _ (Nat.le_refl _) (Nat.le_refl _) ?_ ((Below.refl _ _).alloc (Nat.le_refl _) _) (World.size_alloc _ _))
 unfold ji zF
 rw [zI, if_pos rfl]
 congr 2
 apply Array.ext_getElem?
 intro j
 have hR : (jH E (List.replicate n E.zero)).toArray[j]? = if j < n * k then (E.enc E.zero)[j % k]? else none := by rw [List.getElem?_toArray, Qt]
 rw [hR, hzc, zf, Int.toNat_natCast]
 unfold madeCells
 by_cases hj : j < n * k
 ·have hm : j % k < (E.enc E.zero).size := by rw [E.size]; exact Nat.mod_lt _ E.pos
  rw [if_pos hj, Array.getElem?_map, Array.getElem?_eq_getElem (by simpa using hj), Array.getElem?_eq_getElem hm]; simp [E.size, getElem!_pos, hm, Nat.mod_lt _ E.pos]
 ·rw [if_neg hj, Array.getElem?_eq_none (by simp; omega)]
end
end
end Go.Proofs.YtepelndbbhdofaaGreatDoor
/- Rows of pixels; images; contract of the closure of Image of package raster. -/
namespace Go.Proofs.YtepelndbbhdofaaGreatDoor
open Go.RowKit Go.Shelf Pl
set_option linter.unusedVariables false
set_option linter.unusedSimpArgs false
set_option maxRecDepth 20000
def ka : ZQ Px 4 28 115 where
 enc := pxA
 bytes := 4
 zero := Px.zero
 size := fun _ => rfl
 one := fun x u hu => by
  have : u ∈ [Value.int .u8 x.r, .int .u8 x.g, .int .u8 x.b, .int .u8 x.a] := hu; simp at this
  rcases this with rfl | rfl | rfl | rfl <;> rfl
 pos := by omega
 small := by omega
 und := Tryz.underlying115
 info := by kernel_rfl
 zer := by kernel_rfl
theorem zb1 (ls : List Px) : ∀ (i : Nat) (p : Px), i < ls.length → ((((jH ka ls).set (i * 4) (.int .u8 p.r)).set (i * 4 + 1) (.int .u8 p.g)).set (i * 4 + 2) (.int .u8 p.b)).set (i * 4 + 3) (.int .u8 p.a) = jH ka (ls.set i p) := by
 induction ls with
 | nil => intro i p h; exact absurd h (Nat.not_lt_zero _)
 | cons q r ih =>
  intro i p h; cases i with
  | zero => rfl
  | succ i =>
   have e : ∀ j, (i + 1) * 4 + j = (i * 4 + j) + 4 := fun j => by omega
   have := ih i p (by simpa using h); show ((((((Value.int .u8 q.r :: .int .u8 q.g :: .int .u8 q.b :: .int .u8 q.a :: jH ka r).set ((i + 1) * 4) _).set ((i + 1) * 4 + 1) _).set ((i + 1) * 4 + 2) _).set ((i + 1) * 4 + 3) _)) = Value.int .u8 q.r :: .int .u8 q.g :: .int .u8 q.b :: .int .u8 q.a :: jH ka (r.set i p)
   rw [show (i + 1) * 4 = (i * 4) + 4 by omega, show i * 4 + 4 + 1 = i * 4 + 1 + 4 by omega, show i * 4 + 4 + 2 = i * 4 + 2 + 4 by omega, show i * 4 + 4 + 3 = i * 4 + 3 + 4 by omega]; simp only [List.set_cons_succ]; rw [this]
theorem ji.set4 {w : World} {b i : Nat} {ls : List Px} (h : ji ka w b ls) (hi : i < ls.length) (p : Px) :
  ji ka ((((w.setCell ⟨b, i * 4, none⟩ (.int .u8 p.r)).setCell ⟨b, i * 4 + 1, none⟩ (.int .u8 p.g)).setCell ⟨b, i * 4 + 2, none⟩ (.int .u8 p.b)).setCell ⟨b, i * 4 + 3, none⟩ (.int .u8 p.a)) b (ls.set i p) := by
 unfold ji zF
 rw [← zb1 ls i p hi]
 have := heap_setCell_same _ b (i * 4 + 3) _ _ (.int .u8 p.a) (heap_setCell_same _ b (i * 4 + 2) _ _ (.int .u8 p.b) (heap_setCell_same _ b (i * 4 + 1) _ _ (.int .u8 p.g) (heap_setCell_same _ b (i * 4) _ _ (.int .u8 p.r) h)))
 simpa only [List.setIfInBounds_toArray] using this
theorem QR {w : World} {b i : Nat} {ls : List Px} (h : ji ka w b ls) (hi : i < ls.length) (p : Px) : (Instr.storeAt 28 (.pointer (some ⟨b, i * 4, none⟩)) (Px.v p)).run Tryz.prog w =
  .ok () ((((w.setCell ⟨b, i * 4, none⟩ (.int .u8 p.r)).setCell ⟨b, i * 4 + 1, none⟩ (.int .u8 p.g)).setCell ⟨b, i * 4 + 2, none⟩ (.int .u8 p.b)).setCell ⟨b, i * 4 + 3, none⟩ (.int .u8 p.a)) := by
 obtain ⟨q, hq⟩ : ∃ q, ls[i]? = some q := ⟨_, List.getElem?_eq_getElem hi⟩
 have hc := h.cells.2 i q hq
 have c0 : w.cell? ⟨b, i * 4, none⟩ = some (.int .u8 q.r) := by have := hc 0 (by omega); rw [Nat.zero_add, Nat.add_zero] at this; exact this
 have c1 : w.cell? ⟨b, i * 4 + 1, none⟩ = some (.int .u8 q.g) := by have := hc 1 (by omega); rw [Nat.zero_add] at this; exact this
 have c2 : w.cell? ⟨b, i * 4 + 2, none⟩ = some (.int .u8 q.b) := by have := hc 2 (by omega); rw [Nat.zero_add] at this; exact this
 have c3 : w.cell? ⟨b, i * 4 + 3, none⟩ = some (.int .u8 q.a) := by have := hc 3 (by omega); rw [Nat.zero_add] at this; exact this
 have hf := fun j => zF.frozen h j
 simp [go_sem, c0, c1, c2, c3, hf, Px.v]
theorem vq {ops : Array Oper} {rest : List Oper} {o : Oper} {a : Act} {w : World} {Q : Exit → Act → World → Prop} (hg : o.guard = none) (x y : Operand) (ho : o.op = .store 28 x y) (b j : Nat) (hx : a.eval x = .pointer (some ⟨b, j, none⟩)) (q : Px) (hy : a.eval y = Px.v q) {ls : List Px} (ht : ji ka w b ls) (i : Nat) (hi : i < ls.length) (hj : j = i * 4)
  (h : ∀ w', ji ka w' b (ls.set i q) → qN b w w' → w'.heap.size = w.heap.size → wpList Tryz.prog ops Q rest (a.put o.dst undef) w') : wpList Tryz.prog ops Q (o :: rest) a w := by
 subst hj
 refine qe hg x y ho _ ?_ (h _ (ht.set4 hi q) (((((qN.refl b w).setCell _).setCell _).setCell _).setCell _) (by simp only [World.size_setCell]))
 rw [hx, hy]
 exact QR ht hi q
/-! ### The closure of Image -/
def yI (c : Rc) (x y : Int) : Int := (y - c.y0) * (c.x1 - c.x0) + x - c.x0
def kz (c : Rc) (s : List Px) (x y : Int) (p : Px) : List Px × Px := (if js c x y = true then s.set (yI c x y).toNat p else s, p)
def xg (c : Rc) (u : Value) : Array Value := #[.int .i64 c.x0, .int .i64 c.y0, .int .i64 c.x1, .int .i64 c.y1, u]
/-- A rectangle that fits. -/
structure j0 (c : Rc) : Prop where
 h1 : c.x0 < c.x1
 h2 : c.y0 < c.y1
 h3 : -65536 ≤ c.x0
 h4 : -65536 ≤ c.y0
 h5 : c.x1 ≤ 65536
 h6 : c.y1 ≤ 65536
 h7 : c.x1 - c.x0 ≤ 256
 h8 : c.y1 - c.y0 ≤ 256
theorem yh {c : Rc} (h : jr c = 0) : j0 c := by
 unfold jr at h
 split at h
 ·rename_i hv
  obtain ⟨⟨a1, a2⟩, a3, a4, a5, a6⟩ := (ve c).1 hv; split at h
  ·cases h
  ·exact ⟨a1, a2, a3, a4, a5, a6, by omega, by omega⟩
 ·cases h
theorem j0.valid {c : Rc} (h : j0 c) : jN c = true := (ve c).2 ⟨⟨h.h1, h.h2⟩, h.h3, h.h4, h.h5, h.h6⟩
def areaN (c : Rc) : Nat := ((c.x1 - c.x0) * (c.y1 - c.y0)).toNat
theorem Vn {c : Rc} (hf : j0 c) {x y : Int} (hh : js c x y = true) : 0 ≤ (y - c.y0) * (c.x1 - c.x0) ∧ (y - c.y0) * (c.x1 - c.x0) ≤ 65536 ∧ 0 ≤ yI c x y ∧ (yI c x y).toNat < areaN c := by
 have hh := of_decide_eq_true hh
 obtain ⟨a1, a2, a3, a4, a5, a6, a7, a8⟩ := hf
 unfold yI areaN
 obtain ⟨W, hW⟩ : ∃ W : Nat, c.x1 - c.x0 = W := ⟨(c.x1 - c.x0).toNat, by omega⟩
 obtain ⟨Y, hY⟩ : ∃ Y : Nat, y - c.y0 = Y := ⟨(y - c.y0).toNat, by omega⟩
 obtain ⟨H, hH⟩ : ∃ H : Nat, c.y1 - c.y0 = H := ⟨(c.y1 - c.y0).toNat, by omega⟩
 obtain ⟨X, hX⟩ : ∃ X : Nat, x - c.x0 = X := ⟨(x - c.x0).toNat, by omega⟩
 rw [hW, hY, hH]
 have e1 : ((Y : Int) * (W : Int)) + x - c.x0 = ((Y * W + X : Nat) : Int) := by rw [Int.natCast_add, Int.natCast_mul]; omega
 have e2 : ((W : Int) * (H : Int)) = ((W * H : Nat) : Int) := by rw [Int.natCast_mul]
 have e3 : ((Y : Int) * (W : Int)) = ((Y * W : Nat) : Int) := by rw [Int.natCast_mul]
 rw [e1, e2, e3]
 have m1 : Y * W ≤ 256 * 256 := Nat.mul_le_mul (by omega) (by omega)
 have m2 : (Y + 1) * W ≤ H * W := Nat.mul_le_mul_right W (by omega)
 rw [Nat.succ_mul] at m2
 have m3 : W * H = H * W := Nat.mul_comm _ _
 omega
theorem zeB {w : World} {b : Nat} {c : Rc} (h : zF 38 w b (jV c)) : w.cell? ⟨b, 0, none⟩ = some (.int .i64 c.x0) := h.cell 0 rfl
theorem zeD {w : World} {b : Nat} {c : Rc} (h : zF 38 w b (jV c)) : w.cell? ⟨b, 1, none⟩ = some (.int .i64 c.y0) := h.cell 1 rfl
theorem zeC {w : World} {b : Nat} {c : Rc} (h : zF 38 w b (jV c)) : w.cell? ⟨b, 2, none⟩ = some (.int .i64 c.x1) := h.cell 2 rfl
theorem wZ {w : World} {b : Nat} {c : Rc} {u : Value} (h : zF 117 w b (xg c u)) : w.cell? ⟨b, 4, none⟩ = some u := h.cell 4 rfl
theorem jR {w : World} {b j : Nat} {v : Value} (h : w.cell? ⟨b, j, none⟩ = some v) : (Instr.loadAt 115 (.pointer (some ⟨b, j, none⟩))).run Tryz.prog w = .ok v w := by
 simp [go_sem, h]
set_option maxHeartbeats 1000000 in
theorem zay (c : Rc) (hf : j0 c) (s : List Px) (hs : s.length = areaN c) (x y : Int) (p : Px) (bc bm cb : Nat) (w : World) (r0 : zF 38 w bc (jV c)) (m0 : zF 117 w bm (xg c (.slice (some ⟨cb, 0, none⟩) (areaN c) (areaN c)))) (row : ji ka w cb s) (h1 : bc ≠ cb) (h2 : bm ≠ cb) :
  Calls Tryz.prog 127 #[.int .i64 x, .int .i64 y, Px.v p, .pointer (some ⟨bc, 0, none⟩), .pointer (some ⟨bm, 0, none⟩)] w fun e w' => e = .returned (Px.v (kz c s x y p).2) ∧ (zF 38 w' bc (jV c) ∧ zF 117 w' bm (xg c (.slice (some ⟨cb, 0, none⟩) (areaN c) (areaN c))) ∧ ji ka w' cb (kz c s x y p).1) ∧ qN cb w w' := by
 have B := y9.refl cb w
 have hb1 := r0.lt
 have hb2 := m0.lt
 have hb3 := row.lt
 cases hh : js c x y with
 | true =>
  have e1 := Lib.hid (show kz c s x y p = (s.set (yI c x y).toNat p, p) from by unfold kz; rw [hh]; rfl)
  obtain ⟨m1, m2, m3, m4⟩ := Vn hf hh; have hix : (yI c x y).toNat < s.length := by rw [hs]; exact m4
  have hh2 := of_decide_eq_true hh; obtain ⟨g1, g2, g3, g4⟩ := hh2; obtain ⟨a1, a2, a3, a4, a5, a6, a7, a8⟩ := hf; have hidx : (y - c.y0) * (c.x1 - c.x0) + x - c.x0 = yI c x y := rfl; have m5 : yI c x y < (areaN c : Int) := by omega
  have m6 : (areaN c : Int) ≤ 65536 := by
   unfold areaN; have := jL (a := c.x1 - c.x0) (b := c.y1 - c.y0) (m := 256) (k := 256) (by omega) (by omega) (by omega) (by omega); omega
  go_enter Tryz.func127, Tryz.ntmps127
  go_wp2_with (first | (refine qh rfl _ _ rfl _ rfl (_) rfl q2 ?_; clear q2; intro wn ht ze zg; have zf := B.size; replace zg := Nat.le_of_eq zg.symm; replace B := y9.store B ze (by omega); (try replace r0 := r0.of_eq (ze.block _ r0.lt (by omega))); (try replace m0 := m0.of_eq (ze.block _ m0.lt (by omega))); (try replace q1 := q1.of_eq (ze.block _ q1.lt (by omega))); (try replace row := row.of_eq (ze.block _ row.lt (by omega))); have q2 := ht; clear ht; simp only [zn]) | (refine vq rfl _ _ rfl _ _ rfl _ rfl row (yI c x y).toNat hix (by first | rfl | omega) ?_; clear row; intro wn ht ze zg; have zf := B.size; replace zg := Nat.le_of_eq zg.symm; replace B := y9.chg B ze; (try replace r0 := r0.of_eq (ze.block _ r0.lt (by omega))); (try replace m0 := m0.of_eq (ze.block _ m0.lt (by omega))); (try replace q1 := q1.of_eq (ze.block _ q1.lt (by omega))); (try replace q2 := q2.of_eq (ze.block _ q2.lt (by omega))); have row := ht; clear ht; simp only [zn]) | (refine jC rfl _ rfl _ rfl q1 ?_; simp only [zn]) | (refine zq (t := 115) rfl _ rfl _ _ _ rfl (jR (wZ m0)) (by rfl) ?_; simp only [zn]) | (refine zq (t := 3) rfl _ rfl _ _ _ rfl (zu (zeB r0)) (by first | rfl | omega) ?_; simp only [zn]) | (refine zq (t := 3) rfl _ rfl _ _ _ rfl (zu (zeD r0)) (by first | rfl | omega) ?_; simp only [zn]) | (refine zq (t := 3) rfl _ rfl _ _ _ rfl (zu (zeC r0)) (by first | rfl | omega) ?_; simp only [zn]) | (go_at_call 25; refine (KW c x y _).mono ?_; rintro e wn ⟨rfl, za⟩; have zf := B.size; have zg := za.size; replace B := B.trans (za.mono B.size); (try replace r0 := r0.below za); (try replace m0 := m0.below za); (try replace q1 := q1.below za); (try replace q2 := q2.below za); (try replace row := row.below za)) | (refine zq (t := 38) rfl _ rfl _ _ _ rfl (zy r0 Tryz.isAgg38 (by kernel_rfl)) (by rfl) ?_; simp only [zn]) | (have _ := q1; refine qn rfl rfl ?_; intro b_q2 wn zb zd ht za zg; have zf := B.size; replace B := B.trans (za.mono (by omega)); have zk := Nat.lt_of_lt_of_eq (Nat.lt_succ_self _) zg.symm; clear zg; (try have zh := r0.lt); (try replace r0 := r0.below (za.mono zb)); (try have zh := m0.lt); (try replace m0 := m0.below (za.mono zb)); (try have zh := q1.lt); (try replace q1 := q1.below (za.mono zb)); (try have zh := q2.lt); (try replace q2 := q2.below (za.mono zb)); (try have zh := row.lt); (try replace row := row.below (za.mono zb)); have q2 := ht; clear ht; simp only [zn]) | (refine yp rfl _ rfl _ rfl ?_; intro b_q1 wn zb zd ht za zg; have zf := B.size; replace B := B.trans (za.mono (by omega)); have zk := Nat.lt_of_lt_of_eq (Nat.lt_succ_self _) zg.symm; clear zg; (try have zh := r0.lt); (try replace r0 := r0.below (za.mono zb)); (try have zh := m0.lt); (try replace m0 := m0.below (za.mono zb)); (try have zh := q1.lt); (try replace q1 := q1.below (za.mono zb)); (try have zh := q2.lt); (try replace q2 := q2.below (za.mono zb)); (try have zh := row.lt); (try replace row := row.below (za.mono zb)); have q1 := ht; clear ht; simp only [zn]) | fail)
  refine bodyPost_ret (jB rfl _ _ (b_q2) rfl q2) rfl ?_; exact ⟨by rw [e1.out], by rw [e1.out]; exact ⟨r0, m0, row⟩, B.toChg⟩
 | false =>
  have e1 := Lib.hid (show kz c s x y p = (s, p) from by unfold kz; rw [hh]; rfl)
  go_enter Tryz.func127, Tryz.ntmps127
  go_wp2_with (first | (refine qh rfl _ _ rfl _ rfl (_) rfl q2 ?_; clear q2; intro wn ht ze zg; have zf := B.size; replace zg := Nat.le_of_eq zg.symm; replace B := y9.store B ze (by omega); (try replace r0 := r0.of_eq (ze.block _ r0.lt (by omega))); (try replace m0 := m0.of_eq (ze.block _ m0.lt (by omega))); (try replace q1 := q1.of_eq (ze.block _ q1.lt (by omega))); (try replace row := row.of_eq (ze.block _ row.lt (by omega))); have q2 := ht; clear ht; simp only [zn]) | (refine jC rfl _ rfl _ rfl q1 ?_; simp only [zn]) | (go_at_call 25; refine (KW c x y _).mono ?_; rintro e wn ⟨rfl, za⟩; have zf := B.size; have zg := za.size; replace B := B.trans (za.mono B.size); (try replace r0 := r0.below za); (try replace m0 := m0.below za); (try replace q1 := q1.below za); (try replace q2 := q2.below za); (try replace row := row.below za)) | (refine zq (t := 38) rfl _ rfl _ _ _ rfl (zy r0 Tryz.isAgg38 (by kernel_rfl)) (by rfl) ?_; simp only [zn]) | (have _ := q1; refine qn rfl rfl ?_; intro b_q2 wn zb zd ht za zg; have zf := B.size; replace B := B.trans (za.mono (by omega)); have zk := Nat.lt_of_lt_of_eq (Nat.lt_succ_self _) zg.symm; clear zg; (try have zh := r0.lt); (try replace r0 := r0.below (za.mono zb)); (try have zh := m0.lt); (try replace m0 := m0.below (za.mono zb)); (try have zh := q1.lt); (try replace q1 := q1.below (za.mono zb)); (try have zh := q2.lt); (try replace q2 := q2.below (za.mono zb)); (try have zh := row.lt); (try replace row := row.below (za.mono zb)); have q2 := ht; clear ht; simp only [zn]) | (refine yp rfl _ rfl _ rfl ?_; intro b_q1 wn zb zd ht za zg; have zf := B.size; replace B := B.trans (za.mono (by omega)); have zk := Nat.lt_of_lt_of_eq (Nat.lt_succ_self _) zg.symm; clear zg; (try have zh := r0.lt); (try replace r0 := r0.below (za.mono zb)); (try have zh := m0.lt); (try replace m0 := m0.below (za.mono zb)); (try have zh := q1.lt); (try replace q1 := q1.below (za.mono zb)); (try have zh := q2.lt); (try replace q2 := q2.below (za.mono zb)); (try have zh := row.lt); (try replace row := row.below (za.mono zb)); have q1 := ht; clear ht; simp only [zn]) | fail)
  refine bodyPost_ret (jB rfl _ _ (b_q2) rfl q2) rfl ?_; exact ⟨by rw [e1.out], by rw [e1.out]; exact ⟨r0, m0, row⟩, B.toChg⟩
/- Contract of Image of package raster. -/
theorem zbk (c : Rc) (s : List Px) (x y : Int) (p : Px) : (kz c s x y p).1.length = s.length := by
 unfold kz
 show (if _ then _ else _ : List Px).length = _
 split
 ·exact List.length_set
 ·rfl
theorem zdc (c : Rc) (s : List Px) (x y : Int) (p : Px) (h : p.ok) : (kz c s x y p).2.ok := h
/-- The pixels that Image of package raster makes. -/
def zbm (c : Rc) (ks : List TA) : List Px := (yJ (kz c) ks (List.replicate (areaN c) Px.zero) ks.length).1
theorem xH {w : World} {b : Nat} {c : Rc} (h : zF 38 w b (jV c)) : (Instr.loadAt 38 (.pointer (some ⟨b, 0, none⟩))).run Tryz.prog w = .ok (.agg #[.int .i64 c.x0, .int .i64 c.y0, .int .i64 c.x1, .int .i64 c.y1]) w :=
 zy h Tryz.isAgg38 (by kernel_rfl)
theorem uL {w : World} {b : Nat} {c : Rc} {u : Value} (h : zF 117 w b (xg c u)) : (Instr.loadAt 117 (.pointer (some ⟨b, 0, none⟩))).run Tryz.prog w = .ok (.agg #[.int .i64 c.x0, .int .i64 c.y0, .int .i64 c.x1, .int .i64 c.y1, u]) w :=
 zy h Tryz.isAgg117 (by kernel_rfl)
theorem xV (w : World) (o : Oper) (ho : o.op = .alloc 117) (ev : Operand → Value) : (execOp ev o).run Tryz.prog w = .ok (.value (.pointer (some ⟨w.heap.size, 0, none⟩))) (w.alloc (.cells (xg Rc.zero (.slice none 0 0)) 117)) := by
 obtain ⟨d, p, t, ps, af, gd⟩ := o
 simp only at ho
 subst ho
 kernel_rfl
theorem Z0 {c : Rc} (hf : j0 c) : vj c = (areaN c : Int) := by
 obtain ⟨a1, a2, a3, a4, a5, a6, a7, a8⟩ := hf
 have hE : qo c = false := by unfold qo; exact decide_eq_false (by omega)
 have hm := jL (a := c.x1 - c.x0) (b := c.y1 - c.y0) (m := 256) (k := 256) (by omega) (by omega) (by omega) (by omega)
 unfold vj areaN
 rw [hE]
 show (c.x1 - c.x0) * (c.y1 - c.y0) = _
 omega
theorem ZJ {c : Rc} (hf : j0 c) : 1 ≤ areaN c ∧ areaN c ≤ 65536 := by
 obtain ⟨a1, a2, a3, a4, a5, a6, a7, a8⟩ := hf
 unfold areaN
 have hm := jL (a := c.x1 - c.x0) (b := c.y1 - c.y0) (m := 256) (k := 256) (by omega) (by omega) (by omega) (by omega)
 have hp : 0 < (c.x1 - c.x0) * (c.y1 - c.y0) := Int.mul_pos (by omega) (by omega)
 omega
/- The sanity check of the raster laws: its values. -/
def sP : Px := ⟨9, 0, 0, 255⟩
def sQ : Px := ⟨1, 0, 0, 0⟩
def sC : Rc := ⟨-2, 9, 0, 10⟩
theorem s1 : zeK [] (-1) 9 sP = 0 := by decide
theorem s2 : zdG [] (-1) 9 sP = [⟨-1, 1, jJ (zeL zT 7 1 sP)⟩] := by rfl
def sR1 : List TA := [⟨-1, 1, jJ (zeL zT 7 1 sP)⟩]
theorem s3 : qq sR1 = true := by decide
theorem s4 : qX sR1 = sR1 := yT s3
theorem s5 : zeK sR1 (-1) 9 sQ = 0 := by decide
theorem s6 : zdG sR1 (-1) 9 sQ = [] := by rfl
theorem s7 : zeK sR1 65536 0 sP = 1 := by decide
theorem s8 : jr sC = 0 := by decide
theorem s11 : (zbm sC sR1).length = 2 := by decide
/-! ### '==' of rectangles -/
instance decRc : DecidableEq Rc := fun a b =>
 if h : a.x0 = b.x0 ∧ a.y0 = b.y0 ∧ a.x1 = b.x1 ∧ a.y1 = b.y1 then isTrue (by obtain ⟨a1, a2, a3, a4⟩ := a; obtain ⟨b1, b2, b3, b4⟩ := b; obtain ⟨rfl, rfl, rfl, rfl⟩ := h; rfl)
 else isFalse fun e => h (by rw [e]; exact ⟨rfl, rfl, rfl, rfl⟩)
@[go_sem] theorem zfv (op : BinOp) (p q : Operand) (a b : Array Value) (w : World) : (eqGuard op 38 p q (.agg a) (.agg b)).run Tryz.prog w = .ok () w := run_eqGuard_agg w op 38 p q _ _ (by kernel_rfl)
theorem zbW {g o : Nat} {ls : List Px} {w : World} (h : zK ka g o ls w) {i : Nat} {x : Px} (hi : ls[i]? = some x) : (Instr.loadAt 28 (.pointer (some ⟨g, o + i * 4, none⟩))).run Tryz.prog w = .ok (Px.v x) w :=
 h.load Tryz.isAgg28 hi
/-! ### The walk -/
/- Contracts of gouacheref04.Made, gouacheref07.Made. -/
section
variable {ops : Array Oper} {rest : List Oper} {o : Oper} {a : Act} {w : World} {Q : Exit → Act → World → Prop}
theorem y8 (hg : o.guard = none) (x y : Operand) (ho : o.op = .store 5 x y) (b : Nat) (hx : a.eval x = .pointer (some ⟨b, 3, none⟩)) (n : Int) (hy : a.eval y = .int .u8 n) {p : Px} (ht : jq w b p)
  (h : ∀ w', jq w' b ⟨p.r, p.g, p.b, n⟩ → qN b w w' → w'.heap.size = w.heap.size → wpList Tryz.prog ops Q rest (a.put o.dst undef) w') : wpList Tryz.prog ops Q (o :: rest) a w := by
 refine qe hg x y ho (w.setCell ⟨b, 3, none⟩ (.int .u8 n)) ?_ (h _ ?_ ((qN.refl b w).setCell _) (by simp only [World.size_setCell]))
 ·rw [hx, hy]
  obtain ⟨c0, c1, c2, c3⟩ := ht.cells; have hf := ht; unfold jq at hf; have hfr := zF.frozen (t := 28) hf 3; simp [go_sem, c3, hfr]
 ·have := heap_setCell_same w b 3 _ _ (.int .u8 n) ht
  exact this
end
def Vz (u : Int) : Int := if u % 5 = 1 then 255 else if u % 5 = 3 then 0 else u / 16777216
def kB (x : Int) : Px := ⟨x % 256, x % 4294967296 / 256 % 256, x % 4294967296 / 65536 % 256, Vz (x % 4294967296)⟩
set_option maxHeartbeats 1000000 in
theorem zcO (x : Int) (w : World) : Calls Tryz.prog 50 #[.int .i64 x] w fun e w' => e = .returned (Px.v (kB x)) ∧ Below w.heap.size w w' := by
 have B := Below.refl w.heap.size w
 by_cases h1 : x % 4294967296 % 5 = 1
 ·have e1 : kB x = ⟨x % 256, x % 4294967296 / 256 % 256, x % 4294967296 / 65536 % 256, 255⟩ := by unfold kB Vz; rw [if_pos h1]
  have d1 : (x % 4294967296 % 5 == 1) = true := by simp; omega
  have d3 : (x % 4294967296 % 5 == 3) = false := by simp; omega
  rw [e1]; clear e1 h1; go_enter Tryz.func50, Tryz.ntmps50
  go_wp2_with (first | (refine qh rfl _ _ rfl _ rfl (⟨_, _, _, _⟩) rfl q2 (qt B (by omega) ?_); clear q2 B; intro wn q2 ze zf zg B; (try replace q4 := q4.of_eq (ze.block _ q4.lt (by omega))); simp only [zn]) | (refine y8 rfl _ _ rfl _ rfl _ rfl q4 (qt B (by omega) ?_); clear q4 B; intro wn q4 ze zf zg B; (try replace q2 := q2.of_eq (ze.block _ q2.lt (by omega))); simp only [zn]) | (refine jC rfl _ rfl _ rfl q4 ?_; simp only [zn]) | (refine qh rfl _ _ rfl _ rfl (⟨_, _, _, _⟩) rfl q4 (qt B (by omega) ?_); clear q4 B; intro wn q4 ze zf zg B; (try replace q2 := q2.of_eq (ze.block _ q2.lt (by omega))); simp only [zn]) | (have _ := q2; refine qn rfl rfl (zV B ?_); clear B; intro b_q4 wn zb zd q4 za zf zk B; (try have zh := q2.lt); (try replace q2 := q2.below (za.mono zb)); (try have zh := q4.lt); (try replace q4 := q4.below (za.mono zb)); simp only [zn]) | (refine qn rfl rfl (zV B ?_); clear B; intro b_q2 wn zb zd q2 za zf zk B; (try have zh := q2.lt); (try replace q2 := q2.below (za.mono zb)); (try have zh := q4.lt); (try replace q4 := q4.below (za.mono zb)); simp only [zn]) | fail)
  refine bodyPost_ret (jB rfl _ _ (b_q2) rfl q2) rfl ?_; exact ⟨rfl, B⟩
 ·have d1 : (x % 4294967296 % 5 == 1) = false := by simp; omega
  by_cases h3 : x % 4294967296 % 5 = 3
  ·have e1 : kB x = ⟨x % 256, x % 4294967296 / 256 % 256, x % 4294967296 / 65536 % 256, 0⟩ := by unfold kB Vz; rw [if_neg h1, if_pos h3]
   have d3 : (x % 4294967296 % 5 == 3) = true := by simp; omega
   rw [e1]; clear e1 h1 h3; go_enter Tryz.func50, Tryz.ntmps50
   go_wp2_with (first | (refine qh rfl _ _ rfl _ rfl (⟨_, _, _, _⟩) rfl q2 (qt B (by omega) ?_); clear q2 B; intro wn q2 ze zf zg B; (try replace q4 := q4.of_eq (ze.block _ q4.lt (by omega))); simp only [zn]) | (refine y8 rfl _ _ rfl _ rfl _ rfl q4 (qt B (by omega) ?_); clear q4 B; intro wn q4 ze zf zg B; (try replace q2 := q2.of_eq (ze.block _ q2.lt (by omega))); simp only [zn]) | (refine jC rfl _ rfl _ rfl q4 ?_; simp only [zn]) | (refine qh rfl _ _ rfl _ rfl (⟨_, _, _, _⟩) rfl q4 (qt B (by omega) ?_); clear q4 B; intro wn q4 ze zf zg B; (try replace q2 := q2.of_eq (ze.block _ q2.lt (by omega))); simp only [zn]) | (have _ := q2; refine qn rfl rfl (zV B ?_); clear B; intro b_q4 wn zb zd q4 za zf zk B; (try have zh := q2.lt); (try replace q2 := q2.below (za.mono zb)); (try have zh := q4.lt); (try replace q4 := q4.below (za.mono zb)); simp only [zn]) | (refine qn rfl rfl (zV B ?_); clear B; intro b_q2 wn zb zd q2 za zf zk B; (try have zh := q2.lt); (try replace q2 := q2.below (za.mono zb)); (try have zh := q4.lt); (try replace q4 := q4.below (za.mono zb)); simp only [zn]) | fail)
   refine bodyPost_ret (jB rfl _ _ (b_q2) rfl q2) rfl ?_; exact ⟨rfl, B⟩
  ·have e1 : kB x = ⟨x % 256, x % 4294967296 / 256 % 256, x % 4294967296 / 65536 % 256, x % 4294967296 / 16777216⟩ := by unfold kB Vz; rw [if_neg h1, if_neg h3]
   have d3 : (x % 4294967296 % 5 == 3) = false := by simp; omega
   rw [e1]; clear e1 h1 h3; go_enter Tryz.func50, Tryz.ntmps50
   go_wp2_with (first | (refine qh rfl _ _ rfl _ rfl (⟨_, _, _, _⟩) rfl q2 (qt B (by omega) ?_); clear q2 B; intro wn q2 ze zf zg B; (try replace q4 := q4.of_eq (ze.block _ q4.lt (by omega))); simp only [zn]) | (refine y8 rfl _ _ rfl _ rfl _ rfl q4 (qt B (by omega) ?_); clear q4 B; intro wn q4 ze zf zg B; (try replace q2 := q2.of_eq (ze.block _ q2.lt (by omega))); simp only [zn]) | (refine jC rfl _ rfl _ rfl q4 ?_; simp only [zn]) | (refine qh rfl _ _ rfl _ rfl (⟨_, _, _, _⟩) rfl q4 (qt B (by omega) ?_); clear q4 B; intro wn q4 ze zf zg B; (try replace q2 := q2.of_eq (ze.block _ q2.lt (by omega))); simp only [zn]) | (have _ := q2; refine qn rfl rfl (zV B ?_); clear B; intro b_q4 wn zb zd q4 za zf zk B; (try have zh := q2.lt); (try replace q2 := q2.below (za.mono zb)); (try have zh := q4.lt); (try replace q4 := q4.below (za.mono zb)); simp only [zn]) | (refine qn rfl rfl (zV B ?_); clear B; intro b_q2 wn zb zd q2 za zf zk B; (try have zh := q2.lt); (try replace q2 := q2.below (za.mono zb)); (try have zh := q4.lt); (try replace q4 := q4.below (za.mono zb)); simp only [zn]) | fail)
   refine bodyPost_ret (jB rfl _ _ (b_q2) rfl q2) rfl ?_; exact ⟨rfl, B⟩
/- Slices of integers; contracts of gouacheref07.Made, pick. -/
def inE : ZQ Int 1 3 22 where
 enc := fun x => #[.int .i64 x]
 bytes := 8
 zero := 0
 size := fun _ => rfl
 one := fun x u hu => by
  have : u ∈ [Value.int .i64 x] := hu; rw [List.mem_singleton.1 this]; rfl
 pos := by omega
 small := by omega
 und := Tryz.underlying22
 info := by kernel_rfl
 zer := by kernel_rfl
theorem zdD {g o : Nat} {L : List Int} {w : World} (h : zK inE g o L w) {i : Nat} {x : Int} (hi : L[i]? = some x) : w.cell? ⟨g, o + i, none⟩ = some (.int .i64 x) := by
 have := h.2 i x hi 0 (by omega)
 rw [Nat.mul_one, Nat.add_zero] at this
 exact this
def QM (L : List Int) (i : Nat) : Int := L.getD i 0
theorem getD_some {L : List Int} {i : Nat} (h : i < L.length) : L[i]? = some (QM L i) := by
 unfold QM
 rw [List.getD_eq_getElem?_getD, List.getElem?_eq_getElem h]; rfl
def zbB (L : List Int) (i : Nat) : Int := QM L (i * L.length / 64)
def zfC (L : List Int) (i : Nat) : Px := if zbB L i % 4 = 2 then jf (kB (zbB L i + 7919 * i)) else jf (kB (zbB L i))
def zdY (L : List Int) : Nat → Px := if L.length = 0 then zT else zfC L
def jD (L : List Int) (i : Nat) (m : Int) : Int := if i < L.length then QM L i % 1048576 % m else 0
/- Contract of gouacheref08.Made. -/
/-- The raster that Made of gouacheref08 builds, after k rounds. -/
def zbA (L : List Int) : Nat → List TA
 | 0 => []
 | k + 1 => if 3 * k + 2 < L.length then zdG (zbA L k) (jD L (3 * k) 48 - 20) (jD L (3 * k + 1) 48 - 20) (kB (QM L (3 * k + 2))) else zbA L k
def zfB (L : List Int) : List TA := zbA L 40
/- Stores into a row of tiles at positions. -/
theorem zei (ls : List TA) (i k : Nat) (e : TA) (hi : i < ls.length) : aT (ls.set i e) k = if k = i then e else aT ls k := by
 unfold aT
 rw [List.getD_eq_getElem?_getD, List.getD_eq_getElem?_getD, List.getElem?_set]
 by_cases h : i = k
 ·subst h; simp [hi]
 ·rw [if_neg h, if_neg (Ne.symm h)]
theorem Zu (b : Nat) : ∀ (vs : List Value) (o : Nat) (w : World), (w.setCells b o vs).heap.size = w.heap.size
 | [], _, _ => rfl
 | v :: r, o, w => by
  show ((w.setCell ⟨b, o, none⟩ v).setCells b (o + 1) r).heap.size = _
  rw [Zu b r, World.size_setCell]
theorem qm.put {g o i s : Nat} {ls : List TA} {w : World} {vs : List Value} (h : qm g o ls w) (e' : TA) (hi : i < ls.length) (hs : s + vs.length ≤ 258)
  (he : ∀ j, j < 258 → (xL e')[j]? = if s ≤ j ∧ j < s + vs.length then vs[j - s]? else (xL (aT ls i))[j]?) : qm g o (ls.set i e') (w.setCells g (o + i * 258 + s) vs) := by
 refine ⟨by rw [Zu]; exact h.1, fun k hk j hj => ?_⟩
 rw [List.length_set] at hk
 rw [zei ls i k e' hi]
 have hsome : ∀ j, j < vs.length → (w.cell? ⟨g, o + i * 258 + s + j, none⟩).isSome = true := fun j hj => by
  have := h.2 i hi (s + j) (by omega); rw [show o + i * 258 + s + j = o + (i * 258 + (s + j)) by omega, this, Array.getElem?_eq_getElem (by rw [qc]; omega)]
  rfl
 by_cases hki : k = i
 ·subst hki
  rw [if_pos rfl, he j hj]; by_cases hj2 : s ≤ j ∧ j < s + vs.length
  ·rw [if_pos hj2, show o + (k * 258 + j) = o + k * 258 + s + (j - s) by omega, World.cell?_setCells_in g vs _ w hsome (j - s) (by omega), List.getElem?_eq_getElem]
  ·rw [if_neg hj2, World.cell?_setCells_out g vs _ w _ (fun _ _ => by show o + (k * 258 + j) < o + k * 258 + s ∨ o + k * 258 + s + vs.length ≤ o + (k * 258 + j); omega)]
   exact h.2 k hk j hj
 ·rw [if_neg hki, World.cell?_setCells_out g vs _ w _ (fun _ _ => by
   show o + (k * 258 + j) < o + i * 258 + s ∨ o + i * 258 + s + vs.length ≤ o + (k * 258 + j)
   rcases Nat.lt_or_gt_of_ne hki with hh | hh
   ·left; have : (k + 1) * 258 ≤ i * 258 := Nat.mul_le_mul_right _ hh; omega
   ·right; have : (i + 1) * 258 ≤ k * 258 := Nat.mul_le_mul_right _ hh; omega)]
  exact h.2 k hk j hj
/-- An owned row of tiles: its cells may be written. -/
theorem xo.row {B : Nat} {v : Value} {ls : List TA} {w : World} (h : xo B v ls w) (hl : 0 < ls.length) : ∃ g c, v = .slice (some ⟨g, 0, none⟩) ls.length c ∧ B ≤ g ∧ qm g 0 ls w ∧ ∀ j, w.frozen? ⟨g, j, none⟩ = false := by
 have hr := h.rs
 obtain ⟨h1, h2⟩ := h
 rcases h2 with ⟨rfl, h0⟩ | ⟨g, cap, cur, rfl, hb, hg, hn, hm, hs, ht⟩
 ·exact absurd hl (by omega)
 ·obtain ⟨g', o', e, rc⟩ := hr.at hl
  injection e with e
  injection e with e1 e2
  subst e1; subst e2; exact ⟨g, cap, rfl, hb, rc, fun j => zF.frozen (t := 125) hg j⟩
section
variable {ops : Array Oper} {rest : List Oper} {o : Oper} {a : Act} {w : World} {Q : Exit → Act → World → Prop} {ls : List TA} {g : Nat}
end
/- Contract of `of` of the law package of rasters. -/
/-- What Raw describes (its two slices aside). -/
structure zcP where
 at_ : Int
 px : Int
 py : Int
 how : Int
def zgh (t : Nat → Px) : Nat → Px := QC t 5 ⟨9, (t 5).g, (t 5).b, (t 5).a⟩
def zfU (q : zcP) (T : List Int) (e : TA) : TA :=
 if q.how % 8 = 1 then ⟨q.px, q.py, e.t⟩ else if q.how % 8 = 2 then ⟨e.x, e.y, zdY T⟩ else if q.how % 8 = 3 then ⟨e.x, e.y, zgh e.t⟩ else e
def ofI (q : zcP) (n : Nat) : Nat := (q.at_ % 65536).toNat % n
def ofR (q : zcP) (T : List Int) (r : List TA) : List TA :=
 if r.length = 0 then r else if q.how % 8 = 4 then r ++ [aT r (ofI q r.length)] else r.set (ofI q r.length) (zfU q T (aT r (ofI q r.length)))
def zhp (q : zcP) (L T : List Int) : List TA := ofR q T (zfB L)
/- Contract of `of` of the law package of rasters: the walk. -/
/- Contracts of `of` of the law package whole. -/
/- Contract of gouacheref08.Full. -/
def zfr (i : Nat) : TA := ⟨(i : Int) % 40, (i : Int) / 40, zdV ⟨(i : Int) % 256, 0, 0, 255⟩⟩
def zfs (n : Nat) : List TA := (List.range n).map zfr
end Go.Proofs.YtepelndbbhdofaaGreatDoor
/- Plain laws of rasters: cropping, bounds. -/
namespace Go.Proofs.YtepelndbbhdofaaGreatDoor
open Go.RowKit Pl
set_option linter.unusedVariables false
set_option linter.unusedSimpArgs false
/-- A tile cropped. -/
def zfk (c : Rc) (x y : Int) (t : Nat → Px) : Nat → Px := fun i => if i < 64 then (if js c (x * 8 + (i : Int) % 8) (y * 8 + (i : Int) / 8) = true then t i else Px.zero) else t i
def zgB (c : Rc) (e : TA) : List TA := jd e.x e.y (zfk c e.x e.y e.t)
theorem jx (r : Rc) (x y : Int) : js r x y = true ↔ (r.x0 ≤ x ∧ x < r.x1 ∧ r.y0 ≤ y ∧ y < r.y1) := by unfold js; exact decide_eq_true_iff
theorem Kf (r : Rc) : qo r = true ↔ (r.x1 ≤ r.x0 ∨ r.y1 ≤ r.y0) := by unfold qo; exact decide_eq_true_iff
theorem yS (r : Rc) : qo r = false ↔ (r.x0 < r.x1 ∧ r.y0 < r.y1) := by
 rw [← Bool.not_eq_true, Kf]; omega
theorem Zd (t : Nat → Px) : jE t = true ↔ ∀ i, i < 64 → (t i).a = 0 := by
 unfold jE
 rw [decide_eq_true_iff]
 exact ⟨fun h i hi => h i (List.mem_range.2 hi), fun h i hi => h i (List.mem_range.1 hi)⟩
theorem Q5 (e : TA) : yF e = true ↔ qP e.x e.y = true ∧ jE e.t = false ∧ uR (jJ e.t) e.t = true := by
 unfold yF
 rw [Bool.and_eq_true, Bool.and_eq_true, Bool.not_eq_true']
theorem za9 {t u : Nat → Px} (h : uR t u = true) {i : Nat} (hi : i < 64) : t i = u i := by
 unfold uR at h
 exact of_decide_eq_true h i (List.mem_range.2 hi)
/-! ### Bounds -/
/-- A pixel that is not transparent. -/
def Vis (ls : List TA) (x y : Int) : Prop := ∃ e, e ∈ ls ∧ ∃ i : Nat, i < 64 ∧ 0 < (e.t i).a ∧ x = e.x * 8 + (i : Int) % 8 ∧ y = e.y * 8 + (i : Int) / 8
/-- The least rectangle around V. -/
def zaU (V : Int → Int → Prop) (r : Rc) : Prop := (r = Rc.zero ∧ ∀ x y, ¬ V x y) ∨ (qo r = false ∧ (∀ x y, V x y → js r x y = true) ∧ (∃ y, V r.x0 y) ∧ (∃ x, V x r.y0) ∧ (∃ y, V (r.x1 - 1) y) ∧ ∃ x, V x (r.y1 - 1))
theorem zaU.add {V : Int → Int → Prop} {r : Rc} (h : zaU V r) (x y : Int) : zaU (fun a b => V a b ∨ (a = x ∧ b = y)) (xy r ⟨x, y, x + 1, y + 1⟩) := by
 have h1 : qo ⟨x, y, x + 1, y + 1⟩ = false := (yS _).2 ⟨by show x < x + 1; omega, by show y < y + 1; omega⟩
 rcases h with ⟨rfl, hn⟩ | ⟨he, hin, ⟨ya, ha⟩, ⟨xb, hb⟩, ⟨yc, hc⟩, ⟨xd, hd⟩⟩
 ·have e : xy Rc.zero ⟨x, y, x + 1, y + 1⟩ = ⟨x, y, x + 1, y + 1⟩ := by
   unfold xy vk; rw [if_pos (by decide), h1]
   rfl
  rw [e]; refine .inr ⟨h1, fun a b hv => ?_, ⟨y, .inr ⟨rfl, rfl⟩⟩, ⟨x, .inr ⟨rfl, rfl⟩⟩, ⟨y, .inr ⟨by show x + 1 - 1 = x; omega, rfl⟩⟩, ⟨x, .inr ⟨rfl, by show y + 1 - 1 = y; omega⟩⟩⟩
  rcases hv with hv | ⟨rfl, rfl⟩
  ·exact absurd hv (hn a b)
  ·rw [jx]; simp only; omega
 ·have e : xy r ⟨x, y, x + 1, y + 1⟩ = ⟨min r.x0 x, min r.y0 y, max r.x1 (x + 1), max r.y1 (y + 1)⟩ := by
   unfold xy; rw [he, h1, if_neg (by decide), if_neg (by decide)]
  rw [e]; have hen := (yS r).1 he; refine .inr ⟨(yS _).2 ⟨by show min r.x0 x < max r.x1 (x + 1); omega, by show min r.y0 y < max r.y1 (y + 1); omega⟩, fun a b hv => ?_, ?_, ?_, ?_, ?_⟩
  ·rw [jx]
   simp only; rcases hv with hv | ⟨rfl, rfl⟩
   ·have := (jx r a b).1 (hin a b hv)
    omega
   ·omega
  ·show ∃ b, V (min r.x0 x) b ∨ (min r.x0 x = x ∧ b = y)
   by_cases hh : r.x0 ≤ x
   ·exact ⟨ya, .inl (by rw [Int.min_eq_left hh]; exact ha)⟩
   ·exact ⟨y, .inr ⟨by omega, rfl⟩⟩
  ·show ∃ a, V a (min r.y0 y) ∨ (a = x ∧ min r.y0 y = y)
   by_cases hh : r.y0 ≤ y
   ·exact ⟨xb, .inl (by rw [Int.min_eq_left hh]; exact hb)⟩
   ·exact ⟨x, .inr ⟨rfl, by omega⟩⟩
  ·show ∃ b, V (max r.x1 (x + 1) - 1) b ∨ (max r.x1 (x + 1) - 1 = x ∧ b = y)
   by_cases hh : x + 1 ≤ r.x1
   ·exact ⟨yc, .inl (by rw [Int.max_eq_left hh]; exact hc)⟩
   ·exact ⟨y, .inr ⟨by omega, rfl⟩⟩
  ·show ∃ a, V a (max r.y1 (y + 1) - 1) ∨ (a = x ∧ max r.y1 (y + 1) - 1 = y)
   by_cases hh : y + 1 ≤ r.y1
   ·exact ⟨xd, .inl (by rw [Int.max_eq_left hh]; exact hd)⟩
   ·exact ⟨x, .inr ⟨rfl, by omega⟩⟩
theorem KR (ls : List TA) (x y : Int) : z7 ls x y = zT ∨ ∃ e, e ∈ ls ∧ e.x = x ∧ e.y = y ∧ z7 ls x y = e.t := by
 induction ls with
 | nil => exact .inl rfl
 | cons e r ih =>
  unfold z7; by_cases h : yH e.x e.y x y = true
  ·rw [if_pos h]
   have := of_decide_eq_true h; exact .inr ⟨e, List.mem_cons_self .., this.1, this.2, rfl⟩
  ·rw [if_neg h]
   rcases ih with ih | ⟨k, hk, hr⟩
   ·exact .inl ih
   ·exact .inr ⟨k, List.mem_cons_of_mem _ hk, hr⟩
end Go.Proofs.YtepelndbbhdofaaGreatDoor
/- Specifications of values that are rasters, for regions that draw their order; the full raster's validity. -/
namespace Go.Proofs.YtepelndbbhdofaaGreatDoor
open Go.RowKit Go.Shelf Pl
set_option linter.unusedVariables false
set_option linter.unusedSimpArgs false
set_option maxRecDepth 20000
def zht (L : List TA) : jo := ⟨Option Addr × Nat, ⟨(none, 0)⟩, fun x => .agg #[.slice x.1 L.length x.2], fun x w => RS (.slice x.1 L.length x.2) L w, fun _ _ _ hb h => h.below hb⟩
def zhA (L : List TA) (n : Int) : jo := ⟨Option Addr × Nat, ⟨(none, 0)⟩, fun x => .tuple #[.agg #[.slice x.1 L.length x.2], .int .i64 n], fun x w => RS (.slice x.1 L.length x.2) L w, fun _ _ _ hb h => h.below hb⟩
def zg6 (L : List TA) (n : Int) : jo := ⟨Option Addr × Nat, ⟨(none, 0)⟩, fun x => .agg #[.slice x.1 L.length x.2, .int .i64 n], fun x w => RS (.slice x.1 L.length x.2) L w, fun _ _ _ hb h => h.below hb⟩
def zfM (n : Nat) (t : TypeId) (cs : Array Value) : jo := ⟨Nat, ⟨0⟩, fun b => .pointer (some ⟨b, 0, none⟩), fun b w => n ≤ b ∧ zF t w b cs, fun _ _ _ hb h => ⟨h.1, h.2.of_eq (hb.block _ h.2.lt)⟩⟩
/-! ### The contracts at lists that are known to be valid; results told by another word -/
theorem zaH (v : Value) (ls : List TA) (r : Bool) (w : World) (h : RS v ls w) (tk : jc ls) (hn : ls.length ≤ maxLen) (e : qq ls = r) : Calls Tryz.prog 41 #[.agg #[v]] w fun e w' => e = .returned (.bool r) ∧ Below w.heap.size w w' := e ▸ Jt v ls w h tk hn
/- Contract of gouacheref08.Near. -/
def zgN (c : Rc) : Rc := ⟨c.x0 % 64 - 30, c.y0 % 64 - 30, c.x0 % 64 - 30 + 1 + c.x1 % 32, c.y0 % 64 - 30 + 1 + c.y1 % 32⟩
@[go_sem] theorem zd1 (p0 p1 p2 pa : Int) (w : World) : (Instr.field 28 (.agg #[.int .u8 p0, .int .u8 p1, .int .u8 p2, .int .u8 pa]) 3).run Tryz.prog w = .ok (.int .u8 pa) w := by kernel_rfl
/- Pairs of integers as blocks; one byte of a tile stored; contracts of Set and Put with a result told. -/
def i2 (a b : Int) (k : Nat) : Int := if k = 0 then a else b
theorem zF.cellL {t : TypeId} {w : World} {b : Nat} {l : List Value} (h : zF t w b l.toArray) (i : Nat) {v : Value} (hv : l[i]? = some v) : w.cell? ⟨b, i, none⟩ = some v := h.cell i (by simpa using hv)
end Go.Proofs.YtepelndbbhdofaaGreatDoor
/- Plain laws: how many tiles there are behind put; the full raster. -/
namespace Go.Proofs.YtepelndbbhdofaaGreatDoor
open Go.RowKit Pl
set_option linter.unusedVariables false
set_option linter.unusedSimpArgs false
theorem zch {ls : List TA} (h : ZW ls) {i j : Nat} (hij : i < j) (hj : j < ls.length) : xR (aT ls i) (aT ls j) = true := by
 have hi : i < ls.length := Nat.lt_trans hij hj
 have e : ∀ k (hk : k < ls.length), aT ls k = ls[k] := fun k hk => by
  have := ku hk; rw [List.getElem?_eq_getElem hk] at this; exact (Option.some.inj this).symm
 rw [e i hi, e j hj]
 exact List.pairwise_iff_getElem.1 h i j hi hj hij
/-- The tile of the law: its first pixel full. -/
def zha (Ls : List Int) : Nat → Px := QC (zdY Ls) 0 ⟨0, 0, 3, 255⟩
def F24 : List TA := zfs 1024
/- Plain: the pixels that Image makes are the raster's pixels, row by row. -/
/-- The pixel number j of a rectangle. -/
def widN (c : Rc) : Nat := (c.x1 - c.x0).toNat
def vx (c : Rc) (j : Nat) : Int := c.x0 + ((j % widN c : Nat) : Int)
def vy (c : Rc) (j : Nat) : Int := c.y0 + ((j / widN c : Nat) : Int)
def Qc (c : Rc) (ks : List TA) : List Px := (List.range (areaN c)).map fun j => xJ ks (vx c j) (vy c j)
theorem zbl (c : Rc) (ks : List TA) : (Qc c ks).length = areaN c := by unfold Qc; rw [List.length_map, List.length_range]
theorem zdd (c : Rc) (ks : List TA) {j : Nat} (hj : j < areaN c) : (Qc c ks)[j]? = some (xJ ks (vx c j) (vy c j)) := by
 unfold Qc
 rw [List.getElem?_map, List.getElem?_range hj]
 rfl
theorem xQ {c : Rc} (hf : j0 c) : areaN c = widN c * (c.y1 - c.y0).toNat ∧ 0 < widN c := by
 have h1 := hf.h1
 have h2 := hf.h2
 obtain ⟨W, hW⟩ : ∃ W : Nat, c.x1 - c.x0 = (W : Int) := ⟨(c.x1 - c.x0).toNat, by omega⟩
 obtain ⟨H, hH⟩ : ∃ H : Nat, c.y1 - c.y0 = (H : Int) := ⟨(c.y1 - c.y0).toNat, by omega⟩
 unfold areaN widN
 rw [hW, hH, ← Int.natCast_mul, Int.toNat_natCast, Int.toNat_natCast, Int.toNat_natCast]
 exact ⟨rfl, by omega⟩
theorem zbU {c : Rc} (hf : j0 c) {j : Nat} (hj : j < areaN c) : js c (vx c j) (vy c j) = true := by
 obtain ⟨ea, hw⟩ := xQ hf
 have hm := Nat.mod_lt j hw
 have hd : j / widN c < (c.y1 - c.y0).toNat := Nat.div_lt_of_lt_mul (by rw [← ea]; exact hj)
 rw [jx]
 unfold vx vy
 have hw' : widN c = (c.x1 - c.x0).toNat := rfl
 generalize j % widN c = u at hm ⊢
 generalize j / widN c = v at hd ⊢
 have := hf.h1
 have := hf.h2
 omega
/-- The index of a pixel, and back. -/
theorem zeu {c : Rc} (hf : j0 c) {j : Nat} (hj : j < areaN c) {x y : Int} (hh : js c x y = true) : (yI c x y).toNat = j ↔ x = vx c j ∧ y = vy c j := by
 obtain ⟨ea, hw⟩ := xQ hf
 have hr := (jx c x y).1 hh
 obtain ⟨u, hu⟩ : ∃ u : Nat, x - c.x0 = (u : Int) := ⟨(x - c.x0).toNat, by omega⟩
 obtain ⟨v, hv⟩ : ∃ v : Nat, y - c.y0 = (v : Int) := ⟨(y - c.y0).toNat, by omega⟩
 have hwi : c.x1 - c.x0 = (widN c : Int) := by unfold widN; have := hf.h1; omega
 have e : (yI c x y).toNat = v * widN c + u := by
  have : yI c x y = ((v * widN c + u : Nat) : Int) := by
   unfold yI; rw [hwi, hv]; have : (v : Int) * (widN c : Int) + x - c.x0 = (v : Int) * (widN c : Int) + (u : Int) := by omega
   rw [this]; simp
  rw [this]; exact Int.toNat_natCast _
 have hul : u < widN c := by omega
 rw [e]
 unfold vx vy
 constructor
 ·intro h
  have hm : j % widN c = u := by rw [← h, Nat.mul_comm, Nat.mul_add_mod]; exact Nat.mod_eq_of_lt hul
  have hd : j / widN c = v := by rw [← h, Nat.mul_comm, Nat.mul_add_div hw, Nat.div_eq_of_lt hul]; omega
  rw [hm, hd]; omega
 ·rintro ⟨hx, hy⟩
  have hu' : u = j % widN c := by omega
  have hv' : v = j / widN c := by omega
  rw [hu', hv', Nat.mul_comm]; exact Nat.div_add_mod j (widN c)
/-- The place of a pixel in its tile. -/
def Vp (x y : Int) : Nat := (8 * (y % 8) + x % 8).toNat
theorem Yp {c : Rc} (hf : j0 c) (e : TA) {s : List Px} (hs : s.length = areaN c) {j : Nat} (hj : j < areaN c) : ∀ m, m ≤ 64 → (yy (kz c) e m s).1.length = areaN c ∧ (yy (kz c) e m s).1[j]? = if yH e.x e.y (vx c j / 8) (vy c j / 8) = true ∧ Vp (vx c j) (vy c j) < m then some (e.t (Vp (vx c j) (vy c j))) else s[j]?
 | 0, _ => ⟨hs, by rw [if_neg (fun h => absurd h.2 (Nat.not_lt_zero _))]; rfl⟩
 | m + 1, hm => by
  obtain ⟨hl, ih⟩ := Yp hf e hs hj m (by omega); show (if js c (e.x * 8 + (m : Int) % 8) (e.y * 8 + (m : Int) / 8) = true then (yy (kz c) e m s).1.set (yI c (e.x * 8 + (m : Int) % 8) (e.y * 8 + (m : Int) / 8)).toNat (e.t m) else (yy (kz c) e m s).1).length = _ ∧
   (if js c (e.x * 8 + (m : Int) % 8) (e.y * 8 + (m : Int) / 8) = true then (yy (kz c) e m s).1.set (yI c (e.x * 8 + (m : Int) % 8) (e.y * 8 + (m : Int) / 8)).toNat (e.t m) else (yy (kz c) e m s).1)[j]? = _
  by_cases hh : js c (e.x * 8 + (m : Int) % 8) (e.y * 8 + (m : Int) / 8) = true
  ·rw [if_pos hh]
   refine ⟨by rw [List.length_set]; exact hl, ?_⟩
   rw [List.getElem?_set]; have hi := zeu hf hj hh; by_cases h1 : (yI c (e.x * 8 + (m : Int) % 8) (e.y * 8 + (m : Int) / 8)).toNat = j
   ·obtain ⟨ex, ey⟩ := hi.1 h1
    rw [if_pos h1, if_pos (by rw [h1, hl]; exact hj), ← ex, ← ey, if_pos ⟨decide_eq_true (by omega), by unfold Vp; omega⟩]
    congr 2
    unfold Vp; omega
   ·have hn := fun h => h1 (hi.2 h)
    rw [if_neg h1, ih]; by_cases h2 : yH e.x e.y (vx c j / 8) (vy c j / 8) = true ∧ Vp (vx c j) (vy c j) < m
    ·rw [if_pos h2, if_pos ⟨h2.1, by omega⟩]
    ·rw [if_neg h2, if_neg (fun h3 => ?_)]
     have hq := of_decide_eq_true h3.1; have h4 : Vp (vx c j) (vy c j) = m := by
      rcases Nat.lt_or_ge (Vp (vx c j) (vy c j)) m with h5 | h5
      ·exact absurd ⟨h3.1, h5⟩ h2
      ·omega
     unfold Vp at h4; exact hn ⟨by omega, by omega⟩
  ·rw [if_neg hh]
   refine ⟨hl, ?_⟩; rw [ih]; by_cases h2 : yH e.x e.y (vx c j / 8) (vy c j / 8) = true ∧ Vp (vx c j) (vy c j) < m
   ·rw [if_pos h2, if_pos ⟨h2.1, by omega⟩]
   ·rw [if_neg h2, if_neg (fun h3 => ?_)]
    have hq := of_decide_eq_true h3.1; have h4 : Vp (vx c j) (vy c j) = m := by
     rcases Nat.lt_or_ge (Vp (vx c j) (vy c j)) m with h5 | h5
     ·exact absurd ⟨h3.1, h5⟩ h2
     ·omega
    unfold Vp at h4; apply hh
    have := zbU hf hj; rw [show e.x * 8 + (m : Int) % 8 = vx c j by omega, show e.y * 8 + (m : Int) / 8 = vy c j by omega]; exact this
theorem KQ (a : List TA) (e : TA) (x y : Int) (h : yH e.x e.y x y = false) : z7 (a ++ [e]) x y = z7 a x y := by
 induction a with
 | nil => show (if yH e.x e.y x y = true then e.t else zT) = zT; rw [h]; rfl
 | cons b r ih =>
  show (if yH b.x b.y x y = true then b.t else z7 (r ++ [e]) x y) = if yH b.x b.y x y = true then b.t else z7 r x y
  rw [ih]
theorem Qg {c : Rc} (hf : j0 c) {ks : List TA} (hs : ZW ks) {j : Nat} (hj : j < areaN c) : ∀ k, k ≤ ks.length → (yJ (kz c) ks (List.replicate (areaN c) Px.zero) k).1.length = areaN c ∧ (yJ (kz c) ks (List.replicate (areaN c) Px.zero) k).1[j]? = some (xJ (ks.take k) (vx c j) (vy c j))
 | 0, _ => by
  refine ⟨List.length_replicate .., ?_⟩; show (List.replicate (areaN c) Px.zero)[j]? = some (z7 [] _ _ _)
  rw [List.getElem?_replicate, if_pos hj]
  rfl
 | k + 1, hk => by
  obtain ⟨hl, ih⟩ := Qg hf hs hj k (by omega); have hr := Yp hf (aT ks k) hl hj 64 (Nat.le_refl _); refine ⟨hr.1, hr.2.trans ?_⟩; have ht : ks.take (k + 1) = ks.take k ++ [aT ks k] := by
   rw [List.take_add_one, ku (show k < ks.length from hk)]
   rfl
  have h64 : Vp (vx c j) (vy c j) < 64 := by unfold Vp; omega
  rw [ht]; unfold xJ; by_cases he : yH (aT ks k).x (aT ks k).y (vx c j / 8) (vy c j / 8) = true
  ·rw [if_pos ⟨he, h64⟩, kY]
   ·show _ = some ((if yH (aT ks k).x (aT ks k).y (vx c j / 8) (vy c j / 8) = true then (aT ks k).t else zT) _)
    rw [if_pos he]
    rfl
   ·intro b hb
    obtain ⟨i, hi⟩ := List.mem_iff_getElem?.1 hb; have hik : i < k := by
     have := (List.getElem?_eq_some_iff.1 hi).1; rw [List.length_take] at this; omega
    rw [List.getElem?_take_of_lt hik, ku (by omega)] at hi; obtain rfl := Option.some.inj hi; have zh := zch hs hik (show k < ks.length from hk); have hq := of_decide_eq_true he; have zh := of_decide_eq_true zh; exact decide_eq_false (by omega)
  ·rw [if_neg (fun h => he h.1), ih, KQ _ _ _ _ (by simpa using he)]
   rfl
/-- What Image makes of a valid raster. -/
theorem zbn {c : Rc} (hf : j0 c) {ks : List TA} (hv : qq ks = true) : zbm c ks = Qc c ks := by
 apply List.ext_getElem?
 intro j
 by_cases hj : j < areaN c
 ·have := (Qg hf (yl hv) hj ks.length (Nat.le_refl _)).2
  rw [List.take_length] at this; rw [zdd c ks hj]; exact this
 ·have e2 : (Qc c ks)[j]? = none := List.getElem?_eq_none (by rw [zbl]; omega)
  rw [e2]; apply List.getElem?_eq_none
  have hz : 0 < areaN c := by have := (ZJ hf).1; omega
  have := (Qg hf (yl hv) hz ks.length (Nat.le_refl _)).1; show (yJ (kz c) ks (List.replicate (areaN c) Px.zero) ks.length).1.length ≤ j
  omega
/- Plain: a raster after pixel updates, by its pixels; grids of 32 times 32 pixels. -/
/-- A pixel update, as the law sends it. -/
structure Dt where
 x : Int
 y : Int
 p : Px
/-- All positions lie near the origin. -/
def zfa (r : List TA) : Prop := ∀ e ∈ r, -2 ≤ e.x ∧ e.x ≤ 1 ∧ -2 ≤ e.y ∧ e.y ≤ 1
theorem Vq : ∀ (l : List Nat) (m n : Nat), l.Pairwise (· < ·) → (∀ x ∈ l, m ≤ x ∧ x < n) → l.length ≤ n - m
 | [], _, _, _, _ => Nat.zero_le _
 | a :: t, m, n, hp, hb => by
  have ha := hb a (List.mem_cons_self ..); have h1 := List.pairwise_cons.1 hp; have := Vq t (a + 1) n h1.2 fun x hx => ⟨h1.1 x hx, (hb x (List.mem_cons_of_mem _ hx)).2⟩
  rw [List.length_cons]; omega
theorem XG (p : Px) : jf (jf p) = jf p := by
 unfold jf
 split
 ·split <;> rfl
 ·rfl
section
variable {r : List TA} {X Y : Int} {p : Px} (hv : qq r = true) (hs : zfa r) (hX : -16 ≤ X ∧ X ≤ 15) (hY : -16 ≤ Y ∧ Y ≤ 15)
end
/-- The raster after the first k updates. -/
def zgc (d : Dt) : Int := d.x % 32 - 16
def zgd (d : Dt) : Int := d.y % 32 - 16
def dAt (l : List Dt) (k : Nat) : Dt := l.getD k ⟨0, 0, Px.zero⟩
def zga (l : List Dt) : Nat → List TA
 | 0 => []
 | k + 1 => zdG (zga l k) (zgc (dAt l k)) (zgd (dAt l k)) (dAt l k).p
/-- The pixels wanted. -/
def zgb (l : List Dt) : Nat → Nat → Px
 | 0 => fun _ => Px.zero
 | k + 1 => QC (zgb l k) (((dAt l k).y % 32).toNat * 32 + ((dAt l k).x % 32).toNat) (jf (dAt l k).p)
/-! ### Grids -/
def zgH (f : Nat → Px) : Array Value := Array.ofFn (n := 4096) fun k => pxC (f (k.val / 4)) (k.val % 4)
end Go.Proofs.YtepelndbbhdofaaGreatDoor
/- The pixel at a column and a row of a rectangle. -/
namespace Go.Proofs.YtepelndbbhdofaaGreatDoor
open Go.RowKit Go.Shelf Pl
theorem zbV {c : Rc} (hf : j0 c) {X Y : Nat} (hX : (X : Int) < c.x1 - c.x0) (hY : (Y : Int) < c.y1 - c.y0) : ∃ k : Nat, (k : Int) = (Y : Int) * (c.x1 - c.x0) + (X : Int) ∧ k < areaN c ∧ vx c k = c.x0 + X ∧ vy c k = c.y0 + Y := by
 obtain ⟨ea, hw⟩ := xQ hf
 have hwi : c.x1 - c.x0 = (widN c : Int) := by unfold widN; have := hf.h1; omega
 have hX' : X < widN c := by omega
 refine ⟨Y * widN c + X, by rw [hwi]; simp, ?_, ?_, ?_⟩
 ·have h : (Y + 1) * widN c ≤ (c.y1 - c.y0).toNat * widN c := Nat.mul_le_mul_right _ (by omega)
  rw [Nat.add_mul, Nat.one_mul] at h; rw [ea, Nat.mul_comm (widN c)]; omega
 ·unfold vx
  rw [Nat.add_comm, Nat.add_mul_mod_self_right, Nat.mod_eq_of_lt hX']
 ·unfold vy
  rw [Nat.add_comm, Nat.add_mul_div_right _ _ hw, Nat.div_eq_of_lt hX', Nat.zero_add]
end Go.Proofs.YtepelndbbhdofaaGreatDoor
/- Plain: the positions of a rectangle's tiles; what Paste computes. -/
namespace Go.Proofs.YtepelndbbhdofaaGreatDoor
open Go.RowKit Pl
set_option linter.unusedVariables false
set_option linter.unusedSimpArgs false
/-- The rectangle of the tiles that a rectangle meets. -/
def wB (c : Rc) : Rc := ⟨c.x0 / 8, c.y0 / 8, (c.x1 - 1) / 8 + 1, (c.y1 - 1) / 8 + 1⟩
theorem kZ {c : Rc} (h : j0 c) : j0 (wB c) := by
 obtain ⟨a1, a2, a3, a4, a5, a6, a7, a8⟩ := h
 refine ⟨?_, ?_, ?_, ?_, ?_, ?_, ?_, ?_⟩ <;> (unfold wB; simp only; omega)
def YG (c : Rc) : Nat := areaN (wB c)
theorem zcn {c : Rc} (h : j0 c) : YG c ≤ 1089 := by
 have e := (xQ (kZ h)).1
 obtain ⟨a1, a2, a3, a4, a5, a6, a7, a8⟩ := h
 unfold YG
 rw [e]
 have h1 : widN (wB c) ≤ 33 := by unfold widN wB; simp only; omega
 have h2 : ((wB c).y1 - (wB c).y0).toNat ≤ 33 := by unfold wB; simp only; omega
 exact Nat.mul_le_mul h1 h2
def u5 (c : Rc) (k : Nat) : Int × Int := (vx (wB c) k, vy (wB c) k)
def yx (c : Rc) : List (Int × Int) := (List.range (YG c)).map (u5 c)
theorem zbO (c : Rc) : (yx c).length = YG c := by unfold yx; rw [List.length_map, List.length_range]
theorem VK {c : Rc} (hf : j0 c) {k : Nat} (hk : k < YG c) : qP (u5 c k).1 (u5 c k).2 = true := by
 have h := (jx _ _ _).1 (zbU (kZ hf) hk)
 have h3 := hf.h3
 have h4 := hf.h4
 have h5 := hf.h5
 have h6 := hf.h6
 unfold u5
 refine decide_eq_true ?_
 unfold wB at h
 simp only at h ⊢
 unfold wB
 omega
theorem zdy {c : Rc} (hf : j0 c) : ∀ p ∈ yx c, qP p.1 p.2 = true := fun p hp => by
 obtain ⟨k, hk, rfl⟩ := List.mem_map.1 hp
 exact VK hf (List.mem_range.1 hk)
theorem zbP {c : Rc} (hf : j0 c) {j k : Nat} (h : u5 c j = u5 c k) : j = k := by
 have hw := (xQ (kZ hf)).2
 unfold u5 vx vy at h
 injection h with h1 h2
 have e1 : j % widN (wB c) = k % widN (wB c) := by omega
 have e2 : j / widN (wB c) = k / widN (wB c) := by omega
 rw [← Nat.div_add_mod j (widN (wB c)), ← Nat.div_add_mod k (widN (wB c)), e1, e2]
theorem Ku {c : Rc} (hf : j0 c) : (yx c).Nodup := by
 unfold yx
 exact List.Pairwise.map _ (fun a b hab e => hab (zbP hf e)) List.nodup_range
/-! ### Pasting -/
def Qj (c : Rc) (L : List Px) (X Y : Int) : Px := L.getD (yI c X Y).toNat Px.zero
def ZB (c : Rc) (L : List Px) (X Y : Int) (p : Px) : Px := if js c X Y = true then jf (Qj c L X Y) else p
def j5 (c : Rc) (L : List Px) (x y : Int) (t : Nat → Px) : Nat → Px := fun i => if i < 64 then ZB c L (x * 8 + (i : Int) % 8) (y * 8 + (i : Int) / 8) (t i) else t i
def Kv (c : Rc) (L : List Px) (_ : Unit) (X Y : Int) (p : Px) : Unit × Px := ((), ZB c L X Y p)
theorem Yq (c : Rc) (L : List Px) (e : TA) : ∀ k, ∀ i, (yy (Kv c L) e k ()).2 i = if i < k then ZB c L (e.x * 8 + (i : Int) % 8) (e.y * 8 + (i : Int) / 8) (e.t i) else e.t i
 | 0, i => by rw [if_neg (by omega)]; rfl
 | k + 1, i => by
  show QC (yy (Kv c L) e k ()).2 k (ZB c L (e.x * 8 + (k : Int) % 8) (e.y * 8 + (k : Int) / 8) (e.t k)) i = _
  unfold QC; by_cases h : i = k
  ·subst h
   rw [if_pos rfl, if_pos (Nat.lt_succ_self _)]
  ·rw [if_neg h, Yq c L e k i]
   by_cases h2 : i < k
   ·rw [if_pos h2, if_pos (Nat.lt_succ_of_lt h2)]
   ·rw [if_neg h2, if_neg (show ¬ i < k + 1 from by omega)]
theorem KH (c : Rc) (L : List Px) (e : TA) : (yy (Kv c L) e 64 ()).2 = j5 c L e.x e.y e.t := funext fun i => Yq c L e 64 i
theorem zbC (c : Rc) (L : List Px) (e : TA) : (yJ (Kv c L) [e] () 1).2 = jd e.x e.y (j5 c L e.x e.y e.t) := by
 show [] ++ jd (aT [e] 0).x (aT [e] 0).y (yy (Kv c L) (aT [e] 0) 64 ()).2 = _
 have h : aT [e] 0 = e := rfl
 rw [h, KH, List.nil_append]
def V3 (L : List Px) : Prop := ∀ p ∈ L, p.ok
theorem VJ {c : Rc} {L : List Px} (h : V3 L) (X Y : Int) : (Qj c L X Y).ok := by
 unfold Qj
 rw [List.getD_eq_getElem?_getD]
 cases hk : L[(yI c X Y).toNat]? with
 | none => exact Px.zero_ok
 | some p => exact h p (List.mem_of_getElem? hk)
theorem VL {c : Rc} {L : List Px} (h : V3 L) (X Y : Int) (p : Px) (hp : p.ok) : (ZB c L X Y p).ok := by
 unfold ZB
 split
 ·exact Q2 (VJ h X Y)
 ·exact hp
theorem Yi {c : Rc} {L : List Px} (h : V3 L) (x y : Int) {t : Nat → Px} (ht : YR t) : YR (j5 c L x y t) := fun i hi => by
 unfold j5
 rw [if_pos hi]
 exact VL h _ _ _ (ht i hi)
def YU (ls : List TA) : Prop := ∀ e ∈ ls, uR (jJ e.t) e.t = true
theorem uO {ls : List TA} (h : YU ls) (x y : Int) {i : Nat} (hi : i < 64) : jf (z7 ls x y i) = z7 ls x y i := by
 rcases KR ls x y with e | ⟨e, he, _, _, ht⟩
 ·rw [e]; rfl
 ·rw [ht]
  exact za9 (h e he) hi
theorem YI {ls : List TA} (h : qq ls = true) : YU ls := fun e he => ((Q5 e).1 (vR h e he)).2.2
theorem Qm (c : Rc) (L : List Px) (x y : Int) {t : Nat → Px} (h : ∀ i, i < 64 → jf (t i) = t i) : ∀ i, i < 64 → jf (j5 c L x y t i) = j5 c L x y t i := fun i hi => by
 unfold j5
 rw [if_pos hi]
 unfold ZB
 split
 ·exact XG _
 ·exact h i hi
def Ye (c : Rc) (L : List Px) (ls : List TA) (p : Int × Int) : List TA := yK ls p.1 p.2 (j5 c L p.1 p.2 (z7 ls p.1 p.2))
def xp (c : Rc) (L : List Px) (ls : List TA) (ps : List (Int × Int)) : List TA := ps.foldl (Ye c L) ls
theorem WI (c : Rc) (L : List Px) (ls : List TA) (ps : List (Int × Int)) (p : Int × Int) : xp c L ls (ps ++ [p]) = Ye c L (xp c L ls ps) p := by unfold xp; rw [List.foldl_append]; rfl
theorem wu (c : Rc) (L : List Px) (ls : List TA) (p : Int × Int) (ps : List (Int × Int)) : xp c L ls (p :: ps) = xp c L (Ye c L ls p) ps := rfl
theorem Yf (c : Rc) (L : List Px) (ps : List (Int × Int)) : ∀ ls, (xp c L ls ps).length ≤ ls.length + ps.length := by
 induction ps with
 | nil => intro ls; exact Nat.le_refl _
 | cons p r ih =>
  intro ls; rw [wu]; have h1 := ih (Ye c L ls p); have h2 := Zn ls p.1 p.2 (j5 c L p.1 p.2 (z7 ls p.1 p.2)); rw [List.length_cons]; unfold Ye at h1 ⊢; omega
theorem Ql (c : Rc) (L : List Px) (ps : List (Int × Int)) : ∀ ls, ZW ls → ZW (xp c L ls ps) := by
 induction ps with
 | nil => intro ls h; exact h
 | cons p r ih => intro ls h; exact ih _ (Yj h)
theorem Yh {c : Rc} {L : List Px} (hL : V3 L) (ps : List (Int × Int)) : ∀ ls, jc ls → jc (xp c L ls ps) := by
 induction ps with
 | nil => intro ls h; exact h
 | cons p r ih => intro ls h; exact ih _ (zbT h (Yi hL _ _ (kH h _ _)))
theorem WH (c : Rc) (L : List Px) (ps : List (Int × Int)) : ∀ ls, (∀ e ∈ ls, yF e = true) → (∀ p ∈ ps, qP p.1 p.2 = true) → ∀ e ∈ xp c L ls ps, yF e = true := by
 induction ps with
 | nil => intro ls h _; exact h
 | cons p r ih =>
  intro ls h hp; refine ih _ (WN h (hp p (List.mem_cons_self ..)) ?_) (fun q hq => hp q (List.mem_cons_of_mem _ hq)); exact XJ fun i hi => Qm c L _ _ (fun j hj => uO (fun e he => ((Q5 e).1 (h e he)).2.2) _ _ hj) i hi
/-- The tile at a position behind a paste. -/
theorem wQ (c : Rc) (L : List Px) {X Y : Int} (ps : List (Int × Int)) : ∀ ls, (X, Y) ∉ ps → z7 (xp c L ls ps) X Y = z7 ls X Y := by
 induction ps with
 | nil => intro ls _; rfl
 | cons p r ih =>
  intro ls h; rw [wu, ih _ (fun e => h (List.mem_cons_of_mem _ e))]; refine vo _ _ _ _ (decide_eq_false fun e => h ?_); have : p = (X, Y) := Prod.ext e.1 e.2; rw [this]; exact List.mem_cons_self ..
theorem Xd (c : Rc) (L : List Px) {X Y : Int} (ps : List (Int × Int)) : ∀ ls, ZW ls → ps.Nodup → (X, Y) ∈ ps → z7 (xp c L ls ps) X Y = if jE (j5 c L X Y (z7 ls X Y)) = true then zT else j5 c L X Y (z7 ls X Y) := by
 induction ps with
 | nil => intro ls _ _ h; cases h
 | cons p r ih =>
  intro ls hs hn h; obtain ⟨h1, h2⟩ := List.pairwise_cons.1 hn; rw [wu]; by_cases hp : p = (X, Y)
  ·subst hp
   rw [wQ c L r _ (fun e => h1 _ e rfl)]; exact QA hs _ _ _
  ·rcases List.mem_cons.1 h with e | e
   ·exact absurd e.symm hp
   ·rw [ih (Ye c L ls p) (Yj hs) h2 e]
    have : z7 (Ye c L ls p) X Y = z7 ls X Y := vo _ _ _ _ (decide_eq_false fun e => hp (Prod.ext e.1 e.2)); rw [this]
theorem X9 {c : Rc} (hf : j0 c) {X Y : Int} : (X, Y) ∈ yx c ↔ js (wB c) X Y = true := by
 constructor
 ·intro h
  obtain ⟨k, hk, e⟩ := List.mem_map.1 h; have := zbU (kZ hf) (List.mem_range.1 hk); unfold u5 at e
  injection e with e1 e2
  rw [← e1, ← e2]; exact this
 ·intro h
  have hr := (jx _ _ _).1 h; obtain ⟨k, _, hk, e1, e2⟩ := zbV (kZ hf) (X := (X - (wB c).x0).toNat) (Y := (Y - (wB c).y0).toNat) (by omega) (by omega); refine List.mem_map.2 ⟨k, List.mem_range.2 hk, ?_⟩; unfold u5; rw [e1, e2]; exact Prod.ext (by simp only; omega) (by simp only; omega)
/-- A pixel behind a paste. -/
theorem zbi {c : Rc} (hf : j0 c) (L : List Px) {ls : List TA} (hs : ZW ls) (hc : YU ls) (x y : Int) : xJ (xp c L ls (yx c)) x y = if js c x y = true then jf (Qj c L x y) else xJ ls x y := by
 have hi : (8 * (y % 8) + x % 8).toNat < 64 := by omega
 have ex : x / 8 * 8 + (((8 * (y % 8) + x % 8).toNat : Nat) : Int) % 8 = x := by omega
 have ey : y / 8 * 8 + (((8 * (y % 8) + x % 8).toNat : Nat) : Int) / 8 = y := by omega
 have hp : j5 c L (x / 8) (y / 8) (z7 ls (x / 8) (y / 8)) (8 * (y % 8) + x % 8).toNat = if js c x y = true then jf (Qj c L x y) else xJ ls x y := by
  unfold j5; rw [if_pos hi, ex, ey]
  rfl
 unfold xJ at hp ⊢
 by_cases hm : (x / 8, y / 8) ∈ yx c
 ·rw [Xd c L _ _ hs (Ku hf) hm]
  by_cases hz : jE (j5 c L (x / 8) (y / 8) (z7 ls (x / 8) (y / 8))) = true
  ·rw [if_pos hz, ← hp]
   have h0 := (Zd _).1 hz _ hi; have h1 := Qm c L (x / 8) (y / 8) (t := z7 ls (x / 8) (y / 8)) (fun j hj => uO hc _ _ hj) _ hi; rw [← h1]; unfold jf; rw [if_pos h0]
   rfl
  ·rw [if_neg hz, hp]
 ·rw [wQ c L _ _ hm]
  rw [if_neg]; intro hh; apply hm
  rw [X9 hf, jx]; have := (jx _ _ _).1 hh; unfold wB; simp only; omega
def uE (c : Rc) (L : List Px) (ls : List TA) : Int := if jN c = true ∧ (L.length : Int) = vj c then (if jr c = 0 then kC (xp c L (qX ls) (yx c)) else jr c) else 1
def kE (c : Rc) (L : List Px) (ls : List TA) : List TA := if jN c = true ∧ (L.length : Int) = vj c then (if jr c = 0 then yw (xp c L (qX ls) (yx c)) else []) else []
theorem Kw (c : Rc) (L : List Px) (ls : List TA) : qq (kE c L ls) = true := by
 unfold kE
 split
 ·split
  ·rename_i hE
   unfold yw; split
   ·rename_i h
    exact W9 h (WH c L _ _ (vR (xe ls)) (zdy (yh hE))) (Ql c L _ _ (yl (xe ls)))
   ·exact xl
  ·exact xl
 ·exact xl
theorem zbR {c : Rc} {L : List Px} {ls : List TA} (hL : V3 L) (h : jc ls) : jc (kE c L ls) := by
 unfold kE
 split
 ·split
  ·unfold yw
   split
   ·exact Yh hL _ _ (ky h)
   ·exact jc.nil
  ·exact jc.nil
 ·exact jc.nil
/-- The cut of a sorted list: what stands there. -/
theorem zes {ls : List TA} (hs : ZW ls) {x y : Int} (h : yC ls x y = true) : cutL ls x y < ls.length ∧ aT ls (cutL ls x y) = ⟨x, y, z7 ls x y⟩ := by
 unfold yC at h
 obtain ⟨h1, h2⟩ := Bool.and_eq_true_iff.1 h
 have h1 := of_decide_eq_true h1
 have h2 := of_decide_eq_true h2
 refine ⟨h1, ?_⟩
 have hm : aT ls (cutL ls x y) ∈ ls := List.mem_of_getElem? (ku h1)
 have ht := W5 hs hm
 rw [h2.1, h2.2] at ht
 rw [ht]
 obtain ⟨e1, e2⟩ := h2
 generalize aT ls (cutL ls x y) = e at *
 obtain ⟨ex, ey, et⟩ := e
 simp only at e1 e2
 subst e1 e2
 rfl
theorem zc9 {ls : List TA} (hs : ZW ls) {x y : Int} (h : yC ls x y = false) : z7 ls x y = zT := by
 refine uc fun e he => ?_
 obtain ⟨j, hj⟩ := List.mem_iff_getElem?.1 he
 have hjl : j < ls.length := (List.getElem?_eq_some_iff.1 hj).1
 rw [ku hjl] at hj
 obtain rfl := Option.some.inj hj
 by_cases hc : j < cutL ls x y
 ·have := of_decide_eq_true (Vh hc)
  exact decide_eq_false (by omega)
 ·unfold yC at h
  have hcl : cutL ls x y < ls.length := by omega
  rw [decide_eq_true hcl, Bool.true_and] at h; by_cases e : j = cutL ls x y
  ·rw [e]; exact h
  ·have h1 := of_decide_eq_true (zch hs (show cutL ls x y < j by omega) hjl)
   have h2 := of_decide_eq_false (Vg hcl); exact decide_eq_false (by omega)
theorem RS.congr {v : Value} {ls ks : List TA} {w : World} (h : RS v ls w) (hl : ls.length = ks.length) (hr : vM ls = vM ks) : RS v ks w := by
 rcases h with ⟨h1, rfl⟩ | ⟨g, o, c, e, hc, sc⟩
 ·exact .inl ⟨h1, List.eq_nil_of_length_eq_zero hl.symm⟩
 ·refine .inr ⟨g, o, c, by rw [← hl]; exact e, by omega, fun hn => ⟨(sc (by omega)).1, fun i hi j hj => ?_⟩⟩
  rw [(sc (by omega)).2 i (by omega) j hj, ← ZO ls i j (by omega) hj, hr, ZO ks i j hi hj]
theorem Jb (ls : List TA) (x y : Int) {t u : Nat → Px} (ht : jE t = true) (hu : jE u = true) : yK ls x y t = yK ls x y u := by
 rw [kF, kF]
 unfold jd
 rw [if_pos ht, if_pos hu]
/- Plain: the positions at which two rasters differ, in order; replacing them. -/
def ltP (a b : Int × Int) : Bool := jZ a.1 a.2 b.1 b.2
def JV (e : TA) : Int × Int := (e.x, e.y)
def zgX (l : List (Int × Int)) : Prop := l.Pairwise fun a b => ltP a b = true
theorem XI {t u : Nat → Px} (h : uR t u = true) : uR u t = true := XJ fun i hi => (za9 h hi).symm
theorem zba (t u : Nat → Px) : uR t u = uR u t := by
 rw [Bool.eq_iff_iff]
 exact ⟨XI, XI⟩
/-- No tile without a visible pixel. -/
def Nz (ls : List TA) : Prop := ∀ e ∈ ls, jE e.t = false
def zcu (a b : List TA) (p : Int × Int) : Prop := uR (z7 a p.1 p.2) (z7 b p.1 p.2) = false
theorem zcu.symm {a b : List TA} {p : Int × Int} (h : zcu a b p) : zcu b a p := by unfold zcu at *; rw [zba]; exact h
/-! ### Changed of package raster: two lists merged -/
def za1 : List TA → List TA → List (Int × Int)
 | [], [] => []
 | [], e :: r => JV e :: za1 [] r
 | d :: q, [] => JV d :: za1 q []
 | d :: q, e :: r => if jZ d.x d.y e.x e.y = true then JV d :: za1 q (e :: r) else if jZ e.x e.y d.x d.y = true then JV e :: za1 (d :: q) r else (if uR d.t e.t = true then [] else [JV d]) ++ za1 q r
termination_by a b => a.length + b.length
/-! ### Changed of the reference: what differs of the first, then the second's inserted -/
def zfz : List (Int × Int) → Int × Int → List (Int × Int)
 | [], p => [p]
 | q :: r, p => if q = p then q :: r else if ltP p q = true then p :: q :: r else q :: zfz r p
def zf5 (a b : List TA) : List (Int × Int) := (a.filter fun e => !uR e.t (z7 b e.x e.y)).map JV
def zf6 (a : List TA) (o : List (Int × Int)) (b : List TA) : List (Int × Int) := b.foldl (fun o e => if uR e.t (z7 a e.x e.y) = true then o else zfz o (JV e)) o
def zg2 (a b : List TA) : List (Int × Int) := zf6 a (zf5 a b) b
/-! ### The changed tiles replaced -/
def mv1 (b : List TA) (s : List TA) (p : Int × Int) : List TA := zfN s p.1 p.2 (z7 b p.1 p.2)
def mvL (b : List TA) (s : List TA) (ps : List (Int × Int)) : List TA := ps.foldl (mv1 b) s
/- Plain: strokes painted dab by dab. -/
def yV (c : Rc) (f : Int → Int → Px) : List Px := (List.range (areaN c)).map fun j => f (vx c j) (vy c j)
theorem Kr (c : Rc) (f : Int → Int → Px) : (yV c f).length = areaN c := by unfold yV; rw [List.length_map, List.length_range]
theorem WD (c : Rc) (f : Int → Int → Px) {j : Nat} (h : j < areaN c) : (yV c f)[j]? = some (f (vx c j) (vy c j)) := by
 unfold yV
 rw [List.getElem?_map, List.getElem?_range h]
 rfl
theorem WE {c : Rc} {f : Int → Int → Px} (h : ∀ x y, (f x y).ok) : V3 (yV c f) := fun p hp => by
 unfold yV at hp
 obtain ⟨j, _, rfl⟩ := List.mem_map.1 hp
 exact h _ _
theorem WG {c : Rc} (hf : j0 c) (f : Int → Int → Px) {x y : Int} (h : js c x y = true) : Qj c (yV c f) x y = f x y := by
 have hh := (jx _ _ _).1 h
 obtain ⟨k, e1, e2, e3, e4⟩ := zbV hf (X := (x - c.x0).toNat) (Y := (y - c.y0).toNat) (by omega) (by omega)
 have ek : (yI c x y).toNat = k := by
  unfold yI; have hy : (((y - c.y0).toNat : Nat) : Int) = y - c.y0 := by omega
  have hx : (((x - c.x0).toNat : Nat) : Int) = x - c.x0 := by omega
  rw [hy, hx] at e1; omega
 unfold Qj
 rw [ek, List.getD_eq_getElem?_getD, WD c f e2, e3, e4]
 show f _ _ = _
 congr 1 <;> omega
theorem zdL {R : Rc} (hR : j0 R) {ls : List TA} (hs : ZW ls) (h : ∀ e ∈ ls, js R e.x e.y = true) : ls.length ≤ areaN R := by
 obtain ⟨ea, hw⟩ := xQ hR
 have hW : (widN R : Int) = R.x1 - R.x0 := by unfold widN; have := hR.h1; omega
 have key : ∀ e ∈ ls, (e.x - R.x0).toNat < widN R ∧ ((e.x - R.x0).toNat : Int) = e.x - R.x0 ∧ ((e.y - R.y0).toNat : Int) = e.y - R.y0 ∧ (e.y - R.y0).toNat < (R.y1 - R.y0).toNat := fun e he => by
  have := (jx _ _ _).1 (h e he); omega
 have hp : (ls.map fun e => (e.y - R.y0).toNat * widN R + (e.x - R.x0).toNat).Pairwise (· < ·) := by
  rw [List.pairwise_map]; refine hs.imp_of_mem fun {a b} ha hb hab => ?_
  obtain ⟨a1, a2, a3, _⟩ := key a ha; obtain ⟨b1, b2, b3, _⟩ := key b hb; have hh := of_decide_eq_true hab; rcases hh with hh | ⟨h1, h2⟩
  ·have : (a.y - R.y0).toNat + 1 ≤ (b.y - R.y0).toNat := by omega
   have := Nat.mul_le_mul_right (widN R) this; rw [Nat.add_mul, Nat.one_mul] at this; omega
  ·have : (a.y - R.y0).toNat = (b.y - R.y0).toNat := by omega
   rw [this]; omega
 have := Vq _ 0 (areaN R) hp fun x hx => by
  obtain ⟨e, he, rfl⟩ := List.mem_map.1 hx; obtain ⟨a1, a2, a3, a4⟩ := key e he; refine ⟨Nat.zero_le _, ?_⟩; have := Nat.mul_le_mul_right (widN R) (show (e.y - R.y0).toNat + 1 ≤ (R.y1 - R.y0).toNat by omega); rw [Nat.add_mul, Nat.one_mul] at this; rw [ea, Nat.mul_comm (widN R)]; omega
 simpa using this
/-! ### One dab -/
def JN (s : qv) (n : Int) (p : Px) : Px := if 0 < n then (if s.era = true then Zh p (255 - n) else uy p s.col 0 n) else p
def ZC (d : Db) : Rc := kP (kX d) JR
def VQ (d : Db) : Bool := decide (d.r < 1) || qo (ZC d)
def vw (s : qv) (d : Db) (ls : List TA) : List Px := yV (ZC d) (fun x y => JN s (vr d x y) (xJ ls x y))
def j4 (s : qv) (st : List TA × Int) (d : Db) : List TA × Int :=
 if st.2 ≠ 0 ∨ VQ d = true then st else (kE (ZC d) (vw s d st.1) st.1, uE (ZC d) (vw s d st.1) st.1)
def xK (s : qv) (l : List Db) (ls : List TA) : List TA × Int := l.foldl (j4 s) (ls, 0)
def xh (s : qv) (ls : List TA) : List TA × Int := if qM s = true then xK s (jY s) (qX ls) else ([], 1)
theorem zde {s : qv} (hc : s.col.ok) (n : Int) {p : Px} (hp : p.ok) : (JN s n p).ok := by
 unfold JN
 split
 ·split
  ·exact zbc hp _
  ·exact zbK hp hc _ _
 ·exact hp
theorem XH (r : Rc) : qo (vk r) = qo r := by
 unfold vk
 split
 ·rename_i h
  rw [h]; rfl
 ·rfl
theorem zeS (d : Db) : qo (ZC d) = false → ZC d = ⟨max (kX d).x0 (-65536), max (kX d).y0 (-65536), min (kX d).x1 65536, min (kX d).y1 65536⟩ := fun h => by
 unfold ZC kP at h ⊢
 rw [XH] at h
 unfold vk
 rw [h]
 rfl
theorem Xc {d : Db} (ok : VE d) (h : VQ d = false) : jr (ZC d) = 0 ∧ j0 (ZC d) := by
 unfold VQ at h
 rw [Bool.or_eq_false_iff] at h
 obtain ⟨h1, h2⟩ := h
 have e := zeS d h2
 have hE := (yS _).1 h2
 obtain ⟨a1, a2, a3, a4, a5, a6⟩ := ok
 rw [e] at hE ⊢
 unfold kX at hE ⊢
 simp only at hE
 have hF : j0 ⟨max ((d.x - d.r) / 16) (-65536), max ((d.y - d.r) / 16) (-65536), min ((d.x + d.r) / 16 + 1) 65536, min ((d.y + d.r) / 16 + 1) 65536⟩ := by
  refine ⟨?_, ?_, ?_, ?_, ?_, ?_, ?_, ?_⟩ <;> (simp only; omega)
 refine ⟨?_, hF⟩
 unfold jr
 rw [if_pos hF.valid, if_neg (by have h7 := hF.h7; have h8 := hF.h8; simp only at h7 h8 ⊢; omega)]
theorem Qe (s : qv) (d : Db) (ls : List TA) : (vw s d ls).length = areaN (ZC d) := Kr _ _
theorem Vr {s : qv} (hc : s.col.ok) (d : Db) {ls : List TA} (h : jc ls) : V3 (vw s d ls) := WE fun x y => zde hc _ (kH h _ _ _ (by omega))
theorem Ja {c : Rc} {L : List Px} {ls : List TA} (hE : jr c = 0) (hL : L.length = areaN c) (hv : qq ls = true) : uE c L ls = kC (xp c L ls (yx c)) ∧ kE c L ls = yw (xp c L ls (yx c)) := by
 have hF := yh hE
 have hAr : (L.length : Int) = vj c := by rw [hL, Z0 hF]
 have e1 : uE c L ls = if jr c = 0 then kC (xp c L (qX ls) (yx c)) else jr c := if_pos ⟨hF.valid, hAr⟩
 have e2 : kE c L ls = if jr c = 0 then yw (xp c L (qX ls) (yx c)) else [] := if_pos ⟨hF.valid, hAr⟩
 rw [e1, e2, if_pos hE, if_pos hE, yT hv]
 exact ⟨rfl, rfl⟩
theorem Km {l : List TA} (h : kC l = 0) : yw l = l := by
 unfold kC at h
 unfold yw
 split at h
 ·rename_i k
  rw [if_pos k]
 ·cases h
theorem XZ {l : List TA} (h : l.length ≤ 1024) : kC l = 0 ∧ yw l = l := by
 unfold kC yw
 rw [if_pos h, if_pos h]
 exact ⟨rfl, rfl⟩
theorem zbq (s : qv) {st : List TA × Int} (h : st.2 ≠ 0) (d : Db) : j4 s st d = st := by unfold j4; rw [if_pos (.inl h)]
theorem wd (s : qv) (st : List TA × Int) {d : Db} (h : VQ d = true) : j4 s st d = st := by unfold j4; rw [if_pos (.inr h)]
theorem JM (s : qv) {ls : List TA} {d : Db} (h : VQ d = false) : j4 s (ls, 0) d = (kE (ZC d) (vw s d ls) ls, uE (ZC d) (vw s d ls) ls) := by
 unfold j4
 rw [if_neg (by rw [h]; simp)]
theorem JO (s : qv) : ∀ (l : List Db) {st : List TA × Int}, st.2 ≠ 0 → l.foldl (j4 s) st = st
 | [], _, _ => rfl
 | d :: r, st, h => by
  show r.foldl (j4 s) (j4 s st d) = st
  rw [zbq s h]; exact JO s r h
theorem Ws (s : qv) (l : List Db) (d : Db) (ls : List TA) : xK s (l ++ [d]) ls = j4 s (xK s l ls) d := by unfold xK; rw [List.foldl_append]; rfl
/-- Valid it stays. -/
theorem w8 (s : qv) {st : List TA × Int} (h : qq st.1 = true) (d : Db) : qq (j4 s st d).1 = true := by
 unfold j4
 split
 ·exact h
 ·exact Kw _ _ _
theorem XR {s : qv} (hc : s.col.ok) {st : List TA × Int} (h : jc st.1) (d : Db) : jc (j4 s st d).1 := by
 unfold j4
 split
 ·exact h
 ·exact zbR (Vr hc d h) h
theorem Vt {s : qv} (hc : s.col.ok) : ∀ (l : List Db) (st : List TA × Int), qq st.1 = true → jc st.1 → qq (l.foldl (j4 s) st).1 = true ∧ jc (l.foldl (j4 s) st).1
 | [], st, h, k => ⟨h, k⟩
 | d :: r, st, h, k => Vt hc r (j4 s st d) (w8 s h d) (XR hc k d)
theorem w9 {s : qv} (hc : s.col.ok) (l : List Db) {ls : List TA} (h : qq ls = true) (k : jc ls) : qq (xK s l ls).1 = true ∧ jc (xK s l ls).1 := Vt hc l (ls, 0) h k
theorem zbS (c : Rc) (L : List Px) (ls : List TA) (h : uE c L ls ≠ 0) : kE c L ls = [] := by
 unfold uE at h
 unfold kE
 split
 ·rename_i k
  rw [if_pos k] at h; split
  ·rename_i k2
   rw [if_pos k2] at h; unfold kC at h; unfold yw; split
   ·rename_i k3
    rw [if_pos k3] at h; exact absurd rfl h
   ·rfl
  ·rfl
 ·rfl
theorem zbu (s : qv) (l : List Db) : ∀ (st : List TA × Int), (st.2 ≠ 0 → st.1 = []) → ((l.foldl (j4 s) st).2 ≠ 0 → (l.foldl (j4 s) st).1 = []) := by
 induction l with
 | nil => intro st h; exact h
 | cons d r ih =>
  intro st h; refine ih (j4 s st d) fun k => ?_
  unfold j4 at k ⊢; split
  ·rename_i g
   rw [if_pos g] at k; exact h k
  ·rename_i g
   rw [if_neg g] at k; exact zbS _ _ _ k
theorem Wr (s : qv) (l : List Db) (ls : List TA) (h : (xK s l ls).2 ≠ 0) : (xK s l ls).1 = [] := zbu s l (ls, 0) (fun k => absurd rfl k) h
theorem X7 {s : qv} (hc : s.col.ok) {ls : List TA} (k : jc ls) : qq (xh s ls).1 = true ∧ jc (xh s ls).1 := by
 unfold xh
 split
 ·exact w9 hc _ (xe ls) (ky k)
 ·exact ⟨xl, jc.nil⟩
/-! ### A pixel -/
def Ww (s : qv) (x y : Int) (p : Px) (d : Db) : Px := if VQ d = false ∧ js (ZC d) x y = true then jf (JN s (vr d x y) p) else p
theorem zdg {s : qv} {d : Db} {ls : List TA} (ok : VE d) (hk : VQ d = false) (hv : qq ls = true) (he : uE (ZC d) (vw s d ls) ls = 0) (x y : Int) : xJ (kE (ZC d) (vw s d ls) ls) x y = Ww s x y (xJ ls x y) d := by
 obtain ⟨hE, hF⟩ := Xc ok hk
 obtain ⟨e1, e2⟩ := Ja hE (Qe s d ls) hv
 rw [e1] at he
 rw [e2, Km he, zbi hF _ (yl hv) (YI hv)]
 unfold Ww
 by_cases hh : js (ZC d) x y = true
 ·rw [if_pos hh, if_pos ⟨hk, hh⟩]
  unfold vw; rw [WG hF _ hh]
 ·rw [if_neg hh, if_neg (fun k => hh k.2)]
theorem XT {s : qv} (hc : s.col.ok) (x y : Int) : ∀ (l : List Db) (ls : List TA), (∀ d ∈ l, VE d) → qq ls = true → jc ls → (xK s l ls).2 = 0 → xJ (xK s l ls).1 x y = l.foldl (Ww s x y) (xJ ls x y)
 | [], ls, _, _, _, _ => rfl
 | d :: r, ls, ok, hv, ht, he => by
  have e0 : xK s (d :: r) ls = r.foldl (j4 s) (j4 s (ls, 0) d) := rfl; rw [e0] at he ⊢; show xJ _ x y = r.foldl (Ww s x y) (Ww s x y (xJ ls x y) d)
  by_cases hz : (j4 s (ls, 0) d).2 = 0
  ·have e1 : r.foldl (j4 s) (j4 s (ls, 0) d) = xK s r (j4 s (ls, 0) d).1 := by
    unfold xK
    congr 1
    exact Prod.ext rfl hz
   rw [e1] at he ⊢; rw [XT hc x y r _ (fun e h => ok e (List.mem_cons_of_mem _ h)) (w8 s (st := (ls, 0)) hv d) (XR hc (st := (ls, 0)) ht d) he]
   congr 1
   cases hk : VQ d with
   | true =>
    rw [wd s _ hk]; unfold Ww; rw [if_neg (by rw [hk]; simp)]
   | false =>
    rw [JM s hk] at hz ⊢; exact zdg (ok d (List.mem_cons_self ..)) hk hv hz x y
  ·rw [JO s r hz] at he
   exact absurd he hz
/-! ### Few tiles -/
theorem zbQ {c : Rc} {L : List Px} {ls : List TA} {p : Int × Int} {e : TA} (h : e ∈ Ye c L ls p) : e ∈ ls ∨ JV e = p := by
 rcases Qn h with h | ⟨rfl, _⟩
 ·exact .inl h
 ·exact .inr rfl
theorem Yg {c : Rc} {L : List Px} : ∀ (ps : List (Int × Int)) (ls : List TA) {e : TA}, e ∈ xp c L ls ps → e ∈ ls ∨ JV e ∈ ps
 | [], ls, e, h => .inl h
 | p :: r, ls, e, h => by
  rw [wu] at h; rcases Yg r _ h with h | h
  ·rcases zbQ h with h | h
   ·exact .inl h
   ·exact .inr (h ▸ List.mem_cons_self ..)
  ·exact .inr (List.mem_cons_of_mem _ h)
/-- A raster whose tiles lie in R. -/
def YT (R : Rc) (ls : List TA) : Prop := ∀ e ∈ ls, js R e.x e.y = true
def zd6 (R : Rc) (d : Db) : Prop := VQ d = false → ∀ x y, js (wB (ZC d)) x y = true → js R x y = true
theorem zbp {s : qv} {R : Rc} (hR : j0 R) (hN : areaN R ≤ 1024) {ls : List TA} {d : Db} (ok : VE d) (hv : qq ls = true) (hb : YT R ls) (hd : zd6 R d) : (j4 s (ls, 0) d).2 = 0 ∧ YT R (j4 s (ls, 0) d).1 := by
 cases hk : VQ d with
 | true => rw [wd s _ hk]; exact ⟨rfl, hb⟩
 | false =>
  rw [JM s hk]; obtain ⟨hE, hF⟩ := Xc ok hk; obtain ⟨e1, e2⟩ := Ja hE (Qe s d ls) hv; have hbx : YT R (xp (ZC d) (vw s d ls) ls (yx (ZC d))) := fun e he => by
   rcases Yg _ _ he with h | h
   ·exact hb e h
   ·exact hd hk _ _ ((X9 hF).1 h)
  have hl := zdL hR (Ql (ZC d) (vw s d ls) (yx (ZC d)) ls (yl hv)) hbx; obtain ⟨m1, m2⟩ := XZ (Nat.le_trans hl hN); simp only [e1, e2, m1, m2]; exact ⟨trivial, hbx⟩
theorem XS {s : qv} {R : Rc} (hR : j0 R) (hN : areaN R ≤ 1024) : ∀ (l : List Db) (ls : List TA), (∀ d ∈ l, VE d) → (∀ d ∈ l, zd6 R d) → qq ls = true → YT R ls → (xK s l ls).2 = 0 ∧ YT R (xK s l ls).1
 | [], ls, _, _, _, hb => ⟨rfl, hb⟩
 | d :: r, ls, ok, hd, hv, hb => by
  obtain ⟨h1, h2⟩ := zbp (s := s) hR hN (ok d (List.mem_cons_self ..)) hv hb (hd d (List.mem_cons_self ..)); have e1 : xK s (d :: r) ls = xK s r (j4 s (ls, 0) d).1 := by
   show r.foldl (j4 s) (j4 s (ls, 0) d) = r.foldl (j4 s) ((j4 s (ls, 0) d).1, 0)
   congr 1
   exact Prod.ext rfl h1
  rw [e1]; exact XS hR hN r _ (fun e h => ok e (List.mem_cons_of_mem _ h)) (fun e h => hd e (List.mem_cons_of_mem _ h)) (w8 s (st := (ls, 0)) hv d) h2
/-! ### The area -/
end Go.Proofs.YtepelndbbhdofaaGreatDoor
