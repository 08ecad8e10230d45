import Derived.Test.YtepelndbbhdofaaGreatDoorKb3
import Derived.Laws.IdiomStrings

/- Contracts of dab, square, Cover of package stroke and of its reference; of limits, Intersect of the references. -/
namespace Go.Proofs.YtepelndbbhdofaaGreatDoor
open Go.RowKit Go.Shelf Pl
set_option linter.unusedVariables false
set_option linter.unusedSimpArgs false
set_option maxRecDepth 20000
set_option maxHeartbeats 1000000 in
theorem zet (v : Value) (s : qS) (x y z q : Int) (w : World) (hr : 0 ≤ s.rad ∧ s.rad ≤ 256) (hz : 0 ≤ z ∧ z ≤ 255) (e : qj (s.rad * z) 255 = q) : Calls Tryz.prog 110 #[.agg (qR v s), .int .i64 x, .int .i64 y, .int .i64 z] w fun e w' => e = .returned (.agg #[.int .i64 x, .int .i64 y, .int .i64 q]) ∧ Below w.heap.size w w' := by
 have B := Below.refl w.heap.size w
 have m := jW (m := 256) (k := 255) hr.1 hr.2 hz.1 hz.2
 have E := Lib.hid e
 clear e
 go_enter Tryz.func110, Tryz.ntmps110
 go_upto_region 0 with fail
 refine wp_region_lit ?_
 (refine zt (t := 30) rfl _ rfl _ rfl (z6 B ?_); clear B; intro b_r4 wn zb zd r4 za zf zk B; simp only [zn])
 (refine zu (t := 45) rfl _ (yX _ _ rfl) (z6 B ?_); clear B; intro b_d8 wn zb zd d8 za zf zk B; (try have zh := r4.lt); (try replace r4 := r4.below (za.mono zb)); simp only [zn])
 refine wpList_nil ?_
 go_upto_region 1 with fail
 refine wp_region_lit ?_
 refine zy 6 ?_
 refine qT (enters_of Tryz.func68 (by kernel_rfl) rfl) (c := kJ (s.rad * z) 255 q _ (by omega) (by omega) (by omega) (by omega) E.out) (h := ?_)
 rintro e wn ⟨rfl, za⟩
 have zf := B.size
 have zg := za.size
 replace B := B.trans (za.mono B.size)
 (try replace d8 := d8.below za)
 refine ⟨_, rfl, ?_⟩
 simp only [zn]
 refine zy 1 ?_
 (refine zq (t := 45) rfl _ _ rfl _ rfl _ rfl d8 (by kernel_rfl) rfl (by simp [j4, Value.oneCell']) (qG B (by omega) ?_); clear d8 B; intro wn d8 ze zf zg B; simp only [zn])
 refine wpList_nil ?_
 first | (refine bodyPost_ret (zv (t := 45) rfl _ _ (b_d8) rfl d8 Tryz.isAgg45 (by kernel_rfl)) rfl ?_) | (go_step; refine bodyPost_ret (zv (t := 45) rfl _ _ (b_d8) rfl d8 Tryz.isAgg45 (by kernel_rfl)) rfl ?_) | (go_step; go_step; refine bodyPost_ret (zv (t := 45) rfl _ _ (b_d8) rfl d8 Tryz.isAgg45 (by kernel_rfl)) rfl ?_) | (go_step; go_step; go_step; refine bodyPost_ret (zv (t := 45) rfl _ _ (b_d8) rfl d8 Tryz.isAgg45 (by kernel_rfl)) rfl ?_) | (go_step; go_step; go_step; go_step; refine bodyPost_ret (zv (t := 45) rfl _ _ (b_d8) rfl d8 Tryz.isAgg45 (by kernel_rfl)) rfl ?_) | (go_step; go_step; go_step; go_step; go_step; refine bodyPost_ret (zv (t := 45) rfl _ _ (b_d8) rfl d8 Tryz.isAgg45 (by kernel_rfl)) rfl ?_)
 exact ⟨rfl, B⟩
set_option maxHeartbeats 2000000 in
theorem yG (d : Db) (r : Rc) (w : World) (hx : -1000000000000 ≤ d.x ∧ d.x ≤ 1000000000000) (hy : -1000000000000 ≤ d.y ∧ d.y ≤ 1000000000000) (hr : -1000000000000 ≤ d.r ∧ d.r ≤ 1000000000000) (e : vt d = r) : Calls Tryz.prog 62 #[.agg (vj.enc d)] w fun e w' => e = .returned (.agg (j4 r)) ∧ Below w.heap.size w w' := by
 have B := Below.refl w.heap.size w
 obtain ⟨q1, h1⟩ : ∃ q, (d.x - d.r) / 16 = q := ⟨_, rfl⟩
 obtain ⟨q2, h2⟩ : ∃ q, (d.y - d.r) / 16 = q := ⟨_, rfl⟩
 obtain ⟨q3, h3⟩ : ∃ q, (d.x + d.r) / 16 = q := ⟨_, rfl⟩
 obtain ⟨q4, h4⟩ : ∃ q, (d.y + d.r) / 16 = q := ⟨_, rfl⟩
 obtain rfl : r = ⟨q1, q2, q3 + 1, q4 + 1⟩ := by rw [← e]; unfold vt; rw [h1, h2, h3, h4]
 have b3 : -1000000000000 ≤ q3 ∧ q3 ≤ 1000000000000 := by omega
 have b4 : -1000000000000 ≤ q4 ∧ q4 ≤ 1000000000000 := by omega
 have H1 := Lib.hid h1
 have H2 := Lib.hid h2
 have H3 := Lib.hid h3
 have H4 := Lib.hid h4
 clear e h1 h2 h3 h4
 go_enter Tryz.func62, Tryz.ntmps62
 go_upto_region 0 with fail
 refine wp_region_lit ?_
 (refine zt (t := 45) rfl _ rfl _ rfl (z6 B ?_); clear B; intro b_d1 wn zb zd d1 za zf zk B; simp only [zn])
 (refine zu (t := 38) rfl _ (zZ _ _ rfl) (z6 B ?_); clear B; intro b_r2 wn zb zd r2 za zf zk B; (try have zh := d1.lt); (try replace d1 := d1.below (za.mono zb)); simp only [zn])
 refine wpList_nil ?_
 go_upto_region 1 with fail
 try have lx_d1 := d1.lt
 try have lx_r2 := r2.lt
 refine zF 27 [(5, zE ?v1_5), (11, zE ?v1_11), (17, zE ?v1_17), (24, zE ?v1_24)] (by kernel_rfl) (by kernel_rfl) (by kernel_rfl) ?_
 rotate_left 4
 simp only [jK, Nat.reduceAdd]
 refine vT 5 ?_
 refine zz (by rfl) (by first | rfl | simp [Region.wanted, yielded]) ?_ ?_
 ·intro wn za hE Kx hKx
  have zf := B.size; have zg := za.size; replace B := B.trans (za.mono B.size)
  (try replace d1 := d1.below za)
  (try replace r2 := r2.below za)
  refine zG rfl (enters_of Tryz.func111 (by kernel_rfl) rfl) (by simp only [Act.eval, qo]; rfl) ?_
  refine (vU (d.x - d.r) 16 q1 wn (by omega) (by omega) (by omega) (by omega) H1.out).mono ?_; rintro e wm ⟨rfl, zl⟩; refine ⟨_, rfl, ?_⟩; have hz := hKx () wm trivial zl
  dsimp only [zE] at hz
  exact hz
 rintro ⟨⟩
 dsimp only [zE]
 simp only [zn]
 refine vT 5 ?_
 refine zz (by rfl) (by first | rfl | simp [Region.wanted, yielded]) ?_ ?_
 ·intro wn za hE Kx hKx
  have zf := B.size; have zg := za.size; replace B := B.trans (za.mono B.size)
  (try replace d1 := d1.below za)
  (try replace r2 := r2.below za)
  refine zG rfl (enters_of Tryz.func111 (by kernel_rfl) rfl) (by simp only [Act.eval, qo]; rfl) ?_
  refine (vU (d.y - d.r) 16 q2 wn (by omega) (by omega) (by omega) (by omega) H2.out).mono ?_; rintro e wm ⟨rfl, zl⟩; refine ⟨_, rfl, ?_⟩; have hz := hKx () wm trivial zl
  dsimp only [zE] at hz
  exact hz
 rintro ⟨⟩
 dsimp only [zE]
 simp only [zn]
 refine vT 5 ?_
 refine zz (by rfl) (by first | rfl | simp [Region.wanted, yielded]) ?_ ?_
 ·intro wn za hE Kx hKx
  have zf := B.size; have zg := za.size; replace B := B.trans (za.mono B.size)
  (try replace d1 := d1.below za)
  (try replace r2 := r2.below za)
  refine zG rfl (enters_of Tryz.func111 (by kernel_rfl) rfl) (by simp only [Act.eval, qo]; rfl) ?_
  refine (vU (d.x + d.r) 16 q3 wn (by omega) (by omega) (by omega) (by omega) H3.out).mono ?_; rintro e wm ⟨rfl, zl⟩; refine ⟨_, rfl, ?_⟩; have hz := hKx () wm trivial zl
  dsimp only [zE] at hz
  exact hz
 rintro ⟨⟩
 dsimp only [zE]
 simp only [zn]
 refine vT 6 ?_
 refine zz (by rfl) (by first | rfl | simp [Region.wanted, yielded]) ?_ ?_
 ·intro wn za hE Kx hKx
  have zf := B.size; have zg := za.size; replace B := B.trans (za.mono B.size)
  (try replace r2 := r2.below za)
  refine zG rfl (enters_of Tryz.func111 (by kernel_rfl) rfl) (by simp only [Act.eval, qo]; rfl) ?_
  refine (vU (d.y + d.r) 16 q4 wn (by omega) (by omega) (by omega) (by omega) H4.out).mono ?_; rintro e wm ⟨rfl, zl⟩; refine ⟨_, rfl, ?_⟩; have hz := hKx () wm trivial zl
  dsimp only [zE] at hz
  exact hz
 rintro ⟨⟩
 dsimp only [zE]
 simp only [zn]
 refine vT 2 ?_
 refine zY ?_
 intro wn za hE
 have zf := B.size
 have zg := za.size
 replace B := B.trans (za.mono B.size)
 (try replace r2 := r2.below za)
 clear hE
 try simp only [List.drop_succ_cons, List.drop_zero]
 go_wp2_with (first | (refine zq (t := 38) rfl _ _ rfl _ rfl _ rfl r2 (by kernel_rfl) rfl (by simp [j4, Value.oneCell']) (qG B (by omega) ?_); clear r2 B; intro wn r2 ze zf zg B; simp only [zn]) | fail)
 refine zN.normal ?_
 first | (refine bodyPost_ret (zv (t := 38) rfl _ _ (b_r2) rfl r2 Tryz.isAgg38 (by kernel_rfl)) rfl ?_) | (go_step; refine bodyPost_ret (zv (t := 38) rfl _ _ (b_r2) rfl r2 Tryz.isAgg38 (by kernel_rfl)) rfl ?_) | (go_step; go_step; refine bodyPost_ret (zv (t := 38) rfl _ _ (b_r2) rfl r2 Tryz.isAgg38 (by kernel_rfl)) rfl ?_) | (go_step; go_step; go_step; refine bodyPost_ret (zv (t := 38) rfl _ _ (b_r2) rfl r2 Tryz.isAgg38 (by kernel_rfl)) rfl ?_) | (go_step; go_step; go_step; go_step; refine bodyPost_ret (zv (t := 38) rfl _ _ (b_r2) rfl r2 Tryz.isAgg38 (by kernel_rfl)) rfl ?_) | (go_step; go_step; go_step; go_step; go_step; refine bodyPost_ret (zv (t := 38) rfl _ _ (b_r2) rfl r2 Tryz.isAgg38 (by kernel_rfl)) rfl ?_)
 exact ⟨rfl, B⟩
theorem XS (r s : Rc) (q : Rc) (w : World) (e : vm r s = q) : Calls Tryz.prog 46 #[.agg (j4 r), .agg (j4 s)] w fun e w' => e = .returned (.agg (j4 q)) ∧ Below w.heap.size w w' := e ▸ XT r s w
theorem za6 (r s q : Rc) (w : World) (e : xF r s = q) : Calls Tryz.prog 61 #[.agg (j4 r), .agg (j4 s)] w fun e w' => e = .returned (.agg (j4 q)) ∧ Below w.heap.size w w' := e ▸ zc9 r s w
/-! ### Cover -/
theorem YW {d : Db} {x y n : Int} {i j k : Nat} {b : Bool} {σ : Nat → Nat × Nat} (hs : ut d x y σ k = n) (hσ : σ k = (i, j)) (hh : ZL d x y i j = b) : ut d x y σ (k + 1) = if b = true then n + 1 else n := by
 show ut d x y σ k + (if ZL d x y (σ k).1 (σ k).2 = true then 1 else 0) = _
 rw [hσ]
 dsimp only
 rw [hh, hs]
 cases b
 ·show n + 0 = n; omega
 ·rfl
def σP : Nat → Nat × Nat := fun k => (k / 4, k % 4)
def σR : Nat → Nat × Nat := fun k => (k % 4, k / 4)
theorem zdv {d : Db} {x y n : Int} (h : W9 d = true) (e : vK d x y = n) : qj (255 * K4 d x y) 16 = n := by
 unfold vK at e
 rw [if_pos h] at e
 exact e
theorem Z3 {d : Db} (h : d.r < 1 ∨ 256 < d.r ∨ wX d.x = false ∨ wX d.y = false) (x y : Int) : vK d x y = 0 := by
 unfold vK
 rw [if_neg]
 intro k
 unfold W9 at k
 rw [Bool.and_eq_true, Bool.and_eq_true, decide_eq_true_iff] at k
 rcases h with h | h | h | h
 ·omega
 ·omega
 ·rw [k.2.1] at h; cases h
 ·rw [k.2.2] at h; cases h
theorem zb8 {d : Db} (h1 : ¬ d.r < 1) (h2 : ¬ 256 < d.r) (h3 : wX d.x = true) (h4 : wX d.y = true) : W9 d = true := by
 unfold W9
 rw [decide_eq_true (by omega), h3, h4]
 rfl
theorem zbP {x : Int} (h : wX x = true) : -1048576 ≤ x ∧ x ≤ 1048575 := of_decide_eq_true h
/-- Where a pixel of the square lies. -/
theorem zcL {d : Db} {x y : Int} (h : jH (vt d) x y = true) (hr : 1 ≤ d.r ∧ d.r ≤ 256) : (-300 ≤ 16 * x - d.x ∧ 16 * x - d.x ≤ 300) ∧ (-300 ≤ 16 * y - d.y ∧ 16 * y - d.y ≤ 300) := by
 have h := (jM _ _ _).1 h
 unfold vt at h
 simp only at h
 omega
theorem Vj (r : Rc) (x y : Int) (b : Bool) (w : World) (e : jH r x y = b) : Calls Tryz.prog 25 #[.agg (j4 r), .agg #[.int .i64 x, .int .i64 y]] w fun e w' => e = .returned (.bool b) ∧ Below w.heap.size w w' := e ▸ Vi r x y w
set_option maxHeartbeats 4000000 in
theorem Vh (d : Db) (x y n : Int) (w : World) (hx : -1000000000000 ≤ d.x ∧ d.x ≤ 1000000000000) (hy : -1000000000000 ≤ d.y ∧ d.y ≤ 1000000000000) (hr : -1000000000000 ≤ d.r ∧ d.r ≤ 1000000000000) (e : vK d x y = n) : Calls Tryz.prog 24 #[.agg (vj.enc d), .int .i64 x, .int .i64 y] w fun e w' => e = .returned (.int .i64 n) ∧ Below w.heap.size w w' := by
 have B := Below.refl w.heap.size w
 obtain ⟨q, hq⟩ : ∃ q, vt d = q := ⟨_, rfl⟩
 have HQ := Lib.hid hq
 clear hq
 by_cases h0 : d.r < 1
 ·have q0 : decide (d.r < 1) = true := decide_eq_true h0
  obtain rfl : n = 0 := by rw [← e]; exact Z3 (.inl h0) x y
  clear e ; go_enter Tryz.func24, Tryz.ntmps24
  go_upto_region 0 with fail
  refine wp_region_lit ?_
  (refine zt (t := 45) rfl _ rfl _ rfl (z6 B ?_); clear B; intro b_d3 wn zb zd d3 za zf zk B; simp only [zn])
  refine zy 1 ?_; refine wpList_nil ?_; go_upto_region 1 with fail
  refine wp_region_lit ?_; refine zy 1 ?_
  refine qT (enters_of Tryz.func62 (by kernel_rfl) rfl) (c := yG d q _ hx hy hr HQ.out) (h := ?_); rintro e wn ⟨rfl, za⟩; have zf := B.size; have zg := za.size; replace B := B.trans (za.mono B.size)
  (try replace d3 := d3.below za)
  refine ⟨_, rfl, ?_⟩; simp only [zn]
  (refine zu (t := 38) rfl _ (zZ _ _ rfl) (z6 B ?_); clear B; intro b_r7 wn zb zd r7 za zf zk B; (try have zh := d3.lt); (try replace d3 := d3.below (za.mono zb)); simp only [zn])
  (refine zq (t := 38) rfl _ _ rfl _ rfl _ rfl r7 (by kernel_rfl) rfl (by simp [j4, Value.oneCell']) (qG B (by omega) ?_); clear r7 B; intro wn r7 ze zf zg B; (try replace d3 := d3.of_eq (ze.block _ d3.lt (by omega))); simp only [zn])
  refine wpList_nil ?_; replace r7 : zJ 38 _ b_r7 (j4 q) := r7; go_upto_region 2 with fail
  refine wp_region_lit ?_; refine zy 11 ?_
  refine qF ?hs11_11 ?_
  case hs11_11 => kernel_rfl
  simp only [zn]; refine zy 5 ?_
  refine qF ?hs11_17 ?_
  case hs11_17 => kernel_rfl
  simp only [zn]; refine zy 7 ?_
  refine qF ?hs11_25 ?_
  case hs11_25 => kernel_rfl
  simp only [zn]; refine zy 2 ?_; refine wpList_nil ?_; go_upto_region 3 with fail
  refine wp_region_lit ?_; refine zy 1 ?_; refine wpList_nil ?_; go_wp2; go_ret; exact ⟨rfl, B⟩
 ·by_cases h1 : 256 < d.r
  ·have q0 : decide (d.r < 1) = false := decide_eq_false h0
   have q1 : decide (256 < d.r) = true := decide_eq_true h1; obtain rfl : n = 0 := by rw [← e]; exact Z3 (.inr (.inl h1)) x y
   clear e ; go_enter Tryz.func24, Tryz.ntmps24
   go_upto_region 0 with fail
   refine wp_region_lit ?_
   (refine zt (t := 45) rfl _ rfl _ rfl (z6 B ?_); clear B; intro b_d3 wn zb zd d3 za zf zk B; (try have zh := d3.lt); (try replace d3 := d3.below (za.mono zb)); (try have zh := r7.lt); (try replace r7 := r7.below (za.mono zb)); simp only [zn])
   refine zy 1 ?_; refine wpList_nil ?_; go_upto_region 1 with fail
   refine wp_region_lit ?_; refine zy 1 ?_
   refine qT (enters_of Tryz.func62 (by kernel_rfl) rfl) (c := yG d q _ hx hy hr HQ.out) (h := ?_); rintro e wn ⟨rfl, za⟩; have zf := B.size; have zg := za.size; replace B := B.trans (za.mono B.size)
   (try replace d3 := d3.below za)
   (try replace r7 := r7.below za)
   refine ⟨_, rfl, ?_⟩; simp only [zn]
   (refine zu (t := 38) rfl _ (zZ _ _ rfl) (z6 B ?_); clear B; intro b_r7 wn zb zd r7 za zf zk B; (try have zh := d3.lt); (try replace d3 := d3.below (za.mono zb)); (try have zh := r7.lt); (try replace r7 := r7.below (za.mono zb)); simp only [zn])
   (refine zq (t := 38) rfl _ _ rfl _ rfl _ rfl r7 (by kernel_rfl) rfl (by simp [j4, Value.oneCell']) (qG B (by omega) ?_); clear r7 B; intro wn r7 ze zf zg B; (try replace d3 := d3.of_eq (ze.block _ d3.lt (by omega))); simp only [zn])
   refine wpList_nil ?_; replace r7 : zJ 38 _ b_r7 (j4 q) := r7; go_upto_region 2 with fail
   refine wp_region_lit ?_; refine zy 11 ?_
   refine qF ?hs15_11 ?_
   case hs15_11 => kernel_rfl
   simp only [zn]; refine zy 5 ?_
   refine qF ?hs15_17 ?_
   case hs15_17 => kernel_rfl
   simp only [zn]; refine zy 7 ?_
   refine qF ?hs15_25 ?_
   case hs15_25 => kernel_rfl
   simp only [zn]; refine zy 2 ?_; refine wpList_nil ?_; go_upto_region 3 with fail
   refine wp_region_lit ?_; refine zy 1 ?_; refine wpList_nil ?_; go_wp2; go_ret; exact ⟨rfl, B⟩
  ·by_cases h2 : wX d.x = false
   ·have q0 : decide (d.r < 1) = false := decide_eq_false h0
    have q1 : decide (256 < d.r) = false := decide_eq_false h1; have H2 := Lib.hid (show wX d.x = false from h2); obtain rfl : n = 0 := by rw [← e]; exact Z3 (.inr (.inr (.inl h2))) x y
    clear e h2; go_enter Tryz.func24, Tryz.ntmps24
    go_upto_region 0 with fail
    refine wp_region_lit ?_
    (refine zt (t := 45) rfl _ rfl _ rfl (z6 B ?_); clear B; intro b_d3 wn zb zd d3 za zf zk B; (try have zh := d3.lt); (try replace d3 := d3.below (za.mono zb)); (try have zh := r7.lt); (try replace r7 := r7.below (za.mono zb)); simp only [zn])
    refine zy 1 ?_; refine wpList_nil ?_; go_upto_region 1 with fail
    refine wp_region_lit ?_; refine zy 1 ?_
    refine qT (enters_of Tryz.func62 (by kernel_rfl) rfl) (c := yG d q _ hx hy hr HQ.out) (h := ?_); rintro e wn ⟨rfl, za⟩; have zf := B.size; have zg := za.size; replace B := B.trans (za.mono B.size)
    (try replace d3 := d3.below za)
    (try replace r7 := r7.below za)
    refine ⟨_, rfl, ?_⟩; simp only [zn]
    (refine zu (t := 38) rfl _ (zZ _ _ rfl) (z6 B ?_); clear B; intro b_r7 wn zb zd r7 za zf zk B; (try have zh := d3.lt); (try replace d3 := d3.below (za.mono zb)); (try have zh := r7.lt); (try replace r7 := r7.below (za.mono zb)); simp only [zn])
    (refine zq (t := 38) rfl _ _ rfl _ rfl _ rfl r7 (by kernel_rfl) rfl (by simp [j4, Value.oneCell']) (qG B (by omega) ?_); clear r7 B; intro wn r7 ze zf zg B; (try replace d3 := d3.of_eq (ze.block _ d3.lt (by omega))); simp only [zn])
    refine wpList_nil ?_; replace r7 : zJ 38 _ b_r7 (j4 q) := r7; go_upto_region 2 with fail
    refine wp_region_lit ?_; refine zy 11 ?_
    refine qT (enters_of Tryz.func53 (by kernel_rfl) rfl) (c := yN d.x false _ H2.out) (h := ?_); rintro e wn ⟨rfl, za⟩; have zf := B.size; have zg := za.size; replace B := B.trans (za.mono B.size)
    (try replace d3 := d3.below za)
    (try replace r7 := r7.below za)
    refine ⟨_, rfl, ?_⟩; simp only [zn]; refine zy 5 ?_
    refine qF ?hs19_17 ?_
    case hs19_17 => kernel_rfl
    simp only [zn]; refine zy 7 ?_
    refine qF ?hs19_25 ?_
    case hs19_25 => kernel_rfl
    simp only [zn]; refine zy 2 ?_; refine wpList_nil ?_; go_upto_region 3 with fail
    refine wp_region_lit ?_; refine zy 1 ?_; refine wpList_nil ?_; go_wp2; go_ret; exact ⟨rfl, B⟩
   ·by_cases h3 : wX d.y = false
    ·have q0 : decide (d.r < 1) = false := decide_eq_false h0
     have q1 : decide (256 < d.r) = false := decide_eq_false h1; have H2 := Lib.hid (show wX d.x = true from by simpa using h2); have H3 := Lib.hid (show wX d.y = false from h3); obtain rfl : n = 0 := by rw [← e]; exact Z3 (.inr (.inr (.inr h3))) x y
     clear e h2 h3; go_enter Tryz.func24, Tryz.ntmps24
     go_upto_region 0 with fail
     refine wp_region_lit ?_
     (refine zt (t := 45) rfl _ rfl _ rfl (z6 B ?_); clear B; intro b_d3 wn zb zd d3 za zf zk B; (try have zh := d3.lt); (try replace d3 := d3.below (za.mono zb)); (try have zh := r7.lt); (try replace r7 := r7.below (za.mono zb)); simp only [zn])
     refine zy 1 ?_; refine wpList_nil ?_; go_upto_region 1 with fail
     refine wp_region_lit ?_; refine zy 1 ?_
     refine qT (enters_of Tryz.func62 (by kernel_rfl) rfl) (c := yG d q _ hx hy hr HQ.out) (h := ?_); rintro e wn ⟨rfl, za⟩; have zf := B.size; have zg := za.size; replace B := B.trans (za.mono B.size)
     (try replace d3 := d3.below za)
     (try replace r7 := r7.below za)
     refine ⟨_, rfl, ?_⟩; simp only [zn]
     (refine zu (t := 38) rfl _ (zZ _ _ rfl) (z6 B ?_); clear B; intro b_r7 wn zb zd r7 za zf zk B; (try have zh := d3.lt); (try replace d3 := d3.below (za.mono zb)); (try have zh := r7.lt); (try replace r7 := r7.below (za.mono zb)); simp only [zn])
     (refine zq (t := 38) rfl _ _ rfl _ rfl _ rfl r7 (by kernel_rfl) rfl (by simp [j4, Value.oneCell']) (qG B (by omega) ?_); clear r7 B; intro wn r7 ze zf zg B; (try replace d3 := d3.of_eq (ze.block _ d3.lt (by omega))); simp only [zn])
     refine wpList_nil ?_; replace r7 : zJ 38 _ b_r7 (j4 q) := r7; go_upto_region 2 with fail
     refine wp_region_lit ?_; refine zy 11 ?_
     refine qT (enters_of Tryz.func53 (by kernel_rfl) rfl) (c := yN d.x true _ H2.out) (h := ?_); rintro e wn ⟨rfl, za⟩; have zf := B.size; have zg := za.size; replace B := B.trans (za.mono B.size)
     (try replace d3 := d3.below za)
     (try replace r7 := r7.below za)
     refine ⟨_, rfl, ?_⟩; simp only [zn]; refine zy 5 ?_
     refine qT (enters_of Tryz.func53 (by kernel_rfl) rfl) (c := yN d.y false _ H3.out) (h := ?_); rintro e wn ⟨rfl, za⟩; have zf := B.size; have zg := za.size; replace B := B.trans (za.mono B.size)
     (try replace d3 := d3.below za)
     (try replace r7 := r7.below za)
     refine ⟨_, rfl, ?_⟩; simp only [zn]; refine zy 7 ?_
     refine qF ?hs23_25 ?_
     case hs23_25 => kernel_rfl
     simp only [zn]; refine zy 2 ?_; refine wpList_nil ?_; go_upto_region 3 with fail
     refine wp_region_lit ?_; refine zy 1 ?_; refine wpList_nil ?_; go_wp2; go_ret; exact ⟨rfl, B⟩
    ·by_cases h4 : jH q x y = false
     ·have q0 : decide (d.r < 1) = false := decide_eq_false h0
      have q1 : decide (256 < d.r) = false := decide_eq_false h1; have H2 := Lib.hid (show wX d.x = true from by simpa using h2); have H3 := Lib.hid (show wX d.y = true from by simpa using h3); have H4 := Lib.hid (show jH q x y = false from h4); obtain rfl : n = 0 := by rw [← e]; exact zbt (by rw [HQ.out]; exact h4)
      clear e h2 h3 h4; go_enter Tryz.func24, Tryz.ntmps24
      go_upto_region 0 with fail
      refine wp_region_lit ?_
      (refine zt (t := 45) rfl _ rfl _ rfl (z6 B ?_); clear B; intro b_d3 wn zb zd d3 za zf zk B; (try have zh := d3.lt); (try replace d3 := d3.below (za.mono zb)); (try have zh := r7.lt); (try replace r7 := r7.below (za.mono zb)); simp only [zn])
      refine zy 1 ?_; refine wpList_nil ?_; go_upto_region 1 with fail
      refine wp_region_lit ?_; refine zy 1 ?_
      refine qT (enters_of Tryz.func62 (by kernel_rfl) rfl) (c := yG d q _ hx hy hr HQ.out) (h := ?_); rintro e wn ⟨rfl, za⟩; have zf := B.size; have zg := za.size; replace B := B.trans (za.mono B.size)
      (try replace d3 := d3.below za)
      (try replace r7 := r7.below za)
      refine ⟨_, rfl, ?_⟩; simp only [zn]
      (refine zu (t := 38) rfl _ (zZ _ _ rfl) (z6 B ?_); clear B; intro b_r7 wn zb zd r7 za zf zk B; (try have zh := d3.lt); (try replace d3 := d3.below (za.mono zb)); (try have zh := r7.lt); (try replace r7 := r7.below (za.mono zb)); simp only [zn])
      (refine zq (t := 38) rfl _ _ rfl _ rfl _ rfl r7 (by kernel_rfl) rfl (by simp [j4, Value.oneCell']) (qG B (by omega) ?_); clear r7 B; intro wn r7 ze zf zg B; (try replace d3 := d3.of_eq (ze.block _ d3.lt (by omega))); simp only [zn])
      refine wpList_nil ?_; replace r7 : zJ 38 _ b_r7 (j4 q) := r7; go_upto_region 2 with fail
      refine wp_region_lit ?_; refine zy 11 ?_
      refine qT (enters_of Tryz.func53 (by kernel_rfl) rfl) (c := yN d.x true _ H2.out) (h := ?_); rintro e wn ⟨rfl, za⟩; have zf := B.size; have zg := za.size; replace B := B.trans (za.mono B.size)
      (try replace d3 := d3.below za)
      (try replace r7 := r7.below za)
      refine ⟨_, rfl, ?_⟩; simp only [zn]; refine zy 5 ?_
      refine qT (enters_of Tryz.func53 (by kernel_rfl) rfl) (c := yN d.y true _ H3.out) (h := ?_); rintro e wn ⟨rfl, za⟩; have zf := B.size; have zg := za.size; replace B := B.trans (za.mono B.size)
      (try replace d3 := d3.below za)
      (try replace r7 := r7.below za)
      refine ⟨_, rfl, ?_⟩; simp only [zn]; refine zy 7 ?_
      refine qT (enters_of Tryz.func25 (by kernel_rfl) rfl) (c := Vj q x y false _ H4.out) (h := ?_); rintro e wn ⟨rfl, za⟩; have zf := B.size; have zg := za.size; replace B := B.trans (za.mono B.size)
      (try replace d3 := d3.below za)
      (try replace r7 := r7.below za)
      refine ⟨_, rfl, ?_⟩; simp only [zn]; refine zy 2 ?_; refine wpList_nil ?_; go_upto_region 3 with fail
      refine wp_region_lit ?_; refine zy 1 ?_; refine wpList_nil ?_; go_wp2; go_ret; exact ⟨rfl, B⟩
     ·have q0 : decide (d.r < 1) = false := decide_eq_false h0
      have q1 : decide (256 < d.r) = false := decide_eq_false h1; have H2 := Lib.hid (show wX d.x = true from by simpa using h2); have H3 := Lib.hid (show wX d.y = true from by simpa using h3); have H4 := Lib.hid (show jH q x y = true from by simpa using h4); have HOK := zb8 h0 h1 H2.out H3.out; have E := Lib.hid (zdv HOK e); obtain ⟨⟨b1, b2⟩, b3, b4⟩ := zcL (by rw [HQ.out]; exact H4.out) (show 1 ≤ d.r ∧ d.r ≤ 256 by omega)
      obtain ⟨b5, b6⟩ := zbP H2.out; obtain ⟨b7, b8⟩ := zbP H3.out; have mr := jW (a := d.r) (b := d.r) (m := 256) (k := 256) (by omega) (by omega) (by omega) (by omega); have gx : -100000 ≤ x ∧ x ≤ 100000 := by omega
      have gy : -100000 ≤ y ∧ y ≤ 100000 := by omega
      clear e h2 h3 h4 HOK hx hy hr; go_enter Tryz.func24, Tryz.ntmps24
      go_upto_region 0 with fail
      refine wp_region_lit ?_
      (refine zt (t := 45) rfl _ rfl _ rfl (z6 B ?_); clear B; intro b_d3 wn zb zd d3 za zf zk B; (try have zh := d3.lt); (try replace d3 := d3.below (za.mono zb)); (try have zh := r7.lt); (try replace r7 := r7.below (za.mono zb)); simp only [zn])
      refine zy 1 ?_; refine wpList_nil ?_; go_upto_region 1 with fail
      refine wp_region_lit ?_; refine zy 1 ?_
      refine qT (enters_of Tryz.func62 (by kernel_rfl) rfl) (c := yG d q _ (by omega) (by omega) (by omega) HQ.out) (h := ?_); rintro e wn ⟨rfl, za⟩; have zf := B.size; have zg := za.size; replace B := B.trans (za.mono B.size)
      (try replace d3 := d3.below za)
      (try replace r7 := r7.below za)
      refine ⟨_, rfl, ?_⟩; simp only [zn]
      (refine zu (t := 38) rfl _ (zZ _ _ rfl) (z6 B ?_); clear B; intro b_r7 wn zb zd r7 za zf zk B; (try have zh := d3.lt); (try replace d3 := d3.below (za.mono zb)); (try have zh := r7.lt); (try replace r7 := r7.below (za.mono zb)); simp only [zn])
      (refine zq (t := 38) rfl _ _ rfl _ rfl _ rfl r7 (by kernel_rfl) rfl (by simp [j4, Value.oneCell']) (qG B (by omega) ?_); clear r7 B; intro wn r7 ze zf zg B; (try replace d3 := d3.of_eq (ze.block _ d3.lt (by omega))); simp only [zn])
      refine wpList_nil ?_; replace r7 : zJ 38 _ b_r7 (j4 q) := r7; go_upto_region 2 with fail
      refine wp_region_lit ?_; refine zy 11 ?_
      refine qT (enters_of Tryz.func53 (by kernel_rfl) rfl) (c := yN d.x true _ H2.out) (h := ?_); rintro e wn ⟨rfl, za⟩; have zf := B.size; have zg := za.size; replace B := B.trans (za.mono B.size)
      (try replace d3 := d3.below za)
      (try replace r7 := r7.below za)
      refine ⟨_, rfl, ?_⟩; simp only [zn]; refine zy 5 ?_
      refine qT (enters_of Tryz.func53 (by kernel_rfl) rfl) (c := yN d.y true _ H3.out) (h := ?_); rintro e wn ⟨rfl, za⟩; have zf := B.size; have zg := za.size; replace B := B.trans (za.mono B.size)
      (try replace d3 := d3.below za)
      (try replace r7 := r7.below za)
      refine ⟨_, rfl, ?_⟩; simp only [zn]; refine zy 7 ?_
      refine qT (enters_of Tryz.func25 (by kernel_rfl) rfl) (c := Vj q x y true _ H4.out) (h := ?_); rintro e wn ⟨rfl, za⟩; have zf := B.size; have zg := za.size; replace B := B.trans (za.mono B.size)
      (try replace d3 := d3.below za)
      (try replace r7 := r7.below za)
      refine ⟨_, rfl, ?_⟩; simp only [zn]; refine zy 2 ?_; refine wpList_nil ?_; clear r7; go_wp2; go_loopw [8, 9, 10, 11, 12, 43] (fun nv _ _ _ _ iv wr => ∃ (i : Nat) (n0 : Int), i ≤ 4 ∧ iv = .int .i64 (i : Int) ∧ nv = .int .i64 n0 ∧ (0 ≤ n0 ∧ n0 ≤ 4 * (i : Int)) ∧ Hid (ut d x y σP (4 * i) = n0) ∧ Below w.heap.size w wr ∧ zJ 45 wr b_d3 (vj.enc d)) (fun _ _ _ _ _ iv _ => (4 - intOf iv).toNat)
      case atStart => exact ⟨0, 0, by omega, rfl, rfl, by omega, Lib.hid rfl, B, d3⟩
      case round =>
       clear B d3; obtain ⟨i, n0, hi, rfl, rfl, hn0, HS, B, d3⟩ := hrel; by_cases hi1 : i < 4
       ·have q5 : decide ((i : Int) < 4) = true := decide_eq_true (by omega)
        have q6 : decide (i < 4) = true := decide_eq_true hi1; go_upto_region 6 with fail
        refine wp_region_lit ?_; refine zy 1 ?_; refine wpList_nil ?_; go_upto_region 7 with fail
        refine wp_region_lit ?_; refine zy 2 ?_; refine wpList_nil ?_; go_upto_region 8 with fail
        refine wp_region_lit ?_; refine zy 1 ?_; refine wpList_nil ?_; go_wp2; go_loopw [8, 10, 11, 12, 46] (fun nv _ _ _ jv wr => ∃ (j : Nat) (n1 : Int), j ≤ 4 ∧ jv = .int .i64 (j : Int) ∧ nv = .int .i64 n1 ∧ (0 ≤ n1 ∧ n1 ≤ 4 * (i : Int) + (j : Int)) ∧ Hid (ut d x y σP (4 * i + j) = n1) ∧ Below w.heap.size w wr ∧ zJ 45 wr b_d3 (vj.enc d)) (fun _ _ _ _ jv _ => (4 - intOf jv).toNat)
        case atStart => exact ⟨0, n0, by omega, rfl, rfl, by omega, HS, B, d3⟩
        case round =>
         clear B d3 hn0; obtain ⟨j, n1, hj, rfl, rfl, hn1, HS1, B, d3⟩ := hrel; by_cases hj1 : j < 4
         ·have q7 : decide ((j : Int) < 4) = true := decide_eq_true (by omega)
          have q8 : decide (j < 4) = true := decide_eq_true hj1; obtain ⟨m1, m2⟩ := ZC (x := (16 * x + 4 * (i : Int) + 2 - d.x)) (m := 400) (by omega) (by omega); obtain ⟨m3, m4⟩ := ZC (x := (16 * y + 4 * (j : Int) + 2 - d.y)) (m := 400) (by omega) (by omega); have hσ : σP (4 * i + j) = (i, j) := by unfold σP; rw [show (4 * i + j) / 4 = i by omega, show (4 * i + j) % 4 = j by omega]
          have hhit : ZL d x y i j = decide ((16 * x + 4 * (i : Int) + 2 - d.x) * (16 * x + 4 * (i : Int) + 2 - d.x) + (16 * y + 4 * (j : Int) + 2 - d.y) * (16 * y + 4 * (j : Int) + 2 - d.y) ≤ d.r * d.r) := by unfold ZL dx4; rw [show 16 * x + (4 * (i : Int) + 2) - d.x = (16 * x + 4 * (i : Int) + 2 - d.x) by omega, show 16 * y + (4 * (j : Int) + 2) - d.y = (16 * y + 4 * (j : Int) + 2 - d.y) by omega]
          cases hh : ZL d x y i j with
          | true =>
           have q9 : decide ((16 * x + 4 * (i : Int) + 2 - d.x) * (16 * x + 4 * (i : Int) + 2 - d.x) + (16 * y + 4 * (j : Int) + 2 - d.y) * (16 * y + 4 * (j : Int) + 2 - d.y) ≤ d.r * d.r) = true := hhit.symm.trans hh; have HN := Lib.hid (YW HS1.out hσ hh); clear hhit hh hσ; go_upto_region 9 with fail
           refine wp_region_lit ?_; refine zy 1 ?_; refine wpList_nil ?_; go_upto_region 10 with fail
           refine wp_region_lit ?_; refine zy 2 ?_; refine wpList_nil ?_; go_upto_region 11 with fail
           refine wp_region_lit ?_; refine zy 10 ?_
           refine wpList_nil ?_; go_upto_region 12 with fail
           refine wp_region_lit ?_; refine zy 10 ?_
           refine wpList_nil ?_; go_upto_region 13 with fail
           refine wp_region_lit ?_; refine zy 13 ?_
           refine wpList_nil ?_; go_upto_region 14 with fail
           refine wp_region_lit ?_; refine zy 3 ?_; refine wpList_nil ?_; go_upto_region 15 with fail
           refine wp_region_lit ?_; refine zy 2 ?_; refine wpList_nil ?_; go_wp2; go_roundw
           case rel => exact ⟨j + 1, _, by omega, by go_num, rfl, by omega, HN, B, d3⟩
           case measure => simp [intOf]; omega
          | false =>
           have q9 : decide ((16 * x + 4 * (i : Int) + 2 - d.x) * (16 * x + 4 * (i : Int) + 2 - d.x) + (16 * y + 4 * (j : Int) + 2 - d.y) * (16 * y + 4 * (j : Int) + 2 - d.y) ≤ d.r * d.r) = false := hhit.symm.trans hh; have HN := Lib.hid (YW HS1.out hσ hh); clear hhit hh hσ; go_upto_region 9 with fail
           refine wp_region_lit ?_; refine zy 1 ?_; refine wpList_nil ?_; go_upto_region 10 with fail
           refine wp_region_lit ?_; refine zy 2 ?_; refine wpList_nil ?_; go_upto_region 11 with fail
           refine wp_region_lit ?_; refine zy 10 ?_
           refine wpList_nil ?_; go_upto_region 12 with fail
           refine wp_region_lit ?_; refine zy 10 ?_
           refine wpList_nil ?_; go_upto_region 13 with fail
           refine wp_region_lit ?_; refine zy 13 ?_
           refine wpList_nil ?_; go_upto_region 15 with fail
           refine wp_region_lit ?_; refine zy 2 ?_; refine wpList_nil ?_; go_wp2; go_roundw
           case rel => exact ⟨j + 1, _, by omega, by go_num, rfl, by omega, HN, B, d3⟩
           case measure => simp [intOf]; omega
         ·have q7 : decide ((j : Int) < 4) = false := decide_eq_false (by omega)
          have q8 : decide (j < 4) = false := decide_eq_false hj1; have HN := Lib.hid (show ut d x y σP (4 * (i + 1)) = n1 from by rw [show 4 * (i + 1) = 4 * i + j by omega]; exact HS1.out)
          go_upto_region 9 with fail
          refine wp_region_lit ?_; refine zy 1 ?_; refine wpList_nil ?_; go_upto_region 16 with fail
          refine wp_region_lit ?_; refine zy 2 ?_; refine wpList_nil ?_; go_wp2; go_roundw
          case rel => exact ⟨i + 1, n1, by omega, by go_num, rfl, by omega, HN, B, d3⟩
          case measure => simp [intOf]; omega
       ·have q5 : decide ((i : Int) < 4) = false := decide_eq_false (by omega)
        have q6 : decide (i < 4) = false := decide_eq_false hi1; have HN := Lib.hid (show qj (255 * n0) 16 = n from by rw [← E.out]; congr 2; rw [← HS.out, show 4 * i = 16 by omega]; rfl)
        clear d3; go_upto_region 6 with fail
        refine wp_region_lit ?_; refine zy 1 ?_; refine wpList_nil ?_; go_upto_region 17 with fail
        refine wp_region_lit ?_; refine zy 2 ?_; refine qT (enters_of Tryz.func68 (by kernel_rfl) rfl) (c := kJ (255 * n0) 16 n _ (by omega) (by omega) (by omega) (by omega) HN.out) (h := ?_); rintro e wn ⟨rfl, za⟩; have zf := B.size; have zg := za.size; replace B := B.trans (za.mono B.size); refine ⟨_, rfl, ?_⟩; simp only [zn]; refine zy 1 ?_; refine wpList_nil ?_; go_wp2; go_ret; exact ⟨rfl, B⟩
/- Contracts of the reference's Valid, Cover, Same, SameDabs. -/
/-! ### Valid -/
theorem zdE (s : qS) (h : s.pts.length = 1 ∨ True) : decide (xX s.pts - s.pha ≤ 1024 * s.spa) = decide (xX s.pts ≤ s.pha + 1024 * s.spa) := by
 rw [Bool.eq_iff_iff, decide_eq_true_iff, decide_eq_true_iff]
 omega
theorem zdF {s : qS} (h : s.pts.length = 1) (h1 : 0 ≤ s.pha) (h2 : 1 ≤ s.spa) : decide (xX s.pts - s.pha ≤ 1024 * s.spa) = true := by
 unfold xX
 rw [h]
 refine decide_eq_true ?_
 show (0 : Int) - s.pha ≤ _
 omega
set_option maxHeartbeats 4000000 in
theorem u9 (v : Value) (s : qS) (b : Bool) (w : World) (rs : j9 qQ v s.pts w) (hn : s.pts.length ≤ 17592186044416) (e : ju s = b) : Calls Tryz.prog 17 #[.agg (qR v s)] w fun e w' => e = .returned (.bool b) ∧ Below w.heap.size w w' := by
 have B := Below.refl w.heap.size w
 obtain ⟨a, c, rfl, hc⟩ := rs.len
 have HS := Lib.hid rs
 by_cases h0 : (s.pts.length : Int) < 1
 ·have q0 : decide ((s.pts.length : Int) < 1) = true := decide_eq_true h0
  have p0 : decide (s.pts.length < 1) = true := decide_eq_true (by omega); obtain rfl : b = false := by rw [← e]; exact xE (by omega)
  clear e; go_enter Tryz.func17, Tryz.ntmps17
  go_upto_region 0 with fail
  refine wp_region_lit ?_
  (refine zt (t := 30) rfl _ rfl _ rfl (z6 B ?_); clear B; intro b_r1 wn zb zd r1 za zf zk B; (try have zh := rs.lt); (try replace rs := rs.below (za.mono zb)); simp only [zn])
  refine zy 1 ?_; refine wpList_nil ?_; go_upto_region 1 with fail
  refine wp_region_lit ?_; refine zy 2 ?_
  refine zw (by first | rfl | simp [Region.wanted, yielded]) rfl Tryz.underlying26 rfl ?_; simp only [zn]; refine zy 4 ?_
  refine qF ?hs2_7 ?_
  case hs2_7 => kernel_rfl
  simp only [zn]; refine zy 32 ?_
  refine wpList_nil ?_; go_upto_region 2 with fail
  refine wp_region_lit ?_; refine zy 1 ?_; refine wpList_nil ?_; go_wp2; go_ret; exact ⟨rfl, B⟩
 ·by_cases h1 : 64 < (s.pts.length : Int)
  ·have q0 : decide ((s.pts.length : Int) < 1) = false := decide_eq_false h0
   have q1 : decide (64 < (s.pts.length : Int)) = true := decide_eq_true h1; have p0 : decide (s.pts.length < 1) = false := decide_eq_false (by omega); have p1 : decide (64 < s.pts.length) = true := decide_eq_true (by omega); obtain rfl : b = false := by rw [← e]; exact xE (by omega)
   clear e; go_enter Tryz.func17, Tryz.ntmps17
   go_upto_region 0 with fail
   refine wp_region_lit ?_
   (refine zt (t := 30) rfl _ rfl _ rfl (z6 B ?_); clear B; intro b_r1 wn zb zd r1 za zf zk B; (try have zh := r1.lt); (try replace r1 := r1.below (za.mono zb)); (try have zh := rs.lt); (try replace rs := rs.below (za.mono zb)); simp only [zn])
   refine zy 1 ?_; refine wpList_nil ?_; go_upto_region 1 with fail
   refine wp_region_lit ?_; refine zy 2 ?_
   refine zw (by first | rfl | simp [Region.wanted, yielded]) rfl Tryz.underlying26 rfl ?_; simp only [zn]; refine zy 4 ?_
   refine zw (by first | rfl | simp [Region.wanted, yielded]) rfl Tryz.underlying26 rfl ?_; simp only [zn]; refine zy 32 ?_
   refine wpList_nil ?_; go_upto_region 2 with fail
   refine wp_region_lit ?_; refine zy 1 ?_; refine wpList_nil ?_; go_wp2; go_ret; exact ⟨rfl, B⟩
  ·by_cases h2 : s.rad < 1
   ·have q0 : decide ((s.pts.length : Int) < 1) = false := decide_eq_false h0
    have q1 : decide (64 < (s.pts.length : Int)) = false := decide_eq_false h1; have q2 : decide (s.rad < 1) = true := decide_eq_true h2; have p0 : decide (s.pts.length < 1) = false := decide_eq_false (by omega); have p1 : decide (64 < s.pts.length) = false := decide_eq_false (by omega); obtain rfl : b = false := by rw [← e]; exact xE (by omega)
    clear e; go_enter Tryz.func17, Tryz.ntmps17
    go_upto_region 0 with fail
    refine wp_region_lit ?_
    (refine zt (t := 30) rfl _ rfl _ rfl (z6 B ?_); clear B; intro b_r1 wn zb zd r1 za zf zk B; (try have zh := r1.lt); (try replace r1 := r1.below (za.mono zb)); (try have zh := rs.lt); (try replace rs := rs.below (za.mono zb)); simp only [zn])
    refine zy 1 ?_; refine wpList_nil ?_; go_upto_region 1 with fail
    refine wp_region_lit ?_; refine zy 2 ?_
    refine zw (by first | rfl | simp [Region.wanted, yielded]) rfl Tryz.underlying26 rfl ?_; simp only [zn]; refine zy 4 ?_
    refine zw (by first | rfl | simp [Region.wanted, yielded]) rfl Tryz.underlying26 rfl ?_; simp only [zn]; refine zy 32 ?_
    refine wpList_nil ?_; go_upto_region 2 with fail
    refine wp_region_lit ?_; refine zy 1 ?_; refine wpList_nil ?_; go_wp2; go_ret; exact ⟨rfl, B⟩
   ·by_cases h3 : 256 < s.rad
    ·have q0 : decide ((s.pts.length : Int) < 1) = false := decide_eq_false h0
     have q1 : decide (64 < (s.pts.length : Int)) = false := decide_eq_false h1; have q2 : decide (s.rad < 1) = false := decide_eq_false h2; have q3 : decide (256 < s.rad) = true := decide_eq_true h3; have p0 : decide (s.pts.length < 1) = false := decide_eq_false (by omega); have p1 : decide (64 < s.pts.length) = false := decide_eq_false (by omega); obtain rfl : b = false := by rw [← e]; exact xE (by omega)
     clear e; go_enter Tryz.func17, Tryz.ntmps17
     go_upto_region 0 with fail
     refine wp_region_lit ?_
     (refine zt (t := 30) rfl _ rfl _ rfl (z6 B ?_); clear B; intro b_r1 wn zb zd r1 za zf zk B; (try have zh := r1.lt); (try replace r1 := r1.below (za.mono zb)); (try have zh := rs.lt); (try replace rs := rs.below (za.mono zb)); simp only [zn])
     refine zy 1 ?_; refine wpList_nil ?_; go_upto_region 1 with fail
     refine wp_region_lit ?_; refine zy 2 ?_
     refine zw (by first | rfl | simp [Region.wanted, yielded]) rfl Tryz.underlying26 rfl ?_; simp only [zn]; refine zy 4 ?_
     refine zw (by first | rfl | simp [Region.wanted, yielded]) rfl Tryz.underlying26 rfl ?_; simp only [zn]; refine zy 32 ?_
     refine wpList_nil ?_; go_upto_region 2 with fail
     refine wp_region_lit ?_; refine zy 1 ?_; refine wpList_nil ?_; go_wp2; go_ret; exact ⟨rfl, B⟩
    ·by_cases h4 : s.spa < 1
     ·have q0 : decide ((s.pts.length : Int) < 1) = false := decide_eq_false h0
      have q1 : decide (64 < (s.pts.length : Int)) = false := decide_eq_false h1; have q2 : decide (s.rad < 1) = false := decide_eq_false h2; have q3 : decide (256 < s.rad) = false := decide_eq_false h3; have q4 : decide (s.spa < 1) = true := decide_eq_true h4; have p0 : decide (s.pts.length < 1) = false := decide_eq_false (by omega); have p1 : decide (64 < s.pts.length) = false := decide_eq_false (by omega); obtain rfl : b = false := by rw [← e]; exact xE (by omega)
      clear e; go_enter Tryz.func17, Tryz.ntmps17
      go_upto_region 0 with fail
      refine wp_region_lit ?_
      (refine zt (t := 30) rfl _ rfl _ rfl (z6 B ?_); clear B; intro b_r1 wn zb zd r1 za zf zk B; (try have zh := r1.lt); (try replace r1 := r1.below (za.mono zb)); (try have zh := rs.lt); (try replace rs := rs.below (za.mono zb)); simp only [zn])
      refine zy 1 ?_; refine wpList_nil ?_; go_upto_region 1 with fail
      refine wp_region_lit ?_; refine zy 2 ?_
      refine zw (by first | rfl | simp [Region.wanted, yielded]) rfl Tryz.underlying26 rfl ?_; simp only [zn]; refine zy 4 ?_
      refine zw (by first | rfl | simp [Region.wanted, yielded]) rfl Tryz.underlying26 rfl ?_; simp only [zn]; refine zy 32 ?_
      refine wpList_nil ?_; go_upto_region 2 with fail
      refine wp_region_lit ?_; refine zy 1 ?_; refine wpList_nil ?_; go_wp2; go_ret; exact ⟨rfl, B⟩
     ·by_cases h5 : 4096 < s.spa
      ·have q0 : decide ((s.pts.length : Int) < 1) = false := decide_eq_false h0
       have q1 : decide (64 < (s.pts.length : Int)) = false := decide_eq_false h1; have q2 : decide (s.rad < 1) = false := decide_eq_false h2; have q3 : decide (256 < s.rad) = false := decide_eq_false h3; have q4 : decide (s.spa < 1) = false := decide_eq_false h4; have q5 : decide (4096 < s.spa) = true := decide_eq_true h5; have p0 : decide (s.pts.length < 1) = false := decide_eq_false (by omega); have p1 : decide (64 < s.pts.length) = false := decide_eq_false (by omega); obtain rfl : b = false := by rw [← e]; exact xE (by omega)
       clear e; go_enter Tryz.func17, Tryz.ntmps17
       go_upto_region 0 with fail
       refine wp_region_lit ?_
       (refine zt (t := 30) rfl _ rfl _ rfl (z6 B ?_); clear B; intro b_r1 wn zb zd r1 za zf zk B; (try have zh := r1.lt); (try replace r1 := r1.below (za.mono zb)); (try have zh := rs.lt); (try replace rs := rs.below (za.mono zb)); simp only [zn])
       refine zy 1 ?_; refine wpList_nil ?_; go_upto_region 1 with fail
       refine wp_region_lit ?_; refine zy 2 ?_
       refine zw (by first | rfl | simp [Region.wanted, yielded]) rfl Tryz.underlying26 rfl ?_; simp only [zn]; refine zy 4 ?_
       refine zw (by first | rfl | simp [Region.wanted, yielded]) rfl Tryz.underlying26 rfl ?_; simp only [zn]; refine zy 32 ?_
       refine wpList_nil ?_; go_upto_region 2 with fail
       refine wp_region_lit ?_; refine zy 1 ?_; refine wpList_nil ?_; go_wp2; go_ret; exact ⟨rfl, B⟩
      ·by_cases h6 : s.pha < 0
       ·have q0 : decide ((s.pts.length : Int) < 1) = false := decide_eq_false h0
        have q1 : decide (64 < (s.pts.length : Int)) = false := decide_eq_false h1; have q2 : decide (s.rad < 1) = false := decide_eq_false h2; have q3 : decide (256 < s.rad) = false := decide_eq_false h3; have q4 : decide (s.spa < 1) = false := decide_eq_false h4; have q5 : decide (4096 < s.spa) = false := decide_eq_false h5; have q6 : decide (s.pha < 0) = true := decide_eq_true h6; have p0 : decide (s.pts.length < 1) = false := decide_eq_false (by omega); have p1 : decide (64 < s.pts.length) = false := decide_eq_false (by omega); obtain rfl : b = false := by rw [← e]; exact xE (by omega)
        clear e; go_enter Tryz.func17, Tryz.ntmps17
        go_upto_region 0 with fail
        refine wp_region_lit ?_
        (refine zt (t := 30) rfl _ rfl _ rfl (z6 B ?_); clear B; intro b_r1 wn zb zd r1 za zf zk B; (try have zh := r1.lt); (try replace r1 := r1.below (za.mono zb)); (try have zh := rs.lt); (try replace rs := rs.below (za.mono zb)); simp only [zn])
        refine zy 1 ?_; refine wpList_nil ?_; go_upto_region 1 with fail
        refine wp_region_lit ?_; refine zy 2 ?_
        refine zw (by first | rfl | simp [Region.wanted, yielded]) rfl Tryz.underlying26 rfl ?_; simp only [zn]; refine zy 4 ?_
        refine zw (by first | rfl | simp [Region.wanted, yielded]) rfl Tryz.underlying26 rfl ?_; simp only [zn]; refine zy 32 ?_
        refine wpList_nil ?_; go_upto_region 2 with fail
        refine wp_region_lit ?_; refine zy 1 ?_; refine wpList_nil ?_; go_wp2; go_ret; exact ⟨rfl, B⟩
       ·by_cases h7 : 1048575 < s.pha
        ·have q0 : decide ((s.pts.length : Int) < 1) = false := decide_eq_false h0
         have q1 : decide (64 < (s.pts.length : Int)) = false := decide_eq_false h1; have q2 : decide (s.rad < 1) = false := decide_eq_false h2; have q3 : decide (256 < s.rad) = false := decide_eq_false h3; have q4 : decide (s.spa < 1) = false := decide_eq_false h4; have q5 : decide (4096 < s.spa) = false := decide_eq_false h5; have q6 : decide (s.pha < 0) = false := decide_eq_false h6; have q7 : decide (1048575 < s.pha) = true := decide_eq_true h7; have p0 : decide (s.pts.length < 1) = false := decide_eq_false (by omega); have p1 : decide (64 < s.pts.length) = false := decide_eq_false (by omega); obtain rfl : b = false := by rw [← e]; exact xE (by omega)
         clear e; go_enter Tryz.func17, Tryz.ntmps17
         go_upto_region 0 with fail
         refine wp_region_lit ?_
         (refine zt (t := 30) rfl _ rfl _ rfl (z6 B ?_); clear B; intro b_r1 wn zb zd r1 za zf zk B; (try have zh := r1.lt); (try replace r1 := r1.below (za.mono zb)); (try have zh := rs.lt); (try replace rs := rs.below (za.mono zb)); simp only [zn])
         refine zy 1 ?_; refine wpList_nil ?_; go_upto_region 1 with fail
         refine wp_region_lit ?_; refine zy 2 ?_
         refine zw (by first | rfl | simp [Region.wanted, yielded]) rfl Tryz.underlying26 rfl ?_; simp only [zn]; refine zy 4 ?_
         refine zw (by first | rfl | simp [Region.wanted, yielded]) rfl Tryz.underlying26 rfl ?_; simp only [zn]; refine zy 32 ?_
         refine wpList_nil ?_; go_upto_region 2 with fail
         refine wp_region_lit ?_; refine zy 1 ?_; refine wpList_nil ?_; go_wp2; go_ret; exact ⟨rfl, B⟩
        ·have q0 : decide ((s.pts.length : Int) < 1) = false := decide_eq_false h0
         have q1 : decide (64 < (s.pts.length : Int)) = false := decide_eq_false h1; have q2 : decide (s.rad < 1) = false := decide_eq_false h2; have q3 : decide (256 < s.rad) = false := decide_eq_false h3; have q4 : decide (s.spa < 1) = false := decide_eq_false h4; have q5 : decide (4096 < s.spa) = false := decide_eq_false h5; have q6 : decide (s.pha < 0) = false := decide_eq_false h6; have q7 : decide (1048575 < s.pha) = false := decide_eq_false h7; have p0 : decide (s.pts.length < 1) = false := decide_eq_false (by omega); have p1 : decide (64 < s.pts.length) = false := decide_eq_false (by omega); have HV := VZ (s := s) (by omega); rw [HV] at e; clear HV; go_enter Tryz.func17, Tryz.ntmps17
         go_upto_region 0 with fail
         refine wp_region_lit ?_
         (refine zt (t := 30) rfl _ rfl _ rfl (z6 B ?_); clear B; intro b_r1 wn zb zd r1 za zf zk B; (try have zh := r1.lt); (try replace r1 := r1.below (za.mono zb)); (try have zh := rs.lt); (try replace rs := rs.below (za.mono zb)); simp only [zn])
         refine zy 1 ?_; refine wpList_nil ?_; go_upto_region 1 with fail
         refine wp_region_lit ?_; refine zy 2 ?_
         refine zw (by first | rfl | simp [Region.wanted, yielded]) rfl Tryz.underlying26 rfl ?_; simp only [zn]; refine zy 4 ?_
         refine zw (by first | rfl | simp [Region.wanted, yielded]) rfl Tryz.underlying26 rfl ?_; simp only [zn]; refine zy 32 ?_
         refine wpList_nil ?_; have HLE := uJ s.pts; have HOI := zb9 s.pts; obtain ⟨m, hm⟩ : ∃ m, idxS s.pts = m := ⟨_, rfl⟩; have HLT := Lib.hid (fun k (h : k < idxS s.pts) => J8 h); have HAT := Lib.hid (fun (h : idxS s.pts < s.pts.length) => J7 h); rw [hm] at HLE HOI HLT HAT; have E := Lib.hid e; have HO := Lib.hid HOI; have HB1 := B.size; clear rs e hm HOI; go_wp2; go_loopw [3] (fun iv wr => ∃ k : Nat, k ≤ m ∧ iv = .int .i64 (k : Int) ∧ Below w.heap.size w wr ∧ zJ 30 wr b_r1 (qR (.slice a s.pts.length c) s)) (fun iv _ => (s.pts.length - intOf iv).toNat)
         case atStart => exact ⟨0, by omega, rfl, B, r1⟩
         case round =>
          clear B r1; obtain ⟨k, hk, rfl, B, r1⟩ := hrel; by_cases hkl : k < s.pts.length
          ·have q8 : decide ((k : Int) < (s.pts.length : Int)) = true := decide_eq_true (by omega)
           have q9 : decide (k < s.pts.length) = true := decide_eq_true hkl; obtain ⟨g, o, rfl, pc0⟩ := HS.out.at (by omega); have pc := pc0.of_eq (B.block _ pc0.lt); clear pc0; have hp := jc hkl; have k1 := r1.lt; by_cases hki : k < m
           ·have HB := Lib.hid (show ui (jg s.pts k) = false from HLT.out k hki)
            generalize hx1 : jg s.pts k = x1 at *
            clear hx1; go_upto_region 4 with fail
            refine wp_region_lit ?_; refine zy 3 ?_
            refine zw (by first | rfl | simp [Region.wanted, yielded]) rfl Tryz.underlying26 rfl ?_; simp only [zn]; refine zy 1 ?_; refine wpList_nil ?_; go_upto_region 6 with fail
            refine wp_region_lit ?_; refine jp 5 ?_
            repeat (first | go_big_quiet_skip | (go_big_quiet_want; first | ((first | refine zo (t := 43) rfl _ _ _ rfl (fun w hw => (jb pc w hw).load Tryz.isAgg43 hp) (by first | rfl | omega) ?_ | refine qB ?_ | refine qC ?_); simp only [zn]; go_big_quiet_on) | (go_big_quiet_op; go_big_quiet_on)))
            refine wpQuiet_nil ?_
            (refine zu (t := 43) rfl _ (xB _ _ rfl) (z6 B ?_); clear B; intro b_p4 wn zb zd p4 za zf zk B; (try have zh := r1.lt); (try replace r1 := r1.below (za.mono zb)); (try have zh := rs.lt); (try replace rs := rs.below (za.mono zb)); (try have zh := pc.lt); (try replace pc := pc.below (za.mono zb)); simp only [zn])
            (refine zq (t := 43) rfl _ _ rfl _ rfl _ rfl p4 (by kernel_rfl) rfl (by simp [qQ, Value.oneCell']) (qG B (by omega) ?_); clear p4 B; intro wn p4 ze zf zg B; (try replace r1 := r1.of_eq (ze.block _ r1.lt (by omega))); simp only [zn])
            refine wpList_nil ?_; replace p4 : zJ 43 _ b_p4 (qQ.enc x1) := p4; have e3 := HB.out; rw [Kw] at e3; rw [Bool.or_eq_false_iff, Bool.or_eq_false_iff, Bool.or_eq_false_iff, Bool.not_eq_false', Bool.not_eq_false'] at e3; obtain ⟨e4, e5, e6, e7⟩ := e3; have H4 := Lib.hid e4; have H5 := Lib.hid e5; clear e4 e5; go_upto_region 7 with fail
            refine wp_region_lit ?_; refine zy 2 ?_
            refine qT (enters_of Tryz.func55 (by kernel_rfl) rfl) (c := vg x1.x true _ H4.out) (h := ?_); rintro e wn ⟨rfl, za⟩; have zf := B.size; have zg := za.size; replace B := B.trans (za.mono B.size)
            (try replace r1 := r1.below za)
            (try replace p4 := p4.below za)
            (try replace rs := rs.below za)
            (try replace pc := pc.below za)
            refine ⟨_, rfl, ?_⟩; simp only [zn]; refine zy 4 ?_
            refine qT (enters_of Tryz.func55 (by kernel_rfl) rfl) (c := vg x1.y true _ H5.out) (h := ?_); rintro e wn ⟨rfl, za⟩; have zf := B.size; have zg := za.size; replace B := B.trans (za.mono B.size)
            (try replace r1 := r1.below za)
            (try replace p4 := p4.below za)
            (try replace rs := rs.below za)
            (try replace pc := pc.below za)
            refine ⟨_, rfl, ?_⟩; simp only [zn]; refine zy 12 ?_
            refine wpList_nil ?_; go_upto_region 5 with fail
            refine wp_region_lit ?_; refine zy 3 ?_; refine wpList_nil ?_; go_wp2; go_roundw
            case rel => exact ⟨k + 1, by omega, by go_num, B, r1⟩
            case measure => simp [intOf]; omega
           ·have HB := Lib.hid (show ui (jg s.pts k) = true from by rw [show k = m by omega]; exact HAT.out (by omega))
            generalize hx1 : jg s.pts k = x1 at *
            clear hx1; go_upto_region 4 with fail
            refine wp_region_lit ?_; refine zy 3 ?_
            refine zw (by first | rfl | simp [Region.wanted, yielded]) rfl Tryz.underlying26 rfl ?_; simp only [zn]; refine zy 1 ?_; refine wpList_nil ?_; go_upto_region 6 with fail
            refine wp_region_lit ?_; refine jp 5 ?_
            repeat (first | go_big_quiet_skip | (go_big_quiet_want; first | ((first | refine zo (t := 43) rfl _ _ _ rfl (fun w hw => (jb pc w hw).load Tryz.isAgg43 hp) (by first | rfl | omega) ?_ | refine qB ?_ | refine qC ?_); simp only [zn]; go_big_quiet_on) | (go_big_quiet_op; go_big_quiet_on)))
            refine wpQuiet_nil ?_
            (refine zu (t := 43) rfl _ (xB _ _ rfl) (z6 B ?_); clear B; intro b_p4 wn zb zd p4 za zf zk B; (try have zh := r1.lt); (try replace r1 := r1.below (za.mono zb)); (try have zh := p4.lt); (try replace p4 := p4.below (za.mono zb)); (try have zh := rs.lt); (try replace rs := rs.below (za.mono zb)); (try have zh := pc.lt); (try replace pc := pc.below (za.mono zb)); simp only [zn])
            (refine zq (t := 43) rfl _ _ rfl _ rfl _ rfl p4 (by kernel_rfl) rfl (by simp [qQ, Value.oneCell']) (qG B (by omega) ?_); clear p4 B; intro wn p4 ze zf zg B; (try replace r1 := r1.of_eq (ze.block _ r1.lt (by omega))); simp only [zn])
            refine wpList_nil ?_; replace p4 : zJ 43 _ b_p4 (qQ.enc x1) := p4; have e3 := HB.out; rw [Kw] at e3; have HF := Lib.hid (show Ending.returned (.bool false) = Ending.returned (.bool b) from by rw [← E.out, show vF s.pts = false from by cases h : vF s.pts with | false => rfl | true => (have := HO.out.1 h; omega)]; rfl)
            obtain ⟨i1, hi1⟩ : ∃ i, wX x1.x = i := ⟨_, rfl⟩; obtain ⟨i2, hi2⟩ : ∃ i, wX x1.y = i := ⟨_, rfl⟩; rw [hi1, hi2] at e3; have H4 := Lib.hid hi1; have H5 := Lib.hid hi2; clear hi1 hi2; cases i1 with
            | false =>
             clear e3; go_upto_region 7 with fail
             refine wp_region_lit ?_; refine zy 2 ?_
             refine qT (enters_of Tryz.func55 (by kernel_rfl) rfl) (c := vg x1.x false _ H4.out) (h := ?_); rintro e wn ⟨rfl, za⟩; have zf := B.size; have zg := za.size; replace B := B.trans (za.mono B.size)
             (try replace r1 := r1.below za)
             (try replace p4 := p4.below za)
             (try replace rs := rs.below za)
             (try replace pc := pc.below za)
             refine ⟨_, rfl, ?_⟩; simp only [zn]; refine zy 4 ?_
             refine qF ?hs33_7 ?_
             case hs33_7 => kernel_rfl
             simp only [zn]; refine zy 12 ?_
             refine wpList_nil ?_; go_upto_region 8 with fail
             refine wp_region_lit ?_; refine zy 1 ?_; refine wpList_nil ?_; go_wp2; go_ret; exact ⟨HF.out, B⟩
            | true =>
             cases i2 with
             | false =>
              clear e3; go_upto_region 7 with fail
              refine wp_region_lit ?_; refine zy 2 ?_
              refine qT (enters_of Tryz.func55 (by kernel_rfl) rfl) (c := vg x1.x true _ H4.out) (h := ?_); rintro e wn ⟨rfl, za⟩; have zf := B.size; have zg := za.size; replace B := B.trans (za.mono B.size)
              (try replace r1 := r1.below za)
              (try replace p4 := p4.below za)
              (try replace rs := rs.below za)
              (try replace pc := pc.below za)
              refine ⟨_, rfl, ?_⟩; simp only [zn]; refine zy 4 ?_
              refine qT (enters_of Tryz.func55 (by kernel_rfl) rfl) (c := vg x1.y false _ H5.out) (h := ?_); rintro e wn ⟨rfl, za⟩; have zf := B.size; have zg := za.size; replace B := B.trans (za.mono B.size)
              (try replace r1 := r1.below za)
              (try replace p4 := p4.below za)
              (try replace rs := rs.below za)
              (try replace pc := pc.below za)
              refine ⟨_, rfl, ?_⟩; simp only [zn]; refine zy 12 ?_
              refine wpList_nil ?_; go_upto_region 8 with fail
              refine wp_region_lit ?_; refine zy 1 ?_; refine wpList_nil ?_; go_wp2; go_ret; exact ⟨HF.out, B⟩
             | true =>
              obtain ⟨i3, hi3⟩ : ∃ i, decide (x1.p < 0) = i := ⟨_, rfl⟩; obtain ⟨i4, hi4⟩ : ∃ i, decide (255 < x1.p) = i := ⟨_, rfl⟩; rw [hi3, hi4] at e3; have e6 : (i3 || i4) = true := by rw [← e3]; cases i3 <;> cases i4 <;> rfl
              clear e3; cases i3 with
              | true =>
               clear e6; go_upto_region 7 with fail
               refine wp_region_lit ?_; refine zy 2 ?_
               refine qT (enters_of Tryz.func55 (by kernel_rfl) rfl) (c := vg x1.x true _ H4.out) (h := ?_); rintro e wn ⟨rfl, za⟩; have zf := B.size; have zg := za.size; replace B := B.trans (za.mono B.size)
               (try replace r1 := r1.below za)
               (try replace p4 := p4.below za)
               (try replace rs := rs.below za)
               (try replace pc := pc.below za)
               refine ⟨_, rfl, ?_⟩; simp only [zn]; refine zy 4 ?_
               refine qT (enters_of Tryz.func55 (by kernel_rfl) rfl) (c := vg x1.y true _ H5.out) (h := ?_); rintro e wn ⟨rfl, za⟩; have zf := B.size; have zg := za.size; replace B := B.trans (za.mono B.size)
               (try replace r1 := r1.below za)
               (try replace p4 := p4.below za)
               (try replace rs := rs.below za)
               (try replace pc := pc.below za)
               refine ⟨_, rfl, ?_⟩; simp only [zn]; refine zy 12 ?_
               refine wpList_nil ?_; go_upto_region 8 with fail
               refine wp_region_lit ?_; refine zy 1 ?_; refine wpList_nil ?_; go_wp2; go_ret; exact ⟨HF.out, B⟩
              | false =>
               obtain rfl : i4 = true := e6; go_upto_region 7 with fail
               refine wp_region_lit ?_; refine zy 2 ?_
               refine qT (enters_of Tryz.func55 (by kernel_rfl) rfl) (c := vg x1.x true _ H4.out) (h := ?_); rintro e wn ⟨rfl, za⟩; have zf := B.size; have zg := za.size; replace B := B.trans (za.mono B.size)
               (try replace r1 := r1.below za)
               (try replace p4 := p4.below za)
               (try replace rs := rs.below za)
               (try replace pc := pc.below za)
               refine ⟨_, rfl, ?_⟩; simp only [zn]; refine zy 4 ?_
               refine qT (enters_of Tryz.func55 (by kernel_rfl) rfl) (c := vg x1.y true _ H5.out) (h := ?_); rintro e wn ⟨rfl, za⟩; have zf := B.size; have zg := za.size; replace B := B.trans (za.mono B.size)
               (try replace r1 := r1.below za)
               (try replace p4 := p4.below za)
               (try replace rs := rs.below za)
               (try replace pc := pc.below za)
               refine ⟨_, rfl, ?_⟩; simp only [zn]; refine zy 12 ?_
               refine wpList_nil ?_; go_upto_region 8 with fail
               refine wp_region_lit ?_; refine zy 1 ?_; refine wpList_nil ?_; go_wp2; go_ret; exact ⟨HF.out, B⟩
          ·have q8 : decide ((k : Int) < (s.pts.length : Int)) = false := decide_eq_false (by omega)
           have q9 : decide (k < s.pts.length) = false := decide_eq_false hkl; have hml : m = s.pts.length := by omega
           have hok := HO.out.2 hml; have HOP := Lib.hid (Jq hok); have e2 := E.out; rw [hok, Bool.true_and] at e2; have rs := HS.out.below B; by_cases h1 : s.pts.length = 1
           ·have q10 : ((s.pts.length : Int) == 1) = true := by rw [h1]; rfl
            have q11 : decide ((s.pts.length : Int) = 1) = true := decide_eq_true (by omega); have q12 : (s.pts.length == 1) = true := by rw [h1]; rfl
            have q13 : decide (s.pts.length = 1) = true := decide_eq_true h1; have HF := Lib.hid (show Ending.returned (.bool true) = Ending.returned (.bool b) from by rw [← e2, zdF h1 (by omega) (by omega)]); clear e2 h1 hok hml; go_upto_region 4 with fail
            refine wp_region_lit ?_; refine zy 3 ?_
            refine zw (by first | rfl | simp [Region.wanted, yielded]) rfl Tryz.underlying26 rfl ?_; simp only [zn]; refine zy 1 ?_; refine wpList_nil ?_; go_upto_region 9 with fail
            try have lx_r1 := r1.lt
            try have lx_p4 := p4.lt
            try have lx_rs := rs.lt
            try have lx_pc := pc.lt
            refine zF 17 [(2, zE ?v1_2)] (by kernel_rfl) (by kernel_rfl) (by kernel_rfl) ?_
            rotate_left 1
            simp only [jK, Nat.reduceAdd]; refine vT 2 ?_
            refine zz (by rfl) (by first | rfl | simp [Region.wanted, yielded]) ?_ ?_
            ·intro wn za hE Kx hKx
             have zf := B.size; have zg := za.size; replace B := B.trans (za.mono B.size)
             (try replace r1 := r1.below za)
             (try replace p4 := p4.below za)
             (try replace rs := rs.below za)
             (try replace pc := pc.below za)
             refine y4 rfl Tryz.underlying26 rfl ?_; exact hKx () _ trivial (Below.refl _ _)
            rintro ⟨⟩
            dsimp only [zE]
            simp only [zn]; refine vT 10 ?_
            refine vd ?hw1_13 ?_
            case hw1_13 => kernel_rfl
            simp only [zn]; refine vT 3 ?_; refine zY ?_; intro wn za hE; have zf := B.size; have zg := za.size; replace B := B.trans (za.mono B.size)
            (try replace r1 := r1.below za)
            (try replace p4 := p4.below za)
            (try replace rs := rs.below za)
            (try replace pc := pc.below za)
            clear hE; try simp only [List.drop_succ_cons, List.drop_zero]
            refine zN.normal ?_; go_wp2; go_ret; exact ⟨HF.out, B⟩
           ·have q10 : ((s.pts.length : Int) == 1) = false := by simp; omega
            have q11 : decide ((s.pts.length : Int) = 1) = false := decide_eq_false (by omega); have q12 : (s.pts.length == 1) = false := by simp; omega
            have q13 : decide (s.pts.length = 1) = false := decide_eq_false h1; have HTT : 0 ≤ xX s.pts ∧ xX s.pts ≤ 189812544 := by
             have h1 := wN HOP.out (s.pts.length - 1) (by omega); exact ⟨vo _ _, by show jr s.pts (s.pts.length - 1) ≤ _; omega⟩
            rw [zdE s (.inr trivial)] at e2; obtain ⟨t, ht⟩ : ∃ t, xX s.pts = t := ⟨_, rfl⟩; rw [ht] at e2 HTT; have HT := Lib.hid ht; have HF := Lib.hid (show Ending.returned (.bool (decide (t ≤ s.pha + 1024 * s.spa))) = Ending.returned (.bool b) from by rw [e2]); clear e2 hok hml ht h1; go_upto_region 4 with fail
            refine wp_region_lit ?_; refine zy 3 ?_
            refine zw (by first | rfl | simp [Region.wanted, yielded]) rfl Tryz.underlying26 rfl ?_; simp only [zn]; refine zy 1 ?_; refine wpList_nil ?_; go_upto_region 9 with fail
            try have lx_r1 := r1.lt
            try have lx_p4 := p4.lt
            try have lx_rs := rs.lt
            try have lx_pc := pc.lt
            refine zF 17 [(2, zE ?v2_2), (13, zE ?v2_13)] (by kernel_rfl) (by kernel_rfl) (by kernel_rfl) ?_
            rotate_left 2
            simp only [jK, Nat.reduceAdd]; refine vT 2 ?_
            refine zz (by rfl) (by first | rfl | simp [Region.wanted, yielded]) ?_ ?_
            ·intro wn za hE Kx hKx
             have zf := B.size; have zg := za.size; replace B := B.trans (za.mono B.size)
             (try replace r1 := r1.below za)
             (try replace rs := rs.below za)
             refine y4 rfl Tryz.underlying26 rfl ?_; exact hKx () _ trivial (Below.refl _ _)
            rintro ⟨⟩
            dsimp only [zE]
            simp only [zn]; refine vT 10 ?_
            refine zz (by rfl) ?hw2_13 ?_ ?_
            case hw2_13 => kernel_rfl
            ·intro wn za hE Kx hKx
             have zf := B.size; have zg := za.size; replace B := B.trans (za.mono B.size)
             (try replace rs := rs.below za)
             refine zG rfl (enters_of Tryz.func56 (by kernel_rfl) rfl) (by simp only [Act.eval, qo]; rfl) ?_
             refine (zdm _ s.pts t wn rs (by omega) HOP.out HT.out).mono ?_; rintro e wm ⟨rfl, zl⟩; refine ⟨_, rfl, ?_⟩; have hz := hKx () wm trivial zl
             dsimp only [zE] at hz
             exact hz
            rintro ⟨⟩
            dsimp only [zE]
            simp only [zn]; refine vT 3 ?_; refine zY ?_; intro wn za hE; have zf := B.size; have zg := za.size; replace B := B.trans (za.mono B.size); clear hE; try simp only [List.drop_succ_cons, List.drop_zero]
            refine zN.normal ?_; go_wp2; go_ret; exact ⟨HF.out, B⟩
/-! ### Cover -/
end Go.Proofs.YtepelndbbhdofaaGreatDoor
/- Contracts of Bytes of package stroke and of its reference. -/
namespace Go.Proofs.YtepelndbbhdofaaGreatDoor
open Go.RowKit Sha Pl
set_option linter.unusedVariables false
set_option linter.unusedSimpArgs false
set_option maxRecDepth 20000
theorem zdo (B0 b : Nat) (l : List UInt8) (z : Int) (w : World) (h : xY B0 b l w) (hz : 0 ≤ z ∧ z < 16777216) (hlen : l.length ≤ 100000) (hBw : B0 ≤ w.heap.size) : Calls Tryz.prog 82 #[.int .i64 z, .int .i64 1, .pointer (some ⟨b, 0, none⟩)] w fun e w' => (∃ v, e = .returned v) ∧ UB B0 b (l ++ zS z.toNat 1) w' ∧ Below B0 w w' := by
 obtain ⟨n, rfl⟩ : ∃ n : Nat, z = n := ⟨z.toNat, by omega⟩
 exact zdi B0 b l n w h (by omega) hlen hBw
theorem Kt (B0 b : Nat) (l : List UInt8) (z : Int) (w : World) (h : UB B0 b l w) (hz : 0 ≤ z ∧ z < 16777216) (hlen : l.length ≤ 100000) (hBw : B0 ≤ w.heap.size) : Calls Tryz.prog 82 #[.int .i64 z, .int .i64 1, .pointer (some ⟨b, 0, none⟩)] w fun e w' => (∃ v, e = .returned v) ∧ UB B0 b (l ++ zS z.toNat 1) w' ∧ Below B0 w w' ∧ KB b w w' := by
 obtain ⟨n, rfl⟩ : ∃ n : Nat, z = n := ⟨z.toNat, by omega⟩
 exact zeQ B0 b l n w h (by omega) hlen hBw
theorem Vv (z : Int) (w : World) (hz : 0 ≤ z ∧ z < 16777216) : Calls Tryz.prog 90 #[.int .i64 z, .int .i64 1] w fun e w' => e = .returned (.string (jk (zS z.toNat 1))) ∧ Below w.heap.size w w' := by
 obtain ⟨n, rfl⟩ : ∃ n : Nat, z = n := ⟨z.toNat, by omega⟩
 exact zeT n (by omega) w
theorem zbl (B0 b : Nat) (l : List UInt8) (z : Int) (w : World) (h : UB B0 b l w) (hz : 0 ≤ z ∧ z < 16777216) (hlen : l.length ≤ 100000) (hBw : B0 ≤ w.heap.size) : Calls Tryz.prog 82 #[.int .i64 z, .int .i64 2, .pointer (some ⟨b, 0, none⟩)] w fun e w' => (∃ v, e = .returned v) ∧ UB B0 b (l ++ zS z.toNat 2) w' ∧ Below B0 w w' ∧ KB b w w' := by
 obtain ⟨n, rfl⟩ : ∃ n : Nat, z = n := ⟨z.toNat, by omega⟩
 exact zeR B0 b l n w h (by omega) hlen hBw
theorem ZT (z : Int) (w : World) (hz : 0 ≤ z ∧ z < 16777216) : Calls Tryz.prog 90 #[.int .i64 z, .int .i64 2] w fun e w' => e = .returned (.string (jk (zS z.toNat 2))) ∧ Below w.heap.size w w' := by
 obtain ⟨n, rfl⟩ : ∃ n : Nat, z = n := ⟨z.toNat, by omega⟩
 exact zeU n (by omega) w
theorem JX (B0 b : Nat) (l : List UInt8) (z : Int) (w : World) (h : UB B0 b l w) (hz : 0 ≤ z ∧ z < 16777216) (hlen : l.length ≤ 100000) (hBw : B0 ≤ w.heap.size) : Calls Tryz.prog 82 #[.int .i64 z, .int .i64 3, .pointer (some ⟨b, 0, none⟩)] w fun e w' => (∃ v, e = .returned v) ∧ UB B0 b (l ++ zS z.toNat 3) w' ∧ Below B0 w w' ∧ KB b w w' := by
 obtain ⟨n, rfl⟩ : ∃ n : Nat, z = n := ⟨z.toNat, by omega⟩
 exact zeS B0 b l n w h (by omega) hlen hBw
theorem ZU (z : Int) (w : World) (hz : 0 ≤ z ∧ z < 16777216) : Calls Tryz.prog 90 #[.int .i64 z, .int .i64 3] w fun e w' => e = .returned (.string (jk (zS z.toNat 3))) ∧ Below w.heap.size w w' := by
 obtain ⟨n, rfl⟩ : ∃ n : Nat, z = n := ⟨z.toNat, by omega⟩
 exact zeV n (by omega) w
theorem Jv (l : List Sp) {k : Nat} {p : Sp} (h : l[k]? = some p) : jP (l.take (k + 1)) = jP (l.take k) ++ KU p := by
 rw [List.take_add_one, h]
 exact Ju _ _
set_option maxHeartbeats 8000000 in
theorem kI (v : Value) (s : qS) (L : List UInt8) (w : World) (rs : j9 qQ v s.pts w) (hn : s.pts.length ≤ 17592186044416) (hcol : s.col.ok) (e : jh s = L) : Calls Tryz.prog 33 #[.agg (qR v s)] w fun e w' => e = .returned (.string (jk L)) ∧ Below w.heap.size w w' := by
 have B := Below.refl w.heap.size w
 obtain ⟨a, c, rfl, hc⟩ := rs.len
 cases hv : ju s with
 | false =>
  have hL : L = [] := by rw [← e]; unfold jh; rw [hv]; rfl
  subst hL; have HV := Lib.hid hv; clear hv e; go_enter Tryz.func33, Tryz.ntmps33
  go_upto_region 0 with fail
  refine wp_region_lit ?_
  (refine zt (t := 30) rfl _ rfl _ rfl (z6 B ?_); clear B; intro b_r1 wn zb zd r1 za zf zk B; (try have zh := rs.lt); (try replace rs := rs.below (za.mono zb)); simp only [zn])
  refine zy 1 ?_; refine wpList_nil ?_; go_upto_region 1 with fail
  refine wp_region_lit ?_; refine zy 1 ?_
  refine qT (enters_of Tryz.func16 (by kernel_rfl) rfl) (c := xz _ s false _ rs hn HV.out) (h := ?_); rintro e wn ⟨rfl, za⟩; have zf := B.size; have zg := za.size; replace B := B.trans (za.mono B.size)
  (try replace r1 := r1.below za)
  (try replace rs := rs.below za)
  refine ⟨_, rfl, ?_⟩; simp only [zn]; refine zy 1 ?_; refine wpList_nil ?_; go_upto_region 2 with fail
  refine wp_region_lit ?_; refine zy 1 ?_; refine wpList_nil ?_; go_wp2; go_ret; exact ⟨rfl, B⟩
 | true =>
  have hL : qL s = L := by rw [← e]; unfold jh; rw [hv]; rfl
  have HL := Lib.hid hL; have HVS := Lib.hid ((jR s).1 hv); have HV := Lib.hid hv; have hl1 := HVS.out.l1; have hl2 := HVS.out.l2; have v1 := HVS.out.r1; have v2 := HVS.out.r2; have v3 := HVS.out.s1; have v4 := HVS.out.s2; have v5 := HVS.out.p1; have v6 := HVS.out.p2; obtain ⟨g, o, rfl, pc⟩ := rs.at (by omega); have hg0 := pc.lt; have HCOL := Lib.hid hcol; clear hv e hL hcol; go_enter Tryz.func33, Tryz.ntmps33
  go_upto_region 0 with fail
  refine wp_region_lit ?_
  (refine zt (t := 30) rfl _ rfl _ rfl (z6 B ?_); clear B; intro b_r1 wn zb zd r1 za zf zk B; (try have zh := r1.lt); (try replace r1 := r1.below (za.mono zb)); (try have zh := pc.lt); (try replace pc := pc.below (za.mono zb)); (try have zh := rs.lt); (try replace rs := rs.below (za.mono zb)); simp only [zn])
  refine zy 1 ?_; refine wpList_nil ?_; have k1 : w.heap.size ≤ b_r1 := by omega
  go_upto_region 1 with fail
  refine wp_region_lit ?_; refine zy 1 ?_
  refine qT (enters_of Tryz.func16 (by kernel_rfl) rfl) (c := xz _ s true _ rs hn HV.out) (h := ?_); rintro e wn ⟨rfl, za⟩; have zf := B.size; have zg := za.size; replace B := B.trans (za.mono B.size)
  (try replace r1 := r1.below za)
  (try replace pc := pc.below za)
  (try replace rs := rs.below za)
  refine ⟨_, rfl, ?_⟩; simp only [zn]; refine zy 1 ?_; refine wpList_nil ?_; clear rs; have hr1 := r1.lt; go_upto_region 3 with fail
  refine wp_region_lit ?_
  (refine Q9 rfl rfl (z6 B ?_); clear B; intro b_bd wn zb zd bd za zf zk B; (try have zh := r1.lt); (try replace r1 := r1.below (za.mono zb)); (try have zh := pc.lt); (try replace pc := pc.below (za.mono zb)); simp only [zn])
  refine wpList_nil ?_; have k2 : b_r1 < b_bd := by omega
  have k3 : g < b_bd := by omega
  have hbl := bd.lt; go_upto_region 4 with fail
  refine wp_region_lit ?_
  (refine zV rfl (.func (.func 82) #[] #[.pointer (some ⟨b_bd, 0, none⟩)]) (by first | rfl | simp [go_sem, Act.eval]) ?_; simp only [zn])
  refine zy 1 ?_; refine wpList_nil ?_; go_upto_region 5 with fail
  refine wp_region_lit ?_; refine zy 3 ?_
  refine zw (by first | rfl | simp [Region.wanted, yielded]) rfl Tryz.underlying26 rfl ?_; simp only [zn]; refine qO (by first | rfl | simp [Region.wanted, yielded]) rfl (by simp only [Act.eval, qo]; rfl) (enters_of Tryz.func82 (by kernel_rfl) rfl) (by simp only [Act.eval, qo]; rfl) ?_
  refine (zdo b_bd b_bd ([]) ((s.pts.length : Int)) _ bd (by omega) (by simp) (by omega)).mono ?_; rintro e wn ⟨⟨_, rfl⟩, hu, za⟩; have zf := B.size; have zg := za.size; replace B := B.trans (za.mono (by omega)); replace r1 := r1.of_eq (za.block _ (by omega)); replace pc := pc.of_eq (za.block _ (by omega)); clear bd; have bd := hu; clear hu; refine ⟨_, rfl, ?_⟩; simp only [zn]; refine wpList_nil ?_; rw [List.nil_append, Int.toNat_natCast] at bd; go_upto_region 6 with fail
  refine wp_region_lit ?_; refine zy 2 ?_
  refine zw (by first | rfl | simp [Region.wanted, yielded]) rfl Tryz.underlying26 rfl ?_; simp only [zn]; refine zy 1 ?_; refine wpList_nil ?_; clear hbl; go_wp2; go_loopw [6, 20] (fun _ iv wr => ∃ k : Nat, k ≤ s.pts.length ∧ iv = .int .i64 (k : Int) ∧ Below w.heap.size w wr ∧ zJ 30 wr b_r1 (qR (.slice (some ⟨g, o, none⟩) s.pts.length c) s) ∧ zO qQ g o s.pts wr ∧ UB b_bd b_bd ((zS s.pts.length 1) ++ jP (s.pts.take k)) wr) (fun _ iv _ => (s.pts.length - intOf iv).toNat)
  case atStart => exact ⟨0, by omega, rfl, B, r1, pc, by rw [List.take_zero]; exact bd⟩
  case round =>
   clear B r1 pc bd; obtain ⟨k, hk, rfl, B, r1, pc, bd⟩ := hrel; have hbl := bd.lt; by_cases hkl : k < s.pts.length
   ·have q1 : decide ((k : Int) < (s.pts.length : Int)) = true := decide_eq_true (by omega)
    have q2 : decide (k < s.pts.length) = true := decide_eq_true hkl; have hp := jc hkl; have OKP := HVS.out.pt hkl; have hst := Jv s.pts hp
    generalize hx1 : jg s.pts k = x1 at *
    clear hx1; have HST := Lib.hid hst; clear hst; obtain ⟨o1, o2, o3, o4, o5, o6⟩ := OKP; obtain ⟨l0, hl0⟩ : ∃ l, (zS s.pts.length 1) ++ jP (s.pts.take k) = l := ⟨_, rfl⟩; have hl0n : l0.length ≤ 449 := by rw [← hl0, List.length_append, zx, yg, List.length_take]; omega
    rw [hl0] at bd; have HL0 := Lib.hid hl0; clear hl0; go_upto_region 7 with fail
    refine wp_region_lit ?_; refine zy 1 ?_; refine wpList_nil ?_; have BW := B; have hws := B.size; have HBD := Lib.hid bd; obtain ⟨wR, hwR⟩ : ∃ z, z = wr := ⟨_, rfl⟩; subst hwR; have B := Below.refl wR.heap.size wR; have hr1l := r1.lt; have hgl := pc.lt; go_upto_region 8 with fail
    refine wp_region_lit ?_; refine jp 2 ?_; repeat (first | go_big_quiet_skip | (go_big_quiet_want; first | ((first | refine zo (t := 43) rfl _ _ _ rfl (fun w hw => (jb pc w hw).load Tryz.isAgg43 hp) (by first | rfl | omega) ?_ | refine qB ?_ | refine qC ?_); simp only [zn]; go_big_quiet_on) | (go_big_quiet_op; go_big_quiet_on)))
    refine wpQuiet_nil ?_
    (refine zu (t := 43) rfl _ (xB _ _ rfl) (z6 B ?_); clear B; intro b_t6 wn zb zd t6 za zf zk B; (try have zh := r1.lt); (try replace r1 := r1.below (za.mono zb)); (try have zh := pc.lt); (try replace pc := pc.below (za.mono zb)); simp only [zn])
    (refine zq (t := 43) rfl _ _ rfl _ rfl _ rfl t6 (by kernel_rfl) rfl (by simp [qQ, Value.oneCell']) (qG B (by omega) ?_); clear t6 B; intro wn t6 ze zf zg B; (try replace r1 := r1.of_eq (ze.block _ r1.lt (by omega))); (try replace pc := pc.of_eq (ze.block _ pc.lt (by omega))); simp only [zn])
    refine wpList_nil ?_; replace t6 : zJ 43 _ b_t6 (qQ.enc x1) := t6; clear bd; have bd := HBD.out.below B; have k5 : b_bd < b_t6 := by omega
    have B0 := BW.trans (B.mono hws); clear B; have B := B0; clear B0 BW; go_upto_region 9 with fail
    refine wp_region_lit ?_; refine zy 4 ?_
    refine qO (by first | rfl | simp [Region.wanted, yielded]) rfl (by simp only [Act.eval, qo]; rfl) (enters_of Tryz.func82 (by kernel_rfl) rfl) (by simp only [Act.eval, qo]; rfl) ?_
    refine (JX b_bd b_bd (l0) (x1.x + 1048576) _ bd (by omega) (by omega) (by omega)).mono ?_; rintro e wn ⟨⟨_, rfl⟩, hu, za, hkm⟩; have zf := B.size; have zg := za.size; replace B := B.trans (za.mono (by omega)); replace r1 := r1.of_eq (za.block _ (by omega)); replace pc := pc.of_eq (za.block _ (by omega)); replace t6 := hkm _ _ _ t6 (by omega) (by decide); clear bd; have bd := hu; clear hu; refine ⟨_, rfl, ?_⟩; simp only [zn]; refine wpList_nil ?_; go_upto_region 10 with fail
    refine wp_region_lit ?_; refine zy 4 ?_
    refine qO (by first | rfl | simp [Region.wanted, yielded]) rfl (by simp only [Act.eval, qo]; rfl) (enters_of Tryz.func82 (by kernel_rfl) rfl) (by simp only [Act.eval, qo]; rfl) ?_
    refine (JX b_bd b_bd (l0 ++ zS (x1.x + 1048576).toNat 3) (x1.y + 1048576) _ bd (by omega) (by simp only [List.length_append, zx]; omega) (by omega)).mono ?_
    rintro e wn ⟨⟨_, rfl⟩, hu, za, hkm⟩; have zf := B.size; have zg := za.size; replace B := B.trans (za.mono (by omega)); replace r1 := r1.of_eq (za.block _ (by omega)); replace pc := pc.of_eq (za.block _ (by omega)); replace t6 := hkm _ _ _ t6 (by omega) (by decide); clear bd; have bd := hu; clear hu; refine ⟨_, rfl, ?_⟩; simp only [zn]; refine wpList_nil ?_; go_upto_region 11 with fail
    refine wp_region_lit ?_; refine zy 3 ?_
    refine qO (by first | rfl | simp [Region.wanted, yielded]) rfl (by simp only [Act.eval, qo]; rfl) (enters_of Tryz.func82 (by kernel_rfl) rfl) (by simp only [Act.eval, qo]; rfl) ?_
    refine (Kt b_bd b_bd (l0 ++ zS (x1.x + 1048576).toNat 3 ++ zS (x1.y + 1048576).toNat 3) (x1.p) _ bd (by omega) (by simp only [List.length_append, zx]; omega) (by omega)).mono ?_
    rintro e wn ⟨⟨_, rfl⟩, hu, za, hkm⟩; have zf := B.size; have zg := za.size; replace B := B.trans (za.mono (by omega)); replace r1 := r1.of_eq (za.block _ (by omega)); replace pc := pc.of_eq (za.block _ (by omega)); replace t6 := hkm _ _ _ t6 (by omega) (by decide); clear bd; have bd := hu; clear hu; refine ⟨_, rfl, ?_⟩; simp only [zn]; refine wpList_nil ?_; have hfin : l0 ++ zS (x1.x + 1048576).toNat 3 ++ zS (x1.y + 1048576).toNat 3 ++ zS x1.p.toNat 1 = (zS s.pts.length 1) ++ jP (s.pts.take (k + 1)) := by
     rw [HST.out, ← HL0.out]; unfold KU; simp only [List.append_assoc]
    rw [hfin] at bd; clear hfin; go_upto_region 12 with fail
    refine wp_region_lit ?_; refine zy 2 ?_; refine wpList_nil ?_; go_wp2; go_roundw
    case rel => exact ⟨k + 1, by omega, by go_num, B, r1, pc, bd⟩
    case measure => simp [intOf]; omega
   ·have q1 : decide ((k : Int) < (s.pts.length : Int)) = false := decide_eq_false (by omega)
    have q2 : decide (k < s.pts.length) = false := decide_eq_false hkl; obtain ⟨c1, c2, c3, c4⟩ := HCOL.out; obtain ⟨l0, hl0⟩ : ∃ l, (zS s.pts.length 1) ++ jP (s.pts.take k) = l := ⟨_, rfl⟩; have hl0n : l0.length ≤ 449 := by rw [← hl0, List.length_append, zx, yg, List.length_take]; omega
    have hl0f : l0 = (zS s.pts.length 1) ++ jP s.pts := by rw [← hl0, List.take_of_length_le (by omega)]
    rw [hl0] at bd; have HL0 := Lib.hid hl0f; clear hl0 hl0f; go_upto_region 7 with fail
    refine wp_region_lit ?_; refine zy 1 ?_; refine wpList_nil ?_; go_upto_region 13 with fail
    refine wp_region_lit ?_; refine zy 3 ?_
    refine qO (by first | rfl | simp [Region.wanted, yielded]) rfl (by simp only [Act.eval, qo]; rfl) (enters_of Tryz.func82 (by kernel_rfl) rfl) (by simp only [Act.eval, qo]; rfl) ?_
    refine (zbl b_bd b_bd (l0) (s.rad) _ bd (by omega) (by omega) (by omega)).mono ?_; rintro e wn ⟨⟨_, rfl⟩, hu, za, hkm⟩; have zf := B.size; have zg := za.size; replace B := B.trans (za.mono (by omega)); replace r1 := r1.of_eq (za.block _ (by omega)); replace pc := pc.of_eq (za.block _ (by omega)); clear bd; have bd := hu; clear hu; refine ⟨_, rfl, ?_⟩; simp only [zn]; refine wpList_nil ?_; go_upto_region 14 with fail
    refine wp_region_lit ?_; refine zy 3 ?_
    refine qO (by first | rfl | simp [Region.wanted, yielded]) rfl (by simp only [Act.eval, qo]; rfl) (enters_of Tryz.func82 (by kernel_rfl) rfl) (by simp only [Act.eval, qo]; rfl) ?_
    refine (zbl b_bd b_bd (l0 ++ zS s.rad.toNat 2) (s.spa) _ bd (by omega) (by simp only [List.length_append, zx]; omega) (by omega)).mono ?_
    rintro e wn ⟨⟨_, rfl⟩, hu, za, hkm⟩; have zf := B.size; have zg := za.size; replace B := B.trans (za.mono (by omega)); replace r1 := r1.of_eq (za.block _ (by omega)); replace pc := pc.of_eq (za.block _ (by omega)); clear bd; have bd := hu; clear hu; refine ⟨_, rfl, ?_⟩; simp only [zn]; refine wpList_nil ?_; go_upto_region 15 with fail
    refine wp_region_lit ?_; refine zy 12 ?_
    (refine Ka rfl _ _ _ _ rfl s.col.r s.col.g s.col.b s.col.a c1 c2 c3 c4 rfl rfl rfl rfl (z6 B ?_); clear B; intro b_b4 wn zb zd b4 za zf zk B; (try have zh := r1.lt); (try replace r1 := r1.below (za.mono zb)); (try have zh := pc.lt); (try replace pc := pc.below (za.mono zb)); (try have zh := bd.lt); (try replace bd := bd.below (za.mono zb)); simp only [zn])
    (refine jL (s := 75) (d := 9) rfl _ rfl rfl (qk b4 (qZ s.col) (0) _ (by simp [qZ]) (fun i hi => by (have hi : i < 4 := hi); unfold qZ; rw [Nat.zero_add, List.getD_eq_getElem?_getD, List.getElem?_eq_getElem hi]; rfl)) ?_; simp only [zn])
    refine qT (enters_of Tryz.func83 (by kernel_rfl) rfl) (c := zda b_bd b_bd (l0 ++ zS s.rad.toNat 2 ++ zS s.spa.toNat 2) (jk (qZ s.col)) _ bd (by rw [qm]; simp only [List.length_append, zx, qZ, List.length_cons, List.length_nil]; omega) (by have := bd.lt; omega)) (h := ?_)
    rintro e wn ⟨⟨_, rfl⟩, hu, za, hkm⟩; have zf := B.size; have zg := za.size; replace B := B.trans (za.mono (by omega)); replace r1 := r1.of_eq (za.block _ (by omega)); replace pc := pc.of_eq (za.block _ (by omega)); clear bd; have bd := hu; clear hu; refine ⟨_, rfl, ?_⟩; simp only [zn]; refine wpList_nil ?_; rw [Zd] at bd; obtain ⟨l1, hl1'⟩ : ∃ l, l0 ++ zS s.rad.toNat 2 ++ zS s.spa.toNat 2 ++ qZ s.col = l := ⟨_, rfl⟩; have hl1n : l1.length ≤ 457 := by rw [← hl1']; simp only [List.length_append, zx, qZ, List.length_cons, List.length_nil]; omega
    rw [hl1'] at bd; have HL1 := Lib.hid hl1'; clear hl1' b4; go_upto_region 16 with fail
    refine wp_region_lit ?_; refine zy 1 ?_; refine wpList_nil ?_; go_upto_region 17 with fail
    refine wp_region_lit ?_; refine zy 2 ?_
    refine wpList_nil ?_; cases hera : s.era with
    | true =>
     have hen : zS (Int.toNat 1) 1 = zS (yT s) 1 := by unfold yT; rw [hera]; rfl
     have HEN := Lib.hid hen; clear hera hen; go_upto_region 18 with fail
     refine wp_region_lit ?_; refine zy 1 ?_; refine wpList_nil ?_; go_upto_region 19 with fail
     refine wp_region_lit ?_; refine zy 2 ?_; refine qO (by first | rfl | simp [Region.wanted, yielded]) rfl (by simp only [Act.eval, qo]; rfl) (enters_of Tryz.func82 (by kernel_rfl) rfl) (by simp only [Act.eval, qo]; rfl) ?_
     refine (Kt b_bd b_bd (l1) (1) _ bd (by omega) (by omega) (by omega)).mono ?_; rintro e wn ⟨⟨_, rfl⟩, hu, za, hkm⟩; have zf := B.size; have zg := za.size; replace B := B.trans (za.mono (by omega)); replace r1 := r1.of_eq (za.block _ (by omega)); replace pc := pc.of_eq (za.block _ (by omega)); clear bd; have bd := hu; clear hu; refine ⟨_, rfl, ?_⟩; simp only [zn]; refine wpList_nil ?_; rw [HEN.out] at bd; go_upto_region 20 with fail
     refine wp_region_lit ?_; refine zy 3 ?_
     refine qO (by first | rfl | simp [Region.wanted, yielded]) rfl (by simp only [Act.eval, qo]; rfl) (enters_of Tryz.func82 (by kernel_rfl) rfl) (by simp only [Act.eval, qo]; rfl) ?_
     refine (JX b_bd b_bd (l1 ++ zS (yT s) 1) (s.pha) _ bd (by omega) (by simp only [List.length_append, zx]; omega) (by omega)).mono ?_
     rintro e wn ⟨⟨_, rfl⟩, hu, za, hkm⟩; have zf := B.size; have zg := za.size; replace B := B.trans (za.mono (by omega)); replace r1 := r1.of_eq (za.block _ (by omega)); replace pc := pc.of_eq (za.block _ (by omega)); clear bd; have bd := hu; clear hu; refine ⟨_, rfl, ?_⟩; simp only [zn]; refine wpList_nil ?_; have hfin : l1 ++ zS (yT s) 1 ++ zS s.pha.toNat 3 = L := by
      rw [← HL.out, ← HL1.out, HL0.out]; unfold qL vR; simp only [List.append_assoc]
     rw [hfin] at bd; clear hfin; have hbz := bd.lt; go_upto_region 21 with fail
     refine wp_region_lit ?_; refine qT (enters_of Tryz.func85 (by kernel_rfl) rfl) (c := XL b_bd b_bd L _ bd.holds (by omega)) (h := ?_); rintro e wn ⟨rfl, za⟩; have zf := B.size; replace B := B.trans (za.mono (by omega)); clear bd; refine ⟨_, rfl, ?_⟩; simp only [zn]; refine zy 1 ?_; refine wpList_nil ?_; go_wp2; go_ret; exact ⟨rfl, B⟩
    | false =>
     have hen : zS (Int.toNat 0) 1 = zS (yT s) 1 := by unfold yT; rw [hera]; rfl
     have HEN := Lib.hid hen; clear hera hen; go_upto_region 19 with fail
     refine wp_region_lit ?_; refine zy 2 ?_; refine qO (by first | rfl | simp [Region.wanted, yielded]) rfl (by simp only [Act.eval, qo]; rfl) (enters_of Tryz.func82 (by kernel_rfl) rfl) (by simp only [Act.eval, qo]; rfl) ?_
     refine (Kt b_bd b_bd (l1) (0) _ bd (by omega) (by omega) (by omega)).mono ?_; rintro e wn ⟨⟨_, rfl⟩, hu, za, hkm⟩; have zf := B.size; have zg := za.size; replace B := B.trans (za.mono (by omega)); replace r1 := r1.of_eq (za.block _ (by omega)); replace pc := pc.of_eq (za.block _ (by omega)); clear bd; have bd := hu; clear hu; refine ⟨_, rfl, ?_⟩; simp only [zn]; refine wpList_nil ?_; rw [HEN.out] at bd; go_upto_region 20 with fail
     refine wp_region_lit ?_; refine zy 3 ?_
     refine qO (by first | rfl | simp [Region.wanted, yielded]) rfl (by simp only [Act.eval, qo]; rfl) (enters_of Tryz.func82 (by kernel_rfl) rfl) (by simp only [Act.eval, qo]; rfl) ?_
     refine (JX b_bd b_bd (l1 ++ zS (yT s) 1) (s.pha) _ bd (by omega) (by simp only [List.length_append, zx]; omega) (by omega)).mono ?_
     rintro e wn ⟨⟨_, rfl⟩, hu, za, hkm⟩; have zf := B.size; have zg := za.size; replace B := B.trans (za.mono (by omega)); replace r1 := r1.of_eq (za.block _ (by omega)); replace pc := pc.of_eq (za.block _ (by omega)); clear bd; have bd := hu; clear hu; refine ⟨_, rfl, ?_⟩; simp only [zn]; refine wpList_nil ?_; have hfin : l1 ++ zS (yT s) 1 ++ zS s.pha.toNat 3 = L := by
      rw [← HL.out, ← HL1.out, HL0.out]; unfold qL vR; simp only [List.append_assoc]
     rw [hfin] at bd; clear hfin; have hbz := bd.lt; go_upto_region 21 with fail
     refine wp_region_lit ?_; refine qT (enters_of Tryz.func85 (by kernel_rfl) rfl) (c := XL b_bd b_bd L _ bd.holds (by omega)) (h := ?_); rintro e wn ⟨rfl, za⟩; have zf := B.size; replace B := B.trans (za.mono (by omega)); clear bd; refine ⟨_, rfl, ?_⟩; simp only [zn]; refine zy 1 ?_; refine wpList_nil ?_; go_wp2; go_ret; exact ⟨rfl, B⟩
/- Contract of Bytes of the reference. -/
section
variable {o : Oper} {a : Act} {C : World → Prop} {K : Act → Prop}
theorem zee (A B : List UInt8) (hs : A.length + B.length ≤ 1000000) (w : World) : (binOp .add 9 (.string (jk A)) (.string (jk B))).run Tryz.prog w = .ok (.string (jk (A ++ B))) w := by
 have h : ¬ 9223372036854775807 < (jk A).size + (jk B).size := by rw [qm, qm]; omega
 rw [← Z0]
 simp [go_sem, h]
theorem zef (t : TypeId) (x y : Operand) (u v : Value) (w : World) : (eqGuard BinOp.add t x y u v).run Tryz.prog w = .ok () w := by first | rfl | simp [go_sem, eqGuard]
theorem zI {x y : Operand} (h : o.op = .binOp .add 9 x y 9) (A B : List UInt8) (hx : a.eval x = .string (jk A)) (hy : a.eval y = .string (jk B)) (hs : A.length + B.length ≤ 1000000) (hk : K (a.put o.dst (.string (jk (A ++ B))))) : o.quiet Tryz.prog a C K :=
 ⟨_, fun w hw => by unfold Oper.quietAt execOp; simp only [h, hx, hy, zef, zee A B hs w, Sem.run_bind, Sem.run_pure, Result.andThen_ok]; exact ⟨rfl, rfl⟩, hk⟩
theorem jC {s d : TypeId} {x : Operand} {v u : Value} (h : o.op = .convert s d x) (hx : a.eval x = u) (hr : ∀ w, C w → (convert s d u).run Tryz.prog w = .ok v w) (hk : K (a.put o.dst v)) : o.quiet Tryz.prog a C K :=
 ⟨_, fun w hw => by unfold Oper.quietAt execOp; simp only [h, hx, hr w hw, Sem.run_bind, Sem.run_pure, Result.andThen_ok]; exact ⟨rfl, rfl⟩, hk⟩
end
theorem we {t n : Nat} {w : World} {b : Nat} {f : Nat → UInt8} (h : wT t n w b f) : ∀ w', (∃ u, w' = ov w u) → wT t n w' b f := by
 rintro w' ⟨u, rfl⟩
 exact h.of_eq ((qN w u).block _ h.lt)
set_option maxHeartbeats 8000000 in
theorem X2 (v : Value) (s : qS) (L : List UInt8) (w : World) (rs : j9 qQ v s.pts w) (hn : s.pts.length ≤ 17592186044416) (hcol : s.col.ok) (e : jh s = L) : Calls Tryz.prog 35 #[.agg (qR v s)] w fun e w' => e = .returned (.string (jk L)) ∧ Below w.heap.size w w' := by
 have B := Below.refl w.heap.size w
 obtain ⟨a, c, rfl, hc⟩ := rs.len
 cases hv : ju s with
 | false =>
  have hL : L = [] := by rw [← e]; unfold jh; rw [hv]; rfl
  subst hL; have HV := Lib.hid hv; clear hv e; go_enter Tryz.func35, Tryz.ntmps35
  go_upto_region 0 with fail
  refine wp_region_lit ?_
  (refine zt (t := 30) rfl _ rfl _ rfl (z6 B ?_); clear B; intro b_r1 wn zb zd r1 za zf zk B; (try have zh := rs.lt); (try replace rs := rs.below (za.mono zb)); simp only [zn])
  refine zy 1 ?_; refine wpList_nil ?_; go_upto_region 1 with fail
  refine wp_region_lit ?_; refine zy 1 ?_
  refine qT (enters_of Tryz.func17 (by kernel_rfl) rfl) (c := u9 _ s false _ rs hn HV.out) (h := ?_); rintro e wn ⟨rfl, za⟩; have zf := B.size; have zg := za.size; replace B := B.trans (za.mono B.size)
  (try replace r1 := r1.below za)
  (try replace rs := rs.below za)
  refine ⟨_, rfl, ?_⟩; simp only [zn]; refine zy 1 ?_; refine wpList_nil ?_; go_upto_region 2 with fail
  refine wp_region_lit ?_; refine zy 2 ?_; refine wpList_nil ?_; go_upto_region 3 with fail
  refine wp_region_lit ?_; refine zy 1 ?_; refine wpList_nil ?_; go_wp2; go_ret; exact ⟨rfl, B⟩
 | true =>
  have hL : qL s = L := by rw [← e]; unfold jh; rw [hv]; rfl
  have HL := Lib.hid hL; have HVS := Lib.hid ((jR s).1 hv); have HV := Lib.hid hv; have hl1 := HVS.out.l1; have hl2 := HVS.out.l2; have v1 := HVS.out.r1; have v2 := HVS.out.r2; have v3 := HVS.out.s1; have v4 := HVS.out.s2; have v5 := HVS.out.p1; have v6 := HVS.out.p2; obtain ⟨g, o, rfl, pc⟩ := rs.at (by omega); have HCOL := Lib.hid hcol; clear hv e hL hcol; go_enter Tryz.func35, Tryz.ntmps35
  go_upto_region 0 with fail
  refine wp_region_lit ?_
  (refine zt (t := 30) rfl _ rfl _ rfl (z6 B ?_); clear B; intro b_r1 wn zb zd r1 za zf zk B; (try have zh := r1.lt); (try replace r1 := r1.below (za.mono zb)); (try have zh := pc.lt); (try replace pc := pc.below (za.mono zb)); (try have zh := rs.lt); (try replace rs := rs.below (za.mono zb)); simp only [zn])
  refine zy 1 ?_; refine wpList_nil ?_; go_upto_region 1 with fail
  refine wp_region_lit ?_; refine zy 1 ?_
  refine qT (enters_of Tryz.func17 (by kernel_rfl) rfl) (c := u9 _ s true _ rs hn HV.out) (h := ?_); rintro e wn ⟨rfl, za⟩; have zf := B.size; have zg := za.size; replace B := B.trans (za.mono B.size)
  (try replace r1 := r1.below za)
  (try replace pc := pc.below za)
  (try replace rs := rs.below za)
  refine ⟨_, rfl, ?_⟩; simp only [zn]; refine zy 1 ?_; refine wpList_nil ?_; clear rs; go_upto_region 2 with fail
  refine wp_region_lit ?_; refine zy 2 ?_; refine wpList_nil ?_; go_upto_region 4 with fail
  refine wp_region_lit ?_; refine zy 2 ?_
  refine zw (by first | rfl | simp [Region.wanted, yielded]) rfl Tryz.underlying26 rfl ?_; simp only [zn]; refine qT (enters_of Tryz.func90 (by kernel_rfl) rfl) (c := Vv (s.pts.length : Int) _ (by omega)) (h := ?_); rintro e wn ⟨rfl, za⟩; have zf := B.size; have zg := za.size; replace B := B.trans (za.mono B.size)
  (try replace r1 := r1.below za)
  (try replace pc := pc.below za)
  refine ⟨_, rfl, ?_⟩; simp only [zn]; refine zy 1 ?_; refine wpList_nil ?_; rw [Int.toNat_natCast]; go_upto_region 5 with fail
  refine wp_region_lit ?_; refine zy 1 ?_; refine wpList_nil ?_; go_wp2; go_loopw [4, 5] (fun sv iv wr => ∃ k : Nat, k ≤ s.pts.length ∧ iv = .int .i64 (k : Int) ∧ sv = .string (jk ((zS s.pts.length 1) ++ jP (s.pts.take k))) ∧ Below w.heap.size w wr ∧ zJ 30 wr b_r1 (qR (.slice (some ⟨g, o, none⟩) s.pts.length c) s) ∧ zO qQ g o s.pts wr) (fun _ iv _ => (s.pts.length - intOf iv).toNat)
  case atStart => exact ⟨0, by omega, rfl, by rw [List.take_zero]; rfl, B, r1, pc⟩
  case round =>
   clear B r1 pc; obtain ⟨k, hk, rfl, rfl, B, r1, pc⟩ := hrel; by_cases hkl : k < s.pts.length
   ·have q1 : decide ((k : Int) < (s.pts.length : Int)) = true := decide_eq_true (by omega)
    have q2 : decide (k < s.pts.length) = true := decide_eq_true hkl; have hp := jc hkl; have OKP := HVS.out.pt hkl; have hst := Jv s.pts hp
    generalize hx1 : jg s.pts k = x1 at *
    clear hx1; have HST := Lib.hid hst; clear hst; obtain ⟨o1, o2, o3, o4, o5, o6⟩ := OKP; obtain ⟨l0, hl0⟩ : ∃ l, (zS s.pts.length 1) ++ jP (s.pts.take k) = l := ⟨_, rfl⟩; have hl0n : l0.length ≤ 449 := by rw [← hl0, List.length_append, zx, yg, List.length_take]; omega
    rw [hl0]; have HL0 := Lib.hid hl0; clear hl0; go_upto_region 6 with fail
    refine wp_region_lit ?_; refine zy 3 ?_
    refine zw (by first | rfl | simp [Region.wanted, yielded]) rfl Tryz.underlying26 rfl ?_; simp only [zn]; refine zy 1 ?_; refine wpList_nil ?_; go_upto_region 8 with fail
    try have lx_r1 := r1.lt
    try have lx_pc := pc.lt
    refine zF 28 [(8, zE ?v1_8), (17, zE ?v1_17), (25, zE ?v1_25)] (by kernel_rfl) (by kernel_rfl) (by kernel_rfl) ?_
    rotate_left 3
    simp only [jK, Nat.reduceAdd]; refine xM 8 ?_
    repeat (first | go_big_quiet_skip | (go_big_quiet_want; first | ((first | refine zo (t := 3) rfl _ _ _ rfl (fun w hw => zr (K5 (jb pc w hw) hp)) (by first | rfl | omega) ?_ | refine zo (t := 3) rfl _ _ _ rfl (fun w hw => zr (K6 (jb pc w hw) hp)) (by first | rfl | omega) ?_ | refine zo (t := 3) rfl _ _ _ rfl (fun w hw => zr (K7 (jb pc w hw) hp)) (by first | rfl | omega) ?_ | refine zI rfl (l0) (zS (x1.x + 1048576).toNat 3) rfl rfl (by simp only [List.length_append, zx, qZ, List.length_cons, List.length_nil]; omega) ?_ | refine zI rfl (l0 ++ zS (x1.x + 1048576).toNat 3) (zS (x1.y + 1048576).toNat 3) rfl rfl (by simp only [List.length_append, zx, qZ, List.length_cons, List.length_nil]; omega) ?_ | refine zI rfl (l0 ++ zS (x1.x + 1048576).toNat 3 ++ zS (x1.y + 1048576).toNat 3) (zS x1.p.toNat 1) rfl rfl (by simp only [List.length_append, zx, qZ, List.length_cons, List.length_nil]; omega) ?_ | refine qB ?_ | refine qC ?_); simp only [zn]; go_big_quiet_on) | (go_big_quiet_op; go_big_quiet_on)))
    refine wpQuiet_nil ?_; refine zz (by rfl) (by first | rfl | simp [Region.wanted, yielded]) ?_ ?_
    ·intro wn za hE Kx hKx
     have zf := B.size; have zg := za.size; replace B := B.trans (za.mono B.size)
     (try replace r1 := r1.below za)
     (try replace pc := pc.below za)
     refine zG rfl (enters_of Tryz.func90 (by kernel_rfl) rfl) (by simp only [Act.eval, qo]; rfl) ?_
     refine (ZU (x1.x + 1048576) wn (by omega)).mono ?_; rintro e wm ⟨rfl, zl⟩; refine ⟨_, rfl, ?_⟩; have hz := hKx () wm trivial zl
     dsimp only [zE] at hz
     exact hz
    rintro ⟨⟩
    dsimp only [zE]
    simp only [zn]; refine xM 8 ?_
    repeat (first | go_big_quiet_skip | (go_big_quiet_want; first | ((first | refine zo (t := 3) rfl _ _ _ rfl (fun w hw => zr (K5 (jb pc w hw) hp)) (by first | rfl | omega) ?_ | refine zo (t := 3) rfl _ _ _ rfl (fun w hw => zr (K6 (jb pc w hw) hp)) (by first | rfl | omega) ?_ | refine zo (t := 3) rfl _ _ _ rfl (fun w hw => zr (K7 (jb pc w hw) hp)) (by first | rfl | omega) ?_ | refine zI rfl (l0) (zS (x1.x + 1048576).toNat 3) rfl rfl (by simp only [List.length_append, zx, qZ, List.length_cons, List.length_nil]; omega) ?_ | refine zI rfl (l0 ++ zS (x1.x + 1048576).toNat 3) (zS (x1.y + 1048576).toNat 3) rfl rfl (by simp only [List.length_append, zx, qZ, List.length_cons, List.length_nil]; omega) ?_ | refine zI rfl (l0 ++ zS (x1.x + 1048576).toNat 3 ++ zS (x1.y + 1048576).toNat 3) (zS x1.p.toNat 1) rfl rfl (by simp only [List.length_append, zx, qZ, List.length_cons, List.length_nil]; omega) ?_ | refine qB ?_ | refine qC ?_); simp only [zn]; go_big_quiet_on) | (go_big_quiet_op; go_big_quiet_on)))
    refine wpQuiet_nil ?_; refine zz (by rfl) (by first | rfl | simp [Region.wanted, yielded]) ?_ ?_
    ·intro wn za hE Kx hKx
     have zf := B.size; have zg := za.size; replace B := B.trans (za.mono B.size)
     (try replace r1 := r1.below za)
     (try replace pc := pc.below za)
     refine zG rfl (enters_of Tryz.func90 (by kernel_rfl) rfl) (by simp only [Act.eval, qo]; rfl) ?_
     refine (ZU (x1.y + 1048576) wn (by omega)).mono ?_; rintro e wm ⟨rfl, zl⟩; refine ⟨_, rfl, ?_⟩; have hz := hKx () wm trivial zl
     dsimp only [zE] at hz
     exact hz
    rintro ⟨⟩
    dsimp only [zE]
    simp only [zn]; refine xM 7 ?_
    repeat (first | go_big_quiet_skip | (go_big_quiet_want; first | ((first | refine zo (t := 3) rfl _ _ _ rfl (fun w hw => zr (K5 (jb pc w hw) hp)) (by first | rfl | omega) ?_ | refine zo (t := 3) rfl _ _ _ rfl (fun w hw => zr (K6 (jb pc w hw) hp)) (by first | rfl | omega) ?_ | refine zo (t := 3) rfl _ _ _ rfl (fun w hw => zr (K7 (jb pc w hw) hp)) (by first | rfl | omega) ?_ | refine zI rfl (l0) (zS (x1.x + 1048576).toNat 3) rfl rfl (by simp only [List.length_append, zx, qZ, List.length_cons, List.length_nil]; omega) ?_ | refine zI rfl (l0 ++ zS (x1.x + 1048576).toNat 3) (zS (x1.y + 1048576).toNat 3) rfl rfl (by simp only [List.length_append, zx, qZ, List.length_cons, List.length_nil]; omega) ?_ | refine zI rfl (l0 ++ zS (x1.x + 1048576).toNat 3 ++ zS (x1.y + 1048576).toNat 3) (zS x1.p.toNat 1) rfl rfl (by simp only [List.length_append, zx, qZ, List.length_cons, List.length_nil]; omega) ?_ | refine qB ?_ | refine qC ?_); simp only [zn]; go_big_quiet_on) | (go_big_quiet_op; go_big_quiet_on)))
    refine wpQuiet_nil ?_; refine zz (by rfl) (by first | rfl | simp [Region.wanted, yielded]) ?_ ?_
    ·intro wn za hE Kx hKx
     have zf := B.size; have zg := za.size; replace B := B.trans (za.mono B.size)
     (try replace r1 := r1.below za)
     (try replace pc := pc.below za)
     refine zG rfl (enters_of Tryz.func90 (by kernel_rfl) rfl) (by simp only [Act.eval, qo]; rfl) ?_
     refine (Vv x1.p wn (by omega)).mono ?_; rintro e wm ⟨rfl, zl⟩; refine ⟨_, rfl, ?_⟩; have hz := hKx () wm trivial zl
     dsimp only [zE] at hz
     exact hz
    rintro ⟨⟩
    dsimp only [zE]
    simp only [zn]; refine xM 2 ?_; repeat (first | go_big_quiet_skip | (go_big_quiet_want; first | ((first | refine zI rfl (l0) (zS (x1.x + 1048576).toNat 3) rfl rfl (by simp only [List.length_append, zx, qZ, List.length_cons, List.length_nil]; omega) ?_ | refine zI rfl (l0 ++ zS (x1.x + 1048576).toNat 3) (zS (x1.y + 1048576).toNat 3) rfl rfl (by simp only [List.length_append, zx, qZ, List.length_cons, List.length_nil]; omega) ?_ | refine zI rfl (l0 ++ zS (x1.x + 1048576).toNat 3 ++ zS (x1.y + 1048576).toNat 3) (zS x1.p.toNat 1) rfl rfl (by simp only [List.length_append, zx, qZ, List.length_cons, List.length_nil]; omega) ?_ | refine qB ?_ | refine qC ?_); simp only [zn]; go_big_quiet_on) | (go_big_quiet_op; go_big_quiet_on)))
    refine wpQuiet_nil ?_; refine zY ?_; intro wn za hE; have zf := B.size; have zg := za.size; replace B := B.trans (za.mono B.size)
    (try replace r1 := r1.below za)
    (try replace pc := pc.below za)
    clear hE; try simp only [List.drop_succ_cons, List.drop_zero]
    refine zN.normal ?_; have hfin : l0 ++ zS (x1.x + 1048576).toNat 3 ++ zS (x1.y + 1048576).toNat 3 ++ zS x1.p.toNat 1 = (zS s.pts.length 1) ++ jP (s.pts.take (k + 1)) := by
     rw [HST.out, ← HL0.out]; unfold KU; simp only [List.append_assoc]
    rw [hfin]; clear hfin; go_upto_region 7 with fail
    refine wp_region_lit ?_; refine zy 3 ?_; refine wpList_nil ?_; go_wp2; go_roundw
    case rel => exact ⟨k + 1, by omega, by go_num, rfl, B, r1, pc⟩
    case measure => simp [intOf]; omega
   ·have q1 : decide ((k : Int) < (s.pts.length : Int)) = false := decide_eq_false (by omega)
    have q2 : decide (k < s.pts.length) = false := decide_eq_false hkl; obtain ⟨c1, c2, c3, c4⟩ := HCOL.out; obtain ⟨l0, hl0⟩ : ∃ l, (zS s.pts.length 1) ++ jP (s.pts.take k) = l := ⟨_, rfl⟩; have hl0n : l0.length ≤ 449 := by rw [← hl0, List.length_append, zx, yg, List.length_take]; omega
    have hl0f : l0 = (zS s.pts.length 1) ++ jP s.pts := by rw [← hl0, List.take_of_length_le (by omega)]
    rw [hl0]; have HL0 := Lib.hid hl0f; clear hl0 hl0f; go_upto_region 6 with fail
    refine wp_region_lit ?_; refine zy 3 ?_
    refine zw (by first | rfl | simp [Region.wanted, yielded]) rfl Tryz.underlying26 rfl ?_; simp only [zn]; refine zy 1 ?_; refine wpList_nil ?_; go_upto_region 9 with fail
    refine wp_region_lit ?_; refine zy 1 ?_; refine wpList_nil ?_; go_upto_region 10 with fail
    refine wp_region_lit ?_; refine zy 2 ?_
    refine wpList_nil ?_; cases hera : s.era with
    | true =>
     have hen : [bt 1] = zS (yT s) 1 := by unfold yT; rw [hera]; rfl
     have HEN := Lib.hid hen; clear hera hen; go_upto_region 11 with fail
     refine wp_region_lit ?_; refine zy 1 ?_; refine wpList_nil ?_; go_upto_region 12 with fail
     refine wp_region_lit ?_; refine zy 14 ?_
     (refine ZH rfl _ _ _ _ _ rfl s.col.r s.col.g s.col.b s.col.a 1 c1 c2 c3 c4 (by omega) rfl rfl rfl rfl rfl (z6 B ?_); clear B; intro b_b5 wn zb zd b5 za zf zk B; (try have zh := r1.lt); (try replace r1 := r1.below (za.mono zb)); (try have zh := pc.lt); (try replace pc := pc.below (za.mono zb)); simp only [zn])
     refine zy 1 ?_; refine wpList_nil ?_; go_upto_region 13 with fail
     try have lx_r1 := r1.lt
     try have lx_pc := pc.lt
     try have lx_b5 := b5.lt
     refine zF 17 [(3, zE ?v2_3), (7, zE ?v2_7), (14, zE ?v2_14)] (by kernel_rfl) (by kernel_rfl) (by kernel_rfl) ?_
     rotate_left 3
     simp only [jK, Nat.reduceAdd]; refine xM 3 ?_
     repeat (first | go_big_quiet_skip | (go_big_quiet_want; first | ((first | refine jC (s := 75) (d := 9) rfl rfl (fun w hw => qk (we b5 w hw) ([bt s.col.r, bt s.col.g, bt s.col.b, bt s.col.a, bt 1]) 0 _ (by simp) (fun i hi => by (have hi : i < 5 := hi); rw [Nat.zero_add, List.getD_eq_getElem?_getD, List.getElem?_eq_getElem hi]; rfl)) ?_ | refine zI rfl (l0) (zS s.rad.toNat 2) rfl rfl (by simp only [List.length_append, zx, qZ, List.length_cons, List.length_nil]; omega) ?_ | refine zI rfl (l0 ++ zS s.rad.toNat 2) (zS s.spa.toNat 2) rfl rfl (by simp only [List.length_append, zx, qZ, List.length_cons, List.length_nil]; omega) ?_ | refine zI rfl (l0 ++ zS s.rad.toNat 2 ++ zS s.spa.toNat 2) ([bt s.col.r, bt s.col.g, bt s.col.b, bt s.col.a, bt 1]) rfl rfl (by simp only [List.length_append, zx, qZ, List.length_cons, List.length_nil]; omega) ?_ | refine zI rfl (l0 ++ zS s.rad.toNat 2 ++ zS s.spa.toNat 2 ++ [bt s.col.r, bt s.col.g, bt s.col.b, bt s.col.a, bt 1]) (zS s.pha.toNat 3) rfl rfl (by simp only [List.length_append, zx, qZ, List.length_cons, List.length_nil]; omega) ?_ | refine qB ?_ | refine qC ?_); simp only [zn]; go_big_quiet_on) | (go_big_quiet_op; go_big_quiet_on)))
     refine wpQuiet_nil ?_; refine zz (by rfl) (by first | rfl | simp [Region.wanted, yielded]) ?_ ?_
     ·intro wn za hE Kx hKx
      have zf := B.size; have zg := za.size; replace B := B.trans (za.mono B.size)
      (try replace r1 := r1.below za)
      (try replace pc := pc.below za)
      (try replace b5 := b5.below za)
      refine zG rfl (enters_of Tryz.func90 (by kernel_rfl) rfl) (by simp only [Act.eval, qo]; rfl) ?_
      refine (ZT s.rad wn (by omega)).mono ?_; rintro e wm ⟨rfl, zl⟩; refine ⟨_, rfl, ?_⟩; have hz := hKx () wm trivial zl
      dsimp only [zE] at hz
      exact hz
     rintro ⟨⟩
     dsimp only [zE]
     simp only [zn]; refine xM 3 ?_
     repeat (first | go_big_quiet_skip | (go_big_quiet_want; first | ((first | refine jC (s := 75) (d := 9) rfl rfl (fun w hw => qk (we b5 w hw) ([bt s.col.r, bt s.col.g, bt s.col.b, bt s.col.a, bt 1]) 0 _ (by simp) (fun i hi => by (have hi : i < 5 := hi); rw [Nat.zero_add, List.getD_eq_getElem?_getD, List.getElem?_eq_getElem hi]; rfl)) ?_ | refine zI rfl (l0) (zS s.rad.toNat 2) rfl rfl (by simp only [List.length_append, zx, qZ, List.length_cons, List.length_nil]; omega) ?_ | refine zI rfl (l0 ++ zS s.rad.toNat 2) (zS s.spa.toNat 2) rfl rfl (by simp only [List.length_append, zx, qZ, List.length_cons, List.length_nil]; omega) ?_ | refine zI rfl (l0 ++ zS s.rad.toNat 2 ++ zS s.spa.toNat 2) ([bt s.col.r, bt s.col.g, bt s.col.b, bt s.col.a, bt 1]) rfl rfl (by simp only [List.length_append, zx, qZ, List.length_cons, List.length_nil]; omega) ?_ | refine zI rfl (l0 ++ zS s.rad.toNat 2 ++ zS s.spa.toNat 2 ++ [bt s.col.r, bt s.col.g, bt s.col.b, bt s.col.a, bt 1]) (zS s.pha.toNat 3) rfl rfl (by simp only [List.length_append, zx, qZ, List.length_cons, List.length_nil]; omega) ?_ | refine qB ?_ | refine qC ?_); simp only [zn]; go_big_quiet_on) | (go_big_quiet_op; go_big_quiet_on)))
     refine wpQuiet_nil ?_; refine zz (by rfl) (by first | rfl | simp [Region.wanted, yielded]) ?_ ?_
     ·intro wn za hE Kx hKx
      have zf := B.size; have zg := za.size; replace B := B.trans (za.mono B.size)
      (try replace r1 := r1.below za)
      (try replace pc := pc.below za)
      (try replace b5 := b5.below za)
      refine zG rfl (enters_of Tryz.func90 (by kernel_rfl) rfl) (by simp only [Act.eval, qo]; rfl) ?_
      refine (ZT s.spa wn (by omega)).mono ?_; rintro e wm ⟨rfl, zl⟩; refine ⟨_, rfl, ?_⟩; have hz := hKx () wm trivial zl
      dsimp only [zE] at hz
      exact hz
     rintro ⟨⟩
     dsimp only [zE]
     simp only [zn]; refine xM 6 ?_
     repeat (first | go_big_quiet_skip | (go_big_quiet_want; first | ((first | refine jC (s := 75) (d := 9) rfl rfl (fun w hw => qk (we b5 w hw) ([bt s.col.r, bt s.col.g, bt s.col.b, bt s.col.a, bt 1]) 0 _ (by simp) (fun i hi => by (have hi : i < 5 := hi); rw [Nat.zero_add, List.getD_eq_getElem?_getD, List.getElem?_eq_getElem hi]; rfl)) ?_ | refine zI rfl (l0) (zS s.rad.toNat 2) rfl rfl (by simp only [List.length_append, zx, qZ, List.length_cons, List.length_nil]; omega) ?_ | refine zI rfl (l0 ++ zS s.rad.toNat 2) (zS s.spa.toNat 2) rfl rfl (by simp only [List.length_append, zx, qZ, List.length_cons, List.length_nil]; omega) ?_ | refine zI rfl (l0 ++ zS s.rad.toNat 2 ++ zS s.spa.toNat 2) ([bt s.col.r, bt s.col.g, bt s.col.b, bt s.col.a, bt 1]) rfl rfl (by simp only [List.length_append, zx, qZ, List.length_cons, List.length_nil]; omega) ?_ | refine zI rfl (l0 ++ zS s.rad.toNat 2 ++ zS s.spa.toNat 2 ++ [bt s.col.r, bt s.col.g, bt s.col.b, bt s.col.a, bt 1]) (zS s.pha.toNat 3) rfl rfl (by simp only [List.length_append, zx, qZ, List.length_cons, List.length_nil]; omega) ?_ | refine qB ?_ | refine qC ?_); simp only [zn]; go_big_quiet_on) | (go_big_quiet_op; go_big_quiet_on)))
     refine wpQuiet_nil ?_; refine zz (by rfl) (by first | rfl | simp [Region.wanted, yielded]) ?_ ?_
     ·intro wn za hE Kx hKx
      have zf := B.size; have zg := za.size; replace B := B.trans (za.mono B.size)
      (try replace r1 := r1.below za)
      (try replace pc := pc.below za)
      (try replace b5 := b5.below za)
      refine zG rfl (enters_of Tryz.func90 (by kernel_rfl) rfl) (by simp only [Act.eval, qo]; rfl) ?_
      refine (ZU s.pha wn (by omega)).mono ?_; rintro e wm ⟨rfl, zl⟩; refine ⟨_, rfl, ?_⟩; have hz := hKx () wm trivial zl
      dsimp only [zE] at hz
      exact hz
     rintro ⟨⟩
     dsimp only [zE]
     simp only [zn]; refine xM 2 ?_; repeat (first | go_big_quiet_skip | (go_big_quiet_want; first | ((first | refine jC (s := 75) (d := 9) rfl rfl (fun w hw => qk (we b5 w hw) ([bt s.col.r, bt s.col.g, bt s.col.b, bt s.col.a, bt 1]) 0 _ (by simp) (fun i hi => by (have hi : i < 5 := hi); rw [Nat.zero_add, List.getD_eq_getElem?_getD, List.getElem?_eq_getElem hi]; rfl)) ?_ | refine zI rfl (l0) (zS s.rad.toNat 2) rfl rfl (by simp only [List.length_append, zx, qZ, List.length_cons, List.length_nil]; omega) ?_ | refine zI rfl (l0 ++ zS s.rad.toNat 2) (zS s.spa.toNat 2) rfl rfl (by simp only [List.length_append, zx, qZ, List.length_cons, List.length_nil]; omega) ?_ | refine zI rfl (l0 ++ zS s.rad.toNat 2 ++ zS s.spa.toNat 2) ([bt s.col.r, bt s.col.g, bt s.col.b, bt s.col.a, bt 1]) rfl rfl (by simp only [List.length_append, zx, qZ, List.length_cons, List.length_nil]; omega) ?_ | refine zI rfl (l0 ++ zS s.rad.toNat 2 ++ zS s.spa.toNat 2 ++ [bt s.col.r, bt s.col.g, bt s.col.b, bt s.col.a, bt 1]) (zS s.pha.toNat 3) rfl rfl (by simp only [List.length_append, zx, qZ, List.length_cons, List.length_nil]; omega) ?_ | refine qB ?_ | refine qC ?_); simp only [zn]; go_big_quiet_on) | (go_big_quiet_op; go_big_quiet_on)))
     refine wpQuiet_nil ?_; refine zY ?_; intro wn za hE; have zf := B.size; have zg := za.size; replace B := B.trans (za.mono B.size)
     (try replace r1 := r1.below za)
     (try replace pc := pc.below za)
     (try replace b5 := b5.below za)
     clear hE; try simp only [List.drop_succ_cons, List.drop_zero]
     refine zN.normal ?_; have hfin : l0 ++ zS s.rad.toNat 2 ++ zS s.spa.toNat 2 ++ [bt s.col.r, bt s.col.g, bt s.col.b, bt s.col.a, bt 1] ++ zS s.pha.toNat 3 = L := by
      rw [← HL.out, HL0.out]; unfold qL vR qZ; rw [← HEN.out]; simp only [List.append_assoc, List.cons_append, List.nil_append]
     rw [hfin]; clear hfin; go_wp2; go_ret; exact ⟨rfl, B⟩
    | false =>
     have hen : [bt 0] = zS (yT s) 1 := by unfold yT; rw [hera]; rfl
     have HEN := Lib.hid hen; clear hera hen; go_upto_region 12 with fail
     refine wp_region_lit ?_; refine zy 14 ?_
     (refine ZH rfl _ _ _ _ _ rfl s.col.r s.col.g s.col.b s.col.a 0 c1 c2 c3 c4 (by omega) rfl rfl rfl rfl rfl (z6 B ?_); clear B; intro b_b5 wn zb zd b5 za zf zk B; (try have zh := r1.lt); (try replace r1 := r1.below (za.mono zb)); (try have zh := pc.lt); (try replace pc := pc.below (za.mono zb)); simp only [zn])
     refine zy 1 ?_; refine wpList_nil ?_; go_upto_region 13 with fail
     try have lx_r1 := r1.lt
     try have lx_pc := pc.lt
     try have lx_b5 := b5.lt
     refine zF 17 [(3, zE ?v3_3), (7, zE ?v3_7), (14, zE ?v3_14)] (by kernel_rfl) (by kernel_rfl) (by kernel_rfl) ?_
     rotate_left 3
     simp only [jK, Nat.reduceAdd]; refine xM 3 ?_
     repeat (first | go_big_quiet_skip | (go_big_quiet_want; first | ((first | refine jC (s := 75) (d := 9) rfl rfl (fun w hw => qk (we b5 w hw) ([bt s.col.r, bt s.col.g, bt s.col.b, bt s.col.a, bt 0]) 0 _ (by simp) (fun i hi => by (have hi : i < 5 := hi); rw [Nat.zero_add, List.getD_eq_getElem?_getD, List.getElem?_eq_getElem hi]; rfl)) ?_ | refine zI rfl (l0) (zS s.rad.toNat 2) rfl rfl (by simp only [List.length_append, zx, qZ, List.length_cons, List.length_nil]; omega) ?_ | refine zI rfl (l0 ++ zS s.rad.toNat 2) (zS s.spa.toNat 2) rfl rfl (by simp only [List.length_append, zx, qZ, List.length_cons, List.length_nil]; omega) ?_ | refine zI rfl (l0 ++ zS s.rad.toNat 2 ++ zS s.spa.toNat 2) ([bt s.col.r, bt s.col.g, bt s.col.b, bt s.col.a, bt 0]) rfl rfl (by simp only [List.length_append, zx, qZ, List.length_cons, List.length_nil]; omega) ?_ | refine zI rfl (l0 ++ zS s.rad.toNat 2 ++ zS s.spa.toNat 2 ++ [bt s.col.r, bt s.col.g, bt s.col.b, bt s.col.a, bt 0]) (zS s.pha.toNat 3) rfl rfl (by simp only [List.length_append, zx, qZ, List.length_cons, List.length_nil]; omega) ?_ | refine qB ?_ | refine qC ?_); simp only [zn]; go_big_quiet_on) | (go_big_quiet_op; go_big_quiet_on)))
     refine wpQuiet_nil ?_; refine zz (by rfl) (by first | rfl | simp [Region.wanted, yielded]) ?_ ?_
     ·intro wn za hE Kx hKx
      have zf := B.size; have zg := za.size; replace B := B.trans (za.mono B.size)
      (try replace r1 := r1.below za)
      (try replace b5 := b5.below za)
      refine zG rfl (enters_of Tryz.func90 (by kernel_rfl) rfl) (by simp only [Act.eval, qo]; rfl) ?_
      refine (ZT s.rad wn (by omega)).mono ?_; rintro e wm ⟨rfl, zl⟩; refine ⟨_, rfl, ?_⟩; have hz := hKx () wm trivial zl
      dsimp only [zE] at hz
      exact hz
     rintro ⟨⟩
     dsimp only [zE]
     simp only [zn]; refine xM 3 ?_
     repeat (first | go_big_quiet_skip | (go_big_quiet_want; first | ((first | refine jC (s := 75) (d := 9) rfl rfl (fun w hw => qk (we b5 w hw) ([bt s.col.r, bt s.col.g, bt s.col.b, bt s.col.a, bt 0]) 0 _ (by simp) (fun i hi => by (have hi : i < 5 := hi); rw [Nat.zero_add, List.getD_eq_getElem?_getD, List.getElem?_eq_getElem hi]; rfl)) ?_ | refine zI rfl (l0) (zS s.rad.toNat 2) rfl rfl (by simp only [List.length_append, zx, qZ, List.length_cons, List.length_nil]; omega) ?_ | refine zI rfl (l0 ++ zS s.rad.toNat 2) (zS s.spa.toNat 2) rfl rfl (by simp only [List.length_append, zx, qZ, List.length_cons, List.length_nil]; omega) ?_ | refine zI rfl (l0 ++ zS s.rad.toNat 2 ++ zS s.spa.toNat 2) ([bt s.col.r, bt s.col.g, bt s.col.b, bt s.col.a, bt 0]) rfl rfl (by simp only [List.length_append, zx, qZ, List.length_cons, List.length_nil]; omega) ?_ | refine zI rfl (l0 ++ zS s.rad.toNat 2 ++ zS s.spa.toNat 2 ++ [bt s.col.r, bt s.col.g, bt s.col.b, bt s.col.a, bt 0]) (zS s.pha.toNat 3) rfl rfl (by simp only [List.length_append, zx, qZ, List.length_cons, List.length_nil]; omega) ?_ | refine qB ?_ | refine qC ?_); simp only [zn]; go_big_quiet_on) | (go_big_quiet_op; go_big_quiet_on)))
     refine wpQuiet_nil ?_; refine zz (by rfl) (by first | rfl | simp [Region.wanted, yielded]) ?_ ?_
     ·intro wn za hE Kx hKx
      have zf := B.size; have zg := za.size; replace B := B.trans (za.mono B.size)
      (try replace r1 := r1.below za)
      (try replace b5 := b5.below za)
      refine zG rfl (enters_of Tryz.func90 (by kernel_rfl) rfl) (by simp only [Act.eval, qo]; rfl) ?_
      refine (ZT s.spa wn (by omega)).mono ?_; rintro e wm ⟨rfl, zl⟩; refine ⟨_, rfl, ?_⟩; have hz := hKx () wm trivial zl
      dsimp only [zE] at hz
      exact hz
     rintro ⟨⟩
     dsimp only [zE]
     simp only [zn]; refine xM 6 ?_
     repeat (first | go_big_quiet_skip | (go_big_quiet_want; first | ((first | refine jC (s := 75) (d := 9) rfl rfl (fun w hw => qk (we b5 w hw) ([bt s.col.r, bt s.col.g, bt s.col.b, bt s.col.a, bt 0]) 0 _ (by simp) (fun i hi => by (have hi : i < 5 := hi); rw [Nat.zero_add, List.getD_eq_getElem?_getD, List.getElem?_eq_getElem hi]; rfl)) ?_ | refine zI rfl (l0) (zS s.rad.toNat 2) rfl rfl (by simp only [List.length_append, zx, qZ, List.length_cons, List.length_nil]; omega) ?_ | refine zI rfl (l0 ++ zS s.rad.toNat 2) (zS s.spa.toNat 2) rfl rfl (by simp only [List.length_append, zx, qZ, List.length_cons, List.length_nil]; omega) ?_ | refine zI rfl (l0 ++ zS s.rad.toNat 2 ++ zS s.spa.toNat 2) ([bt s.col.r, bt s.col.g, bt s.col.b, bt s.col.a, bt 0]) rfl rfl (by simp only [List.length_append, zx, qZ, List.length_cons, List.length_nil]; omega) ?_ | refine zI rfl (l0 ++ zS s.rad.toNat 2 ++ zS s.spa.toNat 2 ++ [bt s.col.r, bt s.col.g, bt s.col.b, bt s.col.a, bt 0]) (zS s.pha.toNat 3) rfl rfl (by simp only [List.length_append, zx, qZ, List.length_cons, List.length_nil]; omega) ?_ | refine qB ?_ | refine qC ?_); simp only [zn]; go_big_quiet_on) | (go_big_quiet_op; go_big_quiet_on)))
     refine wpQuiet_nil ?_; refine zz (by rfl) (by first | rfl | simp [Region.wanted, yielded]) ?_ ?_
     ·intro wn za hE Kx hKx
      have zf := B.size; have zg := za.size; replace B := B.trans (za.mono B.size)
      (try replace b5 := b5.below za)
      refine zG rfl (enters_of Tryz.func90 (by kernel_rfl) rfl) (by simp only [Act.eval, qo]; rfl) ?_
      refine (ZU s.pha wn (by omega)).mono ?_; rintro e wm ⟨rfl, zl⟩; refine ⟨_, rfl, ?_⟩; have hz := hKx () wm trivial zl
      dsimp only [zE] at hz
      exact hz
     rintro ⟨⟩
     dsimp only [zE]
     simp only [zn]; refine xM 2 ?_; repeat (first | go_big_quiet_skip | (go_big_quiet_want; first | ((first | refine jC (s := 75) (d := 9) rfl rfl (fun w hw => qk (we b5 w hw) ([bt s.col.r, bt s.col.g, bt s.col.b, bt s.col.a, bt 0]) 0 _ (by simp) (fun i hi => by (have hi : i < 5 := hi); rw [Nat.zero_add, List.getD_eq_getElem?_getD, List.getElem?_eq_getElem hi]; rfl)) ?_ | refine zI rfl (l0) (zS s.rad.toNat 2) rfl rfl (by simp only [List.length_append, zx, qZ, List.length_cons, List.length_nil]; omega) ?_ | refine zI rfl (l0 ++ zS s.rad.toNat 2) (zS s.spa.toNat 2) rfl rfl (by simp only [List.length_append, zx, qZ, List.length_cons, List.length_nil]; omega) ?_ | refine zI rfl (l0 ++ zS s.rad.toNat 2 ++ zS s.spa.toNat 2) ([bt s.col.r, bt s.col.g, bt s.col.b, bt s.col.a, bt 0]) rfl rfl (by simp only [List.length_append, zx, qZ, List.length_cons, List.length_nil]; omega) ?_ | refine zI rfl (l0 ++ zS s.rad.toNat 2 ++ zS s.spa.toNat 2 ++ [bt s.col.r, bt s.col.g, bt s.col.b, bt s.col.a, bt 0]) (zS s.pha.toNat 3) rfl rfl (by simp only [List.length_append, zx, qZ, List.length_cons, List.length_nil]; omega) ?_ | refine qB ?_ | refine qC ?_); simp only [zn]; go_big_quiet_on) | (go_big_quiet_op; go_big_quiet_on)))
     refine wpQuiet_nil ?_; refine zY ?_; intro wn za hE; have zf := B.size; have zg := za.size; replace B := B.trans (za.mono B.size); clear hE; try simp only [List.drop_succ_cons, List.drop_zero]
     refine zN.normal ?_; have hfin : l0 ++ zS s.rad.toNat 2 ++ zS s.spa.toNat 2 ++ [bt s.col.r, bt s.col.g, bt s.col.b, bt s.col.a, bt 0] ++ zS s.pha.toNat 3 = L := by
      rw [← HL.out, HL0.out]; unfold qL vR qZ; rw [← HEN.out]; simp only [List.append_assoc, List.cons_append, List.nil_append]
     rw [hfin]; clear hfin; go_wp2; go_ret; exact ⟨rfl, B⟩
/- The reader of package octet: Read, Left, Take, Num, Failed; strings as slices of bytes. -/
/-! ### A row that holds bytes, made from a string -/
/-- The first cells of block b are the bytes l, and may be written. -/
def ZP (w : World) (b : Nat) (l : List UInt8) : Prop := b < w.heap.size ∧ ∀ j, j < l.length → w.cell? ⟨b, j, none⟩ = some (Y (l.getD j 0)) ∧ w.frozen? ⟨b, j, none⟩ = false
section
variable {w : World} {b : Nat} {l : List UInt8}
theorem ZP.lt (h : ZP w b l) : b < w.heap.size := h.1
theorem ZP.of_eq {w' : World} (h : ZP w b l) (e : w'.heap[b]? = w.heap[b]?) : ZP w' b l := by
 refine ⟨?_, fun j hj => ?_⟩
 ·have := h.1
  rcases Nat.lt_or_ge b w'.heap.size with k | k
  ·exact k
  ·rw [Array.getElem?_eq_none k, Array.getElem?_eq_getElem this] at e
   cases e
 ·obtain ⟨h1, h2⟩ := h.2 j hj
  refine ⟨(World.cell?_of_block (w := w) e).trans h1, ?_⟩; rw [← h2]; unfold World.frozen?; simp only [e]
theorem ZP.below {w' : World} (h : ZP w b l) (hb : Below w.heap.size w w') : ZP w' b l := h.of_eq (hb.block b h.lt)
theorem ZP.set (h : ZP w b l) {p : Nat} (hp : p < l.length) (c : UInt8) : ZP (w.setCell ⟨b, p, none⟩ (Y c)) b (l.set p c) := by
 refine ⟨by rw [World.size_setCell]; exact h.1, fun j hj => ?_⟩
 rw [List.length_set] at hj
 obtain ⟨h1, h2⟩ := h.2 j hj
 refine ⟨?_, by rw [World.frozen?_setCell]; exact h2⟩
 rw [List.getD_eq_getElem?_getD, List.getElem?_set]
 by_cases e : p = j
 ·subst e
  rw [if_pos rfl, if_pos hp]; exact World.cell?_setCell_same' _ _ _ (by rw [h1]; rfl)
 ·rw [if_neg e, World.cell?_setCell_other _ _ _ _ (by intro e2; injection e2 with _ e3; exact e e3), h1, List.getD_eq_getElem?_getD]
theorem ZP.conv (h : ZP w b l) (cap : Nat) : (convert 75 9 (.slice (some ⟨b, 0, none⟩) l.length cap)).run Tryz.prog w = .ok (.string (jk l)) w := by
 have hb : Lib.Bytes w b 0 (jk l) := fun i hi => by
  have hi' : i < l.length := by rw [qm] at hi; exact hi
  rw [Nat.zero_add, (h.2 i hi').1]; have := uj (jk l) i hi; rw [this]
  rfl
 have := Lib.run_convert_whole (P := Tryz.prog) w 75 5 9 Tryz.underlying75 Tryz.underlying5 Tryz.underlying9 b 0 (jk l) hb cap
 rw [qm] at this
 exact this
end
theorem zbF (w : World) (l : List UInt8) : ∃ cap w', (convert 9 75 (.string (jk l))).run Tryz.prog w = .ok (.slice (some ⟨w.heap.size, 0, none⟩) l.length cap) w' ∧ ZP w' w.heap.size l ∧ Below w.heap.size w w' ∧ w'.heap.size = w.heap.size + 1 := by
 have hr := run_bytes_of_string (P := Tryz.prog) w 9 75 5 (jk l) Tryz.underlying9 Tryz.underlying75 Tryz.underlying5
 rw [qm] at hr
 refine ⟨_, _, hr, ⟨by rw [World.size_alloc]; show w.heap.size < w.heap.size + 1; omega, fun j hj => ?_⟩, ((Below.refl _ _).drew).alloc (Nat.le_refl _) _, by rw [World.size_alloc]; rfl⟩
 generalize hN : grownCap w l.length 0 5 = cap
 have hb : (w.drew.alloc (.cells (bytesRow (jk l) cap) 5 ((bytesRow (jk l) cap).size, (bytesRow (jk l) cap).size + 1))).heap[w.heap.size]? = some (.cells (bytesRow (jk l) cap) 5 ((bytesRow (jk l) cap).size, (bytesRow (jk l) cap).size + 1)) := by
  rw [zL]; exact if_pos rfl
 have zf : l.length ≤ (bytesRow (jk l) cap).size := by
  unfold bytesRow; rw [Array.size_append, Array.size_map]; have : (jk l).data.size = l.length := qm l; omega
 constructor
 ·rw [cell_of_row _ _ _ _ _ _ hb]
  unfold bytesRow; rw [Array.getElem?_append_left (by rw [Array.size_map]; have : (jk l).data.size = l.length := qm l; omega), Array.getElem?_map]
  have e : (jk l).data[j]? = some (l.getD j 0) := by
   show (l.toArray)[j]? = _
   rw [List.getElem?_toArray, List.getD_eq_getElem?_getD, List.getElem?_eq_getElem hj]
   rfl
  rw [e]
  rfl
 ·unfold World.frozen?
  simp only [hb]; simp
  omega
section
variable {ops : Array Oper} {rest : List Oper} {o : Oper} {a : Act} {w : World} {Q : Exit → Act → World → Prop}
theorem yD (hg : o.guard = none) (x : Operand) (ho : o.op = .convert 9 75 x) (l : List UInt8) (hx : a.eval x = .string (jk l))
  (h : ∀ b cap w', w.heap.size ≤ b → b ≤ w.heap.size → ZP w' b l → Below b w w' → w'.heap.size = b + 1 → wpList Tryz.prog ops Q rest (a.put o.dst (.slice (some ⟨b, 0, none⟩) l.length cap)) w') : wpList Tryz.prog ops Q (o :: rest) a w :=
 wpList_plain hg fun K hK => by
  obtain ⟨cap, w', hr, h1, h2, h3⟩ := zbF w l; unfold Oper.wp execOp; simp only [ho, hx, hr, Sem.run_bind, Sem.run_pure, Result.andThen_ok]; exact hK _ _ (h _ cap _ (Nat.le_refl _) (Nat.le_refl _) h1 h2 h3)
/-- A boolean stored into a cell of a block. -/
theorem kD {t : TypeId} (hg : o.guard = none) (x y : Operand) (ho : o.op = .store 4 x y) (b i : Nat) (hx : a.eval x = .pointer (some ⟨b, i, none⟩)) (z : Bool) (hy : a.eval y = .bool z) {cs : Array Value} (ht : zJ t w b cs) {c : Value} (hc : cs[i]? = some c)
  (h : ∀ w', zJ t w' b (cs.setIfInBounds i (.bool z)) → qV b w w' → w'.heap.size = w.heap.size → wpList Tryz.prog ops Q rest (a.put o.dst undef) w') : wpList Tryz.prog ops Q (o :: rest) a w := by
 have c0 := ht.cell i hc
 have f0 := ht.frozen i
 refine z8 hg x y ho (w.setCell ⟨b, i, none⟩ (.bool z)) ?_ (h _ ?_ ((qV.refl b w).setCell _) (by simp only [World.size_setCell]))
 ·rw [hx, hy]
  simp [go_sem, c0, f0]
 ·exact heap_setCell_same w b i cs _ _ ht
end
/-! ### A part of a string -/
theorem V0 (l : List UInt8) (a b : Nat) : (jk l).extract a b = jk (qw l a (b - a)) := by
 apply ByteArray.ext
 rw [ByteArray.data_extract]
 simp [jk, qw, List.extract]
theorem YV (l : List UInt8) (i j : Nat) (hij : i ≤ j) (hj : j ≤ l.length) (w : World) : (Instr.sliceAt 9 (.string (jk l)) (some (.int .i64 (i : Int))) (some (.int .i64 (j : Int))) none).run Tryz.prog w = .ok (.string (jk (qw l i (j - i)))) w := by
 have hs := qm l
 rw [← V0]
 simp [go_sem, Instr.sliceAt, Instr.slice, Instr.sliceBounds, Instr.sliceBound, hs, hij, hj]
theorem qJ {o : Oper} {a : Act} {C : World → Prop} {K : Act → Prop} {x p q : Operand} (h : o.op = .slice 9 x (some p) (some q) none) (l : List UInt8) (hx : a.eval x = .string (jk l)) (zi zj : Int) (hp : a.eval p = .int .i64 zi) (hq : a.eval q = .int .i64 zj) (i j : Nat) (hi : zi = i) (hj : zj = j) (hij : i ≤ j) (hjl : j ≤ l.length) (m : Nat) (hm : m = j - i) (hk : K (a.put o.dst (.string (jk (qw l i m))))) : o.quiet Tryz.prog a C K := by
 subst hi hj hm
 exact ⟨_, fun w hw => by unfold Oper.quietAt execOp; simp only [h, hx, hp, hq, Option.map_some, Option.map_none, YV l i j hij hjl w, Sem.run_bind, Sem.run_pure, Result.andThen_ok]; exact ⟨rfl, rfl⟩, hk⟩
/-! ### The length of a string -/
theorem Ws {P : Program} {x : Operand} {t : TypeId} {o : Oper} {a : Act} {w : World} {K : Act → World → Prop} {Q : Exit → Act → World → Prop} (ho : o.op = .call { callee := .builtin .len, args := #[x], argTypes := #[t] }) (ht : P.underlying t = some .string) (l : List UInt8) (hx : a.eval x = .string (jk l))
  (h : K (a.put o.dst (.int .i64 (l.length : Int))) w) : o.wp P a w K Q := by
 obtain ⟨dst, op, ty, pos, after, guard⟩ := o
 simp only at ho
 subst ho
 unfold Oper.wp
 have hu := run_underlying ht w
 have hs := qm l
 have key : ∀ ρ : Operand → Value, ρ x = .string (jk l) → (execOp ρ { dst, op := .call { callee := .builtin .len, args := #[x], argTypes := #[t] }, type := ty, pos, after, guard : Oper }).run P w = .ok (.value (.int .i64 (l.length : Int))) w := fun ρ hρ => by
  have hl : (Builtin.len_ #[t] ty #[.string (jk l)]).run P w = .ok (goInt l.length) w := by simp [Builtin.len_, hu, hs]
  simp [go_sem, hρ, hl]
 have := key a.eval hx
 rw [this]
 exact h
theorem jE {P : Program} {ops : Array Oper} {Q : Exit → Act → World → Prop} {w : World} {x : Operand} {t : TypeId} {o : Oper} {r : List Oper} {a : Act} (hw : Region.wanted o (yielded ops a.tmps) = true) (ho : o.op = .call { callee := .builtin .len, args := #[x], argTypes := #[t] }) (ht : P.underlying t = some .string) (l : List UInt8) (hx : a.eval x = .string (jk l))
  (h : wpList P ops Q r (a.put o.dst (.int .i64 (l.length : Int))) w) : wpList P ops Q (o :: r) a w := by
 unfold wpList
 rw [if_pos hw]
 exact .inl (Ws ho ht l hx h)
theorem KV {o : Oper} {a : Act} {C : World → Prop} {K : Act → Prop} {x : Operand} {t : TypeId} (h : o.op = .call { callee := .builtin .len, args := #[x], argTypes := #[t] }) (ht : Tryz.prog.underlying t = some .string) (l : List UInt8) (hx : a.eval x = .string (jk l)) (hk : K (a.put o.dst (.int .i64 (l.length : Int)))) : o.quiet Tryz.prog a C K := by
 obtain ⟨dst, op, ty, pos, after, guard⟩ := o
 simp only at h
 subst h
 refine ⟨_, fun w hw => ?_, hk⟩
 have hu := run_underlying ht w
 have hs := qm l
 have hl : (Builtin.len_ #[t] ty #[.string (jk l)]).run Tryz.prog w = .ok (goInt l.length) w := by simp [Builtin.len_, hu, hs]
 have key : ∀ ρ : Operand → Value, ρ x = .string (jk l) → (execOp ρ { dst, op := .call { callee := .builtin .len, args := #[x], argTypes := #[t] }, type := ty, pos, after, guard : Oper }).run Tryz.prog w = .ok (.value (.int .i64 (l.length : Int))) w := fun ρ hρ => by simp [go_sem, hρ, hl]
 unfold Oper.quietAt
 rw [key a.eval hx]
 exact ⟨rfl, rfl⟩
/-! ### The reader -/
def Jd (l : List UInt8) (i : Nat) (f : Bool) : Array Value := #[.string (jk l), .int .i64 (i : Int), .bool f]
/-- What a reader takes: its bytes, its state. -/
def kA (l : List UInt8) (st : Nat × Bool) (m : Nat) : List UInt8 × (Nat × Bool) := if st.2 = false ∧ st.1 + m ≤ l.length then (qw l st.1 m, (st.1 + m, false)) else ([], (st.1, true))
theorem kh {l : List UInt8} {i m : Nat} (h : i + m ≤ l.length) : kA l (i, false) m = (qw l i m, (i + m, false)) := if_pos ⟨rfl, h⟩
theorem vp {l : List UInt8} {st : Nat × Bool} {m : Nat} (h : (kA l st m).2.2 = false) : st.2 = false ∧ (kA l st m).2.1 = st.1 + m ∧ st.1 + m ≤ l.length := by
 unfold kA at h ⊢
 split
 ·rename_i k
  exact ⟨k.1, rfl, k.2⟩
 ·rename_i k
  rw [if_neg k] at h; cases h
theorem kH {l : List UInt8} {st : Nat × Bool} {m : Nat} (h : st.1 ≤ l.length) : (kA l st m).2.1 ≤ l.length := by
 unfold kA
 split
 ·rename_i k; exact k.2
 ·exact h
theorem Z4 {l : List UInt8} {st : Nat × Bool} {m : Nat} : (kA l st m).1.length ≤ m := by
 unfold kA
 split
 ·unfold qw; rw [List.length_take]; omega
 ·exact Nat.zero_le _
theorem ub {w : World} {b j : Nat} {v : Value} (h : w.cell? ⟨b, j, none⟩ = some v) : (Instr.loadAt 9 (.pointer (some ⟨b, j, none⟩))).run Tryz.prog w = .ok v w := by
 simp [go_sem, h]
theorem zgu {w : World} {b : Nat} {l : List UInt8} {i : Nat} {fl : Bool} (h : zJ 180 w b (Jd l i fl)) : w.cell? ⟨b, 0, none⟩ = some (.string (jk l)) := h.cell 0 rfl
theorem zgt {w : World} {b : Nat} {l : List UInt8} {i : Nat} {fl : Bool} (h : zJ 180 w b (Jd l i fl)) : w.cell? ⟨b, 1, none⟩ = some (.int .i64 (i : Int)) := h.cell 1 rfl
theorem zc6 (l : List UInt8) (w : World) : Calls Tryz.prog 86 #[.string (jk l)] w fun e w' => ∃ b, (w.heap.size ≤ b ∧ b ≤ w.heap.size) ∧ e = .returned (.pointer (some ⟨b, 0, none⟩)) ∧ zJ 180 w' b (Jd l 0 false) ∧ Below w.heap.size w w' := by
 have B := Below.refl w.heap.size w
 go_enter Tryz.func86, Tryz.ntmps86
 go_upto_region 0 with fail
 refine wp_region_lit ?_
 refine zy 1 ?_
 refine wpList_nil ?_
 go_upto_region 1 with fail
 refine wp_region_lit ?_
 refine zy 2 ?_
 (refine zt (t := 180) rfl _ rfl _ rfl (z6 B ?_); clear B; intro b_rd wn zb zd rd za zf zk B; simp only [zn])
 refine zy 1 ?_
 refine wpList_nil ?_
 have k1 : w.heap.size ≤ b_rd ∧ b_rd ≤ w.heap.size := by omega
 go_wp2
 go_ret
 exact ⟨_, k1, rfl, rd, B⟩
theorem Vk (l : List UInt8) (i : Nat) (fl : Bool) (b : Nat) (n : Int) (w : World) (rd : zJ 180 w b (Jd l i fl)) (hl : l.length ≤ 100000000) (hi : i ≤ l.length) (e : (l.length : Int) - i = n) : Calls Tryz.prog 139 #[.pointer (some ⟨b, 0, none⟩)] w fun e w' => e = .returned (.int .i64 n) ∧ Below w.heap.size w w' := by
 have B := Below.refl w.heap.size w
 have hs := qm l
 subst e
 go_enter Tryz.func139, Tryz.ntmps139
 go_upto_region 3 with fail
 refine qP (by kernel_rfl) (by kernel_rfl) ?_
 repeat (first | go_big_quiet_skip | (go_big_quiet_want; first | (refine zo (t := 9) rfl _ _ _ rfl (fun w hw => ub (zgu (zD rd w hw))) (by first | rfl | omega) ?_; simp only [zn]; go_big_quiet_on) | (refine zo (t := 3) rfl _ _ _ rfl (fun w hw => zr (zgt (zD rd w hw))) (by first | rfl | omega) ?_; simp only [zn]; go_big_quiet_on) | (refine KV rfl Tryz.underlying9 l rfl ?_; simp only [zn]; go_big_quiet_on) | (go_big_quiet_op; first | go_big_quiet_on | go_big_quiet_call ((fail)))))
 refine wpQuiet_nil ?_
 intro wn za
 have zf := B.size
 have zg := za.size
 replace B := B.trans (za.mono B.size)
 go_wp2
 go_ret
 exact ⟨rfl, B⟩
theorem WD (l : List UInt8) (i : Nat) (fl : Bool) (b : Nat) (w : World) (rd : zJ 180 w b (Jd l i fl)) : Calls Tryz.prog 89 #[.pointer (some ⟨b, 0, none⟩)] w fun e w' => e = .returned (.bool fl) ∧ Below w.heap.size w w' := by
 have B := Below.refl w.heap.size w
 have c2 : w.cell? ⟨b, 2, none⟩ = some (.bool fl) := rd.cell 2 rfl
 go_enter Tryz.func89, Tryz.ntmps89
 go_wp2
 go_ret
 exact ⟨rfl, B⟩
set_option maxHeartbeats 1000000 in
theorem zc7 (l : List UInt8) (i : Nat) (fl : Bool) (b m : Nat) (w : World) (rd : zJ 180 w b (Jd l i fl)) (hl : l.length ≤ 100000000) (hi : i ≤ l.length) (hm : m ≤ 1000) : Calls Tryz.prog 88 #[.pointer (some ⟨b, 0, none⟩), .int .i64 (m : Int)] w fun e w' => e = .returned (.string (jk (kA l (i, fl) m).1)) ∧ zJ 180 w' b (Jd l (kA l (i, fl) m).2.1 (kA l (i, fl) m).2.2) ∧ qV b w w' := by
 have B := kn.refl b w
 have q0 : decide ((m : Int) < 0) = false := decide_eq_false (by omega)
 have c2 : w.cell? ⟨b, 2, none⟩ = some (.bool fl) := rd.cell 2 rfl
 cases fl with
 | true =>
  have hT : kA l (i, true) m = ([], (i, true)) := if_neg (fun h => by cases h.1); rw [hT]; clear hT; go_enter Tryz.func88, Tryz.ntmps88
  go_upto_region 3 with fail
  refine wp_region_lit ?_; go_wp2_with (first | (refine kD (t := 180) rfl _ _ rfl _ 2 rfl true rfl rd rfl ?_; clear rd; intro wn ht ze zg; have zf := B.size; replace zg := Nat.le_of_eq zg.symm; replace B := kn.chg B ze; have rd := ht; clear ht; simp only [zn]) | fail)
  go_wp2; go_ret; exact ⟨rfl, rd, B.toChg⟩
 | false =>
  by_cases h : i + m ≤ l.length
  ·have q1 : ¬ ((l.length : Int) - i < (m : Int)) := by omega
   rw [kh h]; go_enter Tryz.func88, Tryz.ntmps88
   go_upto_region 5 with (first | (go_at_call 139; refine (Vk l i false b ((l.length : Int) - i) _ rd hl hi rfl).mono ?_; rintro e wn ⟨rfl, za⟩; have zf := B.size; have zg := za.size; replace B := B.trans (za.mono B.size); replace rd := rd.of_eq (za.block _ rd.lt); have c1 : wn.cell? ⟨b, 1, none⟩ = some (.int .i64 (i : Int)) := rd.cell 1 rfl) | fail)
   refine wp_region_lit ?_; go_wp2_with (first | (refine jn (t := 180) rfl _ _ rfl _ 1 rfl _ rfl rd rfl ?_; clear rd; intro wn ht ze zg; have zf := B.size; replace zg := Nat.le_of_eq zg.symm; replace B := kn.chg B ze; have rd := ht; clear ht; simp only [zn]) | fail)
   have hat : (i : Int) + (m : Int) = ((i + m : Nat) : Int) := by omega
   rw [hat] at rd; replace rd : zJ 180 _ b (Jd l (i + m) false) := rd; clear hat c1; go_upto_region 6 with fail
   refine qP (by kernel_rfl) (by kernel_rfl) ?_; repeat (first | go_big_quiet_skip | (go_big_quiet_want; first | (refine zo (t := 9) rfl _ _ _ rfl (fun w hw => ub (zgu (zD rd w hw))) (by first | rfl | omega) ?_; simp only [zn]; go_big_quiet_on) | (refine zo (t := 3) rfl _ _ _ rfl (fun w hw => zr (zgt (zD rd w hw))) (by first | rfl | omega) ?_; simp only [zn]; go_big_quiet_on) | (refine qJ rfl l rfl _ _ rfl rfl i (i + m) (by omega) (by omega) (by omega) h m (by omega) ?_; simp only [zn]; go_big_quiet_on) | (go_big_quiet_op; first | go_big_quiet_on | go_big_quiet_call ((fail)))))
   refine wpQuiet_nil ?_; intro wn za; have zf := B.size; have zg := za.size; replace B := B.trans (za.mono B.size); try replace rd := rd.below za
   go_wp2; go_ret; exact ⟨rfl, rd, B.toChg⟩
  ·have q1 : ((l.length : Int) - i < (m : Int)) := by omega
   have hT : kA l (i, false) m = ([], (i, true)) := if_neg (fun k => h k.2); rw [hT]; clear hT; go_enter Tryz.func88, Tryz.ntmps88
   go_upto_region 3 with (first | (go_at_call 139; refine (Vk l i false b ((l.length : Int) - i) _ rd hl hi rfl).mono ?_; rintro e wn ⟨rfl, za⟩; have zf := B.size; have zg := za.size; replace B := B.trans (za.mono B.size); replace rd := rd.of_eq (za.block _ rd.lt); have c1 : wn.cell? ⟨b, 1, none⟩ = some (.int .i64 (i : Int)) := rd.cell 1 rfl) | fail)
   refine wp_region_lit ?_; go_wp2_with (first | (refine kD (t := 180) rfl _ _ rfl _ 2 rfl true rfl rd rfl ?_; clear rd; intro wn ht ze zg; have zf := B.size; replace zg := Nat.le_of_eq zg.symm; replace B := kn.chg B ze; have rd := ht; clear ht; simp only [zn]) | fail)
   go_wp2; go_ret; exact ⟨rfl, rd, B.toChg⟩
/- Num of octet's reader; number of the reference. -/
theorem ZQ (l : List UInt8) (i : Nat) (fl : Bool) (b : Nat) (z : Int) (m : Nat) (x : List UInt8) (i2 : Nat) (f2 : Bool) (w : World) (rd : zJ 180 w b (Jd l i fl)) (hl : l.length ≤ 100000000) (hi : i ≤ l.length) (hm : m ≤ 1000) (hz : z = m) (e : kA l (i, fl) m = (x, i2, f2)) : Calls Tryz.prog 88 #[.pointer (some ⟨b, 0, none⟩), .int .i64 z] w fun e w' => e = .returned (.string (jk x)) ∧ zJ 180 w' b (Jd l i2 f2) ∧ qV b w w' := by
 subst hz
 have := zc7 l i fl b m w rd hl hi hm
 rw [e] at this
 exact this
theorem uA (x : List UInt8) {k : Nat} (h : k < x.length) : beN (x.take (k + 1)) = 256 * beN (x.take k) + (x.getD k 0).toNat := by
 have e : x.take (k + 1) = x.take k ++ [x.getD k 0] := by
  rw [List.take_add_one, List.getElem?_eq_getElem h, List.getD_eq_getElem?_getD, List.getElem?_eq_getElem h]
  rfl
 rw [e, uz]
theorem or8 (n c : Nat) (hn : n < 1099511627776) (hc : c < 256) : bits .or .i64 ((n : Int) * 256) (c : Int) = ((256 * n + c : Nat) : Int) := by
 have e : bits .or .i64 ((n : Int) * 256) (c : Int) = IntKind.i64.wrap ((BitVec.ofInt 64 ((n : Int) * 256) ||| BitVec.ofInt 64 (c : Int)).toNat : Int) := rfl
 have h1 : (BitVec.ofInt 64 ((n : Int) * 256)).toNat = n <<< 8 := by
  rw [show ((n : Int) * 256) = ((n * 256 : Nat) : Int) by omega, BitVec.ofInt_natCast, BitVec.toNat_ofNat, Nat.mod_eq_of_lt (by omega), Nat.shiftLeft_eq]
 have h2 : (BitVec.ofInt 64 (c : Int)).toNat = c := by
  rw [BitVec.ofInt_natCast, BitVec.toNat_ofNat, Nat.mod_eq_of_lt (by omega)]
 rw [e, BitVec.toNat_or, h1, h2, ← Nat.shiftLeft_add_eq_or_of_lt (by omega) n, Nat.shiftLeft_eq]
 unfold IntKind.wrap
 simp [IntKind.bits, IntKind.signed]
 omega
theorem Zg {w : World} {b : Nat} {l : List UInt8} (h : ZP w b l) : ∀ w', (∃ u, w' = ov w u) → ZP w' b l := by
 rintro w' ⟨u, rfl⟩
 exact h.of_eq ((qN w u).block _ h.lt)
theorem ZP.u8 {w : World} {b : Nat} {l : List UInt8} (h : ZP w b l) {k c : Nat} (hk : k < l.length) (hc : (l.getD k 0).toNat = c) : w.cell? ⟨b, k, none⟩ = some (.int .u8 (c : Int)) := by
 subst hc
 exact (h.2 k hk).1
set_option maxHeartbeats 1000000 in
theorem JO (l : List UInt8) (i : Nat) (fl : Bool) (b : Nat) (x : List UInt8) (i2 : Nat) (f2 : Bool) (w : World) (rd : zJ 180 w b (Jd l i fl)) (hl : l.length ≤ 100000000) (hi : i ≤ l.length) (e : kA l (i, fl) 1 = (x, i2, f2)) : Calls Tryz.prog 87 #[.pointer (some ⟨b, 0, none⟩), .int .i64 1] w fun e w' => e = .returned (.int .i64 (beN x : Int)) ∧ zJ 180 w' b (Jd l i2 f2) ∧ qV b w w' := by
 have B := kn.refl b w
 have HT := Lib.hid e
 have hxl : x.length ≤ 1 := by have := Z4 (l := l) (st := (i, fl)) (m := 1); rw [e] at this; exact this
 have hbl := rd.lt
 clear e
 go_enter Tryz.func87, Tryz.ntmps87
 go_upto_region 0 with fail
 refine wp_region_lit ?_
 refine zy 1 ?_
 refine wpList_nil ?_
 go_upto_region 1 with fail
 refine wp_region_lit ?_
 refine zy 1 ?_
 refine wpList_nil ?_
 go_upto_region 2 with fail
 refine wp_region_lit ?_
 refine zy 2 ?_
 refine qT (enters_of Tryz.func138 (by kernel_rfl) rfl) (c := Vq _) (h := ?_)
 rintro e wn ⟨rfl, rfl⟩
 refine ⟨_, rfl, ?_⟩
 simp only [zn]
 refine qT (enters_of Tryz.func88 (by kernel_rfl) rfl) (c := ZQ l i fl b 1 1 x i2 f2 _ rd hl hi (by omega) rfl HT.out) (h := ?_)
 rintro e wn ⟨rfl, rd2, ze⟩
 have zf := B.size
 have zg := ze.size
 replace B := kn.chg B ze
 clear rd
 have rd := rd2
 clear rd2
 refine ⟨_, rfl, ?_⟩
 simp only [zn]
 (refine yD rfl _ rfl x rfl ?_; intro b_fb cap wn zb zd fb za zg; have zf := B.size; replace B := B.trans (za.mono (by omega)); replace rd := rd.of_eq (za.block _ (by omega)); simp only [zn])
 refine zw (by first | rfl | simp [Region.wanted, yielded]) rfl Tryz.underlying75 rfl ?_
 simp only [zn]
 refine zy 1 ?_
 refine wpList_nil ?_
 have kb : b < b_fb := by omega
 go_wp2
 go_loopw [5, 7, 14] (fun nv _ iv wr => ∃ k : Nat, k ≤ x.length ∧ iv = .int .i64 (k : Int) ∧ nv = .int .i64 (beN (x.take k) : Int) ∧ ZP wr b_fb x ∧ zJ 180 wr b (Jd l i2 f2) ∧ kn b w.heap.size w wr) (fun _ _ iv _ => (x.length - intOf iv).toNat)
 case atStart => exact ⟨0, by omega, rfl, rfl, fb, rd, B⟩
 case round =>
  clear fb rd B; obtain ⟨k, hk, rfl, rfl, fb, rd, B⟩ := hrel; by_cases hk1 : k < x.length
  ·have q1 : decide ((k : Int) < (x.length : Int)) = true := decide_eq_true (by omega)
   have q2 : decide (k < x.length) = true := decide_eq_true hk1; have hst := uA x hk1; have hbn1 := vh (x.take k); have hbn2 : beN (x.take k) < 16777216 := Nat.lt_of_lt_of_le hbn1 (by rw [List.length_take, show (16777216 : Nat) = 256 ^ 3 from rfl]; exact Nat.pow_le_pow_right (by omega) (by omega))
   have hcb := (x.getD k 0).toNat_lt
   generalize beN (x.take k) = n at *
   obtain ⟨c, hc⟩ : ∃ c, (x.getD k 0).toNat = c := ⟨_, rfl⟩; rw [hc] at hst hcb; have HC := Lib.hid hc; clear hc; have hor := or8 n c (by omega) hcb; go_upto_region 3 with fail
   refine wp_region_lit ?_; refine zy 1 ?_; refine wpList_nil ?_; go_upto_region 4 with fail
   refine wp_region_lit ?_; refine jp 3 ?_; repeat (first | go_big_quiet_skip | (go_big_quiet_want; first | ((first | refine zo (t := 5) rfl _ _ _ rfl (fun w hw => kC ((Zg fb w hw).u8 hk1 HC.out)) (by first | rfl | omega) ?_ | refine qB ?_ | refine qC ?_); simp only [zn]; go_big_quiet_on) | (go_big_quiet_op; go_big_quiet_on)))
   refine wpQuiet_nil ?_; refine wpList_nil ?_; go_upto_region 5 with fail
   refine wp_region_lit ?_; refine zy 6 ?_; refine wpList_nil ?_; go_upto_region 6 with fail
   refine wp_region_lit ?_; refine zy 2 ?_; refine wpList_nil ?_; go_wp2; go_roundw
   case rel => exact ⟨k + 1, by omega, by go_num, by rw [hst]; go_num, fb, rd, B⟩
   case measure => simp [intOf]; omega
  ·have q1 : decide ((k : Int) < (x.length : Int)) = false := decide_eq_false (by omega)
   have q2 : decide (k < x.length) = false := decide_eq_false hk1; have hkx : x.take k = x := List.take_of_length_le (by omega); rw [hkx]; go_upto_region 3 with fail
   refine wp_region_lit ?_; refine zy 1 ?_; refine wpList_nil ?_; go_upto_region 7 with fail
   refine wp_region_lit ?_; refine zy 2 ?_; refine wpList_nil ?_; go_wp2; go_ret; exact ⟨rfl, rd, B.toChg⟩
set_option maxHeartbeats 1000000 in
theorem Vl (l : List UInt8) (i : Nat) (fl : Bool) (b : Nat) (x : List UInt8) (i2 : Nat) (f2 : Bool) (w : World) (rd : zJ 180 w b (Jd l i fl)) (hl : l.length ≤ 100000000) (hi : i ≤ l.length) (e : kA l (i, fl) 2 = (x, i2, f2)) : Calls Tryz.prog 87 #[.pointer (some ⟨b, 0, none⟩), .int .i64 2] w fun e w' => e = .returned (.int .i64 (beN x : Int)) ∧ zJ 180 w' b (Jd l i2 f2) ∧ qV b w w' := by
 have B := kn.refl b w
 have HT := Lib.hid e
 have hxl : x.length ≤ 2 := by have := Z4 (l := l) (st := (i, fl)) (m := 2); rw [e] at this; exact this
 have hbl := rd.lt
 clear e
 go_enter Tryz.func87, Tryz.ntmps87
 go_upto_region 0 with fail
 refine wp_region_lit ?_
 refine zy 1 ?_
 refine wpList_nil ?_
 go_upto_region 1 with fail
 refine wp_region_lit ?_
 refine zy 1 ?_
 refine wpList_nil ?_
 go_upto_region 2 with fail
 refine wp_region_lit ?_
 refine zy 2 ?_
 refine qT (enters_of Tryz.func138 (by kernel_rfl) rfl) (c := Vr _) (h := ?_)
 rintro e wn ⟨rfl, rfl⟩
 refine ⟨_, rfl, ?_⟩
 simp only [zn]
 refine qT (enters_of Tryz.func88 (by kernel_rfl) rfl) (c := ZQ l i fl b 2 2 x i2 f2 _ rd hl hi (by omega) rfl HT.out) (h := ?_)
 rintro e wn ⟨rfl, rd2, ze⟩
 have zf := B.size
 have zg := ze.size
 replace B := kn.chg B ze
 clear rd
 have rd := rd2
 clear rd2
 refine ⟨_, rfl, ?_⟩
 simp only [zn]
 (refine yD rfl _ rfl x rfl ?_; intro b_fb cap wn zb zd fb za zg; have zf := B.size; replace B := B.trans (za.mono (by omega)); replace rd := rd.of_eq (za.block _ (by omega)); simp only [zn])
 refine zw (by first | rfl | simp [Region.wanted, yielded]) rfl Tryz.underlying75 rfl ?_
 simp only [zn]
 refine zy 1 ?_
 refine wpList_nil ?_
 have kb : b < b_fb := by omega
 go_wp2
 go_loopw [5, 7, 14] (fun nv _ iv wr => ∃ k : Nat, k ≤ x.length ∧ iv = .int .i64 (k : Int) ∧ nv = .int .i64 (beN (x.take k) : Int) ∧ ZP wr b_fb x ∧ zJ 180 wr b (Jd l i2 f2) ∧ kn b w.heap.size w wr) (fun _ _ iv _ => (x.length - intOf iv).toNat)
 case atStart => exact ⟨0, by omega, rfl, rfl, fb, rd, B⟩
 case round =>
  clear fb rd B; obtain ⟨k, hk, rfl, rfl, fb, rd, B⟩ := hrel; by_cases hk1 : k < x.length
  ·have q1 : decide ((k : Int) < (x.length : Int)) = true := decide_eq_true (by omega)
   have q2 : decide (k < x.length) = true := decide_eq_true hk1; have hst := uA x hk1; have hbn1 := vh (x.take k); have hbn2 : beN (x.take k) < 16777216 := Nat.lt_of_lt_of_le hbn1 (by rw [List.length_take, show (16777216 : Nat) = 256 ^ 3 from rfl]; exact Nat.pow_le_pow_right (by omega) (by omega))
   have hcb := (x.getD k 0).toNat_lt
   generalize beN (x.take k) = n at *
   obtain ⟨c, hc⟩ : ∃ c, (x.getD k 0).toNat = c := ⟨_, rfl⟩; rw [hc] at hst hcb; have HC := Lib.hid hc; clear hc; have hor := or8 n c (by omega) hcb; go_upto_region 3 with fail
   refine wp_region_lit ?_; refine zy 1 ?_; refine wpList_nil ?_; go_upto_region 4 with fail
   refine wp_region_lit ?_; refine jp 3 ?_; repeat (first | go_big_quiet_skip | (go_big_quiet_want; first | ((first | refine zo (t := 5) rfl _ _ _ rfl (fun w hw => kC ((Zg fb w hw).u8 hk1 HC.out)) (by first | rfl | omega) ?_ | refine qB ?_ | refine qC ?_); simp only [zn]; go_big_quiet_on) | (go_big_quiet_op; go_big_quiet_on)))
   refine wpQuiet_nil ?_; refine wpList_nil ?_; go_upto_region 5 with fail
   refine wp_region_lit ?_; refine zy 6 ?_; refine wpList_nil ?_; go_upto_region 6 with fail
   refine wp_region_lit ?_; refine zy 2 ?_; refine wpList_nil ?_; go_wp2; go_roundw
   case rel => exact ⟨k + 1, by omega, by go_num, by rw [hst]; go_num, fb, rd, B⟩
   case measure => simp [intOf]; omega
  ·have q1 : decide ((k : Int) < (x.length : Int)) = false := decide_eq_false (by omega)
   have q2 : decide (k < x.length) = false := decide_eq_false hk1; have hkx : x.take k = x := List.take_of_length_le (by omega); rw [hkx]; go_upto_region 3 with fail
   refine wp_region_lit ?_; refine zy 1 ?_; refine wpList_nil ?_; go_upto_region 7 with fail
   refine wp_region_lit ?_; refine zy 2 ?_; refine wpList_nil ?_; go_wp2; go_ret; exact ⟨rfl, rd, B.toChg⟩
set_option maxHeartbeats 1000000 in
theorem JP (l : List UInt8) (i : Nat) (fl : Bool) (b : Nat) (x : List UInt8) (i2 : Nat) (f2 : Bool) (w : World) (rd : zJ 180 w b (Jd l i fl)) (hl : l.length ≤ 100000000) (hi : i ≤ l.length) (e : kA l (i, fl) 3 = (x, i2, f2)) : Calls Tryz.prog 87 #[.pointer (some ⟨b, 0, none⟩), .int .i64 3] w fun e w' => e = .returned (.int .i64 (beN x : Int)) ∧ zJ 180 w' b (Jd l i2 f2) ∧ qV b w w' := by
 have B := kn.refl b w
 have HT := Lib.hid e
 have hxl : x.length ≤ 3 := by have := Z4 (l := l) (st := (i, fl)) (m := 3); rw [e] at this; exact this
 have hbl := rd.lt
 clear e
 go_enter Tryz.func87, Tryz.ntmps87
 go_upto_region 0 with fail
 refine wp_region_lit ?_
 refine zy 1 ?_
 refine wpList_nil ?_
 go_upto_region 1 with fail
 refine wp_region_lit ?_
 refine zy 1 ?_
 refine wpList_nil ?_
 go_upto_region 2 with fail
 refine wp_region_lit ?_
 refine zy 2 ?_
 refine qT (enters_of Tryz.func138 (by kernel_rfl) rfl) (c := Vs _) (h := ?_)
 rintro e wn ⟨rfl, rfl⟩
 refine ⟨_, rfl, ?_⟩
 simp only [zn]
 refine qT (enters_of Tryz.func88 (by kernel_rfl) rfl) (c := ZQ l i fl b 3 3 x i2 f2 _ rd hl hi (by omega) rfl HT.out) (h := ?_)
 rintro e wn ⟨rfl, rd2, ze⟩
 have zf := B.size
 have zg := ze.size
 replace B := kn.chg B ze
 clear rd
 have rd := rd2
 clear rd2
 refine ⟨_, rfl, ?_⟩
 simp only [zn]
 (refine yD rfl _ rfl x rfl ?_; intro b_fb cap wn zb zd fb za zg; have zf := B.size; replace B := B.trans (za.mono (by omega)); replace rd := rd.of_eq (za.block _ (by omega)); simp only [zn])
 refine zw (by first | rfl | simp [Region.wanted, yielded]) rfl Tryz.underlying75 rfl ?_
 simp only [zn]
 refine zy 1 ?_
 refine wpList_nil ?_
 have kb : b < b_fb := by omega
 go_wp2
 go_loopw [5, 7, 14] (fun nv _ iv wr => ∃ k : Nat, k ≤ x.length ∧ iv = .int .i64 (k : Int) ∧ nv = .int .i64 (beN (x.take k) : Int) ∧ ZP wr b_fb x ∧ zJ 180 wr b (Jd l i2 f2) ∧ kn b w.heap.size w wr) (fun _ _ iv _ => (x.length - intOf iv).toNat)
 case atStart => exact ⟨0, by omega, rfl, rfl, fb, rd, B⟩
 case round =>
  clear fb rd B; obtain ⟨k, hk, rfl, rfl, fb, rd, B⟩ := hrel; by_cases hk1 : k < x.length
  ·have q1 : decide ((k : Int) < (x.length : Int)) = true := decide_eq_true (by omega)
   have q2 : decide (k < x.length) = true := decide_eq_true hk1; have hst := uA x hk1; have hbn1 := vh (x.take k); have hbn2 : beN (x.take k) < 16777216 := Nat.lt_of_lt_of_le hbn1 (by rw [List.length_take, show (16777216 : Nat) = 256 ^ 3 from rfl]; exact Nat.pow_le_pow_right (by omega) (by omega))
   have hcb := (x.getD k 0).toNat_lt
   generalize beN (x.take k) = n at *
   obtain ⟨c, hc⟩ : ∃ c, (x.getD k 0).toNat = c := ⟨_, rfl⟩; rw [hc] at hst hcb; have HC := Lib.hid hc; clear hc; have hor := or8 n c (by omega) hcb; go_upto_region 3 with fail
   refine wp_region_lit ?_; refine zy 1 ?_; refine wpList_nil ?_; go_upto_region 4 with fail
   refine wp_region_lit ?_; refine jp 3 ?_; repeat (first | go_big_quiet_skip | (go_big_quiet_want; first | ((first | refine zo (t := 5) rfl _ _ _ rfl (fun w hw => kC ((Zg fb w hw).u8 hk1 HC.out)) (by first | rfl | omega) ?_ | refine qB ?_ | refine qC ?_); simp only [zn]; go_big_quiet_on) | (go_big_quiet_op; go_big_quiet_on)))
   refine wpQuiet_nil ?_; refine wpList_nil ?_; go_upto_region 5 with fail
   refine wp_region_lit ?_; refine zy 6 ?_; refine wpList_nil ?_; go_upto_region 6 with fail
   refine wp_region_lit ?_; refine zy 2 ?_; refine wpList_nil ?_; go_wp2; go_roundw
   case rel => exact ⟨k + 1, by omega, by go_num, by rw [hst]; go_num, fb, rd, B⟩
   case measure => simp [intOf]; omega
  ·have q1 : decide ((k : Int) < (x.length : Int)) = false := decide_eq_false (by omega)
   have q2 : decide (k < x.length) = false := decide_eq_false hk1; have hkx : x.take k = x := List.take_of_length_le (by omega); rw [hkx]; go_upto_region 3 with fail
   refine wp_region_lit ?_; refine zy 1 ?_; refine wpList_nil ?_; go_upto_region 7 with fail
   refine wp_region_lit ?_; refine zy 2 ?_; refine wpList_nil ?_; go_wp2; go_ret; exact ⟨rfl, rd, B.toChg⟩
/-- A byte of a string. -/
theorem zM {o : Oper} {a : Act} {C : World → Prop} {K : Act → Prop} {p i : Operand} (h : o.op = .index 9 p i) (x : List UInt8) (hx : a.eval p = .string (jk x)) (z : Int) (hi : a.eval i = .int .i64 z) (k c : Nat) (hk : k < x.length) (hz : z = k) (hc : (x.getD k 0).toNat = c) (hK : K (a.put o.dst (.int .u8 (c : Int)))) : o.quiet Tryz.prog a C K := by
 refine Xm (t := 9) h (jk x) hx z hi k (by rw [qm]; exact hk) hz ?_
 have e : Y (Zc (jk x) k) = .int .u8 (c : Int) := by
  subst hc
  rfl
 rw [e]
 exact hK
set_option maxHeartbeats 1000000 in
theorem vX (x : List UInt8) (n : Nat) (w : World) (hx : x.length ≤ 3) (e : beN x = n) : Calls Tryz.prog 91 #[.string (jk x)] w fun e w' => e = .returned (.int .i64 (n : Int)) ∧ Below w.heap.size w w' := by
 have B := Below.refl w.heap.size w
 subst e
 go_enter Tryz.func91, Tryz.ntmps91
 go_upto_region 0 with fail
 refine wp_region_lit ?_
 refine zy 1 ?_
 refine wpList_nil ?_
 go_upto_region 1 with fail
 refine wp_region_lit ?_
 refine zy 1 ?_
 refine wpList_nil ?_
 go_upto_region 2 with fail
 refine wp_region_lit ?_
 refine zy 1 ?_
 refine wpList_nil ?_
 go_wp2
 go_loopw [3, 4] (fun nv iv wr => ∃ k : Nat, k ≤ x.length ∧ iv = .int .i64 (k : Int) ∧ nv = .int .i64 (beN (x.take k) : Int) ∧ Below w.heap.size w wr) (fun _ iv _ => (x.length - intOf iv).toNat)
 case atStart => exact ⟨0, by omega, rfl, rfl, B⟩
 case round =>
  clear B; obtain ⟨k, hk, rfl, rfl, B⟩ := hrel; by_cases hk1 : k < x.length
  ·have q1 : decide ((k : Int) < (x.length : Int)) = true := decide_eq_true (by omega)
   have q2 : decide (k < x.length) = true := decide_eq_true hk1; have hst := uA x hk1; have hbn1 := vh (x.take k); have hbn2 : beN (x.take k) < 16777216 := Nat.lt_of_lt_of_le hbn1 (by rw [List.length_take, show (16777216 : Nat) = 256 ^ 3 from rfl]; exact Nat.pow_le_pow_right (by omega) (by omega))
   have hcb := (x.getD k 0).toNat_lt
   generalize beN (x.take k) = n at *
   obtain ⟨c, hc⟩ : ∃ c, (x.getD k 0).toNat = c := ⟨_, rfl⟩; rw [hc] at hst hcb; have HC := Lib.hid hc; clear hc; go_upto_region 3 with fail
   refine wp_region_lit ?_; refine zy 2 ?_; refine jE (by first | rfl | simp [Region.wanted, yielded]) rfl Tryz.underlying9 _ rfl ?_; simp only [zn]; refine zy 1 ?_; refine wpList_nil ?_; go_upto_region 5 with fail
   refine wp_region_lit ?_; refine jp 8 ?_; repeat (first | go_big_quiet_skip | (go_big_quiet_want; first | ((first | refine zM rfl x rfl _ rfl k c hk1 (by first | rfl | omega) HC.out ?_ | refine qB ?_ | refine qC ?_); simp only [zn]; go_big_quiet_on) | (go_big_quiet_op; go_big_quiet_on)))
   refine wpQuiet_nil ?_; refine wpList_nil ?_; go_upto_region 4 with fail
   refine wp_region_lit ?_; refine zy 3 ?_; refine wpList_nil ?_; go_wp2; go_roundw
   case rel => exact ⟨k + 1, by omega, by go_num, by rw [hst]; go_num, B⟩
   case measure => simp [intOf]; omega
  ·have q1 : decide ((k : Int) < (x.length : Int)) = false := decide_eq_false (by omega)
   have q2 : decide (k < x.length) = false := decide_eq_false hk1; have hkx : x.take k = x := List.take_of_length_le (by omega); rw [hkx]; go_upto_region 3 with fail
   refine wp_region_lit ?_; refine zy 2 ?_; refine jE (by first | rfl | simp [Region.wanted, yielded]) rfl Tryz.underlying9 _ rfl ?_; simp only [zn]; refine zy 1 ?_; refine wpList_nil ?_; go_upto_region 6 with fail
   refine wp_region_lit ?_; refine zy 2 ?_; refine wpList_nil ?_; go_wp2; go_ret; exact ⟨rfl, B⟩
end Go.Proofs.YtepelndbbhdofaaGreatDoor
/- Contracts of the reference's SameDabs, Same. -/
namespace Go.Proofs.YtepelndbbhdofaaGreatDoor
open Go.RowKit Go.Shelf Pl
set_option linter.unusedVariables false
set_option linter.unusedSimpArgs false
set_option maxRecDepth 20000
theorem Ye (d : Nat) (a b : Sp) (w : World) : (Op.equalIn (d + 2) 43 (.agg (qQ.enc a)) (.agg (qQ.enc b))).run Tryz.prog w = .ok (decide (a = b)) w := by
 obtain ⟨x, y, z⟩ := a
 obtain ⟨x', y', z'⟩ := b
 have h : (Op.equalIn (d + 2) 43 (.agg #[.int .i64 x, .int .i64 y, .int .i64 z]) (.agg #[.int .i64 x', .int .i64 y', .int .i64 z'])).run Tryz.prog w = .ok (x == x' && (y == y' && z == z')) w := by
  by_cases h1 : x = x' <;> by_cases h2 : y = y' <;> by_cases h3 : z = z' <;> simp [go_sem, h1, h2, h3]
 refine h.trans ?_
 congr 1
 rw [Bool.eq_iff_iff]
 simp
theorem zdY (a b : Sp) (w : World) : (binOp .neq 43 (.agg (qQ.enc a)) (.agg (qQ.enc b))).run Tryz.prog w = .ok (.bool (!decide (a = b))) w := by
 have h := run_neq_struct (P := Tryz.prog) w 43 (qQ.enc a) (qQ.enc b)
 rw [h, Ye 9998 a b w]; rfl
theorem wZ {o : Oper} {a : Act} {C : World → Prop} {K : Act → Prop} {p q : Operand} {t2 : TypeId} (h : o.op = .binOp .neq 43 p q t2) (x y : Sp) (hx : a.eval p = .agg (qQ.enc x)) (hy : a.eval q = .agg (qQ.enc y)) (b : Bool) (hb : decide (x = y) = !b) (hk : K (a.put o.dst (.bool b))) : o.quiet Tryz.prog a C K :=
 ⟨_, fun w hw => by
  have hg : (eqGuard .neq 43 p q (.agg (qQ.enc x)) (.agg (qQ.enc y))).run Tryz.prog w = .ok () w := run_eqGuard_agg w _ 43 p q _ _ (by kernel_rfl); unfold Oper.quietAt execOp; simp only [h, hx, hy, hg, zdY, hb, Bool.not_not, Sem.run_bind, Sem.run_pure, Result.andThen_ok]; exact ⟨rfl, rfl⟩, hk⟩
theorem Yb (d : Nat) (a b : Db) (w : World) : (Op.equalIn (d + 2) 45 (.agg (vj.enc a)) (.agg (vj.enc b))).run Tryz.prog w = .ok (decide (a = b)) w := by
 obtain ⟨x, y, z⟩ := a
 obtain ⟨x', y', z'⟩ := b
 have h : (Op.equalIn (d + 2) 45 (.agg #[.int .i64 x, .int .i64 y, .int .i64 z]) (.agg #[.int .i64 x', .int .i64 y', .int .i64 z'])).run Tryz.prog w = .ok (x == x' && (y == y' && z == z')) w := by
  by_cases h1 : x = x' <;> by_cases h2 : y = y' <;> by_cases h3 : z = z' <;> simp [go_sem, h1, h2, h3]
 refine h.trans ?_
 congr 1
 rw [Bool.eq_iff_iff]
 simp
theorem zdX (a b : Db) (w : World) : (binOp .neq 45 (.agg (vj.enc a)) (.agg (vj.enc b))).run Tryz.prog w = .ok (.bool (!decide (a = b))) w := by
 have h := run_neq_struct (P := Tryz.prog) w 45 (vj.enc a) (vj.enc b)
 rw [h, Yb 9998 a b w]; rfl
theorem wY {o : Oper} {a : Act} {C : World → Prop} {K : Act → Prop} {p q : Operand} {t2 : TypeId} (h : o.op = .binOp .neq 45 p q t2) (x y : Db) (hx : a.eval p = .agg (vj.enc x)) (hy : a.eval q = .agg (vj.enc y)) (b : Bool) (hb : decide (x = y) = !b) (hk : K (a.put o.dst (.bool b))) : o.quiet Tryz.prog a C K :=
 ⟨_, fun w hw => by
  have hg : (eqGuard .neq 45 p q (.agg (vj.enc x)) (.agg (vj.enc y))).run Tryz.prog w = .ok () w := run_eqGuard_agg w _ 45 p q _ _ (by kernel_rfl); unfold Oper.quietAt execOp; simp only [h, hx, hy, hg, zdX, hb, Bool.not_not, Sem.run_bind, Sem.run_pure, Result.andThen_ok]; exact ⟨rfl, rfl⟩, hk⟩
theorem VH {α : Type} {l m : List α} {i : Nat} (h : l[i]? ≠ m[i]?) : l ≠ m := fun e => h (by rw [e])
theorem zbm {α : Type} {l m : List α} (hl : l.length = m.length) (h : ∀ i, i < l.length → l[i]? = m[i]?) : l = m := by
 refine List.ext_getElem? fun i => ?_
 by_cases hi : i < l.length
 ·exact h i hi
 ·rw [List.getElem?_eq_none (by omega), List.getElem?_eq_none (by omega)]
def zbv (l : List Db) (i : Nat) : Db := l.getD i ⟨0, 0, 0⟩
theorem Qn {l : List Db} {i : Nat} (h : i < l.length) : l[i]? = some (zbv l i) := by
 unfold zbv
 rw [List.getD_eq_getElem?_getD, List.getElem?_eq_getElem h]
 rfl
set_option maxHeartbeats 4000000 in
theorem Ks (v v' : Value) (l m : List Db) (b : Bool) (w : World) (h : j9 vj v l w) (h' : j9 vj v' m w) (hn : l.length ≤ 1000000) (hn' : m.length ≤ 1000000) (e : decide (l = m) = b) : Calls Tryz.prog 18 #[v, v'] w fun e w' => e = .returned (.bool b) ∧ Below w.heap.size w w' := by
 have B := Below.refl w.heap.size w
 obtain ⟨a1, c1, rfl, _⟩ := h.len
 obtain ⟨a2, c2, rfl, _⟩ := h'.len
 have H1 := Lib.hid h
 have H2 := Lib.hid h'
 have HE := Lib.hid e
 clear h h' e
 go_enter Tryz.func18, Tryz.ntmps18
 go_upto_region 1 with fail
 by_cases hlen : l.length = m.length
 ·have q0 : ((l.length : Int) != (m.length : Int)) = false := by rw [hlen]; simp
  have q0' : ((l.length : Int) == (m.length : Int)) = true := by rw [hlen]; simp
  refine wp_region_lit ?_; refine zy 1 ?_; refine zw (by first | rfl | simp [Region.wanted, yielded]) rfl Tryz.underlying35 rfl ?_; simp only [zn]; refine zy 1 ?_; refine zw (by first | rfl | simp [Region.wanted, yielded]) rfl Tryz.underlying35 rfl ?_; simp only [zn]; refine zy 1 ?_; refine wpList_nil ?_; go_upto_region 3 with fail
  refine wp_region_lit ?_; refine zy 1 ?_; refine wpList_nil ?_; go_wp2; go_loopw [5] (fun iv wr => ∃ k : Nat, k ≤ l.length ∧ iv = .int .i64 (k : Int) ∧ Hid (∀ i, i < k → l[i]? = m[i]?) ∧ Below w.heap.size w wr) (fun iv _ => (l.length - intOf iv).toNat)
  case atStart => exact ⟨0, by omega, rfl, Lib.hid fun i hi => absurd hi (by omega), B⟩
  case round =>
   clear B; obtain ⟨k, hk, rfl, HA, B⟩ := hrel; by_cases hkl : k < l.length
   ·have q1 : decide ((k : Int) < (l.length : Int)) = true := decide_eq_true (by omega)
    have q2 : decide (k < l.length) = true := decide_eq_true hkl; have hkm : k < m.length := by omega
    have q3 : decide ((k : Int) < (m.length : Int)) = true := decide_eq_true (by omega); have q4 : decide (k < m.length) = true := decide_eq_true hkm; obtain ⟨g1, o1, rfl, ca0⟩ := H1.out.at (by omega); obtain ⟨g2, o2, rfl, cb0⟩ := H2.out.at (by omega); have ca := ca0.of_eq (B.block _ ca0.lt); have cb := cb0.of_eq (B.block _ cb0.lt); clear ca0 cb0; have hp := Qn (l := l) hkl; have hp2 := Qn (l := m) hkm
    generalize hx1 : zbv l k = x1 at *
    generalize hx2 : zbv m k = x2 at *
    clear hx1 hx2; by_cases hxx : x1 = x2
    ·have q9 : decide (x1 = x2) = !false := decide_eq_true hxx
     have HN := Lib.hid (show ∀ i, i < k + 1 → l[i]? = m[i]? from fun i hi => by
      by_cases hik : i = k
      ·rw [hik, hp, hp2, hxx]
      ·exact HA.out i (by omega))
     clear hxx; go_upto_region 4 with fail
     refine wp_region_lit ?_; refine zy 2 ?_; refine zw (by first | rfl | simp [Region.wanted, yielded]) rfl Tryz.underlying35 rfl ?_; simp only [zn]; refine zy 1 ?_; refine wpList_nil ?_; go_upto_region 6 with fail
     try have lx_ca := ca.lt
     try have lx_cb := cb.lt
     refine zF 9 [] (by kernel_rfl) (by kernel_rfl) (by kernel_rfl) ?_
     rotate_left 0
     simp only [jK, Nat.reduceAdd]; refine xM 9 ?_; repeat (first | go_big_quiet_skip | (go_big_quiet_want; first | ((first | refine zo (t := 45) rfl _ _ _ rfl (fun w hw => (jb ca w hw).load Tryz.isAgg45 hp) (by first | rfl | omega) ?_ | refine zo (t := 45) rfl _ _ _ rfl (fun w hw => (jb cb w hw).load Tryz.isAgg45 hp2) (by first | rfl | omega) ?_ | refine wY rfl x1 x2 rfl rfl _ q9 ?_ | refine qB ?_ | refine qC ?_); simp only [zn]; go_big_quiet_on) | (go_big_quiet_op; go_big_quiet_on)))
     refine wpQuiet_nil ?_; refine zY ?_; intro wn za hE; have zf := B.size; have zg := za.size; replace B := B.trans (za.mono B.size)
     (try replace ca := ca.below za)
     (try replace cb := cb.below za)
     clear hE; try simp only [List.drop_succ_cons, List.drop_zero]
     refine zN.normal ?_; go_upto_region 5 with fail
     refine wp_region_lit ?_; refine zy 3 ?_; refine wpList_nil ?_; go_wp2; go_roundw
     case rel => exact ⟨k + 1, by omega, by go_num, HN, B⟩
     case measure => simp [intOf]; omega
    ·have q9 : decide (x1 = x2) = !true := decide_eq_false hxx
     have HN := Lib.hid (show ¬ l = m from VH (i := k) (by rw [hp, hp2]; intro h; injection h with h; exact hxx h))
     clear hxx; go_upto_region 4 with fail
     refine wp_region_lit ?_; refine zy 2 ?_; refine zw (by first | rfl | simp [Region.wanted, yielded]) rfl Tryz.underlying35 rfl ?_; simp only [zn]; refine zy 1 ?_; refine wpList_nil ?_; go_upto_region 6 with fail
     try have lx_ca := ca.lt
     try have lx_cb := cb.lt
     refine zF 9 [] (by kernel_rfl) (by kernel_rfl) (by kernel_rfl) ?_
     rotate_left 0
     simp only [jK, Nat.reduceAdd]; refine xM 9 ?_; repeat (first | go_big_quiet_skip | (go_big_quiet_want; first | ((first | refine zo (t := 45) rfl _ _ _ rfl (fun w hw => (jb ca w hw).load Tryz.isAgg45 hp) (by first | rfl | omega) ?_ | refine zo (t := 45) rfl _ _ _ rfl (fun w hw => (jb cb w hw).load Tryz.isAgg45 hp2) (by first | rfl | omega) ?_ | refine wY rfl x1 x2 rfl rfl _ q9 ?_ | refine qB ?_ | refine qC ?_); simp only [zn]; go_big_quiet_on) | (go_big_quiet_op; go_big_quiet_on)))
     refine wpQuiet_nil ?_; refine zY ?_; intro wn za hE; have zf := B.size; have zg := za.size; replace B := B.trans (za.mono B.size); clear hE; try simp only [List.drop_succ_cons, List.drop_zero]
     refine zN.normal ?_; have HB : b = false := by rw [← HE.out]; exact decide_eq_false (HN.out)
     go_upto_region 7 with fail
     refine wp_region_lit ?_; refine zy 1 ?_; refine wpList_nil ?_; go_wp2; go_ret; exact ⟨by (rw [HB]) <;> rfl, B⟩
   ·have q1 : decide ((k : Int) < (l.length : Int)) = false := decide_eq_false (by omega)
    have q2 : decide (k < l.length) = false := decide_eq_false hkl; have HN : l = m := zbm hlen (fun i hi => HA.out i (by omega)); have HB : b = true := by rw [← HE.out]; exact decide_eq_true (HN)
    clear HN; go_upto_region 4 with fail
    refine wp_region_lit ?_; refine zy 2 ?_; refine zw (by first | rfl | simp [Region.wanted, yielded]) rfl Tryz.underlying35 rfl ?_; simp only [zn]; refine zy 1 ?_; refine wpList_nil ?_; go_upto_region 8 with fail
    refine wp_region_lit ?_; refine zy 1 ?_; refine wpList_nil ?_; go_wp2; go_ret; exact ⟨by (rw [HB]) <;> rfl, B⟩
 ·have q0 : ((l.length : Int) != (m.length : Int)) = true := by simp; omega
  have q0' : ((l.length : Int) == (m.length : Int)) = false := by simp; omega
  have HB : b = false := by rw [← HE.out]; exact decide_eq_false (fun k => hlen (by rw [k]))
  refine wp_region_lit ?_; refine zy 1 ?_; refine zw (by first | rfl | simp [Region.wanted, yielded]) rfl Tryz.underlying35 rfl ?_; simp only [zn]; refine zy 1 ?_; refine zw (by first | rfl | simp [Region.wanted, yielded]) rfl Tryz.underlying35 rfl ?_; simp only [zn]; refine zy 1 ?_; refine wpList_nil ?_; go_upto_region 2 with fail
  refine wp_region_lit ?_; refine zy 1 ?_; refine wpList_nil ?_; go_wp2; go_ret; exact ⟨by (rw [HB]) <;> rfl, B⟩
/-! ### Same -/
def EqS (s t : qS) : Prop := s.pts = t.pts ∧ s.rad = t.rad ∧ s.spa = t.spa ∧ s.col = t.col ∧ s.era = t.era ∧ s.pha = t.pha
theorem EqS.eq {s t : qS} : EqS s t ↔ s = t := by
 obtain ⟨a, b, c, d, e, f⟩ := s
 obtain ⟨a', b', c', d', e', f'⟩ := t
 unfold EqS
 simp only [qS.mk.injEq]
instance (s t : qS) : Decidable (EqS s t) := by unfold EqS; infer_instance
theorem qh {o : Oper} {a : Act} {C : World → Prop} {K : Act → Prop} {p q : Operand} {t2 : TypeId} (h : o.op = .binOp .neq 28 p q t2) (x y : Px) (hx : a.eval p = .agg #[.int .u8 x.r, .int .u8 x.g, .int .u8 x.b, .int .u8 x.a]) (hy : a.eval q = .agg #[.int .u8 y.r, .int .u8 y.g, .int .u8 y.b, .int .u8 y.a]) (b : Bool) (hb : decide (x = y) = !b) (hk : K (a.put o.dst (.bool b))) : o.quiet Tryz.prog a C K :=
 ⟨_, fun w hw => by
  have hg : (eqGuard .neq 28 p q (.agg #[.int .u8 x.r, .int .u8 x.g, .int .u8 x.b, .int .u8 x.a]) (.agg #[.int .u8 y.r, .int .u8 y.g, .int .u8 y.b, .int .u8 y.a])).run Tryz.prog w = .ok () w := run_eqGuard_agg w _ 28 p q _ _ (by kernel_rfl); have hn : (binOp .neq 28 (.agg #[.int .u8 x.r, .int .u8 x.g, .int .u8 x.b, .int .u8 x.a]) (.agg #[.int .u8 y.r, .int .u8 y.g, .int .u8 y.b, .int .u8 y.a])).run Tryz.prog w = .ok (.bool b) w := (zfb x y w).trans (by rw [hb, Bool.not_not]); unfold Oper.quietAt execOp; simp only [h, hx, hy, hg, hn, Sem.run_bind, Sem.run_pure, Result.andThen_ok]; exact ⟨rfl, rfl⟩, hk⟩
set_option maxHeartbeats 4000000 in
theorem vW (v v' : Value) (s t : qS) (b : Bool) (w : World) (h : j9 qQ v s.pts w) (h' : j9 qQ v' t.pts w) (hn : s.pts.length ≤ 1000000) (hn' : t.pts.length ≤ 1000000) (e : decide (EqS s t) = b) : Calls Tryz.prog 28 #[.agg (qR v s), .agg (qR v' t)] w fun e w' => e = .returned (.bool b) ∧ Below w.heap.size w w' := by
 have B := Below.refl w.heap.size w
 obtain ⟨a1, c1, rfl, _⟩ := h.len
 obtain ⟨a2, c2, rfl, _⟩ := h'.len
 have H1 := Lib.hid h
 have H2 := Lib.hid h'
 have HE := Lib.hid e
 clear h h' e
 go_enter Tryz.func28, Tryz.ntmps28
 go_upto_region 0 with fail
 refine wp_region_lit ?_
 (refine zt (t := 30) rfl _ rfl _ rfl (z6 B ?_); clear B; intro b_r2 wn zb zd r2 za zf zk B; simp only [zn])
 (refine zt (t := 30) rfl _ rfl _ rfl (z6 B ?_); clear B; intro b_r3 wn zb zd r3 za zf zk B; (try have zh := r2.lt); (try replace r2 := r2.below (za.mono zb)); simp only [zn])
 refine zy 1 ?_
 refine wpList_nil ?_
 have hr23 : b_r2 < b_r3 := by have := r2.lt; omega
 go_upto_region 1 with fail
 by_cases h0 : ¬ s.pts.length = t.pts.length
 ·have q0 : ((s.pts.length : Int) != (t.pts.length : Int)) = true := by simp; first | exact h0 | omega
  have q0' : ((s.pts.length : Int) == (t.pts.length : Int)) = false := by simp; first | exact h0 | omega
  have HB : b = false := by rw [← HE.out]; exact decide_eq_false (fun k => h0 (congrArg List.length k.1))
  refine wp_region_lit ?_; refine jp 2 ?_
  repeat (first | go_big_quiet_skip | (go_big_quiet_want; first | ((first | refine qh rfl s.col t.col rfl rfl _ q13 ?_ | refine qB ?_ | refine qC ?_); simp only [zn]; go_big_quiet_on) | (go_big_quiet_op; go_big_quiet_on)))
  refine wpQuiet_nil ?_; refine zw (by first | rfl | simp [Region.wanted, yielded]) rfl Tryz.underlying26 rfl ?_; simp only [zn]; refine jp 2 ?_
  repeat (first | go_big_quiet_skip | (go_big_quiet_want; first | ((first | refine qh rfl s.col t.col rfl rfl _ q13 ?_ | refine qB ?_ | refine qC ?_); simp only [zn]; go_big_quiet_on) | (go_big_quiet_op; go_big_quiet_on)))
  refine wpQuiet_nil ?_; refine zw (by first | rfl | simp [Region.wanted, yielded]) rfl Tryz.underlying26 rfl ?_; simp only [zn]; refine jp 36 ?_
  repeat (first | go_big_quiet_skip | (go_big_quiet_want; first | ((first | refine zo (t := 28) rfl _ _ _ rfl (fun w hw => j2 (zD r2 w hw)) (by rfl) ?_ | refine zo (t := 28) rfl _ _ _ rfl (fun w hw => j2 (zD r3 w hw)) (by rfl) ?_ | refine qh rfl s.col t.col rfl rfl _ q13 ?_ | refine qB ?_ | refine qC ?_); simp only [zn]; go_big_quiet_on) | (go_big_quiet_op; go_big_quiet_on)))
  refine wpQuiet_nil ?_; refine wpList_nil ?_; go_upto_region 2 with fail
  refine wp_region_lit ?_; refine zy 1 ?_; refine wpList_nil ?_; go_wp2; go_ret; exact ⟨by (rw [HB]) <;> rfl, B⟩
 ·by_cases h1 : ¬ s.rad = t.rad
  ·have q0 : ((s.pts.length : Int) != (t.pts.length : Int)) = false := by simp; first | exact Decidable.not_not.1 h0 | omega
   have q0' : ((s.pts.length : Int) == (t.pts.length : Int)) = true := by simp; first | exact Decidable.not_not.1 h0 | omega
   have q1 : (s.rad != t.rad) = true := by simp; first | exact h1 | omega
   have q1' : (s.rad == t.rad) = false := by simp; first | exact h1 | omega
   have HB : b = false := by rw [← HE.out]; exact decide_eq_false (fun k => h1 k.2.1)
   refine wp_region_lit ?_; refine jp 2 ?_
   repeat (first | go_big_quiet_skip | (go_big_quiet_want; first | ((first | refine qh rfl s.col t.col rfl rfl _ q13 ?_ | refine qB ?_ | refine qC ?_); simp only [zn]; go_big_quiet_on) | (go_big_quiet_op; go_big_quiet_on)))
   refine wpQuiet_nil ?_; refine zw (by first | rfl | simp [Region.wanted, yielded]) rfl Tryz.underlying26 rfl ?_; simp only [zn]; refine jp 2 ?_
   repeat (first | go_big_quiet_skip | (go_big_quiet_want; first | ((first | refine qh rfl s.col t.col rfl rfl _ q13 ?_ | refine qB ?_ | refine qC ?_); simp only [zn]; go_big_quiet_on) | (go_big_quiet_op; go_big_quiet_on)))
   refine wpQuiet_nil ?_; refine zw (by first | rfl | simp [Region.wanted, yielded]) rfl Tryz.underlying26 rfl ?_; simp only [zn]; refine jp 36 ?_
   repeat (first | go_big_quiet_skip | (go_big_quiet_want; first | ((first | refine zo (t := 28) rfl _ _ _ rfl (fun w hw => j2 (zD r2 w hw)) (by rfl) ?_ | refine zo (t := 28) rfl _ _ _ rfl (fun w hw => j2 (zD r3 w hw)) (by rfl) ?_ | refine qh rfl s.col t.col rfl rfl _ q13 ?_ | refine qB ?_ | refine qC ?_); simp only [zn]; go_big_quiet_on) | (go_big_quiet_op; go_big_quiet_on)))
   refine wpQuiet_nil ?_; refine wpList_nil ?_; go_upto_region 2 with fail
   refine wp_region_lit ?_; refine zy 1 ?_; refine wpList_nil ?_; go_wp2; go_ret; exact ⟨by (rw [HB]) <;> rfl, B⟩
  ·by_cases h2 : ¬ s.spa = t.spa
   ·have q0 : ((s.pts.length : Int) != (t.pts.length : Int)) = false := by simp; first | exact Decidable.not_not.1 h0 | omega
    have q0' : ((s.pts.length : Int) == (t.pts.length : Int)) = true := by simp; first | exact Decidable.not_not.1 h0 | omega
    have q1 : (s.rad != t.rad) = false := by simp; first | exact Decidable.not_not.1 h1 | omega
    have q1' : (s.rad == t.rad) = true := by simp; first | exact Decidable.not_not.1 h1 | omega
    have q2 : (s.spa != t.spa) = true := by simp; first | exact h2 | omega
    have q2' : (s.spa == t.spa) = false := by simp; first | exact h2 | omega
    have HB : b = false := by rw [← HE.out]; exact decide_eq_false (fun k => h2 k.2.2.1)
    refine wp_region_lit ?_; refine jp 2 ?_
    repeat (first | go_big_quiet_skip | (go_big_quiet_want; first | ((first | refine qh rfl s.col t.col rfl rfl _ q13 ?_ | refine qB ?_ | refine qC ?_); simp only [zn]; go_big_quiet_on) | (go_big_quiet_op; go_big_quiet_on)))
    refine wpQuiet_nil ?_; refine zw (by first | rfl | simp [Region.wanted, yielded]) rfl Tryz.underlying26 rfl ?_; simp only [zn]; refine jp 2 ?_
    repeat (first | go_big_quiet_skip | (go_big_quiet_want; first | ((first | refine qh rfl s.col t.col rfl rfl _ q13 ?_ | refine qB ?_ | refine qC ?_); simp only [zn]; go_big_quiet_on) | (go_big_quiet_op; go_big_quiet_on)))
    refine wpQuiet_nil ?_; refine zw (by first | rfl | simp [Region.wanted, yielded]) rfl Tryz.underlying26 rfl ?_; simp only [zn]; refine jp 36 ?_
    repeat (first | go_big_quiet_skip | (go_big_quiet_want; first | ((first | refine zo (t := 28) rfl _ _ _ rfl (fun w hw => j2 (zD r2 w hw)) (by rfl) ?_ | refine zo (t := 28) rfl _ _ _ rfl (fun w hw => j2 (zD r3 w hw)) (by rfl) ?_ | refine qh rfl s.col t.col rfl rfl _ q13 ?_ | refine qB ?_ | refine qC ?_); simp only [zn]; go_big_quiet_on) | (go_big_quiet_op; go_big_quiet_on)))
    refine wpQuiet_nil ?_; refine wpList_nil ?_; go_upto_region 2 with fail
    refine wp_region_lit ?_; refine zy 1 ?_; refine wpList_nil ?_; go_wp2; go_ret; exact ⟨by (rw [HB]) <;> rfl, B⟩
   ·by_cases h3 : ¬ s.col = t.col
    ·have q0 : ((s.pts.length : Int) != (t.pts.length : Int)) = false := by simp; first | exact Decidable.not_not.1 h0 | omega
     have q0' : ((s.pts.length : Int) == (t.pts.length : Int)) = true := by simp; first | exact Decidable.not_not.1 h0 | omega
     have q1 : (s.rad != t.rad) = false := by simp; first | exact Decidable.not_not.1 h1 | omega
     have q1' : (s.rad == t.rad) = true := by simp; first | exact Decidable.not_not.1 h1 | omega
     have q2 : (s.spa != t.spa) = false := by simp; first | exact Decidable.not_not.1 h2 | omega
     have q2' : (s.spa == t.spa) = true := by simp; first | exact Decidable.not_not.1 h2 | omega
     have q13 : decide (s.col = t.col) = !true := decide_eq_false h3; have HB : b = false := by rw [← HE.out]; exact decide_eq_false (fun k => h3 k.2.2.2.1)
     refine wp_region_lit ?_; refine jp 2 ?_
     repeat (first | go_big_quiet_skip | (go_big_quiet_want; first | ((first | refine qh rfl s.col t.col rfl rfl _ q13 ?_ | refine qB ?_ | refine qC ?_); simp only [zn]; go_big_quiet_on) | (go_big_quiet_op; go_big_quiet_on)))
     refine wpQuiet_nil ?_; refine zw (by first | rfl | simp [Region.wanted, yielded]) rfl Tryz.underlying26 rfl ?_; simp only [zn]; refine jp 2 ?_
     repeat (first | go_big_quiet_skip | (go_big_quiet_want; first | ((first | refine qh rfl s.col t.col rfl rfl _ q13 ?_ | refine qB ?_ | refine qC ?_); simp only [zn]; go_big_quiet_on) | (go_big_quiet_op; go_big_quiet_on)))
     refine wpQuiet_nil ?_; refine zw (by first | rfl | simp [Region.wanted, yielded]) rfl Tryz.underlying26 rfl ?_; simp only [zn]; refine jp 36 ?_
     repeat (first | go_big_quiet_skip | (go_big_quiet_want; first | ((first | refine zo (t := 28) rfl _ _ _ rfl (fun w hw => j2 (zD r2 w hw)) (by rfl) ?_ | refine zo (t := 28) rfl _ _ _ rfl (fun w hw => j2 (zD r3 w hw)) (by rfl) ?_ | refine qh rfl s.col t.col rfl rfl _ q13 ?_ | refine qB ?_ | refine qC ?_); simp only [zn]; go_big_quiet_on) | (go_big_quiet_op; go_big_quiet_on)))
     refine wpQuiet_nil ?_; refine wpList_nil ?_; go_upto_region 2 with fail
     refine wp_region_lit ?_; refine zy 1 ?_; refine wpList_nil ?_; go_wp2; go_ret; exact ⟨by (rw [HB]) <;> rfl, B⟩
    ·by_cases h4 : ¬ s.era = t.era
     ·have q0 : ((s.pts.length : Int) != (t.pts.length : Int)) = false := by simp; first | exact Decidable.not_not.1 h0 | omega
      have q0' : ((s.pts.length : Int) == (t.pts.length : Int)) = true := by simp; first | exact Decidable.not_not.1 h0 | omega
      have q1 : (s.rad != t.rad) = false := by simp; first | exact Decidable.not_not.1 h1 | omega
      have q1' : (s.rad == t.rad) = true := by simp; first | exact Decidable.not_not.1 h1 | omega
      have q2 : (s.spa != t.spa) = false := by simp; first | exact Decidable.not_not.1 h2 | omega
      have q2' : (s.spa == t.spa) = true := by simp; first | exact Decidable.not_not.1 h2 | omega
      have q13 : decide (s.col = t.col) = !false := decide_eq_true (Decidable.not_not.1 h3); have q4 : (s.era != t.era) = true := by simp; first | exact h4 | omega
      have q4' : (s.era == t.era) = false := by simp; first | exact h4 | omega
      have HB : b = false := by rw [← HE.out]; exact decide_eq_false (fun k => h4 k.2.2.2.2.1)
      refine wp_region_lit ?_; refine jp 2 ?_
      repeat (first | go_big_quiet_skip | (go_big_quiet_want; first | ((first | refine qh rfl s.col t.col rfl rfl _ q13 ?_ | refine qB ?_ | refine qC ?_); simp only [zn]; go_big_quiet_on) | (go_big_quiet_op; go_big_quiet_on)))
      refine wpQuiet_nil ?_; refine zw (by first | rfl | simp [Region.wanted, yielded]) rfl Tryz.underlying26 rfl ?_; simp only [zn]; refine jp 2 ?_
      repeat (first | go_big_quiet_skip | (go_big_quiet_want; first | ((first | refine qh rfl s.col t.col rfl rfl _ q13 ?_ | refine qB ?_ | refine qC ?_); simp only [zn]; go_big_quiet_on) | (go_big_quiet_op; go_big_quiet_on)))
      refine wpQuiet_nil ?_; refine zw (by first | rfl | simp [Region.wanted, yielded]) rfl Tryz.underlying26 rfl ?_; simp only [zn]; refine jp 36 ?_
      repeat (first | go_big_quiet_skip | (go_big_quiet_want; first | ((first | refine zo (t := 28) rfl _ _ _ rfl (fun w hw => j2 (zD r2 w hw)) (by rfl) ?_ | refine zo (t := 28) rfl _ _ _ rfl (fun w hw => j2 (zD r3 w hw)) (by rfl) ?_ | refine qh rfl s.col t.col rfl rfl _ q13 ?_ | refine qB ?_ | refine qC ?_); simp only [zn]; go_big_quiet_on) | (go_big_quiet_op; go_big_quiet_on)))
      refine wpQuiet_nil ?_; refine wpList_nil ?_; go_upto_region 2 with fail
      refine wp_region_lit ?_; refine zy 1 ?_; refine wpList_nil ?_; go_wp2; go_ret; exact ⟨by (rw [HB]) <;> rfl, B⟩
     ·by_cases h5 : ¬ s.pha = t.pha
      ·have q0 : ((s.pts.length : Int) != (t.pts.length : Int)) = false := by simp; first | exact Decidable.not_not.1 h0 | omega
       have q0' : ((s.pts.length : Int) == (t.pts.length : Int)) = true := by simp; first | exact Decidable.not_not.1 h0 | omega
       have q1 : (s.rad != t.rad) = false := by simp; first | exact Decidable.not_not.1 h1 | omega
       have q1' : (s.rad == t.rad) = true := by simp; first | exact Decidable.not_not.1 h1 | omega
       have q2 : (s.spa != t.spa) = false := by simp; first | exact Decidable.not_not.1 h2 | omega
       have q2' : (s.spa == t.spa) = true := by simp; first | exact Decidable.not_not.1 h2 | omega
       have q13 : decide (s.col = t.col) = !false := decide_eq_true (Decidable.not_not.1 h3); have q4 : (s.era != t.era) = false := by simp; first | exact Decidable.not_not.1 h4 | omega
       have q4' : (s.era == t.era) = true := by simp; first | exact Decidable.not_not.1 h4 | omega
       have q5 : (s.pha != t.pha) = true := by simp; first | exact h5 | omega
       have q5' : (s.pha == t.pha) = false := by simp; first | exact h5 | omega
       have HB : b = false := by rw [← HE.out]; exact decide_eq_false (fun k => h5 k.2.2.2.2.2)
       refine wp_region_lit ?_; refine jp 2 ?_
       repeat (first | go_big_quiet_skip | (go_big_quiet_want; first | ((first | refine qh rfl s.col t.col rfl rfl _ q13 ?_ | refine qB ?_ | refine qC ?_); simp only [zn]; go_big_quiet_on) | (go_big_quiet_op; go_big_quiet_on)))
       refine wpQuiet_nil ?_; refine zw (by first | rfl | simp [Region.wanted, yielded]) rfl Tryz.underlying26 rfl ?_; simp only [zn]; refine jp 2 ?_
       repeat (first | go_big_quiet_skip | (go_big_quiet_want; first | ((first | refine qh rfl s.col t.col rfl rfl _ q13 ?_ | refine qB ?_ | refine qC ?_); simp only [zn]; go_big_quiet_on) | (go_big_quiet_op; go_big_quiet_on)))
       refine wpQuiet_nil ?_; refine zw (by first | rfl | simp [Region.wanted, yielded]) rfl Tryz.underlying26 rfl ?_; simp only [zn]; refine jp 36 ?_
       repeat (first | go_big_quiet_skip | (go_big_quiet_want; first | ((first | refine zo (t := 28) rfl _ _ _ rfl (fun w hw => j2 (zD r2 w hw)) (by rfl) ?_ | refine zo (t := 28) rfl _ _ _ rfl (fun w hw => j2 (zD r3 w hw)) (by rfl) ?_ | refine qh rfl s.col t.col rfl rfl _ q13 ?_ | refine qB ?_ | refine qC ?_); simp only [zn]; go_big_quiet_on) | (go_big_quiet_op; go_big_quiet_on)))
       refine wpQuiet_nil ?_; refine wpList_nil ?_; go_upto_region 2 with fail
       refine wp_region_lit ?_; refine zy 1 ?_; refine wpList_nil ?_; go_wp2; go_ret; exact ⟨by (rw [HB]) <;> rfl, B⟩
      ·have q0 : ((s.pts.length : Int) != (t.pts.length : Int)) = false := by simp; first | exact Decidable.not_not.1 h0 | omega
       have q0' : ((s.pts.length : Int) == (t.pts.length : Int)) = true := by simp; first | exact Decidable.not_not.1 h0 | omega
       have q1 : (s.rad != t.rad) = false := by simp; first | exact Decidable.not_not.1 h1 | omega
       have q1' : (s.rad == t.rad) = true := by simp; first | exact Decidable.not_not.1 h1 | omega
       have q2 : (s.spa != t.spa) = false := by simp; first | exact Decidable.not_not.1 h2 | omega
       have q2' : (s.spa == t.spa) = true := by simp; first | exact Decidable.not_not.1 h2 | omega
       have q13 : decide (s.col = t.col) = !false := decide_eq_true (Decidable.not_not.1 h3); have q4 : (s.era != t.era) = false := by simp; first | exact Decidable.not_not.1 h4 | omega
       have q4' : (s.era == t.era) = true := by simp; first | exact Decidable.not_not.1 h4 | omega
       have q5 : (s.pha != t.pha) = false := by simp; first | exact Decidable.not_not.1 h5 | omega
       have q5' : (s.pha == t.pha) = true := by simp; first | exact Decidable.not_not.1 h5 | omega
       have hlen := Decidable.not_not.1 h0; have HX := Lib.hid (fun k => (show EqS s t from ⟨k, Decidable.not_not.1 h1, Decidable.not_not.1 h2, Decidable.not_not.1 h3, Decidable.not_not.1 h4, Decidable.not_not.1 h5⟩)); refine wp_region_lit ?_; refine jp 2 ?_
       repeat (first | go_big_quiet_skip | (go_big_quiet_want; first | ((first | refine qh rfl s.col t.col rfl rfl _ q13 ?_ | refine qB ?_ | refine qC ?_); simp only [zn]; go_big_quiet_on) | (go_big_quiet_op; go_big_quiet_on)))
       refine wpQuiet_nil ?_; refine zw (by first | rfl | simp [Region.wanted, yielded]) rfl Tryz.underlying26 rfl ?_; simp only [zn]; refine jp 2 ?_
       repeat (first | go_big_quiet_skip | (go_big_quiet_want; first | ((first | refine qh rfl s.col t.col rfl rfl _ q13 ?_ | refine qB ?_ | refine qC ?_); simp only [zn]; go_big_quiet_on) | (go_big_quiet_op; go_big_quiet_on)))
       refine wpQuiet_nil ?_; refine zw (by first | rfl | simp [Region.wanted, yielded]) rfl Tryz.underlying26 rfl ?_; simp only [zn]; refine jp 36 ?_
       repeat (first | go_big_quiet_skip | (go_big_quiet_want; first | ((first | refine zo (t := 28) rfl _ _ _ rfl (fun w hw => j2 (zD r2 w hw)) (by rfl) ?_ | refine zo (t := 28) rfl _ _ _ rfl (fun w hw => j2 (zD r3 w hw)) (by rfl) ?_ | refine qh rfl s.col t.col rfl rfl _ q13 ?_ | refine qB ?_ | refine qC ?_); simp only [zn]; go_big_quiet_on) | (go_big_quiet_op; go_big_quiet_on)))
       refine wpQuiet_nil ?_; refine wpList_nil ?_; clear h0 h1 h2 h3 h4 h5 q13 q4 q4'; go_upto_region 3 with fail
       refine wp_region_lit ?_; refine zy 1 ?_; refine wpList_nil ?_; go_wp2; go_loopw [5] (fun iv wr => ∃ k : Nat, k ≤ s.pts.length ∧ iv = .int .i64 (k : Int) ∧ Hid (∀ i, i < k → s.pts[i]? = t.pts[i]?) ∧ Below w.heap.size w wr ∧ zJ 30 wr b_r2 (qR (.slice a1 s.pts.length c1) s) ∧ zJ 30 wr b_r3 (qR (.slice a2 t.pts.length c2) t)) (fun iv _ => (s.pts.length - intOf iv).toNat)
       case atStart => exact ⟨0, by omega, rfl, Lib.hid fun i hi => absurd hi (by omega), B, r2, r3⟩
       case round =>
        clear B r2 r3; obtain ⟨k, hk, rfl, HA, B, r2, r3⟩ := hrel; by_cases hkl : k < s.pts.length
        ·have q1 : decide ((k : Int) < (s.pts.length : Int)) = true := decide_eq_true (by omega)
         have q2 : decide (k < s.pts.length) = true := decide_eq_true hkl; have hkm : k < t.pts.length := by omega
         have q3 : decide ((k : Int) < (t.pts.length : Int)) = true := decide_eq_true (by omega); have q4 : decide (k < t.pts.length) = true := decide_eq_true hkm; obtain ⟨g1, o1, rfl, ca0⟩ := H1.out.at (by omega); obtain ⟨g2, o2, rfl, cb0⟩ := H2.out.at (by omega); have ca := ca0.of_eq (B.block _ ca0.lt); have cb := cb0.of_eq (B.block _ cb0.lt); clear ca0 cb0; have hp := jc (l := s.pts) hkl; have hp2 := jc (l := t.pts) hkm
         generalize hx1 : jg s.pts k = x1 at *
         generalize hx2 : jg t.pts k = x2 at *
         clear hx1 hx2; by_cases hxx : x1 = x2
         ·have q9 : decide (x1 = x2) = !false := decide_eq_true hxx
          have HN := Lib.hid (show ∀ i, i < k + 1 → s.pts[i]? = t.pts[i]? from fun i hi => by
           by_cases hik : i = k
           ·rw [hik, hp, hp2, hxx]
           ·exact HA.out i (by omega))
          clear hxx; go_upto_region 4 with fail
          refine wp_region_lit ?_; refine zy 3 ?_
          refine zw (by first | rfl | simp [Region.wanted, yielded]) rfl Tryz.underlying26 rfl ?_; simp only [zn]; refine zy 1 ?_; refine wpList_nil ?_; go_upto_region 6 with fail
          try have lx_r2 := r2.lt
          try have lx_r3 := r3.lt
          try have lx_ca := ca.lt
          try have lx_cb := cb.lt
          refine zF 11 [] (by kernel_rfl) (by kernel_rfl) (by kernel_rfl) ?_
          rotate_left 0
          simp only [jK, Nat.reduceAdd]; refine xM 11 ?_
          repeat (first | go_big_quiet_skip | (go_big_quiet_want; first | ((first | refine zo (t := 43) rfl _ _ _ rfl (fun w hw => (jb ca w hw).load Tryz.isAgg43 hp) (by first | rfl | omega) ?_ | refine zo (t := 43) rfl _ _ _ rfl (fun w hw => (jb cb w hw).load Tryz.isAgg43 hp2) (by first | rfl | omega) ?_ | refine wZ rfl x1 x2 rfl rfl _ q9 ?_ | refine qB ?_ | refine qC ?_); simp only [zn]; go_big_quiet_on) | (go_big_quiet_op; go_big_quiet_on)))
          refine wpQuiet_nil ?_; refine zY ?_; intro wn za hE; have zf := B.size; have zg := za.size; replace B := B.trans (za.mono B.size)
          (try replace r2 := r2.below za)
          (try replace r3 := r3.below za)
          (try replace ca := ca.below za)
          (try replace cb := cb.below za)
          clear hE; try simp only [List.drop_succ_cons, List.drop_zero]
          refine zN.normal ?_; go_upto_region 5 with fail
          refine wp_region_lit ?_; refine zy 3 ?_; refine wpList_nil ?_; go_wp2; go_roundw
          case rel => exact ⟨k + 1, by omega, by go_num, HN, B, r2, r3⟩
          case measure => simp [intOf]; omega
         ·have q9 : decide (x1 = x2) = !true := decide_eq_false hxx
          have HN := Lib.hid (show ¬ s.pts = t.pts from VH (i := k) (by rw [hp, hp2]; intro h; injection h with h; exact hxx h))
          clear hxx; go_upto_region 4 with fail
          refine wp_region_lit ?_; refine zy 3 ?_
          refine zw (by first | rfl | simp [Region.wanted, yielded]) rfl Tryz.underlying26 rfl ?_; simp only [zn]; refine zy 1 ?_; refine wpList_nil ?_; go_upto_region 6 with fail
          try have lx_r2 := r2.lt
          try have lx_r3 := r3.lt
          try have lx_ca := ca.lt
          try have lx_cb := cb.lt
          refine zF 11 [] (by kernel_rfl) (by kernel_rfl) (by kernel_rfl) ?_
          rotate_left 0
          simp only [jK, Nat.reduceAdd]; refine xM 11 ?_
          repeat (first | go_big_quiet_skip | (go_big_quiet_want; first | ((first | refine zo (t := 43) rfl _ _ _ rfl (fun w hw => (jb ca w hw).load Tryz.isAgg43 hp) (by first | rfl | omega) ?_ | refine zo (t := 43) rfl _ _ _ rfl (fun w hw => (jb cb w hw).load Tryz.isAgg43 hp2) (by first | rfl | omega) ?_ | refine wZ rfl x1 x2 rfl rfl _ q9 ?_ | refine qB ?_ | refine qC ?_); simp only [zn]; go_big_quiet_on) | (go_big_quiet_op; go_big_quiet_on)))
          refine wpQuiet_nil ?_; refine zY ?_; intro wn za hE; have zf := B.size; have zg := za.size; replace B := B.trans (za.mono B.size)
          (try replace r2 := r2.below za)
          (try replace r3 := r3.below za)
          clear hE; try simp only [List.drop_succ_cons, List.drop_zero]
          refine zN.normal ?_; have HB : b = false := by rw [← HE.out]; exact decide_eq_false (fun k => HN.out k.1)
          go_upto_region 7 with fail
          refine wp_region_lit ?_; refine zy 1 ?_; refine wpList_nil ?_; go_wp2; go_ret; exact ⟨by (rw [HB]) <;> rfl, B⟩
        ·have q1 : decide ((k : Int) < (s.pts.length : Int)) = false := decide_eq_false (by omega)
         have q2 : decide (k < s.pts.length) = false := decide_eq_false hkl; have HN : s.pts = t.pts := zbm hlen (fun i hi => HA.out i (by omega)); have HB : b = true := by rw [← HE.out]; exact decide_eq_true (HX.out HN)
         clear HN; go_upto_region 4 with fail
         refine wp_region_lit ?_; refine zy 3 ?_
         refine zw (by first | rfl | simp [Region.wanted, yielded]) rfl Tryz.underlying26 rfl ?_; simp only [zn]; refine zy 1 ?_; refine wpList_nil ?_; go_upto_region 8 with fail
         refine wp_region_lit ?_; refine zy 1 ?_; refine wpList_nil ?_; go_wp2; go_ret; exact ⟨by (rw [HB]) <;> rfl, B⟩
/- Contracts of the reference's pick, Made. -/
theorem jU (L : List Int) (i : Nat) {m : Int} (hm : 0 < m) : 0 ≤ jI L i m ∧ jI L i m < m := by
 unfold jI
 split
 ·exact ⟨Int.emod_nonneg _ (by omega), Int.emod_lt_of_pos _ hm⟩
 ·omega
set_option maxHeartbeats 1000000 in
theorem x4 (v : Value) (L : List Int) (i : Nat) (j m q : Int) (w : World) (h : j9 inE v L w) (hn : L.length ≤ 17592186044416) (hj : j = i) (hm : 0 < m) (hm2 : m ≤ 1000000) (e : jI L i m = q) : Calls Tryz.prog 49 #[v, .int .i64 j, .int .i64 m] w fun e w' => e = .returned (.int .i64 q) ∧ Below w.heap.size w w' := by
 subst hj
 obtain ⟨a, c, rfl, hc⟩ := h.len
 have E := Lib.hid e
 by_cases hi : i < L.length
 ·have e1 : jI L i m = Q5 L i % 1048576 % m := by unfold jI; rw [if_pos hi]
  rw [e1] at E; obtain ⟨g, o, rfl, rc⟩ := h.at (by omega); have hix := hi; have b1 := ZK (Q5 L i); have d1 : decide ((i : Int) < (L.length : Int)) = true := decide_eq_true (by omega); have e0 : m ≠ 0 := by omega
  have e00 : (m == 0) = false := by simp; omega
  have hnn : 0 ≤ Q5 L i % 1048576 := by omega
  have t1 : Int.tmod (Q5 L i % 1048576) m = Q5 L i % 1048576 % m := Int.tmod_eq_emod_of_nonneg hnn; clear e e1; go_enter Tryz.func49, Tryz.ntmps49
  go_wp2_with (first | (refine zp (t := 3) rfl _ rfl _ _ _ rfl (zr (zec rc (getD_some hix))) (by first | with_reducible rfl | omega) ?_; simp only [zn]) | fail)
  go_ret; exact ⟨by (rw [← E.out]) <;> rfl, by go_grown⟩
 ·have e1 : jI L i m = 0 := by unfold jI; rw [if_neg hi]
  have d1 : decide ((i : Int) < (L.length : Int)) = false := decide_eq_false (by omega); rw [e1] at E; clear e e1; go_enter Tryz.func49, Tryz.ntmps49
  go_wp2; go_ret; exact ⟨by (rw [← E.out]) <;> rfl, by go_grown⟩
def madeN (L : List Int) : Nat := (1 + jI L 5 6).toNat
def uq (L : List Int) (i : Nat) : Sp := ⟨jI L (6 + 3 * i) 400 - 100, jI L (7 + 3 * i) 400 - 100, 255 - jI L (8 + 3 * i) 256⟩
def ky (L : List Int) (k : Nat) : List Sp := (List.range k).map (uq L)
def qI (L : List Int) : qS := ⟨ky L (madeN L), 1 + jI L 0 64, 8 + jI L 1 120, kc (jI L 4 1000000), decide (jI L 3 4 = 1), jI L 2 100⟩
theorem wd (L : List Int) : 1 ≤ madeN L ∧ madeN L ≤ 6 := by
 have := jU L 5 (m := 6) (by omega)
 unfold madeN
 omega
theorem Zs (L : List Int) (k : Nat) : (ky L k).length = k := by unfold ky; rw [List.length_map, List.length_range]
theorem Xf (L : List Int) (k : Nat) : ky L (k + 1) = ky L k ++ [uq L k] := by
 unfold ky
 rw [List.range_succ, List.map_append]
 rfl
/-- A slice stored into a cell of a block. -/
theorem xw {t : TypeId} {ops : Array Oper} {rest : List Oper} {o : Oper} {a : Act} {w : World} {Q : Exit → Act → World → Prop} (hg : o.guard = none) (x y : Operand) (ho : o.op = .store 26 x y) (b i : Nat) (hx : a.eval x = .pointer (some ⟨b, i, none⟩)) (ad : Option Addr) (n cp : Nat) (hy : a.eval y = .slice ad n cp) {cs : Array Value} (ht : zJ t w b cs) {c : Value} (hc : cs[i]? = some c)
  (h : ∀ w', zJ t w' b (cs.setIfInBounds i (.slice ad n cp)) → qV b w w' → w'.heap.size = w.heap.size → wpList Tryz.prog ops Q rest (a.put o.dst undef) w') : wpList Tryz.prog ops Q (o :: rest) a w := by
 have c0 := ht.cell i hc
 have f0 := ht.frozen i
 refine z8 hg x y ho (w.setCell ⟨b, i, none⟩ (.slice ad n cp)) ?_ (h _ ?_ ((qV.refl b w).setCell _) (by simp only [World.size_setCell]))
 ·rw [hx, hy]
  simp [go_sem, c0, f0]
 ·exact heap_setCell_same w b i cs _ _ ht
def bsG (n : Nat) (t : TypeId) (cs : Array Value) : jB := ⟨Nat, ⟨0⟩, fun b => .slice (some ⟨b, 0, none⟩) 1 1, fun b w => n ≤ b ∧ zJ t w b cs, fun _ _ _ hb h => ⟨h.1, h.2.of_eq (hb.block _ h.2.lt)⟩⟩
set_option maxHeartbeats 4000000 in
theorem Jc (v : Value) (L : List Int) (w : World) (ls : j9 inE v L w) (hn : L.length ≤ 17592186044416) : Calls Tryz.prog 15 #[v] w fun e w' => ∃ a cp, e = .returned (.agg (qR (.slice a (qI L).pts.length cp) (qI L))) ∧ qE qQ w.heap.size (.slice a (qI L).pts.length cp) (qI L).pts w' ∧ Below w.heap.size w w' := by
 have B := Below.refl w.heap.size w
 have HL := Lib.hid ls
 obtain ⟨a, c, rfl, hc⟩ := ls.len
 have k0 := jU L 0 (m := 64) (by omega)
 obtain ⟨p0, h0⟩ : ∃ p, jI L 0 64 = p := ⟨_, rfl⟩
 rw [h0] at k0
 have Hp0 := Lib.hid h0
 have k1 := jU L 1 (m := 120) (by omega)
 obtain ⟨p1, h1⟩ : ∃ p, jI L 1 120 = p := ⟨_, rfl⟩
 rw [h1] at k1
 have Hp1 := Lib.hid h1
 have k2 := jU L 2 (m := 100) (by omega)
 obtain ⟨p2, h2⟩ : ∃ p, jI L 2 100 = p := ⟨_, rfl⟩
 rw [h2] at k2
 have Hp2 := Lib.hid h2
 have k3 := jU L 3 (m := 4) (by omega)
 obtain ⟨p3, h3⟩ : ∃ p, jI L 3 4 = p := ⟨_, rfl⟩
 rw [h3] at k3
 have Hp3 := Lib.hid h3
 have k4 := jU L 4 (m := 1000000) (by omega)
 obtain ⟨p4, h4⟩ : ∃ p, jI L 4 1000000 = p := ⟨_, rfl⟩
 rw [h4] at k4
 have Hp4 := Lib.hid h4
 have k5 := jU L 5 (m := 6) (by omega)
 obtain ⟨p5, h5⟩ : ∃ p, jI L 5 6 = p := ⟨_, rfl⟩
 rw [h5] at k5
 have Hp5 := Lib.hid h5
 obtain ⟨e3, he3⟩ : ∃ e, decide (p3 = 1) = e := ⟨_, rfl⟩
 have he3' : (p3 == 1) = e3 := by rw [← he3]; rfl
 have HM := Lib.hid (show qR (.slice none 0 0) ⟨[], 1 + p0, 8 + p1, kc p4, e3, p2⟩ = qR (.slice none 0 0) (qI L) from by unfold qI qR; simp only; rw [h0, h1, h2, h3, h4, he3])
 have HNN := Lib.hid (show (madeN L : Int) = 1 + p5 from by unfold madeN; rw [h5]; omega)
 obtain ⟨nn, hnn⟩ : ∃ n, madeN L = n := ⟨_, rfl⟩
 have HNV := Lib.hid hnn
 rw [hnn] at HNN
 have hn6 : nn ≤ 6 := by have := HNN.out; omega
 clear h0 h1 h2 h3 h4 h5 hnn
 go_enter Tryz.func15, Tryz.ntmps15
 go_upto_region 0 with fail
 refine wp_region_lit ?_
 (refine zu (t := 30) rfl _ (zW _ _ rfl) (z6 B ?_); clear B; intro b_r2 wn zb zd r2 za zf zk B; (try have zh := ls.lt); (try replace ls := ls.below (za.mono zb)); simp only [zn])
 refine wpList_nil ?_
 go_upto_region 1 with fail
 refine wp_region_lit ?_
 refine zy 1 ?_
 refine qT (enters_of Tryz.func49 (by kernel_rfl) rfl) (c := x4 _ L 0 0 64 p0 _ ls hn (rfl) (by omega) (by omega) Hp0.out) (h := ?_)
 rintro e wn ⟨rfl, za⟩
 have zf := B.size
 have zg := za.size
 replace B := B.trans (za.mono B.size)
 (try replace r2 := r2.below za)
 (try replace ls := ls.below za)
 refine ⟨_, rfl, ?_⟩
 simp only [zn]
 refine zy 2 ?_
 refine qT (enters_of Tryz.func49 (by kernel_rfl) rfl) (c := x4 _ L 1 1 120 p1 _ ls hn (rfl) (by omega) (by omega) Hp1.out) (h := ?_)
 rintro e wn ⟨rfl, za⟩
 have zf := B.size
 have zg := za.size
 replace B := B.trans (za.mono B.size)
 (try replace r2 := r2.below za)
 (try replace ls := ls.below za)
 refine ⟨_, rfl, ?_⟩
 simp only [zn]
 refine zy 2 ?_
 refine qT (enters_of Tryz.func49 (by kernel_rfl) rfl) (c := x4 _ L 2 2 100 p2 _ ls hn (rfl) (by omega) (by omega) Hp2.out) (h := ?_)
 rintro e wn ⟨rfl, za⟩
 have zf := B.size
 have zg := za.size
 replace B := B.trans (za.mono B.size)
 (try replace r2 := r2.below za)
 (try replace ls := ls.below za)
 refine ⟨_, rfl, ?_⟩
 simp only [zn]
 refine zy 1 ?_
 refine qT (enters_of Tryz.func49 (by kernel_rfl) rfl) (c := x4 _ L 3 3 4 p3 _ ls hn (rfl) (by omega) (by omega) Hp3.out) (h := ?_)
 rintro e wn ⟨rfl, za⟩
 have zf := B.size
 have zg := za.size
 replace B := B.trans (za.mono B.size)
 (try replace r2 := r2.below za)
 (try replace ls := ls.below za)
 refine ⟨_, rfl, ?_⟩
 simp only [zn]
 refine zy 2 ?_
 refine qT (enters_of Tryz.func49 (by kernel_rfl) rfl) (c := x4 _ L 4 4 1000000 p4 _ ls hn (rfl) (by omega) (by omega) Hp4.out) (h := ?_)
 rintro e wn ⟨rfl, za⟩
 have zf := B.size
 have zg := za.size
 replace B := B.trans (za.mono B.size)
 (try replace r2 := r2.below za)
 (try replace ls := ls.below za)
 refine ⟨_, rfl, ?_⟩
 simp only [zn]
 refine qT (enters_of Tryz.func50 (by kernel_rfl) rfl) (c := zdj p4 _) (h := ?_)
 rintro e wn ⟨rfl, za⟩
 have zf := B.size
 have zg := za.size
 replace B := B.trans (za.mono B.size)
 (try replace r2 := r2.below za)
 (try replace ls := ls.below za)
 refine ⟨_, rfl, ?_⟩
 simp only [zn]
 (refine zV rfl (.agg (qR (.slice none 0 0) ⟨[], 1 + p0, 8 + p1, kc p4, e3, p2⟩)) (by kernel_rfl) ?_; simp only [zn])
 (refine zu (t := 30) rfl _ (zW _ _ rfl) (z6 B ?_); clear B; intro b_r3 wn zb zd r3 za zf zk B; (try have zh := r2.lt); (try replace r2 := r2.below (za.mono zb)); (try have zh := ls.lt); (try replace ls := ls.below (za.mono zb)); simp only [zn])
 (refine zq (t := 30) rfl _ _ rfl _ rfl _ rfl r3 (by kernel_rfl) rfl (by simp [qR, Value.oneCell']) (qG B (by omega) ?_); clear r3 B; intro wn r3 ze zf zg B; (try replace r2 := r2.of_eq (ze.block _ r2.lt (by omega))); (try replace ls := ls.of_eq (ze.block _ ls.lt (by omega))); simp only [zn])
 refine wpList_nil ?_
 rw [HM.out] at r3
 replace ls := HL.out.below B
 go_upto_region 2 with fail
 refine wp_region_lit ?_
 refine zy 1 ?_
 refine qT (enters_of Tryz.func49 (by kernel_rfl) rfl) (c := x4 _ L 5 5 6 p5 _ ls hn (rfl) (by omega) (by omega) Hp5.out) (h := ?_)
 rintro e wn ⟨rfl, za⟩
 have zf := B.size
 have zg := za.size
 replace B := B.trans (za.mono B.size)
 (try replace r2 := r2.below za)
 (try replace r3 := r3.below za)
 (try replace ls := ls.below za)
 refine ⟨_, rfl, ?_⟩
 simp only [zn]
 refine zy 2 ?_
 refine wpList_nil ?_
 have k6 : w.heap.size ≤ b_r2 := by omega
 have k7 : b_r2 < b_r3 := by have := r2.lt; omega
 have k8 := r3.lt
 obtain ⟨b0, hb0⟩ : ∃ n, n = wn.heap.size := ⟨_, rfl⟩
 have k9 : b_r3 < b0 := by omega
 have k10 : b0 ≤ wn.heap.size := by omega
 have od : qE qQ b0 (.slice none 0 0) [] wn := qE.nil b0 wn
 clear hb0 k8
 rw [← HNN.out]
 clear ls
 go_wp2
 go_loopw [5] (fun iv wr => ∃ (k cp : Nat) (ad : Option Addr) (P : List Sp), k ≤ nn ∧ iv = .int .i64 (k : Int) ∧ Hid (ky L k = P) ∧ Below w.heap.size w wr ∧ b0 ≤ wr.heap.size ∧ zJ 30 wr b_r2 #[.slice none 0 0, .int .i64 0, .int .i64 0, .int .u8 0, .int .u8 0, .int .u8 0, .int .u8 0, .bool false, .int .i64 0] ∧ zJ 30 wr b_r3 (qR (.slice ad P.length cp) (qI L)) ∧ qE qQ b0 (.slice ad P.length cp) P wr) (fun iv _ => (nn - intOf iv).toNat)
 case atStart => exact ⟨0, 0, none, [], by omega, rfl, Lib.hid rfl, B, k10, r2, r3, od⟩
 case round =>
  clear B r2 r3 od k10; obtain ⟨k, cp, ad, P, hk, rfl, HP, B, k10, r2, r3, od⟩ := hrel; have ls := HL.out.below B; by_cases hkn : k < nn
  ·have q1 : decide ((k : Int) < (nn : Int)) = true := decide_eq_true (by omega)
   have q2 : decide (k < nn) = true := decide_eq_true hkn; have j6 := jU L (6 + 3 * k) (m := 400) (by omega); obtain ⟨x6, g6⟩ : ∃ p, jI L (6 + 3 * k) 400 = p := ⟨_, rfl⟩; rw [g6] at j6; have Hx6 := Lib.hid g6; have j7 := jU L (7 + 3 * k) (m := 400) (by omega); obtain ⟨x7, g7⟩ : ∃ p, jI L (7 + 3 * k) 400 = p := ⟨_, rfl⟩; rw [g7] at j7; have Hx7 := Lib.hid g7; have j8 := jU L (8 + 3 * k) (m := 256) (by omega); obtain ⟨x8, g8⟩ : ∃ p, jI L (8 + 3 * k) 256 = p := ⟨_, rfl⟩; rw [g8] at j8; have Hx8 := Lib.hid g8; have HN := Lib.hid (show ky L (k + 1) = P ++ [⟨x6 - 100, x7 - 100, 255 - x8⟩] from by rw [Xf, HP.out]; unfold uq; rw [g6, g7, g8])
   have hPl : P.length ≤ 6 := by rw [← HP.out, Zs]; omega
   clear g6 g7 g8; go_upto_region 4 with fail
   refine wp_region_lit ?_; refine zy 3 ?_; refine wpList_nil ?_; go_upto_region 6 with fail
   try have lx_r2 := r2.lt
   try have lx_r3 := r3.lt
   try have lx_ls := ls.lt
   try have lx_od := od.lt
   refine zF 22 [(6, zE ?v1_6), (12, zE ?v1_12), (18, zE ?v1_18), (21, bsG (wr.heap.size) 43 (qQ.enc ⟨x6 - 100, x7 - 100, 255 - x8⟩))] (by kernel_rfl) (by kernel_rfl) (by kernel_rfl) ?_
   rotate_left 3
   simp only [jK, Nat.reduceAdd]; refine vT 6 ?_
   refine zz (by rfl) (by first | rfl | simp [Region.wanted, yielded]) ?_ ?_
   ·intro wn za hE Kx hKx
    have zf := B.size; have zg := za.size; replace B := B.trans (za.mono B.size)
    (try replace r2 := r2.below za)
    (try replace r3 := r3.below za)
    (try replace ls := ls.below za)
    (try replace od := od.below za)
    refine zG rfl (enters_of Tryz.func49 (by kernel_rfl) rfl) (by simp only [Act.eval, qo]; rfl) ?_
    refine (x4 _ L (6 + 3 * k) _ 400 x6 wn ls hn (by omega) (by omega) (by omega) Hx6.out).mono ?_; rintro e wm ⟨rfl, zl⟩; refine ⟨_, rfl, ?_⟩; have hz := hKx () wm trivial zl
    dsimp only [zE] at hz
    exact hz
   rintro ⟨⟩
   dsimp only [zE]
   simp only [zn]; refine vT 5 ?_; refine zz (by rfl) (by first | rfl | simp [Region.wanted, yielded]) ?_ ?_
   ·intro wn za hE Kx hKx
    have zf := B.size; have zg := za.size; replace B := B.trans (za.mono B.size)
    (try replace r2 := r2.below za)
    (try replace r3 := r3.below za)
    (try replace ls := ls.below za)
    (try replace od := od.below za)
    refine zG rfl (enters_of Tryz.func49 (by kernel_rfl) rfl) (by simp only [Act.eval, qo]; rfl) ?_
    refine (x4 _ L (7 + 3 * k) _ 400 x7 wn ls hn (by omega) (by omega) (by omega) Hx7.out).mono ?_; rintro e wm ⟨rfl, zl⟩; refine ⟨_, rfl, ?_⟩; have hz := hKx () wm trivial zl
    dsimp only [zE] at hz
    exact hz
   rintro ⟨⟩
   dsimp only [zE]
   simp only [zn]; refine vT 5 ?_; refine zz (by rfl) (by first | rfl | simp [Region.wanted, yielded]) ?_ ?_
   ·intro wn za hE Kx hKx
    have zf := B.size; have zg := za.size; replace B := B.trans (za.mono B.size)
    (try replace r2 := r2.below za)
    (try replace r3 := r3.below za)
    (try replace ls := ls.below za)
    (try replace od := od.below za)
    refine zG rfl (enters_of Tryz.func49 (by kernel_rfl) rfl) (by simp only [Act.eval, qo]; rfl) ?_
    refine (x4 _ L (8 + 3 * k) _ 256 x8 wn ls hn (by omega) (by omega) (by omega) Hx8.out).mono ?_; rintro e wm ⟨rfl, zl⟩; refine ⟨_, rfl, ?_⟩; have hz := hKx () wm trivial zl
    dsimp only [zE] at hz
    exact hz
   rintro ⟨⟩
   dsimp only [zE]
   simp only [zn]; refine vT 2 ?_; refine zz (by rfl) (by first | rfl | simp [Region.wanted, yielded]) ?_ ?_
   ·intro wn za hE Kx hKx
    have zf := B.size; have zg := za.size; replace B := B.trans (za.mono B.size)
    (try replace r2 := r2.below za)
    (try replace r3 := r3.below za)
    (try replace od := od.below za)
    refine Qy (E := qQ) _ rfl ⟨x6 - 100, x7 - 100, 255 - x8⟩ rfl (by omega) ?_; intro b wm h1 h2 ht zl zm; exact hKx b wm ⟨Nat.le_trans za.size h1, ht⟩ (zl.mono h1)
   rintro b_s50
   dsimp only [zE, bsG]
   simp only [zn]; refine zY ?_; intro wn za hE; have zf := B.size; have zg := za.size; replace B := B.trans (za.mono B.size)
   (try replace r2 := r2.below za)
   (try replace r3 := r3.below za)
   (try replace od := od.below za)
   obtain ⟨hge_s50, s50⟩ : _ ∧ zJ _ _ _ _ := hE 21; clear hE; try simp only [List.drop_succ_cons, List.drop_zero]
   go_wp2_with (first | (refine xw (t := 30) rfl _ _ rfl _ 0 rfl _ _ _ rfl r3 rfl (qG B (by omega) ?_); clear r3 B; intro wn r3 ze zf zg B; (try replace r2 := r2.of_eq (ze.block _ r2.lt (by omega))); replace od := od.chg ze (by omega); simp only [zn]) | (at_builtin; refine yp rfl _ _ rfl _ _ rfl rfl od ((j9.one s50)) (by simp only [List.length_append, List.length_cons, List.length_nil]; omega) (by omega) ?_; intro v_od wn ht za; have zf := B.size; have hbz := za.size; replace B := B.trans (za.mono (by omega)); clear od; (try replace r2 := r2.of_eq (za.block _ (by omega))); (try replace r3 := r3.of_eq (za.block _ (by omega))); have od := ht; clear ht; obtain ⟨a_od, c_od, hv, hco⟩ := od.len; (try simp only [List.length_append, List.length_cons, List.length_nil, Nat.zero_add] at hv hco); subst hv; simp only [zn]) | fail)
   refine zN.normal ?_; replace r3 : zJ 30 _ b_r3 (qR (.slice a_od (P.length + 1) c_od) (qI L)) := r3; go_upto_region 5 with fail
   refine wp_region_lit ?_; refine zy 3 ?_; refine wpList_nil ?_; go_wp2; go_roundw
   case rel => exact ⟨k + 1, _, _, P ++ [⟨x6 - 100, x7 - 100, 255 - x8⟩], by omega, by go_num, HN, B, by omega, r2, by rw [List.length_append]; exact r3, by rw [List.length_append]; exact od⟩
   case measure => simp [intOf]; omega
  ·have q1 : decide ((k : Int) < (nn : Int)) = false := decide_eq_false (by omega)
   have q2 : decide (k < nn) = false := decide_eq_false hkn; have HF := Lib.hid (show (qI L).pts = P from by rw [← HP.out, show k = nn by omega, ← HNV.out]; rfl)
   go_upto_region 4 with fail
   refine wp_region_lit ?_; refine zy 3 ?_; refine wpList_nil ?_; go_upto_region 7 with fail
   have rs := od.mono (show w.heap.size ≤ b0 by omega); refine wp_region_lit ?_; refine zy 1 ?_
   (refine zq (t := 30) rfl _ _ rfl _ rfl _ rfl r2 (by kernel_rfl) rfl (by simp [qR, Value.oneCell']) (qG B (by omega) ?_); clear r2 B; intro wn r2 ze zf zg B; replace rs := (od.chg ze (by omega)).mono (show w.heap.size ≤ b0 by omega); simp only [zn])
   refine wpList_nil ?_; first | (refine bodyPost_ret (zv (t := 30) rfl _ _ (b_r2) rfl r2 Tryz.isAgg30 (by kernel_rfl)) rfl ?_) | (go_step; refine bodyPost_ret (zv (t := 30) rfl _ _ (b_r2) rfl r2 Tryz.isAgg30 (by kernel_rfl)) rfl ?_) | (go_step; go_step; refine bodyPost_ret (zv (t := 30) rfl _ _ (b_r2) rfl r2 Tryz.isAgg30 (by kernel_rfl)) rfl ?_) | (go_step; go_step; go_step; refine bodyPost_ret (zv (t := 30) rfl _ _ (b_r2) rfl r2 Tryz.isAgg30 (by kernel_rfl)) rfl ?_) | (go_step; go_step; go_step; go_step; refine bodyPost_ret (zv (t := 30) rfl _ _ (b_r2) rfl r2 Tryz.isAgg30 (by kernel_rfl)) rfl ?_) | (go_step; go_step; go_step; go_step; go_step; refine bodyPost_ret (zv (t := 30) rfl _ _ (b_r2) rfl r2 Tryz.isAgg30 (by kernel_rfl)) rfl ?_)
   rw [HF.out]; exact ⟨_, _, rfl, rs, B⟩
end Go.Proofs.YtepelndbbhdofaaGreatDoor
/- A range over a function whose iterator writes a block of its own; regions that call the loop's body. -/
namespace Go.Proofs.YtepelndbbhdofaaGreatDoor
open Go Go.RowKit Go.Shelf Pl
set_option linter.unusedVariables false
set_option linter.unusedSimpArgs false
set_option maxRecDepth 20000
/-! ### The fence that bars nothing: plain walks within -/
section
variable {P : Program} {n : Nat}
theorem Ys {o : Oper} {a : Act} {w : World} {K K' : Act → World → Prop} {M : Act → World → Prop} {Q : Exit → Act → World → Prop} (hd : ∀ c, o.op ≠ .defer c) (hK : ∀ a w, K' a w → K a w) (h : o.wp P a w K' (qt M)) : o.wpIn Fence.wide n P a w K Q := by
 refine ⟨fun _ _ => trivial, ?_⟩
 rw [Oper.semAt_eq _ _ _ hd]
 unfold Oper.wp at h
 generalize (execOp a.eval o).run P w = z at *
 cases z with
 | ok x w' =>
  cases x with
  | value v => exact hK _ _ h
  | skip => exact hK _ _ h
  | defer d => exact hK _ _ h
  | enter f args =>
   refine ⟨fun h => (by cases h), callsIn_wide.2 (Calls.mono h fun e w'' he => ?_)⟩; cases e with
   | returned v => exact hK _ _ he
   | panicked c => exact he.elim
   | outgrown => exact absurd he (qt.out M)
  | row s args =>
   refine ⟨fun h => (by cases h), fun c cs _ => ?_⟩; obtain ⟨v, w'', h1, h2⟩ := h c cs; exact ⟨v, w'', hK _ _ h1, stepsIn_wide.2 h2⟩
  | _ => exact absurd h (by simp [Oper.upon])
 | halt x w' =>
  cases x with
  | panic v => exact absurd h (by simp [Oper.upon, qt])
  | _ => exact absurd h (by simp [Oper.upon])
theorem VS {ops : Array Oper} {Q : Exit → Act → World → Prop} {l2 : List Oper} : ∀ (l : List Oper) (a : Act) (w : World), (∀ o ∈ l, ∀ c, o.op ≠ .defer c) → wpList P ops (qt fun a w => wpListIn Fence.wide n P ops Q l2 a w) l a w → wpListIn Fence.wide n P ops Q (l ++ l2) a w
 | [], a, w, _, h => h
 | o :: rest, a, w, hd, h => by
  unfold wpList at h; rw [List.cons_append]; unfold wpListIn; have ih := VS (ops := ops) (Q := Q) (l2 := l2) rest; by_cases hw : Region.wanted o (yielded ops a.tmps) = true
  ·rw [if_pos hw] at h ⊢
   rcases h with h | h
   ·exact Ys (hd o (List.mem_cons_self ..)) (fun a w hh => ih a w (fun o ho => hd o (List.mem_cons_of_mem _ ho)) hh) h
   ·exact absurd h.2 (qt.out _)
  ·rw [if_neg hw] at h ⊢
   exact ⟨fun _ _ => trivial, ih _ _ (fun o ho => hd o (List.mem_cons_of_mem _ ho)) h⟩
/-- A region whose last operations are walked within the fence. -/
theorem zak {id : Nat} {l : List Oper} {Q : Exit → Act → World → Prop} {a : Act} {w : World} (k : Nat) (hd : wI (l.take k) = true) (h : wpList P l.toArray (qt fun a w => wpListIn Fence.wide n P l.toArray Q (l.drop k) a w) (l.take k) a w) : (Code.region id l.toArray false).wpIn Fence.wide n P Q a w := by
 have := VS (Q := Q) (l2 := l.drop k) (l.take k) a w (fun o ho => vn hd ho) h
 rw [List.take_append_drop] at this
 exact wpIn_region_lit this
theorem Vg {ops : Array Oper} {K K' M : Act → World → Prop} {Q : Exit → Act → World → Prop} (hd : ∀ o ∈ ops.toList, ∀ c, o.op ≠ .defer c) (hK : ∀ a w, K' a w → K a w) {i : Nat} {a : Act} {w : World} (h : wpOp P ops (qt M) i K' a w) : wpOpIn Fence.wide n P ops Q i K a w := by
 unfold wpOp at h
 unfold wpOpIn
 cases ho : ops[i]? with
 | none => rw [ho] at h; exact hK _ _ h
 | some o =>
  rw [ho] at h; simp only at h ⊢; by_cases hw : Region.wanted o (yielded ops a.tmps) = true
  ·rw [if_pos hw] at h ⊢
   rcases h with h | h
   ·exact Ys (hd o (by rw [Array.mem_toList_iff]; exact Array.mem_of_getElem? ho)) hK h
   ·exact absurd h.2 (qt.out M)
  ·rw [if_neg hw] at h ⊢
   exact ⟨fun _ _ => trivial, hK _ _ h⟩
theorem uy {ops : Array Oper} {md : Region.Mode} {C : World → Prop} {k g : Nat} {L : Array Bool → Act → Prop} {Q : Exit → Act → World → Prop} (hd : ∀ o ∈ ops.toList, ∀ c, o.op ≠ .defer c) (hL : ∀ done a w, C w → L done a → wpAnyIn Fence.wide n P md ops Q g done a w) :
  ∀ (f : Nat) (done : Array Bool) (a : Act) (w : World), C w → wG P md ops C k L f done a → wpAnyIn Fence.wide n P md ops Q (f + g) done a w := by
 intro f
 induction f with
 | zero => intro done a w hw h; rw [Nat.zero_add]; exact hL _ _ _ hw h
 | succ f ih =>
  intro done a w hw h; rw [show f + 1 + g = (f + g) + 1 by omega]; exact ⟨fun h0 => absurd h0 h.1, fun i hi => Vg (M := fun _ _ => True) hd (fun _ _ h => h) (wpOp_of_qOp hw (fun a' w' hw' h' => ih _ a' w' hw' h') (h.2 i hi).2)⟩
theorem wW {ops : Array Oper} {md : Region.Mode} {Q : Exit → Act → World → Prop} : ∀ (l : List Oper) (k : Nat) (listed : Array Bool) (a : Act) (w : World), (∀ j, l[j]? = ops[k + j]?) →
  Region.seqB md ops l.length k listed = true → wpListIn Fence.wide n P ops Q l a w → wpAnyIn Fence.wide n P md ops Q l.length listed a w
 | [], _, _, _, _, _, hB, h => ⟨by simpa [Region.seqB] using hB, h⟩
 | o :: l, k, listed, a, w, hl, hB, h => by
  have h0 : ops[k]? = some o := by simpa using (hl 0).symm
  simp only [List.length_cons, Region.seqB, Bool.and_eq_true, decide_eq_true_eq] at hB; refine ⟨fun h1 => (by rw [hB.1] at h1; cases h1), fun i hi => ?_⟩
  rw [hB.1] at hi; have hik : i = k := by simpa using hi
  subst hik; have hw : wpOpIn Fence.wide n P ops Q i (wpListIn Fence.wide n P ops Q l) a w := by unfold wpOpIn; simp only [h0]; exact h
  exact wpOpIn_mono (fun a' w' h' => wW l (i + 1) _ a' w' (fun j => by have := hl (j + 1); simpa [Nat.add_assoc, Nat.add_comm 1 j] using this) hB.2 h') hw
/-- A region that draws its order: a quiet head, then a tail in order, within the fence. -/
theorem wV {id : Nat} {Q : Exit → Act → World → Prop} {a : Act} {w : World} {l : List Oper} (k : Nat) (hm : P.follows .mixedOrders = true) (hdf : wI l = true) (hB : Region.lexTailB .any l.toArray k = true)
  (h : wpQuiet P l.toArray (fun w' => ∃ u, w' = ov w u) (fun a' => ∀ w', Below w.heap.size w w' → wpListIn Fence.wide n P l.toArray Q (l.drop k) a' w') (l.take k) a) : (Code.region id l.toArray true).wpIn Fence.wide n P Q a w := by
 have hdo : ∀ o ∈ l.toArray.toList, ∀ c, o.op ≠ .defer c := fun o ho => vn hdf (by simpa using ho)
 simp only [Region.lexTailB, Bool.and_eq_true, decide_eq_true_eq] at hB
 obtain ⟨⟨⟨⟨hsel, hn⟩, hs⟩, hc⟩, hlex⟩ := hB
 have hn' : k < l.length := by simpa using hn
 have htl : (l.take k).length = k := by simp; omega
 have hdl : (l.drop k).length = l.toArray.size - k := by simp
 have inv0 : HeadInv .any l.toArray k (Array.replicate l.toArray.size false) :=
  ⟨by simp, fun j oj _ hl => (by rw [getD_replicate_false] at hl; cases hl), fun t _ ht => getD_in (by simpa using ht) (getD_replicate_false _ _)⟩
 have H := Zr (md := .any) (g := l.toArray.size - k) hsel hs hc hn (l.take k) 0 _ a (fun j hj => by
  have hj' : j < k := by rw [htl] at hj; exact hj
  simp [hj']) (by simpa using htl) inv0 (by rw [htl]; exact hlex) h
 refine wpIn_region_any hm ?_
 have := uy (n := n) (Q := Q) (g := l.toArray.size - k) hdo (fun d a' w' hw' hL => by
  obtain ⟨u, rfl⟩ := hw'; have := wW (n := n) (md := .any) (Q := Q) (l.drop k) k d a' (ov w u) (fun j => by simp [List.getElem?_drop]) (by rw [hdl]; exact hL.1) (hL.2 _ (qN w u))
  rwa [hdl] at this) _ _ _ w.drew ⟨w.drew, zU ((Below.refl _ _).drew)⟩ H
 rw [htl, show k + (l.toArray.size - k) = l.toArray.size by omega] at this
 exact this
end
/-! ### An iterator that writes one block of its own: three cells, the first block that it makes -/
def X3 (B : Nat) (W : World) (r : Nat) : Prop := r = B ∧ ∃ cs t, W.heap[r]? = some (.cells cs t (0, 0)) ∧ cs.size = 3
def wA {β : Type} (B : Nat) (J : β → World → Prop) : Prop := ∀ s W W' row, J s W → W.grownBy W' row → (∀ r, row = some r → X3 B W r) → J s W'
def zaI {β : Type} (b : Nat) (I : β → World → Prop) : Prop := ∀ s W W' row, I s W → W.grownBy W' row → (∀ r, row = some r → b ≤ r ∧ ((∃ o : Obj, W.heap[r]? = some o ∧ o.isCells = false) ∨ X3 (b + 2) W r)) → I s W'
theorem zaI.from {β : Type} {b : Nat} {I : β → World → Prop} (h : zaI b I) : OwnFrom b I := fun s W W' row hs hg hr => h s W W' row hs hg fun r e => ⟨(hr r e).1, .inl (hr r e).2⟩
theorem wA.below {β : Type} {B : Nat} {J : β → World → Prop} (h : wA B J) {s : β} {W W' : World} (hs : J s W) (hb : Below W.heap.size W W') : J s W' := h s W W' none hs (xn hb) (fun r e => by cases e)
theorem wA.chg {β : Type} {B : Nat} {J : β → World → Prop} (h : wA B J) {s : β} {W W' : World} {t : TypeId} {cs : Array Value} (hs : J s W) (hb : zJ t W B cs) (h3 : cs.size = 3) (hc : qV B W W') : J s W' :=
 h s W W' (some B) hs ⟨hc.os, hc.tape, hc.output, hc.size, fun k hk hne => hc.block k hk (fun e => hne (by rw [e]))⟩ (fun r e => by cases e; exact ⟨rfl, cs, t, hb, h3⟩)
def Za {α : Type} (F : Fence) (n : Nat) (P : Program) (g : Nat) (lb : Array Value) (encs : α → Array Value) (Kp : World → World → Prop) (S Sp : List α → Prop) (N : Nat) (w : World) : Prop :=
 ∀ (l : Nat) (J Jx : List α → World → Prop) (W : World), Below w.heap.size w W → wA W.heap.size J → wA W.heap.size Jx →
  (∀ pre x W1, J pre W1 → pre.length < N → W.heap.size < W1.heap.size → YieldAt F (n - 1) P l (encs x) W1 fun e W' =>
   (e = .returned (.bool true) ∧ J (pre ++ [x]) W' ∧ Kp W1 W') ∨ (e = .returned (.bool false) ∧ Jx (pre ++ [x]) W')) →
  J [] W →
  CallsIn F n P g (#[.func (.yield l) #[] #[]] ++ lb) W fun e W' => (∃ v, e = .returned v) ∧ ((∃ xs, S xs ∧ J xs W') ∨ (∃ pre, Sp pre ∧ Jx pre W'))
section
variable {F : Fence} {n : Nat} {P : Program}
/-- The statement 'for x := range seq { .. }' whose head may lay new blocks: 'As x' says what the head leaves. -/
theorem Zy {α : Type} {g : Operand} {ps : Array Tmp} {assign body : Code} {Q : Exit → Act → World → Prop} {a : Act} {w : World}
  (hro : F.round = none) (h1 : 1 ≤ n) {gf : Nat} {lb : Array Value} (hg : a.eval g = .func (.func gf) #[] lb) (hFg : F.fn gf) (eg : ∀ args w, (callFunc gf args).run P w = .ok (.enter gf args) w)
  {encs : α → Array Value} {Kp : World → World → Prop} {S Sp : List α → Prop} {N : Nat} {w0 : World} (hseq : Za F (n - 1) P gf lb encs Kp S Sp N w0)
  (hKt : ∀ {A B C : World}, Kp A B → Kp B C → Kp A C) (hKb : ∀ (W : World) (l : Nat) (o o' : Obj), w.heap.size ≤ l → W.heap[l]? = some o → o.isCells = false → o.isWalk = false → Kp W (W.putObj l o'))
  (hKg : ∀ (A B : World), Below A.heap.size A B → Kp A B) (hb0 : Below w0.heap.size w0 w) (hps : ∀ x, (encs x).size = ps.size)
  (I : List α → World → Prop) (hI0 : zaI w.heap.size I) (h0 : I [] w) (As : α → Act → World → Prop) (hAs : ∀ x, OwnFrom w.heap.size (As x))
  (hassign : ∀ (l : Nat) (pre : List α) (x : α) (W : World) (K : Act → World → Prop), I pre W → w.heap.size + 2 < W.heap.size → (∀ a' W', Below W.heap.size W W' → As x a' W' → K a' W') →
   assign.wpIn (F.inRound l) (n - 1 - 1) P (Exit.then K (fun _ _ _ => False)) { tmps := (ps.zip (encs x)).foldl (fun t (p, v) => t.setIfInBounds p v) a.tmps, defers := [] } W)
  (hbody : ∀ (l : Nat) (pre : List α) (x : α) (W : World) (a' : Act), I pre W → As x a' W → pre.length < N → body.wpIn (F.inRound l) (n - 1 - 1) P (ownPostK Kp I (fun _ _ _ => False) (pre ++ [x]) W) a' W)
  (hdone : ∀ (D : Nat) (xs : List α) (W : World), w.heap.size ≤ D → S xs → I xs W → W.heap[D]? = some (.deferred (some [])) → Q .normal { a with defers := { target := .collected D, args := #[] } :: a.defers } W) :
  (Code.rangeFunc g ps assign body).wpIn F n P Q a w := by
 have hI : OwnFrom w.heap.size I := hI0.from
 refine wpIn_rangeFunc fun fn hfn => ?_
 rw [hro]
 obtain ⟨rc, hrc⟩ : ∃ rc : LoopState → Option Code → Loop, rc = fun st pe => { state := st, pending := pe, fn, tmps := a.tmps, params := ps, assign, body, defers := w.heap.size } := ⟨_, rfl⟩
 obtain ⟨W1, hW1⟩ : ∃ W1, (w.alloc (.deferred (some []))).alloc (.loop (rc .ready none)) = W1 := ⟨_, rfl⟩
 have blkL : W1.heap[w.heap.size + 1]? = some (.loop (rc .ready none)) := by
  have := World.alloc_heap_new (w.alloc (.deferred (some []))) (.loop (rc .ready none)); rw [← hW1]
  rwa [World.size_alloc] at this
 have blkD : W1.heap[w.heap.size]? = some (.deferred (some [])) := by
  rw [← hW1]; exact (Below.heap_alloc _ _ _ (by simp)).trans (World.alloc_heap_new w _)
 have grown : Below w0.heap.size w0 W1 := by
  rw [← hW1]; exact hb0.trans ((((Below.refl _ w).alloc (Nat.le_refl _) _).alloc (by simp) _).mono hb0.size)
 have szW1 : w.heap.size ≤ W1.heap.size := by rw [← hW1]; simp; omega
 have QQ : I [] W1 := by rw [← hW1]; exact hI.alloc _ (hI.alloc _ h0)
 refine ⟨w.heap.size + 1, [{ target := .collected w.heap.size, args := #[] }], W1, { target := .fn (.func gf) lb, args := #[.func (.yield (w.heap.size + 1)) #[] #[]] }, W1, gf,
  #[.func (.yield (w.heap.size + 1)) #[] #[]] ++ lb, W1, ?_, ?_, ?_, ?_, fun _ => h1, ?_⟩
 ·rw [← hW1, hrc]; exact run_enterLoop_outer _ _ _ _ _
 ·simp only [resolve, hg]
  simp [go_sem]
 ·intro f' hf'
  simp [Target.leads] at hf'
  subst hf'; exact hFg
 ·simp [invoke, go_sem, eg]
 have hszW1 : W1.heap.size = w.heap.size + 2 := by rw [← hW1]; simp
 refine (hseq (w.heap.size + 1)
  (fun pre W => I pre W ∧ W.heap[w.heap.size + 1]? = some (.loop (rc .ready none)) ∧ W.heap[w.heap.size]? = some (.deferred (some [])))
  (fun _ _ => False) W1 grown
  (fun s A B row hs hg' hr => ⟨hI0 s A B row hs.1 hg' (fun r e => ⟨by have := (hr r e).1; omega, .inr (by have := hr r e; rwa [hszW1] at this)⟩), (hg'.block _ (Array.getElem?_eq_some_iff.1 hs.2.1).1 (fun e => by have := (hr _ e.symm).1; omega)).trans hs.2.1, (hg'.block _ (Array.getElem?_eq_some_iff.1 hs.2.2).1 (fun e => by have := (hr _ e.symm).1; omega)).trans hs.2.2⟩)
  (fun _ _ _ _ hs _ _ => hs) ?_ ⟨QQ, blkL, blkD⟩).mono ?_
 ·rintro pre x W ⟨hi, hl, hk⟩ hlen hbig
  have hy := run_yield (P := P) (args := encs x) hl (by rw [hrc]; exact hps x)
  rw [hrc] at hy; refine ⟨fn, _, assign, body, hy, roundIn_of_wpIn hfn (hassign _ pre x W _ hi (by rw [hszW1] at hbig; exact hbig) fun a' V hb ha => ?_)⟩
  have hlV : V.heap[w.heap.size + 1]? = some (.loop (rc .ready none)) := (hb.block _ (Array.getElem?_eq_some_iff.1 hl).1).trans hl; have hkV : V.heap[w.heap.size]? = some (.deferred (some [])) := (hb.block _ (Array.getElem?_eq_some_iff.1 hk).1).trans hk; have hiV : I pre V := hI pre W V none hi (xn hb) (fun r e => by cases e); refine ⟨_, run_beginRound hlV (by rw [hrc]), ?_⟩; obtain ⟨V1, hV1⟩ : ∃ V1, V.putObj (w.heap.size + 1) (.loop { rc .ready none with state := .busy }) = V1 := ⟨_, rfl⟩; have hl1 : V1.heap[w.heap.size + 1]? = some (.loop { rc .ready none with state := .busy }) := by rw [← hV1]; exact World.putObj_heap_same (Array.getElem?_eq_some_iff.1 hlV).1
  have hk1 : V1.heap[w.heap.size]? = some (.deferred (some [])) := by rw [← hV1]; exact (World.putObj_heap_other (by omega)).trans hkV
  have hKp1 : Kp W V1 := hKt (hKg _ _ hb) (by rw [← hV1]; exact hKb _ _ _ _ (by omega) hlV rfl rfl)
  have hi1 : I pre V1 := by rw [← hV1]; exact hI.putObj _ hiV (by omega) hlV rfl
  have ha1 : As x a' V1 := by rw [← hV1]; exact (hAs x).putObj _ ha (by omega) hlV rfl
  rw [hV1]; refine wpIn_mono (hbody _ pre x V1 a' hi1 ha1 hlen) ?_; rintro e a3 W3 hp; cases e with
  | normal =>
   obtain ⟨ko, kp, hi3⟩ := hp; have hl3 := ko.same _ _ hl1 rfl; have hk3 := ko.same _ _ hk1 rfl; have he := run_endRound (P := P) none hl3; rw [hrc] at he; refine ⟨_, _, he, .inl ⟨rfl, ⟨hI.putObj _ hi3 (by omega) hl3 rfl, ?_, (World.putObj_heap_other (by omega)).trans hk3⟩, hKt (hKt hKp1 kp) (hKb _ _ _ _ (by omega) hl3 rfl rfl)⟩⟩; rw [World.putObj_heap_same (Array.getElem?_eq_some_iff.1 hl3).1, hrc]
   rfl
  | ret => exact hp.2.elim
  | exit id => exact hp.2.elim
  | goto t => exact hp.2.elim
  | panic ch => exact hp.elim
  | outgrown => exact hp.elim
 ·rintro e W2 ⟨⟨v, rfl⟩, ⟨xs, hS, hi, hl, hk⟩ | ⟨_, _, hf⟩⟩
  ·have he := run_endLoop (P := P) hl (by rw [hrc]; simp)
   rw [hrc] at he; exact ⟨none, _, he, hdone _ xs _ (Nat.le_refl _) hS (hI.putObj _ hi (by omega) hl rfl) ((World.putObj_heap_other (by omega)).trans hk)⟩
  ·exact hf.elim
end
/-! ### What a round keeps: the blocks below n0, but one; every block of a point -/
structure u7 (n0 c : Nat) (W W' : World) : Prop where
 size : W.heap.size ≤ W'.heap.size
 low : ∀ k, k < n0 → k ≠ c → k < W.heap.size → W'.heap[k]? = W.heap[k]?
 pts : ∀ (k : Nat) (cs : Array Value), zJ 43 W k cs → zJ 43 W' k cs
theorem u7.trans {n0 c : Nat} {X Y Z : World} (h : u7 n0 c X Y) (k : u7 n0 c Y Z) : u7 n0 c X Z :=
 ⟨Nat.le_trans h.size k.size, fun i hi hc hl => (k.low i hi hc (Nat.lt_of_lt_of_le hl h.size)).trans (h.low i hi hc hl), fun i cs hi => k.pts i cs (h.pts i cs hi)⟩
theorem u7.below {n0 c : Nat} {W W' : World} (h : Below W.heap.size W W') : u7 n0 c W W' :=
 ⟨h.size, fun k _ _ hl => h.block k hl, fun k cs hk => zJ.of_eq hk (h.block k (zJ.lt hk))⟩
theorem u7.putObj {n0 c : Nat} (W : World) (l : Nat) (o o' : Obj) (hl : n0 ≤ l) (ho : W.heap[l]? = some o) (hc : o.isCells = false) : u7 n0 c W (W.putObj l o') :=
 ⟨by simp [World.putObj], fun k hk _ _ => World.putObj_heap_other (by omega), fun k cs hk => by
  have hne : k ≠ l := fun e => by
   subst e; rw [show W.heap[k]? = _ from hk] at ho; cases ho
   cases hc
  exact (World.putObj_heap_other hne).trans hk⟩
/-- All of old stands, but one block of another kind. -/
theorem u7.exc {n0 c : Nat} {W W' : World} (hs : W.heap.size ≤ W'.heap.size) (h : ∀ k, k < W.heap.size → k ≠ c → W'.heap[k]? = W.heap[k]?) {t : TypeId} {cs : Array Value} (hc : zJ t W c cs) (ht : t ≠ 43) : u7 n0 c W W' :=
 ⟨hs, fun k _ hk hl => h k hl hk, fun k ds hk => by
  have hne : k ≠ c := fun e => by
   subst e; have := (show W.heap[k]? = _ from hk).symm.trans hc
   injection this with this
   injection this with _ e _
   exact ht e.symm
  exact zJ.of_eq hk (h k (zJ.lt hk) hne)⟩
end Go.Proofs.YtepelndbbhdofaaGreatDoor
/- The iterator over a stroke's dabs: its contract. -/
namespace Go.Proofs.YtepelndbbhdofaaGreatDoor
open Go.RowKit Go.Shelf Pl
attribute [local go_sem] Oper.semAt_some
set_option linter.unusedVariables false
set_option linter.unusedSimpArgs false
set_option maxRecDepth 20000
theorem zbi (v : Value) (s : qS) (w : World) : Calls Tryz.prog 58 #[.agg (qR v s)] w fun e w' => ∃ b, e = .returned (.func (.func 109) #[] #[.pointer (some ⟨b, 0, none⟩)]) ∧ (w.heap.size ≤ b ∧ b ≤ w.heap.size) ∧ zJ 30 w' b (qR v s) ∧ Below w.heap.size w w' := by
 have B := Below.refl w.heap.size w
 go_enter Tryz.func58, Tryz.ntmps58
 go_upto_region 0 with fail
 refine wp_region_lit ?_
 (refine zt (t := 30) rfl _ rfl _ rfl (z6 B ?_); clear B; intro b_r1 wn zb zd r1 za zf zk B; simp only [zn])
 refine zy 1 ?_
 refine wpList_nil ?_
 have k1 : w.heap.size ≤ b_r1 ∧ b_r1 ≤ w.heap.size := ⟨by omega, by omega⟩
 go_wp2
 go_ret
 exact ⟨_, rfl, k1, r1, B⟩
theorem Xh {p q M : Int} (hp : -M ≤ p ∧ p ≤ M) (hq : -M ≤ q ∧ q ≤ M) : -(M * M) ≤ p * q ∧ p * q ≤ M * M := by
 have h1 : 0 ≤ (M - p) * (M + q) := Int.mul_nonneg (by omega) (by omega)
 have h2 : 0 ≤ (M + p) * (M - q) := Int.mul_nonneg (by omega) (by omega)
 have h3 : 0 ≤ (M - p) * (M - q) := Int.mul_nonneg (by omega) (by omega)
 have h4 : 0 ≤ (M + p) * (M + q) := Int.mul_nonneg (by omega) (by omega)
 simp only [Int.sub_mul, Int.mul_sub, Int.add_mul, Int.mul_add] at h1 h2 h3 h4
 constructor <;> omega
theorem zfe {s : qS} (h : JW s) {k : Nat} (hk : k ≤ xf s) : 0 ≤ (k : Int) * s.spa ∧ s.pha + k * s.spa ≤ 5300000 := by
 have h1 := KC h
 have h2 := jW (a := (k : Int)) (b := s.spa) (m := 1024) (k := 4096) (by omega) (by omega) (by have := h.s1; omega) h.s2
 have := h.p2
 omega
theorem zcf (s : qS) (k : Nat) : s.pha + ((k + 1 : Nat) : Int) * s.spa = s.pha + k * s.spa + s.spa := by
 rw [Int.natCast_add, Int.add_mul]
 omega
theorem Vz {s : qS} (h : JW s) (hn : ¬ s.pts.length = 1) {k : Nat} : k < xf s ↔ s.pha + k * s.spa < xX s.pts := by
 unfold xf
 rw [if_neg hn]
 exact Ql h.s1
set_option maxHeartbeats 8000000 in
theorem QU (s : qS) (hv : JW s) (g o c b b8 n0 n : Nat) (hn1 : 1 ≤ n) (w : World) (r1 : zJ 30 w b (qR (.slice (some ⟨g, o, none⟩) s.pts.length c) s)) (hcap : s.pts.length ≤ c) (pc : zO qQ g o s.pts w) (hb : b < n0) (hb8 : b ≠ b8) (hg : g < n0) (hg8 : g ≠ b8) (hn0 : n0 ≤ w.heap.size) :
  Za Fence.wide n Tryz.prog 109 #[.pointer (some ⟨b, 0, none⟩)] (fun i : Fin (xf s) => #[.agg (vj.enc (xg s i.val))]) (u7 n0 b8) (fun xs => xs = List.finRange (xf s)) (fun pre => ∃ k, pre = y9 (xf s) k) (xf s) w := fun l J Jx W0 hW hJa hJxa hY h0 => by
 have r1 := r1.of_eq (hW.block _ r1.lt)
 have pc := pc.of_eq (hW.block _ pc.lt)
 have hn0 := Nat.le_trans hn0 hW.size
 have B := Below.refl W0.heap.size W0
 have HA := Lib.hid hJa
 have HY := Lib.hid hY
 have HV := Lib.hid hv
 have HJ0 := Lib.hid h0
 have hl1 := hv.l1
 have hl2 := hv.l2
 have hs1 := hv.s1
 have hs2 := hv.s2
 have hr1 := hv.r1
 have hr2 := hv.r2
 have hq1 := hv.p1
 have hq2 := hv.p2
 have hp0 := jc (l := s.pts) (show 0 < s.pts.length by omega)
 have q0 : decide (0 < s.pts.length) = true := decide_eq_true (by omega)
 have q0' : decide ((0 : Int) < (s.pts.length : Int)) = true := decide_eq_true (by omega)
 clear hW hJa hJxa hY h0 hv
 refine callsIn_wide.2 ?_
 show Calls Tryz.prog 109 #[.func (.yield l) #[] #[], .pointer (some ⟨b, 0, none⟩)] W0 _
 go_enter Tryz.func109, Tryz.ntmps109
 go_upto_region 0 with fail
 refine wp_region_lit ?_
 refine jp 4 ?_
 repeat (first | go_big_quiet_skip | (go_big_quiet_want; first | ((first | refine zo (t := 43) rfl _ _ _ rfl (fun w hw => (jb pc w hw).load Tryz.isAgg43 hp0) (by first | rfl | omega) ?_ | refine qB ?_ | refine qC ?_); simp only [zn]; go_big_quiet_on) | (go_big_quiet_op; go_big_quiet_on)))
 refine wpQuiet_nil ?_
 (refine zu (t := 43) rfl _ (xB _ _ rfl) (z6 B ?_); clear B; intro b_f3 wn zb zd f3 za zf zk B; (try have zh := r1.lt); (try replace r1 := r1.below (za.mono zb)); (try have zh := pc.lt); (try replace pc := pc.below (za.mono zb)); simp only [zn])
 (refine zq (t := 43) rfl _ _ rfl _ rfl _ rfl f3 (by kernel_rfl) rfl (by simp [qQ, Value.oneCell']) (qG B (by omega) ?_); clear f3 B; intro wn f3 ze zf zg B; (try replace r1 := r1.of_eq (ze.block _ r1.lt (by omega))); (try replace pc := pc.of_eq (ze.block _ pc.lt (by omega))); simp only [zn])
 refine wpList_nil ?_
 replace f3 : zJ 43 _ b_f3 (qQ.enc (jg s.pts 0)) := f3
 have KF := Lib.hid (show b_f3 = W0.heap.size by omega)
 have hf0 := f3.lt
 have hJ := HA.out.below HJ0.out B
 go_upto_region 1 with fail
 by_cases h1 : s.pts.length = 1
 ·have q1 : ((s.pts.length : Int) == 1) = true := by rw [h1]; rfl
  have q1' : (s.pts.length == 1) = true := by rw [h1]; rfl
  have hc1 : xf s = 1 := by unfold xf; rw [if_pos h1]
  obtain ⟨R, hR⟩ : ∃ R, qj (s.rad * (jg s.pts 0).p) 255 = R := ⟨_, rfl⟩; have hd : xg s 0 = ⟨(jg s.pts 0).x, (jg s.pts 0).y, R⟩ := by unfold xg; rw [if_pos h1]; unfold zdw; rw [hR]
  obtain ⟨_, _, _, _, hpp1, hpp2⟩ := HV.out.pt (show 0 < s.pts.length by omega); have HR := Lib.hid hR; clear hR; refine wp_region_lit ?_; refine zy 2 ?_
  refine zw (by first | rfl | simp [Region.wanted, yielded]) rfl Tryz.underlying26 rfl ?_; simp only [zn]; refine zy 1 ?_; refine wpList_nil ?_; go_upto_region 2 with fail
  refine (wpIn_wide (n := n)).1 ?_; refine zak 9 (by kernel_rfl) ?_; simp only [jK, Nat.reduceAdd]; refine zy 8 ?_
  refine qT (enters_of Tryz.func110 (by kernel_rfl) rfl) (c := zet _ s (jg s.pts 0).x (jg s.pts 0).y (jg s.pts 0).p R _ ⟨by omega, hr2⟩ ⟨hpp1, hpp2⟩ HR.out) (h := ?_); rintro e wn ⟨rfl, za⟩; have zf := B.size; have zg := za.size; replace B := B.trans (za.mono B.size)
  (try replace r1 := r1.below za)
  (try replace pc := pc.below za)
  (try replace f3 := f3.below za)
  refine ⟨_, rfl, ?_⟩; simp only [zn]; refine wpList_nil ?_; refine qt.at ?_; try simp only [jK, Nat.reduceAdd]
  replace hJ := HA.out.below HJ0.out B; obtain ⟨fn, tmps, assign, body, hy, hRd⟩ := HY.out (y9 (xf s) 0) ⟨0, by omega⟩ _ hJ (by rw [v7 (by omega)]; omega) (by have e1 := KF.out; have e2 := f3.lt; omega)
  try dsimp only at hy
  rw [hd] at hy; replace hy := hy; have ee : vj.enc ⟨(jg s.pts 0).x, (jg s.pts 0).y, R⟩ = #[.int .i64 (jg s.pts 0).x, .int .i64 (jg s.pts 0).y, .int .i64 R] := rfl; rw [ee] at hy; have ze : 0 < xf s := by omega
  rw [← Ze ze] at hRd; gi_wp2
  refine hRd.mono ?_; rintro e W1 (⟨rfl, hJ1, hkp⟩ | ⟨rfl, hx1⟩)
  ·gi_wp2
   go_wp2; refine bodyPost_ret (results_none rfl _ _ _) rfl ?_; have eF : y9 (xf s) (0 + 1) = List.finRange (xf s) := by rw [show 0 + 1 = xf s by omega]; exact Qq _
   rw [eF] at hJ1; exact ⟨⟨_, rfl⟩, .inl ⟨_, rfl, hJ1⟩⟩
  ·gi_wp2
   go_wp2; refine bodyPost_ret (results_none rfl _ _ _) rfl ?_; exact ⟨⟨_, rfl⟩, .inr ⟨_, ⟨_, rfl⟩, hx1⟩⟩
 ·have q1 : ((s.pts.length : Int) == 1) = false := by simp; omega
  have q1' : (s.pts.length == 1) = false := by simp; omega
  have hc1 : ¬ c = 1 := by omega
  refine wp_region_lit ?_; refine zy 2 ?_
  refine zw (by first | rfl | simp [Region.wanted, yielded]) rfl Tryz.underlying26 rfl ?_; simp only [zn]; refine zy 1 ?_; refine wpList_nil ?_; go_upto_region 3 with fail
  refine wp_region_lit ?_; refine zy 3 ?_
  refine wpList_nil ?_; go_upto_region 4 with fail
  refine wp_region_lit ?_; refine zy 3 ?_
  refine zw (by first | rfl | simp [Region.wanted, yielded]) rfl Tryz.underlying26 rfl ?_; simp only [zn]; refine zy 1 ?_; refine wpList_nil ?_; replace hJ := HA.out.below HJ0.out B; have hsz0 : W0.heap.size < wn.heap.size := by have := f3.lt; omega
  have hbf : b < b_f3 := by have := KF.out; omega
  have hgf : g < b_f3 := by have := KF.out; omega
  clear B hf0; go_wp2; go_loopw [4, 6, 7, 8, 9, 34] (fun lv _ _ _ _ iv wr => ∃ (j k : Nat) (lf : Int), j + 1 ≤ s.pts.length ∧ k ≤ xf s ∧ iv = .int .i64 (j : Int) ∧ lv = .int .i64 lf ∧ Hid (lf = s.pha + k * s.spa - jr s.pts j) ∧ (0 ≤ lf ∧ lf ≤ 5300000) ∧ J (y9 (xf s) k) wr ∧ W0.heap.size < wr.heap.size ∧ zJ 43 wr b_f3 (qQ.enc (jg s.pts j)) ∧ zJ 30 wr b (qR (.slice (some ⟨g, o, none⟩) s.pts.length c) s) ∧ zO qQ g o s.pts wr) (fun _ _ _ _ _ iv _ => (s.pts.length - intOf iv).toNat)
  case atStart => exact ⟨0, 0, s.pha, by omega, by omega, rfl, rfl, Lib.hid (by show s.pha = s.pha + ((0 : Nat) : Int) * s.spa - 0; omega), by omega, hJ, hsz0, f3, r1, pc⟩
  case round =>
   clear hJ hsz0 f3 r1 pc; obtain ⟨j, k, lf, hj, hk, rfl, rfl, HLF, hlf, hJ, hsz0, f3, r1, pc⟩ := hrel; by_cases hjl : j + 1 < s.pts.length
   ·have q2 : decide ((j : Int) < ((s.pts.length - 1 : Nat) : Int)) = true := decide_eq_true (by omega)
    have q2' : decide (j < s.pts.length - 1) = true := decide_eq_true (by omega); have hp1 := jc (l := s.pts) hjl; have A1 := Lib.hid (HV.out.pt (show j < s.pts.length by omega)); have A2 := Lib.hid (HV.out.pt hjl); have HPR := Lib.hid (show jr s.pts (j + 1) = jr s.pts j + yd (jg s.pts j) (jg s.pts (j + 1)) from rfl); have hLb := ZZ A1.out A2.out; have hLn := uK (jg s.pts j) (jg s.pts (j + 1)); have HDK := Lib.hid (fun (k : Nat) h2 h3 => zdy (s := s) (k := k) (j := j) h1 (by omega) h2 h3); obtain ⟨L, hL⟩ : ∃ L, yd (jg s.pts j) (jg s.pts (j + 1)) = L := ⟨_, rfl⟩; rw [hL] at HPR HDK hLb hLn; obtain ⟨x1, hx1⟩ : ∃ x, jg s.pts j = x := ⟨_, rfl⟩; obtain ⟨x2, hx2⟩ : ∃ x, jg s.pts (j + 1) = x := ⟨_, rfl⟩; rw [hx1] at A1 f3 HDK hL; rw [hx2] at A2 hp1 HDK hL; have HX2 := Lib.hid hx2; have HL := Lib.hid hL; clear hx1 hx2 hL; obtain ⟨a1, a2, a3, a4, a5, a6⟩ := A1.out
    obtain ⟨c1, c2, c3, c4, c5, c6⟩ := A2.out; have B := Below.refl wr.heap.size wr; have hr1l := r1.lt; have hpcl := pc.lt; have hf3l := f3.lt; go_upto_region 5 with fail
    refine wp_region_lit ?_; refine zy 1 ?_; refine wpList_nil ?_; go_upto_region 6 with fail
    refine wp_region_lit ?_; refine jp 2 ?_; repeat (first | go_big_quiet_skip | (go_big_quiet_want; first | ((first | refine zo (t := 43) rfl _ _ _ rfl (fun w hw => (jb pc w hw).load Tryz.isAgg43 hp1) (by first | rfl | omega) ?_ | refine qB ?_ | refine qC ?_); simp only [zn]; go_big_quiet_on) | (go_big_quiet_op; go_big_quiet_on)))
    refine wpQuiet_nil ?_
    (refine zu (t := 43) rfl _ (xB _ _ rfl) (z6 B ?_); clear B; intro b_n6 wn zb zd n6 za zf zk B; (try have zh := r1.lt); (try replace r1 := r1.below (za.mono zb)); (try have zh := pc.lt); (try replace pc := pc.below (za.mono zb)); (try have zh := f3.lt); (try replace f3 := f3.below (za.mono zb)); simp only [zn])
    (refine zq (t := 43) rfl _ _ rfl _ rfl _ rfl n6 (by kernel_rfl) rfl (by simp [qQ, Value.oneCell']) (qG B (by omega) ?_); clear n6 B; intro wn n6 ze zf zg B; (try replace r1 := r1.of_eq (ze.block _ r1.lt (by omega))); (try replace pc := pc.of_eq (ze.block _ pc.lt (by omega))); (try replace f3 := f3.of_eq (ze.block _ f3.lt (by omega))); simp only [zn])
    refine wpList_nil ?_; replace n6 : zJ 43 _ b_n6 (qQ.enc x2) := n6; have hnf : b_f3 < b_n6 := by omega
    go_upto_region 7 with fail
    refine wp_region_lit ?_; refine zy 2 ?_
    refine qT (enters_of Tryz.func107 (by kernel_rfl) rfl) (c := XY x1 x2 L _ A1.out A2.out HL.out) (h := ?_); rintro e wn ⟨rfl, za⟩; have zf := B.size; have zg := za.size; replace B := B.trans (za.mono B.size)
    (try replace r1 := r1.below za)
    (try replace pc := pc.below za)
    (try replace f3 := f3.below za)
    (try replace n6 := n6.below za)
    refine ⟨_, rfl, ?_⟩; simp only [zn]; refine zy 1 ?_; refine wpList_nil ?_; replace hJ := HA.out.below hJ B; have hsz1 : W0.heap.size < wn.heap.size := by have := B.size; omega
    clear B hr1l hpcl hf3l; go_wp2; go_loopw [4, 8, 9] (fun lv _ _ wr => ∃ (k : Nat) (lf : Int), k ≤ xf s ∧ lv = .int .i64 lf ∧ Hid (lf = s.pha + k * s.spa - jr s.pts j) ∧ (0 ≤ lf ∧ lf ≤ 5300000) ∧ J (y9 (xf s) k) wr ∧ W0.heap.size < wr.heap.size ∧ zJ 43 wr b_f3 (qQ.enc x1) ∧ zJ 43 wr b_n6 (qQ.enc x2) ∧ zJ 30 wr b (qR (.slice (some ⟨g, o, none⟩) s.pts.length c) s) ∧ zO qQ g o s.pts wr) (fun lv _ _ _ => (L - intOf lv).toNat)
    case atStart => exact ⟨k, lf, hk, rfl, HLF, hlf, hJ, hsz1, f3, n6, r1, pc⟩
    case round =>
     clear hJ hsz0 hsz1 f3 n6 r1 pc hlf HLF hk; obtain ⟨k, lf, hk, rfl, HLF, hlf, hJ, hsz0, f3, n6, r1, pc⟩ := hrel; have B := Below.refl wr.heap.size wr; have hr1l := r1.lt; have hpcl := pc.lt; have hf3l := f3.lt; have hn6l := n6.lt; by_cases zh : lf < L
     ·have q3 : decide (lf < L) = true := decide_eq_true zh
      have hkc : k < xf s := (Vz HV.out h1).2 (by
       have e1 := HLF.out; have e2 := HPR.out; have e3 : jr s.pts (j + 1) ≤ xX s.pts := Jr s.pts (by omega); omega)
      have HD := Lib.hid (show xg s k = zbx s x1 x2 lf L from by
       have e1 := HLF.out; have e2 := HPR.out; have := HDK.out k (by omega) (by omega); rw [this, ← e1])
      obtain ⟨m1, m2⟩ := Xh (M := 5300000) (p := x2.x - x1.x) (q := lf) (by omega) (by omega); obtain ⟨m3, m4⟩ := Xh (M := 5300000) (p := x2.y - x1.y) (q := lf) (by omega) (by omega); obtain ⟨m5, m6⟩ := Xh (M := 5300000) (p := x2.p - x1.p) (q := lf) (by omega) (by omega); obtain ⟨b1, b2⟩ := Zf (a := x1.x) (b := x2.x) hlf.1 zh ⟨a1, a2⟩ ⟨c1, c2⟩; obtain ⟨b3, b4⟩ := Zf (a := x1.y) (b := x2.y) hlf.1 zh ⟨a3, a4⟩ ⟨c3, c4⟩; obtain ⟨b5, b6⟩ := Zf (a := x1.p) (b := x2.p) hlf.1 zh ⟨a5, a6⟩ ⟨c5, c6⟩; obtain ⟨qx, hqx⟩ : ∃ q, qj ((x2.x - x1.x) * lf) L = q := ⟨_, rfl⟩; obtain ⟨qy, hqy⟩ : ∃ q, qj ((x2.y - x1.y) * lf) L = q := ⟨_, rfl⟩; obtain ⟨qp, hqp⟩ : ∃ q, qj ((x2.p - x1.p) * lf) L = q := ⟨_, rfl⟩; rw [hqx] at b1 b2; rw [hqy] at b3 b4; rw [hqp] at b5 b6; obtain ⟨R, hR⟩ : ∃ R, qj (s.rad * (x1.p + qp)) 255 = R := ⟨_, rfl⟩; have HE := Lib.hid (show vj.enc (xg s k) = #[.int .i64 (x1.x + qx), .int .i64 (x1.y + qy), .int .i64 R] from by
       rw [HD.out]; show #[_, _, _] = _
       show #[Value.int .i64 (x1.x + qj ((x2.x - x1.x) * lf) L), .int .i64 (x1.y + qj ((x2.y - x1.y) * lf) L), .int .i64 (qj (s.rad * (x1.p + qj ((x2.p - x1.p) * lf) L)) 255)] = _
       rw [hqx, hqy, hqp, hR])
      have HQX := Lib.hid hqx; have HQY := Lib.hid hqy; have HQP := Lib.hid hqp; have HR := Lib.hid hR; have HN := Lib.hid (show lf + s.spa = s.pha + ((k + 1 : Nat) : Int) * s.spa - jr s.pts j from by rw [zcf, HLF.out]; omega)
      have hbd : lf + s.spa ≤ 5300000 := by
       have e1 := zfe HV.out (show k + 1 ≤ xf s by omega); have e2 := HN.out; have e3 := vo s.pts j; omega
      clear hqx hqy hqp hR; go_upto_region 8 with fail
      refine wp_region_lit ?_; refine zy 3 ?_; refine wpList_nil ?_; go_upto_region 10 with fail
      try have lx_r1 := r1.lt
      try have lx_pc := pc.lt
      try have lx_f3 := f3.lt
      try have lx_n6 := n6.lt
      refine zF 13 [(10, zE ?v1_10)] (by kernel_rfl) (by kernel_rfl) (by kernel_rfl) ?_
      rotate_left 1
      simp only [jK, Nat.reduceAdd]; refine vT 10 ?_
      refine zz (by rfl) (by first | rfl | simp [Region.wanted, yielded]) ?_ ?_
      ·intro wn za hE Kx hKx
       have zf := B.size; have zg := za.size; replace B := B.trans (za.mono B.size)
       (try replace r1 := r1.below za)
       (try replace pc := pc.below za)
       (try replace f3 := f3.below za)
       (try replace n6 := n6.below za)
       refine zG rfl (enters_of Tryz.func68 (by kernel_rfl) rfl) (by simp only [Act.eval, qo]; rfl) ?_
       refine (kJ ((x2.x - x1.x) * lf) L qx wn (by omega) (by omega) (by omega) (by omega) HQX.out).mono ?_; rintro e wm ⟨rfl, zl⟩; refine ⟨_, rfl, ?_⟩; have hz := hKx () wm trivial zl
       dsimp only [zE] at hz
       exact hz
      rintro ⟨⟩
      dsimp only [zE]
      simp only [zn]; refine vT 2 ?_; refine zY ?_; intro wn za hE; have zf := B.size; have zg := za.size; replace B := B.trans (za.mono B.size)
      (try replace r1 := r1.below za)
      (try replace pc := pc.below za)
      (try replace f3 := f3.below za)
      (try replace n6 := n6.below za)
      clear hE; try simp only [List.drop_succ_cons, List.drop_zero]
      refine zN.normal ?_; go_upto_region 11 with fail
      try have lx_r1 := r1.lt
      try have lx_pc := pc.lt
      try have lx_f3 := f3.lt
      try have lx_n6 := n6.lt
      refine zF 13 [(10, zE ?v2_10)] (by kernel_rfl) (by kernel_rfl) (by kernel_rfl) ?_
      rotate_left 1
      simp only [jK, Nat.reduceAdd]; refine vT 10 ?_
      refine zz (by rfl) (by first | rfl | simp [Region.wanted, yielded]) ?_ ?_
      ·intro wn za hE Kx hKx
       have zf := B.size; have zg := za.size; replace B := B.trans (za.mono B.size)
       (try replace r1 := r1.below za)
       (try replace pc := pc.below za)
       (try replace f3 := f3.below za)
       (try replace n6 := n6.below za)
       refine zG rfl (enters_of Tryz.func68 (by kernel_rfl) rfl) (by simp only [Act.eval, qo]; rfl) ?_
       refine (kJ ((x2.y - x1.y) * lf) L qy wn (by omega) (by omega) (by omega) (by omega) HQY.out).mono ?_; rintro e wm ⟨rfl, zl⟩; refine ⟨_, rfl, ?_⟩; have hz := hKx () wm trivial zl
       dsimp only [zE] at hz
       exact hz
      rintro ⟨⟩
      dsimp only [zE]
      simp only [zn]; refine vT 2 ?_; refine zY ?_; intro wn za hE; have zf := B.size; have zg := za.size; replace B := B.trans (za.mono B.size)
      (try replace r1 := r1.below za)
      (try replace pc := pc.below za)
      (try replace f3 := f3.below za)
      (try replace n6 := n6.below za)
      clear hE; try simp only [List.drop_succ_cons, List.drop_zero]
      refine zN.normal ?_; go_upto_region 12 with fail
      refine (wpIn_wide (n := n)).1 ?_; refine wV 17 (by kernel_rfl) (by kernel_rfl) (by kernel_rfl) ?_; simp only [jK, Nat.reduceAdd]; repeat (first | go_big_quiet_skip | (go_big_quiet_want; first | (refine zo (t := 30) rfl _ _ _ rfl (fun w hw => zA (zD r1 w hw) Tryz.isAgg30 (by kernel_rfl)) (by rfl) ?_; simp only [zn]; go_big_quiet_on) | (refine zo (t := 3) rfl _ _ _ rfl (fun w hw => zr (zcH (zD f3 w hw))) (by rfl) ?_; simp only [zn]; go_big_quiet_on) | (refine zo (t := 3) rfl _ _ _ rfl (fun w hw => zr (zcH (zD n6 w hw))) (by rfl) ?_; simp only [zn]; go_big_quiet_on) | (go_big_quiet_op; first | go_big_quiet_on | go_big_quiet_call ((first | (go_at_call 68; exact zX (kJ ((x2.p - x1.p) * lf) L qp _ (by omega) (by omega) (by omega) (by omega) HQP.out)) | (go_at_call 110; exact zX (zet _ s (x1.x + qx) (x1.y + qy) (x1.p + qp) R _ ⟨by omega, hr2⟩ ⟨b5, b6⟩ HR.out)))))))
      refine wpQuiet_nil ?_; intro wn za; have zf := B.size; have zg := za.size; replace B := B.trans (za.mono B.size); (try replace r1 := r1.below za); (try replace pc := pc.below za); (try replace f3 := f3.below za); (try replace n6 := n6.below za)
      replace hJ := HA.out.below hJ B; obtain ⟨fn, tmps, assign, body, hy, hRd⟩ := HY.out (y9 (xf s) k) ⟨k, hkc⟩ _ hJ (by rw [v7 hk]; exact hkc) (by have e1 := B.size; omega)
      try dsimp only at hy
      rw [HE.out] at hy; rw [← Ze hkc] at hRd; gi_wp2
      refine hRd.mono ?_; rintro e W1 (⟨rfl, hJ1, hkp⟩ | ⟨rfl, hx1⟩)
      ·replace r1 := r1.of_eq (hkp.low _ hb hb8 r1.lt)
       replace pc := pc.of_eq (hkp.low _ hg hg8 pc.lt); replace f3 := hkp.pts _ _ f3; replace n6 := hkp.pts _ _ n6; have hsz2 : W0.heap.size < W1.heap.size := by have := hkp.size; have := B.size; omega
       gi_wp2
       clear B hy hRd; have B := Below.refl W1.heap.size W1; go_upto_region 9 with fail
       refine wp_region_lit ?_; refine zy 5 ?_
       refine wpList_nil ?_; go_wp2; go_roundw
       case rel => exact ⟨k + 1, lf + s.spa, by omega, rfl, HN, by omega, hJ1, hsz2, f3, n6, r1, pc⟩
       case measure => simp [intOf]; omega
      ·gi_wp2
       go_wp2; refine bodyPost_ret (results_none rfl _ _ _) rfl ?_; exact ⟨⟨_, rfl⟩, .inr ⟨_, ⟨_, rfl⟩, hx1⟩⟩
     ·have q3 : decide (lf < L) = false := decide_eq_false zh
      have HN := Lib.hid (show lf - L = s.pha + k * s.spa - jr s.pts (j + 1) from by rw [HPR.out, HLF.out]; omega)
      go_upto_region 8 with fail
      refine wp_region_lit ?_; refine zy 3 ?_; refine wpList_nil ?_; go_upto_region 13 with fail
      refine wp_region_lit ?_; refine zy 4 ?_; refine wpList_nil ?_; go_upto_region 14 with fail
      refine wp_region_lit ?_; refine zy 1 ?_
      (refine zq (t := 43) rfl _ _ rfl _ rfl _ rfl f3 (by kernel_rfl) rfl (by simp [qQ, Value.oneCell']) ?_; have f3o := f3; clear f3; intro wn ht ze zg; have zf := B.size; replace zg := Nat.le_of_eq zg.symm; replace hJ := HA.out.chg (t := 43) (cs := qQ.enc x1) hJ (by rw [← KF.out]; exact f3o) rfl (by rw [← KF.out]; exact ze); (try replace r1 := r1.of_eq (ze.block _ r1.lt (by omega))); (try replace pc := pc.of_eq (ze.block _ pc.lt (by omega))); have f3 := ht; clear ht; simp only [zn])
      refine wpList_nil ?_; replace f3 : zJ 43 _ b_f3 (qQ.enc x2) := f3; rw [← HX2.out] at f3; have hsz2 : W0.heap.size < wn.heap.size := by omega
      go_upto_region 15 with fail
      refine wp_region_lit ?_; refine zy 2 ?_; refine wpList_nil ?_; go_wp2; go_roundw
      case rel => exact ⟨j + 1, k, lf - L, by omega, hk, by go_num, rfl, HN, by omega, hJ, hsz2, f3, r1, pc⟩
      case measure => simp [intOf]; omega
   ·have q2 : decide ((j : Int) < ((s.pts.length - 1 : Nat) : Int)) = false := decide_eq_false (by omega)
    have q2' : decide (j < s.pts.length - 1) = false := decide_eq_false (by omega); have hkc : k = xf s := by
     have e1 := HLF.out; have e2 : xX s.pts = jr s.pts j := by unfold xX; rw [show s.pts.length - 1 = j by omega]
     have e3 := Vz HV.out h1 (k := k); omega
    have B := Below.refl wr.heap.size wr; go_upto_region 5 with fail
    refine wp_region_lit ?_; refine zy 1 ?_; refine wpList_nil ?_; go_wp2; go_end0
    have eF : y9 (xf s) k = List.finRange (xf s) := by rw [hkc]; exact Qq _
    rw [eF] at hJ; exact ⟨⟨_, rfl⟩, .inl ⟨_, rfl, hJ⟩⟩
end Go.Proofs.YtepelndbbhdofaaGreatDoor
/- Contracts of AppendSeq, Collect at dabs; of Dabs and Area of package stroke. -/
namespace Go.Proofs.YtepelndbbhdofaaGreatDoor
open Go Go.RowKit Go.Shelf Pl
attribute [local go_sem] Oper.semAt_some
set_option linter.unusedVariables false
set_option linter.unusedSimpArgs false
set_option maxRecDepth 20000
section
variable {α : Type} {k : Nat} {T ST : TypeId} {E : Q3 α k T ST} {ops : Array Oper} {rest : List Oper} {o : Oper} {a : Act} {w : World} {Q : Exit → Act → World → Prop}
/-- A slice appended to a row of the call's own: nothing else of old has turned. -/
theorem wt (hg : o.guard = none) (s x : Operand) (ho : o.op = .call { callee := .builtin .append, args := #[s, x], argTypes := #[ST, ST] }) (v u : Value) (hs : a.eval s = v) (hx : a.eval x = u) {B : Nat} {ls ks : List α} (hown : qE E B v ls w) (hu : j9 E u ks w) (hlen : ls.length + ks.length ≤ 100000000) (hB : B ≤ w.heap.size)
  (h : ∀ v' w', qE E B v' (ls ++ ks) w' → w.grownBy w' v.ownBlock → wpList Tryz.prog ops Q rest (a.put o.dst v') w') : wpList Tryz.prog ops Q (o :: rest) a w := by
 obtain ⟨i, z, hi, hz, zf, hby, hzc⟩ := E.facts
 have hzs : z.cells.size = k := by rw [hzc, E.size]
 rcases hu with ⟨rfl, rfl⟩ | ⟨g, of, c, rfl, hc, sc⟩ | ⟨ad, c, rfl, rfl⟩
 ·refine wpList_append_own_none (P := Tryz.prog) hg s x ST ho B T i k E.und hi v ls.length (j5 E ls) hs hown hx ?_
  exact h v w (by rw [List.append_nil]; exact hown) ⟨rfl, rfl, rfl, Nat.le_refl _, fun _ _ _ => rfl⟩
 ·refine wpList_append_own (P := Tryz.prog) w hg s x ST ho B T i z k E.bytes E.und hi hz zf hby hzs E.pos v ls.length (j5 E ls) hs hown ⟨g, of, none⟩ ks.length c (j5 E ks) hx (xr E ks) ?_ (uU E ks) (by unfold maxLen; omega) ?_ hB ?_
  ·intro j u hu
   have hj : j < ks.length * k := by rw [← xr E]; exact (List.getElem?_eq_some_iff.1 hu).1
   have e : (⟨g, of, none⟩ : Addr).add j = ⟨g, of + j, none⟩ := by unfold Addr.add; split <;> simp_all
   rw [e]; have hk : 0 < ks.length := by
    rcases Nat.eq_zero_or_pos ks.length with h0 | h0
    ·rw [h0, Nat.zero_mul] at hj; omega
    ·exact h0
   exact (sc hk).row j u hu
  ·have := Nat.mul_le_mul hlen E.small
   omega
  ·intro v' w' h1 h2 h3
   refine h v' w' ?_ h2; unfold qE; rw [Zz, List.length_append]; exact h1
 ·refine wpList_append_own (P := Tryz.prog) w hg s x ST ho B T i z k E.bytes E.und hi hz zf hby hzs E.pos v ls.length (j5 E ls) hs hown ad 0 c [] hx (by simp) ?_ (by simp) (by unfold maxLen; simp only [List.length_nil] at hlen; omega) ?_ hB ?_
  ·intro j u hu
   simp at hu
  ·have := Nat.mul_le_mul hlen E.small
   simp only [List.length_nil] at this; omega
  ·intro v' w' h1 h2 h3
   refine h v' w' ?_ h2; unfold qE; rw [List.append_nil]; rw [List.append_nil] at h1; exact h1
/-- The own row abides what turns other blocks. -/
theorem qE.grown {E : Q3 α k T ST} {B : Nat} {v : Value} {ls : List α} {A A' : World} {row : Option Nat} (h : qE E B v ls A) (hg : A.grownBy A' row) (hr : ∀ r, row = some r → r < B ∨ ∃ o : Obj, A.heap[r]? = some o ∧ o.isCells = false) : qE E B v ls A' := by
 refine World.ownsRow.kept (row := row) h hg ?_
 cases hv : v.ownBlock with
 | none => exact .inl rfl
 | some b =>
  right
  intro e; have hb := World.ownsRow.lt h b hv; obtain ⟨_, h2⟩ := h; rcases h2 with ⟨rfl, _⟩ | ⟨g, cap, cur, rfl, _, hgc, _⟩
  ·cases hv
  ·have hgb : g = b := by simpa [Value.ownBlock] using hv
   subst hgb; rcases hr g e.symm with k | ⟨o, ho, hc⟩
   ·omega
   ·rw [hgc] at ho
    cases ho
    cases hc
theorem qE.block {E : Q3 α k T ST} {B : Nat} {v : Value} {ls : List α} {A : World} (h : qE E B v ls A) {b : Nat} (hb : v.ownBlock = some b) : ∃ cs, zJ T A b cs := by
 obtain ⟨_, h2⟩ := h
 rcases h2 with ⟨rfl, _⟩ | ⟨g, cap, cur, rfl, _, hgc, _⟩
 ·cases hb
 ·have hgb : g = b := by simpa [Value.ownBlock] using hb
  subst hgb; exact ⟨cur, hgc⟩
end
theorem zJ.grown {t : TypeId} {A A' : World} {b : Nat} {cs : Array Value} {row : Option Nat} (h : zJ t A b cs) (hg : A.grownBy A' row) (hr : row ≠ some b) : zJ t A' b cs := (hg.block b h.lt (fun e => hr e.symm)).trans h
theorem u7.grownT {n0 c : Nat} {W W' : World} {row : Option Nat} (hg : W.grownBy W' row) (hr : ∀ r, row = some r → n0 ≤ r ∧ ∃ t cs, zJ t W r cs ∧ t ≠ 43) : u7 n0 c W W' :=
 ⟨hg.size, fun k hk _ hl => hg.block k hl (fun e => by have := (hr k e.symm).1; omega), fun k cs hk => hk.grown hg (fun e => by
  obtain ⟨_, t, ds, hd, ht⟩ := hr k e; have := (show W.heap[k]? = _ from hk).symm.trans hd
  injection this with this
  injection this with _ e' _
  exact ht e'.symm)⟩
theorem KeepsOthers.below {W W' : World} (h : Below W.heap.size W W') : KeepsOthers W W' := ⟨h.size, fun k o hk _ => (h.block k (Array.getElem?_eq_some_iff.1 hk).1).trans hk⟩
theorem Qo (s : qS) : (List.finRange (xf s)).map (fun i => xg s i.val) = xO s := by
 unfold xO
 refine List.ext_getElem (by simp) fun i h1 h2 => ?_
 simp
theorem ua {w : World} {b j : Nat} {v : Value} (h : w.cell? ⟨b, j, none⟩ = some v) : (Instr.loadAt 35 (.pointer (some ⟨b, j, none⟩))).run Tryz.prog w = .ok v w := by
 simp [go_sem, h]
/-- A slice stored into its own cell. -/
theorem Kc {v : Value} {ops : Array Oper} {rest : List Oper} {o : Oper} {a : Act} {w : World} {Q : Exit → Act → World → Prop} (hg : o.guard = none) (x y : Operand) (ho : o.op = .store 35 x y) (b : Nat) (hx : a.eval x = .pointer (some ⟨b, 0, none⟩)) (a' : Option Addr) (n' c' : Nat) (hy : a.eval y = .slice a' n' c') (ht : zJ 35 w b #[v])
  (h : ∀ w', zJ 35 w' b #[.slice a' n' c'] → qV b w w' → w'.heap.size = w.heap.size → wpList Tryz.prog ops Q rest (a.put o.dst undef) w') : wpList Tryz.prog ops Q (o :: rest) a w := by
 have c0 := ht.cell 0 rfl
 have f0 := ht.frozen 0
 refine z8 hg x y ho (w.setCell ⟨b, 0, none⟩ (.slice a' n' c')) ?_ (h _ ?_ ((qV.refl b w).setCell _) (by simp only [World.size_setCell]))
 ·rw [hx, hy]
  simp [go_sem, c0, f0]
 ·exact heap_setCell_same w b 0 #[v] _ _ ht
set_option maxHeartbeats 4000000 in
theorem XM (s : qS) (hv : JW s) (g o c b : Nat) (w : World) (r1 : zJ 30 w b (qR (.slice (some ⟨g, o, none⟩) s.pts.length c) s)) (hcap : s.pts.length ≤ c) (pc : zO qQ g o s.pts w) : Calls Tryz.prog 108 #[.slice none 0 0, .func (.func 109) #[] #[.pointer (some ⟨b, 0, none⟩)]] w fun e w' => ∃ a cp, e = .returned (.slice a (xO s).length cp) ∧ qE vj w.heap.size (.slice a (xO s).length cp) (xO s) w' ∧ Below w.heap.size w w' := by
 have B := Below.refl w.heap.size w
 have HV := Lib.hid hv
 have ze := KC hv
 have hb := r1.lt
 have hg0 := pc.lt
 clear hv
 refine (callsIn_wide (n := 3)).1 ?_
 refine callsIn_of_wp_marks Tryz.func108 rfl trivial ?_ rfl
 simp only [Tryz.ntmps108, List.size_toArray, List.length_cons, List.length_nil, Nat.reduceAdd, Nat.reduceSub, Array.replicate_succ, Array.replicate_zero, List.push_toArray, List.append_toArray, List.nil_append, List.cons_append]
 refine wpIn_wide.2 ?_
 go_upto_region 0 with fail
 refine wp_region_lit ?_
 (refine Y7 (t := 35) rfl _ rfl (.slice none 0 0) rfl (by simp [Value.cells]) (z6 B ?_); clear B; intro b_r2 wn zb zd r2 za zf zk B; (try have zh := r1.lt); (try replace r1 := r1.below (za.mono zb)); (try have zh := pc.lt); (try replace pc := pc.below (za.mono zb)); simp only [zn])
 refine zy 1 ?_
 refine wpList_nil ?_
 have k2 : w.heap.size ≤ b_r2 := by omega
 have k3 := r2.lt
 go_upto_region 1 with fail
 refine wp_region_lit ?_
 refine zy 1 ?_
 refine wpList_nil ?_
 obtain ⟨w1, hw1⟩ : ∃ w1, w1 = wn := ⟨_, rfl⟩
 rw [← hw1] at B r1 pc r2 k3 ⊢
 clear hw1
 obtain ⟨b0, hb0⟩ : ∃ b0, b0 = w1.heap.size + 3 := ⟨_, rfl⟩
 have HB0 := Lib.hid hb0
 clear hb0
 go_wp2
 refine (wpIn_wide (n := 3)).1 ?_
 refine Zy (F := Fence.wide) rfl (by omega) (gf := 109) (lb := #[.pointer (some ⟨b, 0, none⟩)]) rfl trivial (enters_of Tryz.func109 (by kernel_rfl) rfl) (QU s HV.out g o c b b_r2 w.heap.size _ (by omega) _ r1 hcap pc hb (by omega) hg0 (by omega) B.size) (fun h k => u7.trans h k) (fun W l o o' hl ho hc _ => u7.putObj W l o o' (by omega) ho hc) (fun A B h => u7.below h) (Below.refl _ _) (fun _ => rfl)
  (fun pre W => ∃ (ad : Option Addr) (cp : Nat), zJ 35 W b_r2 #[.slice ad pre.length cp] ∧ qE vj b0 (.slice ad pre.length cp) (pre.map fun i => xg s i.val) W ∧ Below w.heap.size w W)
  (fun pre W W' row hI hg hr => ?own)
  ⟨none, 0, r2, qE.nil _ _, B⟩
  (fun x a' W => ∃ b5 : Nat, a'.defers = [] ∧ a'.tmps.size = 13 ∧ a'.tmps.getD 2 undef = .pointer (some ⟨b_r2, 0, none⟩) ∧ a'.tmps.getD 5 undef = .pointer (some ⟨b5, 0, none⟩) ∧ zJ 45 W b5 (vj.enc (xg s x.val)) ∧ b_r2 < b5 ∧ b0 ≤ W.heap.size)
  (fun x a' W W' row hA hg hr => ?own2) ?assign ?body ?done
 case own =>
  obtain ⟨ad, cp, h1, h2, h3⟩ := hI; have hsz1 := B.size; have hb0 := HB0.out; refine ⟨ad, cp, h1.grown hg (fun e => ?_), h2.grown hg (fun r e => ?_), kN h3 h3.size hg (fun r e => Nat.le_trans hsz1 (hr r e).1)⟩
  ·have := (hr _ e).1
   rcases (hr _ e).2 with ⟨ob, ho, hc⟩ | ⟨h5, _⟩
   ·rw [show W.heap[b_r2]? = _ from h1] at ho
    cases ho
    cases hc
   ·omega
  ·rcases (hr r e).2 with h5 | ⟨h5, _⟩
   ·exact .inr h5
   ·exact .inl (by omega)
 case own2 =>
  obtain ⟨b5, e1, e2, e3, e4, h1, h2, h3⟩ := hA; exact ⟨b5, e1, e2, e3, e4, h1.own hg (fun r e => (hr r e).2), h2, Nat.le_trans h3 hg.size⟩
 case assign =>
  intro l pre x W K ⟨_, _, hl8, _⟩ hbig hK; have hb0 := HB0.out; have B := Below.refl W.heap.size W; have hl := hl8.lt; obtain ⟨⟨X, Y, R⟩, hxy⟩ : ∃ p, xg s x.val = p := ⟨_, rfl⟩; rw [hxy] at hK; rw [hxy]
  dsimp only
  refine XK ?_; simp only [List.setIfInBounds_toArray, List.set_cons_succ, List.set_cons_zero]; refine zB (by kernel_rfl) ?_
  (refine zu (t := 45) rfl _ (yX _ _ rfl) (z6 B ?_); clear B; intro b_d5 wn zb zd d5 za zf zk B; simp only [zn])
  (refine zq (t := 45) rfl _ _ rfl _ rfl _ rfl d5 (by kernel_rfl) rfl (by simp [vj, Value.oneCell']) (qG B (by omega) ?_); clear d5 B; intro wn d5 ze zf zg B; simp only [zn])
  refine wpList_nil ?_; refine qt.at ?_; refine hK _ _ B ⟨_, rfl, rfl, rfl, rfl, d5, by omega, by have := B.size; omega⟩
 case body =>
  rintro l pre x W ⟨tm, df⟩ ⟨ad, cp, r2, od, BW⟩ ⟨b5, e1, e2, e3, e4, d5, k10, kb0⟩ hpre; obtain ⟨U, hU, hUi⟩ := Kv tm 13 e2; rw [← hUi] at e3 e4; have eL : ((List.range 13).map U).toArray = #[U 0, U 1, U 2, U 3, U 4, U 5, U 6, U 7, U 8, U 9, U 10, U 11, U 12] := rfl; rw [eL] at hU; rw [e3, e4] at hU; subst hU; have e1 : df = [] := e1; subst e1; clear e2 e3 e4 hUi eL; have hb0 := HB0.out; have hpl : (pre.map fun i => xg s i.val).length = pre.length := List.length_map _; have B := Below.refl W.heap.size W; have R2 := Lib.hid r2; have hws := BW.size; have r2lt := r2.lt; have d5lt := d5.lt; clear hb0; gi_upto_region 3 with fail
  refine zB (by kernel_rfl) ?_; refine jp 2 ?_
  repeat (first | go_big_quiet_skip | (go_big_quiet_want; first | ((first | refine zo (t := 35) rfl _ _ _ rfl (fun w hw => ua ((zD r2 w hw).cellL 0 rfl)) (by rfl) ?_ | refine qB ?_ | refine qC ?_); simp only [zn]; go_big_quiet_on) | (go_big_quiet_op; go_big_quiet_on)))
  refine wpQuiet_nil ?_
  (refine wu (E := vj) rfl _ rfl (xg s x.val) rfl (by omega) (z6 B ?_); clear B; intro b_t10 wn zb zd t10 za zf zk B; replace od := od.below (za.mono zb); (try have zh := r2.lt); (try replace r2 := r2.below (za.mono zb)); (try have zh := d5.lt); simp only [zn])
  (at_builtin; refine wt rfl _ _ rfl _ _ rfl rfl od (j9.one t10) (by rw [hpl]; simp only [List.length_cons, List.length_nil]; omega) (by omega) ?_; intro v_od wm od2 hgr; simp only [zn])
  have K1 : u7 w.heap.size b_r2 W wn := u7.below B; have O1 : KeepsOthers W wn := KeepsOthers.below B; have hown : ∀ r, (Value.slice ad pre.length cp).ownBlock = some r → w.heap.size ≤ r ∧ ∃ t cs, zJ t wn r cs ∧ t ≠ 43 ∧ r ≠ b_r2 := fun r e => by
   have h1 := (World.ownsRow.lt od r e); obtain ⟨cs, hcs⟩ := od.block e; have hbb := HB0.out; exact ⟨by omega, _, cs, hcs, by decide, by omega⟩
  have K2 := K1.trans (u7.grownT (c := b_r2) hgr (fun r e => by obtain ⟨h1, t, cs, h2, h3, _⟩ := hown r e; exact ⟨h1, t, cs, h2, h3⟩))
  have O2 := O1.trans (KeepsOthers.of_grownBy hgr (fun j o e ho => by
   obtain ⟨_, t, cs, h2, _⟩ := hown j e; rw [show wn.heap[j]? = _ from h2] at ho; cases ho
   rfl))
  have r2m := r2.grown hgr (fun e => by obtain ⟨_, _, _, _, _, h4⟩ := hown _ e; exact h4 rfl)
  have BW2 := (BW.trans (B.mono hws)).grown hgr (by have := B.size; omega) (fun k e => (hown k e).1)
  have hlen2 : ((pre ++ [x]).map fun i => xg s i.val) = (pre.map fun i => xg s i.val) ++ [xg s x.val] := by rw [List.map_append]; rfl
  rw [← hlen2] at od2; obtain ⟨a_od, c_od, hv, hco⟩ := od2.len; rw [List.length_map] at hv; subst hv; refine Kc rfl _ _ rfl _ rfl _ _ _ rfl r2m ?_; intro wz r2z hcz hsz2; refine wpList_nil ?_; refine qt.at ?_; try dsimp only
  have hb1 : b_r2 < b0 := by have := HB0.out; omega
  refine ⟨O2.trans (KeepsOthers.chgB hcz r2m), K2.trans (u7.exc (Nat.le_of_eq hsz2.symm) (fun k h1 h2 => hcz.block k h1 h2) r2m (by decide)), a_od, c_od, r2z, od2.chg hcz hb1, ?_⟩; exact qV.below BW2 hcz (by omega) BW2.size
 case done =>
  have hszB := B.size; rintro D xs W hD rfl ⟨ad, cp, r2, od, BW⟩ hDD; have kd : yE W D := hDD; rw [Qo, List.length_finRange] at od; rw [List.length_finRange] at r2; have rs := od.rs; have hwD : w.heap.size ≤ D := by omega
  have B := BW; go_upto_region 4 with fail
  refine wp_region_lit ?_; refine jp 2 ?_; repeat (first | go_big_quiet_skip | (go_big_quiet_want; first | ((first | refine zo (t := 35) rfl _ _ _ rfl (fun w hw => ua ((zD r2 w hw).cellL 0 rfl)) (by rfl) ?_ | refine qB ?_ | refine qC ?_); simp only [zn]; go_big_quiet_on) | (go_big_quiet_op; go_big_quiet_on)))
  refine wpQuiet_nil ?_; refine wpList_nil ?_; go_wp2; refine ⟨by simp, .inl ⟨_, _, rfl, run_takeDeferred kd, ?_⟩⟩; have BF := B.trans (belowK_b (w := w) (Nat.le_refl _) W D _ (.deferred none) hwD kd rfl rfl); refine ⟨.slice ad (xf s) cp, by simp [results, Tryz.results108, go_sem]; try rfl, ?_⟩
  rw [Jj]; exact ⟨ad, cp, rfl, (od.grown (grownBy_putObj' _ _ _) (fun r e => by cases e; exact .inr ⟨_, kd, rfl⟩)).mono (by have := HB0.out; omega), BF⟩
end Go.Proofs.YtepelndbbhdofaaGreatDoor
