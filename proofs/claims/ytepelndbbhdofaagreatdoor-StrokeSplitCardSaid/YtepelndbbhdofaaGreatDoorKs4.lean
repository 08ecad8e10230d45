import Derived.Test.YtepelndbbhdofaaGreatDoorKs3
import Derived.Laws.IdiomStrings

/- Contracts of dab, square, Cover of package stroke and of its reference; of limits, Intersect of the references. -/
namespace Go.Proofs.YtepelndbbhdofaaGreatDoor
open Go.RowKit Go.Shelf Pl
set_option linter.unusedVariables false
set_option linter.unusedSimpArgs false
set_option maxRecDepth 20000
set_option maxHeartbeats 1000000 in
theorem zdS (v : Value) (s : qv) (x y z q : Int) (w : World) (hr : 0 ≤ s.rad ∧ s.rad ≤ 256) (hz : 0 ≤ z ∧ z ≤ 255) (e : qf (s.rad * z) 255 = q) : Calls Tryz.prog 110 #[.agg (qw v s), .int .i64 x, .int .i64 y, .int .i64 z] w fun e w' => e = .returned (.agg #[.int .i64 x, .int .i64 y, .int .i64 q]) ∧ Below w.heap.size w w' := by
 have B := Below.refl w.heap.size w
 have m := jL (m := 256) (k := 255) hr.1 hr.2 hz.1 hz.2
 have E := Lib.hid e
 clear e
 go_enter Tryz.func110, Tryz.ntmps110
 go_upto_region 0 with fail
 refine wp_region_lit ?_
 (refine zt (t := 30) rfl _ rfl _ rfl (zV B ?_); clear B; intro b_r4 wn zb zd r4 za zf zk B; simp only [zn])
 (refine zr (t := 45) rfl _ (yM _ _ rfl) (zV B ?_); clear B; intro b_d8 wn zb zd d8 za zf zk B; (try have zh := r4.lt); (try replace r4 := r4.below (za.mono zb)); simp only [zn])
 refine wpList_nil ?_
 go_upto_region 1 with fail
 refine wp_region_lit ?_
 refine zx 6 ?_
 refine qE (enters_of Tryz.func68 (by kernel_rfl) rfl) (c := kq (s.rad * z) 255 q _ (by omega) (by omega) (by omega) (by omega) E.out) (h := ?_)
 rintro e wn ⟨rfl, za⟩
 have zf := B.size
 have zg := za.size
 replace B := B.trans (za.mono B.size)
 (try replace d8 := d8.below za)
 refine ⟨_, rfl, ?_⟩
 simp only [zn]
 refine zx 1 ?_
 (refine zp (t := 45) rfl _ _ rfl _ rfl _ rfl d8 (by kernel_rfl) rfl (by simp [jV, Value.oneCell']) (qt B (by omega) ?_); clear d8 B; intro wn d8 ze zf zg B; simp only [zn])
 refine wpList_nil ?_
 first | (refine bodyPost_ret (zv (t := 45) rfl _ _ (b_d8) rfl d8 Tryz.isAgg45 (by kernel_rfl)) rfl ?_) | (go_step; refine bodyPost_ret (zv (t := 45) rfl _ _ (b_d8) rfl d8 Tryz.isAgg45 (by kernel_rfl)) rfl ?_) | (go_step; go_step; refine bodyPost_ret (zv (t := 45) rfl _ _ (b_d8) rfl d8 Tryz.isAgg45 (by kernel_rfl)) rfl ?_) | (go_step; go_step; go_step; refine bodyPost_ret (zv (t := 45) rfl _ _ (b_d8) rfl d8 Tryz.isAgg45 (by kernel_rfl)) rfl ?_) | (go_step; go_step; go_step; go_step; refine bodyPost_ret (zv (t := 45) rfl _ _ (b_d8) rfl d8 Tryz.isAgg45 (by kernel_rfl)) rfl ?_) | (go_step; go_step; go_step; go_step; go_step; refine bodyPost_ret (zv (t := 45) rfl _ _ (b_d8) rfl d8 Tryz.isAgg45 (by kernel_rfl)) rfl ?_)
 exact ⟨rfl, B⟩
set_option maxHeartbeats 2000000 in
theorem ys (d : Db) (r : Rc) (w : World) (hx : -1000000000000 ≤ d.x ∧ d.x ≤ 1000000000000) (hy : -1000000000000 ≤ d.y ∧ d.y ≤ 1000000000000) (hr : -1000000000000 ≤ d.r ∧ d.r ≤ 1000000000000) (e : kX d = r) : Calls Tryz.prog 62 #[.agg (kx.enc d)] w fun e w' => e = .returned (.agg (jV r)) ∧ Below w.heap.size w w' := by
 have B := Below.refl w.heap.size w
 obtain ⟨q1, h1⟩ : ∃ q, (d.x - d.r) / 16 = q := ⟨_, rfl⟩
 obtain ⟨q2, h2⟩ : ∃ q, (d.y - d.r) / 16 = q := ⟨_, rfl⟩
 obtain ⟨q3, h3⟩ : ∃ q, (d.x + d.r) / 16 = q := ⟨_, rfl⟩
 obtain ⟨q4, h4⟩ : ∃ q, (d.y + d.r) / 16 = q := ⟨_, rfl⟩
 obtain rfl : r = ⟨q1, q2, q3 + 1, q4 + 1⟩ := by rw [← e]; unfold kX; rw [h1, h2, h3, h4]
 have b3 : -1000000000000 ≤ q3 ∧ q3 ≤ 1000000000000 := by omega
 have b4 : -1000000000000 ≤ q4 ∧ q4 ≤ 1000000000000 := by omega
 have H1 := Lib.hid h1
 have H2 := Lib.hid h2
 have H3 := Lib.hid h3
 have H4 := Lib.hid h4
 clear e h1 h2 h3 h4
 go_enter Tryz.func62, Tryz.ntmps62
 go_upto_region 0 with fail
 refine wp_region_lit ?_
 (refine zt (t := 45) rfl _ rfl _ rfl (zV B ?_); clear B; intro b_d1 wn zb zd d1 za zf zk B; simp only [zn])
 (refine zr (t := 38) rfl _ (zY _ _ rfl) (zV B ?_); clear B; intro b_r2 wn zb zd r2 za zf zk B; (try have zh := d1.lt); (try replace d1 := d1.below (za.mono zb)); simp only [zn])
 refine wpList_nil ?_
 go_upto_region 1 with fail
 try have lx_d1 := d1.lt
 try have lx_r2 := r2.lt
 refine zL 27 [(5, zP ?v1_5), (11, zP ?v1_11), (17, zP ?v1_17), (24, zP ?v1_24)] (by kernel_rfl) (by kernel_rfl) (by kernel_rfl) ?_
 rotate_left 4
 simp only [jU, Nat.reduceAdd]
 refine vC 5 ?_
 refine zz (by rfl) (by first | rfl | simp [Region.wanted, yielded]) ?_ ?_
 ·intro wn za hE Kx hKx
  have zf := B.size; have zg := za.size; replace B := B.trans (za.mono B.size)
  (try replace d1 := d1.below za)
  (try replace r2 := r2.below za)
  refine zS rfl (enters_of Tryz.func111 (by kernel_rfl) rfl) (by simp only [Act.eval, qI]; rfl) ?_
  refine (vD (d.x - d.r) 16 q1 wn (by omega) (by omega) (by omega) (by omega) H1.out).mono ?_; rintro e wm ⟨rfl, zl⟩; refine ⟨_, rfl, ?_⟩; have hz := hKx () wm trivial zl
  dsimp only [zP] at hz
  exact hz
 rintro ⟨⟩
 dsimp only [zP]
 simp only [zn]
 refine vC 5 ?_
 refine zz (by rfl) (by first | rfl | simp [Region.wanted, yielded]) ?_ ?_
 ·intro wn za hE Kx hKx
  have zf := B.size; have zg := za.size; replace B := B.trans (za.mono B.size)
  (try replace d1 := d1.below za)
  (try replace r2 := r2.below za)
  refine zS rfl (enters_of Tryz.func111 (by kernel_rfl) rfl) (by simp only [Act.eval, qI]; rfl) ?_
  refine (vD (d.y - d.r) 16 q2 wn (by omega) (by omega) (by omega) (by omega) H2.out).mono ?_; rintro e wm ⟨rfl, zl⟩; refine ⟨_, rfl, ?_⟩; have hz := hKx () wm trivial zl
  dsimp only [zP] at hz
  exact hz
 rintro ⟨⟩
 dsimp only [zP]
 simp only [zn]
 refine vC 5 ?_
 refine zz (by rfl) (by first | rfl | simp [Region.wanted, yielded]) ?_ ?_
 ·intro wn za hE Kx hKx
  have zf := B.size; have zg := za.size; replace B := B.trans (za.mono B.size)
  (try replace d1 := d1.below za)
  (try replace r2 := r2.below za)
  refine zS rfl (enters_of Tryz.func111 (by kernel_rfl) rfl) (by simp only [Act.eval, qI]; rfl) ?_
  refine (vD (d.x + d.r) 16 q3 wn (by omega) (by omega) (by omega) (by omega) H3.out).mono ?_; rintro e wm ⟨rfl, zl⟩; refine ⟨_, rfl, ?_⟩; have hz := hKx () wm trivial zl
  dsimp only [zP] at hz
  exact hz
 rintro ⟨⟩
 dsimp only [zP]
 simp only [zn]
 refine vC 6 ?_
 refine zz (by rfl) (by first | rfl | simp [Region.wanted, yielded]) ?_ ?_
 ·intro wn za hE Kx hKx
  have zf := B.size; have zg := za.size; replace B := B.trans (za.mono B.size)
  (try replace r2 := r2.below za)
  refine zS rfl (enters_of Tryz.func111 (by kernel_rfl) rfl) (by simp only [Act.eval, qI]; rfl) ?_
  refine (vD (d.y + d.r) 16 q4 wn (by omega) (by omega) (by omega) (by omega) H4.out).mono ?_; rintro e wm ⟨rfl, zl⟩; refine ⟨_, rfl, ?_⟩; have hz := hKx () wm trivial zl
  dsimp only [zP] at hz
  exact hz
 rintro ⟨⟩
 dsimp only [zP]
 simp only [zn]
 refine vC 2 ?_
 refine qz ?_
 intro wn za hE
 have zf := B.size
 have zg := za.size
 replace B := B.trans (za.mono B.size)
 (try replace r2 := r2.below za)
 clear hE
 try simp only [List.drop_succ_cons, List.drop_zero]
 go_wp2_with (first | (refine zp (t := 38) rfl _ _ rfl _ rfl _ rfl r2 (by kernel_rfl) rfl (by simp [jV, Value.oneCell']) (qt B (by omega) ?_); clear r2 B; intro wn r2 ze zf zg B; simp only [zn]) | fail)
 refine zQ.normal ?_
 first | (refine bodyPost_ret (zv (t := 38) rfl _ _ (b_r2) rfl r2 Tryz.isAgg38 (by kernel_rfl)) rfl ?_) | (go_step; refine bodyPost_ret (zv (t := 38) rfl _ _ (b_r2) rfl r2 Tryz.isAgg38 (by kernel_rfl)) rfl ?_) | (go_step; go_step; refine bodyPost_ret (zv (t := 38) rfl _ _ (b_r2) rfl r2 Tryz.isAgg38 (by kernel_rfl)) rfl ?_) | (go_step; go_step; go_step; refine bodyPost_ret (zv (t := 38) rfl _ _ (b_r2) rfl r2 Tryz.isAgg38 (by kernel_rfl)) rfl ?_) | (go_step; go_step; go_step; go_step; refine bodyPost_ret (zv (t := 38) rfl _ _ (b_r2) rfl r2 Tryz.isAgg38 (by kernel_rfl)) rfl ?_) | (go_step; go_step; go_step; go_step; go_step; refine bodyPost_ret (zv (t := 38) rfl _ _ (b_r2) rfl r2 Tryz.isAgg38 (by kernel_rfl)) rfl ?_)
 exact ⟨rfl, B⟩
theorem Xr (r s : Rc) (q : Rc) (w : World) (e : kP r s = q) : Calls Tryz.prog 46 #[.agg (jV r), .agg (jV s)] w fun e w' => e = .returned (.agg (jV q)) ∧ Below w.heap.size w w' := e ▸ Xs r s w
theorem zaG (r s q : Rc) (w : World) (e : xy r s = q) : Calls Tryz.prog 61 #[.agg (jV r), .agg (jV s)] w fun e w' => e = .returned (.agg (jV q)) ∧ Below w.heap.size w w' := e ▸ zcE r s w
/-! ### Cover -/
theorem Yy {d : Db} {x y n : Int} {i j k : Nat} {b : Bool} {σ : Nat → Nat × Nat} (hs : ub d x y σ k = n) (hσ : σ k = (i, j)) (hh : ZA d x y i j = b) : ub d x y σ (k + 1) = if b = true then n + 1 else n := by
 show ub d x y σ k + (if ZA d x y (σ k).1 (σ k).2 = true then 1 else 0) = _
 rw [hσ]
 dsimp only
 rw [hh, hs]
 cases b
 ·show n + 0 = n; omega
 ·rfl
def σP : Nat → Nat × Nat := fun k => (k / 4, k % 4)
def σR : Nat → Nat × Nat := fun k => (k % 4, k / 4)
theorem zcW {d : Db} {x y n : Int} (h : WB d = true) (e : vr d x y = n) : qf (255 * KJ d x y) 16 = n := by
 unfold vr at e
 rw [if_pos h] at e
 exact e
theorem ZL {d : Db} (h : d.r < 1 ∨ 256 < d.r ∨ wF d.x = false ∨ wF d.y = false) (x y : Int) : vr d x y = 0 := by
 unfold vr
 rw [if_neg]
 intro k
 unfold WB at k
 rw [Bool.and_eq_true, Bool.and_eq_true, decide_eq_true_iff] at k
 rcases h with h | h | h | h
 ·omega
 ·omega
 ·rw [k.2.1] at h; cases h
 ·rw [k.2.2] at h; cases h
theorem zbG {d : Db} (h1 : ¬ d.r < 1) (h2 : ¬ 256 < d.r) (h3 : wF d.x = true) (h4 : wF d.y = true) : WB d = true := by
 unfold WB
 rw [decide_eq_true (by omega), h3, h4]
 rfl
theorem zbo {x : Int} (h : wF x = true) : -1048576 ≤ x ∧ x ≤ 1048575 := of_decide_eq_true h
/-- Where a pixel of the square lies. -/
theorem zcg {d : Db} {x y : Int} (h : js (kX d) x y = true) (hr : 1 ≤ d.r ∧ d.r ≤ 256) : (-300 ≤ 16 * x - d.x ∧ 16 * x - d.x ≤ 300) ∧ (-300 ≤ 16 * y - d.y ∧ 16 * y - d.y ≤ 300) := by
 have h := (jx _ _ _).1 h
 unfold kX at h
 simp only at h
 omega
theorem KX (r : Rc) (x y : Int) (b : Bool) (w : World) (e : js r x y = b) : Calls Tryz.prog 25 #[.agg (jV r), .agg #[.int .i64 x, .int .i64 y]] w fun e w' => e = .returned (.bool b) ∧ Below w.heap.size w w' := e ▸ KW r x y w
set_option maxHeartbeats 4000000 in
theorem KV (d : Db) (x y n : Int) (w : World) (hx : -1000000000000 ≤ d.x ∧ d.x ≤ 1000000000000) (hy : -1000000000000 ≤ d.y ∧ d.y ≤ 1000000000000) (hr : -1000000000000 ≤ d.r ∧ d.r ≤ 1000000000000) (e : vr d x y = n) : Calls Tryz.prog 24 #[.agg (kx.enc d), .int .i64 x, .int .i64 y] w fun e w' => e = .returned (.int .i64 n) ∧ Below w.heap.size w w' := by
 have B := Below.refl w.heap.size w
 obtain ⟨q, hq⟩ : ∃ q, kX d = q := ⟨_, rfl⟩
 have HQ := Lib.hid hq
 clear hq
 by_cases h0 : d.r < 1
 ·have q0 : decide (d.r < 1) = true := decide_eq_true h0
  obtain rfl : n = 0 := by rw [← e]; exact ZL (.inl h0) x y
  clear e ; go_enter Tryz.func24, Tryz.ntmps24
  go_upto_region 0 with fail
  refine wp_region_lit ?_
  (refine zt (t := 45) rfl _ rfl _ rfl (zV B ?_); clear B; intro b_d3 wn zb zd d3 za zf zk B; simp only [zn])
  refine zx 1 ?_; refine wpList_nil ?_; go_upto_region 1 with fail
  refine wp_region_lit ?_; refine zx 1 ?_
  refine qE (enters_of Tryz.func62 (by kernel_rfl) rfl) (c := ys d q _ hx hy hr HQ.out) (h := ?_); rintro e wn ⟨rfl, za⟩; have zf := B.size; have zg := za.size; replace B := B.trans (za.mono B.size)
  (try replace d3 := d3.below za)
  refine ⟨_, rfl, ?_⟩; simp only [zn]
  (refine zr (t := 38) rfl _ (zY _ _ rfl) (zV B ?_); clear B; intro b_r7 wn zb zd r7 za zf zk B; (try have zh := d3.lt); (try replace d3 := d3.below (za.mono zb)); simp only [zn])
  (refine zp (t := 38) rfl _ _ rfl _ rfl _ rfl r7 (by kernel_rfl) rfl (by simp [jV, Value.oneCell']) (qt B (by omega) ?_); clear r7 B; intro wn r7 ze zf zg B; (try replace d3 := d3.of_eq (ze.block _ d3.lt (by omega))); simp only [zn])
  refine wpList_nil ?_; replace r7 : zF 38 _ b_r7 (jV q) := r7; go_upto_region 2 with fail
  refine wp_region_lit ?_; refine zx 11 ?_
  refine zH ?hs11_11 ?_
  case hs11_11 => kernel_rfl
  simp only [zn]; refine zx 5 ?_
  refine zH ?hs11_17 ?_
  case hs11_17 => kernel_rfl
  simp only [zn]; refine zx 7 ?_
  refine zH ?hs11_25 ?_
  case hs11_25 => kernel_rfl
  simp only [zn]; refine zx 2 ?_; refine wpList_nil ?_; go_upto_region 3 with fail
  refine wp_region_lit ?_; refine zx 1 ?_; refine wpList_nil ?_; go_wp2; go_ret; exact ⟨rfl, B⟩
 ·by_cases h1 : 256 < d.r
  ·have q0 : decide (d.r < 1) = false := decide_eq_false h0
   have q1 : decide (256 < d.r) = true := decide_eq_true h1; obtain rfl : n = 0 := by rw [← e]; exact ZL (.inr (.inl h1)) x y
   clear e ; go_enter Tryz.func24, Tryz.ntmps24
   go_upto_region 0 with fail
   refine wp_region_lit ?_
   (refine zt (t := 45) rfl _ rfl _ rfl (zV B ?_); clear B; intro b_d3 wn zb zd d3 za zf zk B; (try have zh := d3.lt); (try replace d3 := d3.below (za.mono zb)); (try have zh := r7.lt); (try replace r7 := r7.below (za.mono zb)); simp only [zn])
   refine zx 1 ?_; refine wpList_nil ?_; go_upto_region 1 with fail
   refine wp_region_lit ?_; refine zx 1 ?_
   refine qE (enters_of Tryz.func62 (by kernel_rfl) rfl) (c := ys d q _ hx hy hr HQ.out) (h := ?_); rintro e wn ⟨rfl, za⟩; have zf := B.size; have zg := za.size; replace B := B.trans (za.mono B.size)
   (try replace d3 := d3.below za)
   (try replace r7 := r7.below za)
   refine ⟨_, rfl, ?_⟩; simp only [zn]
   (refine zr (t := 38) rfl _ (zY _ _ rfl) (zV B ?_); clear B; intro b_r7 wn zb zd r7 za zf zk B; (try have zh := d3.lt); (try replace d3 := d3.below (za.mono zb)); (try have zh := r7.lt); (try replace r7 := r7.below (za.mono zb)); simp only [zn])
   (refine zp (t := 38) rfl _ _ rfl _ rfl _ rfl r7 (by kernel_rfl) rfl (by simp [jV, Value.oneCell']) (qt B (by omega) ?_); clear r7 B; intro wn r7 ze zf zg B; (try replace d3 := d3.of_eq (ze.block _ d3.lt (by omega))); simp only [zn])
   refine wpList_nil ?_; replace r7 : zF 38 _ b_r7 (jV q) := r7; go_upto_region 2 with fail
   refine wp_region_lit ?_; refine zx 11 ?_
   refine zH ?hs15_11 ?_
   case hs15_11 => kernel_rfl
   simp only [zn]; refine zx 5 ?_
   refine zH ?hs15_17 ?_
   case hs15_17 => kernel_rfl
   simp only [zn]; refine zx 7 ?_
   refine zH ?hs15_25 ?_
   case hs15_25 => kernel_rfl
   simp only [zn]; refine zx 2 ?_; refine wpList_nil ?_; go_upto_region 3 with fail
   refine wp_region_lit ?_; refine zx 1 ?_; refine wpList_nil ?_; go_wp2; go_ret; exact ⟨rfl, B⟩
  ·by_cases h2 : wF d.x = false
   ·have q0 : decide (d.r < 1) = false := decide_eq_false h0
    have q1 : decide (256 < d.r) = false := decide_eq_false h1; have H2 := Lib.hid (show wF d.x = false from h2); obtain rfl : n = 0 := by rw [← e]; exact ZL (.inr (.inr (.inl h2))) x y
    clear e h2; go_enter Tryz.func24, Tryz.ntmps24
    go_upto_region 0 with fail
    refine wp_region_lit ?_
    (refine zt (t := 45) rfl _ rfl _ rfl (zV B ?_); clear B; intro b_d3 wn zb zd d3 za zf zk B; (try have zh := d3.lt); (try replace d3 := d3.below (za.mono zb)); (try have zh := r7.lt); (try replace r7 := r7.below (za.mono zb)); simp only [zn])
    refine zx 1 ?_; refine wpList_nil ?_; go_upto_region 1 with fail
    refine wp_region_lit ?_; refine zx 1 ?_
    refine qE (enters_of Tryz.func62 (by kernel_rfl) rfl) (c := ys d q _ hx hy hr HQ.out) (h := ?_); rintro e wn ⟨rfl, za⟩; have zf := B.size; have zg := za.size; replace B := B.trans (za.mono B.size)
    (try replace d3 := d3.below za)
    (try replace r7 := r7.below za)
    refine ⟨_, rfl, ?_⟩; simp only [zn]
    (refine zr (t := 38) rfl _ (zY _ _ rfl) (zV B ?_); clear B; intro b_r7 wn zb zd r7 za zf zk B; (try have zh := d3.lt); (try replace d3 := d3.below (za.mono zb)); (try have zh := r7.lt); (try replace r7 := r7.below (za.mono zb)); simp only [zn])
    (refine zp (t := 38) rfl _ _ rfl _ rfl _ rfl r7 (by kernel_rfl) rfl (by simp [jV, Value.oneCell']) (qt B (by omega) ?_); clear r7 B; intro wn r7 ze zf zg B; (try replace d3 := d3.of_eq (ze.block _ d3.lt (by omega))); simp only [zn])
    refine wpList_nil ?_; replace r7 : zF 38 _ b_r7 (jV q) := r7; go_upto_region 2 with fail
    refine wp_region_lit ?_; refine zx 11 ?_
    refine qE (enters_of Tryz.func53 (by kernel_rfl) rfl) (c := yB d.x false _ H2.out) (h := ?_); rintro e wn ⟨rfl, za⟩; have zf := B.size; have zg := za.size; replace B := B.trans (za.mono B.size)
    (try replace d3 := d3.below za)
    (try replace r7 := r7.below za)
    refine ⟨_, rfl, ?_⟩; simp only [zn]; refine zx 5 ?_
    refine zH ?hs19_17 ?_
    case hs19_17 => kernel_rfl
    simp only [zn]; refine zx 7 ?_
    refine zH ?hs19_25 ?_
    case hs19_25 => kernel_rfl
    simp only [zn]; refine zx 2 ?_; refine wpList_nil ?_; go_upto_region 3 with fail
    refine wp_region_lit ?_; refine zx 1 ?_; refine wpList_nil ?_; go_wp2; go_ret; exact ⟨rfl, B⟩
   ·by_cases h3 : wF d.y = false
    ·have q0 : decide (d.r < 1) = false := decide_eq_false h0
     have q1 : decide (256 < d.r) = false := decide_eq_false h1; have H2 := Lib.hid (show wF d.x = true from by simpa using h2); have H3 := Lib.hid (show wF d.y = false from h3); obtain rfl : n = 0 := by rw [← e]; exact ZL (.inr (.inr (.inr h3))) x y
     clear e h2 h3; go_enter Tryz.func24, Tryz.ntmps24
     go_upto_region 0 with fail
     refine wp_region_lit ?_
     (refine zt (t := 45) rfl _ rfl _ rfl (zV B ?_); clear B; intro b_d3 wn zb zd d3 za zf zk B; (try have zh := d3.lt); (try replace d3 := d3.below (za.mono zb)); (try have zh := r7.lt); (try replace r7 := r7.below (za.mono zb)); simp only [zn])
     refine zx 1 ?_; refine wpList_nil ?_; go_upto_region 1 with fail
     refine wp_region_lit ?_; refine zx 1 ?_
     refine qE (enters_of Tryz.func62 (by kernel_rfl) rfl) (c := ys d q _ hx hy hr HQ.out) (h := ?_); rintro e wn ⟨rfl, za⟩; have zf := B.size; have zg := za.size; replace B := B.trans (za.mono B.size)
     (try replace d3 := d3.below za)
     (try replace r7 := r7.below za)
     refine ⟨_, rfl, ?_⟩; simp only [zn]
     (refine zr (t := 38) rfl _ (zY _ _ rfl) (zV B ?_); clear B; intro b_r7 wn zb zd r7 za zf zk B; (try have zh := d3.lt); (try replace d3 := d3.below (za.mono zb)); (try have zh := r7.lt); (try replace r7 := r7.below (za.mono zb)); simp only [zn])
     (refine zp (t := 38) rfl _ _ rfl _ rfl _ rfl r7 (by kernel_rfl) rfl (by simp [jV, Value.oneCell']) (qt B (by omega) ?_); clear r7 B; intro wn r7 ze zf zg B; (try replace d3 := d3.of_eq (ze.block _ d3.lt (by omega))); simp only [zn])
     refine wpList_nil ?_; replace r7 : zF 38 _ b_r7 (jV q) := r7; go_upto_region 2 with fail
     refine wp_region_lit ?_; refine zx 11 ?_
     refine qE (enters_of Tryz.func53 (by kernel_rfl) rfl) (c := yB d.x true _ H2.out) (h := ?_); rintro e wn ⟨rfl, za⟩; have zf := B.size; have zg := za.size; replace B := B.trans (za.mono B.size)
     (try replace d3 := d3.below za)
     (try replace r7 := r7.below za)
     refine ⟨_, rfl, ?_⟩; simp only [zn]; refine zx 5 ?_
     refine qE (enters_of Tryz.func53 (by kernel_rfl) rfl) (c := yB d.y false _ H3.out) (h := ?_); rintro e wn ⟨rfl, za⟩; have zf := B.size; have zg := za.size; replace B := B.trans (za.mono B.size)
     (try replace d3 := d3.below za)
     (try replace r7 := r7.below za)
     refine ⟨_, rfl, ?_⟩; simp only [zn]; refine zx 7 ?_
     refine zH ?hs23_25 ?_
     case hs23_25 => kernel_rfl
     simp only [zn]; refine zx 2 ?_; refine wpList_nil ?_; go_upto_region 3 with fail
     refine wp_region_lit ?_; refine zx 1 ?_; refine wpList_nil ?_; go_wp2; go_ret; exact ⟨rfl, B⟩
    ·by_cases h4 : js q x y = false
     ·have q0 : decide (d.r < 1) = false := decide_eq_false h0
      have q1 : decide (256 < d.r) = false := decide_eq_false h1; have H2 := Lib.hid (show wF d.x = true from by simpa using h2); have H3 := Lib.hid (show wF d.y = true from by simpa using h3); have H4 := Lib.hid (show js q x y = false from h4); obtain rfl : n = 0 := by rw [← e]; exact za2 (by rw [HQ.out]; exact h4)
      clear e h2 h3 h4; go_enter Tryz.func24, Tryz.ntmps24
      go_upto_region 0 with fail
      refine wp_region_lit ?_
      (refine zt (t := 45) rfl _ rfl _ rfl (zV B ?_); clear B; intro b_d3 wn zb zd d3 za zf zk B; (try have zh := d3.lt); (try replace d3 := d3.below (za.mono zb)); (try have zh := r7.lt); (try replace r7 := r7.below (za.mono zb)); simp only [zn])
      refine zx 1 ?_; refine wpList_nil ?_; go_upto_region 1 with fail
      refine wp_region_lit ?_; refine zx 1 ?_
      refine qE (enters_of Tryz.func62 (by kernel_rfl) rfl) (c := ys d q _ hx hy hr HQ.out) (h := ?_); rintro e wn ⟨rfl, za⟩; have zf := B.size; have zg := za.size; replace B := B.trans (za.mono B.size)
      (try replace d3 := d3.below za)
      (try replace r7 := r7.below za)
      refine ⟨_, rfl, ?_⟩; simp only [zn]
      (refine zr (t := 38) rfl _ (zY _ _ rfl) (zV B ?_); clear B; intro b_r7 wn zb zd r7 za zf zk B; (try have zh := d3.lt); (try replace d3 := d3.below (za.mono zb)); (try have zh := r7.lt); (try replace r7 := r7.below (za.mono zb)); simp only [zn])
      (refine zp (t := 38) rfl _ _ rfl _ rfl _ rfl r7 (by kernel_rfl) rfl (by simp [jV, Value.oneCell']) (qt B (by omega) ?_); clear r7 B; intro wn r7 ze zf zg B; (try replace d3 := d3.of_eq (ze.block _ d3.lt (by omega))); simp only [zn])
      refine wpList_nil ?_; replace r7 : zF 38 _ b_r7 (jV q) := r7; go_upto_region 2 with fail
      refine wp_region_lit ?_; refine zx 11 ?_
      refine qE (enters_of Tryz.func53 (by kernel_rfl) rfl) (c := yB d.x true _ H2.out) (h := ?_); rintro e wn ⟨rfl, za⟩; have zf := B.size; have zg := za.size; replace B := B.trans (za.mono B.size)
      (try replace d3 := d3.below za)
      (try replace r7 := r7.below za)
      refine ⟨_, rfl, ?_⟩; simp only [zn]; refine zx 5 ?_
      refine qE (enters_of Tryz.func53 (by kernel_rfl) rfl) (c := yB d.y true _ H3.out) (h := ?_); rintro e wn ⟨rfl, za⟩; have zf := B.size; have zg := za.size; replace B := B.trans (za.mono B.size)
      (try replace d3 := d3.below za)
      (try replace r7 := r7.below za)
      refine ⟨_, rfl, ?_⟩; simp only [zn]; refine zx 7 ?_
      refine qE (enters_of Tryz.func25 (by kernel_rfl) rfl) (c := KX q x y false _ H4.out) (h := ?_); rintro e wn ⟨rfl, za⟩; have zf := B.size; have zg := za.size; replace B := B.trans (za.mono B.size)
      (try replace d3 := d3.below za)
      (try replace r7 := r7.below za)
      refine ⟨_, rfl, ?_⟩; simp only [zn]; refine zx 2 ?_; refine wpList_nil ?_; go_upto_region 3 with fail
      refine wp_region_lit ?_; refine zx 1 ?_; refine wpList_nil ?_; go_wp2; go_ret; exact ⟨rfl, B⟩
     ·have q0 : decide (d.r < 1) = false := decide_eq_false h0
      have q1 : decide (256 < d.r) = false := decide_eq_false h1; have H2 := Lib.hid (show wF d.x = true from by simpa using h2); have H3 := Lib.hid (show wF d.y = true from by simpa using h3); have H4 := Lib.hid (show js q x y = true from by simpa using h4); have HOK := zbG h0 h1 H2.out H3.out; have E := Lib.hid (zcW HOK e); obtain ⟨⟨b1, b2⟩, b3, b4⟩ := zcg (by rw [HQ.out]; exact H4.out) (show 1 ≤ d.r ∧ d.r ≤ 256 by omega)
      obtain ⟨b5, b6⟩ := zbo H2.out; obtain ⟨b7, b8⟩ := zbo H3.out; have mr := jL (a := d.r) (b := d.r) (m := 256) (k := 256) (by omega) (by omega) (by omega) (by omega); have gx : -100000 ≤ x ∧ x ≤ 100000 := by omega
      have gy : -100000 ≤ y ∧ y ≤ 100000 := by omega
      clear e h2 h3 h4 HOK hx hy hr; go_enter Tryz.func24, Tryz.ntmps24
      go_upto_region 0 with fail
      refine wp_region_lit ?_
      (refine zt (t := 45) rfl _ rfl _ rfl (zV B ?_); clear B; intro b_d3 wn zb zd d3 za zf zk B; (try have zh := d3.lt); (try replace d3 := d3.below (za.mono zb)); (try have zh := r7.lt); (try replace r7 := r7.below (za.mono zb)); simp only [zn])
      refine zx 1 ?_; refine wpList_nil ?_; go_upto_region 1 with fail
      refine wp_region_lit ?_; refine zx 1 ?_
      refine qE (enters_of Tryz.func62 (by kernel_rfl) rfl) (c := ys d q _ (by omega) (by omega) (by omega) HQ.out) (h := ?_); rintro e wn ⟨rfl, za⟩; have zf := B.size; have zg := za.size; replace B := B.trans (za.mono B.size)
      (try replace d3 := d3.below za)
      (try replace r7 := r7.below za)
      refine ⟨_, rfl, ?_⟩; simp only [zn]
      (refine zr (t := 38) rfl _ (zY _ _ rfl) (zV B ?_); clear B; intro b_r7 wn zb zd r7 za zf zk B; (try have zh := d3.lt); (try replace d3 := d3.below (za.mono zb)); (try have zh := r7.lt); (try replace r7 := r7.below (za.mono zb)); simp only [zn])
      (refine zp (t := 38) rfl _ _ rfl _ rfl _ rfl r7 (by kernel_rfl) rfl (by simp [jV, Value.oneCell']) (qt B (by omega) ?_); clear r7 B; intro wn r7 ze zf zg B; (try replace d3 := d3.of_eq (ze.block _ d3.lt (by omega))); simp only [zn])
      refine wpList_nil ?_; replace r7 : zF 38 _ b_r7 (jV q) := r7; go_upto_region 2 with fail
      refine wp_region_lit ?_; refine zx 11 ?_
      refine qE (enters_of Tryz.func53 (by kernel_rfl) rfl) (c := yB d.x true _ H2.out) (h := ?_); rintro e wn ⟨rfl, za⟩; have zf := B.size; have zg := za.size; replace B := B.trans (za.mono B.size)
      (try replace d3 := d3.below za)
      (try replace r7 := r7.below za)
      refine ⟨_, rfl, ?_⟩; simp only [zn]; refine zx 5 ?_
      refine qE (enters_of Tryz.func53 (by kernel_rfl) rfl) (c := yB d.y true _ H3.out) (h := ?_); rintro e wn ⟨rfl, za⟩; have zf := B.size; have zg := za.size; replace B := B.trans (za.mono B.size)
      (try replace d3 := d3.below za)
      (try replace r7 := r7.below za)
      refine ⟨_, rfl, ?_⟩; simp only [zn]; refine zx 7 ?_
      refine qE (enters_of Tryz.func25 (by kernel_rfl) rfl) (c := KX q x y true _ H4.out) (h := ?_); rintro e wn ⟨rfl, za⟩; have zf := B.size; have zg := za.size; replace B := B.trans (za.mono B.size)
      (try replace d3 := d3.below za)
      (try replace r7 := r7.below za)
      refine ⟨_, rfl, ?_⟩; simp only [zn]; refine zx 2 ?_; refine wpList_nil ?_; clear r7; go_wp2; go_loopw [8, 9, 10, 11, 12, 43] (fun nv _ _ _ _ iv wr => ∃ (i : Nat) (n0 : Int), i ≤ 4 ∧ iv = .int .i64 (i : Int) ∧ nv = .int .i64 n0 ∧ (0 ≤ n0 ∧ n0 ≤ 4 * (i : Int)) ∧ Hid (ub d x y σP (4 * i) = n0) ∧ Below w.heap.size w wr ∧ zF 45 wr b_d3 (kx.enc d)) (fun _ _ _ _ _ iv _ => (4 - intOf iv).toNat)
      case atStart => exact ⟨0, 0, by omega, rfl, rfl, by omega, Lib.hid rfl, B, d3⟩
      case round =>
       clear B d3; obtain ⟨i, n0, hi, rfl, rfl, hn0, HS, B, d3⟩ := hrel; by_cases hi1 : i < 4
       ·have q5 : decide ((i : Int) < 4) = true := decide_eq_true (by omega)
        have q6 : decide (i < 4) = true := decide_eq_true hi1; go_upto_region 6 with fail
        refine wp_region_lit ?_; refine zx 1 ?_; refine wpList_nil ?_; go_upto_region 7 with fail
        refine wp_region_lit ?_; refine zx 2 ?_; refine wpList_nil ?_; go_upto_region 8 with fail
        refine wp_region_lit ?_; refine zx 1 ?_; refine wpList_nil ?_; go_wp2; go_loopw [8, 10, 11, 12, 46] (fun nv _ _ _ jv wr => ∃ (j : Nat) (n1 : Int), j ≤ 4 ∧ jv = .int .i64 (j : Int) ∧ nv = .int .i64 n1 ∧ (0 ≤ n1 ∧ n1 ≤ 4 * (i : Int) + (j : Int)) ∧ Hid (ub d x y σP (4 * i + j) = n1) ∧ Below w.heap.size w wr ∧ zF 45 wr b_d3 (kx.enc d)) (fun _ _ _ _ jv _ => (4 - intOf jv).toNat)
        case atStart => exact ⟨0, n0, by omega, rfl, rfl, by omega, HS, B, d3⟩
        case round =>
         clear B d3 hn0; obtain ⟨j, n1, hj, rfl, rfl, hn1, HS1, B, d3⟩ := hrel; by_cases hj1 : j < 4
         ·have q7 : decide ((j : Int) < 4) = true := decide_eq_true (by omega)
          have q8 : decide (j < 4) = true := decide_eq_true hj1; obtain ⟨m1, m2⟩ := Zs (x := (16 * x + 4 * (i : Int) + 2 - d.x)) (m := 400) (by omega) (by omega); obtain ⟨m3, m4⟩ := Zs (x := (16 * y + 4 * (j : Int) + 2 - d.y)) (m := 400) (by omega) (by omega); have hσ : σP (4 * i + j) = (i, j) := by unfold σP; rw [show (4 * i + j) / 4 = i by omega, show (4 * i + j) % 4 = j by omega]
          have hhit : ZA d x y i j = decide ((16 * x + 4 * (i : Int) + 2 - d.x) * (16 * x + 4 * (i : Int) + 2 - d.x) + (16 * y + 4 * (j : Int) + 2 - d.y) * (16 * y + 4 * (j : Int) + 2 - d.y) ≤ d.r * d.r) := by unfold ZA dx4; rw [show 16 * x + (4 * (i : Int) + 2) - d.x = (16 * x + 4 * (i : Int) + 2 - d.x) by omega, show 16 * y + (4 * (j : Int) + 2) - d.y = (16 * y + 4 * (j : Int) + 2 - d.y) by omega]
          cases hh : ZA d x y i j with
          | true =>
           have q9 : decide ((16 * x + 4 * (i : Int) + 2 - d.x) * (16 * x + 4 * (i : Int) + 2 - d.x) + (16 * y + 4 * (j : Int) + 2 - d.y) * (16 * y + 4 * (j : Int) + 2 - d.y) ≤ d.r * d.r) = true := hhit.symm.trans hh; have HN := Lib.hid (Yy HS1.out hσ hh); clear hhit hh hσ; go_upto_region 9 with fail
           refine wp_region_lit ?_; refine zx 1 ?_; refine wpList_nil ?_; go_upto_region 10 with fail
           refine wp_region_lit ?_; refine zx 2 ?_; refine wpList_nil ?_; go_upto_region 11 with fail
           refine wp_region_lit ?_; refine zx 10 ?_
           refine wpList_nil ?_; go_upto_region 12 with fail
           refine wp_region_lit ?_; refine zx 10 ?_
           refine wpList_nil ?_; go_upto_region 13 with fail
           refine wp_region_lit ?_; refine zx 13 ?_
           refine wpList_nil ?_; go_upto_region 14 with fail
           refine wp_region_lit ?_; refine zx 3 ?_; refine wpList_nil ?_; go_upto_region 15 with fail
           refine wp_region_lit ?_; refine zx 2 ?_; refine wpList_nil ?_; go_wp2; go_roundw
           case rel => exact ⟨j + 1, _, by omega, by go_num, rfl, by omega, HN, B, d3⟩
           case measure => simp [intOf]; omega
          | false =>
           have q9 : decide ((16 * x + 4 * (i : Int) + 2 - d.x) * (16 * x + 4 * (i : Int) + 2 - d.x) + (16 * y + 4 * (j : Int) + 2 - d.y) * (16 * y + 4 * (j : Int) + 2 - d.y) ≤ d.r * d.r) = false := hhit.symm.trans hh; have HN := Lib.hid (Yy HS1.out hσ hh); clear hhit hh hσ; go_upto_region 9 with fail
           refine wp_region_lit ?_; refine zx 1 ?_; refine wpList_nil ?_; go_upto_region 10 with fail
           refine wp_region_lit ?_; refine zx 2 ?_; refine wpList_nil ?_; go_upto_region 11 with fail
           refine wp_region_lit ?_; refine zx 10 ?_
           refine wpList_nil ?_; go_upto_region 12 with fail
           refine wp_region_lit ?_; refine zx 10 ?_
           refine wpList_nil ?_; go_upto_region 13 with fail
           refine wp_region_lit ?_; refine zx 13 ?_
           refine wpList_nil ?_; go_upto_region 15 with fail
           refine wp_region_lit ?_; refine zx 2 ?_; refine wpList_nil ?_; go_wp2; go_roundw
           case rel => exact ⟨j + 1, _, by omega, by go_num, rfl, by omega, HN, B, d3⟩
           case measure => simp [intOf]; omega
         ·have q7 : decide ((j : Int) < 4) = false := decide_eq_false (by omega)
          have q8 : decide (j < 4) = false := decide_eq_false hj1; have HN := Lib.hid (show ub d x y σP (4 * (i + 1)) = n1 from by rw [show 4 * (i + 1) = 4 * i + j by omega]; exact HS1.out)
          go_upto_region 9 with fail
          refine wp_region_lit ?_; refine zx 1 ?_; refine wpList_nil ?_; go_upto_region 16 with fail
          refine wp_region_lit ?_; refine zx 2 ?_; refine wpList_nil ?_; go_wp2; go_roundw
          case rel => exact ⟨i + 1, n1, by omega, by go_num, rfl, by omega, HN, B, d3⟩
          case measure => simp [intOf]; omega
       ·have q5 : decide ((i : Int) < 4) = false := decide_eq_false (by omega)
        have q6 : decide (i < 4) = false := decide_eq_false hi1; have HN := Lib.hid (show qf (255 * n0) 16 = n from by rw [← E.out]; congr 2; rw [← HS.out, show 4 * i = 16 by omega]; rfl)
        clear d3; go_upto_region 6 with fail
        refine wp_region_lit ?_; refine zx 1 ?_; refine wpList_nil ?_; go_upto_region 17 with fail
        refine wp_region_lit ?_; refine zx 2 ?_; refine qE (enters_of Tryz.func68 (by kernel_rfl) rfl) (c := kq (255 * n0) 16 n _ (by omega) (by omega) (by omega) (by omega) HN.out) (h := ?_); rintro e wn ⟨rfl, za⟩; have zf := B.size; have zg := za.size; replace B := B.trans (za.mono B.size); refine ⟨_, rfl, ?_⟩; simp only [zn]; refine zx 1 ?_; refine wpList_nil ?_; go_wp2; go_ret; exact ⟨rfl, B⟩
/- Contracts of the reference's Valid, Cover, Same, SameDabs. -/
/-! ### Valid -/
theorem zc7 (s : qv) (h : s.pts.length = 1 ∨ True) : decide (jI s.pts - s.pha ≤ 1024 * s.spa) = decide (jI s.pts ≤ s.pha + 1024 * s.spa) := by
 rw [Bool.eq_iff_iff, decide_eq_true_iff, decide_eq_true_iff]
 omega
theorem zc8 {s : qv} (h : s.pts.length = 1) (h1 : 0 ≤ s.pha) (h2 : 1 ≤ s.spa) : decide (jI s.pts - s.pha ≤ 1024 * s.spa) = true := by
 unfold jI
 rw [h]
 refine decide_eq_true ?_
 show (0 : Int) - s.pha ≤ _
 omega
set_option maxHeartbeats 4000000 in
theorem vY (v : Value) (s : qv) (b : Bool) (w : World) (rs : jF qD v s.pts w) (hn : s.pts.length ≤ 17592186044416) (e : qM s = b) : Calls Tryz.prog 17 #[.agg (qw v s)] w fun e w' => e = .returned (.bool b) ∧ Below w.heap.size w w' := by
 have B := Below.refl w.heap.size w
 obtain ⟨a, c, rfl, hc⟩ := rs.len
 have HS := Lib.hid rs
 by_cases h0 : (s.pts.length : Int) < 1
 ·have q0 : decide ((s.pts.length : Int) < 1) = true := decide_eq_true h0
  have p0 : decide (s.pts.length < 1) = true := decide_eq_true (by omega); obtain rfl : b = false := by rw [← e]; exact xx (by omega)
  clear e; go_enter Tryz.func17, Tryz.ntmps17
  go_upto_region 0 with fail
  refine wp_region_lit ?_
  (refine zt (t := 30) rfl _ rfl _ rfl (zV B ?_); clear B; intro b_r1 wn zb zd r1 za zf zk B; (try have zh := rs.lt); (try replace rs := rs.below (za.mono zb)); simp only [zn])
  refine zx 1 ?_; refine wpList_nil ?_; go_upto_region 1 with fail
  refine wp_region_lit ?_; refine zx 2 ?_
  refine zw (by first | rfl | simp [Region.wanted, yielded]) rfl Tryz.underlying26 rfl ?_; simp only [zn]; refine zx 4 ?_
  refine zH ?hs2_7 ?_
  case hs2_7 => kernel_rfl
  simp only [zn]; refine zx 32 ?_
  refine wpList_nil ?_; go_upto_region 2 with fail
  refine wp_region_lit ?_; refine zx 1 ?_; refine wpList_nil ?_; go_wp2; go_ret; exact ⟨rfl, B⟩
 ·by_cases h1 : 64 < (s.pts.length : Int)
  ·have q0 : decide ((s.pts.length : Int) < 1) = false := decide_eq_false h0
   have q1 : decide (64 < (s.pts.length : Int)) = true := decide_eq_true h1; have p0 : decide (s.pts.length < 1) = false := decide_eq_false (by omega); have p1 : decide (64 < s.pts.length) = true := decide_eq_true (by omega); obtain rfl : b = false := by rw [← e]; exact xx (by omega)
   clear e; go_enter Tryz.func17, Tryz.ntmps17
   go_upto_region 0 with fail
   refine wp_region_lit ?_
   (refine zt (t := 30) rfl _ rfl _ rfl (zV B ?_); clear B; intro b_r1 wn zb zd r1 za zf zk B; (try have zh := r1.lt); (try replace r1 := r1.below (za.mono zb)); (try have zh := rs.lt); (try replace rs := rs.below (za.mono zb)); simp only [zn])
   refine zx 1 ?_; refine wpList_nil ?_; go_upto_region 1 with fail
   refine wp_region_lit ?_; refine zx 2 ?_
   refine zw (by first | rfl | simp [Region.wanted, yielded]) rfl Tryz.underlying26 rfl ?_; simp only [zn]; refine zx 4 ?_
   refine zw (by first | rfl | simp [Region.wanted, yielded]) rfl Tryz.underlying26 rfl ?_; simp only [zn]; refine zx 32 ?_
   refine wpList_nil ?_; go_upto_region 2 with fail
   refine wp_region_lit ?_; refine zx 1 ?_; refine wpList_nil ?_; go_wp2; go_ret; exact ⟨rfl, B⟩
  ·by_cases h2 : s.rad < 1
   ·have q0 : decide ((s.pts.length : Int) < 1) = false := decide_eq_false h0
    have q1 : decide (64 < (s.pts.length : Int)) = false := decide_eq_false h1; have q2 : decide (s.rad < 1) = true := decide_eq_true h2; have p0 : decide (s.pts.length < 1) = false := decide_eq_false (by omega); have p1 : decide (64 < s.pts.length) = false := decide_eq_false (by omega); obtain rfl : b = false := by rw [← e]; exact xx (by omega)
    clear e; go_enter Tryz.func17, Tryz.ntmps17
    go_upto_region 0 with fail
    refine wp_region_lit ?_
    (refine zt (t := 30) rfl _ rfl _ rfl (zV B ?_); clear B; intro b_r1 wn zb zd r1 za zf zk B; (try have zh := r1.lt); (try replace r1 := r1.below (za.mono zb)); (try have zh := rs.lt); (try replace rs := rs.below (za.mono zb)); simp only [zn])
    refine zx 1 ?_; refine wpList_nil ?_; go_upto_region 1 with fail
    refine wp_region_lit ?_; refine zx 2 ?_
    refine zw (by first | rfl | simp [Region.wanted, yielded]) rfl Tryz.underlying26 rfl ?_; simp only [zn]; refine zx 4 ?_
    refine zw (by first | rfl | simp [Region.wanted, yielded]) rfl Tryz.underlying26 rfl ?_; simp only [zn]; refine zx 32 ?_
    refine wpList_nil ?_; go_upto_region 2 with fail
    refine wp_region_lit ?_; refine zx 1 ?_; refine wpList_nil ?_; go_wp2; go_ret; exact ⟨rfl, B⟩
   ·by_cases h3 : 256 < s.rad
    ·have q0 : decide ((s.pts.length : Int) < 1) = false := decide_eq_false h0
     have q1 : decide (64 < (s.pts.length : Int)) = false := decide_eq_false h1; have q2 : decide (s.rad < 1) = false := decide_eq_false h2; have q3 : decide (256 < s.rad) = true := decide_eq_true h3; have p0 : decide (s.pts.length < 1) = false := decide_eq_false (by omega); have p1 : decide (64 < s.pts.length) = false := decide_eq_false (by omega); obtain rfl : b = false := by rw [← e]; exact xx (by omega)
     clear e; go_enter Tryz.func17, Tryz.ntmps17
     go_upto_region 0 with fail
     refine wp_region_lit ?_
     (refine zt (t := 30) rfl _ rfl _ rfl (zV B ?_); clear B; intro b_r1 wn zb zd r1 za zf zk B; (try have zh := r1.lt); (try replace r1 := r1.below (za.mono zb)); (try have zh := rs.lt); (try replace rs := rs.below (za.mono zb)); simp only [zn])
     refine zx 1 ?_; refine wpList_nil ?_; go_upto_region 1 with fail
     refine wp_region_lit ?_; refine zx 2 ?_
     refine zw (by first | rfl | simp [Region.wanted, yielded]) rfl Tryz.underlying26 rfl ?_; simp only [zn]; refine zx 4 ?_
     refine zw (by first | rfl | simp [Region.wanted, yielded]) rfl Tryz.underlying26 rfl ?_; simp only [zn]; refine zx 32 ?_
     refine wpList_nil ?_; go_upto_region 2 with fail
     refine wp_region_lit ?_; refine zx 1 ?_; refine wpList_nil ?_; go_wp2; go_ret; exact ⟨rfl, B⟩
    ·by_cases h4 : s.spa < 1
     ·have q0 : decide ((s.pts.length : Int) < 1) = false := decide_eq_false h0
      have q1 : decide (64 < (s.pts.length : Int)) = false := decide_eq_false h1; have q2 : decide (s.rad < 1) = false := decide_eq_false h2; have q3 : decide (256 < s.rad) = false := decide_eq_false h3; have q4 : decide (s.spa < 1) = true := decide_eq_true h4; have p0 : decide (s.pts.length < 1) = false := decide_eq_false (by omega); have p1 : decide (64 < s.pts.length) = false := decide_eq_false (by omega); obtain rfl : b = false := by rw [← e]; exact xx (by omega)
      clear e; go_enter Tryz.func17, Tryz.ntmps17
      go_upto_region 0 with fail
      refine wp_region_lit ?_
      (refine zt (t := 30) rfl _ rfl _ rfl (zV B ?_); clear B; intro b_r1 wn zb zd r1 za zf zk B; (try have zh := r1.lt); (try replace r1 := r1.below (za.mono zb)); (try have zh := rs.lt); (try replace rs := rs.below (za.mono zb)); simp only [zn])
      refine zx 1 ?_; refine wpList_nil ?_; go_upto_region 1 with fail
      refine wp_region_lit ?_; refine zx 2 ?_
      refine zw (by first | rfl | simp [Region.wanted, yielded]) rfl Tryz.underlying26 rfl ?_; simp only [zn]; refine zx 4 ?_
      refine zw (by first | rfl | simp [Region.wanted, yielded]) rfl Tryz.underlying26 rfl ?_; simp only [zn]; refine zx 32 ?_
      refine wpList_nil ?_; go_upto_region 2 with fail
      refine wp_region_lit ?_; refine zx 1 ?_; refine wpList_nil ?_; go_wp2; go_ret; exact ⟨rfl, B⟩
     ·by_cases h5 : 4096 < s.spa
      ·have q0 : decide ((s.pts.length : Int) < 1) = false := decide_eq_false h0
       have q1 : decide (64 < (s.pts.length : Int)) = false := decide_eq_false h1; have q2 : decide (s.rad < 1) = false := decide_eq_false h2; have q3 : decide (256 < s.rad) = false := decide_eq_false h3; have q4 : decide (s.spa < 1) = false := decide_eq_false h4; have q5 : decide (4096 < s.spa) = true := decide_eq_true h5; have p0 : decide (s.pts.length < 1) = false := decide_eq_false (by omega); have p1 : decide (64 < s.pts.length) = false := decide_eq_false (by omega); obtain rfl : b = false := by rw [← e]; exact xx (by omega)
       clear e; go_enter Tryz.func17, Tryz.ntmps17
       go_upto_region 0 with fail
       refine wp_region_lit ?_
       (refine zt (t := 30) rfl _ rfl _ rfl (zV B ?_); clear B; intro b_r1 wn zb zd r1 za zf zk B; (try have zh := r1.lt); (try replace r1 := r1.below (za.mono zb)); (try have zh := rs.lt); (try replace rs := rs.below (za.mono zb)); simp only [zn])
       refine zx 1 ?_; refine wpList_nil ?_; go_upto_region 1 with fail
       refine wp_region_lit ?_; refine zx 2 ?_
       refine zw (by first | rfl | simp [Region.wanted, yielded]) rfl Tryz.underlying26 rfl ?_; simp only [zn]; refine zx 4 ?_
       refine zw (by first | rfl | simp [Region.wanted, yielded]) rfl Tryz.underlying26 rfl ?_; simp only [zn]; refine zx 32 ?_
       refine wpList_nil ?_; go_upto_region 2 with fail
       refine wp_region_lit ?_; refine zx 1 ?_; refine wpList_nil ?_; go_wp2; go_ret; exact ⟨rfl, B⟩
      ·by_cases h6 : s.pha < 0
       ·have q0 : decide ((s.pts.length : Int) < 1) = false := decide_eq_false h0
        have q1 : decide (64 < (s.pts.length : Int)) = false := decide_eq_false h1; have q2 : decide (s.rad < 1) = false := decide_eq_false h2; have q3 : decide (256 < s.rad) = false := decide_eq_false h3; have q4 : decide (s.spa < 1) = false := decide_eq_false h4; have q5 : decide (4096 < s.spa) = false := decide_eq_false h5; have q6 : decide (s.pha < 0) = true := decide_eq_true h6; have p0 : decide (s.pts.length < 1) = false := decide_eq_false (by omega); have p1 : decide (64 < s.pts.length) = false := decide_eq_false (by omega); obtain rfl : b = false := by rw [← e]; exact xx (by omega)
        clear e; go_enter Tryz.func17, Tryz.ntmps17
        go_upto_region 0 with fail
        refine wp_region_lit ?_
        (refine zt (t := 30) rfl _ rfl _ rfl (zV B ?_); clear B; intro b_r1 wn zb zd r1 za zf zk B; (try have zh := r1.lt); (try replace r1 := r1.below (za.mono zb)); (try have zh := rs.lt); (try replace rs := rs.below (za.mono zb)); simp only [zn])
        refine zx 1 ?_; refine wpList_nil ?_; go_upto_region 1 with fail
        refine wp_region_lit ?_; refine zx 2 ?_
        refine zw (by first | rfl | simp [Region.wanted, yielded]) rfl Tryz.underlying26 rfl ?_; simp only [zn]; refine zx 4 ?_
        refine zw (by first | rfl | simp [Region.wanted, yielded]) rfl Tryz.underlying26 rfl ?_; simp only [zn]; refine zx 32 ?_
        refine wpList_nil ?_; go_upto_region 2 with fail
        refine wp_region_lit ?_; refine zx 1 ?_; refine wpList_nil ?_; go_wp2; go_ret; exact ⟨rfl, B⟩
       ·by_cases h7 : 1048575 < s.pha
        ·have q0 : decide ((s.pts.length : Int) < 1) = false := decide_eq_false h0
         have q1 : decide (64 < (s.pts.length : Int)) = false := decide_eq_false h1; have q2 : decide (s.rad < 1) = false := decide_eq_false h2; have q3 : decide (256 < s.rad) = false := decide_eq_false h3; have q4 : decide (s.spa < 1) = false := decide_eq_false h4; have q5 : decide (4096 < s.spa) = false := decide_eq_false h5; have q6 : decide (s.pha < 0) = false := decide_eq_false h6; have q7 : decide (1048575 < s.pha) = true := decide_eq_true h7; have p0 : decide (s.pts.length < 1) = false := decide_eq_false (by omega); have p1 : decide (64 < s.pts.length) = false := decide_eq_false (by omega); obtain rfl : b = false := by rw [← e]; exact xx (by omega)
         clear e; go_enter Tryz.func17, Tryz.ntmps17
         go_upto_region 0 with fail
         refine wp_region_lit ?_
         (refine zt (t := 30) rfl _ rfl _ rfl (zV B ?_); clear B; intro b_r1 wn zb zd r1 za zf zk B; (try have zh := r1.lt); (try replace r1 := r1.below (za.mono zb)); (try have zh := rs.lt); (try replace rs := rs.below (za.mono zb)); simp only [zn])
         refine zx 1 ?_; refine wpList_nil ?_; go_upto_region 1 with fail
         refine wp_region_lit ?_; refine zx 2 ?_
         refine zw (by first | rfl | simp [Region.wanted, yielded]) rfl Tryz.underlying26 rfl ?_; simp only [zn]; refine zx 4 ?_
         refine zw (by first | rfl | simp [Region.wanted, yielded]) rfl Tryz.underlying26 rfl ?_; simp only [zn]; refine zx 32 ?_
         refine wpList_nil ?_; go_upto_region 2 with fail
         refine wp_region_lit ?_; refine zx 1 ?_; refine wpList_nil ?_; go_wp2; go_ret; exact ⟨rfl, B⟩
        ·have q0 : decide ((s.pts.length : Int) < 1) = false := decide_eq_false h0
         have q1 : decide (64 < (s.pts.length : Int)) = false := decide_eq_false h1; have q2 : decide (s.rad < 1) = false := decide_eq_false h2; have q3 : decide (256 < s.rad) = false := decide_eq_false h3; have q4 : decide (s.spa < 1) = false := decide_eq_false h4; have q5 : decide (4096 < s.spa) = false := decide_eq_false h5; have q6 : decide (s.pha < 0) = false := decide_eq_false h6; have q7 : decide (1048575 < s.pha) = false := decide_eq_false h7; have p0 : decide (s.pts.length < 1) = false := decide_eq_false (by omega); have p1 : decide (64 < s.pts.length) = false := decide_eq_false (by omega); have HV := VC (s := s) (by omega); rw [HV] at e; clear HV; go_enter Tryz.func17, Tryz.ntmps17
         go_upto_region 0 with fail
         refine wp_region_lit ?_
         (refine zt (t := 30) rfl _ rfl _ rfl (zV B ?_); clear B; intro b_r1 wn zb zd r1 za zf zk B; (try have zh := r1.lt); (try replace r1 := r1.below (za.mono zb)); (try have zh := rs.lt); (try replace rs := rs.below (za.mono zb)); simp only [zn])
         refine zx 1 ?_; refine wpList_nil ?_; go_upto_region 1 with fail
         refine wp_region_lit ?_; refine zx 2 ?_
         refine zw (by first | rfl | simp [Region.wanted, yielded]) rfl Tryz.underlying26 rfl ?_; simp only [zn]; refine zx 4 ?_
         refine zw (by first | rfl | simp [Region.wanted, yielded]) rfl Tryz.underlying26 rfl ?_; simp only [zn]; refine zx 32 ?_
         refine wpList_nil ?_; have HLE := ut s.pts; have HOI := zbH s.pts; obtain ⟨m, hm⟩ : ∃ m, idxS s.pts = m := ⟨_, rfl⟩; have HLT := Lib.hid (fun k (h : k < idxS s.pts) => JL h); have HAT := Lib.hid (fun (h : idxS s.pts < s.pts.length) => JK h); rw [hm] at HLE HOI HLT HAT; have E := Lib.hid e; have HO := Lib.hid HOI; have HB1 := B.size; clear rs e hm HOI; go_wp2; go_loopw [3] (fun iv wr => ∃ k : Nat, k ≤ m ∧ iv = .int .i64 (k : Int) ∧ Below w.heap.size w wr ∧ zF 30 wr b_r1 (qw (.slice a s.pts.length c) s)) (fun iv _ => (s.pts.length - intOf iv).toNat)
         case atStart => exact ⟨0, by omega, rfl, B, r1⟩
         case round =>
          clear B r1; obtain ⟨k, hk, rfl, B, r1⟩ := hrel; by_cases hkl : k < s.pts.length
          ·have q8 : decide ((k : Int) < (s.pts.length : Int)) = true := decide_eq_true (by omega)
           have q9 : decide (k < s.pts.length) = true := decide_eq_true hkl; obtain ⟨g, o, rfl, pc0⟩ := HS.out.at (by omega); have pc := pc0.of_eq (B.block _ pc0.lt); clear pc0; have hp := qW hkl; have k1 := r1.lt; by_cases hki : k < m
           ·have HB := Lib.hid (show wW (qR s.pts k) = false from HLT.out k hki)
            generalize hx1 : qR s.pts k = x1 at *
            clear hx1; go_upto_region 4 with fail
            refine wp_region_lit ?_; refine zx 3 ?_
            refine zw (by first | rfl | simp [Region.wanted, yielded]) rfl Tryz.underlying26 rfl ?_; simp only [zn]; refine zx 1 ?_; refine wpList_nil ?_; go_upto_region 6 with fail
            refine wp_region_lit ?_; refine jG 5 ?_
            repeat (first | go_big_quiet_skip | (go_big_quiet_want; first | ((first | refine zo (t := 43) rfl _ _ _ rfl (fun w hw => (jt pc w hw).load Tryz.isAgg43 hp) (by first | rfl | omega) ?_ | refine qB ?_ | refine qC ?_); simp only [zn]; go_big_quiet_on) | (go_big_quiet_op; go_big_quiet_on)))
            refine wpQuiet_nil ?_
            (refine zr (t := 43) rfl _ (xr _ _ rfl) (zV B ?_); clear B; intro b_p4 wn zb zd p4 za zf zk B; (try have zh := r1.lt); (try replace r1 := r1.below (za.mono zb)); (try have zh := rs.lt); (try replace rs := rs.below (za.mono zb)); (try have zh := pc.lt); (try replace pc := pc.below (za.mono zb)); simp only [zn])
            (refine zp (t := 43) rfl _ _ rfl _ rfl _ rfl p4 (by kernel_rfl) rfl (by simp [qD, Value.oneCell']) (qt B (by omega) ?_); clear p4 B; intro wn p4 ze zf zg B; (try replace r1 := r1.of_eq (ze.block _ r1.lt (by omega))); simp only [zn])
            refine wpList_nil ?_; replace p4 : zF 43 _ b_p4 (qD.enc x1) := p4; have e3 := HB.out; rw [Y7] at e3; rw [Bool.or_eq_false_iff, Bool.or_eq_false_iff, Bool.or_eq_false_iff, Bool.not_eq_false', Bool.not_eq_false'] at e3; obtain ⟨e4, e5, e6, e7⟩ := e3; have H4 := Lib.hid e4; have H5 := Lib.hid e5; clear e4 e5; go_upto_region 7 with fail
            refine wp_region_lit ?_; refine zx 2 ?_
            refine qE (enters_of Tryz.func55 (by kernel_rfl) rfl) (c := kN x1.x true _ H4.out) (h := ?_); rintro e wn ⟨rfl, za⟩; have zf := B.size; have zg := za.size; replace B := B.trans (za.mono B.size)
            (try replace r1 := r1.below za)
            (try replace p4 := p4.below za)
            (try replace rs := rs.below za)
            (try replace pc := pc.below za)
            refine ⟨_, rfl, ?_⟩; simp only [zn]; refine zx 4 ?_
            refine qE (enters_of Tryz.func55 (by kernel_rfl) rfl) (c := kN x1.y true _ H5.out) (h := ?_); rintro e wn ⟨rfl, za⟩; have zf := B.size; have zg := za.size; replace B := B.trans (za.mono B.size)
            (try replace r1 := r1.below za)
            (try replace p4 := p4.below za)
            (try replace rs := rs.below za)
            (try replace pc := pc.below za)
            refine ⟨_, rfl, ?_⟩; simp only [zn]; refine zx 12 ?_
            refine wpList_nil ?_; go_upto_region 5 with fail
            refine wp_region_lit ?_; refine zx 3 ?_; refine wpList_nil ?_; go_wp2; go_roundw
            case rel => exact ⟨k + 1, by omega, by go_num, B, r1⟩
            case measure => simp [intOf]; omega
           ·have HB := Lib.hid (show wW (qR s.pts k) = true from by rw [show k = m by omega]; exact HAT.out (by omega))
            generalize hx1 : qR s.pts k = x1 at *
            clear hx1; go_upto_region 4 with fail
            refine wp_region_lit ?_; refine zx 3 ?_
            refine zw (by first | rfl | simp [Region.wanted, yielded]) rfl Tryz.underlying26 rfl ?_; simp only [zn]; refine zx 1 ?_; refine wpList_nil ?_; go_upto_region 6 with fail
            refine wp_region_lit ?_; refine jG 5 ?_
            repeat (first | go_big_quiet_skip | (go_big_quiet_want; first | ((first | refine zo (t := 43) rfl _ _ _ rfl (fun w hw => (jt pc w hw).load Tryz.isAgg43 hp) (by first | rfl | omega) ?_ | refine qB ?_ | refine qC ?_); simp only [zn]; go_big_quiet_on) | (go_big_quiet_op; go_big_quiet_on)))
            refine wpQuiet_nil ?_
            (refine zr (t := 43) rfl _ (xr _ _ rfl) (zV B ?_); clear B; intro b_p4 wn zb zd p4 za zf zk B; (try have zh := r1.lt); (try replace r1 := r1.below (za.mono zb)); (try have zh := p4.lt); (try replace p4 := p4.below (za.mono zb)); (try have zh := rs.lt); (try replace rs := rs.below (za.mono zb)); (try have zh := pc.lt); (try replace pc := pc.below (za.mono zb)); simp only [zn])
            (refine zp (t := 43) rfl _ _ rfl _ rfl _ rfl p4 (by kernel_rfl) rfl (by simp [qD, Value.oneCell']) (qt B (by omega) ?_); clear p4 B; intro wn p4 ze zf zg B; (try replace r1 := r1.of_eq (ze.block _ r1.lt (by omega))); simp only [zn])
            refine wpList_nil ?_; replace p4 : zF 43 _ b_p4 (qD.enc x1) := p4; have e3 := HB.out; rw [Y7] at e3; have HF := Lib.hid (show Ending.returned (.bool false) = Ending.returned (.bool b) from by rw [← E.out, show vm s.pts = false from by cases h : vm s.pts with | false => rfl | true => (have := HO.out.1 h; omega)]; rfl)
            obtain ⟨i1, hi1⟩ : ∃ i, wF x1.x = i := ⟨_, rfl⟩; obtain ⟨i2, hi2⟩ : ∃ i, wF x1.y = i := ⟨_, rfl⟩; rw [hi1, hi2] at e3; have H4 := Lib.hid hi1; have H5 := Lib.hid hi2; clear hi1 hi2; cases i1 with
            | false =>
             clear e3; go_upto_region 7 with fail
             refine wp_region_lit ?_; refine zx 2 ?_
             refine qE (enters_of Tryz.func55 (by kernel_rfl) rfl) (c := kN x1.x false _ H4.out) (h := ?_); rintro e wn ⟨rfl, za⟩; have zf := B.size; have zg := za.size; replace B := B.trans (za.mono B.size)
             (try replace r1 := r1.below za)
             (try replace p4 := p4.below za)
             (try replace rs := rs.below za)
             (try replace pc := pc.below za)
             refine ⟨_, rfl, ?_⟩; simp only [zn]; refine zx 4 ?_
             refine zH ?hs33_7 ?_
             case hs33_7 => kernel_rfl
             simp only [zn]; refine zx 12 ?_
             refine wpList_nil ?_; go_upto_region 8 with fail
             refine wp_region_lit ?_; refine zx 1 ?_; refine wpList_nil ?_; go_wp2; go_ret; exact ⟨HF.out, B⟩
            | true =>
             cases i2 with
             | false =>
              clear e3; go_upto_region 7 with fail
              refine wp_region_lit ?_; refine zx 2 ?_
              refine qE (enters_of Tryz.func55 (by kernel_rfl) rfl) (c := kN x1.x true _ H4.out) (h := ?_); rintro e wn ⟨rfl, za⟩; have zf := B.size; have zg := za.size; replace B := B.trans (za.mono B.size)
              (try replace r1 := r1.below za)
              (try replace p4 := p4.below za)
              (try replace rs := rs.below za)
              (try replace pc := pc.below za)
              refine ⟨_, rfl, ?_⟩; simp only [zn]; refine zx 4 ?_
              refine qE (enters_of Tryz.func55 (by kernel_rfl) rfl) (c := kN x1.y false _ H5.out) (h := ?_); rintro e wn ⟨rfl, za⟩; have zf := B.size; have zg := za.size; replace B := B.trans (za.mono B.size)
              (try replace r1 := r1.below za)
              (try replace p4 := p4.below za)
              (try replace rs := rs.below za)
              (try replace pc := pc.below za)
              refine ⟨_, rfl, ?_⟩; simp only [zn]; refine zx 12 ?_
              refine wpList_nil ?_; go_upto_region 8 with fail
              refine wp_region_lit ?_; refine zx 1 ?_; refine wpList_nil ?_; go_wp2; go_ret; exact ⟨HF.out, B⟩
             | true =>
              obtain ⟨i3, hi3⟩ : ∃ i, decide (x1.p < 0) = i := ⟨_, rfl⟩; obtain ⟨i4, hi4⟩ : ∃ i, decide (255 < x1.p) = i := ⟨_, rfl⟩; rw [hi3, hi4] at e3; have e6 : (i3 || i4) = true := by rw [← e3]; cases i3 <;> cases i4 <;> rfl
              clear e3; cases i3 with
              | true =>
               clear e6; go_upto_region 7 with fail
               refine wp_region_lit ?_; refine zx 2 ?_
               refine qE (enters_of Tryz.func55 (by kernel_rfl) rfl) (c := kN x1.x true _ H4.out) (h := ?_); rintro e wn ⟨rfl, za⟩; have zf := B.size; have zg := za.size; replace B := B.trans (za.mono B.size)
               (try replace r1 := r1.below za)
               (try replace p4 := p4.below za)
               (try replace rs := rs.below za)
               (try replace pc := pc.below za)
               refine ⟨_, rfl, ?_⟩; simp only [zn]; refine zx 4 ?_
               refine qE (enters_of Tryz.func55 (by kernel_rfl) rfl) (c := kN x1.y true _ H5.out) (h := ?_); rintro e wn ⟨rfl, za⟩; have zf := B.size; have zg := za.size; replace B := B.trans (za.mono B.size)
               (try replace r1 := r1.below za)
               (try replace p4 := p4.below za)
               (try replace rs := rs.below za)
               (try replace pc := pc.below za)
               refine ⟨_, rfl, ?_⟩; simp only [zn]; refine zx 12 ?_
               refine wpList_nil ?_; go_upto_region 8 with fail
               refine wp_region_lit ?_; refine zx 1 ?_; refine wpList_nil ?_; go_wp2; go_ret; exact ⟨HF.out, B⟩
              | false =>
               obtain rfl : i4 = true := e6; go_upto_region 7 with fail
               refine wp_region_lit ?_; refine zx 2 ?_
               refine qE (enters_of Tryz.func55 (by kernel_rfl) rfl) (c := kN x1.x true _ H4.out) (h := ?_); rintro e wn ⟨rfl, za⟩; have zf := B.size; have zg := za.size; replace B := B.trans (za.mono B.size)
               (try replace r1 := r1.below za)
               (try replace p4 := p4.below za)
               (try replace rs := rs.below za)
               (try replace pc := pc.below za)
               refine ⟨_, rfl, ?_⟩; simp only [zn]; refine zx 4 ?_
               refine qE (enters_of Tryz.func55 (by kernel_rfl) rfl) (c := kN x1.y true _ H5.out) (h := ?_); rintro e wn ⟨rfl, za⟩; have zf := B.size; have zg := za.size; replace B := B.trans (za.mono B.size)
               (try replace r1 := r1.below za)
               (try replace p4 := p4.below za)
               (try replace rs := rs.below za)
               (try replace pc := pc.below za)
               refine ⟨_, rfl, ?_⟩; simp only [zn]; refine zx 12 ?_
               refine wpList_nil ?_; go_upto_region 8 with fail
               refine wp_region_lit ?_; refine zx 1 ?_; refine wpList_nil ?_; go_wp2; go_ret; exact ⟨HF.out, B⟩
          ·have q8 : decide ((k : Int) < (s.pts.length : Int)) = false := decide_eq_false (by omega)
           have q9 : decide (k < s.pts.length) = false := decide_eq_false hkl; have hml : m = s.pts.length := by omega
           have hok := HO.out.2 hml; have HOP := Lib.hid (Q9 hok); have e2 := E.out; rw [hok, Bool.true_and] at e2; have rs := HS.out.below B; by_cases h1 : s.pts.length = 1
           ·have q10 : ((s.pts.length : Int) == 1) = true := by rw [h1]; rfl
            have q11 : decide ((s.pts.length : Int) = 1) = true := decide_eq_true (by omega); have q12 : (s.pts.length == 1) = true := by rw [h1]; rfl
            have q13 : decide (s.pts.length = 1) = true := decide_eq_true h1; have HF := Lib.hid (show Ending.returned (.bool true) = Ending.returned (.bool b) from by rw [← e2, zc8 h1 (by omega) (by omega)]); clear e2 h1 hok hml; go_upto_region 4 with fail
            refine wp_region_lit ?_; refine zx 3 ?_
            refine zw (by first | rfl | simp [Region.wanted, yielded]) rfl Tryz.underlying26 rfl ?_; simp only [zn]; refine zx 1 ?_; refine wpList_nil ?_; go_upto_region 9 with fail
            try have lx_r1 := r1.lt
            try have lx_p4 := p4.lt
            try have lx_rs := rs.lt
            try have lx_pc := pc.lt
            refine zL 17 [(2, zP ?v1_2)] (by kernel_rfl) (by kernel_rfl) (by kernel_rfl) ?_
            rotate_left 1
            simp only [jU, Nat.reduceAdd]; refine vC 2 ?_
            refine zz (by rfl) (by first | rfl | simp [Region.wanted, yielded]) ?_ ?_
            ·intro wn za hE Kx hKx
             have zf := B.size; have zg := za.size; replace B := B.trans (za.mono B.size)
             (try replace r1 := r1.below za)
             (try replace p4 := p4.below za)
             (try replace rs := rs.below za)
             (try replace pc := pc.below za)
             refine vg rfl Tryz.underlying26 rfl ?_; exact hKx () _ trivial (Below.refl _ _)
            rintro ⟨⟩
            dsimp only [zP]
            simp only [zn]; refine vC 10 ?_
            refine Zc ?hw1_13 ?_
            case hw1_13 => kernel_rfl
            simp only [zn]; refine vC 3 ?_; refine qz ?_; intro wn za hE; have zf := B.size; have zg := za.size; replace B := B.trans (za.mono B.size)
            (try replace r1 := r1.below za)
            (try replace p4 := p4.below za)
            (try replace rs := rs.below za)
            (try replace pc := pc.below za)
            clear hE; try simp only [List.drop_succ_cons, List.drop_zero]
            refine zQ.normal ?_; go_wp2; go_ret; exact ⟨HF.out, B⟩
           ·have q10 : ((s.pts.length : Int) == 1) = false := by simp; omega
            have q11 : decide ((s.pts.length : Int) = 1) = false := decide_eq_false (by omega); have q12 : (s.pts.length == 1) = false := by simp; omega
            have q13 : decide (s.pts.length = 1) = false := decide_eq_false h1; have HTT : 0 ≤ jI s.pts ∧ jI s.pts ≤ 189812544 := by
             have h1 := wl HOP.out (s.pts.length - 1) (by omega); exact ⟨kR _ _, by show qi s.pts (s.pts.length - 1) ≤ _; omega⟩
            rw [zc7 s (.inr trivial)] at e2; obtain ⟨t, ht⟩ : ∃ t, jI s.pts = t := ⟨_, rfl⟩; rw [ht] at e2 HTT; have HT := Lib.hid ht; have HF := Lib.hid (show Ending.returned (.bool (decide (t ≤ s.pha + 1024 * s.spa))) = Ending.returned (.bool b) from by rw [e2]); clear e2 hok hml ht h1; go_upto_region 4 with fail
            refine wp_region_lit ?_; refine zx 3 ?_
            refine zw (by first | rfl | simp [Region.wanted, yielded]) rfl Tryz.underlying26 rfl ?_; simp only [zn]; refine zx 1 ?_; refine wpList_nil ?_; go_upto_region 9 with fail
            try have lx_r1 := r1.lt
            try have lx_p4 := p4.lt
            try have lx_rs := rs.lt
            try have lx_pc := pc.lt
            refine zL 17 [(2, zP ?v2_2), (13, zP ?v2_13)] (by kernel_rfl) (by kernel_rfl) (by kernel_rfl) ?_
            rotate_left 2
            simp only [jU, Nat.reduceAdd]; refine vC 2 ?_
            refine zz (by rfl) (by first | rfl | simp [Region.wanted, yielded]) ?_ ?_
            ·intro wn za hE Kx hKx
             have zf := B.size; have zg := za.size; replace B := B.trans (za.mono B.size)
             (try replace r1 := r1.below za)
             (try replace rs := rs.below za)
             refine vg rfl Tryz.underlying26 rfl ?_; exact hKx () _ trivial (Below.refl _ _)
            rintro ⟨⟩
            dsimp only [zP]
            simp only [zn]; refine vC 10 ?_
            refine zz (by rfl) ?hw2_13 ?_ ?_
            case hw2_13 => kernel_rfl
            ·intro wn za hE Kx hKx
             have zf := B.size; have zg := za.size; replace B := B.trans (za.mono B.size)
             (try replace rs := rs.below za)
             refine zS rfl (enters_of Tryz.func56 (by kernel_rfl) rfl) (by simp only [Act.eval, qI]; rfl) ?_
             refine (Vb _ s.pts t wn rs (by omega) HOP.out HT.out).mono ?_; rintro e wm ⟨rfl, zl⟩; refine ⟨_, rfl, ?_⟩; have hz := hKx () wm trivial zl
             dsimp only [zP] at hz
             exact hz
            rintro ⟨⟩
            dsimp only [zP]
            simp only [zn]; refine vC 3 ?_; refine qz ?_; intro wn za hE; have zf := B.size; have zg := za.size; replace B := B.trans (za.mono B.size); clear hE; try simp only [List.drop_succ_cons, List.drop_zero]
            refine zQ.normal ?_; go_wp2; go_ret; exact ⟨HF.out, B⟩
/-! ### Cover -/
end Go.Proofs.YtepelndbbhdofaaGreatDoor
/- Contracts of Bytes of package stroke and of its reference. -/
namespace Go.Proofs.YtepelndbbhdofaaGreatDoor
open Go.RowKit Sha Pl
set_option linter.unusedVariables false
set_option linter.unusedSimpArgs false
set_option maxRecDepth 20000
theorem zcQ (B0 b : Nat) (l : List UInt8) (z : Int) (w : World) (h : xM B0 b l w) (hz : 0 ≤ z ∧ z < 16777216) (hlen : l.length ≤ 100000) (hBw : B0 ≤ w.heap.size) : Calls Tryz.prog 82 #[.int .i64 z, .int .i64 1, .pointer (some ⟨b, 0, none⟩)] w fun e w' => (∃ v, e = .returned v) ∧ UB B0 b (l ++ jb z.toNat 1) w' ∧ Below B0 w w' := by
 obtain ⟨n, rfl⟩ : ∃ n : Nat, z = n := ⟨z.toNat, by omega⟩
 exact zcN B0 b l n w h (by omega) hlen hBw
theorem Y4 (B0 b : Nat) (l : List UInt8) (z : Int) (w : World) (h : UB B0 b l w) (hz : 0 ≤ z ∧ z < 16777216) (hlen : l.length ≤ 100000) (hBw : B0 ≤ w.heap.size) : Calls Tryz.prog 82 #[.int .i64 z, .int .i64 1, .pointer (some ⟨b, 0, none⟩)] w fun e w' => (∃ v, e = .returned v) ∧ UB B0 b (l ++ jb z.toNat 1) w' ∧ Below B0 w w' ∧ KB b w w' := by
 obtain ⟨n, rfl⟩ : ∃ n : Nat, z = n := ⟨z.toNat, by omega⟩
 exact zef B0 b l n w h (by omega) hlen hBw
theorem zaV (B0 b : Nat) (l : List UInt8) (z : Int) (w : World) (h : UB B0 b l w) (hz : 0 ≤ z ∧ z < 16777216) (hlen : l.length ≤ 100000) (hBw : B0 ≤ w.heap.size) : Calls Tryz.prog 82 #[.int .i64 z, .int .i64 2, .pointer (some ⟨b, 0, none⟩)] w fun e w' => (∃ v, e = .returned v) ∧ UB B0 b (l ++ jb z.toNat 2) w' ∧ Below B0 w w' ∧ KB b w w' := by
 obtain ⟨n, rfl⟩ : ∃ n : Nat, z = n := ⟨z.toNat, by omega⟩
 exact zeg B0 b l n w h (by omega) hlen hBw
theorem Jz (B0 b : Nat) (l : List UInt8) (z : Int) (w : World) (h : UB B0 b l w) (hz : 0 ≤ z ∧ z < 16777216) (hlen : l.length ≤ 100000) (hBw : B0 ≤ w.heap.size) : Calls Tryz.prog 82 #[.int .i64 z, .int .i64 3, .pointer (some ⟨b, 0, none⟩)] w fun e w' => (∃ v, e = .returned v) ∧ UB B0 b (l ++ jb z.toNat 3) w' ∧ Below B0 w w' ∧ KB b w w' := by
 obtain ⟨n, rfl⟩ : ∃ n : Nat, z = n := ⟨z.toNat, by omega⟩
 exact zeh B0 b l n w h (by omega) hlen hBw
theorem WL (l : List Sp) {k : Nat} {p : Sp} (h : l[k]? = some p) : xi (l.take (k + 1)) = xi (l.take k) ++ WJ p := by
 rw [List.take_add_one, h]
 exact WK _ _
set_option maxHeartbeats 8000000 in
theorem ZR (v : Value) (s : qv) (L : List UInt8) (w : World) (rs : jF qD v s.pts w) (hn : s.pts.length ≤ 17592186044416) (hcol : s.col.ok) (e : xS s = L) : Calls Tryz.prog 33 #[.agg (qw v s)] w fun e w' => e = .returned (.string (xT L)) ∧ Below w.heap.size w w' := by
 have B := Below.refl w.heap.size w
 obtain ⟨a, c, rfl, hc⟩ := rs.len
 cases hv : qM s with
 | false =>
  have hL : L = [] := by rw [← e]; unfold xS; rw [hv]; rfl
  subst hL; have HV := Lib.hid hv; clear hv e; go_enter Tryz.func33, Tryz.ntmps33
  go_upto_region 0 with fail
  refine wp_region_lit ?_
  (refine zt (t := 30) rfl _ rfl _ rfl (zV B ?_); clear B; intro b_r1 wn zb zd r1 za zf zk B; (try have zh := rs.lt); (try replace rs := rs.below (za.mono zb)); simp only [zn])
  refine zx 1 ?_; refine wpList_nil ?_; go_upto_region 1 with fail
  refine wp_region_lit ?_; refine zx 1 ?_
  refine qE (enters_of Tryz.func16 (by kernel_rfl) rfl) (c := jh _ s false _ rs hn HV.out) (h := ?_); rintro e wn ⟨rfl, za⟩; have zf := B.size; have zg := za.size; replace B := B.trans (za.mono B.size)
  (try replace r1 := r1.below za)
  (try replace rs := rs.below za)
  refine ⟨_, rfl, ?_⟩; simp only [zn]; refine zx 1 ?_; refine wpList_nil ?_; go_upto_region 2 with fail
  refine wp_region_lit ?_; refine zx 1 ?_; refine wpList_nil ?_; go_wp2; go_ret; exact ⟨rfl, B⟩
 | true =>
  have hL : qV s = L := by rw [← e]; unfold xS; rw [hv]; rfl
  have HL := Lib.hid hL; have HVS := Lib.hid ((jj s).1 hv); have HV := Lib.hid hv; have hl1 := HVS.out.l1; have hl2 := HVS.out.l2; have v1 := HVS.out.r1; have v2 := HVS.out.r2; have v3 := HVS.out.s1; have v4 := HVS.out.s2; have v5 := HVS.out.p1; have v6 := HVS.out.p2; obtain ⟨g, o, rfl, pc⟩ := rs.at (by omega); have hg0 := pc.lt; have HCOL := Lib.hid hcol; clear hv e hL hcol; go_enter Tryz.func33, Tryz.ntmps33
  go_upto_region 0 with fail
  refine wp_region_lit ?_
  (refine zt (t := 30) rfl _ rfl _ rfl (zV B ?_); clear B; intro b_r1 wn zb zd r1 za zf zk B; (try have zh := r1.lt); (try replace r1 := r1.below (za.mono zb)); (try have zh := pc.lt); (try replace pc := pc.below (za.mono zb)); (try have zh := rs.lt); (try replace rs := rs.below (za.mono zb)); simp only [zn])
  refine zx 1 ?_; refine wpList_nil ?_; have k1 : w.heap.size ≤ b_r1 := by omega
  go_upto_region 1 with fail
  refine wp_region_lit ?_; refine zx 1 ?_
  refine qE (enters_of Tryz.func16 (by kernel_rfl) rfl) (c := jh _ s true _ rs hn HV.out) (h := ?_); rintro e wn ⟨rfl, za⟩; have zf := B.size; have zg := za.size; replace B := B.trans (za.mono B.size)
  (try replace r1 := r1.below za)
  (try replace pc := pc.below za)
  (try replace rs := rs.below za)
  refine ⟨_, rfl, ?_⟩; simp only [zn]; refine zx 1 ?_; refine wpList_nil ?_; clear rs; have hr1 := r1.lt; go_upto_region 3 with fail
  refine wp_region_lit ?_
  (refine QS rfl rfl (zV B ?_); clear B; intro b_bd wn zb zd bd za zf zk B; (try have zh := r1.lt); (try replace r1 := r1.below (za.mono zb)); (try have zh := pc.lt); (try replace pc := pc.below (za.mono zb)); simp only [zn])
  refine wpList_nil ?_; have k2 : b_r1 < b_bd := by omega
  have k3 : g < b_bd := by omega
  have hbl := bd.lt; go_upto_region 4 with fail
  refine wp_region_lit ?_
  (refine zM rfl (.func (.func 82) #[] #[.pointer (some ⟨b_bd, 0, none⟩)]) (by first | rfl | simp [go_sem, Act.eval]) ?_; simp only [zn])
  refine zx 1 ?_; refine wpList_nil ?_; go_upto_region 5 with fail
  refine wp_region_lit ?_; refine zx 3 ?_
  refine zw (by first | rfl | simp [Region.wanted, yielded]) rfl Tryz.underlying26 rfl ?_; simp only [zn]; refine qG (by first | rfl | simp [Region.wanted, yielded]) rfl (by simp only [Act.eval, qI]; rfl) (enters_of Tryz.func82 (by kernel_rfl) rfl) (by simp only [Act.eval, qI]; rfl) ?_
  refine (zcQ b_bd b_bd ([]) ((s.pts.length : Int)) _ bd (by omega) (by simp) (by omega)).mono ?_; rintro e wn ⟨⟨_, rfl⟩, hu, za⟩; have zf := B.size; have zg := za.size; replace B := B.trans (za.mono (by omega)); replace r1 := r1.of_eq (za.block _ (by omega)); replace pc := pc.of_eq (za.block _ (by omega)); clear bd; have bd := hu; clear hu; refine ⟨_, rfl, ?_⟩; simp only [zn]; refine wpList_nil ?_; rw [List.nil_append, Int.toNat_natCast] at bd; go_upto_region 6 with fail
  refine wp_region_lit ?_; refine zx 2 ?_
  refine zw (by first | rfl | simp [Region.wanted, yielded]) rfl Tryz.underlying26 rfl ?_; simp only [zn]; refine zx 1 ?_; refine wpList_nil ?_; clear hbl; go_wp2; go_loopw [6, 20] (fun _ iv wr => ∃ k : Nat, k ≤ s.pts.length ∧ iv = .int .i64 (k : Int) ∧ Below w.heap.size w wr ∧ zF 30 wr b_r1 (qw (.slice (some ⟨g, o, none⟩) s.pts.length c) s) ∧ zK qD g o s.pts wr ∧ UB b_bd b_bd ((jb s.pts.length 1) ++ xi (s.pts.take k)) wr) (fun _ iv _ => (s.pts.length - intOf iv).toNat)
  case atStart => exact ⟨0, by omega, rfl, B, r1, pc, by rw [List.take_zero]; exact bd⟩
  case round =>
   clear B r1 pc bd; obtain ⟨k, hk, rfl, B, r1, pc, bd⟩ := hrel; have hbl := bd.lt; by_cases hkl : k < s.pts.length
   ·have q1 : decide ((k : Int) < (s.pts.length : Int)) = true := decide_eq_true (by omega)
    have q2 : decide (k < s.pts.length) = true := decide_eq_true hkl; have hp := qW hkl; have OKP := HVS.out.pt hkl; have hst := WL s.pts hp
    generalize hx1 : qR s.pts k = x1 at *
    clear hx1; have HST := Lib.hid hst; clear hst; obtain ⟨o1, o2, o3, o4, o5, o6⟩ := OKP; obtain ⟨l0, hl0⟩ : ∃ l, (jb s.pts.length 1) ++ xi (s.pts.take k) = l := ⟨_, rfl⟩; have hl0n : l0.length ≤ 449 := by rw [← hl0, List.length_append, zC, yW, List.length_take]; omega
    rw [hl0] at bd; have HL0 := Lib.hid hl0; clear hl0; go_upto_region 7 with fail
    refine wp_region_lit ?_; refine zx 1 ?_; refine wpList_nil ?_; have BW := B; have hws := B.size; have HBD := Lib.hid bd; obtain ⟨wR, hwR⟩ : ∃ z, z = wr := ⟨_, rfl⟩; subst hwR; have B := Below.refl wR.heap.size wR; have hr1l := r1.lt; have hgl := pc.lt; go_upto_region 8 with fail
    refine wp_region_lit ?_; refine jG 2 ?_; repeat (first | go_big_quiet_skip | (go_big_quiet_want; first | ((first | refine zo (t := 43) rfl _ _ _ rfl (fun w hw => (jt pc w hw).load Tryz.isAgg43 hp) (by first | rfl | omega) ?_ | refine qB ?_ | refine qC ?_); simp only [zn]; go_big_quiet_on) | (go_big_quiet_op; go_big_quiet_on)))
    refine wpQuiet_nil ?_
    (refine zr (t := 43) rfl _ (xr _ _ rfl) (zV B ?_); clear B; intro b_t6 wn zb zd t6 za zf zk B; (try have zh := r1.lt); (try replace r1 := r1.below (za.mono zb)); (try have zh := pc.lt); (try replace pc := pc.below (za.mono zb)); simp only [zn])
    (refine zp (t := 43) rfl _ _ rfl _ rfl _ rfl t6 (by kernel_rfl) rfl (by simp [qD, Value.oneCell']) (qt B (by omega) ?_); clear t6 B; intro wn t6 ze zf zg B; (try replace r1 := r1.of_eq (ze.block _ r1.lt (by omega))); (try replace pc := pc.of_eq (ze.block _ pc.lt (by omega))); simp only [zn])
    refine wpList_nil ?_; replace t6 : zF 43 _ b_t6 (qD.enc x1) := t6; clear bd; have bd := HBD.out.below B; have k5 : b_bd < b_t6 := by omega
    have B0 := BW.trans (B.mono hws); clear B; have B := B0; clear B0 BW; go_upto_region 9 with fail
    refine wp_region_lit ?_; refine zx 4 ?_
    refine qG (by first | rfl | simp [Region.wanted, yielded]) rfl (by simp only [Act.eval, qI]; rfl) (enters_of Tryz.func82 (by kernel_rfl) rfl) (by simp only [Act.eval, qI]; rfl) ?_
    refine (Jz b_bd b_bd (l0) (x1.x + 1048576) _ bd (by omega) (by omega) (by omega)).mono ?_; rintro e wn ⟨⟨_, rfl⟩, hu, za, hkm⟩; have zf := B.size; have zg := za.size; replace B := B.trans (za.mono (by omega)); replace r1 := r1.of_eq (za.block _ (by omega)); replace pc := pc.of_eq (za.block _ (by omega)); replace t6 := hkm _ _ _ t6 (by omega) (by decide); clear bd; have bd := hu; clear hu; refine ⟨_, rfl, ?_⟩; simp only [zn]; refine wpList_nil ?_; go_upto_region 10 with fail
    refine wp_region_lit ?_; refine zx 4 ?_
    refine qG (by first | rfl | simp [Region.wanted, yielded]) rfl (by simp only [Act.eval, qI]; rfl) (enters_of Tryz.func82 (by kernel_rfl) rfl) (by simp only [Act.eval, qI]; rfl) ?_
    refine (Jz b_bd b_bd (l0 ++ jb (x1.x + 1048576).toNat 3) (x1.y + 1048576) _ bd (by omega) (by simp only [List.length_append, zC]; omega) (by omega)).mono ?_
    rintro e wn ⟨⟨_, rfl⟩, hu, za, hkm⟩; have zf := B.size; have zg := za.size; replace B := B.trans (za.mono (by omega)); replace r1 := r1.of_eq (za.block _ (by omega)); replace pc := pc.of_eq (za.block _ (by omega)); replace t6 := hkm _ _ _ t6 (by omega) (by decide); clear bd; have bd := hu; clear hu; refine ⟨_, rfl, ?_⟩; simp only [zn]; refine wpList_nil ?_; go_upto_region 11 with fail
    refine wp_region_lit ?_; refine zx 3 ?_
    refine qG (by first | rfl | simp [Region.wanted, yielded]) rfl (by simp only [Act.eval, qI]; rfl) (enters_of Tryz.func82 (by kernel_rfl) rfl) (by simp only [Act.eval, qI]; rfl) ?_
    refine (Y4 b_bd b_bd (l0 ++ jb (x1.x + 1048576).toNat 3 ++ jb (x1.y + 1048576).toNat 3) (x1.p) _ bd (by omega) (by simp only [List.length_append, zC]; omega) (by omega)).mono ?_
    rintro e wn ⟨⟨_, rfl⟩, hu, za, hkm⟩; have zf := B.size; have zg := za.size; replace B := B.trans (za.mono (by omega)); replace r1 := r1.of_eq (za.block _ (by omega)); replace pc := pc.of_eq (za.block _ (by omega)); replace t6 := hkm _ _ _ t6 (by omega) (by decide); clear bd; have bd := hu; clear hu; refine ⟨_, rfl, ?_⟩; simp only [zn]; refine wpList_nil ?_; have hfin : l0 ++ jb (x1.x + 1048576).toNat 3 ++ jb (x1.y + 1048576).toNat 3 ++ jb x1.p.toNat 1 = (jb s.pts.length 1) ++ xi (s.pts.take (k + 1)) := by
     rw [HST.out, ← HL0.out]; unfold WJ; simp only [List.append_assoc]
    rw [hfin] at bd; clear hfin; go_upto_region 12 with fail
    refine wp_region_lit ?_; refine zx 2 ?_; refine wpList_nil ?_; go_wp2; go_roundw
    case rel => exact ⟨k + 1, by omega, by go_num, B, r1, pc, bd⟩
    case measure => simp [intOf]; omega
   ·have q1 : decide ((k : Int) < (s.pts.length : Int)) = false := decide_eq_false (by omega)
    have q2 : decide (k < s.pts.length) = false := decide_eq_false hkl; obtain ⟨c1, c2, c3, c4⟩ := HCOL.out; obtain ⟨l0, hl0⟩ : ∃ l, (jb s.pts.length 1) ++ xi (s.pts.take k) = l := ⟨_, rfl⟩; have hl0n : l0.length ≤ 449 := by rw [← hl0, List.length_append, zC, yW, List.length_take]; omega
    have hl0f : l0 = (jb s.pts.length 1) ++ xi s.pts := by rw [← hl0, List.take_of_length_le (by omega)]
    rw [hl0] at bd; have HL0 := Lib.hid hl0f; clear hl0 hl0f; go_upto_region 7 with fail
    refine wp_region_lit ?_; refine zx 1 ?_; refine wpList_nil ?_; go_upto_region 13 with fail
    refine wp_region_lit ?_; refine zx 3 ?_
    refine qG (by first | rfl | simp [Region.wanted, yielded]) rfl (by simp only [Act.eval, qI]; rfl) (enters_of Tryz.func82 (by kernel_rfl) rfl) (by simp only [Act.eval, qI]; rfl) ?_
    refine (zaV b_bd b_bd (l0) (s.rad) _ bd (by omega) (by omega) (by omega)).mono ?_; rintro e wn ⟨⟨_, rfl⟩, hu, za, hkm⟩; have zf := B.size; have zg := za.size; replace B := B.trans (za.mono (by omega)); replace r1 := r1.of_eq (za.block _ (by omega)); replace pc := pc.of_eq (za.block _ (by omega)); clear bd; have bd := hu; clear hu; refine ⟨_, rfl, ?_⟩; simp only [zn]; refine wpList_nil ?_; go_upto_region 14 with fail
    refine wp_region_lit ?_; refine zx 3 ?_
    refine qG (by first | rfl | simp [Region.wanted, yielded]) rfl (by simp only [Act.eval, qI]; rfl) (enters_of Tryz.func82 (by kernel_rfl) rfl) (by simp only [Act.eval, qI]; rfl) ?_
    refine (zaV b_bd b_bd (l0 ++ jb s.rad.toNat 2) (s.spa) _ bd (by omega) (by simp only [List.length_append, zC]; omega) (by omega)).mono ?_
    rintro e wn ⟨⟨_, rfl⟩, hu, za, hkm⟩; have zf := B.size; have zg := za.size; replace B := B.trans (za.mono (by omega)); replace r1 := r1.of_eq (za.block _ (by omega)); replace pc := pc.of_eq (za.block _ (by omega)); clear bd; have bd := hu; clear hu; refine ⟨_, rfl, ?_⟩; simp only [zn]; refine wpList_nil ?_; go_upto_region 15 with fail
    refine wp_region_lit ?_; refine zx 12 ?_
    (refine YN rfl _ _ _ _ rfl s.col.r s.col.g s.col.b s.col.a c1 c2 c3 c4 rfl rfl rfl rfl (zV B ?_); clear B; intro b_b4 wn zb zd b4 za zf zk B; (try have zh := r1.lt); (try replace r1 := r1.below (za.mono zb)); (try have zh := pc.lt); (try replace pc := pc.below (za.mono zb)); (try have zh := bd.lt); (try replace bd := bd.below (za.mono zb)); simp only [zn])
    (refine x5 (s := 75) (d := 9) rfl _ rfl rfl (xW b4 (vG s.col) (0) _ (by simp [vG]) (fun i hi => by (have hi : i < 4 := hi); unfold vG; rw [Nat.zero_add, List.getD_eq_getElem?_getD, List.getElem?_eq_getElem hi]; rfl)) ?_; simp only [zn])
    refine qE (enters_of Tryz.func83 (by kernel_rfl) rfl) (c := zcF b_bd b_bd (l0 ++ jb s.rad.toNat 2 ++ jb s.spa.toNat 2) (xT (vG s.col)) _ bd (by rw [jk]; simp only [List.length_append, zC, vG, List.length_cons, List.length_nil]; omega) (by have := bd.lt; omega)) (h := ?_)
    rintro e wn ⟨⟨_, rfl⟩, hu, za, hkm⟩; have zf := B.size; have zg := za.size; replace B := B.trans (za.mono (by omega)); replace r1 := r1.of_eq (za.block _ (by omega)); replace pc := pc.of_eq (za.block _ (by omega)); clear bd; have bd := hu; clear hu; refine ⟨_, rfl, ?_⟩; simp only [zn]; refine wpList_nil ?_; rw [uW] at bd; obtain ⟨l1, hl1'⟩ : ∃ l, l0 ++ jb s.rad.toNat 2 ++ jb s.spa.toNat 2 ++ vG s.col = l := ⟨_, rfl⟩; have hl1n : l1.length ≤ 457 := by rw [← hl1']; simp only [List.length_append, zC, vG, List.length_cons, List.length_nil]; omega
    rw [hl1'] at bd; have HL1 := Lib.hid hl1'; clear hl1' b4; go_upto_region 16 with fail
    refine wp_region_lit ?_; refine zx 1 ?_; refine wpList_nil ?_; go_upto_region 17 with fail
    refine wp_region_lit ?_; refine zx 2 ?_
    refine wpList_nil ?_; cases hera : s.era with
    | true =>
     have hen : jb (Int.toNat 1) 1 = jb (vu s) 1 := by unfold vu; rw [hera]; rfl
     have HEN := Lib.hid hen; clear hera hen; go_upto_region 18 with fail
     refine wp_region_lit ?_; refine zx 1 ?_; refine wpList_nil ?_; go_upto_region 19 with fail
     refine wp_region_lit ?_; refine zx 2 ?_; refine qG (by first | rfl | simp [Region.wanted, yielded]) rfl (by simp only [Act.eval, qI]; rfl) (enters_of Tryz.func82 (by kernel_rfl) rfl) (by simp only [Act.eval, qI]; rfl) ?_
     refine (Y4 b_bd b_bd (l1) (1) _ bd (by omega) (by omega) (by omega)).mono ?_; rintro e wn ⟨⟨_, rfl⟩, hu, za, hkm⟩; have zf := B.size; have zg := za.size; replace B := B.trans (za.mono (by omega)); replace r1 := r1.of_eq (za.block _ (by omega)); replace pc := pc.of_eq (za.block _ (by omega)); clear bd; have bd := hu; clear hu; refine ⟨_, rfl, ?_⟩; simp only [zn]; refine wpList_nil ?_; rw [HEN.out] at bd; go_upto_region 20 with fail
     refine wp_region_lit ?_; refine zx 3 ?_
     refine qG (by first | rfl | simp [Region.wanted, yielded]) rfl (by simp only [Act.eval, qI]; rfl) (enters_of Tryz.func82 (by kernel_rfl) rfl) (by simp only [Act.eval, qI]; rfl) ?_
     refine (Jz b_bd b_bd (l1 ++ jb (vu s) 1) (s.pha) _ bd (by omega) (by simp only [List.length_append, zC]; omega) (by omega)).mono ?_
     rintro e wn ⟨⟨_, rfl⟩, hu, za, hkm⟩; have zf := B.size; have zg := za.size; replace B := B.trans (za.mono (by omega)); replace r1 := r1.of_eq (za.block _ (by omega)); replace pc := pc.of_eq (za.block _ (by omega)); clear bd; have bd := hu; clear hu; refine ⟨_, rfl, ?_⟩; simp only [zn]; refine wpList_nil ?_; have hfin : l1 ++ jb (vu s) 1 ++ jb s.pha.toNat 3 = L := by
      rw [← HL.out, ← HL1.out, HL0.out]; unfold qV uf; simp only [List.append_assoc]
     rw [hfin] at bd; clear hfin; have hbz := bd.lt; go_upto_region 21 with fail
     refine wp_region_lit ?_; refine qE (enters_of Tryz.func85 (by kernel_rfl) rfl) (c := Xk b_bd b_bd L _ bd.holds (by omega)) (h := ?_); rintro e wn ⟨rfl, za⟩; have zf := B.size; replace B := B.trans (za.mono (by omega)); clear bd; refine ⟨_, rfl, ?_⟩; simp only [zn]; refine zx 1 ?_; refine wpList_nil ?_; go_wp2; go_ret; exact ⟨rfl, B⟩
    | false =>
     have hen : jb (Int.toNat 0) 1 = jb (vu s) 1 := by unfold vu; rw [hera]; rfl
     have HEN := Lib.hid hen; clear hera hen; go_upto_region 19 with fail
     refine wp_region_lit ?_; refine zx 2 ?_; refine qG (by first | rfl | simp [Region.wanted, yielded]) rfl (by simp only [Act.eval, qI]; rfl) (enters_of Tryz.func82 (by kernel_rfl) rfl) (by simp only [Act.eval, qI]; rfl) ?_
     refine (Y4 b_bd b_bd (l1) (0) _ bd (by omega) (by omega) (by omega)).mono ?_; rintro e wn ⟨⟨_, rfl⟩, hu, za, hkm⟩; have zf := B.size; have zg := za.size; replace B := B.trans (za.mono (by omega)); replace r1 := r1.of_eq (za.block _ (by omega)); replace pc := pc.of_eq (za.block _ (by omega)); clear bd; have bd := hu; clear hu; refine ⟨_, rfl, ?_⟩; simp only [zn]; refine wpList_nil ?_; rw [HEN.out] at bd; go_upto_region 20 with fail
     refine wp_region_lit ?_; refine zx 3 ?_
     refine qG (by first | rfl | simp [Region.wanted, yielded]) rfl (by simp only [Act.eval, qI]; rfl) (enters_of Tryz.func82 (by kernel_rfl) rfl) (by simp only [Act.eval, qI]; rfl) ?_
     refine (Jz b_bd b_bd (l1 ++ jb (vu s) 1) (s.pha) _ bd (by omega) (by simp only [List.length_append, zC]; omega) (by omega)).mono ?_
     rintro e wn ⟨⟨_, rfl⟩, hu, za, hkm⟩; have zf := B.size; have zg := za.size; replace B := B.trans (za.mono (by omega)); replace r1 := r1.of_eq (za.block _ (by omega)); replace pc := pc.of_eq (za.block _ (by omega)); clear bd; have bd := hu; clear hu; refine ⟨_, rfl, ?_⟩; simp only [zn]; refine wpList_nil ?_; have hfin : l1 ++ jb (vu s) 1 ++ jb s.pha.toNat 3 = L := by
      rw [← HL.out, ← HL1.out, HL0.out]; unfold qV uf; simp only [List.append_assoc]
     rw [hfin] at bd; clear hfin; have hbz := bd.lt; go_upto_region 21 with fail
     refine wp_region_lit ?_; refine qE (enters_of Tryz.func85 (by kernel_rfl) rfl) (c := Xk b_bd b_bd L _ bd.holds (by omega)) (h := ?_); rintro e wn ⟨rfl, za⟩; have zf := B.size; replace B := B.trans (za.mono (by omega)); clear bd; refine ⟨_, rfl, ?_⟩; simp only [zn]; refine zx 1 ?_; refine wpList_nil ?_; go_wp2; go_ret; exact ⟨rfl, B⟩
/- Contract of Bytes of the reference. -/
section
variable {o : Oper} {a : Act} {C : World → Prop} {K : Act → Prop}
end
/- The reader of package octet: Read, Left, Take, Num, Failed; strings as slices of bytes. -/
/-! ### A row that holds bytes, made from a string -/
/-- The first cells of block b are the bytes l, and may be written. -/
def QU (w : World) (b : Nat) (l : List UInt8) : Prop := b < w.heap.size ∧ ∀ j, j < l.length → w.cell? ⟨b, j, none⟩ = some (Y (l.getD j 0)) ∧ w.frozen? ⟨b, j, none⟩ = false
section
variable {w : World} {b : Nat} {l : List UInt8}
theorem QU.lt (h : QU w b l) : b < w.heap.size := h.1
theorem QU.of_eq {w' : World} (h : QU w b l) (e : w'.heap[b]? = w.heap[b]?) : QU w' b l := by
 refine ⟨?_, fun j hj => ?_⟩
 ·have := h.1
  rcases Nat.lt_or_ge b w'.heap.size with k | k
  ·exact k
  ·rw [Array.getElem?_eq_none k, Array.getElem?_eq_getElem this] at e
   cases e
 ·obtain ⟨h1, h2⟩ := h.2 j hj
  refine ⟨(World.cell?_of_block (w := w) e).trans h1, ?_⟩; rw [← h2]; unfold World.frozen?; simp only [e]
theorem QU.below {w' : World} (h : QU w b l) (hb : Below w.heap.size w w') : QU w' b l := h.of_eq (hb.block b h.lt)
theorem QU.set (h : QU w b l) {p : Nat} (hp : p < l.length) (c : UInt8) : QU (w.setCell ⟨b, p, none⟩ (Y c)) b (l.set p c) := by
 refine ⟨by rw [World.size_setCell]; exact h.1, fun j hj => ?_⟩
 rw [List.length_set] at hj
 obtain ⟨h1, h2⟩ := h.2 j hj
 refine ⟨?_, by rw [World.frozen?_setCell]; exact h2⟩
 rw [List.getD_eq_getElem?_getD, List.getElem?_set]
 by_cases e : p = j
 ·subst e
  rw [if_pos rfl, if_pos hp]; exact World.cell?_setCell_same' _ _ _ (by rw [h1]; rfl)
 ·rw [if_neg e, World.cell?_setCell_other _ _ _ _ (by intro e2; injection e2 with _ e3; exact e e3), h1, List.getD_eq_getElem?_getD]
end
theorem zbd (w : World) (l : List UInt8) : ∃ cap w', (convert 9 75 (.string (xT l))).run Tryz.prog w = .ok (.slice (some ⟨w.heap.size, 0, none⟩) l.length cap) w' ∧ QU w' w.heap.size l ∧ Below w.heap.size w w' ∧ w'.heap.size = w.heap.size + 1 := by
 have hr := run_bytes_of_string (P := Tryz.prog) w 9 75 5 (xT l) Tryz.underlying9 Tryz.underlying75 Tryz.underlying5
 rw [jk] at hr
 refine ⟨_, _, hr, ⟨by rw [World.size_alloc]; show w.heap.size < w.heap.size + 1; omega, fun j hj => ?_⟩, ((Below.refl _ _).drew).alloc (Nat.le_refl _) _, by rw [World.size_alloc]; rfl⟩
 generalize hN : grownCap w l.length 0 5 = cap
 have hb : (w.drew.alloc (.cells (bytesRow (xT l) cap) 5 ((bytesRow (xT l) cap).size, (bytesRow (xT l) cap).size + 1))).heap[w.heap.size]? = some (.cells (bytesRow (xT l) cap) 5 ((bytesRow (xT l) cap).size, (bytesRow (xT l) cap).size + 1)) := by
  rw [zI]; exact if_pos rfl
 have zf : l.length ≤ (bytesRow (xT l) cap).size := by
  unfold bytesRow; rw [Array.size_append, Array.size_map]; have : (xT l).data.size = l.length := jk l; omega
 constructor
 ·rw [cell_of_row _ _ _ _ _ _ hb]
  unfold bytesRow; rw [Array.getElem?_append_left (by rw [Array.size_map]; have : (xT l).data.size = l.length := jk l; omega), Array.getElem?_map]
  have e : (xT l).data[j]? = some (l.getD j 0) := by
   show (l.toArray)[j]? = _
   rw [List.getElem?_toArray, List.getD_eq_getElem?_getD, List.getElem?_eq_getElem hj]
   rfl
  rw [e]
  rfl
 ·unfold World.frozen?
  simp only [hb]; simp
  omega
section
variable {ops : Array Oper} {rest : List Oper} {o : Oper} {a : Act} {w : World} {Q : Exit → Act → World → Prop}
theorem km (hg : o.guard = none) (x : Operand) (ho : o.op = .convert 9 75 x) (l : List UInt8) (hx : a.eval x = .string (xT l))
  (h : ∀ b cap w', w.heap.size ≤ b → b ≤ w.heap.size → QU w' b l → Below b w w' → w'.heap.size = b + 1 → wpList Tryz.prog ops Q rest (a.put o.dst (.slice (some ⟨b, 0, none⟩) l.length cap)) w') : wpList Tryz.prog ops Q (o :: rest) a w :=
 wpList_plain hg fun K hK => by
  obtain ⟨cap, w', hr, h1, h2, h3⟩ := zbd w l; unfold Oper.wp execOp; simp only [ho, hx, hr, Sem.run_bind, Sem.run_pure, Result.andThen_ok]; exact hK _ _ (h _ cap _ (Nat.le_refl _) (Nat.le_refl _) h1 h2 h3)
/-- A boolean stored into a cell of a block. -/
theorem vT {t : TypeId} (hg : o.guard = none) (x y : Operand) (ho : o.op = .store 4 x y) (b i : Nat) (hx : a.eval x = .pointer (some ⟨b, i, none⟩)) (z : Bool) (hy : a.eval y = .bool z) {cs : Array Value} (ht : zF t w b cs) {c : Value} (hc : cs[i]? = some c)
  (h : ∀ w', zF t w' b (cs.setIfInBounds i (.bool z)) → qN b w w' → w'.heap.size = w.heap.size → wpList Tryz.prog ops Q rest (a.put o.dst undef) w') : wpList Tryz.prog ops Q (o :: rest) a w := by
 have c0 := ht.cell i hc
 have f0 := ht.frozen i
 refine qe hg x y ho (w.setCell ⟨b, i, none⟩ (.bool z)) ?_ (h _ ?_ ((qN.refl b w).setCell _) (by simp only [World.size_setCell]))
 ·rw [hx, hy]
  simp [go_sem, c0, f0]
 ·exact heap_setCell_same w b i cs _ _ ht
end
/-! ### A part of a string -/
theorem zds (l : List UInt8) (a b : Nat) : (xT l).extract a b = xT (j9 l a (b - a)) := by
 apply ByteArray.ext
 rw [ByteArray.data_extract]
 simp [xT, j9, List.extract]
theorem Yx (l : List UInt8) (i j : Nat) (hij : i ≤ j) (hj : j ≤ l.length) (w : World) : (Instr.sliceAt 9 (.string (xT l)) (some (.int .i64 (i : Int))) (some (.int .i64 (j : Int))) none).run Tryz.prog w = .ok (.string (xT (j9 l i (j - i)))) w := by
 have hs := jk l
 rw [← zds]
 simp [go_sem, Instr.sliceAt, Instr.slice, Instr.sliceBounds, Instr.sliceBound, hs, hij, hj]
theorem QO {o : Oper} {a : Act} {C : World → Prop} {K : Act → Prop} {x p q : Operand} (h : o.op = .slice 9 x (some p) (some q) none) (l : List UInt8) (hx : a.eval x = .string (xT l)) (zi zj : Int) (hp : a.eval p = .int .i64 zi) (hq : a.eval q = .int .i64 zj) (i j : Nat) (hi : zi = i) (hj : zj = j) (hij : i ≤ j) (hjl : j ≤ l.length) (m : Nat) (hm : m = j - i) (hk : K (a.put o.dst (.string (xT (j9 l i m))))) : o.quiet Tryz.prog a C K := by
 subst hi hj hm
 exact ⟨_, fun w hw => by unfold Oper.quietAt execOp; simp only [h, hx, hp, hq, Option.map_some, Option.map_none, Yx l i j hij hjl w, Sem.run_bind, Sem.run_pure, Result.andThen_ok]; exact ⟨rfl, rfl⟩, hk⟩
/-! ### The length of a string -/
theorem Ky {o : Oper} {a : Act} {C : World → Prop} {K : Act → Prop} {x : Operand} {t : TypeId} (h : o.op = .call { callee := .builtin .len, args := #[x], argTypes := #[t] }) (ht : Tryz.prog.underlying t = some .string) (l : List UInt8) (hx : a.eval x = .string (xT l)) (hk : K (a.put o.dst (.int .i64 (l.length : Int)))) : o.quiet Tryz.prog a C K := by
 obtain ⟨dst, op, ty, pos, after, guard⟩ := o
 simp only at h
 subst h
 refine ⟨_, fun w hw => ?_, hk⟩
 have hu := run_underlying ht w
 have hs := jk l
 have hl : (Builtin.len_ #[t] ty #[.string (xT l)]).run Tryz.prog w = .ok (goInt l.length) w := by simp [Builtin.len_, hu, hs]
 have key : ∀ ρ : Operand → Value, ρ x = .string (xT l) → (execOp ρ { dst, op := .call { callee := .builtin .len, args := #[x], argTypes := #[t] }, type := ty, pos, after, guard : Oper }).run Tryz.prog w = .ok (.value (.int .i64 (l.length : Int))) w := fun ρ hρ => by simp [go_sem, hρ, hl]
 unfold Oper.quietAt
 rw [key a.eval hx]
 exact ⟨rfl, rfl⟩
/-! ### The reader -/
def QW (l : List UInt8) (i : Nat) (f : Bool) : Array Value := #[.string (xT l), .int .i64 (i : Int), .bool f]
/-- What a reader takes: its bytes, its state. -/
def kh (l : List UInt8) (st : Nat × Bool) (m : Nat) : List UInt8 × (Nat × Bool) := if st.2 = false ∧ st.1 + m ≤ l.length then (j9 l st.1 m, (st.1 + m, false)) else ([], (st.1, true))
theorem yY {l : List UInt8} {i m : Nat} (h : i + m ≤ l.length) : kh l (i, false) m = (j9 l i m, (i + m, false)) := if_pos ⟨rfl, h⟩
theorem kT {l : List UInt8} {st : Nat × Bool} {m : Nat} (h : (kh l st m).2.2 = false) : st.2 = false ∧ (kh l st m).2.1 = st.1 + m ∧ st.1 + m ≤ l.length := by
 unfold kh at h ⊢
 split
 ·rename_i k
  exact ⟨k.1, rfl, k.2⟩
 ·rename_i k
  rw [if_neg k] at h; cases h
theorem kl {l : List UInt8} {st : Nat × Bool} {m : Nat} (h : st.1 ≤ l.length) : (kh l st m).2.1 ≤ l.length := by
 unfold kh
 split
 ·rename_i k; exact k.2
 ·exact h
theorem ZM {l : List UInt8} {st : Nat × Bool} {m : Nat} : (kh l st m).1.length ≤ m := by
 unfold kh
 split
 ·unfold j9; rw [List.length_take]; omega
 ·exact Nat.zero_le _
theorem wO {w : World} {b j : Nat} {v : Value} (h : w.cell? ⟨b, j, none⟩ = some v) : (Instr.loadAt 9 (.pointer (some ⟨b, j, none⟩))).run Tryz.prog w = .ok v w := by
 simp [go_sem, h]
theorem zfP {w : World} {b : Nat} {l : List UInt8} {i : Nat} {fl : Bool} (h : zF 180 w b (QW l i fl)) : w.cell? ⟨b, 0, none⟩ = some (.string (xT l)) := h.cell 0 rfl
theorem zfO {w : World} {b : Nat} {l : List UInt8} {i : Nat} {fl : Bool} (h : zF 180 w b (QW l i fl)) : w.cell? ⟨b, 1, none⟩ = some (.int .i64 (i : Int)) := h.cell 1 rfl
theorem zcB (l : List UInt8) (w : World) : Calls Tryz.prog 86 #[.string (xT l)] w fun e w' => ∃ b, (w.heap.size ≤ b ∧ b ≤ w.heap.size) ∧ e = .returned (.pointer (some ⟨b, 0, none⟩)) ∧ zF 180 w' b (QW l 0 false) ∧ Below w.heap.size w w' := by
 have B := Below.refl w.heap.size w
 go_enter Tryz.func86, Tryz.ntmps86
 go_upto_region 0 with fail
 refine wp_region_lit ?_
 refine zx 1 ?_
 refine wpList_nil ?_
 go_upto_region 1 with fail
 refine wp_region_lit ?_
 refine zx 2 ?_
 (refine zt (t := 180) rfl _ rfl _ rfl (zV B ?_); clear B; intro b_rd wn zb zd rd za zf zk B; simp only [zn])
 refine zx 1 ?_
 refine wpList_nil ?_
 have k1 : w.heap.size ≤ b_rd ∧ b_rd ≤ w.heap.size := by omega
 go_wp2
 go_ret
 exact ⟨_, k1, rfl, rd, B⟩
theorem KY (l : List UInt8) (i : Nat) (fl : Bool) (b : Nat) (n : Int) (w : World) (rd : zF 180 w b (QW l i fl)) (hl : l.length ≤ 100000000) (hi : i ≤ l.length) (e : (l.length : Int) - i = n) : Calls Tryz.prog 139 #[.pointer (some ⟨b, 0, none⟩)] w fun e w' => e = .returned (.int .i64 n) ∧ Below w.heap.size w w' := by
 have B := Below.refl w.heap.size w
 have hs := jk l
 subst e
 go_enter Tryz.func139, Tryz.ntmps139
 go_upto_region 3 with fail
 refine qH (by kernel_rfl) (by kernel_rfl) ?_
 repeat (first | go_big_quiet_skip | (go_big_quiet_want; first | (refine zo (t := 9) rfl _ _ _ rfl (fun w hw => wO (zfP (zD rd w hw))) (by first | rfl | omega) ?_; simp only [zn]; go_big_quiet_on) | (refine zo (t := 3) rfl _ _ _ rfl (fun w hw => zu (zfO (zD rd w hw))) (by first | rfl | omega) ?_; simp only [zn]; go_big_quiet_on) | (refine Ky rfl Tryz.underlying9 l rfl ?_; simp only [zn]; go_big_quiet_on) | (go_big_quiet_op; first | go_big_quiet_on | go_big_quiet_call ((fail)))))
 refine wpQuiet_nil ?_
 intro wn za
 have zf := B.size
 have zg := za.size
 replace B := B.trans (za.mono B.size)
 go_wp2
 go_ret
 exact ⟨rfl, B⟩
theorem Wb (l : List UInt8) (i : Nat) (fl : Bool) (b : Nat) (w : World) (rd : zF 180 w b (QW l i fl)) : Calls Tryz.prog 89 #[.pointer (some ⟨b, 0, none⟩)] w fun e w' => e = .returned (.bool fl) ∧ Below w.heap.size w w' := by
 have B := Below.refl w.heap.size w
 have c2 : w.cell? ⟨b, 2, none⟩ = some (.bool fl) := rd.cell 2 rfl
 go_enter Tryz.func89, Tryz.ntmps89
 go_wp2
 go_ret
 exact ⟨rfl, B⟩
set_option maxHeartbeats 1000000 in
theorem zcC (l : List UInt8) (i : Nat) (fl : Bool) (b m : Nat) (w : World) (rd : zF 180 w b (QW l i fl)) (hl : l.length ≤ 100000000) (hi : i ≤ l.length) (hm : m ≤ 1000) : Calls Tryz.prog 88 #[.pointer (some ⟨b, 0, none⟩), .int .i64 (m : Int)] w fun e w' => e = .returned (.string (xT (kh l (i, fl) m).1)) ∧ zF 180 w' b (QW l (kh l (i, fl) m).2.1 (kh l (i, fl) m).2.2) ∧ qN b w w' := by
 have B := y9.refl b w
 have q0 : decide ((m : Int) < 0) = false := decide_eq_false (by omega)
 have c2 : w.cell? ⟨b, 2, none⟩ = some (.bool fl) := rd.cell 2 rfl
 cases fl with
 | true =>
  have hT : kh l (i, true) m = ([], (i, true)) := if_neg (fun h => by cases h.1); rw [hT]; clear hT; go_enter Tryz.func88, Tryz.ntmps88
  go_upto_region 3 with fail
  refine wp_region_lit ?_; go_wp2_with (first | (refine vT (t := 180) rfl _ _ rfl _ 2 rfl true rfl rd rfl ?_; clear rd; intro wn ht ze zg; have zf := B.size; replace zg := Nat.le_of_eq zg.symm; replace B := y9.chg B ze; have rd := ht; clear ht; simp only [zn]) | fail)
  go_wp2; go_ret; exact ⟨rfl, rd, B.toChg⟩
 | false =>
  by_cases h : i + m ≤ l.length
  ·have q1 : ¬ ((l.length : Int) - i < (m : Int)) := by omega
   rw [yY h]; go_enter Tryz.func88, Tryz.ntmps88
   go_upto_region 5 with (first | (go_at_call 139; refine (KY l i false b ((l.length : Int) - i) _ rd hl hi rfl).mono ?_; rintro e wn ⟨rfl, za⟩; have zf := B.size; have zg := za.size; replace B := B.trans (za.mono B.size); replace rd := rd.of_eq (za.block _ rd.lt); have c1 : wn.cell? ⟨b, 1, none⟩ = some (.int .i64 (i : Int)) := rd.cell 1 rfl) | fail)
   refine wp_region_lit ?_; go_wp2_with (first | (refine jw (t := 180) rfl _ _ rfl _ 1 rfl _ rfl rd rfl ?_; clear rd; intro wn ht ze zg; have zf := B.size; replace zg := Nat.le_of_eq zg.symm; replace B := y9.chg B ze; have rd := ht; clear ht; simp only [zn]) | fail)
   have hat : (i : Int) + (m : Int) = ((i + m : Nat) : Int) := by omega
   rw [hat] at rd; replace rd : zF 180 _ b (QW l (i + m) false) := rd; clear hat c1; go_upto_region 6 with fail
   refine qH (by kernel_rfl) (by kernel_rfl) ?_; repeat (first | go_big_quiet_skip | (go_big_quiet_want; first | (refine zo (t := 9) rfl _ _ _ rfl (fun w hw => wO (zfP (zD rd w hw))) (by first | rfl | omega) ?_; simp only [zn]; go_big_quiet_on) | (refine zo (t := 3) rfl _ _ _ rfl (fun w hw => zu (zfO (zD rd w hw))) (by first | rfl | omega) ?_; simp only [zn]; go_big_quiet_on) | (refine QO rfl l rfl _ _ rfl rfl i (i + m) (by omega) (by omega) (by omega) h m (by omega) ?_; simp only [zn]; go_big_quiet_on) | (go_big_quiet_op; first | go_big_quiet_on | go_big_quiet_call ((fail)))))
   refine wpQuiet_nil ?_; intro wn za; have zf := B.size; have zg := za.size; replace B := B.trans (za.mono B.size); try replace rd := rd.below za
   go_wp2; go_ret; exact ⟨rfl, rd, B.toChg⟩
  ·have q1 : ((l.length : Int) - i < (m : Int)) := by omega
   have hT : kh l (i, false) m = ([], (i, true)) := if_neg (fun k => h k.2); rw [hT]; clear hT; go_enter Tryz.func88, Tryz.ntmps88
   go_upto_region 3 with (first | (go_at_call 139; refine (KY l i false b ((l.length : Int) - i) _ rd hl hi rfl).mono ?_; rintro e wn ⟨rfl, za⟩; have zf := B.size; have zg := za.size; replace B := B.trans (za.mono B.size); replace rd := rd.of_eq (za.block _ rd.lt); have c1 : wn.cell? ⟨b, 1, none⟩ = some (.int .i64 (i : Int)) := rd.cell 1 rfl) | fail)
   refine wp_region_lit ?_; go_wp2_with (first | (refine vT (t := 180) rfl _ _ rfl _ 2 rfl true rfl rd rfl ?_; clear rd; intro wn ht ze zg; have zf := B.size; replace zg := Nat.le_of_eq zg.symm; replace B := y9.chg B ze; have rd := ht; clear ht; simp only [zn]) | fail)
   go_wp2; go_ret; exact ⟨rfl, rd, B.toChg⟩
/- Num of octet's reader; number of the reference. -/
theorem ZE (l : List UInt8) (i : Nat) (fl : Bool) (b : Nat) (z : Int) (m : Nat) (x : List UInt8) (i2 : Nat) (f2 : Bool) (w : World) (rd : zF 180 w b (QW l i fl)) (hl : l.length ≤ 100000000) (hi : i ≤ l.length) (hm : m ≤ 1000) (hz : z = m) (e : kh l (i, fl) m = (x, i2, f2)) : Calls Tryz.prog 88 #[.pointer (some ⟨b, 0, none⟩), .int .i64 z] w fun e w' => e = .returned (.string (xT x)) ∧ zF 180 w' b (QW l i2 f2) ∧ qN b w w' := by
 subst hz
 have := zcC l i fl b m w rd hl hi hm
 rw [e] at this
 exact this
theorem Z3 (x : List UInt8) {k : Nat} (h : k < x.length) : beN (x.take (k + 1)) = 256 * beN (x.take k) + (x.getD k 0).toNat := by
 have e : x.take (k + 1) = x.take k ++ [x.getD k 0] := by
  rw [List.take_add_one, List.getElem?_eq_getElem h, List.getD_eq_getElem?_getD, List.getElem?_eq_getElem h]
  rfl
 rw [e, Z2]
theorem or8 (n c : Nat) (hn : n < 1099511627776) (hc : c < 256) : bits .or .i64 ((n : Int) * 256) (c : Int) = ((256 * n + c : Nat) : Int) := by
 have e : bits .or .i64 ((n : Int) * 256) (c : Int) = IntKind.i64.wrap ((BitVec.ofInt 64 ((n : Int) * 256) ||| BitVec.ofInt 64 (c : Int)).toNat : Int) := rfl
 have h1 : (BitVec.ofInt 64 ((n : Int) * 256)).toNat = n <<< 8 := by
  rw [show ((n : Int) * 256) = ((n * 256 : Nat) : Int) by omega, BitVec.ofInt_natCast, BitVec.toNat_ofNat, Nat.mod_eq_of_lt (by omega), Nat.shiftLeft_eq]
 have h2 : (BitVec.ofInt 64 (c : Int)).toNat = c := by
  rw [BitVec.ofInt_natCast, BitVec.toNat_ofNat, Nat.mod_eq_of_lt (by omega)]
 rw [e, BitVec.toNat_or, h1, h2, ← Nat.shiftLeft_add_eq_or_of_lt (by omega) n, Nat.shiftLeft_eq]
 unfold IntKind.wrap
 simp [IntKind.bits, IntKind.signed]
 omega
theorem Kq {w : World} {b : Nat} {l : List UInt8} (h : QU w b l) : ∀ w', (∃ u, w' = ov w u) → QU w' b l := by
 rintro w' ⟨u, rfl⟩
 exact h.of_eq ((qJ w u).block _ h.lt)
theorem QU.u8 {w : World} {b : Nat} {l : List UInt8} (h : QU w b l) {k c : Nat} (hk : k < l.length) (hc : (l.getD k 0).toNat = c) : w.cell? ⟨b, k, none⟩ = some (.int .u8 (c : Int)) := by
 subst hc
 exact (h.2 k hk).1
set_option maxHeartbeats 1000000 in
theorem Jr (l : List UInt8) (i : Nat) (fl : Bool) (b : Nat) (x : List UInt8) (i2 : Nat) (f2 : Bool) (w : World) (rd : zF 180 w b (QW l i fl)) (hl : l.length ≤ 100000000) (hi : i ≤ l.length) (e : kh l (i, fl) 1 = (x, i2, f2)) : Calls Tryz.prog 87 #[.pointer (some ⟨b, 0, none⟩), .int .i64 1] w fun e w' => e = .returned (.int .i64 (beN x : Int)) ∧ zF 180 w' b (QW l i2 f2) ∧ qN b w w' := by
 have B := y9.refl b w
 have HT := Lib.hid e
 have hxl : x.length ≤ 1 := by have := ZM (l := l) (st := (i, fl)) (m := 1); rw [e] at this; exact this
 have hbl := rd.lt
 clear e
 go_enter Tryz.func87, Tryz.ntmps87
 go_upto_region 0 with fail
 refine wp_region_lit ?_
 refine zx 1 ?_
 refine wpList_nil ?_
 go_upto_region 1 with fail
 refine wp_region_lit ?_
 refine zx 1 ?_
 refine wpList_nil ?_
 go_upto_region 2 with fail
 refine wp_region_lit ?_
 refine zx 2 ?_
 refine qE (enters_of Tryz.func138 (by kernel_rfl) rfl) (c := K6 _) (h := ?_)
 rintro e wn ⟨rfl, rfl⟩
 refine ⟨_, rfl, ?_⟩
 simp only [zn]
 refine qE (enters_of Tryz.func88 (by kernel_rfl) rfl) (c := ZE l i fl b 1 1 x i2 f2 _ rd hl hi (by omega) rfl HT.out) (h := ?_)
 rintro e wn ⟨rfl, rd2, ze⟩
 have zf := B.size
 have zg := ze.size
 replace B := y9.chg B ze
 clear rd
 have rd := rd2
 clear rd2
 refine ⟨_, rfl, ?_⟩
 simp only [zn]
 (refine km rfl _ rfl x rfl ?_; intro b_fb cap wn zb zd fb za zg; have zf := B.size; replace B := B.trans (za.mono (by omega)); replace rd := rd.of_eq (za.block _ (by omega)); simp only [zn])
 refine zw (by first | rfl | simp [Region.wanted, yielded]) rfl Tryz.underlying75 rfl ?_
 simp only [zn]
 refine zx 1 ?_
 refine wpList_nil ?_
 have kb : b < b_fb := by omega
 go_wp2
 go_loopw [5, 7, 14] (fun nv _ iv wr => ∃ k : Nat, k ≤ x.length ∧ iv = .int .i64 (k : Int) ∧ nv = .int .i64 (beN (x.take k) : Int) ∧ QU wr b_fb x ∧ zF 180 wr b (QW l i2 f2) ∧ y9 b w.heap.size w wr) (fun _ _ iv _ => (x.length - intOf iv).toNat)
 case atStart => exact ⟨0, by omega, rfl, rfl, fb, rd, B⟩
 case round =>
  clear fb rd B; obtain ⟨k, hk, rfl, rfl, fb, rd, B⟩ := hrel; by_cases hk1 : k < x.length
  ·have q1 : decide ((k : Int) < (x.length : Int)) = true := decide_eq_true (by omega)
   have q2 : decide (k < x.length) = true := decide_eq_true hk1; have hst := Z3 x hk1; have hbn1 := Z1 (x.take k); have hbn2 : beN (x.take k) < 16777216 := Nat.lt_of_lt_of_le hbn1 (by rw [List.length_take, show (16777216 : Nat) = 256 ^ 3 from rfl]; exact Nat.pow_le_pow_right (by omega) (by omega))
   have hcb := (x.getD k 0).toNat_lt
   generalize beN (x.take k) = n at *
   obtain ⟨c, hc⟩ : ∃ c, (x.getD k 0).toNat = c := ⟨_, rfl⟩; rw [hc] at hst hcb; have HC := Lib.hid hc; clear hc; have hor := or8 n c (by omega) hcb; go_upto_region 3 with fail
   refine wp_region_lit ?_; refine zx 1 ?_; refine wpList_nil ?_; go_upto_region 4 with fail
   refine wp_region_lit ?_; refine jG 3 ?_; repeat (first | go_big_quiet_skip | (go_big_quiet_want; first | ((first | refine zo (t := 5) rfl _ _ _ rfl (fun w hw => vO ((Kq fb w hw).u8 hk1 HC.out)) (by first | rfl | omega) ?_ | refine qB ?_ | refine qC ?_); simp only [zn]; go_big_quiet_on) | (go_big_quiet_op; go_big_quiet_on)))
   refine wpQuiet_nil ?_; refine wpList_nil ?_; go_upto_region 5 with fail
   refine wp_region_lit ?_; refine zx 6 ?_; refine wpList_nil ?_; go_upto_region 6 with fail
   refine wp_region_lit ?_; refine zx 2 ?_; refine wpList_nil ?_; go_wp2; go_roundw
   case rel => exact ⟨k + 1, by omega, by go_num, by rw [hst]; go_num, fb, rd, B⟩
   case measure => simp [intOf]; omega
  ·have q1 : decide ((k : Int) < (x.length : Int)) = false := decide_eq_false (by omega)
   have q2 : decide (k < x.length) = false := decide_eq_false hk1; have hkx : x.take k = x := List.take_of_length_le (by omega); rw [hkx]; go_upto_region 3 with fail
   refine wp_region_lit ?_; refine zx 1 ?_; refine wpList_nil ?_; go_upto_region 7 with fail
   refine wp_region_lit ?_; refine zx 2 ?_; refine wpList_nil ?_; go_wp2; go_ret; exact ⟨rfl, rd, B.toChg⟩
set_option maxHeartbeats 1000000 in
theorem KZ (l : List UInt8) (i : Nat) (fl : Bool) (b : Nat) (x : List UInt8) (i2 : Nat) (f2 : Bool) (w : World) (rd : zF 180 w b (QW l i fl)) (hl : l.length ≤ 100000000) (hi : i ≤ l.length) (e : kh l (i, fl) 2 = (x, i2, f2)) : Calls Tryz.prog 87 #[.pointer (some ⟨b, 0, none⟩), .int .i64 2] w fun e w' => e = .returned (.int .i64 (beN x : Int)) ∧ zF 180 w' b (QW l i2 f2) ∧ qN b w w' := by
 have B := y9.refl b w
 have HT := Lib.hid e
 have hxl : x.length ≤ 2 := by have := ZM (l := l) (st := (i, fl)) (m := 2); rw [e] at this; exact this
 have hbl := rd.lt
 clear e
 go_enter Tryz.func87, Tryz.ntmps87
 go_upto_region 0 with fail
 refine wp_region_lit ?_
 refine zx 1 ?_
 refine wpList_nil ?_
 go_upto_region 1 with fail
 refine wp_region_lit ?_
 refine zx 1 ?_
 refine wpList_nil ?_
 go_upto_region 2 with fail
 refine wp_region_lit ?_
 refine zx 2 ?_
 refine qE (enters_of Tryz.func138 (by kernel_rfl) rfl) (c := K7 _) (h := ?_)
 rintro e wn ⟨rfl, rfl⟩
 refine ⟨_, rfl, ?_⟩
 simp only [zn]
 refine qE (enters_of Tryz.func88 (by kernel_rfl) rfl) (c := ZE l i fl b 2 2 x i2 f2 _ rd hl hi (by omega) rfl HT.out) (h := ?_)
 rintro e wn ⟨rfl, rd2, ze⟩
 have zf := B.size
 have zg := ze.size
 replace B := y9.chg B ze
 clear rd
 have rd := rd2
 clear rd2
 refine ⟨_, rfl, ?_⟩
 simp only [zn]
 (refine km rfl _ rfl x rfl ?_; intro b_fb cap wn zb zd fb za zg; have zf := B.size; replace B := B.trans (za.mono (by omega)); replace rd := rd.of_eq (za.block _ (by omega)); simp only [zn])
 refine zw (by first | rfl | simp [Region.wanted, yielded]) rfl Tryz.underlying75 rfl ?_
 simp only [zn]
 refine zx 1 ?_
 refine wpList_nil ?_
 have kb : b < b_fb := by omega
 go_wp2
 go_loopw [5, 7, 14] (fun nv _ iv wr => ∃ k : Nat, k ≤ x.length ∧ iv = .int .i64 (k : Int) ∧ nv = .int .i64 (beN (x.take k) : Int) ∧ QU wr b_fb x ∧ zF 180 wr b (QW l i2 f2) ∧ y9 b w.heap.size w wr) (fun _ _ iv _ => (x.length - intOf iv).toNat)
 case atStart => exact ⟨0, by omega, rfl, rfl, fb, rd, B⟩
 case round =>
  clear fb rd B; obtain ⟨k, hk, rfl, rfl, fb, rd, B⟩ := hrel; by_cases hk1 : k < x.length
  ·have q1 : decide ((k : Int) < (x.length : Int)) = true := decide_eq_true (by omega)
   have q2 : decide (k < x.length) = true := decide_eq_true hk1; have hst := Z3 x hk1; have hbn1 := Z1 (x.take k); have hbn2 : beN (x.take k) < 16777216 := Nat.lt_of_lt_of_le hbn1 (by rw [List.length_take, show (16777216 : Nat) = 256 ^ 3 from rfl]; exact Nat.pow_le_pow_right (by omega) (by omega))
   have hcb := (x.getD k 0).toNat_lt
   generalize beN (x.take k) = n at *
   obtain ⟨c, hc⟩ : ∃ c, (x.getD k 0).toNat = c := ⟨_, rfl⟩; rw [hc] at hst hcb; have HC := Lib.hid hc; clear hc; have hor := or8 n c (by omega) hcb; go_upto_region 3 with fail
   refine wp_region_lit ?_; refine zx 1 ?_; refine wpList_nil ?_; go_upto_region 4 with fail
   refine wp_region_lit ?_; refine jG 3 ?_; repeat (first | go_big_quiet_skip | (go_big_quiet_want; first | ((first | refine zo (t := 5) rfl _ _ _ rfl (fun w hw => vO ((Kq fb w hw).u8 hk1 HC.out)) (by first | rfl | omega) ?_ | refine qB ?_ | refine qC ?_); simp only [zn]; go_big_quiet_on) | (go_big_quiet_op; go_big_quiet_on)))
   refine wpQuiet_nil ?_; refine wpList_nil ?_; go_upto_region 5 with fail
   refine wp_region_lit ?_; refine zx 6 ?_; refine wpList_nil ?_; go_upto_region 6 with fail
   refine wp_region_lit ?_; refine zx 2 ?_; refine wpList_nil ?_; go_wp2; go_roundw
   case rel => exact ⟨k + 1, by omega, by go_num, by rw [hst]; go_num, fb, rd, B⟩
   case measure => simp [intOf]; omega
  ·have q1 : decide ((k : Int) < (x.length : Int)) = false := decide_eq_false (by omega)
   have q2 : decide (k < x.length) = false := decide_eq_false hk1; have hkx : x.take k = x := List.take_of_length_le (by omega); rw [hkx]; go_upto_region 3 with fail
   refine wp_region_lit ?_; refine zx 1 ?_; refine wpList_nil ?_; go_upto_region 7 with fail
   refine wp_region_lit ?_; refine zx 2 ?_; refine wpList_nil ?_; go_wp2; go_ret; exact ⟨rfl, rd, B.toChg⟩
set_option maxHeartbeats 1000000 in
theorem Js (l : List UInt8) (i : Nat) (fl : Bool) (b : Nat) (x : List UInt8) (i2 : Nat) (f2 : Bool) (w : World) (rd : zF 180 w b (QW l i fl)) (hl : l.length ≤ 100000000) (hi : i ≤ l.length) (e : kh l (i, fl) 3 = (x, i2, f2)) : Calls Tryz.prog 87 #[.pointer (some ⟨b, 0, none⟩), .int .i64 3] w fun e w' => e = .returned (.int .i64 (beN x : Int)) ∧ zF 180 w' b (QW l i2 f2) ∧ qN b w w' := by
 have B := y9.refl b w
 have HT := Lib.hid e
 have hxl : x.length ≤ 3 := by have := ZM (l := l) (st := (i, fl)) (m := 3); rw [e] at this; exact this
 have hbl := rd.lt
 clear e
 go_enter Tryz.func87, Tryz.ntmps87
 go_upto_region 0 with fail
 refine wp_region_lit ?_
 refine zx 1 ?_
 refine wpList_nil ?_
 go_upto_region 1 with fail
 refine wp_region_lit ?_
 refine zx 1 ?_
 refine wpList_nil ?_
 go_upto_region 2 with fail
 refine wp_region_lit ?_
 refine zx 2 ?_
 refine qE (enters_of Tryz.func138 (by kernel_rfl) rfl) (c := K8 _) (h := ?_)
 rintro e wn ⟨rfl, rfl⟩
 refine ⟨_, rfl, ?_⟩
 simp only [zn]
 refine qE (enters_of Tryz.func88 (by kernel_rfl) rfl) (c := ZE l i fl b 3 3 x i2 f2 _ rd hl hi (by omega) rfl HT.out) (h := ?_)
 rintro e wn ⟨rfl, rd2, ze⟩
 have zf := B.size
 have zg := ze.size
 replace B := y9.chg B ze
 clear rd
 have rd := rd2
 clear rd2
 refine ⟨_, rfl, ?_⟩
 simp only [zn]
 (refine km rfl _ rfl x rfl ?_; intro b_fb cap wn zb zd fb za zg; have zf := B.size; replace B := B.trans (za.mono (by omega)); replace rd := rd.of_eq (za.block _ (by omega)); simp only [zn])
 refine zw (by first | rfl | simp [Region.wanted, yielded]) rfl Tryz.underlying75 rfl ?_
 simp only [zn]
 refine zx 1 ?_
 refine wpList_nil ?_
 have kb : b < b_fb := by omega
 go_wp2
 go_loopw [5, 7, 14] (fun nv _ iv wr => ∃ k : Nat, k ≤ x.length ∧ iv = .int .i64 (k : Int) ∧ nv = .int .i64 (beN (x.take k) : Int) ∧ QU wr b_fb x ∧ zF 180 wr b (QW l i2 f2) ∧ y9 b w.heap.size w wr) (fun _ _ iv _ => (x.length - intOf iv).toNat)
 case atStart => exact ⟨0, by omega, rfl, rfl, fb, rd, B⟩
 case round =>
  clear fb rd B; obtain ⟨k, hk, rfl, rfl, fb, rd, B⟩ := hrel; by_cases hk1 : k < x.length
  ·have q1 : decide ((k : Int) < (x.length : Int)) = true := decide_eq_true (by omega)
   have q2 : decide (k < x.length) = true := decide_eq_true hk1; have hst := Z3 x hk1; have hbn1 := Z1 (x.take k); have hbn2 : beN (x.take k) < 16777216 := Nat.lt_of_lt_of_le hbn1 (by rw [List.length_take, show (16777216 : Nat) = 256 ^ 3 from rfl]; exact Nat.pow_le_pow_right (by omega) (by omega))
   have hcb := (x.getD k 0).toNat_lt
   generalize beN (x.take k) = n at *
   obtain ⟨c, hc⟩ : ∃ c, (x.getD k 0).toNat = c := ⟨_, rfl⟩; rw [hc] at hst hcb; have HC := Lib.hid hc; clear hc; have hor := or8 n c (by omega) hcb; go_upto_region 3 with fail
   refine wp_region_lit ?_; refine zx 1 ?_; refine wpList_nil ?_; go_upto_region 4 with fail
   refine wp_region_lit ?_; refine jG 3 ?_; repeat (first | go_big_quiet_skip | (go_big_quiet_want; first | ((first | refine zo (t := 5) rfl _ _ _ rfl (fun w hw => vO ((Kq fb w hw).u8 hk1 HC.out)) (by first | rfl | omega) ?_ | refine qB ?_ | refine qC ?_); simp only [zn]; go_big_quiet_on) | (go_big_quiet_op; go_big_quiet_on)))
   refine wpQuiet_nil ?_; refine wpList_nil ?_; go_upto_region 5 with fail
   refine wp_region_lit ?_; refine zx 6 ?_; refine wpList_nil ?_; go_upto_region 6 with fail
   refine wp_region_lit ?_; refine zx 2 ?_; refine wpList_nil ?_; go_wp2; go_roundw
   case rel => exact ⟨k + 1, by omega, by go_num, by rw [hst]; go_num, fb, rd, B⟩
   case measure => simp [intOf]; omega
  ·have q1 : decide ((k : Int) < (x.length : Int)) = false := decide_eq_false (by omega)
   have q2 : decide (k < x.length) = false := decide_eq_false hk1; have hkx : x.take k = x := List.take_of_length_le (by omega); rw [hkx]; go_upto_region 3 with fail
   refine wp_region_lit ?_; refine zx 1 ?_; refine wpList_nil ?_; go_upto_region 7 with fail
   refine wp_region_lit ?_; refine zx 2 ?_; refine wpList_nil ?_; go_wp2; go_ret; exact ⟨rfl, rd, B.toChg⟩
/-- A byte of a string. -/
theorem yL {o : Oper} {a : Act} {C : World → Prop} {K : Act → Prop} {p i : Operand} (h : o.op = .index 9 p i) (x : List UInt8) (hx : a.eval p = .string (xT x)) (z : Int) (hi : a.eval i = .int .i64 z) (k c : Nat) (hk : k < x.length) (hz : z = k) (hc : (x.getD k 0).toNat = c) (hK : K (a.put o.dst (.int .u8 (c : Int)))) : o.quiet Tryz.prog a C K := by
 refine JW (t := 9) h (xT x) hx z hi k (by rw [jk]; exact hk) hz ?_
 have e : Y (uV (xT x) k) = .int .u8 (c : Int) := by
  subst hc
  rfl
 rw [e]
 exact hK
end Go.Proofs.YtepelndbbhdofaaGreatDoor
/- Contracts of the reference's SameDabs, Same. -/
namespace Go.Proofs.YtepelndbbhdofaaGreatDoor
open Go.RowKit Go.Shelf Pl
set_option linter.unusedVariables false
set_option linter.unusedSimpArgs false
set_option maxRecDepth 20000
theorem XN (d : Nat) (a b : Sp) (w : World) : (Op.equalIn (d + 2) 43 (.agg (qD.enc a)) (.agg (qD.enc b))).run Tryz.prog w = .ok (decide (a = b)) w := by
 obtain ⟨x, y, z⟩ := a
 obtain ⟨x', y', z'⟩ := b
 have h : (Op.equalIn (d + 2) 43 (.agg #[.int .i64 x, .int .i64 y, .int .i64 z]) (.agg #[.int .i64 x', .int .i64 y', .int .i64 z'])).run Tryz.prog w = .ok (x == x' && (y == y' && z == z')) w := by
  by_cases h1 : x = x' <;> by_cases h2 : y = y' <;> by_cases h3 : z = z' <;> simp [go_sem, h1, h2, h3]
 refine h.trans ?_
 congr 1
 rw [Bool.eq_iff_iff]
 simp
theorem zdq (a b : Sp) (w : World) : (binOp .neq 43 (.agg (qD.enc a)) (.agg (qD.enc b))).run Tryz.prog w = .ok (.bool (!decide (a = b))) w := by
 have h := run_neq_struct (P := Tryz.prog) w 43 (qD.enc a) (qD.enc b)
 rw [h, XN 9998 a b w]; rfl
theorem wH {o : Oper} {a : Act} {C : World → Prop} {K : Act → Prop} {p q : Operand} {t2 : TypeId} (h : o.op = .binOp .neq 43 p q t2) (x y : Sp) (hx : a.eval p = .agg (qD.enc x)) (hy : a.eval q = .agg (qD.enc y)) (b : Bool) (hb : decide (x = y) = !b) (hk : K (a.put o.dst (.bool b))) : o.quiet Tryz.prog a C K :=
 ⟨_, fun w hw => by
  have hg : (eqGuard .neq 43 p q (.agg (qD.enc x)) (.agg (qD.enc y))).run Tryz.prog w = .ok () w := run_eqGuard_agg w _ 43 p q _ _ (by kernel_rfl); unfold Oper.quietAt execOp; simp only [h, hx, hy, hg, zdq, hb, Bool.not_not, Sem.run_bind, Sem.run_pure, Result.andThen_ok]; exact ⟨rfl, rfl⟩, hk⟩
theorem XK (d : Nat) (a b : Db) (w : World) : (Op.equalIn (d + 2) 45 (.agg (kx.enc a)) (.agg (kx.enc b))).run Tryz.prog w = .ok (decide (a = b)) w := by
 obtain ⟨x, y, z⟩ := a
 obtain ⟨x', y', z'⟩ := b
 have h : (Op.equalIn (d + 2) 45 (.agg #[.int .i64 x, .int .i64 y, .int .i64 z]) (.agg #[.int .i64 x', .int .i64 y', .int .i64 z'])).run Tryz.prog w = .ok (x == x' && (y == y' && z == z')) w := by
  by_cases h1 : x = x' <;> by_cases h2 : y = y' <;> by_cases h3 : z = z' <;> simp [go_sem, h1, h2, h3]
 refine h.trans ?_
 congr 1
 rw [Bool.eq_iff_iff]
 simp
theorem zdp (a b : Db) (w : World) : (binOp .neq 45 (.agg (kx.enc a)) (.agg (kx.enc b))).run Tryz.prog w = .ok (.bool (!decide (a = b))) w := by
 have h := run_neq_struct (P := Tryz.prog) w 45 (kx.enc a) (kx.enc b)
 rw [h, XK 9998 a b w]; rfl
theorem wG {o : Oper} {a : Act} {C : World → Prop} {K : Act → Prop} {p q : Operand} {t2 : TypeId} (h : o.op = .binOp .neq 45 p q t2) (x y : Db) (hx : a.eval p = .agg (kx.enc x)) (hy : a.eval q = .agg (kx.enc y)) (b : Bool) (hb : decide (x = y) = !b) (hk : K (a.put o.dst (.bool b))) : o.quiet Tryz.prog a C K :=
 ⟨_, fun w hw => by
  have hg : (eqGuard .neq 45 p q (.agg (kx.enc x)) (.agg (kx.enc y))).run Tryz.prog w = .ok () w := run_eqGuard_agg w _ 45 p q _ _ (by kernel_rfl); unfold Oper.quietAt execOp; simp only [h, hx, hy, hg, zdp, hb, Bool.not_not, Sem.run_bind, Sem.run_pure, Result.andThen_ok]; exact ⟨rfl, rfl⟩, hk⟩
theorem Vl {α : Type} {l m : List α} {i : Nat} (h : l[i]? ≠ m[i]?) : l ≠ m := fun e => h (by rw [e])
theorem zaW {α : Type} {l m : List α} (hl : l.length = m.length) (h : ∀ i, i < l.length → l[i]? = m[i]?) : l = m := by
 refine List.ext_getElem? fun i => ?_
 by_cases hi : i < l.length
 ·exact h i hi
 ·rw [List.getElem?_eq_none (by omega), List.getElem?_eq_none (by omega)]
def za4 (l : List Db) (i : Nat) : Db := l.getD i ⟨0, 0, 0⟩
theorem Z8 {l : List Db} {i : Nat} (h : i < l.length) : l[i]? = some (za4 l i) := by
 unfold za4
 rw [List.getD_eq_getElem?_getD, List.getElem?_eq_getElem h]
 rfl
set_option maxHeartbeats 4000000 in
theorem ZV (v v' : Value) (l m : List Db) (b : Bool) (w : World) (h : jF kx v l w) (h' : jF kx v' m w) (hn : l.length ≤ 1000000) (hn' : m.length ≤ 1000000) (e : decide (l = m) = b) : Calls Tryz.prog 18 #[v, v'] w fun e w' => e = .returned (.bool b) ∧ Below w.heap.size w w' := by
 have B := Below.refl w.heap.size w
 obtain ⟨a1, c1, rfl, _⟩ := h.len
 obtain ⟨a2, c2, rfl, _⟩ := h'.len
 have H1 := Lib.hid h
 have H2 := Lib.hid h'
 have HE := Lib.hid e
 clear h h' e
 go_enter Tryz.func18, Tryz.ntmps18
 go_upto_region 1 with fail
 by_cases hlen : l.length = m.length
 ·have q0 : ((l.length : Int) != (m.length : Int)) = false := by rw [hlen]; simp
  have q0' : ((l.length : Int) == (m.length : Int)) = true := by rw [hlen]; simp
  refine wp_region_lit ?_; refine zx 1 ?_; refine zw (by first | rfl | simp [Region.wanted, yielded]) rfl Tryz.underlying35 rfl ?_; simp only [zn]; refine zx 1 ?_; refine zw (by first | rfl | simp [Region.wanted, yielded]) rfl Tryz.underlying35 rfl ?_; simp only [zn]; refine zx 1 ?_; refine wpList_nil ?_; go_upto_region 3 with fail
  refine wp_region_lit ?_; refine zx 1 ?_; refine wpList_nil ?_; go_wp2; go_loopw [5] (fun iv wr => ∃ k : Nat, k ≤ l.length ∧ iv = .int .i64 (k : Int) ∧ Hid (∀ i, i < k → l[i]? = m[i]?) ∧ Below w.heap.size w wr) (fun iv _ => (l.length - intOf iv).toNat)
  case atStart => exact ⟨0, by omega, rfl, Lib.hid fun i hi => absurd hi (by omega), B⟩
  case round =>
   clear B; obtain ⟨k, hk, rfl, HA, B⟩ := hrel; by_cases hkl : k < l.length
   ·have q1 : decide ((k : Int) < (l.length : Int)) = true := decide_eq_true (by omega)
    have q2 : decide (k < l.length) = true := decide_eq_true hkl; have hkm : k < m.length := by omega
    have q3 : decide ((k : Int) < (m.length : Int)) = true := decide_eq_true (by omega); have q4 : decide (k < m.length) = true := decide_eq_true hkm; obtain ⟨g1, o1, rfl, ca0⟩ := H1.out.at (by omega); obtain ⟨g2, o2, rfl, cb0⟩ := H2.out.at (by omega); have ca := ca0.of_eq (B.block _ ca0.lt); have cb := cb0.of_eq (B.block _ cb0.lt); clear ca0 cb0; have hp := Z8 (l := l) hkl; have hp2 := Z8 (l := m) hkm
    generalize hx1 : za4 l k = x1 at *
    generalize hx2 : za4 m k = x2 at *
    clear hx1 hx2; by_cases hxx : x1 = x2
    ·have q9 : decide (x1 = x2) = !false := decide_eq_true hxx
     have HN := Lib.hid (show ∀ i, i < k + 1 → l[i]? = m[i]? from fun i hi => by
      by_cases hik : i = k
      ·rw [hik, hp, hp2, hxx]
      ·exact HA.out i (by omega))
     clear hxx; go_upto_region 4 with fail
     refine wp_region_lit ?_; refine zx 2 ?_; refine zw (by first | rfl | simp [Region.wanted, yielded]) rfl Tryz.underlying35 rfl ?_; simp only [zn]; refine zx 1 ?_; refine wpList_nil ?_; go_upto_region 6 with fail
     try have lx_ca := ca.lt
     try have lx_cb := cb.lt
     refine zL 9 [] (by kernel_rfl) (by kernel_rfl) (by kernel_rfl) ?_
     rotate_left 0
     simp only [jU, Nat.reduceAdd]; refine ug 9 ?_; repeat (first | go_big_quiet_skip | (go_big_quiet_want; first | ((first | refine zo (t := 45) rfl _ _ _ rfl (fun w hw => (jt ca w hw).load Tryz.isAgg45 hp) (by first | rfl | omega) ?_ | refine zo (t := 45) rfl _ _ _ rfl (fun w hw => (jt cb w hw).load Tryz.isAgg45 hp2) (by first | rfl | omega) ?_ | refine wG rfl x1 x2 rfl rfl _ q9 ?_ | refine qB ?_ | refine qC ?_); simp only [zn]; go_big_quiet_on) | (go_big_quiet_op; go_big_quiet_on)))
     refine wpQuiet_nil ?_; refine qz ?_; intro wn za hE; have zf := B.size; have zg := za.size; replace B := B.trans (za.mono B.size)
     (try replace ca := ca.below za)
     (try replace cb := cb.below za)
     clear hE; try simp only [List.drop_succ_cons, List.drop_zero]
     refine zQ.normal ?_; go_upto_region 5 with fail
     refine wp_region_lit ?_; refine zx 3 ?_; refine wpList_nil ?_; go_wp2; go_roundw
     case rel => exact ⟨k + 1, by omega, by go_num, HN, B⟩
     case measure => simp [intOf]; omega
    ·have q9 : decide (x1 = x2) = !true := decide_eq_false hxx
     have HN := Lib.hid (show ¬ l = m from Vl (i := k) (by rw [hp, hp2]; intro h; injection h with h; exact hxx h))
     clear hxx; go_upto_region 4 with fail
     refine wp_region_lit ?_; refine zx 2 ?_; refine zw (by first | rfl | simp [Region.wanted, yielded]) rfl Tryz.underlying35 rfl ?_; simp only [zn]; refine zx 1 ?_; refine wpList_nil ?_; go_upto_region 6 with fail
     try have lx_ca := ca.lt
     try have lx_cb := cb.lt
     refine zL 9 [] (by kernel_rfl) (by kernel_rfl) (by kernel_rfl) ?_
     rotate_left 0
     simp only [jU, Nat.reduceAdd]; refine ug 9 ?_; repeat (first | go_big_quiet_skip | (go_big_quiet_want; first | ((first | refine zo (t := 45) rfl _ _ _ rfl (fun w hw => (jt ca w hw).load Tryz.isAgg45 hp) (by first | rfl | omega) ?_ | refine zo (t := 45) rfl _ _ _ rfl (fun w hw => (jt cb w hw).load Tryz.isAgg45 hp2) (by first | rfl | omega) ?_ | refine wG rfl x1 x2 rfl rfl _ q9 ?_ | refine qB ?_ | refine qC ?_); simp only [zn]; go_big_quiet_on) | (go_big_quiet_op; go_big_quiet_on)))
     refine wpQuiet_nil ?_; refine qz ?_; intro wn za hE; have zf := B.size; have zg := za.size; replace B := B.trans (za.mono B.size); clear hE; try simp only [List.drop_succ_cons, List.drop_zero]
     refine zQ.normal ?_; have HB : b = false := by rw [← HE.out]; exact decide_eq_false (HN.out)
     go_upto_region 7 with fail
     refine wp_region_lit ?_; refine zx 1 ?_; refine wpList_nil ?_; go_wp2; go_ret; exact ⟨by (rw [HB]) <;> rfl, B⟩
   ·have q1 : decide ((k : Int) < (l.length : Int)) = false := decide_eq_false (by omega)
    have q2 : decide (k < l.length) = false := decide_eq_false hkl; have HN : l = m := zaW hlen (fun i hi => HA.out i (by omega)); have HB : b = true := by rw [← HE.out]; exact decide_eq_true (HN)
    clear HN; go_upto_region 4 with fail
    refine wp_region_lit ?_; refine zx 2 ?_; refine zw (by first | rfl | simp [Region.wanted, yielded]) rfl Tryz.underlying35 rfl ?_; simp only [zn]; refine zx 1 ?_; refine wpList_nil ?_; go_upto_region 8 with fail
    refine wp_region_lit ?_; refine zx 1 ?_; refine wpList_nil ?_; go_wp2; go_ret; exact ⟨by (rw [HB]) <;> rfl, B⟩
 ·have q0 : ((l.length : Int) != (m.length : Int)) = true := by simp; omega
  have q0' : ((l.length : Int) == (m.length : Int)) = false := by simp; omega
  have HB : b = false := by rw [← HE.out]; exact decide_eq_false (fun k => hlen (by rw [k]))
  refine wp_region_lit ?_; refine zx 1 ?_; refine zw (by first | rfl | simp [Region.wanted, yielded]) rfl Tryz.underlying35 rfl ?_; simp only [zn]; refine zx 1 ?_; refine zw (by first | rfl | simp [Region.wanted, yielded]) rfl Tryz.underlying35 rfl ?_; simp only [zn]; refine zx 1 ?_; refine wpList_nil ?_; go_upto_region 2 with fail
  refine wp_region_lit ?_; refine zx 1 ?_; refine wpList_nil ?_; go_wp2; go_ret; exact ⟨by (rw [HB]) <;> rfl, B⟩
/-! ### Same -/
def EqS (s t : qv) : Prop := s.pts = t.pts ∧ s.rad = t.rad ∧ s.spa = t.spa ∧ s.col = t.col ∧ s.era = t.era ∧ s.pha = t.pha
theorem EqS.eq {s t : qv} : EqS s t ↔ s = t := by
 obtain ⟨a, b, c, d, e, f⟩ := s
 obtain ⟨a', b', c', d', e', f'⟩ := t
 unfold EqS
 simp only [qv.mk.injEq]
instance (s t : qv) : Decidable (EqS s t) := by unfold EqS; infer_instance
theorem z8 {o : Oper} {a : Act} {C : World → Prop} {K : Act → Prop} {p q : Operand} {t2 : TypeId} (h : o.op = .binOp .neq 28 p q t2) (x y : Px) (hx : a.eval p = .agg #[.int .u8 x.r, .int .u8 x.g, .int .u8 x.b, .int .u8 x.a]) (hy : a.eval q = .agg #[.int .u8 y.r, .int .u8 y.g, .int .u8 y.b, .int .u8 y.a]) (b : Bool) (hb : decide (x = y) = !b) (hk : K (a.put o.dst (.bool b))) : o.quiet Tryz.prog a C K :=
 ⟨_, fun w hw => by
  have hg : (eqGuard .neq 28 p q (.agg #[.int .u8 x.r, .int .u8 x.g, .int .u8 x.b, .int .u8 x.a]) (.agg #[.int .u8 y.r, .int .u8 y.g, .int .u8 y.b, .int .u8 y.a])).run Tryz.prog w = .ok () w := run_eqGuard_agg w _ 28 p q _ _ (by kernel_rfl); have hn : (binOp .neq 28 (.agg #[.int .u8 x.r, .int .u8 x.g, .int .u8 x.b, .int .u8 x.a]) (.agg #[.int .u8 y.r, .int .u8 y.g, .int .u8 y.b, .int .u8 y.a])).run Tryz.prog w = .ok (.bool b) w := (zew x y w).trans (by rw [hb, Bool.not_not]); unfold Oper.quietAt execOp; simp only [h, hx, hy, hg, hn, Sem.run_bind, Sem.run_pure, Result.andThen_ok]; exact ⟨rfl, rfl⟩, hk⟩
set_option maxHeartbeats 4000000 in
theorem vF (v v' : Value) (s t : qv) (b : Bool) (w : World) (h : jF qD v s.pts w) (h' : jF qD v' t.pts w) (hn : s.pts.length ≤ 1000000) (hn' : t.pts.length ≤ 1000000) (e : decide (EqS s t) = b) : Calls Tryz.prog 28 #[.agg (qw v s), .agg (qw v' t)] w fun e w' => e = .returned (.bool b) ∧ Below w.heap.size w w' := by
 have B := Below.refl w.heap.size w
 obtain ⟨a1, c1, rfl, _⟩ := h.len
 obtain ⟨a2, c2, rfl, _⟩ := h'.len
 have H1 := Lib.hid h
 have H2 := Lib.hid h'
 have HE := Lib.hid e
 clear h h' e
 go_enter Tryz.func28, Tryz.ntmps28
 go_upto_region 0 with fail
 refine wp_region_lit ?_
 (refine zt (t := 30) rfl _ rfl _ rfl (zV B ?_); clear B; intro b_r2 wn zb zd r2 za zf zk B; simp only [zn])
 (refine zt (t := 30) rfl _ rfl _ rfl (zV B ?_); clear B; intro b_r3 wn zb zd r3 za zf zk B; (try have zh := r2.lt); (try replace r2 := r2.below (za.mono zb)); simp only [zn])
 refine zx 1 ?_
 refine wpList_nil ?_
 have hr23 : b_r2 < b_r3 := by have := r2.lt; omega
 go_upto_region 1 with fail
 by_cases h0 : ¬ s.pts.length = t.pts.length
 ·have q0 : ((s.pts.length : Int) != (t.pts.length : Int)) = true := by simp; first | exact h0 | omega
  have q0' : ((s.pts.length : Int) == (t.pts.length : Int)) = false := by simp; first | exact h0 | omega
  have HB : b = false := by rw [← HE.out]; exact decide_eq_false (fun k => h0 (congrArg List.length k.1))
  refine wp_region_lit ?_; refine jG 2 ?_
  repeat (first | go_big_quiet_skip | (go_big_quiet_want; first | ((first | refine z8 rfl s.col t.col rfl rfl _ q13 ?_ | refine qB ?_ | refine qC ?_); simp only [zn]; go_big_quiet_on) | (go_big_quiet_op; go_big_quiet_on)))
  refine wpQuiet_nil ?_; refine zw (by first | rfl | simp [Region.wanted, yielded]) rfl Tryz.underlying26 rfl ?_; simp only [zn]; refine jG 2 ?_
  repeat (first | go_big_quiet_skip | (go_big_quiet_want; first | ((first | refine z8 rfl s.col t.col rfl rfl _ q13 ?_ | refine qB ?_ | refine qC ?_); simp only [zn]; go_big_quiet_on) | (go_big_quiet_op; go_big_quiet_on)))
  refine wpQuiet_nil ?_; refine zw (by first | rfl | simp [Region.wanted, yielded]) rfl Tryz.underlying26 rfl ?_; simp only [zn]; refine jG 36 ?_
  repeat (first | go_big_quiet_skip | (go_big_quiet_want; first | ((first | refine zo (t := 28) rfl _ _ _ rfl (fun w hw => jS (zD r2 w hw)) (by rfl) ?_ | refine zo (t := 28) rfl _ _ _ rfl (fun w hw => jS (zD r3 w hw)) (by rfl) ?_ | refine z8 rfl s.col t.col rfl rfl _ q13 ?_ | refine qB ?_ | refine qC ?_); simp only [zn]; go_big_quiet_on) | (go_big_quiet_op; go_big_quiet_on)))
  refine wpQuiet_nil ?_; refine wpList_nil ?_; go_upto_region 2 with fail
  refine wp_region_lit ?_; refine zx 1 ?_; refine wpList_nil ?_; go_wp2; go_ret; exact ⟨by (rw [HB]) <;> rfl, B⟩
 ·by_cases h1 : ¬ s.rad = t.rad
  ·have q0 : ((s.pts.length : Int) != (t.pts.length : Int)) = false := by simp; first | exact Decidable.not_not.1 h0 | omega
   have q0' : ((s.pts.length : Int) == (t.pts.length : Int)) = true := by simp; first | exact Decidable.not_not.1 h0 | omega
   have q1 : (s.rad != t.rad) = true := by simp; first | exact h1 | omega
   have q1' : (s.rad == t.rad) = false := by simp; first | exact h1 | omega
   have HB : b = false := by rw [← HE.out]; exact decide_eq_false (fun k => h1 k.2.1)
   refine wp_region_lit ?_; refine jG 2 ?_
   repeat (first | go_big_quiet_skip | (go_big_quiet_want; first | ((first | refine z8 rfl s.col t.col rfl rfl _ q13 ?_ | refine qB ?_ | refine qC ?_); simp only [zn]; go_big_quiet_on) | (go_big_quiet_op; go_big_quiet_on)))
   refine wpQuiet_nil ?_; refine zw (by first | rfl | simp [Region.wanted, yielded]) rfl Tryz.underlying26 rfl ?_; simp only [zn]; refine jG 2 ?_
   repeat (first | go_big_quiet_skip | (go_big_quiet_want; first | ((first | refine z8 rfl s.col t.col rfl rfl _ q13 ?_ | refine qB ?_ | refine qC ?_); simp only [zn]; go_big_quiet_on) | (go_big_quiet_op; go_big_quiet_on)))
   refine wpQuiet_nil ?_; refine zw (by first | rfl | simp [Region.wanted, yielded]) rfl Tryz.underlying26 rfl ?_; simp only [zn]; refine jG 36 ?_
   repeat (first | go_big_quiet_skip | (go_big_quiet_want; first | ((first | refine zo (t := 28) rfl _ _ _ rfl (fun w hw => jS (zD r2 w hw)) (by rfl) ?_ | refine zo (t := 28) rfl _ _ _ rfl (fun w hw => jS (zD r3 w hw)) (by rfl) ?_ | refine z8 rfl s.col t.col rfl rfl _ q13 ?_ | refine qB ?_ | refine qC ?_); simp only [zn]; go_big_quiet_on) | (go_big_quiet_op; go_big_quiet_on)))
   refine wpQuiet_nil ?_; refine wpList_nil ?_; go_upto_region 2 with fail
   refine wp_region_lit ?_; refine zx 1 ?_; refine wpList_nil ?_; go_wp2; go_ret; exact ⟨by (rw [HB]) <;> rfl, B⟩
  ·by_cases h2 : ¬ s.spa = t.spa
   ·have q0 : ((s.pts.length : Int) != (t.pts.length : Int)) = false := by simp; first | exact Decidable.not_not.1 h0 | omega
    have q0' : ((s.pts.length : Int) == (t.pts.length : Int)) = true := by simp; first | exact Decidable.not_not.1 h0 | omega
    have q1 : (s.rad != t.rad) = false := by simp; first | exact Decidable.not_not.1 h1 | omega
    have q1' : (s.rad == t.rad) = true := by simp; first | exact Decidable.not_not.1 h1 | omega
    have q2 : (s.spa != t.spa) = true := by simp; first | exact h2 | omega
    have q2' : (s.spa == t.spa) = false := by simp; first | exact h2 | omega
    have HB : b = false := by rw [← HE.out]; exact decide_eq_false (fun k => h2 k.2.2.1)
    refine wp_region_lit ?_; refine jG 2 ?_
    repeat (first | go_big_quiet_skip | (go_big_quiet_want; first | ((first | refine z8 rfl s.col t.col rfl rfl _ q13 ?_ | refine qB ?_ | refine qC ?_); simp only [zn]; go_big_quiet_on) | (go_big_quiet_op; go_big_quiet_on)))
    refine wpQuiet_nil ?_; refine zw (by first | rfl | simp [Region.wanted, yielded]) rfl Tryz.underlying26 rfl ?_; simp only [zn]; refine jG 2 ?_
    repeat (first | go_big_quiet_skip | (go_big_quiet_want; first | ((first | refine z8 rfl s.col t.col rfl rfl _ q13 ?_ | refine qB ?_ | refine qC ?_); simp only [zn]; go_big_quiet_on) | (go_big_quiet_op; go_big_quiet_on)))
    refine wpQuiet_nil ?_; refine zw (by first | rfl | simp [Region.wanted, yielded]) rfl Tryz.underlying26 rfl ?_; simp only [zn]; refine jG 36 ?_
    repeat (first | go_big_quiet_skip | (go_big_quiet_want; first | ((first | refine zo (t := 28) rfl _ _ _ rfl (fun w hw => jS (zD r2 w hw)) (by rfl) ?_ | refine zo (t := 28) rfl _ _ _ rfl (fun w hw => jS (zD r3 w hw)) (by rfl) ?_ | refine z8 rfl s.col t.col rfl rfl _ q13 ?_ | refine qB ?_ | refine qC ?_); simp only [zn]; go_big_quiet_on) | (go_big_quiet_op; go_big_quiet_on)))
    refine wpQuiet_nil ?_; refine wpList_nil ?_; go_upto_region 2 with fail
    refine wp_region_lit ?_; refine zx 1 ?_; refine wpList_nil ?_; go_wp2; go_ret; exact ⟨by (rw [HB]) <;> rfl, B⟩
   ·by_cases h3 : ¬ s.col = t.col
    ·have q0 : ((s.pts.length : Int) != (t.pts.length : Int)) = false := by simp; first | exact Decidable.not_not.1 h0 | omega
     have q0' : ((s.pts.length : Int) == (t.pts.length : Int)) = true := by simp; first | exact Decidable.not_not.1 h0 | omega
     have q1 : (s.rad != t.rad) = false := by simp; first | exact Decidable.not_not.1 h1 | omega
     have q1' : (s.rad == t.rad) = true := by simp; first | exact Decidable.not_not.1 h1 | omega
     have q2 : (s.spa != t.spa) = false := by simp; first | exact Decidable.not_not.1 h2 | omega
     have q2' : (s.spa == t.spa) = true := by simp; first | exact Decidable.not_not.1 h2 | omega
     have q13 : decide (s.col = t.col) = !true := decide_eq_false h3; have HB : b = false := by rw [← HE.out]; exact decide_eq_false (fun k => h3 k.2.2.2.1)
     refine wp_region_lit ?_; refine jG 2 ?_
     repeat (first | go_big_quiet_skip | (go_big_quiet_want; first | ((first | refine z8 rfl s.col t.col rfl rfl _ q13 ?_ | refine qB ?_ | refine qC ?_); simp only [zn]; go_big_quiet_on) | (go_big_quiet_op; go_big_quiet_on)))
     refine wpQuiet_nil ?_; refine zw (by first | rfl | simp [Region.wanted, yielded]) rfl Tryz.underlying26 rfl ?_; simp only [zn]; refine jG 2 ?_
     repeat (first | go_big_quiet_skip | (go_big_quiet_want; first | ((first | refine z8 rfl s.col t.col rfl rfl _ q13 ?_ | refine qB ?_ | refine qC ?_); simp only [zn]; go_big_quiet_on) | (go_big_quiet_op; go_big_quiet_on)))
     refine wpQuiet_nil ?_; refine zw (by first | rfl | simp [Region.wanted, yielded]) rfl Tryz.underlying26 rfl ?_; simp only [zn]; refine jG 36 ?_
     repeat (first | go_big_quiet_skip | (go_big_quiet_want; first | ((first | refine zo (t := 28) rfl _ _ _ rfl (fun w hw => jS (zD r2 w hw)) (by rfl) ?_ | refine zo (t := 28) rfl _ _ _ rfl (fun w hw => jS (zD r3 w hw)) (by rfl) ?_ | refine z8 rfl s.col t.col rfl rfl _ q13 ?_ | refine qB ?_ | refine qC ?_); simp only [zn]; go_big_quiet_on) | (go_big_quiet_op; go_big_quiet_on)))
     refine wpQuiet_nil ?_; refine wpList_nil ?_; go_upto_region 2 with fail
     refine wp_region_lit ?_; refine zx 1 ?_; refine wpList_nil ?_; go_wp2; go_ret; exact ⟨by (rw [HB]) <;> rfl, B⟩
    ·by_cases h4 : ¬ s.era = t.era
     ·have q0 : ((s.pts.length : Int) != (t.pts.length : Int)) = false := by simp; first | exact Decidable.not_not.1 h0 | omega
      have q0' : ((s.pts.length : Int) == (t.pts.length : Int)) = true := by simp; first | exact Decidable.not_not.1 h0 | omega
      have q1 : (s.rad != t.rad) = false := by simp; first | exact Decidable.not_not.1 h1 | omega
      have q1' : (s.rad == t.rad) = true := by simp; first | exact Decidable.not_not.1 h1 | omega
      have q2 : (s.spa != t.spa) = false := by simp; first | exact Decidable.not_not.1 h2 | omega
      have q2' : (s.spa == t.spa) = true := by simp; first | exact Decidable.not_not.1 h2 | omega
      have q13 : decide (s.col = t.col) = !false := decide_eq_true (Decidable.not_not.1 h3); have q4 : (s.era != t.era) = true := by simp; first | exact h4 | omega
      have q4' : (s.era == t.era) = false := by simp; first | exact h4 | omega
      have HB : b = false := by rw [← HE.out]; exact decide_eq_false (fun k => h4 k.2.2.2.2.1)
      refine wp_region_lit ?_; refine jG 2 ?_
      repeat (first | go_big_quiet_skip | (go_big_quiet_want; first | ((first | refine z8 rfl s.col t.col rfl rfl _ q13 ?_ | refine qB ?_ | refine qC ?_); simp only [zn]; go_big_quiet_on) | (go_big_quiet_op; go_big_quiet_on)))
      refine wpQuiet_nil ?_; refine zw (by first | rfl | simp [Region.wanted, yielded]) rfl Tryz.underlying26 rfl ?_; simp only [zn]; refine jG 2 ?_
      repeat (first | go_big_quiet_skip | (go_big_quiet_want; first | ((first | refine z8 rfl s.col t.col rfl rfl _ q13 ?_ | refine qB ?_ | refine qC ?_); simp only [zn]; go_big_quiet_on) | (go_big_quiet_op; go_big_quiet_on)))
      refine wpQuiet_nil ?_; refine zw (by first | rfl | simp [Region.wanted, yielded]) rfl Tryz.underlying26 rfl ?_; simp only [zn]; refine jG 36 ?_
      repeat (first | go_big_quiet_skip | (go_big_quiet_want; first | ((first | refine zo (t := 28) rfl _ _ _ rfl (fun w hw => jS (zD r2 w hw)) (by rfl) ?_ | refine zo (t := 28) rfl _ _ _ rfl (fun w hw => jS (zD r3 w hw)) (by rfl) ?_ | refine z8 rfl s.col t.col rfl rfl _ q13 ?_ | refine qB ?_ | refine qC ?_); simp only [zn]; go_big_quiet_on) | (go_big_quiet_op; go_big_quiet_on)))
      refine wpQuiet_nil ?_; refine wpList_nil ?_; go_upto_region 2 with fail
      refine wp_region_lit ?_; refine zx 1 ?_; refine wpList_nil ?_; go_wp2; go_ret; exact ⟨by (rw [HB]) <;> rfl, B⟩
     ·by_cases h5 : ¬ s.pha = t.pha
      ·have q0 : ((s.pts.length : Int) != (t.pts.length : Int)) = false := by simp; first | exact Decidable.not_not.1 h0 | omega
       have q0' : ((s.pts.length : Int) == (t.pts.length : Int)) = true := by simp; first | exact Decidable.not_not.1 h0 | omega
       have q1 : (s.rad != t.rad) = false := by simp; first | exact Decidable.not_not.1 h1 | omega
       have q1' : (s.rad == t.rad) = true := by simp; first | exact Decidable.not_not.1 h1 | omega
       have q2 : (s.spa != t.spa) = false := by simp; first | exact Decidable.not_not.1 h2 | omega
       have q2' : (s.spa == t.spa) = true := by simp; first | exact Decidable.not_not.1 h2 | omega
       have q13 : decide (s.col = t.col) = !false := decide_eq_true (Decidable.not_not.1 h3); have q4 : (s.era != t.era) = false := by simp; first | exact Decidable.not_not.1 h4 | omega
       have q4' : (s.era == t.era) = true := by simp; first | exact Decidable.not_not.1 h4 | omega
       have q5 : (s.pha != t.pha) = true := by simp; first | exact h5 | omega
       have q5' : (s.pha == t.pha) = false := by simp; first | exact h5 | omega
       have HB : b = false := by rw [← HE.out]; exact decide_eq_false (fun k => h5 k.2.2.2.2.2)
       refine wp_region_lit ?_; refine jG 2 ?_
       repeat (first | go_big_quiet_skip | (go_big_quiet_want; first | ((first | refine z8 rfl s.col t.col rfl rfl _ q13 ?_ | refine qB ?_ | refine qC ?_); simp only [zn]; go_big_quiet_on) | (go_big_quiet_op; go_big_quiet_on)))
       refine wpQuiet_nil ?_; refine zw (by first | rfl | simp [Region.wanted, yielded]) rfl Tryz.underlying26 rfl ?_; simp only [zn]; refine jG 2 ?_
       repeat (first | go_big_quiet_skip | (go_big_quiet_want; first | ((first | refine z8 rfl s.col t.col rfl rfl _ q13 ?_ | refine qB ?_ | refine qC ?_); simp only [zn]; go_big_quiet_on) | (go_big_quiet_op; go_big_quiet_on)))
       refine wpQuiet_nil ?_; refine zw (by first | rfl | simp [Region.wanted, yielded]) rfl Tryz.underlying26 rfl ?_; simp only [zn]; refine jG 36 ?_
       repeat (first | go_big_quiet_skip | (go_big_quiet_want; first | ((first | refine zo (t := 28) rfl _ _ _ rfl (fun w hw => jS (zD r2 w hw)) (by rfl) ?_ | refine zo (t := 28) rfl _ _ _ rfl (fun w hw => jS (zD r3 w hw)) (by rfl) ?_ | refine z8 rfl s.col t.col rfl rfl _ q13 ?_ | refine qB ?_ | refine qC ?_); simp only [zn]; go_big_quiet_on) | (go_big_quiet_op; go_big_quiet_on)))
       refine wpQuiet_nil ?_; refine wpList_nil ?_; go_upto_region 2 with fail
       refine wp_region_lit ?_; refine zx 1 ?_; refine wpList_nil ?_; go_wp2; go_ret; exact ⟨by (rw [HB]) <;> rfl, B⟩
      ·have q0 : ((s.pts.length : Int) != (t.pts.length : Int)) = false := by simp; first | exact Decidable.not_not.1 h0 | omega
       have q0' : ((s.pts.length : Int) == (t.pts.length : Int)) = true := by simp; first | exact Decidable.not_not.1 h0 | omega
       have q1 : (s.rad != t.rad) = false := by simp; first | exact Decidable.not_not.1 h1 | omega
       have q1' : (s.rad == t.rad) = true := by simp; first | exact Decidable.not_not.1 h1 | omega
       have q2 : (s.spa != t.spa) = false := by simp; first | exact Decidable.not_not.1 h2 | omega
       have q2' : (s.spa == t.spa) = true := by simp; first | exact Decidable.not_not.1 h2 | omega
       have q13 : decide (s.col = t.col) = !false := decide_eq_true (Decidable.not_not.1 h3); have q4 : (s.era != t.era) = false := by simp; first | exact Decidable.not_not.1 h4 | omega
       have q4' : (s.era == t.era) = true := by simp; first | exact Decidable.not_not.1 h4 | omega
       have q5 : (s.pha != t.pha) = false := by simp; first | exact Decidable.not_not.1 h5 | omega
       have q5' : (s.pha == t.pha) = true := by simp; first | exact Decidable.not_not.1 h5 | omega
       have hlen := Decidable.not_not.1 h0; have HX := Lib.hid (fun k => (show EqS s t from ⟨k, Decidable.not_not.1 h1, Decidable.not_not.1 h2, Decidable.not_not.1 h3, Decidable.not_not.1 h4, Decidable.not_not.1 h5⟩)); refine wp_region_lit ?_; refine jG 2 ?_
       repeat (first | go_big_quiet_skip | (go_big_quiet_want; first | ((first | refine z8 rfl s.col t.col rfl rfl _ q13 ?_ | refine qB ?_ | refine qC ?_); simp only [zn]; go_big_quiet_on) | (go_big_quiet_op; go_big_quiet_on)))
       refine wpQuiet_nil ?_; refine zw (by first | rfl | simp [Region.wanted, yielded]) rfl Tryz.underlying26 rfl ?_; simp only [zn]; refine jG 2 ?_
       repeat (first | go_big_quiet_skip | (go_big_quiet_want; first | ((first | refine z8 rfl s.col t.col rfl rfl _ q13 ?_ | refine qB ?_ | refine qC ?_); simp only [zn]; go_big_quiet_on) | (go_big_quiet_op; go_big_quiet_on)))
       refine wpQuiet_nil ?_; refine zw (by first | rfl | simp [Region.wanted, yielded]) rfl Tryz.underlying26 rfl ?_; simp only [zn]; refine jG 36 ?_
       repeat (first | go_big_quiet_skip | (go_big_quiet_want; first | ((first | refine zo (t := 28) rfl _ _ _ rfl (fun w hw => jS (zD r2 w hw)) (by rfl) ?_ | refine zo (t := 28) rfl _ _ _ rfl (fun w hw => jS (zD r3 w hw)) (by rfl) ?_ | refine z8 rfl s.col t.col rfl rfl _ q13 ?_ | refine qB ?_ | refine qC ?_); simp only [zn]; go_big_quiet_on) | (go_big_quiet_op; go_big_quiet_on)))
       refine wpQuiet_nil ?_; refine wpList_nil ?_; clear h0 h1 h2 h3 h4 h5 q13 q4 q4'; go_upto_region 3 with fail
       refine wp_region_lit ?_; refine zx 1 ?_; refine wpList_nil ?_; go_wp2; go_loopw [5] (fun iv wr => ∃ k : Nat, k ≤ s.pts.length ∧ iv = .int .i64 (k : Int) ∧ Hid (∀ i, i < k → s.pts[i]? = t.pts[i]?) ∧ Below w.heap.size w wr ∧ zF 30 wr b_r2 (qw (.slice a1 s.pts.length c1) s) ∧ zF 30 wr b_r3 (qw (.slice a2 t.pts.length c2) t)) (fun iv _ => (s.pts.length - intOf iv).toNat)
       case atStart => exact ⟨0, by omega, rfl, Lib.hid fun i hi => absurd hi (by omega), B, r2, r3⟩
       case round =>
        clear B r2 r3; obtain ⟨k, hk, rfl, HA, B, r2, r3⟩ := hrel; by_cases hkl : k < s.pts.length
        ·have q1 : decide ((k : Int) < (s.pts.length : Int)) = true := decide_eq_true (by omega)
         have q2 : decide (k < s.pts.length) = true := decide_eq_true hkl; have hkm : k < t.pts.length := by omega
         have q3 : decide ((k : Int) < (t.pts.length : Int)) = true := decide_eq_true (by omega); have q4 : decide (k < t.pts.length) = true := decide_eq_true hkm; obtain ⟨g1, o1, rfl, ca0⟩ := H1.out.at (by omega); obtain ⟨g2, o2, rfl, cb0⟩ := H2.out.at (by omega); have ca := ca0.of_eq (B.block _ ca0.lt); have cb := cb0.of_eq (B.block _ cb0.lt); clear ca0 cb0; have hp := qW (l := s.pts) hkl; have hp2 := qW (l := t.pts) hkm
         generalize hx1 : qR s.pts k = x1 at *
         generalize hx2 : qR t.pts k = x2 at *
         clear hx1 hx2; by_cases hxx : x1 = x2
         ·have q9 : decide (x1 = x2) = !false := decide_eq_true hxx
          have HN := Lib.hid (show ∀ i, i < k + 1 → s.pts[i]? = t.pts[i]? from fun i hi => by
           by_cases hik : i = k
           ·rw [hik, hp, hp2, hxx]
           ·exact HA.out i (by omega))
          clear hxx; go_upto_region 4 with fail
          refine wp_region_lit ?_; refine zx 3 ?_
          refine zw (by first | rfl | simp [Region.wanted, yielded]) rfl Tryz.underlying26 rfl ?_; simp only [zn]; refine zx 1 ?_; refine wpList_nil ?_; go_upto_region 6 with fail
          try have lx_r2 := r2.lt
          try have lx_r3 := r3.lt
          try have lx_ca := ca.lt
          try have lx_cb := cb.lt
          refine zL 11 [] (by kernel_rfl) (by kernel_rfl) (by kernel_rfl) ?_
          rotate_left 0
          simp only [jU, Nat.reduceAdd]; refine ug 11 ?_
          repeat (first | go_big_quiet_skip | (go_big_quiet_want; first | ((first | refine zo (t := 43) rfl _ _ _ rfl (fun w hw => (jt ca w hw).load Tryz.isAgg43 hp) (by first | rfl | omega) ?_ | refine zo (t := 43) rfl _ _ _ rfl (fun w hw => (jt cb w hw).load Tryz.isAgg43 hp2) (by first | rfl | omega) ?_ | refine wH rfl x1 x2 rfl rfl _ q9 ?_ | refine qB ?_ | refine qC ?_); simp only [zn]; go_big_quiet_on) | (go_big_quiet_op; go_big_quiet_on)))
          refine wpQuiet_nil ?_; refine qz ?_; intro wn za hE; have zf := B.size; have zg := za.size; replace B := B.trans (za.mono B.size)
          (try replace r2 := r2.below za)
          (try replace r3 := r3.below za)
          (try replace ca := ca.below za)
          (try replace cb := cb.below za)
          clear hE; try simp only [List.drop_succ_cons, List.drop_zero]
          refine zQ.normal ?_; go_upto_region 5 with fail
          refine wp_region_lit ?_; refine zx 3 ?_; refine wpList_nil ?_; go_wp2; go_roundw
          case rel => exact ⟨k + 1, by omega, by go_num, HN, B, r2, r3⟩
          case measure => simp [intOf]; omega
         ·have q9 : decide (x1 = x2) = !true := decide_eq_false hxx
          have HN := Lib.hid (show ¬ s.pts = t.pts from Vl (i := k) (by rw [hp, hp2]; intro h; injection h with h; exact hxx h))
          clear hxx; go_upto_region 4 with fail
          refine wp_region_lit ?_; refine zx 3 ?_
          refine zw (by first | rfl | simp [Region.wanted, yielded]) rfl Tryz.underlying26 rfl ?_; simp only [zn]; refine zx 1 ?_; refine wpList_nil ?_; go_upto_region 6 with fail
          try have lx_r2 := r2.lt
          try have lx_r3 := r3.lt
          try have lx_ca := ca.lt
          try have lx_cb := cb.lt
          refine zL 11 [] (by kernel_rfl) (by kernel_rfl) (by kernel_rfl) ?_
          rotate_left 0
          simp only [jU, Nat.reduceAdd]; refine ug 11 ?_
          repeat (first | go_big_quiet_skip | (go_big_quiet_want; first | ((first | refine zo (t := 43) rfl _ _ _ rfl (fun w hw => (jt ca w hw).load Tryz.isAgg43 hp) (by first | rfl | omega) ?_ | refine zo (t := 43) rfl _ _ _ rfl (fun w hw => (jt cb w hw).load Tryz.isAgg43 hp2) (by first | rfl | omega) ?_ | refine wH rfl x1 x2 rfl rfl _ q9 ?_ | refine qB ?_ | refine qC ?_); simp only [zn]; go_big_quiet_on) | (go_big_quiet_op; go_big_quiet_on)))
          refine wpQuiet_nil ?_; refine qz ?_; intro wn za hE; have zf := B.size; have zg := za.size; replace B := B.trans (za.mono B.size)
          (try replace r2 := r2.below za)
          (try replace r3 := r3.below za)
          clear hE; try simp only [List.drop_succ_cons, List.drop_zero]
          refine zQ.normal ?_; have HB : b = false := by rw [← HE.out]; exact decide_eq_false (fun k => HN.out k.1)
          go_upto_region 7 with fail
          refine wp_region_lit ?_; refine zx 1 ?_; refine wpList_nil ?_; go_wp2; go_ret; exact ⟨by (rw [HB]) <;> rfl, B⟩
        ·have q1 : decide ((k : Int) < (s.pts.length : Int)) = false := decide_eq_false (by omega)
         have q2 : decide (k < s.pts.length) = false := decide_eq_false hkl; have HN : s.pts = t.pts := zaW hlen (fun i hi => HA.out i (by omega)); have HB : b = true := by rw [← HE.out]; exact decide_eq_true (HX.out HN)
         clear HN; go_upto_region 4 with fail
         refine wp_region_lit ?_; refine zx 3 ?_
         refine zw (by first | rfl | simp [Region.wanted, yielded]) rfl Tryz.underlying26 rfl ?_; simp only [zn]; refine zx 1 ?_; refine wpList_nil ?_; go_upto_region 8 with fail
         refine wp_region_lit ?_; refine zx 1 ?_; refine wpList_nil ?_; go_wp2; go_ret; exact ⟨by (rw [HB]) <;> rfl, B⟩
/- Contracts of the reference's pick, Made. -/
theorem yo (L : List Int) (i : Nat) {m : Int} (hm : 0 < m) : 0 ≤ jD L i m ∧ jD L i m < m := by
 unfold jD
 split
 ·exact ⟨Int.emod_nonneg _ (by omega), Int.emod_lt_of_pos _ hm⟩
 ·omega
set_option maxHeartbeats 1000000 in
theorem xP (v : Value) (L : List Int) (i : Nat) (j m q : Int) (w : World) (h : jF inE v L w) (hn : L.length ≤ 17592186044416) (hj : j = i) (hm : 0 < m) (hm2 : m ≤ 1000000) (e : jD L i m = q) : Calls Tryz.prog 49 #[v, .int .i64 j, .int .i64 m] w fun e w' => e = .returned (.int .i64 q) ∧ Below w.heap.size w w' := by
 subst hj
 obtain ⟨a, c, rfl, hc⟩ := h.len
 have E := Lib.hid e
 by_cases hi : i < L.length
 ·have e1 : jD L i m = QM L i % 1048576 % m := by unfold jD; rw [if_pos hi]
  rw [e1] at E; obtain ⟨g, o, rfl, rc⟩ := h.at (by omega); have hix := hi; have b1 := Zz (QM L i); have d1 : decide ((i : Int) < (L.length : Int)) = true := decide_eq_true (by omega); have e0 : m ≠ 0 := by omega
  have e00 : (m == 0) = false := by simp; omega
  have hnn : 0 ≤ QM L i % 1048576 := by omega
  have t1 : Int.tmod (QM L i % 1048576) m = QM L i % 1048576 % m := Int.tmod_eq_emod_of_nonneg hnn; clear e e1; go_enter Tryz.func49, Tryz.ntmps49
  go_wp2_with (first | (refine zq (t := 3) rfl _ rfl _ _ _ rfl (zu (zdD rc (getD_some hix))) (by first | with_reducible rfl | omega) ?_; simp only [zn]) | fail)
  go_ret; exact ⟨by (rw [← E.out]) <;> rfl, by go_grown⟩
 ·have e1 : jD L i m = 0 := by unfold jD; rw [if_neg hi]
  have d1 : decide ((i : Int) < (L.length : Int)) = false := decide_eq_false (by omega); rw [e1] at E; clear e e1; go_enter Tryz.func49, Tryz.ntmps49
  go_wp2; go_ret; exact ⟨by (rw [← E.out]) <;> rfl, by go_grown⟩
def madeN (L : List Int) : Nat := (1 + jD L 5 6).toNat
def Kl (L : List Int) (i : Nat) : Sp := ⟨jD L (6 + 3 * i) 400 - 100, jD L (7 + 3 * i) 400 - 100, 255 - jD L (8 + 3 * i) 256⟩
def ke (L : List Int) (k : Nat) : List Sp := (List.range k).map (Kl L)
def xw (L : List Int) : qv := ⟨ke L (madeN L), 1 + jD L 0 64, 8 + jD L 1 120, kB (jD L 4 1000000), decide (jD L 3 4 = 1), jD L 2 100⟩
theorem XY (L : List Int) : 1 ≤ madeN L ∧ madeN L ≤ 6 := by
 have := yo L 5 (m := 6) (by omega)
 unfold madeN
 omega
theorem Zj (L : List Int) (k : Nat) : (ke L k).length = k := by unfold ke; rw [List.length_map, List.length_range]
theorem JS (L : List Int) (k : Nat) : ke L (k + 1) = ke L k ++ [Kl L k] := by
 unfold ke
 rw [List.range_succ, List.map_append]
 rfl
/-- A slice stored into a cell of a block. -/
theorem jQ {t : TypeId} {ops : Array Oper} {rest : List Oper} {o : Oper} {a : Act} {w : World} {Q : Exit → Act → World → Prop} (hg : o.guard = none) (x y : Operand) (ho : o.op = .store 26 x y) (b i : Nat) (hx : a.eval x = .pointer (some ⟨b, i, none⟩)) (ad : Option Addr) (n cp : Nat) (hy : a.eval y = .slice ad n cp) {cs : Array Value} (ht : zF t w b cs) {c : Value} (hc : cs[i]? = some c)
  (h : ∀ w', zF t w' b (cs.setIfInBounds i (.slice ad n cp)) → qN b w w' → w'.heap.size = w.heap.size → wpList Tryz.prog ops Q rest (a.put o.dst undef) w') : wpList Tryz.prog ops Q (o :: rest) a w := by
 have c0 := ht.cell i hc
 have f0 := ht.frozen i
 refine qe hg x y ho (w.setCell ⟨b, i, none⟩ (.slice ad n cp)) ?_ (h _ ?_ ((qN.refl b w).setCell _) (by simp only [World.size_setCell]))
 ·rw [hx, hy]
  simp [go_sem, c0, f0]
 ·exact heap_setCell_same w b i cs _ _ ht
def bsG (n : Nat) (t : TypeId) (cs : Array Value) : jo := ⟨Nat, ⟨0⟩, fun b => .slice (some ⟨b, 0, none⟩) 1 1, fun b w => n ≤ b ∧ zF t w b cs, fun _ _ _ hb h => ⟨h.1, h.2.of_eq (hb.block _ h.2.lt)⟩⟩
set_option maxHeartbeats 4000000 in
theorem Wc (v : Value) (L : List Int) (w : World) (ls : jF inE v L w) (hn : L.length ≤ 17592186044416) : Calls Tryz.prog 15 #[v] w fun e w' => ∃ a cp, e = .returned (.agg (qw (.slice a (xw L).pts.length cp) (xw L))) ∧ zW qD w.heap.size (.slice a (xw L).pts.length cp) (xw L).pts w' ∧ Below w.heap.size w w' := by
 have B := Below.refl w.heap.size w
 have HL := Lib.hid ls
 obtain ⟨a, c, rfl, hc⟩ := ls.len
 have k0 := yo L 0 (m := 64) (by omega)
 obtain ⟨p0, h0⟩ : ∃ p, jD L 0 64 = p := ⟨_, rfl⟩
 rw [h0] at k0
 have Hp0 := Lib.hid h0
 have k1 := yo L 1 (m := 120) (by omega)
 obtain ⟨p1, h1⟩ : ∃ p, jD L 1 120 = p := ⟨_, rfl⟩
 rw [h1] at k1
 have Hp1 := Lib.hid h1
 have k2 := yo L 2 (m := 100) (by omega)
 obtain ⟨p2, h2⟩ : ∃ p, jD L 2 100 = p := ⟨_, rfl⟩
 rw [h2] at k2
 have Hp2 := Lib.hid h2
 have k3 := yo L 3 (m := 4) (by omega)
 obtain ⟨p3, h3⟩ : ∃ p, jD L 3 4 = p := ⟨_, rfl⟩
 rw [h3] at k3
 have Hp3 := Lib.hid h3
 have k4 := yo L 4 (m := 1000000) (by omega)
 obtain ⟨p4, h4⟩ : ∃ p, jD L 4 1000000 = p := ⟨_, rfl⟩
 rw [h4] at k4
 have Hp4 := Lib.hid h4
 have k5 := yo L 5 (m := 6) (by omega)
 obtain ⟨p5, h5⟩ : ∃ p, jD L 5 6 = p := ⟨_, rfl⟩
 rw [h5] at k5
 have Hp5 := Lib.hid h5
 obtain ⟨e3, he3⟩ : ∃ e, decide (p3 = 1) = e := ⟨_, rfl⟩
 have he3' : (p3 == 1) = e3 := by rw [← he3]; rfl
 have HM := Lib.hid (show qw (.slice none 0 0) ⟨[], 1 + p0, 8 + p1, kB p4, e3, p2⟩ = qw (.slice none 0 0) (xw L) from by unfold xw qw; simp only; rw [h0, h1, h2, h3, h4, he3])
 have HNN := Lib.hid (show (madeN L : Int) = 1 + p5 from by unfold madeN; rw [h5]; omega)
 obtain ⟨nn, hnn⟩ : ∃ n, madeN L = n := ⟨_, rfl⟩
 have HNV := Lib.hid hnn
 rw [hnn] at HNN
 have hn6 : nn ≤ 6 := by have := HNN.out; omega
 clear h0 h1 h2 h3 h4 h5 hnn
 go_enter Tryz.func15, Tryz.ntmps15
 go_upto_region 0 with fail
 refine wp_region_lit ?_
 (refine zr (t := 30) rfl _ (zG _ _ rfl) (zV B ?_); clear B; intro b_r2 wn zb zd r2 za zf zk B; (try have zh := ls.lt); (try replace ls := ls.below (za.mono zb)); simp only [zn])
 refine wpList_nil ?_
 go_upto_region 1 with fail
 refine wp_region_lit ?_
 refine zx 1 ?_
 refine qE (enters_of Tryz.func49 (by kernel_rfl) rfl) (c := xP _ L 0 0 64 p0 _ ls hn (rfl) (by omega) (by omega) Hp0.out) (h := ?_)
 rintro e wn ⟨rfl, za⟩
 have zf := B.size
 have zg := za.size
 replace B := B.trans (za.mono B.size)
 (try replace r2 := r2.below za)
 (try replace ls := ls.below za)
 refine ⟨_, rfl, ?_⟩
 simp only [zn]
 refine zx 2 ?_
 refine qE (enters_of Tryz.func49 (by kernel_rfl) rfl) (c := xP _ L 1 1 120 p1 _ ls hn (rfl) (by omega) (by omega) Hp1.out) (h := ?_)
 rintro e wn ⟨rfl, za⟩
 have zf := B.size
 have zg := za.size
 replace B := B.trans (za.mono B.size)
 (try replace r2 := r2.below za)
 (try replace ls := ls.below za)
 refine ⟨_, rfl, ?_⟩
 simp only [zn]
 refine zx 2 ?_
 refine qE (enters_of Tryz.func49 (by kernel_rfl) rfl) (c := xP _ L 2 2 100 p2 _ ls hn (rfl) (by omega) (by omega) Hp2.out) (h := ?_)
 rintro e wn ⟨rfl, za⟩
 have zf := B.size
 have zg := za.size
 replace B := B.trans (za.mono B.size)
 (try replace r2 := r2.below za)
 (try replace ls := ls.below za)
 refine ⟨_, rfl, ?_⟩
 simp only [zn]
 refine zx 1 ?_
 refine qE (enters_of Tryz.func49 (by kernel_rfl) rfl) (c := xP _ L 3 3 4 p3 _ ls hn (rfl) (by omega) (by omega) Hp3.out) (h := ?_)
 rintro e wn ⟨rfl, za⟩
 have zf := B.size
 have zg := za.size
 replace B := B.trans (za.mono B.size)
 (try replace r2 := r2.below za)
 (try replace ls := ls.below za)
 refine ⟨_, rfl, ?_⟩
 simp only [zn]
 refine zx 2 ?_
 refine qE (enters_of Tryz.func49 (by kernel_rfl) rfl) (c := xP _ L 4 4 1000000 p4 _ ls hn (rfl) (by omega) (by omega) Hp4.out) (h := ?_)
 rintro e wn ⟨rfl, za⟩
 have zf := B.size
 have zg := za.size
 replace B := B.trans (za.mono B.size)
 (try replace r2 := r2.below za)
 (try replace ls := ls.below za)
 refine ⟨_, rfl, ?_⟩
 simp only [zn]
 refine qE (enters_of Tryz.func50 (by kernel_rfl) rfl) (c := zcO p4 _) (h := ?_)
 rintro e wn ⟨rfl, za⟩
 have zf := B.size
 have zg := za.size
 replace B := B.trans (za.mono B.size)
 (try replace r2 := r2.below za)
 (try replace ls := ls.below za)
 refine ⟨_, rfl, ?_⟩
 simp only [zn]
 (refine zM rfl (.agg (qw (.slice none 0 0) ⟨[], 1 + p0, 8 + p1, kB p4, e3, p2⟩)) (by kernel_rfl) ?_; simp only [zn])
 (refine zr (t := 30) rfl _ (zG _ _ rfl) (zV B ?_); clear B; intro b_r3 wn zb zd r3 za zf zk B; (try have zh := r2.lt); (try replace r2 := r2.below (za.mono zb)); (try have zh := ls.lt); (try replace ls := ls.below (za.mono zb)); simp only [zn])
 (refine zp (t := 30) rfl _ _ rfl _ rfl _ rfl r3 (by kernel_rfl) rfl (by simp [qw, Value.oneCell']) (qt B (by omega) ?_); clear r3 B; intro wn r3 ze zf zg B; (try replace r2 := r2.of_eq (ze.block _ r2.lt (by omega))); (try replace ls := ls.of_eq (ze.block _ ls.lt (by omega))); simp only [zn])
 refine wpList_nil ?_
 rw [HM.out] at r3
 replace ls := HL.out.below B
 go_upto_region 2 with fail
 refine wp_region_lit ?_
 refine zx 1 ?_
 refine qE (enters_of Tryz.func49 (by kernel_rfl) rfl) (c := xP _ L 5 5 6 p5 _ ls hn (rfl) (by omega) (by omega) Hp5.out) (h := ?_)
 rintro e wn ⟨rfl, za⟩
 have zf := B.size
 have zg := za.size
 replace B := B.trans (za.mono B.size)
 (try replace r2 := r2.below za)
 (try replace r3 := r3.below za)
 (try replace ls := ls.below za)
 refine ⟨_, rfl, ?_⟩
 simp only [zn]
 refine zx 2 ?_
 refine wpList_nil ?_
 have k6 : w.heap.size ≤ b_r2 := by omega
 have k7 : b_r2 < b_r3 := by have := r2.lt; omega
 have k8 := r3.lt
 obtain ⟨b0, hb0⟩ : ∃ n, n = wn.heap.size := ⟨_, rfl⟩
 have k9 : b_r3 < b0 := by omega
 have k10 : b0 ≤ wn.heap.size := by omega
 have od : zW qD b0 (.slice none 0 0) [] wn := zW.nil b0 wn
 clear hb0 k8
 rw [← HNN.out]
 clear ls
 go_wp2
 go_loopw [5] (fun iv wr => ∃ (k cp : Nat) (ad : Option Addr) (P : List Sp), k ≤ nn ∧ iv = .int .i64 (k : Int) ∧ Hid (ke L k = P) ∧ Below w.heap.size w wr ∧ b0 ≤ wr.heap.size ∧ zF 30 wr b_r2 #[.slice none 0 0, .int .i64 0, .int .i64 0, .int .u8 0, .int .u8 0, .int .u8 0, .int .u8 0, .bool false, .int .i64 0] ∧ zF 30 wr b_r3 (qw (.slice ad P.length cp) (xw L)) ∧ zW qD b0 (.slice ad P.length cp) P wr) (fun iv _ => (nn - intOf iv).toNat)
 case atStart => exact ⟨0, 0, none, [], by omega, rfl, Lib.hid rfl, B, k10, r2, r3, od⟩
 case round =>
  clear B r2 r3 od k10; obtain ⟨k, cp, ad, P, hk, rfl, HP, B, k10, r2, r3, od⟩ := hrel; have ls := HL.out.below B; by_cases hkn : k < nn
  ·have q1 : decide ((k : Int) < (nn : Int)) = true := decide_eq_true (by omega)
   have q2 : decide (k < nn) = true := decide_eq_true hkn; have j6 := yo L (6 + 3 * k) (m := 400) (by omega); obtain ⟨x6, g6⟩ : ∃ p, jD L (6 + 3 * k) 400 = p := ⟨_, rfl⟩; rw [g6] at j6; have Hx6 := Lib.hid g6; have j7 := yo L (7 + 3 * k) (m := 400) (by omega); obtain ⟨x7, g7⟩ : ∃ p, jD L (7 + 3 * k) 400 = p := ⟨_, rfl⟩; rw [g7] at j7; have Hx7 := Lib.hid g7; have j8 := yo L (8 + 3 * k) (m := 256) (by omega); obtain ⟨x8, g8⟩ : ∃ p, jD L (8 + 3 * k) 256 = p := ⟨_, rfl⟩; rw [g8] at j8; have Hx8 := Lib.hid g8; have HN := Lib.hid (show ke L (k + 1) = P ++ [⟨x6 - 100, x7 - 100, 255 - x8⟩] from by rw [JS, HP.out]; unfold Kl; rw [g6, g7, g8])
   have hPl : P.length ≤ 6 := by rw [← HP.out, Zj]; omega
   clear g6 g7 g8; go_upto_region 4 with fail
   refine wp_region_lit ?_; refine zx 3 ?_; refine wpList_nil ?_; go_upto_region 6 with fail
   try have lx_r2 := r2.lt
   try have lx_r3 := r3.lt
   try have lx_ls := ls.lt
   try have lx_od := od.lt
   refine zL 22 [(6, zP ?v1_6), (12, zP ?v1_12), (18, zP ?v1_18), (21, bsG (wr.heap.size) 43 (qD.enc ⟨x6 - 100, x7 - 100, 255 - x8⟩))] (by kernel_rfl) (by kernel_rfl) (by kernel_rfl) ?_
   rotate_left 3
   simp only [jU, Nat.reduceAdd]; refine vC 6 ?_
   refine zz (by rfl) (by first | rfl | simp [Region.wanted, yielded]) ?_ ?_
   ·intro wn za hE Kx hKx
    have zf := B.size; have zg := za.size; replace B := B.trans (za.mono B.size)
    (try replace r2 := r2.below za)
    (try replace r3 := r3.below za)
    (try replace ls := ls.below za)
    (try replace od := od.below za)
    refine zS rfl (enters_of Tryz.func49 (by kernel_rfl) rfl) (by simp only [Act.eval, qI]; rfl) ?_
    refine (xP _ L (6 + 3 * k) _ 400 x6 wn ls hn (by omega) (by omega) (by omega) Hx6.out).mono ?_; rintro e wm ⟨rfl, zl⟩; refine ⟨_, rfl, ?_⟩; have hz := hKx () wm trivial zl
    dsimp only [zP] at hz
    exact hz
   rintro ⟨⟩
   dsimp only [zP]
   simp only [zn]; refine vC 5 ?_; refine zz (by rfl) (by first | rfl | simp [Region.wanted, yielded]) ?_ ?_
   ·intro wn za hE Kx hKx
    have zf := B.size; have zg := za.size; replace B := B.trans (za.mono B.size)
    (try replace r2 := r2.below za)
    (try replace r3 := r3.below za)
    (try replace ls := ls.below za)
    (try replace od := od.below za)
    refine zS rfl (enters_of Tryz.func49 (by kernel_rfl) rfl) (by simp only [Act.eval, qI]; rfl) ?_
    refine (xP _ L (7 + 3 * k) _ 400 x7 wn ls hn (by omega) (by omega) (by omega) Hx7.out).mono ?_; rintro e wm ⟨rfl, zl⟩; refine ⟨_, rfl, ?_⟩; have hz := hKx () wm trivial zl
    dsimp only [zP] at hz
    exact hz
   rintro ⟨⟩
   dsimp only [zP]
   simp only [zn]; refine vC 5 ?_; refine zz (by rfl) (by first | rfl | simp [Region.wanted, yielded]) ?_ ?_
   ·intro wn za hE Kx hKx
    have zf := B.size; have zg := za.size; replace B := B.trans (za.mono B.size)
    (try replace r2 := r2.below za)
    (try replace r3 := r3.below za)
    (try replace ls := ls.below za)
    (try replace od := od.below za)
    refine zS rfl (enters_of Tryz.func49 (by kernel_rfl) rfl) (by simp only [Act.eval, qI]; rfl) ?_
    refine (xP _ L (8 + 3 * k) _ 256 x8 wn ls hn (by omega) (by omega) (by omega) Hx8.out).mono ?_; rintro e wm ⟨rfl, zl⟩; refine ⟨_, rfl, ?_⟩; have hz := hKx () wm trivial zl
    dsimp only [zP] at hz
    exact hz
   rintro ⟨⟩
   dsimp only [zP]
   simp only [zn]; refine vC 2 ?_; refine zz (by rfl) (by first | rfl | simp [Region.wanted, yielded]) ?_ ?_
   ·intro wn za hE Kx hKx
    have zf := B.size; have zg := za.size; replace B := B.trans (za.mono B.size)
    (try replace r2 := r2.below za)
    (try replace r3 := r3.below za)
    (try replace od := od.below za)
    refine X6 (E := qD) _ rfl ⟨x6 - 100, x7 - 100, 255 - x8⟩ rfl (by omega) ?_; intro b wm h1 h2 ht zl zm; exact hKx b wm ⟨Nat.le_trans za.size h1, ht⟩ (zl.mono h1)
   rintro b_s50
   dsimp only [zP, bsG]
   simp only [zn]; refine qz ?_; intro wn za hE; have zf := B.size; have zg := za.size; replace B := B.trans (za.mono B.size)
   (try replace r2 := r2.below za)
   (try replace r3 := r3.below za)
   (try replace od := od.below za)
   obtain ⟨hge_s50, s50⟩ : _ ∧ zF _ _ _ _ := hE 21; clear hE; try simp only [List.drop_succ_cons, List.drop_zero]
   go_wp2_with (first | (refine jQ (t := 30) rfl _ _ rfl _ 0 rfl _ _ _ rfl r3 rfl (qt B (by omega) ?_); clear r3 B; intro wn r3 ze zf zg B; (try replace r2 := r2.of_eq (ze.block _ r2.lt (by omega))); replace od := od.chg ze (by omega); simp only [zn]) | (at_builtin; refine xm rfl _ _ rfl _ _ rfl rfl od ((jF.one s50)) (by simp only [List.length_append, List.length_cons, List.length_nil]; omega) (by omega) ?_; intro v_od wn ht za; have zf := B.size; have hbz := za.size; replace B := B.trans (za.mono (by omega)); clear od; (try replace r2 := r2.of_eq (za.block _ (by omega))); (try replace r3 := r3.of_eq (za.block _ (by omega))); have od := ht; clear ht; obtain ⟨a_od, c_od, hv, hco⟩ := od.len; (try simp only [List.length_append, List.length_cons, List.length_nil, Nat.zero_add] at hv hco); subst hv; simp only [zn]) | fail)
   refine zQ.normal ?_; replace r3 : zF 30 _ b_r3 (qw (.slice a_od (P.length + 1) c_od) (xw L)) := r3; go_upto_region 5 with fail
   refine wp_region_lit ?_; refine zx 3 ?_; refine wpList_nil ?_; go_wp2; go_roundw
   case rel => exact ⟨k + 1, _, _, P ++ [⟨x6 - 100, x7 - 100, 255 - x8⟩], by omega, by go_num, HN, B, by omega, r2, by rw [List.length_append]; exact r3, by rw [List.length_append]; exact od⟩
   case measure => simp [intOf]; omega
  ·have q1 : decide ((k : Int) < (nn : Int)) = false := decide_eq_false (by omega)
   have q2 : decide (k < nn) = false := decide_eq_false hkn; have HF := Lib.hid (show (xw L).pts = P from by rw [← HP.out, show k = nn by omega, ← HNV.out]; rfl)
   go_upto_region 4 with fail
   refine wp_region_lit ?_; refine zx 3 ?_; refine wpList_nil ?_; go_upto_region 7 with fail
   have rs := od.mono (show w.heap.size ≤ b0 by omega); refine wp_region_lit ?_; refine zx 1 ?_
   (refine zp (t := 30) rfl _ _ rfl _ rfl _ rfl r2 (by kernel_rfl) rfl (by simp [qw, Value.oneCell']) (qt B (by omega) ?_); clear r2 B; intro wn r2 ze zf zg B; replace rs := (od.chg ze (by omega)).mono (show w.heap.size ≤ b0 by omega); simp only [zn])
   refine wpList_nil ?_; first | (refine bodyPost_ret (zv (t := 30) rfl _ _ (b_r2) rfl r2 Tryz.isAgg30 (by kernel_rfl)) rfl ?_) | (go_step; refine bodyPost_ret (zv (t := 30) rfl _ _ (b_r2) rfl r2 Tryz.isAgg30 (by kernel_rfl)) rfl ?_) | (go_step; go_step; refine bodyPost_ret (zv (t := 30) rfl _ _ (b_r2) rfl r2 Tryz.isAgg30 (by kernel_rfl)) rfl ?_) | (go_step; go_step; go_step; refine bodyPost_ret (zv (t := 30) rfl _ _ (b_r2) rfl r2 Tryz.isAgg30 (by kernel_rfl)) rfl ?_) | (go_step; go_step; go_step; go_step; refine bodyPost_ret (zv (t := 30) rfl _ _ (b_r2) rfl r2 Tryz.isAgg30 (by kernel_rfl)) rfl ?_) | (go_step; go_step; go_step; go_step; go_step; refine bodyPost_ret (zv (t := 30) rfl _ _ (b_r2) rfl r2 Tryz.isAgg30 (by kernel_rfl)) rfl ?_)
   rw [HF.out]; exact ⟨_, _, rfl, rs, B⟩
end Go.Proofs.YtepelndbbhdofaaGreatDoor
/- A range over a function whose iterator writes a block of its own; regions that call the loop's body. -/
namespace Go.Proofs.YtepelndbbhdofaaGreatDoor
open Go Go.RowKit Go.Shelf Pl
set_option linter.unusedVariables false
set_option linter.unusedSimpArgs false
set_option maxRecDepth 20000
/-! ### The fence that bars nothing: plain walks within -/
section
variable {P : Program} {n : Nat}
theorem X1 {o : Oper} {a : Act} {w : World} {K K' : Act → World → Prop} {M : Act → World → Prop} {Q : Exit → Act → World → Prop} (hd : ∀ c, o.op ≠ .defer c) (hK : ∀ a w, K' a w → K a w) (h : o.wp P a w K' (ql M)) : o.wpIn Fence.wide n P a w K Q := by
 refine ⟨fun _ _ => trivial, ?_⟩
 rw [Oper.semAt_eq _ _ _ hd]
 unfold Oper.wp at h
 generalize (execOp a.eval o).run P w = z at *
 cases z with
 | ok x w' =>
  cases x with
  | value v => exact hK _ _ h
  | skip => exact hK _ _ h
  | defer d => exact hK _ _ h
  | enter f args =>
   refine ⟨fun h => (by cases h), callsIn_wide.2 (Calls.mono h fun e w'' he => ?_)⟩; cases e with
   | returned v => exact hK _ _ he
   | panicked c => exact he.elim
   | outgrown => exact absurd he (ql.out M)
  | row s args =>
   refine ⟨fun h => (by cases h), fun c cs _ => ?_⟩; obtain ⟨v, w'', h1, h2⟩ := h c cs; exact ⟨v, w'', hK _ _ h1, stepsIn_wide.2 h2⟩
  | _ => exact absurd h (by simp [Oper.upon])
 | halt x w' =>
  cases x with
  | panic v => exact absurd h (by simp [Oper.upon, ql])
  | _ => exact absurd h (by simp [Oper.upon])
theorem Vw {ops : Array Oper} {Q : Exit → Act → World → Prop} {l2 : List Oper} : ∀ (l : List Oper) (a : Act) (w : World), (∀ o ∈ l, ∀ c, o.op ≠ .defer c) → wpList P ops (ql fun a w => wpListIn Fence.wide n P ops Q l2 a w) l a w → wpListIn Fence.wide n P ops Q (l ++ l2) a w
 | [], a, w, _, h => h
 | o :: rest, a, w, hd, h => by
  unfold wpList at h; rw [List.cons_append]; unfold wpListIn; have ih := Vw (ops := ops) (Q := Q) (l2 := l2) rest; by_cases hw : Region.wanted o (yielded ops a.tmps) = true
  ·rw [if_pos hw] at h ⊢
   rcases h with h | h
   ·exact X1 (hd o (List.mem_cons_self ..)) (fun a w hh => ih a w (fun o ho => hd o (List.mem_cons_of_mem _ ho)) hh) h
   ·exact absurd h.2 (ql.out _)
  ·rw [if_neg hw] at h ⊢
   exact ⟨fun _ _ => trivial, ih _ _ (fun o ho => hd o (List.mem_cons_of_mem _ ho)) h⟩
/-- A region whose last operations are walked within the fence. -/
theorem WP {id : Nat} {l : List Oper} {Q : Exit → Act → World → Prop} {a : Act} {w : World} (k : Nat) (hd : we (l.take k) = true) (h : wpList P l.toArray (ql fun a w => wpListIn Fence.wide n P l.toArray Q (l.drop k) a w) (l.take k) a w) : (Code.region id l.toArray false).wpIn Fence.wide n P Q a w := by
 have := Vw (Q := Q) (l2 := l.drop k) (l.take k) a w (fun o ho => kQ hd ho) h
 rw [List.take_append_drop] at this
 exact wpIn_region_lit this
theorem KU {ops : Array Oper} {K K' M : Act → World → Prop} {Q : Exit → Act → World → Prop} (hd : ∀ o ∈ ops.toList, ∀ c, o.op ≠ .defer c) (hK : ∀ a w, K' a w → K a w) {i : Nat} {a : Act} {w : World} (h : wpOp P ops (ql M) i K' a w) : wpOpIn Fence.wide n P ops Q i K a w := by
 unfold wpOp at h
 unfold wpOpIn
 cases ho : ops[i]? with
 | none => rw [ho] at h; exact hK _ _ h
 | some o =>
  rw [ho] at h; simp only at h ⊢; by_cases hw : Region.wanted o (yielded ops a.tmps) = true
  ·rw [if_pos hw] at h ⊢
   rcases h with h | h
   ·exact X1 (hd o (by rw [Array.mem_toList_iff]; exact Array.mem_of_getElem? ho)) hK h
   ·exact absurd h.2 (ql.out M)
  ·rw [if_neg hw] at h ⊢
   exact ⟨fun _ _ => trivial, hK _ _ h⟩
theorem uj {ops : Array Oper} {md : Region.Mode} {C : World → Prop} {k g : Nat} {L : Array Bool → Act → Prop} {Q : Exit → Act → World → Prop} (hd : ∀ o ∈ ops.toList, ∀ c, o.op ≠ .defer c) (hL : ∀ done a w, C w → L done a → wpAnyIn Fence.wide n P md ops Q g done a w) :
  ∀ (f : Nat) (done : Array Bool) (a : Act) (w : World), C w → wa P md ops C k L f done a → wpAnyIn Fence.wide n P md ops Q (f + g) done a w := by
 intro f
 induction f with
 | zero => intro done a w hw h; rw [Nat.zero_add]; exact hL _ _ _ hw h
 | succ f ih =>
  intro done a w hw h; rw [show f + 1 + g = (f + g) + 1 by omega]; exact ⟨fun h0 => absurd h0 h.1, fun i hi => KU (M := fun _ _ => True) hd (fun _ _ h => h) (wpOp_of_qOp hw (fun a' w' hw' h' => ih _ a' w' hw' h') (h.2 i hi).2)⟩
theorem wE {ops : Array Oper} {md : Region.Mode} {Q : Exit → Act → World → Prop} : ∀ (l : List Oper) (k : Nat) (listed : Array Bool) (a : Act) (w : World), (∀ j, l[j]? = ops[k + j]?) →
  Region.seqB md ops l.length k listed = true → wpListIn Fence.wide n P ops Q l a w → wpAnyIn Fence.wide n P md ops Q l.length listed a w
 | [], _, _, _, _, _, hB, h => ⟨by simpa [Region.seqB] using hB, h⟩
 | o :: l, k, listed, a, w, hl, hB, h => by
  have h0 : ops[k]? = some o := by simpa using (hl 0).symm
  simp only [List.length_cons, Region.seqB, Bool.and_eq_true, decide_eq_true_eq] at hB; refine ⟨fun h1 => (by rw [hB.1] at h1; cases h1), fun i hi => ?_⟩
  rw [hB.1] at hi; have hik : i = k := by simpa using hi
  subst hik; have hw : wpOpIn Fence.wide n P ops Q i (wpListIn Fence.wide n P ops Q l) a w := by unfold wpOpIn; simp only [h0]; exact h
  exact wpOpIn_mono (fun a' w' h' => wE l (i + 1) _ a' w' (fun j => by have := hl (j + 1); simpa [Nat.add_assoc, Nat.add_comm 1 j] using this) hB.2 h') hw
/-- A region that draws its order: a quiet head, then a tail in order, within the fence. -/
theorem wD {id : Nat} {Q : Exit → Act → World → Prop} {a : Act} {w : World} {l : List Oper} (k : Nat) (hm : P.follows .mixedOrders = true) (hdf : we l = true) (hB : Region.lexTailB .any l.toArray k = true)
  (h : wpQuiet P l.toArray (fun w' => ∃ u, w' = ov w u) (fun a' => ∀ w', Below w.heap.size w w' → wpListIn Fence.wide n P l.toArray Q (l.drop k) a' w') (l.take k) a) : (Code.region id l.toArray true).wpIn Fence.wide n P Q a w := by
 have hdo : ∀ o ∈ l.toArray.toList, ∀ c, o.op ≠ .defer c := fun o ho => kQ hdf (by simpa using ho)
 simp only [Region.lexTailB, Bool.and_eq_true, decide_eq_true_eq] at hB
 obtain ⟨⟨⟨⟨hsel, hn⟩, hs⟩, hc⟩, hlex⟩ := hB
 have hn' : k < l.length := by simpa using hn
 have htl : (l.take k).length = k := by simp; omega
 have hdl : (l.drop k).length = l.toArray.size - k := by simp
 have inv0 : HeadInv .any l.toArray k (Array.replicate l.toArray.size false) :=
  ⟨by simp, fun j oj _ hl => (by rw [getD_replicate_false] at hl; cases hl), fun t _ ht => getD_in (by simpa using ht) (getD_replicate_false _ _)⟩
 have H := Zi (md := .any) (g := l.toArray.size - k) hsel hs hc hn (l.take k) 0 _ a (fun j hj => by
  have hj' : j < k := by rw [htl] at hj; exact hj
  simp [hj']) (by simpa using htl) inv0 (by rw [htl]; exact hlex) h
 refine wpIn_region_any hm ?_
 have := uj (n := n) (Q := Q) (g := l.toArray.size - k) hdo (fun d a' w' hw' hL => by
  obtain ⟨u, rfl⟩ := hw'; have := wE (n := n) (md := .any) (Q := Q) (l.drop k) k d a' (ov w u) (fun j => by simp [List.getElem?_drop]) (by rw [hdl]; exact hL.1) (hL.2 _ (qJ w u))
  rwa [hdl] at this) _ _ _ w.drew ⟨w.drew, zU ((Below.refl _ _).drew)⟩ H
 rw [htl, show k + (l.toArray.size - k) = l.toArray.size by omega] at this
 exact this
end
/-! ### An iterator that writes one block of its own: three cells, the first block that it makes -/
def XD (B : Nat) (W : World) (r : Nat) : Prop := r = B ∧ ∃ cs t, W.heap[r]? = some (.cells cs t (0, 0)) ∧ cs.size = 3
def vV {β : Type} (B : Nat) (J : β → World → Prop) : Prop := ∀ s W W' row, J s W → W.grownBy W' row → (∀ r, row = some r → XD B W r) → J s W'
def zai {β : Type} (b : Nat) (I : β → World → Prop) : Prop := ∀ s W W' row, I s W → W.grownBy W' row → (∀ r, row = some r → b ≤ r ∧ ((∃ o : Obj, W.heap[r]? = some o ∧ o.isCells = false) ∨ XD (b + 2) W r)) → I s W'
theorem zai.from {β : Type} {b : Nat} {I : β → World → Prop} (h : zai b I) : OwnFrom b I := fun s W W' row hs hg hr => h s W W' row hs hg fun r e => ⟨(hr r e).1, .inl (hr r e).2⟩
theorem vV.below {β : Type} {B : Nat} {J : β → World → Prop} (h : vV B J) {s : β} {W W' : World} (hs : J s W) (hb : Below W.heap.size W W') : J s W' := h s W W' none hs (xf hb) (fun r e => by cases e)
theorem vV.chg {β : Type} {B : Nat} {J : β → World → Prop} (h : vV B J) {s : β} {W W' : World} {t : TypeId} {cs : Array Value} (hs : J s W) (hb : zF t W B cs) (h3 : cs.size = 3) (hc : qN B W W') : J s W' :=
 h s W W' (some B) hs ⟨hc.os, hc.tape, hc.output, hc.size, fun k hk hne => hc.block k hk (fun e => hne (by rw [e]))⟩ (fun r e => by cases e; exact ⟨rfl, cs, t, hb, h3⟩)
def uU {α : Type} (F : Fence) (n : Nat) (P : Program) (g : Nat) (lb : Array Value) (encs : α → Array Value) (Kp : World → World → Prop) (S Sp : List α → Prop) (N : Nat) (w : World) : Prop :=
 ∀ (l : Nat) (J Jx : List α → World → Prop) (W : World), Below w.heap.size w W → vV W.heap.size J → vV W.heap.size Jx →
  (∀ pre x W1, J pre W1 → pre.length < N → W.heap.size < W1.heap.size → YieldAt F (n - 1) P l (encs x) W1 fun e W' =>
   (e = .returned (.bool true) ∧ J (pre ++ [x]) W' ∧ Kp W1 W') ∨ (e = .returned (.bool false) ∧ Jx (pre ++ [x]) W')) →
  J [] W →
  CallsIn F n P g (#[.func (.yield l) #[] #[]] ++ lb) W fun e W' => (∃ v, e = .returned v) ∧ ((∃ xs, S xs ∧ J xs W') ∨ (∃ pre, Sp pre ∧ Jx pre W'))
section
variable {F : Fence} {n : Nat} {P : Program}
/-- The statement 'for x := range seq { .. }' whose head may lay new blocks: 'As x' says what the head leaves. -/
theorem Zo {α : Type} {g : Operand} {ps : Array Tmp} {assign body : Code} {Q : Exit → Act → World → Prop} {a : Act} {w : World}
  (hro : F.round = none) (h1 : 1 ≤ n) {gf : Nat} {lb : Array Value} (hg : a.eval g = .func (.func gf) #[] lb) (hFg : F.fn gf) (eg : ∀ args w, (callFunc gf args).run P w = .ok (.enter gf args) w)
  {encs : α → Array Value} {Kp : World → World → Prop} {S Sp : List α → Prop} {N : Nat} {w0 : World} (hseq : uU F (n - 1) P gf lb encs Kp S Sp N w0)
  (hKt : ∀ {A B C : World}, Kp A B → Kp B C → Kp A C) (hKb : ∀ (W : World) (l : Nat) (o o' : Obj), w.heap.size ≤ l → W.heap[l]? = some o → o.isCells = false → o.isWalk = false → Kp W (W.putObj l o'))
  (hKg : ∀ (A B : World), Below A.heap.size A B → Kp A B) (hb0 : Below w0.heap.size w0 w) (hps : ∀ x, (encs x).size = ps.size)
  (I : List α → World → Prop) (hI0 : zai w.heap.size I) (h0 : I [] w) (As : α → Act → World → Prop) (hAs : ∀ x, OwnFrom w.heap.size (As x))
  (hassign : ∀ (l : Nat) (pre : List α) (x : α) (W : World) (K : Act → World → Prop), I pre W → w.heap.size + 2 < W.heap.size → (∀ a' W', Below W.heap.size W W' → As x a' W' → K a' W') →
   assign.wpIn (F.inRound l) (n - 1 - 1) P (Exit.then K (fun _ _ _ => False)) { tmps := (ps.zip (encs x)).foldl (fun t (p, v) => t.setIfInBounds p v) a.tmps, defers := [] } W)
  (hbody : ∀ (l : Nat) (pre : List α) (x : α) (W : World) (a' : Act), I pre W → As x a' W → pre.length < N → body.wpIn (F.inRound l) (n - 1 - 1) P (ownPostK Kp I (fun _ _ _ => False) (pre ++ [x]) W) a' W)
  (hdone : ∀ (D : Nat) (xs : List α) (W : World), w.heap.size ≤ D → S xs → I xs W → W.heap[D]? = some (.deferred (some [])) → Q .normal { a with defers := { target := .collected D, args := #[] } :: a.defers } W) :
  (Code.rangeFunc g ps assign body).wpIn F n P Q a w := by
 have hI : OwnFrom w.heap.size I := hI0.from
 refine wpIn_rangeFunc fun fn hfn => ?_
 rw [hro]
 obtain ⟨rc, hrc⟩ : ∃ rc : LoopState → Option Code → Loop, rc = fun st pe => { state := st, pending := pe, fn, tmps := a.tmps, params := ps, assign, body, defers := w.heap.size } := ⟨_, rfl⟩
 obtain ⟨W1, hW1⟩ : ∃ W1, (w.alloc (.deferred (some []))).alloc (.loop (rc .ready none)) = W1 := ⟨_, rfl⟩
 have blkL : W1.heap[w.heap.size + 1]? = some (.loop (rc .ready none)) := by
  have := World.alloc_heap_new (w.alloc (.deferred (some []))) (.loop (rc .ready none)); rw [← hW1]
  rwa [World.size_alloc] at this
 have blkD : W1.heap[w.heap.size]? = some (.deferred (some [])) := by
  rw [← hW1]; exact (Below.heap_alloc _ _ _ (by simp)).trans (World.alloc_heap_new w _)
 have grown : Below w0.heap.size w0 W1 := by
  rw [← hW1]; exact hb0.trans ((((Below.refl _ w).alloc (Nat.le_refl _) _).alloc (by simp) _).mono hb0.size)
 have szW1 : w.heap.size ≤ W1.heap.size := by rw [← hW1]; simp; omega
 have Qz : I [] W1 := by rw [← hW1]; exact hI.alloc _ (hI.alloc _ h0)
 refine ⟨w.heap.size + 1, [{ target := .collected w.heap.size, args := #[] }], W1, { target := .fn (.func gf) lb, args := #[.func (.yield (w.heap.size + 1)) #[] #[]] }, W1, gf,
  #[.func (.yield (w.heap.size + 1)) #[] #[]] ++ lb, W1, ?_, ?_, ?_, ?_, fun _ => h1, ?_⟩
 ·rw [← hW1, hrc]; exact run_enterLoop_outer _ _ _ _ _
 ·simp only [resolve, hg]
  simp [go_sem]
 ·intro f' hf'
  simp [Target.leads] at hf'
  subst hf'; exact hFg
 ·simp [invoke, go_sem, eg]
 have hszW1 : W1.heap.size = w.heap.size + 2 := by rw [← hW1]; simp
 refine (hseq (w.heap.size + 1)
  (fun pre W => I pre W ∧ W.heap[w.heap.size + 1]? = some (.loop (rc .ready none)) ∧ W.heap[w.heap.size]? = some (.deferred (some [])))
  (fun _ _ => False) W1 grown
  (fun s A B row hs hg' hr => ⟨hI0 s A B row hs.1 hg' (fun r e => ⟨by have := (hr r e).1; omega, .inr (by have := hr r e; rwa [hszW1] at this)⟩), (hg'.block _ (Array.getElem?_eq_some_iff.1 hs.2.1).1 (fun e => by have := (hr _ e.symm).1; omega)).trans hs.2.1, (hg'.block _ (Array.getElem?_eq_some_iff.1 hs.2.2).1 (fun e => by have := (hr _ e.symm).1; omega)).trans hs.2.2⟩)
  (fun _ _ _ _ hs _ _ => hs) ?_ ⟨Qz, blkL, blkD⟩).mono ?_
 ·rintro pre x W ⟨hi, hl, hk⟩ hlen hbig
  have hy := run_yield (P := P) (args := encs x) hl (by rw [hrc]; exact hps x)
  rw [hrc] at hy; refine ⟨fn, _, assign, body, hy, roundIn_of_wpIn hfn (hassign _ pre x W _ hi (by rw [hszW1] at hbig; exact hbig) fun a' V hb ha => ?_)⟩
  have hlV : V.heap[w.heap.size + 1]? = some (.loop (rc .ready none)) := (hb.block _ (Array.getElem?_eq_some_iff.1 hl).1).trans hl; have hkV : V.heap[w.heap.size]? = some (.deferred (some [])) := (hb.block _ (Array.getElem?_eq_some_iff.1 hk).1).trans hk; have hiV : I pre V := hI pre W V none hi (xf hb) (fun r e => by cases e); refine ⟨_, run_beginRound hlV (by rw [hrc]), ?_⟩; obtain ⟨V1, hV1⟩ : ∃ V1, V.putObj (w.heap.size + 1) (.loop { rc .ready none with state := .busy }) = V1 := ⟨_, rfl⟩; have hl1 : V1.heap[w.heap.size + 1]? = some (.loop { rc .ready none with state := .busy }) := by rw [← hV1]; exact World.putObj_heap_same (Array.getElem?_eq_some_iff.1 hlV).1
  have hk1 : V1.heap[w.heap.size]? = some (.deferred (some [])) := by rw [← hV1]; exact (World.putObj_heap_other (by omega)).trans hkV
  have hKp1 : Kp W V1 := hKt (hKg _ _ hb) (by rw [← hV1]; exact hKb _ _ _ _ (by omega) hlV rfl rfl)
  have hi1 : I pre V1 := by rw [← hV1]; exact hI.putObj _ hiV (by omega) hlV rfl
  have ha1 : As x a' V1 := by rw [← hV1]; exact (hAs x).putObj _ ha (by omega) hlV rfl
  rw [hV1]; refine wpIn_mono (hbody _ pre x V1 a' hi1 ha1 hlen) ?_; rintro e a3 W3 hp; cases e with
  | normal =>
   obtain ⟨ko, kp, hi3⟩ := hp; have hl3 := ko.same _ _ hl1 rfl; have hk3 := ko.same _ _ hk1 rfl; have he := run_endRound (P := P) none hl3; rw [hrc] at he; refine ⟨_, _, he, .inl ⟨rfl, ⟨hI.putObj _ hi3 (by omega) hl3 rfl, ?_, (World.putObj_heap_other (by omega)).trans hk3⟩, hKt (hKt hKp1 kp) (hKb _ _ _ _ (by omega) hl3 rfl rfl)⟩⟩; rw [World.putObj_heap_same (Array.getElem?_eq_some_iff.1 hl3).1, hrc]
   rfl
  | ret => exact hp.2.elim
  | exit id => exact hp.2.elim
  | goto t => exact hp.2.elim
  | panic ch => exact hp.elim
  | outgrown => exact hp.elim
 ·rintro e W2 ⟨⟨v, rfl⟩, ⟨xs, hS, hi, hl, hk⟩ | ⟨_, _, hf⟩⟩
  ·have he := run_endLoop (P := P) hl (by rw [hrc]; simp)
   rw [hrc] at he; exact ⟨none, _, he, hdone _ xs _ (Nat.le_refl _) hS (hI.putObj _ hi (by omega) hl rfl) ((World.putObj_heap_other (by omega)).trans hk)⟩
  ·exact hf.elim
end
/-! ### What a round keeps: the blocks below n0, but one; every block of a point -/
structure uT (n0 c : Nat) (W W' : World) : Prop where
 size : W.heap.size ≤ W'.heap.size
 low : ∀ k, k < n0 → k ≠ c → k < W.heap.size → W'.heap[k]? = W.heap[k]?
 pts : ∀ (k : Nat) (cs : Array Value), zF 43 W k cs → zF 43 W' k cs
theorem uT.trans {n0 c : Nat} {X Y Z : World} (h : uT n0 c X Y) (k : uT n0 c Y Z) : uT n0 c X Z :=
 ⟨Nat.le_trans h.size k.size, fun i hi hc hl => (k.low i hi hc (Nat.lt_of_lt_of_le hl h.size)).trans (h.low i hi hc hl), fun i cs hi => k.pts i cs (h.pts i cs hi)⟩
theorem uT.below {n0 c : Nat} {W W' : World} (h : Below W.heap.size W W') : uT n0 c W W' :=
 ⟨h.size, fun k _ _ hl => h.block k hl, fun k cs hk => zF.of_eq hk (h.block k (zF.lt hk))⟩
theorem uT.putObj {n0 c : Nat} (W : World) (l : Nat) (o o' : Obj) (hl : n0 ≤ l) (ho : W.heap[l]? = some o) (hc : o.isCells = false) : uT n0 c W (W.putObj l o') :=
 ⟨by simp [World.putObj], fun k hk _ _ => World.putObj_heap_other (by omega), fun k cs hk => by
  have hne : k ≠ l := fun e => by
   subst e; rw [show W.heap[k]? = _ from hk] at ho; cases ho
   cases hc
  exact (World.putObj_heap_other hne).trans hk⟩
/-- All of old stands, but one block of another kind. -/
theorem uT.exc {n0 c : Nat} {W W' : World} (hs : W.heap.size ≤ W'.heap.size) (h : ∀ k, k < W.heap.size → k ≠ c → W'.heap[k]? = W.heap[k]?) {t : TypeId} {cs : Array Value} (hc : zF t W c cs) (ht : t ≠ 43) : uT n0 c W W' :=
 ⟨hs, fun k _ hk hl => h k hl hk, fun k ds hk => by
  have hne : k ≠ c := fun e => by
   subst e; have := (show W.heap[k]? = _ from hk).symm.trans hc
   injection this with this
   injection this with _ e _
   exact ht e.symm
  exact zF.of_eq hk (h k (zF.lt hk) hne)⟩
end Go.Proofs.YtepelndbbhdofaaGreatDoor
/- The iterator over a stroke's dabs: its contract. -/
namespace Go.Proofs.YtepelndbbhdofaaGreatDoor
open Go.RowKit Go.Shelf Pl
attribute [local go_sem] Oper.semAt_some
set_option linter.unusedVariables false
set_option linter.unusedSimpArgs false
set_option maxRecDepth 20000
theorem zaS (v : Value) (s : qv) (w : World) : Calls Tryz.prog 58 #[.agg (qw v s)] w fun e w' => ∃ b, e = .returned (.func (.func 109) #[] #[.pointer (some ⟨b, 0, none⟩)]) ∧ (w.heap.size ≤ b ∧ b ≤ w.heap.size) ∧ zF 30 w' b (qw v s) ∧ Below w.heap.size w w' := by
 have B := Below.refl w.heap.size w
 go_enter Tryz.func58, Tryz.ntmps58
 go_upto_region 0 with fail
 refine wp_region_lit ?_
 (refine zt (t := 30) rfl _ rfl _ rfl (zV B ?_); clear B; intro b_r1 wn zb zd r1 za zf zk B; simp only [zn])
 refine zx 1 ?_
 refine wpList_nil ?_
 have k1 : w.heap.size ≤ b_r1 ∧ b_r1 ≤ w.heap.size := ⟨by omega, by omega⟩
 go_wp2
 go_ret
 exact ⟨_, rfl, k1, r1, B⟩
theorem Kn {p q M : Int} (hp : -M ≤ p ∧ p ≤ M) (hq : -M ≤ q ∧ q ≤ M) : -(M * M) ≤ p * q ∧ p * q ≤ M * M := by
 have h1 : 0 ≤ (M - p) * (M + q) := Int.mul_nonneg (by omega) (by omega)
 have h2 : 0 ≤ (M + p) * (M - q) := Int.mul_nonneg (by omega) (by omega)
 have h3 : 0 ≤ (M - p) * (M - q) := Int.mul_nonneg (by omega) (by omega)
 have h4 : 0 ≤ (M + p) * (M + q) := Int.mul_nonneg (by omega) (by omega)
 simp only [Int.sub_mul, Int.mul_sub, Int.add_mul, Int.mul_add] at h1 h2 h3 h4
 constructor <;> omega
theorem zey {s : qv} (h : uQ s) {k : Nat} (hk : k ≤ jg s) : 0 ≤ (k : Int) * s.spa ∧ s.pha + k * s.spa ≤ 5300000 := by
 have h1 := Kc h
 have h2 := jL (a := (k : Int)) (b := s.spa) (m := 1024) (k := 4096) (by omega) (by omega) (by have := h.s1; omega) h.s2
 have := h.p2
 omega
theorem X8 (s : qv) (k : Nat) : s.pha + ((k + 1 : Nat) : Int) * s.spa = s.pha + k * s.spa + s.spa := by
 rw [Int.natCast_add, Int.add_mul]
 omega
theorem Ve {s : qv} (h : uQ s) (hn : ¬ s.pts.length = 1) {k : Nat} : k < jg s ↔ s.pha + k * s.spa < jI s.pts := by
 unfold jg
 rw [if_neg hn]
 exact yt h.s1
set_option maxHeartbeats 8000000 in
theorem QD (s : qv) (hv : uQ s) (g o c b b8 n0 n : Nat) (hn1 : 1 ≤ n) (w : World) (r1 : zF 30 w b (qw (.slice (some ⟨g, o, none⟩) s.pts.length c) s)) (hcap : s.pts.length ≤ c) (pc : zK qD g o s.pts w) (hb : b < n0) (hb8 : b ≠ b8) (hg : g < n0) (hg8 : g ≠ b8) (hn0 : n0 ≤ w.heap.size) :
  uU Fence.wide n Tryz.prog 109 #[.pointer (some ⟨b, 0, none⟩)] (fun i : Fin (jg s) => #[.agg (kx.enc (jK s i.val))]) (uT n0 b8) (fun xs => xs = List.finRange (jg s)) (fun pre => ∃ k, pre = yU (jg s) k) (jg s) w := fun l J Jx W0 hW hJa hJxa hY h0 => by
 have r1 := r1.of_eq (hW.block _ r1.lt)
 have pc := pc.of_eq (hW.block _ pc.lt)
 have hn0 := Nat.le_trans hn0 hW.size
 have B := Below.refl W0.heap.size W0
 have HA := Lib.hid hJa
 have HY := Lib.hid hY
 have HV := Lib.hid hv
 have HJ0 := Lib.hid h0
 have hl1 := hv.l1
 have hl2 := hv.l2
 have hs1 := hv.s1
 have hs2 := hv.s2
 have hr1 := hv.r1
 have hr2 := hv.r2
 have hq1 := hv.p1
 have hq2 := hv.p2
 have hp0 := qW (l := s.pts) (show 0 < s.pts.length by omega)
 have q0 : decide (0 < s.pts.length) = true := decide_eq_true (by omega)
 have q0' : decide ((0 : Int) < (s.pts.length : Int)) = true := decide_eq_true (by omega)
 clear hW hJa hJxa hY h0 hv
 refine callsIn_wide.2 ?_
 show Calls Tryz.prog 109 #[.func (.yield l) #[] #[], .pointer (some ⟨b, 0, none⟩)] W0 _
 go_enter Tryz.func109, Tryz.ntmps109
 go_upto_region 0 with fail
 refine wp_region_lit ?_
 refine jG 4 ?_
 repeat (first | go_big_quiet_skip | (go_big_quiet_want; first | ((first | refine zo (t := 43) rfl _ _ _ rfl (fun w hw => (jt pc w hw).load Tryz.isAgg43 hp0) (by first | rfl | omega) ?_ | refine qB ?_ | refine qC ?_); simp only [zn]; go_big_quiet_on) | (go_big_quiet_op; go_big_quiet_on)))
 refine wpQuiet_nil ?_
 (refine zr (t := 43) rfl _ (xr _ _ rfl) (zV B ?_); clear B; intro b_f3 wn zb zd f3 za zf zk B; (try have zh := r1.lt); (try replace r1 := r1.below (za.mono zb)); (try have zh := pc.lt); (try replace pc := pc.below (za.mono zb)); simp only [zn])
 (refine zp (t := 43) rfl _ _ rfl _ rfl _ rfl f3 (by kernel_rfl) rfl (by simp [qD, Value.oneCell']) (qt B (by omega) ?_); clear f3 B; intro wn f3 ze zf zg B; (try replace r1 := r1.of_eq (ze.block _ r1.lt (by omega))); (try replace pc := pc.of_eq (ze.block _ pc.lt (by omega))); simp only [zn])
 refine wpList_nil ?_
 replace f3 : zF 43 _ b_f3 (qD.enc (qR s.pts 0)) := f3
 have KF := Lib.hid (show b_f3 = W0.heap.size by omega)
 have hf0 := f3.lt
 have hJ := HA.out.below HJ0.out B
 go_upto_region 1 with fail
 by_cases h1 : s.pts.length = 1
 ·have q1 : ((s.pts.length : Int) == 1) = true := by rw [h1]; rfl
  have q1' : (s.pts.length == 1) = true := by rw [h1]; rfl
  have hc1 : jg s = 1 := by unfold jg; rw [if_pos h1]
  obtain ⟨R, hR⟩ : ∃ R, qf (s.rad * (qR s.pts 0).p) 255 = R := ⟨_, rfl⟩; have hd : jK s 0 = ⟨(qR s.pts 0).x, (qR s.pts 0).y, R⟩ := by unfold jK; rw [if_pos h1]; unfold zcX; rw [hR]
  obtain ⟨_, _, _, _, hpp1, hpp2⟩ := HV.out.pt (show 0 < s.pts.length by omega); have HR := Lib.hid hR; clear hR; refine wp_region_lit ?_; refine zx 2 ?_
  refine zw (by first | rfl | simp [Region.wanted, yielded]) rfl Tryz.underlying26 rfl ?_; simp only [zn]; refine zx 1 ?_; refine wpList_nil ?_; go_upto_region 2 with fail
  refine (wpIn_wide (n := n)).1 ?_; refine WP 9 (by kernel_rfl) ?_; simp only [jU, Nat.reduceAdd]; refine zx 8 ?_
  refine qE (enters_of Tryz.func110 (by kernel_rfl) rfl) (c := zdS _ s (qR s.pts 0).x (qR s.pts 0).y (qR s.pts 0).p R _ ⟨by omega, hr2⟩ ⟨hpp1, hpp2⟩ HR.out) (h := ?_); rintro e wn ⟨rfl, za⟩; have zf := B.size; have zg := za.size; replace B := B.trans (za.mono B.size)
  (try replace r1 := r1.below za)
  (try replace pc := pc.below za)
  (try replace f3 := f3.below za)
  refine ⟨_, rfl, ?_⟩; simp only [zn]; refine wpList_nil ?_; refine ql.at ?_; try simp only [jU, Nat.reduceAdd]
  replace hJ := HA.out.below HJ0.out B; obtain ⟨fn, tmps, assign, body, hy, hRd⟩ := HY.out (yU (jg s) 0) ⟨0, by omega⟩ _ hJ (by rw [vI (by omega)]; omega) (by have e1 := KF.out; have e2 := f3.lt; omega)
  try dsimp only at hy
  rw [hd] at hy; replace hy := hy; have ee : kx.enc ⟨(qR s.pts 0).x, (qR s.pts 0).y, R⟩ = #[.int .i64 (qR s.pts 0).x, .int .i64 (qR s.pts 0).y, .int .i64 R] := rfl; rw [ee] at hy; have ze : 0 < jg s := by omega
  rw [← uY ze] at hRd; gi_wp2
  refine hRd.mono ?_; rintro e W1 (⟨rfl, hJ1, hkp⟩ | ⟨rfl, hx1⟩)
  ·gi_wp2
   go_wp2; refine bodyPost_ret (results_none rfl _ _ _) rfl ?_; have eF : yU (jg s) (0 + 1) = List.finRange (jg s) := by rw [show 0 + 1 = jg s by omega]; exact Qb _
   rw [eF] at hJ1; exact ⟨⟨_, rfl⟩, .inl ⟨_, rfl, hJ1⟩⟩
  ·gi_wp2
   go_wp2; refine bodyPost_ret (results_none rfl _ _ _) rfl ?_; exact ⟨⟨_, rfl⟩, .inr ⟨_, ⟨_, rfl⟩, hx1⟩⟩
 ·have q1 : ((s.pts.length : Int) == 1) = false := by simp; omega
  have q1' : (s.pts.length == 1) = false := by simp; omega
  have hc1 : ¬ c = 1 := by omega
  refine wp_region_lit ?_; refine zx 2 ?_
  refine zw (by first | rfl | simp [Region.wanted, yielded]) rfl Tryz.underlying26 rfl ?_; simp only [zn]; refine zx 1 ?_; refine wpList_nil ?_; go_upto_region 3 with fail
  refine wp_region_lit ?_; refine zx 3 ?_
  refine wpList_nil ?_; go_upto_region 4 with fail
  refine wp_region_lit ?_; refine zx 3 ?_
  refine zw (by first | rfl | simp [Region.wanted, yielded]) rfl Tryz.underlying26 rfl ?_; simp only [zn]; refine zx 1 ?_; refine wpList_nil ?_; replace hJ := HA.out.below HJ0.out B; have hsz0 : W0.heap.size < wn.heap.size := by have := f3.lt; omega
  have hbf : b < b_f3 := by have := KF.out; omega
  have hgf : g < b_f3 := by have := KF.out; omega
  clear B hf0; go_wp2; go_loopw [4, 6, 7, 8, 9, 34] (fun lv _ _ _ _ iv wr => ∃ (j k : Nat) (lf : Int), j + 1 ≤ s.pts.length ∧ k ≤ jg s ∧ iv = .int .i64 (j : Int) ∧ lv = .int .i64 lf ∧ Hid (lf = s.pha + k * s.spa - qi s.pts j) ∧ (0 ≤ lf ∧ lf ≤ 5300000) ∧ J (yU (jg s) k) wr ∧ W0.heap.size < wr.heap.size ∧ zF 43 wr b_f3 (qD.enc (qR s.pts j)) ∧ zF 30 wr b (qw (.slice (some ⟨g, o, none⟩) s.pts.length c) s) ∧ zK qD g o s.pts wr) (fun _ _ _ _ _ iv _ => (s.pts.length - intOf iv).toNat)
  case atStart => exact ⟨0, 0, s.pha, by omega, by omega, rfl, rfl, Lib.hid (by show s.pha = s.pha + ((0 : Nat) : Int) * s.spa - 0; omega), by omega, hJ, hsz0, f3, r1, pc⟩
  case round =>
   clear hJ hsz0 f3 r1 pc; obtain ⟨j, k, lf, hj, hk, rfl, rfl, HLF, hlf, hJ, hsz0, f3, r1, pc⟩ := hrel; by_cases hjl : j + 1 < s.pts.length
   ·have q2 : decide ((j : Int) < ((s.pts.length - 1 : Nat) : Int)) = true := decide_eq_true (by omega)
    have q2' : decide (j < s.pts.length - 1) = true := decide_eq_true (by omega); have hp1 := qW (l := s.pts) hjl; have A1 := Lib.hid (HV.out.pt (show j < s.pts.length by omega)); have A2 := Lib.hid (HV.out.pt hjl); have HPR := Lib.hid (show qi s.pts (j + 1) = qi s.pts j + yu (qR s.pts j) (qR s.pts (j + 1)) from rfl); have hLb := ZK A1.out A2.out; have hLn := uu (qR s.pts j) (qR s.pts (j + 1)); have HDK := Lib.hid (fun (k : Nat) h2 h3 => JF (s := s) (k := k) (j := j) h1 (by omega) h2 h3); obtain ⟨L, hL⟩ : ∃ L, yu (qR s.pts j) (qR s.pts (j + 1)) = L := ⟨_, rfl⟩; rw [hL] at HPR HDK hLb hLn; obtain ⟨x1, hx1⟩ : ∃ x, qR s.pts j = x := ⟨_, rfl⟩; obtain ⟨x2, hx2⟩ : ∃ x, qR s.pts (j + 1) = x := ⟨_, rfl⟩; rw [hx1] at A1 f3 HDK hL; rw [hx2] at A2 hp1 HDK hL; have HX2 := Lib.hid hx2; have HL := Lib.hid hL; clear hx1 hx2 hL; obtain ⟨a1, a2, a3, a4, a5, a6⟩ := A1.out
    obtain ⟨c1, c2, c3, c4, c5, c6⟩ := A2.out; have B := Below.refl wr.heap.size wr; have hr1l := r1.lt; have hpcl := pc.lt; have hf3l := f3.lt; go_upto_region 5 with fail
    refine wp_region_lit ?_; refine zx 1 ?_; refine wpList_nil ?_; go_upto_region 6 with fail
    refine wp_region_lit ?_; refine jG 2 ?_; repeat (first | go_big_quiet_skip | (go_big_quiet_want; first | ((first | refine zo (t := 43) rfl _ _ _ rfl (fun w hw => (jt pc w hw).load Tryz.isAgg43 hp1) (by first | rfl | omega) ?_ | refine qB ?_ | refine qC ?_); simp only [zn]; go_big_quiet_on) | (go_big_quiet_op; go_big_quiet_on)))
    refine wpQuiet_nil ?_
    (refine zr (t := 43) rfl _ (xr _ _ rfl) (zV B ?_); clear B; intro b_n6 wn zb zd n6 za zf zk B; (try have zh := r1.lt); (try replace r1 := r1.below (za.mono zb)); (try have zh := pc.lt); (try replace pc := pc.below (za.mono zb)); (try have zh := f3.lt); (try replace f3 := f3.below (za.mono zb)); simp only [zn])
    (refine zp (t := 43) rfl _ _ rfl _ rfl _ rfl n6 (by kernel_rfl) rfl (by simp [qD, Value.oneCell']) (qt B (by omega) ?_); clear n6 B; intro wn n6 ze zf zg B; (try replace r1 := r1.of_eq (ze.block _ r1.lt (by omega))); (try replace pc := pc.of_eq (ze.block _ pc.lt (by omega))); (try replace f3 := f3.of_eq (ze.block _ f3.lt (by omega))); simp only [zn])
    refine wpList_nil ?_; replace n6 : zF 43 _ b_n6 (qD.enc x2) := n6; have hnf : b_f3 < b_n6 := by omega
    go_upto_region 7 with fail
    refine wp_region_lit ?_; refine zx 2 ?_
    refine qE (enters_of Tryz.func107 (by kernel_rfl) rfl) (c := Xy x1 x2 L _ A1.out A2.out HL.out) (h := ?_); rintro e wn ⟨rfl, za⟩; have zf := B.size; have zg := za.size; replace B := B.trans (za.mono B.size)
    (try replace r1 := r1.below za)
    (try replace pc := pc.below za)
    (try replace f3 := f3.below za)
    (try replace n6 := n6.below za)
    refine ⟨_, rfl, ?_⟩; simp only [zn]; refine zx 1 ?_; refine wpList_nil ?_; replace hJ := HA.out.below hJ B; have hsz1 : W0.heap.size < wn.heap.size := by have := B.size; omega
    clear B hr1l hpcl hf3l; go_wp2; go_loopw [4, 8, 9] (fun lv _ _ wr => ∃ (k : Nat) (lf : Int), k ≤ jg s ∧ lv = .int .i64 lf ∧ Hid (lf = s.pha + k * s.spa - qi s.pts j) ∧ (0 ≤ lf ∧ lf ≤ 5300000) ∧ J (yU (jg s) k) wr ∧ W0.heap.size < wr.heap.size ∧ zF 43 wr b_f3 (qD.enc x1) ∧ zF 43 wr b_n6 (qD.enc x2) ∧ zF 30 wr b (qw (.slice (some ⟨g, o, none⟩) s.pts.length c) s) ∧ zK qD g o s.pts wr) (fun lv _ _ _ => (L - intOf lv).toNat)
    case atStart => exact ⟨k, lf, hk, rfl, HLF, hlf, hJ, hsz1, f3, n6, r1, pc⟩
    case round =>
     clear hJ hsz0 hsz1 f3 n6 r1 pc hlf HLF hk; obtain ⟨k, lf, hk, rfl, HLF, hlf, hJ, hsz0, f3, n6, r1, pc⟩ := hrel; have B := Below.refl wr.heap.size wr; have hr1l := r1.lt; have hpcl := pc.lt; have hf3l := f3.lt; have hn6l := n6.lt; by_cases zh : lf < L
     ·have q3 : decide (lf < L) = true := decide_eq_true zh
      have hkc : k < jg s := (Ve HV.out h1).2 (by
       have e1 := HLF.out; have e2 := HPR.out; have e3 : qi s.pts (j + 1) ≤ jI s.pts := ws s.pts (by omega); omega)
      have HD := Lib.hid (show jK s k = Kd s x1 x2 lf L from by
       have e1 := HLF.out; have e2 := HPR.out; have := HDK.out k (by omega) (by omega); rw [this, ← e1])
      obtain ⟨m1, m2⟩ := Kn (M := 5300000) (p := x2.x - x1.x) (q := lf) (by omega) (by omega); obtain ⟨m3, m4⟩ := Kn (M := 5300000) (p := x2.y - x1.y) (q := lf) (by omega) (by omega); obtain ⟨m5, m6⟩ := Kn (M := 5300000) (p := x2.p - x1.p) (q := lf) (by omega) (by omega); obtain ⟨b1, b2⟩ := uZ (a := x1.x) (b := x2.x) hlf.1 zh ⟨a1, a2⟩ ⟨c1, c2⟩; obtain ⟨b3, b4⟩ := uZ (a := x1.y) (b := x2.y) hlf.1 zh ⟨a3, a4⟩ ⟨c3, c4⟩; obtain ⟨b5, b6⟩ := uZ (a := x1.p) (b := x2.p) hlf.1 zh ⟨a5, a6⟩ ⟨c5, c6⟩; obtain ⟨qx, hqx⟩ : ∃ q, qf ((x2.x - x1.x) * lf) L = q := ⟨_, rfl⟩; obtain ⟨qy, hqy⟩ : ∃ q, qf ((x2.y - x1.y) * lf) L = q := ⟨_, rfl⟩; obtain ⟨qp, hqp⟩ : ∃ q, qf ((x2.p - x1.p) * lf) L = q := ⟨_, rfl⟩; rw [hqx] at b1 b2; rw [hqy] at b3 b4; rw [hqp] at b5 b6; obtain ⟨R, hR⟩ : ∃ R, qf (s.rad * (x1.p + qp)) 255 = R := ⟨_, rfl⟩; have HE := Lib.hid (show kx.enc (jK s k) = #[.int .i64 (x1.x + qx), .int .i64 (x1.y + qy), .int .i64 R] from by
       rw [HD.out]; show #[_, _, _] = _
       show #[Value.int .i64 (x1.x + qf ((x2.x - x1.x) * lf) L), .int .i64 (x1.y + qf ((x2.y - x1.y) * lf) L), .int .i64 (qf (s.rad * (x1.p + qf ((x2.p - x1.p) * lf) L)) 255)] = _
       rw [hqx, hqy, hqp, hR])
      have HQX := Lib.hid hqx; have HQY := Lib.hid hqy; have HQP := Lib.hid hqp; have HR := Lib.hid hR; have HN := Lib.hid (show lf + s.spa = s.pha + ((k + 1 : Nat) : Int) * s.spa - qi s.pts j from by rw [X8, HLF.out]; omega)
      have hbd : lf + s.spa ≤ 5300000 := by
       have e1 := zey HV.out (show k + 1 ≤ jg s by omega); have e2 := HN.out; have e3 := kR s.pts j; omega
      clear hqx hqy hqp hR; go_upto_region 8 with fail
      refine wp_region_lit ?_; refine zx 3 ?_; refine wpList_nil ?_; go_upto_region 10 with fail
      try have lx_r1 := r1.lt
      try have lx_pc := pc.lt
      try have lx_f3 := f3.lt
      try have lx_n6 := n6.lt
      refine zL 13 [(10, zP ?v1_10)] (by kernel_rfl) (by kernel_rfl) (by kernel_rfl) ?_
      rotate_left 1
      simp only [jU, Nat.reduceAdd]; refine vC 10 ?_
      refine zz (by rfl) (by first | rfl | simp [Region.wanted, yielded]) ?_ ?_
      ·intro wn za hE Kx hKx
       have zf := B.size; have zg := za.size; replace B := B.trans (za.mono B.size)
       (try replace r1 := r1.below za)
       (try replace pc := pc.below za)
       (try replace f3 := f3.below za)
       (try replace n6 := n6.below za)
       refine zS rfl (enters_of Tryz.func68 (by kernel_rfl) rfl) (by simp only [Act.eval, qI]; rfl) ?_
       refine (kq ((x2.x - x1.x) * lf) L qx wn (by omega) (by omega) (by omega) (by omega) HQX.out).mono ?_; rintro e wm ⟨rfl, zl⟩; refine ⟨_, rfl, ?_⟩; have hz := hKx () wm trivial zl
       dsimp only [zP] at hz
       exact hz
      rintro ⟨⟩
      dsimp only [zP]
      simp only [zn]; refine vC 2 ?_; refine qz ?_; intro wn za hE; have zf := B.size; have zg := za.size; replace B := B.trans (za.mono B.size)
      (try replace r1 := r1.below za)
      (try replace pc := pc.below za)
      (try replace f3 := f3.below za)
      (try replace n6 := n6.below za)
      clear hE; try simp only [List.drop_succ_cons, List.drop_zero]
      refine zQ.normal ?_; go_upto_region 11 with fail
      try have lx_r1 := r1.lt
      try have lx_pc := pc.lt
      try have lx_f3 := f3.lt
      try have lx_n6 := n6.lt
      refine zL 13 [(10, zP ?v2_10)] (by kernel_rfl) (by kernel_rfl) (by kernel_rfl) ?_
      rotate_left 1
      simp only [jU, Nat.reduceAdd]; refine vC 10 ?_
      refine zz (by rfl) (by first | rfl | simp [Region.wanted, yielded]) ?_ ?_
      ·intro wn za hE Kx hKx
       have zf := B.size; have zg := za.size; replace B := B.trans (za.mono B.size)
       (try replace r1 := r1.below za)
       (try replace pc := pc.below za)
       (try replace f3 := f3.below za)
       (try replace n6 := n6.below za)
       refine zS rfl (enters_of Tryz.func68 (by kernel_rfl) rfl) (by simp only [Act.eval, qI]; rfl) ?_
       refine (kq ((x2.y - x1.y) * lf) L qy wn (by omega) (by omega) (by omega) (by omega) HQY.out).mono ?_; rintro e wm ⟨rfl, zl⟩; refine ⟨_, rfl, ?_⟩; have hz := hKx () wm trivial zl
       dsimp only [zP] at hz
       exact hz
      rintro ⟨⟩
      dsimp only [zP]
      simp only [zn]; refine vC 2 ?_; refine qz ?_; intro wn za hE; have zf := B.size; have zg := za.size; replace B := B.trans (za.mono B.size)
      (try replace r1 := r1.below za)
      (try replace pc := pc.below za)
      (try replace f3 := f3.below za)
      (try replace n6 := n6.below za)
      clear hE; try simp only [List.drop_succ_cons, List.drop_zero]
      refine zQ.normal ?_; go_upto_region 12 with fail
      refine (wpIn_wide (n := n)).1 ?_; refine wD 17 (by kernel_rfl) (by kernel_rfl) (by kernel_rfl) ?_; simp only [jU, Nat.reduceAdd]; repeat (first | go_big_quiet_skip | (go_big_quiet_want; first | (refine zo (t := 30) rfl _ _ _ rfl (fun w hw => zy (zD r1 w hw) Tryz.isAgg30 (by kernel_rfl)) (by rfl) ?_; simp only [zn]; go_big_quiet_on) | (refine zo (t := 3) rfl _ _ _ rfl (fun w hw => zu (zcc (zD f3 w hw))) (by rfl) ?_; simp only [zn]; go_big_quiet_on) | (refine zo (t := 3) rfl _ _ _ rfl (fun w hw => zu (zcc (zD n6 w hw))) (by rfl) ?_; simp only [zn]; go_big_quiet_on) | (go_big_quiet_op; first | go_big_quiet_on | go_big_quiet_call ((first | (go_at_call 68; exact zX (kq ((x2.p - x1.p) * lf) L qp _ (by omega) (by omega) (by omega) (by omega) HQP.out)) | (go_at_call 110; exact zX (zdS _ s (x1.x + qx) (x1.y + qy) (x1.p + qp) R _ ⟨by omega, hr2⟩ ⟨b5, b6⟩ HR.out)))))))
      refine wpQuiet_nil ?_; intro wn za; have zf := B.size; have zg := za.size; replace B := B.trans (za.mono B.size); (try replace r1 := r1.below za); (try replace pc := pc.below za); (try replace f3 := f3.below za); (try replace n6 := n6.below za)
      replace hJ := HA.out.below hJ B; obtain ⟨fn, tmps, assign, body, hy, hRd⟩ := HY.out (yU (jg s) k) ⟨k, hkc⟩ _ hJ (by rw [vI hk]; exact hkc) (by have e1 := B.size; omega)
      try dsimp only at hy
      rw [HE.out] at hy; rw [← uY hkc] at hRd; gi_wp2
      refine hRd.mono ?_; rintro e W1 (⟨rfl, hJ1, hkp⟩ | ⟨rfl, hx1⟩)
      ·replace r1 := r1.of_eq (hkp.low _ hb hb8 r1.lt)
       replace pc := pc.of_eq (hkp.low _ hg hg8 pc.lt); replace f3 := hkp.pts _ _ f3; replace n6 := hkp.pts _ _ n6; have hsz2 : W0.heap.size < W1.heap.size := by have := hkp.size; have := B.size; omega
       gi_wp2
       clear B hy hRd; have B := Below.refl W1.heap.size W1; go_upto_region 9 with fail
       refine wp_region_lit ?_; refine zx 5 ?_
       refine wpList_nil ?_; go_wp2; go_roundw
       case rel => exact ⟨k + 1, lf + s.spa, by omega, rfl, HN, by omega, hJ1, hsz2, f3, n6, r1, pc⟩
       case measure => simp [intOf]; omega
      ·gi_wp2
       go_wp2; refine bodyPost_ret (results_none rfl _ _ _) rfl ?_; exact ⟨⟨_, rfl⟩, .inr ⟨_, ⟨_, rfl⟩, hx1⟩⟩
     ·have q3 : decide (lf < L) = false := decide_eq_false zh
      have HN := Lib.hid (show lf - L = s.pha + k * s.spa - qi s.pts (j + 1) from by rw [HPR.out, HLF.out]; omega)
      go_upto_region 8 with fail
      refine wp_region_lit ?_; refine zx 3 ?_; refine wpList_nil ?_; go_upto_region 13 with fail
      refine wp_region_lit ?_; refine zx 4 ?_; refine wpList_nil ?_; go_upto_region 14 with fail
      refine wp_region_lit ?_; refine zx 1 ?_
      (refine zp (t := 43) rfl _ _ rfl _ rfl _ rfl f3 (by kernel_rfl) rfl (by simp [qD, Value.oneCell']) ?_; have f3o := f3; clear f3; intro wn ht ze zg; have zf := B.size; replace zg := Nat.le_of_eq zg.symm; replace hJ := HA.out.chg (t := 43) (cs := qD.enc x1) hJ (by rw [← KF.out]; exact f3o) rfl (by rw [← KF.out]; exact ze); (try replace r1 := r1.of_eq (ze.block _ r1.lt (by omega))); (try replace pc := pc.of_eq (ze.block _ pc.lt (by omega))); have f3 := ht; clear ht; simp only [zn])
      refine wpList_nil ?_; replace f3 : zF 43 _ b_f3 (qD.enc x2) := f3; rw [← HX2.out] at f3; have hsz2 : W0.heap.size < wn.heap.size := by omega
      go_upto_region 15 with fail
      refine wp_region_lit ?_; refine zx 2 ?_; refine wpList_nil ?_; go_wp2; go_roundw
      case rel => exact ⟨j + 1, k, lf - L, by omega, hk, by go_num, rfl, HN, by omega, hJ, hsz2, f3, r1, pc⟩
      case measure => simp [intOf]; omega
   ·have q2 : decide ((j : Int) < ((s.pts.length - 1 : Nat) : Int)) = false := decide_eq_false (by omega)
    have q2' : decide (j < s.pts.length - 1) = false := decide_eq_false (by omega); have hkc : k = jg s := by
     have e1 := HLF.out; have e2 : jI s.pts = qi s.pts j := by unfold jI; rw [show s.pts.length - 1 = j by omega]
     have e3 := Ve HV.out h1 (k := k); omega
    have B := Below.refl wr.heap.size wr; go_upto_region 5 with fail
    refine wp_region_lit ?_; refine zx 1 ?_; refine wpList_nil ?_; go_wp2; go_end0
    have eF : yU (jg s) k = List.finRange (jg s) := by rw [hkc]; exact Qb _
    rw [eF] at hJ; exact ⟨⟨_, rfl⟩, .inl ⟨_, rfl, hJ⟩⟩
end Go.Proofs.YtepelndbbhdofaaGreatDoor
/- Contracts of AppendSeq, Collect at dabs; of Dabs and Area of package stroke. -/
namespace Go.Proofs.YtepelndbbhdofaaGreatDoor
open Go Go.RowKit Go.Shelf Pl
attribute [local go_sem] Oper.semAt_some
set_option linter.unusedVariables false
set_option linter.unusedSimpArgs false
set_option maxRecDepth 20000
section
variable {α : Type} {k : Nat} {T ST : TypeId} {E : ZQ α k T ST} {ops : Array Oper} {rest : List Oper} {o : Oper} {a : Act} {w : World} {Q : Exit → Act → World → Prop}
/-- A slice appended to a row of the call's own: nothing else of old has turned. -/
theorem y5 (hg : o.guard = none) (s x : Operand) (ho : o.op = .call { callee := .builtin .append, args := #[s, x], argTypes := #[ST, ST] }) (v u : Value) (hs : a.eval s = v) (hx : a.eval x = u) {B : Nat} {ls ks : List α} (hown : zW E B v ls w) (hu : jF E u ks w) (hlen : ls.length + ks.length ≤ 100000000) (hB : B ≤ w.heap.size)
  (h : ∀ v' w', zW E B v' (ls ++ ks) w' → w.grownBy w' v.ownBlock → wpList Tryz.prog ops Q rest (a.put o.dst v') w') : wpList Tryz.prog ops Q (o :: rest) a w := by
 obtain ⟨i, z, hi, hz, zf, hby, hzc⟩ := E.facts
 have hzs : z.cells.size = k := by rw [hzc, E.size]
 rcases hu with ⟨rfl, rfl⟩ | ⟨g, of, c, rfl, hc, sc⟩ | ⟨ad, c, rfl, rfl⟩
 ·refine wpList_append_own_none (P := Tryz.prog) hg s x ST ho B T i k E.und hi v ls.length (jH E ls) hs hown hx ?_
  exact h v w (by rw [List.append_nil]; exact hown) ⟨rfl, rfl, rfl, Nat.le_refl _, fun _ _ _ => rfl⟩
 ·refine wpList_append_own (P := Tryz.prog) w hg s x ST ho B T i z k E.bytes E.und hi hz zf hby hzs E.pos v ls.length (jH E ls) hs hown ⟨g, of, none⟩ ks.length c (jH E ks) hx (jz E ks) ?_ (kV E ks) (by unfold maxLen; omega) ?_ hB ?_
  ·intro j u hu
   have hj : j < ks.length * k := by rw [← jz E]; exact (List.getElem?_eq_some_iff.1 hu).1
   have e : (⟨g, of, none⟩ : Addr).add j = ⟨g, of + j, none⟩ := by unfold Addr.add; split <;> simp_all
   rw [e]; have hk : 0 < ks.length := by
    rcases Nat.eq_zero_or_pos ks.length with h0 | h0
    ·rw [h0, Nat.zero_mul] at hj; omega
    ·exact h0
   exact (sc hk).row j u hu
  ·have := Nat.mul_le_mul hlen E.small
   omega
  ·intro v' w' h1 h2 h3
   refine h v' w' ?_ h2; unfold zW; rw [Zp, List.length_append]; exact h1
 ·refine wpList_append_own (P := Tryz.prog) w hg s x ST ho B T i z k E.bytes E.und hi hz zf hby hzs E.pos v ls.length (jH E ls) hs hown ad 0 c [] hx (by simp) ?_ (by simp) (by unfold maxLen; simp only [List.length_nil] at hlen; omega) ?_ hB ?_
  ·intro j u hu
   simp at hu
  ·have := Nat.mul_le_mul hlen E.small
   simp only [List.length_nil] at this; omega
  ·intro v' w' h1 h2 h3
   refine h v' w' ?_ h2; unfold zW; rw [List.append_nil]; rw [List.append_nil] at h1; exact h1
/-- The own row abides what turns other blocks. -/
theorem zW.grown {E : ZQ α k T ST} {B : Nat} {v : Value} {ls : List α} {A A' : World} {row : Option Nat} (h : zW E B v ls A) (hg : A.grownBy A' row) (hr : ∀ r, row = some r → r < B ∨ ∃ o : Obj, A.heap[r]? = some o ∧ o.isCells = false) : zW E B v ls A' := by
 refine World.ownsRow.kept (row := row) h hg ?_
 cases hv : v.ownBlock with
 | none => exact .inl rfl
 | some b =>
  right
  intro e; have hb := World.ownsRow.lt h b hv; obtain ⟨_, h2⟩ := h; rcases h2 with ⟨rfl, _⟩ | ⟨g, cap, cur, rfl, _, hgc, _⟩
  ·cases hv
  ·have hgb : g = b := by simpa [Value.ownBlock] using hv
   subst hgb; rcases hr g e.symm with k | ⟨o, ho, hc⟩
   ·omega
   ·rw [hgc] at ho
    cases ho
    cases hc
theorem zW.block {E : ZQ α k T ST} {B : Nat} {v : Value} {ls : List α} {A : World} (h : zW E B v ls A) {b : Nat} (hb : v.ownBlock = some b) : ∃ cs, zF T A b cs := by
 obtain ⟨_, h2⟩ := h
 rcases h2 with ⟨rfl, _⟩ | ⟨g, cap, cur, rfl, _, hgc, _⟩
 ·cases hb
 ·have hgb : g = b := by simpa [Value.ownBlock] using hb
  subst hgb; exact ⟨cur, hgc⟩
end
theorem zF.grown {t : TypeId} {A A' : World} {b : Nat} {cs : Array Value} {row : Option Nat} (h : zF t A b cs) (hg : A.grownBy A' row) (hr : row ≠ some b) : zF t A' b cs := (hg.block b h.lt (fun e => hr e.symm)).trans h
theorem uT.grownT {n0 c : Nat} {W W' : World} {row : Option Nat} (hg : W.grownBy W' row) (hr : ∀ r, row = some r → n0 ≤ r ∧ ∃ t cs, zF t W r cs ∧ t ≠ 43) : uT n0 c W W' :=
 ⟨hg.size, fun k hk _ hl => hg.block k hl (fun e => by have := (hr k e.symm).1; omega), fun k cs hk => hk.grown hg (fun e => by
  obtain ⟨_, t, ds, hd, ht⟩ := hr k e; have := (show W.heap[k]? = _ from hk).symm.trans hd
  injection this with this
  injection this with _ e' _
  exact ht e'.symm)⟩
theorem KeepsOthers.below {W W' : World} (h : Below W.heap.size W W') : KeepsOthers W W' := ⟨h.size, fun k o hk _ => (h.block k (Array.getElem?_eq_some_iff.1 hk).1).trans hk⟩
theorem Z9 (s : qv) : (List.finRange (jg s)).map (fun i => jK s i.val) = jY s := by
 unfold jY
 refine List.ext_getElem (by simp) fun i h1 h2 => ?_
 simp
theorem wN {w : World} {b j : Nat} {v : Value} (h : w.cell? ⟨b, j, none⟩ = some v) : (Instr.loadAt 35 (.pointer (some ⟨b, j, none⟩))).run Tryz.prog w = .ok v w := by
 simp [go_sem, h]
/-- A slice stored into its own cell. -/
theorem YO {v : Value} {ops : Array Oper} {rest : List Oper} {o : Oper} {a : Act} {w : World} {Q : Exit → Act → World → Prop} (hg : o.guard = none) (x y : Operand) (ho : o.op = .store 35 x y) (b : Nat) (hx : a.eval x = .pointer (some ⟨b, 0, none⟩)) (a' : Option Addr) (n' c' : Nat) (hy : a.eval y = .slice a' n' c') (ht : zF 35 w b #[v])
  (h : ∀ w', zF 35 w' b #[.slice a' n' c'] → qN b w w' → w'.heap.size = w.heap.size → wpList Tryz.prog ops Q rest (a.put o.dst undef) w') : wpList Tryz.prog ops Q (o :: rest) a w := by
 have c0 := ht.cell 0 rfl
 have f0 := ht.frozen 0
 refine qe hg x y ho (w.setCell ⟨b, 0, none⟩ (.slice a' n' c')) ?_ (h _ ?_ ((qN.refl b w).setCell _) (by simp only [World.size_setCell]))
 ·rw [hx, hy]
  simp [go_sem, c0, f0]
 ·exact heap_setCell_same w b 0 #[v] _ _ ht
set_option maxHeartbeats 4000000 in
theorem Xl (s : qv) (hv : uQ s) (g o c b : Nat) (w : World) (r1 : zF 30 w b (qw (.slice (some ⟨g, o, none⟩) s.pts.length c) s)) (hcap : s.pts.length ≤ c) (pc : zK qD g o s.pts w) : Calls Tryz.prog 108 #[.slice none 0 0, .func (.func 109) #[] #[.pointer (some ⟨b, 0, none⟩)]] w fun e w' => ∃ a cp, e = .returned (.slice a (jY s).length cp) ∧ zW kx w.heap.size (.slice a (jY s).length cp) (jY s) w' ∧ Below w.heap.size w w' := by
 have B := Below.refl w.heap.size w
 have HV := Lib.hid hv
 have ze := Kc hv
 have hb := r1.lt
 have hg0 := pc.lt
 clear hv
 refine (callsIn_wide (n := 3)).1 ?_
 refine callsIn_of_wp_marks Tryz.func108 rfl trivial ?_ rfl
 simp only [Tryz.ntmps108, List.size_toArray, List.length_cons, List.length_nil, Nat.reduceAdd, Nat.reduceSub, Array.replicate_succ, Array.replicate_zero, List.push_toArray, List.append_toArray, List.nil_append, List.cons_append]
 refine wpIn_wide.2 ?_
 go_upto_region 0 with fail
 refine wp_region_lit ?_
 (refine YK (t := 35) rfl _ rfl (.slice none 0 0) rfl (by simp [Value.cells]) (zV B ?_); clear B; intro b_r2 wn zb zd r2 za zf zk B; (try have zh := r1.lt); (try replace r1 := r1.below (za.mono zb)); (try have zh := pc.lt); (try replace pc := pc.below (za.mono zb)); simp only [zn])
 refine zx 1 ?_
 refine wpList_nil ?_
 have k2 : w.heap.size ≤ b_r2 := by omega
 have k3 := r2.lt
 go_upto_region 1 with fail
 refine wp_region_lit ?_
 refine zx 1 ?_
 refine wpList_nil ?_
 obtain ⟨w1, hw1⟩ : ∃ w1, w1 = wn := ⟨_, rfl⟩
 rw [← hw1] at B r1 pc r2 k3 ⊢
 clear hw1
 obtain ⟨b0, hb0⟩ : ∃ b0, b0 = w1.heap.size + 3 := ⟨_, rfl⟩
 have HB0 := Lib.hid hb0
 clear hb0
 go_wp2
 refine (wpIn_wide (n := 3)).1 ?_
 refine Zo (F := Fence.wide) rfl (by omega) (gf := 109) (lb := #[.pointer (some ⟨b, 0, none⟩)]) rfl trivial (enters_of Tryz.func109 (by kernel_rfl) rfl) (QD s HV.out g o c b b_r2 w.heap.size _ (by omega) _ r1 hcap pc hb (by omega) hg0 (by omega) B.size) (fun h k => uT.trans h k) (fun W l o o' hl ho hc _ => uT.putObj W l o o' (by omega) ho hc) (fun A B h => uT.below h) (Below.refl _ _) (fun _ => rfl)
  (fun pre W => ∃ (ad : Option Addr) (cp : Nat), zF 35 W b_r2 #[.slice ad pre.length cp] ∧ zW kx b0 (.slice ad pre.length cp) (pre.map fun i => jK s i.val) W ∧ Below w.heap.size w W)
  (fun pre W W' row hI hg hr => ?own)
  ⟨none, 0, r2, zW.nil _ _, B⟩
  (fun x a' W => ∃ b5 : Nat, a'.defers = [] ∧ a'.tmps.size = 13 ∧ a'.tmps.getD 2 undef = .pointer (some ⟨b_r2, 0, none⟩) ∧ a'.tmps.getD 5 undef = .pointer (some ⟨b5, 0, none⟩) ∧ zF 45 W b5 (kx.enc (jK s x.val)) ∧ b_r2 < b5 ∧ b0 ≤ W.heap.size)
  (fun x a' W W' row hA hg hr => ?own2) ?assign ?body ?done
 case own =>
  obtain ⟨ad, cp, h1, h2, h3⟩ := hI; have hsz1 := B.size; have hb0 := HB0.out; refine ⟨ad, cp, h1.grown hg (fun e => ?_), h2.grown hg (fun r e => ?_), yP h3 h3.size hg (fun r e => Nat.le_trans hsz1 (hr r e).1)⟩
  ·have := (hr _ e).1
   rcases (hr _ e).2 with ⟨ob, ho, hc⟩ | ⟨h5, _⟩
   ·rw [show W.heap[b_r2]? = _ from h1] at ho
    cases ho
    cases hc
   ·omega
  ·rcases (hr r e).2 with h5 | ⟨h5, _⟩
   ·exact .inr h5
   ·exact .inl (by omega)
 case own2 =>
  obtain ⟨b5, e1, e2, e3, e4, h1, h2, h3⟩ := hA; exact ⟨b5, e1, e2, e3, e4, h1.own hg (fun r e => (hr r e).2), h2, Nat.le_trans h3 hg.size⟩
 case assign =>
  intro l pre x W K ⟨_, _, hl8, _⟩ hbig hK; have hb0 := HB0.out; have B := Below.refl W.heap.size W; have hl := hl8.lt; obtain ⟨⟨X, Y, R⟩, hxy⟩ : ∃ p, jK s x.val = p := ⟨_, rfl⟩; rw [hxy] at hK; rw [hxy]
  dsimp only
  refine Xj ?_; simp only [List.setIfInBounds_toArray, List.set_cons_succ, List.set_cons_zero]; refine zA (by kernel_rfl) ?_
  (refine zr (t := 45) rfl _ (yM _ _ rfl) (zV B ?_); clear B; intro b_d5 wn zb zd d5 za zf zk B; simp only [zn])
  (refine zp (t := 45) rfl _ _ rfl _ rfl _ rfl d5 (by kernel_rfl) rfl (by simp [kx, Value.oneCell']) (qt B (by omega) ?_); clear d5 B; intro wn d5 ze zf zg B; simp only [zn])
  refine wpList_nil ?_; refine ql.at ?_; refine hK _ _ B ⟨_, rfl, rfl, rfl, rfl, d5, by omega, by have := B.size; omega⟩
 case body =>
  rintro l pre x W ⟨tm, df⟩ ⟨ad, cp, r2, od, BW⟩ ⟨b5, e1, e2, e3, e4, d5, k10, kb0⟩ hpre; obtain ⟨U, hU, hUi⟩ := Y6 tm 13 e2; rw [← hUi] at e3 e4; have eL : ((List.range 13).map U).toArray = #[U 0, U 1, U 2, U 3, U 4, U 5, U 6, U 7, U 8, U 9, U 10, U 11, U 12] := rfl; rw [eL] at hU; rw [e3, e4] at hU; subst hU; have e1 : df = [] := e1; subst e1; clear e2 e3 e4 hUi eL; have hb0 := HB0.out; have hpl : (pre.map fun i => jK s i.val).length = pre.length := List.length_map _; have B := Below.refl W.heap.size W; have R2 := Lib.hid r2; have hws := BW.size; have r2lt := r2.lt; have d5lt := d5.lt; clear hb0; gi_upto_region 3 with fail
  refine zA (by kernel_rfl) ?_; refine jG 2 ?_
  repeat (first | go_big_quiet_skip | (go_big_quiet_want; first | ((first | refine zo (t := 35) rfl _ _ _ rfl (fun w hw => wN ((zD r2 w hw).cellL 0 rfl)) (by rfl) ?_ | refine qB ?_ | refine qC ?_); simp only [zn]; go_big_quiet_on) | (go_big_quiet_op; go_big_quiet_on)))
  refine wpQuiet_nil ?_
  (refine vS (E := kx) rfl _ rfl (jK s x.val) rfl (by omega) (zV B ?_); clear B; intro b_t10 wn zb zd t10 za zf zk B; replace od := od.below (za.mono zb); (try have zh := r2.lt); (try replace r2 := r2.below (za.mono zb)); (try have zh := d5.lt); simp only [zn])
  (at_builtin; refine y5 rfl _ _ rfl _ _ rfl rfl od (jF.one t10) (by rw [hpl]; simp only [List.length_cons, List.length_nil]; omega) (by omega) ?_; intro v_od wm od2 hgr; simp only [zn])
  have K1 : uT w.heap.size b_r2 W wn := uT.below B; have O1 : KeepsOthers W wn := KeepsOthers.below B; have hown : ∀ r, (Value.slice ad pre.length cp).ownBlock = some r → w.heap.size ≤ r ∧ ∃ t cs, zF t wn r cs ∧ t ≠ 43 ∧ r ≠ b_r2 := fun r e => by
   have h1 := (World.ownsRow.lt od r e); obtain ⟨cs, hcs⟩ := od.block e; have hbb := HB0.out; exact ⟨by omega, _, cs, hcs, by decide, by omega⟩
  have K2 := K1.trans (uT.grownT (c := b_r2) hgr (fun r e => by obtain ⟨h1, t, cs, h2, h3, _⟩ := hown r e; exact ⟨h1, t, cs, h2, h3⟩))
  have O2 := O1.trans (KeepsOthers.of_grownBy hgr (fun j o e ho => by
   obtain ⟨_, t, cs, h2, _⟩ := hown j e; rw [show wn.heap[j]? = _ from h2] at ho; cases ho
   rfl))
  have r2m := r2.grown hgr (fun e => by obtain ⟨_, _, _, _, _, h4⟩ := hown _ e; exact h4 rfl)
  have BW2 := (BW.trans (B.mono hws)).grown hgr (by have := B.size; omega) (fun k e => (hown k e).1)
  have hlen2 : ((pre ++ [x]).map fun i => jK s i.val) = (pre.map fun i => jK s i.val) ++ [jK s x.val] := by rw [List.map_append]; rfl
  rw [← hlen2] at od2; obtain ⟨a_od, c_od, hv, hco⟩ := od2.len; rw [List.length_map] at hv; subst hv; refine YO rfl _ _ rfl _ rfl _ _ _ rfl r2m ?_; intro wz r2z hcz hsz2; refine wpList_nil ?_; refine ql.at ?_; try dsimp only
  have hb1 : b_r2 < b0 := by have := HB0.out; omega
  refine ⟨O2.trans (KeepsOthers.chgB hcz r2m), K2.trans (uT.exc (Nat.le_of_eq hsz2.symm) (fun k h1 h2 => hcz.block k h1 h2) r2m (by decide)), a_od, c_od, r2z, od2.chg hcz hb1, ?_⟩; exact qN.below BW2 hcz (by omega) BW2.size
 case done =>
  have hszB := B.size; rintro D xs W hD rfl ⟨ad, cp, r2, od, BW⟩ hDD; have kd : yq W D := hDD; rw [Z9, List.length_finRange] at od; rw [List.length_finRange] at r2; have rs := od.rs; have hwD : w.heap.size ≤ D := by omega
  have B := BW; go_upto_region 4 with fail
  refine wp_region_lit ?_; refine jG 2 ?_; repeat (first | go_big_quiet_skip | (go_big_quiet_want; first | ((first | refine zo (t := 35) rfl _ _ _ rfl (fun w hw => wN ((zD r2 w hw).cellL 0 rfl)) (by rfl) ?_ | refine qB ?_ | refine qC ?_); simp only [zn]; go_big_quiet_on) | (go_big_quiet_op; go_big_quiet_on)))
  refine wpQuiet_nil ?_; refine wpList_nil ?_; go_wp2; refine ⟨by simp, .inl ⟨_, _, rfl, run_takeDeferred kd, ?_⟩⟩; have BF := B.trans (belowK_b (w := w) (Nat.le_refl _) W D _ (.deferred none) hwD kd rfl rfl); refine ⟨.slice ad (jg s) cp, by simp [results, Tryz.results108, go_sem]; try rfl, ?_⟩
  rw [Q3]; exact ⟨ad, cp, rfl, (od.grown (grownBy_putObj' _ _ _) (fun r e => by cases e; exact .inr ⟨_, kd, rfl⟩)).mono (by have := HB0.out; omega), BF⟩
end Go.Proofs.YtepelndbbhdofaaGreatDoor
/- Contracts of Collect at dabs; of Dabs and Area of package stroke. -/
namespace Go.Proofs.YtepelndbbhdofaaGreatDoor
open Go.RowKit Go.Shelf Pl
set_option linter.unusedVariables false
set_option linter.unusedSimpArgs false
set_option maxRecDepth 20000
theorem Xn (s : qv) (hv : uQ s) (g o c b : Nat) (w : World) (r1 : zF 30 w b (qw (.slice (some ⟨g, o, none⟩) s.pts.length c) s)) (hcap : s.pts.length ≤ c) (pc : zK qD g o s.pts w) : Calls Tryz.prog 57 #[.func (.func 109) #[] #[.pointer (some ⟨b, 0, none⟩)]] w fun e w' => ∃ a cp, e = .returned (.slice a (jY s).length cp) ∧ zW kx w.heap.size (.slice a (jY s).length cp) (jY s) w' ∧ Below w.heap.size w w' := by
 have B := Below.refl w.heap.size w
 go_enter Tryz.func57, Tryz.ntmps57
 go_upto_region 1 with fail
 refine wp_region_lit ?_
 refine zx 1 ?_
 refine qE (enters_of Tryz.func108 (by kernel_rfl) rfl) (c := Xl s hv g o c b _ r1 hcap pc) (h := ?_)
 rintro e wn ⟨a5, c5, rfl, od5, za⟩
 have zf := B.size
 have zg := za.size
 replace B := B.trans (za.mono B.size)
 refine ⟨_, rfl, ?_⟩
 simp only [zn]
 refine zx 1 ?_
 refine wpList_nil ?_
 go_wp2
 go_ret
 exact ⟨_, _, rfl, od5, B⟩
set_option maxHeartbeats 1000000 in
theorem kn (v : Value) (s : qv) (L : List Db) (w : World) (rs : jF qD v s.pts w) (hn : s.pts.length ≤ 17592186044416) (e : yd s = L) : Calls Tryz.prog 19 #[.agg (qw v s)] w fun e w' => ∃ a cp, e = .returned (.slice a L.length cp) ∧ zW kx w.heap.size (.slice a L.length cp) L w' ∧ Below w.heap.size w w' := by
 have B := Below.refl w.heap.size w
 obtain ⟨a, c, rfl, hc⟩ := rs.len
 cases hv : qM s with
 | false =>
  obtain rfl : L = [] := by rw [← e]; unfold yd; rw [hv]; rfl
  have HV := Lib.hid hv; clear hv e; go_enter Tryz.func19, Tryz.ntmps19
  go_upto_region 0 with fail
  refine wp_region_lit ?_
  (refine zt (t := 30) rfl _ rfl _ rfl (zV B ?_); clear B; intro b_r1 wn zb zd r1 za zf zk B; (try have zh := rs.lt); (try replace rs := rs.below (za.mono zb)); simp only [zn])
  refine zx 1 ?_; refine wpList_nil ?_; go_upto_region 1 with fail
  refine wp_region_lit ?_; refine zx 1 ?_
  refine qE (enters_of Tryz.func16 (by kernel_rfl) rfl) (c := jh _ s false _ rs hn HV.out) (h := ?_); rintro e wn ⟨rfl, za⟩; have zf := B.size; have zg := za.size; replace B := B.trans (za.mono B.size)
  (try replace r1 := r1.below za)
  (try replace rs := rs.below za)
  refine ⟨_, rfl, ?_⟩; simp only [zn]; refine zx 1 ?_; refine wpList_nil ?_; go_upto_region 2 with fail
  refine wp_region_lit ?_; refine zx 1 ?_; refine wpList_nil ?_; go_wp2; go_ret; exact ⟨_, _, rfl, zW.nil _ _, B⟩
 | true =>
  have hL : jY s = L := by rw [← e]; unfold yd; rw [hv]; rfl
  have HL := Lib.hid hL; have HVS := Lib.hid ((jj s).1 hv); have HV := Lib.hid hv; obtain ⟨g, o, rfl, pc⟩ := rs.at (by have := HVS.out.l1; omega)
  have hw0 := Nat.le_refl w.heap.size; clear hv e hL; go_enter Tryz.func19, Tryz.ntmps19
  go_upto_region 0 with fail
  refine wp_region_lit ?_
  (refine zt (t := 30) rfl _ rfl _ rfl (zV B ?_); clear B; intro b_r1 wn zb zd r1 za zf zk B; (try have zh := r1.lt); (try replace r1 := r1.below (za.mono zb)); (try have zh := rs.lt); (try replace rs := rs.below (za.mono zb)); (try have zh := pc.lt); (try replace pc := pc.below (za.mono zb)); simp only [zn])
  refine zx 1 ?_; refine wpList_nil ?_; go_upto_region 1 with fail
  refine wp_region_lit ?_; refine zx 1 ?_
  refine qE (enters_of Tryz.func16 (by kernel_rfl) rfl) (c := jh _ s true _ rs hn HV.out) (h := ?_); rintro e wn ⟨rfl, za⟩; have zf := B.size; have zg := za.size; replace B := B.trans (za.mono B.size)
  (try replace r1 := r1.below za)
  (try replace pc := pc.below za)
  refine ⟨_, rfl, ?_⟩; simp only [zn]; refine zx 1 ?_; refine wpList_nil ?_; go_upto_region 3 with fail
  refine wp_region_lit ?_; refine zx 1 ?_
  refine qE (enters_of Tryz.func58 (by kernel_rfl) rfl) (c := zaS _ s _) (h := ?_); rintro e wn ⟨bw, rfl, hbw, r9, za⟩; have zf := B.size; have zg := za.size; replace B := B.trans (za.mono B.size)
  (try replace pc := pc.below za)
  (try replace r9 := r9.below za)
  refine ⟨_, rfl, ?_⟩; simp only [zn]; refine qE (enters_of Tryz.func57 (by kernel_rfl) rfl) (c := Xn s HVS.out g o c bw _ r9 hc pc) (h := ?_); rintro e wn ⟨a5, c5, rfl, od5, za⟩; have zf := B.size; have zg := za.size; replace B := B.trans (za.mono B.size); replace od5 := od5.mono (show w.heap.size ≤ _ from by omega); refine ⟨_, rfl, ?_⟩; simp only [zn]; refine zx 1 ?_; refine wpList_nil ?_; rw [HL.out] at *; go_wp2; go_ret; exact ⟨_, _, rfl, od5, B⟩
/-! ### The variable 'limits' -/
def xz (w : World) : Prop := 0 < w.heap.size ∧ ∀ j, j < 4 → w.cell? ⟨0, j, none⟩ = (jV JR)[j]?
section
variable {w w' : World}
theorem xz.lt (h : xz w) : 0 < w.heap.size := h.1
theorem xz.of_eq (h : xz w) (e : w'.heap[0]? = w.heap[0]?) : xz w' := by
 refine ⟨?_, fun j hj => ?_⟩
 ·have := h.1
  rcases Nat.lt_or_ge 0 w'.heap.size with k | k
  ·exact k
  ·rw [Array.getElem?_eq_none k, Array.getElem?_eq_getElem this] at e
   cases e
 ·rw [World.cell?_of_block (w := w) e]
  exact h.2 j hj
theorem xz.below (h : xz w) (hb : Below w.heap.size w w') : xz w' := h.of_eq (hb.block _ h.lt)
theorem zbI (h : xz w) : ∀ w', (∃ u, w' = ov w u) → xz w' := by
 rintro w' ⟨u, rfl⟩
 exact h.below (qJ w u)
theorem uM (h : xz w) : (Instr.loadAt 38 (.pointer (some ⟨0, 0, none⟩))).run Tryz.prog w = .ok (.agg (jV JR)) w :=
 xk Tryz.isAgg38 (by kernel_rfl) (fun j hj => by rw [Nat.zero_add]; exact h.2 j hj)
end
theorem We (l : List Db) {k : Nat} {d : Db} (h : l[k]? = some d) : ZZ (l.take (k + 1)) = if 0 < d.r then xy (ZZ (l.take k)) (kX d) else ZZ (l.take k) := by
 unfold ZZ
 rw [List.take_add_one, h, List.foldl_append]
 rfl
set_option maxHeartbeats 4000000 in
theorem zak (v : Value) (s : qv) (q : Rc) (w : World) (lm : xz w) (rs : jF qD v s.pts w) (hn : s.pts.length ≤ 17592186044416) (e : zdT s = q) : Calls Tryz.prog 21 #[.agg (qw v s)] w fun e w' => e = .returned (.agg (jV q)) ∧ Below w.heap.size w w' := by
 have B := Below.refl w.heap.size w
 have hlm := lm.lt
 have HL := Lib.hid (uX s)
 have HOK := Lib.hid (za7 s)
 obtain ⟨L, hL⟩ : ∃ L, yd s = L := ⟨_, rfl⟩
 have HE := Lib.hid (show kP (ZZ L) JR = q from by rw [← e, ← hL]; rfl)
 have HLS := Lib.hid hL
 rw [hL] at HL HOK
 have hLn := HL.out
 clear e hL
 go_enter Tryz.func21, Tryz.ntmps21
 go_upto_region 0 with fail
 refine wp_region_lit ?_
 (refine zt (t := 30) rfl _ rfl _ rfl (zV B ?_); clear B; intro b_r1 wn zb zd r1 za zf zk B; (try have zh := lm.lt); (try replace lm := lm.below (za.mono zb)); (try have zh := rs.lt); (try replace rs := rs.below (za.mono zb)); simp only [zn])
 (refine zr (t := 38) rfl _ (zY _ _ rfl) (zV B ?_); clear B; intro b_r2 wn zb zd r2 za zf zk B; (try have zh := r1.lt); (try replace r1 := r1.below (za.mono zb)); (try have zh := lm.lt); (try replace lm := lm.below (za.mono zb)); (try have zh := rs.lt); (try replace rs := rs.below (za.mono zb)); simp only [zn])
 refine wpList_nil ?_
 go_upto_region 1 with fail
 refine wp_region_lit ?_
 (refine zr (t := 38) rfl _ (zY _ _ rfl) (zV B ?_); clear B; intro b_r3 wn zb zd r3 za zf zk B; (try have zh := r1.lt); (try replace r1 := r1.below (za.mono zb)); (try have zh := r2.lt); (try replace r2 := r2.below (za.mono zb)); (try have zh := lm.lt); (try replace lm := lm.below (za.mono zb)); (try have zh := rs.lt); (try replace rs := rs.below (za.mono zb)); simp only [zn])
 refine wpList_nil ?_
 have k1 : b_r2 < b_r3 := by have := r2.lt; omega
 have k2 : w.heap.size ≤ b_r2 := by omega
 obtain ⟨b0, hb0⟩ : ∃ b0, b0 = wn.heap.size := ⟨_, rfl⟩
 have k3 : b_r3 < b0 := by have := r3.lt; omega
 have HB0 := Lib.hid hb0
 clear hb0
 go_upto_region 2 with fail
 refine wp_region_lit ?_
 refine zx 1 ?_
 refine qE (enters_of Tryz.func19 (by kernel_rfl) rfl) (c := kn _ s L _ rs hn HLS.out) (h := ?_)
 rintro e wn ⟨ad, cd, rfl, od, za⟩
 have zf := B.size
 have zg := za.size
 replace B := B.trans (za.mono B.size)
 (try replace r1 := r1.below za)
 (try replace r2 := r2.below za)
 (try replace r3 := r3.below za)
 (try replace lm := lm.below za)
 (try replace rs := rs.below za)
 rw [← HB0.out] at od
 refine ⟨_, rfl, ?_⟩
 simp only [zn]
 refine zw (by first | rfl | simp [Region.wanted, yielded]) rfl Tryz.underlying35 rfl ?_
 simp only [zn]
 refine zx 1 ?_
 refine wpList_nil ?_
 have k4 : b0 ≤ wn.heap.size := by have := HB0.out; omega
 clear rs r1
 go_wp2
 go_loopw [5, 9] (fun _ iv wr => ∃ (k : Nat) (A : Rc), k ≤ L.length ∧ iv = .int .i64 (k : Int) ∧ Hid (ZZ (L.take k) = A) ∧ Below w.heap.size w wr ∧ b0 ≤ wr.heap.size ∧ xz wr ∧ zF 38 wr b_r2 #[.int .i64 0, .int .i64 0, .int .i64 0, .int .i64 0] ∧ zF 38 wr b_r3 (jV A) ∧ zW kx b0 (.slice ad L.length cd) L wr) (fun _ iv _ => (L.length - intOf iv).toNat)
 case atStart => exact ⟨0, Rc.zero, by omega, rfl, Lib.hid rfl, B, k4, lm, r2, r3, od⟩
 case round =>
  clear B k4 lm r2 r3 od; obtain ⟨k, A, hk, rfl, HA, B, k4, lm, r2, r3, od⟩ := hrel; by_cases hkl : k < L.length
  ·have q1 : decide ((k : Int) < (L.length : Int)) = true := decide_eq_true (by omega)
   have q2 : decide (k < L.length) = true := decide_eq_true hkl; obtain ⟨g, o, rfl, pc⟩ := od.rs.at (by omega); have hp := Z8 hkl; have OKD := Lib.hid (HOK.out _ (List.mem_of_getElem? hp)); have HST := Lib.hid (We L hp); rw [HA.out] at HST
   generalize hx1 : za4 L k = x1 at *
   clear hx1; obtain ⟨o1, o2, o3, o4, o5, o6⟩ := OKD.out; go_upto_region 3 with fail
   refine wp_region_lit ?_; refine zx 1 ?_; refine wpList_nil ?_; have BW := B; have HOD := Lib.hid od; have hlo := od.rs; have B := Below.refl wr.heap.size wr; have hpcl := pc.lt; have hr2l := r2.lt; have hr3l := r3.lt; have hlml := lm.lt; clear hlo; go_upto_region 4 with fail
   refine wp_region_lit ?_; refine jG 2 ?_; repeat (first | go_big_quiet_skip | (go_big_quiet_want; first | ((first | refine zo (t := 45) rfl _ _ _ rfl (fun w hw => (jt pc w hw).load Tryz.isAgg45 hp) (by first | rfl | omega) ?_ | refine qB ?_ | refine qC ?_); simp only [zn]; go_big_quiet_on) | (go_big_quiet_op; go_big_quiet_on)))
   refine wpQuiet_nil ?_
   (refine zr (t := 45) rfl _ (yM _ _ rfl) (zV B ?_); clear B; intro b_d5 wn zb zd d5 za zf zk B; (try have zh := r2.lt); (try replace r2 := r2.below (za.mono zb)); (try have zh := r3.lt); (try replace r3 := r3.below (za.mono zb)); (try have zh := lm.lt); (try replace lm := lm.below (za.mono zb)); (try have zh := pc.lt); simp only [zn])
   (refine zp (t := 45) rfl _ _ rfl _ rfl _ rfl d5 (by kernel_rfl) rfl (by simp [jV, kx, Value.oneCell']) (qt B (by omega) ?_); clear d5 B; intro wn d5 ze zf zg B; (try replace r2 := r2.of_eq (ze.block _ r2.lt (by omega))); (try replace r3 := r3.of_eq (ze.block _ r3.lt (by omega))); (try replace lm := lm.of_eq (ze.block _ lm.lt (by omega))); simp only [zn])
   refine wpList_nil ?_; replace d5 : zF 45 _ b_d5 (kx.enc x1) := d5; replace od := HOD.out.below B; have B0 := BW.trans (B.mono BW.size); clear B; have B := B0; clear B0 BW; have k5 : b0 ≤ wn.heap.size := by omega
   by_cases hr : 0 < x1.r
   ·have q3 : decide (0 < x1.r) = true := decide_eq_true hr
    rw [if_pos hr] at HST; obtain ⟨qs, hqs⟩ : ∃ q, kX x1 = q := ⟨_, rfl⟩; obtain ⟨A2, hA2⟩ : ∃ q, xy A qs = q := ⟨_, rfl⟩; rw [hqs, hA2] at HST; have HQS := Lib.hid hqs; have HA2 := Lib.hid hA2; clear hqs hA2; go_upto_region 5 with fail
    refine wp_region_lit ?_; refine zx 3 ?_
    refine wpList_nil ?_; go_upto_region 6 with fail
    try have lx_r1 := r1.lt
    try have lx_r2 := r2.lt
    try have lx_r3 := r3.lt
    try have lx_lm := lm.lt
    try have lx_d5 := d5.lt
    try have lx_od := od.lt
    refine zL 4 [(2, zP ?v1_2), (3, zP ?v1_3)] (by kernel_rfl) (by kernel_rfl) (by kernel_rfl) ?_
    rotate_left 2
    simp only [jU, Nat.reduceAdd]; refine vC 2 ?_
    refine zz (by rfl) (by first | rfl | simp [Region.wanted, yielded]) ?_ ?_
    ·intro wn za hE Kx hKx
     have zf := B.size; have zg := za.size; replace B := B.trans (za.mono B.size)
     (try replace r2 := r2.below za)
     (try replace r3 := r3.below za)
     (try replace lm := lm.below za)
     (try replace d5 := d5.below za)
     (try replace od := od.below za)
     refine zS rfl (enters_of Tryz.func62 (by kernel_rfl) rfl) (by simp only [Act.eval, qI]; rfl) ?_
     refine (ys x1 qs wn (by omega) (by omega) (by omega) HQS.out).mono ?_; rintro e wm ⟨rfl, zl⟩; refine ⟨_, rfl, ?_⟩; have hz := hKx () wm trivial zl
     dsimp only [zP] at hz
     exact hz
    rintro ⟨⟩
    dsimp only [zP]
    simp only [zn]; refine zz (by rfl) (by first | rfl | simp [Region.wanted, yielded]) ?_ ?_
    ·intro wn za hE Kx hKx
     have zf := B.size; have zg := za.size; replace B := B.trans (za.mono B.size)
     (try replace r2 := r2.below za)
     (try replace r3 := r3.below za)
     (try replace lm := lm.below za)
     (try replace d5 := d5.below za)
     (try replace od := od.below za)
     refine zS rfl (enters_of Tryz.func61 (by kernel_rfl) rfl) (by simp only [Act.eval, qI]; rfl) ?_
     refine (zaG A qs A2 wn HA2.out).mono ?_; rintro e wm ⟨rfl, zl⟩; refine ⟨_, rfl, ?_⟩; have hz := hKx () wm trivial zl
     dsimp only [zP] at hz
     exact hz
    rintro ⟨⟩
    dsimp only [zP]
    simp only [zn]; refine qz ?_; intro wn za hE; have zf := B.size; have zg := za.size; replace B := B.trans (za.mono B.size)
    (try replace r2 := r2.below za)
    (try replace r3 := r3.below za)
    (try replace lm := lm.below za)
    (try replace d5 := d5.below za)
    (try replace od := od.below za)
    clear hE; try simp only [List.drop_succ_cons, List.drop_zero]
    go_wp2_with (first | (refine zp (t := 38) rfl _ _ rfl _ rfl _ rfl r3 (by kernel_rfl) rfl (by simp [jV, kx, Value.oneCell']) (qt B (by omega) ?_); clear r3 B; intro wn r3 ze zf zg B; replace od := od.chg ze (by omega); (try replace r2 := r2.of_eq (ze.block _ r2.lt (by omega))); (try replace lm := lm.of_eq (ze.block _ lm.lt (by omega))); simp only [zn]) | fail)
    refine zQ.normal ?_; replace r3 : zF 38 _ b_r3 (jV A2) := r3; go_upto_region 7 with fail
    refine wp_region_lit ?_; refine zx 2 ?_; refine wpList_nil ?_; go_wp2; go_roundw
    case rel => exact ⟨k + 1, A2, by omega, by go_num, HST, B, by omega, lm, r2, r3, od⟩
    case measure => simp [intOf]; omega
   ·have q3 : decide (0 < x1.r) = false := decide_eq_false hr
    rw [if_neg hr] at HST; go_upto_region 5 with fail
    refine wp_region_lit ?_; refine zx 3 ?_
    refine wpList_nil ?_; go_upto_region 7 with fail
    refine wp_region_lit ?_; refine zx 2 ?_; refine wpList_nil ?_; go_wp2; go_roundw
    case rel => exact ⟨k + 1, A, by omega, by go_num, HST, B, k5, lm, r2, r3, od⟩
    case measure => simp [intOf]; omega
  ·have q1 : decide ((k : Int) < (L.length : Int)) = false := decide_eq_false (by omega)
   have q2 : decide (k < L.length) = false := decide_eq_false hkl; have HF := Lib.hid (show kP A JR = q from by rw [← HE.out, ← HA.out, List.take_of_length_le (by omega)]); go_upto_region 3 with fail
   refine wp_region_lit ?_; refine zx 1 ?_; refine wpList_nil ?_; go_upto_region 8 with fail
   refine wp_region_lit ?_; refine jG 2 ?_
   repeat (first | go_big_quiet_skip | (go_big_quiet_want; first | ((first | refine zo (t := 38) rfl _ _ _ rfl (fun w hw => uM (zbI lm w hw)) (by first | rfl | omega) ?_ | refine qB ?_ | refine qC ?_); simp only [zn]; go_big_quiet_on) | (go_big_quiet_op; go_big_quiet_on)))
   refine wpQuiet_nil ?_; refine qE (enters_of Tryz.func46 (by kernel_rfl) rfl) (c := Xr A JR q _ HF.out) (h := ?_); rintro e wn ⟨rfl, za⟩; have zf := B.size; have zg := za.size; replace B := B.trans (za.mono B.size)
   (try replace r2 := r2.below za)
   refine ⟨_, rfl, ?_⟩; simp only [zn]
   (refine zp (t := 38) rfl _ _ rfl _ rfl _ rfl r2 (by kernel_rfl) rfl (by simp [jV, kx, Value.oneCell']) (qt B (by omega) ?_); clear r2 B; intro wn r2 ze zf zg B; simp only [zn])
   refine wpList_nil ?_; first | (refine bodyPost_ret (zv (t := 38) rfl _ _ (b_r2) rfl r2 Tryz.isAgg38 (by kernel_rfl)) rfl ?_) | (go_step; refine bodyPost_ret (zv (t := 38) rfl _ _ (b_r2) rfl r2 Tryz.isAgg38 (by kernel_rfl)) rfl ?_) | (go_step; go_step; refine bodyPost_ret (zv (t := 38) rfl _ _ (b_r2) rfl r2 Tryz.isAgg38 (by kernel_rfl)) rfl ?_) | (go_step; go_step; go_step; refine bodyPost_ret (zv (t := 38) rfl _ _ (b_r2) rfl r2 Tryz.isAgg38 (by kernel_rfl)) rfl ?_) | (go_step; go_step; go_step; go_step; refine bodyPost_ret (zv (t := 38) rfl _ _ (b_r2) rfl r2 Tryz.isAgg38 (by kernel_rfl)) rfl ?_) | (go_step; go_step; go_step; go_step; go_step; refine bodyPost_ret (zv (t := 38) rfl _ _ (b_r2) rfl r2 Tryz.isAgg38 (by kernel_rfl)) rfl ?_)
   exact ⟨rfl, B⟩
/- Contracts of the reference's Dabs, Area. -/
theorem Yu (w : World) (o : Oper) (ho : o.op = .buildSlice 26 0 #[]) (ev : Operand → Value) : (execOp ev o).run Tryz.prog w = .ok (.value (.slice (some ⟨w.heap.size, 0, none⟩) 0 0)) (w.alloc (.cells #[] 43)) := by
 obtain ⟨d, p, t, ps, af, gd⟩ := o
 simp only at ho
 subst ho
 kernel_rfl
/-- A slice of nothing, in memory of the call's own. -/
theorem y6 {ops : Array Oper} {rest : List Oper} {o : Oper} {a : Act} {w : World} {Q : Exit → Act → World → Prop} (hg : o.guard = none) (ho : o.op = .buildSlice 26 0 #[])
  (h : ∀ b w', w.heap.size ≤ b → b ≤ w.heap.size → zW qD b (.slice (some ⟨b, 0, none⟩) 0 0) [] w' → Below b w w' → w'.heap.size = b + 1 → wpList Tryz.prog ops Q rest (a.put o.dst (.slice (some ⟨b, 0, none⟩) 0 0)) w') : wpList Tryz.prog ops Q (o :: rest) a w :=
 wpList_plain hg fun K hK => by
  unfold Oper.wp; rw [Yu w o ho]; exact hK _ _ (h _ _ (Nat.le_refl _) (Nat.le_refl _) ⟨rfl, .inr ⟨w.heap.size, 0, #[], rfl, Nat.le_refl _, by rw [zI, if_pos rfl], Nat.le_refl _, by unfold maxLen; omega, rfl, rfl⟩⟩ ((Below.refl _ _).alloc (Nat.le_refl _) _) (World.size_alloc _ _))
theorem Yt (w : World) (o : Oper) (ho : o.op = .buildSlice 35 0 #[]) (ev : Operand → Value) : (execOp ev o).run Tryz.prog w = .ok (.value (.slice (some ⟨w.heap.size, 0, none⟩) 0 0)) (w.alloc (.cells #[] 45)) := by
 obtain ⟨d, p, t, ps, af, gd⟩ := o
 simp only at ho
 subst ho
 kernel_rfl
def zgD (s : qv) (k : Nat) : List Db := (List.range k).map (jK s)
end Go.Proofs.YtepelndbbhdofaaGreatDoor
