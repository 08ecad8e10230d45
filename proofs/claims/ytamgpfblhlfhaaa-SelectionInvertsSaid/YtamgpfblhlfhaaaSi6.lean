/- SelectionInverts: for all rasters and rectangles, Inverse returns what the reference returns; the law returns true for every input, and its arguments read as they did. No condition. -/
import Derived.Test.YtamgpfblhlfhaaaSi5

/- The reference's Inverse. -/
namespace Go.Proofs.Ytamgpfblhlfhaaa
open Go.RowKit Go.Shelf Pl
set_option linter.unusedVariables false
set_option linter.unusedSimpArgs false
set_option maxRecDepth 20000
def setsI (r : Rc) (ls : List TA) (k : Nat) : List TA := setsK r (invF ls) (fun x y => decide (0 < 255 - (getL ls x y).a)) k
def invS (r : Rc) (ls : List TA) : List TA := if fitsE r = 0 then setsI r ls (areaN r) else []
/-- Both ways of inverting give the same raster. -/
theorem inv_same (r : Rc) {ls : List TA} (tk : TokL ls) (hA : fitsE r = 0 → tlN r ≤ 1000) : eqL (invR r ls) (invS r ls) = true := by
 unfold invR invS
 split
 ·rename_i hE
  refine paint_sets hE (hA hE) _ _ _ fun x y h => ?_
  obtain ⟨_, _, _, h1, h2⟩ := getL_okL tk x y
  by_cases hz : 0 < 255 - (getL ls x y).a
  ·rw [if_pos (decide_eq_true hz)]
  ·rw [if_neg (by simpa using hz)]
   unfold cleanP invF
   simp only
   rw [if_pos (by omega)]
 ·rfl
theorem R_ofV (v : Value) (ls : List TA) (w : World) (h : RS v ls w) (tk : TokL ls) (hn : ls.length ≤ maxLen) (hv : validL ls = true) : Calls Try.prog 53 #[.agg #[v]] w fun e w' => e = .returned (.agg #[v]) ∧ Below w.heap.size w w' := by
 obtain ⟨a, c, rfl, _⟩ := h.len
 have := R_Of0 a c ls w h tk hn
 rw [if_pos hv] at this
 exact this
theorem R_SetI (v : Value) (ls : List TA) (x y A : Int) (w : World) (h : RS v ls w) (tk : TokL ls) (hn : ls.length ≤ maxLen) (hx : (Lit.int .i64 x).wf = true) (hy : (Lit.int .i64 y).wf = true) (hA : 0 ≤ A ∧ A ≤ 255) (L : List TA) (e1 : setR ls x y ⟨0, 0, 0, A⟩ = L) (e2 : setE ls x y ⟨0, 0, 0, A⟩ = 0) : Calls Try.prog 49 #[.agg #[v], .int .i64 x, .int .i64 y, .agg #[.int .u8 0, .int .u8 0, .int .u8 0, .int .u8 A]] w fun e w' => ∃ a c, e = .returned (.agg #[.slice a L.length c, .int .i64 0]) ∧ RS (.slice a L.length c) L w' ∧ Below w.heap.size w w' :=
 (R_SetR v ls x y ⟨0, 0, 0, A⟩ w h tk hn hx hy ⟨by simp, by simp, by simp, hA⟩).mono fun e w' ⟨v', he, hr, hb⟩ => by
  rw [e1] at hr
  rw [e2] at he
  obtain ⟨a, c, rfl, _⟩ := hr.len
  exact ⟨a, c, he, hr, hb⟩
set_option maxHeartbeats 2000000 in
theorem R_ValueO (v : Value) (ls : List TA) (x y pr pg pb pa : Int) (w : World) (rs : RS v ls w) (tk : TokL ls) (hn : ls.length ≤ maxLen) (hx : (Lit.int .i64 x).wf = true) (hy : (Lit.int .i64 y).wf = true) (e : getL ls x y = ⟨pr, pg, pb, pa⟩) : Calls Try.prog 65 #[.agg #[v], .int .i64 x, .int .i64 y] w fun e w' => e = .returned (.int .i64 pa) ∧ Below w.heap.size w w' := by
 have B := Below.refl w.heap.size w
 have hok := getL_okL tk x y
 rw [e] at hok
 obtain ⟨_, _, _, h1, h2⟩ := hok
 simp only at h1 h2
 have HE := Lib.hid e
 clear e
 obtain ⟨a, c, rfl, hc⟩ := rs.len
 go_enter Try.func65, Try.ntmps65
 go_upto_region 0 with fail
 refine wp_region_lit ?_
 try simp only [gelS]
 (refine wpList_boxB (t := 36) rfl _ rfl _ rfl ?_; intro b_b3 wn hle hge ht hbn hzn; have hsz := B.size; replace B := B.trans (hbn.mono (by omega)); have hln := Nat.lt_of_lt_of_eq (Nat.lt_succ_self _) hzn.symm; clear hzn; (try have hlt := rs.lt); (try replace rs := rs.below (hbn.mono hle)); have b3 := ht; clear ht; simp only [putS])
 refine wpList_chunk 1 (by kernel_rfl) ?_
 simp only [takS, Nat.reduceAdd]
 repeat (first | go_big_quiet_skip | (go_big_quiet_want; go_big_quiet_op; go_big_quiet_on))
 refine wpQuiet_nil ?_
 refine wpList_nil ?_
 go_upto_region 1 with fail
 refine wp_region_lit ?_
 try simp only [gelS]
 refine wpList_chunk 3 (by kernel_rfl) ?_
 simp only [takS, Nat.reduceAdd]
 repeat (first | go_big_quiet_skip | (go_big_quiet_want; first | (refine quiet_loadAny (t := 36) rfl _ _ _ rfl (fun w hw => run_load_B (ov_B b3 w hw) Try.isAgg36 (by kernel_rfl)) (by rfl) ?_; simp only [putS]; go_big_quiet_on) | (go_big_quiet_op; go_big_quiet_on)))
 refine wpQuiet_nil ?_
 refine wpList_callF (by first | rfl | simp [Region.wanted, yielded]) rfl (enters_of Try.func104 (by kernel_rfl) rfl) (by simp only [Act.eval, evlS]; rfl) ?_
 refine (R_GetO _ ls x y pr pg pb pa _ rs hn hx hy HE.out).mono ?_
 rintro e wn ⟨rfl, hbn⟩
 have hsz := B.size
 have hzn := hbn.size
 replace B := B.trans (hbn.mono B.size)
 refine ⟨_, rfl, ?_⟩
 simp only [putS]
 refine wpList_chunk 3 (by kernel_rfl) ?_
 simp only [takS, Nat.reduceAdd]
 repeat (first | go_big_quiet_skip | (go_big_quiet_want; go_big_quiet_op; go_big_quiet_on))
 refine wpQuiet_nil ?_
 refine wpList_nil ?_
 go_wp2
 go_ret
 exact ⟨rfl, B⟩
theorem run_alloc_G15 (w : World) (o : Oper) (ho : o.op = .alloc 52) (ev : Operand → Value) : (execOp ev o).run Try.prog w = .ok (.value (.pointer (some ⟨w.heap.size, 0, none⟩))) (w.alloc (.cells #[.slice none 0 0, .int .i64 0] 52)) := by
 obtain ⟨d, p, t, ps, af, gd⟩ := o
 simp only at ho
 subst ho
 kernel_rfl
set_option maxHeartbeats 8000000 in
theorem R_Inverse (v : Value) (ls : List TA) (r : Rc) (w : World) (rs : RS v ls w) (tk : TokL ls) (hn : ls.length ≤ maxLen) (hv : validL ls = true) (hA : fitsE r = 0 → tlN r ≤ 1000) : Calls Try.prog 25 #[.agg #[v], .agg (rcA r)] w fun e w' => ∃ a cp, e = .returned (.agg #[.slice a (invS r ls).length cp, .int .i64 (fitsE r)]) ∧ RS (.slice a (invS r ls).length cp) (invS r ls) w' ∧ Below w.heap.size w w' := by
 have B := Below.refl w.heap.size w
 obtain ⟨a, c, rfl, hc⟩ := rs.len
 rcases fits_cases r with ⟨h1, h2⟩ | ⟨h1, h2, h3⟩ | ⟨h1, h2, h3⟩
 ·have e1 : invS r ls = [] := by unfold invS; rw [if_neg (by omega)]
  rw [e1, h2]
  have H1 := Lib.hid h1
  clear h1 h2 hA e1
  go_enter Try.func25, Try.ntmps25
  go_upto_region 0 with fail
  refine wp_region_lit ?_
  try simp only [gelS]
  (refine wpList_boxB (t := 36) rfl _ rfl _ rfl ?_; intro b_b2 wn hle hge ht hbn hzn; have hsz := B.size; replace B := B.trans (hbn.mono (by omega)); have hln := Nat.lt_of_lt_of_eq (Nat.lt_succ_self _) hzn.symm; clear hzn; (try have hlt := rs.lt); (try replace rs := rs.below (hbn.mono hle)); have b2 := ht; clear ht; simp only [putS])
  (refine wpList_boxB (t := 31) rfl _ rfl _ rfl ?_; intro b_b3 wn hle hge ht hbn hzn; have hsz := B.size; replace B := B.trans (hbn.mono (by omega)); have hln := Nat.lt_of_lt_of_eq (Nat.lt_succ_self _) hzn.symm; clear hzn; (try have hlt := b2.lt); (try replace b2 := b2.below (hbn.mono hle)); (try have hlt := rs.lt); (try replace rs := rs.below (hbn.mono hle)); have b3 := ht; clear ht; simp only [putS])
  (refine wpList_allocBk (t := 52) rfl _ (run_alloc_G15 _ _ rfl) ?_; intro b_r4 wn hle hge ht hbn hzn; have hsz := B.size; replace B := B.trans (hbn.mono (by omega)); have hln := Nat.lt_of_lt_of_eq (Nat.lt_succ_self _) hzn.symm; clear hzn; (try have hlt := b2.lt); (try replace b2 := b2.below (hbn.mono hle)); (try have hlt := b3.lt); (try replace b3 := b3.below (hbn.mono hle)); (try have hlt := rs.lt); (try replace rs := rs.below (hbn.mono hle)); have r4 := ht; clear ht; simp only [putS])
  refine wpList_nil ?_
  have k2 : b_b2 < b_b3 := by have := b2.lt; omega
  have k3 : b_b3 < b_r4 := by have := b3.lt; omega
  go_upto_region 1 with fail
  refine wp_region_lit ?_
  try simp only [gelS]
  refine wpList_chunk 1 (by kernel_rfl) ?_
  simp only [takS, Nat.reduceAdd]
  repeat (first | go_big_quiet_skip | (go_big_quiet_want; first | (refine quiet_loadAny (t := 31) rfl _ _ _ rfl (fun w hw => run_load_B (ov_B b3 w hw) Try.isAgg31 (by kernel_rfl)) (by rfl) ?_; simp only [putS]; go_big_quiet_on) | (go_big_quiet_op; go_big_quiet_on)))
  refine wpQuiet_nil ?_
  refine wpList_callF (by first | rfl | simp [Region.wanted, yielded]) rfl (enters_of Try.func27 (by kernel_rfl) rfl) (by simp only [Act.eval, evlS]; rfl) ?_
  refine (R_ValidRB2 r false _ H1.out).mono ?_
  rintro e wn ⟨rfl, hbn⟩
  have hsz := B.size
  have hzn := hbn.size
  replace B := B.trans (hbn.mono B.size)
  (try replace b2 := b2.below hbn)
  (try replace b3 := b3.below hbn)
  (try replace r4 := r4.below hbn)
  (try replace rs := rs.below hbn)
  refine ⟨_, rfl, ?_⟩
  simp only [putS]
  refine wpList_chunk 1 (by kernel_rfl) ?_
  simp only [takS, Nat.reduceAdd]
  repeat (first | go_big_quiet_skip | (go_big_quiet_want; go_big_quiet_op; go_big_quiet_on))
  refine wpQuiet_nil ?_
  refine wpList_nil ?_
  go_upto_region 2 with fail
  refine wp_region_lit ?_
  try simp only [gelS]
  refine wpList_chunk 2 (by kernel_rfl) ?_
  simp only [takS, Nat.reduceAdd]
  repeat (first | go_big_quiet_skip | (go_big_quiet_want; go_big_quiet_op; go_big_quiet_on))
  refine wpQuiet_nil ?_
  refine wpList_nil ?_
  go_upto_region 3 with fail
  refine wp_region_lit ?_
  try simp only [gelS]
  refine wpList_chunk 1 (by kernel_rfl) ?_
  simp only [takS, Nat.reduceAdd]
  repeat (first | go_big_quiet_skip | (go_big_quiet_want; go_big_quiet_op; go_big_quiet_on))
  refine wpQuiet_nil ?_
  (refine wpList_storeB (t := 52) rfl _ _ rfl _ rfl _ rfl r4 (by kernel_rfl) rfl (by simp [Value.oneCell']) ?_; have r4o := r4; clear r4; intro wn ht hcn hzn; (try replace rs := rs.chg r4o (by simp [rcA]) hcn); have hsz := B.size; replace hzn := Nat.le_of_eq hzn.symm; replace B := Chg.below B hcn (by omega) B.size; (try replace b2 := b2.of_eq (hcn.block _ b2.lt (by omega))); (try replace b3 := b3.of_eq (hcn.block _ b3.lt (by omega))); (try replace rs := rs.of_eq (hcn.block _ rs.lt (by omega))); have r4 := ht; clear ht; simp only [putS])
  refine wpList_nil ?_
  first | (refine bodyPost_ret (results_B (t := 52) rfl _ _ (b_r4) rfl r4 Try.isAgg52 (by kernel_rfl)) rfl ?_) | (go_step; refine bodyPost_ret (results_B (t := 52) rfl _ _ (b_r4) rfl r4 Try.isAgg52 (by kernel_rfl)) rfl ?_) | (go_step; go_step; refine bodyPost_ret (results_B (t := 52) rfl _ _ (b_r4) rfl r4 Try.isAgg52 (by kernel_rfl)) rfl ?_) | (go_step; go_step; go_step; refine bodyPost_ret (results_B (t := 52) rfl _ _ (b_r4) rfl r4 Try.isAgg52 (by kernel_rfl)) rfl ?_) | (go_step; go_step; go_step; go_step; refine bodyPost_ret (results_B (t := 52) rfl _ _ (b_r4) rfl r4 Try.isAgg52 (by kernel_rfl)) rfl ?_) | (go_step; go_step; go_step; go_step; go_step; refine bodyPost_ret (results_B (t := 52) rfl _ _ (b_r4) rfl r4 Try.isAgg52 (by kernel_rfl)) rfl ?_)
  exact ⟨none, 0, rfl, RS.nil _, B⟩
 ·have e1 : invS r ls = [] := by unfold invS; rw [if_neg (by omega)]
  rw [e1, h3]
  obtain ⟨hb1, hb2, hb3, hb4, hb5, hb6, hb7, hb8⟩ := valid_100 h1
  have H1 := Lib.hid h1
  have HL := Lib.hid h2
  clear h1 h2 h3 hA e1
  go_enter Try.func25, Try.ntmps25
  go_upto_region 0 with fail
  refine wp_region_lit ?_
  try simp only [gelS]
  (refine wpList_boxB (t := 36) rfl _ rfl _ rfl ?_; intro b_b2 wn hle hge ht hbn hzn; have hsz := B.size; replace B := B.trans (hbn.mono (by omega)); have hln := Nat.lt_of_lt_of_eq (Nat.lt_succ_self _) hzn.symm; clear hzn; (try have hlt := b2.lt); (try replace b2 := b2.below (hbn.mono hle)); (try have hlt := b3.lt); (try replace b3 := b3.below (hbn.mono hle)); (try have hlt := r4.lt); (try replace r4 := r4.below (hbn.mono hle)); (try have hlt := rs.lt); (try replace rs := rs.below (hbn.mono hle)); have b2 := ht; clear ht; simp only [putS])
  (refine wpList_boxB (t := 31) rfl _ rfl _ rfl ?_; intro b_b3 wn hle hge ht hbn hzn; have hsz := B.size; replace B := B.trans (hbn.mono (by omega)); have hln := Nat.lt_of_lt_of_eq (Nat.lt_succ_self _) hzn.symm; clear hzn; (try have hlt := b2.lt); (try replace b2 := b2.below (hbn.mono hle)); (try have hlt := b3.lt); (try replace b3 := b3.below (hbn.mono hle)); (try have hlt := r4.lt); (try replace r4 := r4.below (hbn.mono hle)); (try have hlt := rs.lt); (try replace rs := rs.below (hbn.mono hle)); have b3 := ht; clear ht; simp only [putS])
  (refine wpList_allocBk (t := 52) rfl _ (run_alloc_G15 _ _ rfl) ?_; intro b_r4 wn hle hge ht hbn hzn; have hsz := B.size; replace B := B.trans (hbn.mono (by omega)); have hln := Nat.lt_of_lt_of_eq (Nat.lt_succ_self _) hzn.symm; clear hzn; (try have hlt := b2.lt); (try replace b2 := b2.below (hbn.mono hle)); (try have hlt := b3.lt); (try replace b3 := b3.below (hbn.mono hle)); (try have hlt := r4.lt); (try replace r4 := r4.below (hbn.mono hle)); (try have hlt := rs.lt); (try replace rs := rs.below (hbn.mono hle)); have r4 := ht; clear ht; simp only [putS])
  refine wpList_nil ?_
  have k2 : b_b2 < b_b3 := by have := b2.lt; omega
  have k3 : b_b3 < b_r4 := by have := b3.lt; omega
  go_upto_region 1 with fail
  refine wp_region_lit ?_
  try simp only [gelS]
  refine wpList_chunk 1 (by kernel_rfl) ?_
  simp only [takS, Nat.reduceAdd]
  repeat (first | go_big_quiet_skip | (go_big_quiet_want; first | (refine quiet_loadAny (t := 31) rfl _ _ _ rfl (fun w hw => run_load_B (ov_B b3 w hw) Try.isAgg31 (by kernel_rfl)) (by rfl) ?_; simp only [putS]; go_big_quiet_on) | (go_big_quiet_op; go_big_quiet_on)))
  refine wpQuiet_nil ?_
  refine wpList_callF (by first | rfl | simp [Region.wanted, yielded]) rfl (enters_of Try.func27 (by kernel_rfl) rfl) (by simp only [Act.eval, evlS]; rfl) ?_
  refine (R_ValidRB2 r true _ H1.out).mono ?_
  rintro e wn ⟨rfl, hbn⟩
  have hsz := B.size
  have hzn := hbn.size
  replace B := B.trans (hbn.mono B.size)
  (try replace b2 := b2.below hbn)
  (try replace b3 := b3.below hbn)
  (try replace r4 := r4.below hbn)
  (try replace rs := rs.below hbn)
  refine ⟨_, rfl, ?_⟩
  simp only [putS]
  refine wpList_chunk 1 (by kernel_rfl) ?_
  simp only [takS, Nat.reduceAdd]
  repeat (first | go_big_quiet_skip | (go_big_quiet_want; go_big_quiet_op; go_big_quiet_on))
  refine wpQuiet_nil ?_
  refine wpList_nil ?_
  go_upto_region 2 with fail
  refine wp_region_lit ?_
  try simp only [gelS]
  refine wpList_chunk 2 (by kernel_rfl) ?_
  simp only [takS, Nat.reduceAdd]
  repeat (first | go_big_quiet_skip | (go_big_quiet_want; go_big_quiet_op; go_big_quiet_on))
  refine wpQuiet_nil ?_
  refine wpList_nil ?_
  by_cases g1 : 256 < r.x1 - r.x0
  ·have q1 : decide (256 < r.x1 - r.x0) = true := decide_eq_true g1
   go_upto_region 4 with fail
   refine wp_region_lit ?_
   try simp only [gelS]
   refine wpList_chunk 14 (by kernel_rfl) ?_
   simp only [takS, Nat.reduceAdd]
   repeat (first | go_big_quiet_skip | (go_big_quiet_want; first | (refine quiet_loadAny (t := 3) rfl _ _ _ rfl (fun w hw => run_load_int ((ov_B b3 w hw).cellL 0 rfl)) (by rfl) ?_; simp only [putS]; go_big_quiet_on) | (refine quiet_loadAny (t := 3) rfl _ _ _ rfl (fun w hw => run_load_int ((ov_B b3 w hw).cellL 1 rfl)) (by rfl) ?_; simp only [putS]; go_big_quiet_on) | (refine quiet_loadAny (t := 3) rfl _ _ _ rfl (fun w hw => run_load_int ((ov_B b3 w hw).cellL 2 rfl)) (by rfl) ?_; simp only [putS]; go_big_quiet_on) | (refine quiet_loadAny (t := 3) rfl _ _ _ rfl (fun w hw => run_load_int ((ov_B b3 w hw).cellL 3 rfl)) (by rfl) ?_; simp only [putS]; go_big_quiet_on) | (go_big_quiet_op; go_big_quiet_on)))
   refine wpQuiet_nil ?_
   refine wpList_nil ?_
   go_upto_region 5 with fail
   refine wp_region_lit ?_
   try simp only [gelS]
   refine wpList_chunk 1 (by kernel_rfl) ?_
   simp only [takS, Nat.reduceAdd]
   repeat (first | go_big_quiet_skip | (go_big_quiet_want; go_big_quiet_op; go_big_quiet_on))
   refine wpQuiet_nil ?_
   (refine wpList_storeB (t := 52) rfl _ _ rfl _ rfl _ rfl r4 (by kernel_rfl) rfl (by simp [Value.oneCell']) ?_; have r4o := r4; clear r4; intro wn ht hcn hzn; (try replace rs := rs.chg r4o (by simp [rcA]) hcn); have hsz := B.size; replace hzn := Nat.le_of_eq hzn.symm; replace B := Chg.below B hcn (by omega) B.size; (try replace b2 := b2.of_eq (hcn.block _ b2.lt (by omega))); (try replace b3 := b3.of_eq (hcn.block _ b3.lt (by omega))); (try replace rs := rs.of_eq (hcn.block _ rs.lt (by omega))); have r4 := ht; clear ht; simp only [putS])
   refine wpList_nil ?_
   first | (refine bodyPost_ret (results_B (t := 52) rfl _ _ (b_r4) rfl r4 Try.isAgg52 (by kernel_rfl)) rfl ?_) | (go_step; refine bodyPost_ret (results_B (t := 52) rfl _ _ (b_r4) rfl r4 Try.isAgg52 (by kernel_rfl)) rfl ?_) | (go_step; go_step; refine bodyPost_ret (results_B (t := 52) rfl _ _ (b_r4) rfl r4 Try.isAgg52 (by kernel_rfl)) rfl ?_) | (go_step; go_step; go_step; refine bodyPost_ret (results_B (t := 52) rfl _ _ (b_r4) rfl r4 Try.isAgg52 (by kernel_rfl)) rfl ?_) | (go_step; go_step; go_step; go_step; refine bodyPost_ret (results_B (t := 52) rfl _ _ (b_r4) rfl r4 Try.isAgg52 (by kernel_rfl)) rfl ?_) | (go_step; go_step; go_step; go_step; go_step; refine bodyPost_ret (results_B (t := 52) rfl _ _ (b_r4) rfl r4 Try.isAgg52 (by kernel_rfl)) rfl ?_)
   exact ⟨none, 0, rfl, RS.nil _, B⟩
  ·have q1 : decide (256 < r.x1 - r.x0) = false := decide_eq_false g1
   have q2 : decide (256 < r.y1 - r.y0) = true := by
    have := HL.out
    unfold largeR at this
    rw [q1, Bool.false_or] at this
    exact this
   go_upto_region 4 with fail
   refine wp_region_lit ?_
   try simp only [gelS]
   refine wpList_chunk 14 (by kernel_rfl) ?_
   simp only [takS, Nat.reduceAdd]
   repeat (first | go_big_quiet_skip | (go_big_quiet_want; first | (refine quiet_loadAny (t := 3) rfl _ _ _ rfl (fun w hw => run_load_int ((ov_B b3 w hw).cellL 0 rfl)) (by rfl) ?_; simp only [putS]; go_big_quiet_on) | (refine quiet_loadAny (t := 3) rfl _ _ _ rfl (fun w hw => run_load_int ((ov_B b3 w hw).cellL 1 rfl)) (by rfl) ?_; simp only [putS]; go_big_quiet_on) | (refine quiet_loadAny (t := 3) rfl _ _ _ rfl (fun w hw => run_load_int ((ov_B b3 w hw).cellL 2 rfl)) (by rfl) ?_; simp only [putS]; go_big_quiet_on) | (refine quiet_loadAny (t := 3) rfl _ _ _ rfl (fun w hw => run_load_int ((ov_B b3 w hw).cellL 3 rfl)) (by rfl) ?_; simp only [putS]; go_big_quiet_on) | (go_big_quiet_op; go_big_quiet_on)))
   refine wpQuiet_nil ?_
   refine wpList_nil ?_
   go_upto_region 5 with fail
   refine wp_region_lit ?_
   try simp only [gelS]
   refine wpList_chunk 1 (by kernel_rfl) ?_
   simp only [takS, Nat.reduceAdd]
   repeat (first | go_big_quiet_skip | (go_big_quiet_want; go_big_quiet_op; go_big_quiet_on))
   refine wpQuiet_nil ?_
   (refine wpList_storeB (t := 52) rfl _ _ rfl _ rfl _ rfl r4 (by kernel_rfl) rfl (by simp [Value.oneCell']) ?_; have r4o := r4; clear r4; intro wn ht hcn hzn; (try replace rs := rs.chg r4o (by simp [rcA]) hcn); have hsz := B.size; replace hzn := Nat.le_of_eq hzn.symm; replace B := Chg.below B hcn (by omega) B.size; (try replace b2 := b2.of_eq (hcn.block _ b2.lt (by omega))); (try replace b3 := b3.of_eq (hcn.block _ b3.lt (by omega))); (try replace rs := rs.of_eq (hcn.block _ rs.lt (by omega))); have r4 := ht; clear ht; simp only [putS])
   refine wpList_nil ?_
   first | (refine bodyPost_ret (results_B (t := 52) rfl _ _ (b_r4) rfl r4 Try.isAgg52 (by kernel_rfl)) rfl ?_) | (go_step; refine bodyPost_ret (results_B (t := 52) rfl _ _ (b_r4) rfl r4 Try.isAgg52 (by kernel_rfl)) rfl ?_) | (go_step; go_step; refine bodyPost_ret (results_B (t := 52) rfl _ _ (b_r4) rfl r4 Try.isAgg52 (by kernel_rfl)) rfl ?_) | (go_step; go_step; go_step; refine bodyPost_ret (results_B (t := 52) rfl _ _ (b_r4) rfl r4 Try.isAgg52 (by kernel_rfl)) rfl ?_) | (go_step; go_step; go_step; go_step; refine bodyPost_ret (results_B (t := 52) rfl _ _ (b_r4) rfl r4 Try.isAgg52 (by kernel_rfl)) rfl ?_) | (go_step; go_step; go_step; go_step; go_step; refine bodyPost_ret (results_B (t := 52) rfl _ _ (b_r4) rfl r4 Try.isAgg52 (by kernel_rfl)) rfl ?_)
   exact ⟨none, 0, rfl, RS.nil _, B⟩
 ·have hA := hA h3
  have e1 : invS r ls = setsI r ls (areaN r) := by unfold invS; rw [if_pos h3]
  rw [e1, h3]
  obtain ⟨hb1, hb2, hb3, hb4, hb5, hb6, hb7, hb8⟩ := valid_100 h1
  have HFit := Lib.hid (fitsE_zero h3)
  obtain ⟨f1, f2, f3, f4, f5, f6, f7, f8⟩ := fitsE_zero h3
  have H1 := Lib.hid h1
  have HA := Lib.hid hA
  have HAW := Lib.hid (area_wid (fitsE_zero h3)).1
  have HAN := Lib.hid (area_bd (fitsE_zero h3))
  have TK := Lib.hid tk
  have HSP := Lib.hid (show ∀ k, k ≤ areaN r → validL (setsI r ls k) = true ∧ (setsI r ls k).length ≤ 1000 from fun k hk => ⟨(setsK_spec (fitsE_zero h3) hA _ _ k hk).1, (setsK_spec (fitsE_zero h3) hA _ _ k hk).2.1⟩)
  have HTK := Lib.hid (show ∀ k, TokL (setsI r ls k) from fun k => by
   induction k with
   | zero => exact TokL.nil
   | succ k ih =>
    show TokL (if _ then _ else _)
    split
    ·exact setR_tok ih (invF_ok tk _ _)
    ·exact ih)
  have hwid : (widN r : Int) = r.x1 - r.x0 := by unfold widN; omega
  have q1 : decide (256 < r.x1 - r.x0) = false := decide_eq_false (by omega)
  have q2 : decide (256 < r.y1 - r.y0) = false := decide_eq_false (by omega)
  obtain ⟨Wd, hWd⟩ : ∃ W, widN r = W := ⟨_, rfl⟩
  rw [hWd] at hwid
  have HWD := Lib.hid hWd
  clear h1 h2 h3 hA e1 tk hWd
  go_enter Try.func25, Try.ntmps25
  go_upto_region 0 with fail
  refine wp_region_lit ?_
  try simp only [gelS]
  (refine wpList_boxB (t := 36) rfl _ rfl _ rfl ?_; intro b_b2 wn hle hge ht hbn hzn; have hsz := B.size; replace B := B.trans (hbn.mono (by omega)); have hln := Nat.lt_of_lt_of_eq (Nat.lt_succ_self _) hzn.symm; clear hzn; (try have hlt := b2.lt); (try replace b2 := b2.below (hbn.mono hle)); (try have hlt := b3.lt); (try replace b3 := b3.below (hbn.mono hle)); (try have hlt := r4.lt); (try replace r4 := r4.below (hbn.mono hle)); (try have hlt := rs.lt); (try replace rs := rs.below (hbn.mono hle)); have b2 := ht; clear ht; simp only [putS])
  (refine wpList_boxB (t := 31) rfl _ rfl _ rfl ?_; intro b_b3 wn hle hge ht hbn hzn; have hsz := B.size; replace B := B.trans (hbn.mono (by omega)); have hln := Nat.lt_of_lt_of_eq (Nat.lt_succ_self _) hzn.symm; clear hzn; (try have hlt := b2.lt); (try replace b2 := b2.below (hbn.mono hle)); (try have hlt := b3.lt); (try replace b3 := b3.below (hbn.mono hle)); (try have hlt := r4.lt); (try replace r4 := r4.below (hbn.mono hle)); (try have hlt := rs.lt); (try replace rs := rs.below (hbn.mono hle)); have b3 := ht; clear ht; simp only [putS])
  (refine wpList_allocBk (t := 52) rfl _ (run_alloc_G15 _ _ rfl) ?_; intro b_r4 wn hle hge ht hbn hzn; have hsz := B.size; replace B := B.trans (hbn.mono (by omega)); have hln := Nat.lt_of_lt_of_eq (Nat.lt_succ_self _) hzn.symm; clear hzn; (try have hlt := b2.lt); (try replace b2 := b2.below (hbn.mono hle)); (try have hlt := b3.lt); (try replace b3 := b3.below (hbn.mono hle)); (try have hlt := r4.lt); (try replace r4 := r4.below (hbn.mono hle)); (try have hlt := rs.lt); (try replace rs := rs.below (hbn.mono hle)); have r4 := ht; clear ht; simp only [putS])
  refine wpList_nil ?_
  have k2 : b_b2 < b_b3 := by have := b2.lt; omega
  have k3 : b_b3 < b_r4 := by have := b3.lt; omega
  go_upto_region 1 with fail
  refine wp_region_lit ?_
  try simp only [gelS]
  refine wpList_chunk 1 (by kernel_rfl) ?_
  simp only [takS, Nat.reduceAdd]
  repeat (first | go_big_quiet_skip | (go_big_quiet_want; first | (refine quiet_loadAny (t := 31) rfl _ _ _ rfl (fun w hw => run_load_B (ov_B b3 w hw) Try.isAgg31 (by kernel_rfl)) (by rfl) ?_; simp only [putS]; go_big_quiet_on) | (go_big_quiet_op; go_big_quiet_on)))
  refine wpQuiet_nil ?_
  refine wpList_callF (by first | rfl | simp [Region.wanted, yielded]) rfl (enters_of Try.func27 (by kernel_rfl) rfl) (by simp only [Act.eval, evlS]; rfl) ?_
  refine (R_ValidRB2 r true _ H1.out).mono ?_
  rintro e wn ⟨rfl, hbn⟩
  have hsz := B.size
  have hzn := hbn.size
  replace B := B.trans (hbn.mono B.size)
  (try replace b2 := b2.below hbn)
  (try replace b3 := b3.below hbn)
  (try replace r4 := r4.below hbn)
  (try replace rs := rs.below hbn)
  refine ⟨_, rfl, ?_⟩
  simp only [putS]
  refine wpList_chunk 1 (by kernel_rfl) ?_
  simp only [takS, Nat.reduceAdd]
  repeat (first | go_big_quiet_skip | (go_big_quiet_want; go_big_quiet_op; go_big_quiet_on))
  refine wpQuiet_nil ?_
  refine wpList_nil ?_
  go_upto_region 2 with fail
  refine wp_region_lit ?_
  try simp only [gelS]
  refine wpList_chunk 2 (by kernel_rfl) ?_
  simp only [takS, Nat.reduceAdd]
  repeat (first | go_big_quiet_skip | (go_big_quiet_want; go_big_quiet_op; go_big_quiet_on))
  refine wpQuiet_nil ?_
  refine wpList_nil ?_
  go_upto_region 4 with fail
  refine wp_region_lit ?_
  try simp only [gelS]
  refine wpList_chunk 14 (by kernel_rfl) ?_
  simp only [takS, Nat.reduceAdd]
  repeat (first | go_big_quiet_skip | (go_big_quiet_want; first | (refine quiet_loadAny (t := 3) rfl _ _ _ rfl (fun w hw => run_load_int ((ov_B b3 w hw).cellL 0 rfl)) (by rfl) ?_; simp only [putS]; go_big_quiet_on) | (refine quiet_loadAny (t := 3) rfl _ _ _ rfl (fun w hw => run_load_int ((ov_B b3 w hw).cellL 1 rfl)) (by rfl) ?_; simp only [putS]; go_big_quiet_on) | (refine quiet_loadAny (t := 3) rfl _ _ _ rfl (fun w hw => run_load_int ((ov_B b3 w hw).cellL 2 rfl)) (by rfl) ?_; simp only [putS]; go_big_quiet_on) | (refine quiet_loadAny (t := 3) rfl _ _ _ rfl (fun w hw => run_load_int ((ov_B b3 w hw).cellL 3 rfl)) (by rfl) ?_; simp only [putS]; go_big_quiet_on) | (go_big_quiet_op; go_big_quiet_on)))
  refine wpQuiet_nil ?_
  refine wpList_nil ?_
  go_upto_region 6 with fail
  refine wp_region_lit ?_
  try simp only [gelS]
  refine wpList_chunk 1 (by kernel_rfl) ?_
  simp only [takS, Nat.reduceAdd]
  repeat (first | go_big_quiet_skip | (go_big_quiet_want; first | (refine quiet_loadAny (t := 36) rfl _ _ _ rfl (fun w hw => run_load_B (ov_B b2 w hw) Try.isAgg36 (by kernel_rfl)) (by rfl) ?_; simp only [putS]; go_big_quiet_on) | (go_big_quiet_op; go_big_quiet_on)))
  refine wpQuiet_nil ?_
  refine wpList_callF (by first | rfl | simp [Region.wanted, yielded]) rfl (enters_of Try.func53 (by kernel_rfl) rfl) (by simp only [Act.eval, evlS]; rfl) ?_
  refine (R_ofV _ ls _ rs TK.out hn hv).mono ?_
  rintro e wn ⟨rfl, hbn⟩
  have hsz := B.size
  have hzn := hbn.size
  replace B := B.trans (hbn.mono B.size)
  (try replace b2 := b2.below hbn)
  (try replace b3 := b3.below hbn)
  (try replace r4 := r4.below hbn)
  (try replace rs := rs.below hbn)
  refine ⟨_, rfl, ?_⟩
  simp only [putS]
  (refine wpList_storeB (t := 36) rfl _ _ rfl _ rfl _ rfl b2 (by kernel_rfl) rfl (by simp [Value.oneCell']) ?_; have b2o := b2; clear b2; intro wn ht hcn hzn; (try replace rs := rs.chg b2o (by simp [rcA]) hcn); have hsz := B.size; replace hzn := Nat.le_of_eq hzn.symm; replace B := Chg.below B hcn (by omega) B.size; (try replace b3 := b3.of_eq (hcn.block _ b3.lt (by omega))); (try replace r4 := r4.of_eq (hcn.block _ r4.lt (by omega))); (try replace rs := rs.of_eq (hcn.block _ rs.lt (by omega))); have b2 := ht; clear ht; simp only [putS])
  refine wpList_nil ?_
  go_upto_region 7 with fail
  refine wp_region_lit ?_
  try simp only [gelS]
  (refine wpList_allocBk (t := 36) rfl _ (run_alloc_R _ _ rfl) ?_; intro b_r6 wn hle hge ht hbn hzn; have hsz := B.size; replace B := B.trans (hbn.mono (by omega)); have hln := Nat.lt_of_lt_of_eq (Nat.lt_succ_self _) hzn.symm; clear hzn; (try have hlt := b2.lt); (try replace b2 := b2.below (hbn.mono hle)); (try have hlt := b3.lt); (try replace b3 := b3.below (hbn.mono hle)); (try have hlt := r4.lt); (try replace r4 := r4.below (hbn.mono hle)); (try have hlt := rs.lt); (try replace rs := rs.below (hbn.mono hle)); have r6 := ht; clear ht; simp only [putS])
  refine wpList_nil ?_
  have k4 : b_r4 < b_r6 := by have := r4.lt; omega
  go_upto_region 8 with fail
  refine wp_region_lit ?_
  try simp only [gelS]
  refine wpList_chunk 3 (by kernel_rfl) ?_
  simp only [takS, Nat.reduceAdd]
  repeat (first | go_big_quiet_skip | (go_big_quiet_want; first | (refine quiet_loadAny (t := 3) rfl _ _ _ rfl (fun w hw => run_load_int ((ov_B b3 w hw).cellL 0 rfl)) (by rfl) ?_; simp only [putS]; go_big_quiet_on) | (refine quiet_loadAny (t := 3) rfl _ _ _ rfl (fun w hw => run_load_int ((ov_B b3 w hw).cellL 1 rfl)) (by rfl) ?_; simp only [putS]; go_big_quiet_on) | (refine quiet_loadAny (t := 3) rfl _ _ _ rfl (fun w hw => run_load_int ((ov_B b3 w hw).cellL 2 rfl)) (by rfl) ?_; simp only [putS]; go_big_quiet_on) | (refine quiet_loadAny (t := 3) rfl _ _ _ rfl (fun w hw => run_load_int ((ov_B b3 w hw).cellL 3 rfl)) (by rfl) ?_; simp only [putS]; go_big_quiet_on) | (go_big_quiet_op; go_big_quiet_on)))
  refine wpQuiet_nil ?_
  refine wpList_nil ?_
  have rs2 : RS (.slice none 0 0) [] wn := RS.nil wn
  go_wp2
  go_loopw [7, 8, 9, 10] (fun yv _ _ _ wr => ∃ (i : Nat) (M : List TA) (ao : Option Addr) (co : Nat), (i : Int) ≤ r.y1 - r.y0 ∧ yv = .int .i64 (r.y0 + (i : Int)) ∧ Hid (setsI r ls (i * Wd) = M) ∧ Below w.heap.size w wr ∧ AtB 36 wr b_b2 #[.slice a ls.length c] ∧ AtB 31 wr b_b3 (rcA r) ∧ AtB 52 wr b_r4 #[.slice none 0 0, .int .i64 0] ∧ AtB 36 wr b_r6 #[.slice ao M.length co] ∧ RS (.slice a ls.length c) ls wr ∧ RS (.slice ao M.length co) M wr) (fun yv _ _ _ _ => (r.y1 - intOf yv).toNat)
  case atStart => exact ⟨0, [], _, _, by omega, by rw [Int.natCast_zero, Int.add_zero], Lib.hid (by rw [Nat.zero_mul]; rfl), B, b2, b3, r4, r6, rs, rs2⟩
  case round =>
   clear B b2 b3 r4 r6 rs rs2
   obtain ⟨i, M, ao, co, hi, rfl, HM, B, b2, b3, r4, r6, rs, rs2⟩ := hrel
   by_cases hi1 : (i : Int) < r.y1 - r.y0
   ·have q3 : decide (r.y0 + (i : Int) < r.y1) = true := decide_eq_true (by omega)
    go_upto_region 9 with fail
    refine wp_region_lit ?_
    try simp only [gelS]
    refine wpList_chunk 4 (by kernel_rfl) ?_
    simp only [takS, Nat.reduceAdd]
    repeat (first | go_big_quiet_skip | (go_big_quiet_want; first | (refine quiet_loadAny (t := 3) rfl _ _ _ rfl (fun w hw => run_load_int ((ov_B b3 w hw).cellL 0 rfl)) (by rfl) ?_; simp only [putS]; go_big_quiet_on) | (refine quiet_loadAny (t := 3) rfl _ _ _ rfl (fun w hw => run_load_int ((ov_B b3 w hw).cellL 1 rfl)) (by rfl) ?_; simp only [putS]; go_big_quiet_on) | (refine quiet_loadAny (t := 3) rfl _ _ _ rfl (fun w hw => run_load_int ((ov_B b3 w hw).cellL 2 rfl)) (by rfl) ?_; simp only [putS]; go_big_quiet_on) | (refine quiet_loadAny (t := 3) rfl _ _ _ rfl (fun w hw => run_load_int ((ov_B b3 w hw).cellL 3 rfl)) (by rfl) ?_; simp only [putS]; go_big_quiet_on) | (go_big_quiet_op; go_big_quiet_on)))
    refine wpQuiet_nil ?_
    refine wpList_nil ?_
    go_upto_region 11 with fail
    refine wp_region_lit ?_
    try simp only [gelS]
    refine wpList_chunk 3 (by kernel_rfl) ?_
    simp only [takS, Nat.reduceAdd]
    repeat (first | go_big_quiet_skip | (go_big_quiet_want; first | (refine quiet_loadAny (t := 3) rfl _ _ _ rfl (fun w hw => run_load_int ((ov_B b3 w hw).cellL 0 rfl)) (by rfl) ?_; simp only [putS]; go_big_quiet_on) | (refine quiet_loadAny (t := 3) rfl _ _ _ rfl (fun w hw => run_load_int ((ov_B b3 w hw).cellL 1 rfl)) (by rfl) ?_; simp only [putS]; go_big_quiet_on) | (refine quiet_loadAny (t := 3) rfl _ _ _ rfl (fun w hw => run_load_int ((ov_B b3 w hw).cellL 2 rfl)) (by rfl) ?_; simp only [putS]; go_big_quiet_on) | (refine quiet_loadAny (t := 3) rfl _ _ _ rfl (fun w hw => run_load_int ((ov_B b3 w hw).cellL 3 rfl)) (by rfl) ?_; simp only [putS]; go_big_quiet_on) | (go_big_quiet_op; go_big_quiet_on)))
    refine wpQuiet_nil ?_
    refine wpList_nil ?_
    go_wp2
    go_loopw [8, 9, 10] (fun xv _ _ wr => ∃ (j : Nat) (M : List TA) (ao : Option Addr) (co : Nat), (j : Int) ≤ r.x1 - r.x0 ∧ xv = .int .i64 (r.x0 + (j : Int)) ∧ Hid (setsI r ls (i * Wd + j) = M) ∧ Below w.heap.size w wr ∧ AtB 36 wr b_b2 #[.slice a ls.length c] ∧ AtB 31 wr b_b3 (rcA r) ∧ AtB 52 wr b_r4 #[.slice none 0 0, .int .i64 0] ∧ AtB 36 wr b_r6 #[.slice ao M.length co] ∧ RS (.slice a ls.length c) ls wr ∧ RS (.slice ao M.length co) M wr) (fun xv _ _ _ => (r.x1 - intOf xv).toNat)
    case atStart => exact ⟨0, M, _, _, by omega, by rw [Int.natCast_zero, Int.add_zero], Lib.hid HM.out, B, b2, b3, r4, r6, rs, rs2⟩
    case round =>
     clear B b2 b3 r4 r6 rs rs2
     obtain ⟨j, M, ao, co, hj, rfl, HM, B, b2, b3, r4, r6, rs, rs2⟩ := hrel
     by_cases hj1 : (j : Int) < r.x1 - r.x0
     ·have q4 : decide (r.x0 + (j : Int) < r.x1) = true := decide_eq_true (by omega)
      obtain ⟨k, ek, hk, ex, ey⟩ := px_xy HFit.out (X := j) (Y := i) hj1 hi1
      have ekn : k = i * Wd + j := by rw [← hwid] at ek; omega
      subst ekn
      clear ek
      have hMv := (HSP.out _ (Nat.le_of_lt hk))
      rw [HM.out] at hMv
      have HMV := Lib.hid hMv
      have HMT := Lib.hid (show TokL M from by rw [← HM.out]; exact HTK.out _)
      have hMe := fun p => setsK_err HFit.out HA.out (invF ls) (fun x y => decide (0 < 255 - (getL ls x y).a)) hk p
      have HST := Lib.hid (show setsI r ls (i * Wd + (j + 1)) = if decide (0 < 255 - (getL ls (r.x0 + (j : Int)) (r.y0 + (i : Int))).a) = true then setR M (r.x0 + (j : Int)) (r.y0 + (i : Int)) (invF ls (r.x0 + (j : Int)) (r.y0 + (i : Int))) else M from by
       rw [← Nat.add_assoc]
       show (if (fun x y => decide (0 < 255 - (getL ls x y).a)) (pxX r _) (pxY r _) = true then setR (setsI r ls _) (pxX r _) (pxY r _) (invF ls (pxX r _) (pxY r _)) else setsI r ls _) = _
       rw [ex, ey, HM.out])
      have hMe2 : ∀ p, setE M (r.x0 + (j : Int)) (r.y0 + (i : Int)) p = 0 := fun p => by
       have := hMe p
       rw [ex, ey] at this
       rw [← HM.out]
       exact this
      have HME := Lib.hid hMe2
      clear hMe hMe2 hMv ex ey hk
      have wx1 : (Lit.int .i64 (r.x0 + (j : Int))).wf = true := wf_mk (by omega) (by omega)
      have wy1 : (Lit.int .i64 (r.y0 + (i : Int))).wf = true := wf_mk (by omega) (by omega)
      have hok := getL_okL TK.out (r.x0 + (j : Int)) (r.y0 + (i : Int))
      have hif : invF ls (r.x0 + (j : Int)) (r.y0 + (i : Int)) = ⟨0, 0, 0, 255 - (getL ls (r.x0 + (j : Int)) (r.y0 + (i : Int))).a⟩ := rfl
      obtain ⟨⟨pr, pg, pb, pa⟩, hp⟩ : ∃ p, getL ls (r.x0 + (j : Int)) (r.y0 + (i : Int)) = p := ⟨_, rfl⟩
      rw [hp] at hok hif
      have HST2 := HST.out
      rw [hp, hif] at HST2
      obtain ⟨_, _, _, p1, p2⟩ := hok
      simp only at p1 p2 HST2
      have HP := Lib.hid hp
      have HST3 := Lib.hid HST2
      clear hp hif HST HST2
      go_upto_region 12 with fail
      refine wp_region_lit ?_
      try simp only [gelS]
      refine wpList_chunk 4 (by kernel_rfl) ?_
      simp only [takS, Nat.reduceAdd]
      repeat (first | go_big_quiet_skip | (go_big_quiet_want; first | (refine quiet_loadAny (t := 3) rfl _ _ _ rfl (fun w hw => run_load_int ((ov_B b3 w hw).cellL 0 rfl)) (by rfl) ?_; simp only [putS]; go_big_quiet_on) | (refine quiet_loadAny (t := 3) rfl _ _ _ rfl (fun w hw => run_load_int ((ov_B b3 w hw).cellL 1 rfl)) (by rfl) ?_; simp only [putS]; go_big_quiet_on) | (refine quiet_loadAny (t := 3) rfl _ _ _ rfl (fun w hw => run_load_int ((ov_B b3 w hw).cellL 2 rfl)) (by rfl) ?_; simp only [putS]; go_big_quiet_on) | (refine quiet_loadAny (t := 3) rfl _ _ _ rfl (fun w hw => run_load_int ((ov_B b3 w hw).cellL 3 rfl)) (by rfl) ?_; simp only [putS]; go_big_quiet_on) | (go_big_quiet_op; go_big_quiet_on)))
      refine wpQuiet_nil ?_
      refine wpList_nil ?_
      go_upto_region 14 with fail
      refine wp_region_lit ?_
      try simp only [gelS]
      refine wpList_chunk 3 (by kernel_rfl) ?_
      simp only [takS, Nat.reduceAdd]
      repeat (first | go_big_quiet_skip | (go_big_quiet_want; first | (refine quiet_loadAny (t := 36) rfl _ _ _ rfl (fun w hw => run_load_B (ov_B b2 w hw) Try.isAgg36 (by kernel_rfl)) (by rfl) ?_; simp only [putS]; go_big_quiet_on) | (go_big_quiet_op; go_big_quiet_on)))
      refine wpQuiet_nil ?_
      refine wpList_callF (by first | rfl | simp [Region.wanted, yielded]) rfl (enters_of Try.func65 (by kernel_rfl) rfl) (by simp only [Act.eval, evlS]; rfl) ?_
      refine (R_ValueO _ ls (r.x0 + (j : Int)) (r.y0 + (i : Int)) pr pg pb pa _ rs TK.out hn wx1 wy1 HP.out).mono ?_
      rintro e wn ⟨rfl, hbn⟩
      have hsz := B.size
      have hzn := hbn.size
      replace B := B.trans (hbn.mono B.size)
      (try replace b2 := b2.below hbn)
      (try replace b3 := b3.below hbn)
      (try replace r4 := r4.below hbn)
      (try replace r6 := r6.below hbn)
      (try replace rs := rs.below hbn)
      (try replace rs2 := rs2.below hbn)
      refine ⟨_, rfl, ?_⟩
      simp only [putS]
      refine wpList_chunk 2 (by kernel_rfl) ?_
      simp only [takS, Nat.reduceAdd]
      repeat (first | go_big_quiet_skip | (go_big_quiet_want; go_big_quiet_op; go_big_quiet_on))
      refine wpQuiet_nil ?_
      refine wpList_nil ?_
      by_cases hz : 0 < 255 - pa
      ·have q5 : decide (0 < 255 - pa) = true := decide_eq_true hz
       obtain ⟨M', hM'⟩ : ∃ M', setR M (r.x0 + (j : Int)) (r.y0 + (i : Int)) ⟨0, 0, 0, 255 - pa⟩ = M' := ⟨_, rfl⟩
       have HN := Lib.hid (show setsI r ls (i * Wd + (j + 1)) = M' from by rw [HST3.out, if_pos q5, hM'])
       have HM' := Lib.hid hM'
       clear hM'
       go_upto_region 15 with fail
       refine wp_region_lit ?_
       try simp only [gelS]
       refine wpList_chunk 2 (by kernel_rfl) ?_
       simp only [takS, Nat.reduceAdd]
       repeat (first | go_big_quiet_skip | (go_big_quiet_want; go_big_quiet_op; go_big_quiet_on))
       refine wpQuiet_nil ?_
       refine wpList_nil ?_
       go_upto_region 16 with fail
       refine wp_region_lit ?_
       try simp only [gelS]
       refine wpList_chunk 6 (by kernel_rfl) ?_
       simp only [takS, Nat.reduceAdd]
       repeat (first | go_big_quiet_skip | (go_big_quiet_want; first | (refine quiet_loadAny (t := 36) rfl _ _ _ rfl (fun w hw => run_load_B (ov_B r6 w hw) Try.isAgg36 (by kernel_rfl)) (by rfl) ?_; simp only [putS]; go_big_quiet_on) | (go_big_quiet_op; go_big_quiet_on)))
       refine wpQuiet_nil ?_
       refine wpList_callF (by first | rfl | simp [Region.wanted, yielded]) rfl (enters_of Try.func49 (by kernel_rfl) rfl) (by simp only [Act.eval, evlS]; rfl) ?_
       refine (R_SetI _ M (r.x0 + (j : Int)) (r.y0 + (i : Int)) (255 - pa) _ rs2 HMT.out (len_maxLen (by have := HMV.out.2; omega)) wx1 wy1 (by omega) M' HM'.out (HME.out _)).mono ?_
       rintro e wn ⟨a3, c3, rfl, rs3, hbn⟩
       have hsz := B.size
       have hzn := hbn.size
       replace B := B.trans (hbn.mono B.size)
       (try replace b2 := b2.below hbn)
       (try replace b3 := b3.below hbn)
       (try replace r4 := r4.below hbn)
       (try replace r6 := r6.below hbn)
       (try replace rs := rs.below hbn)
       (try replace rs2 := rs2.below hbn)
       refine ⟨_, rfl, ?_⟩
       simp only [putS]
       (refine wpList_allocBk (t := 76) rfl _ (run_alloc_G _ _ rfl) ?_; intro b_g10 wn hle hge ht hbn hzn; have hsz := B.size; replace B := B.trans (hbn.mono (by omega)); have hln := Nat.lt_of_lt_of_eq (Nat.lt_succ_self _) hzn.symm; clear hzn; (try have hlt := b2.lt); (try replace b2 := b2.below (hbn.mono hle)); (try have hlt := b3.lt); (try replace b3 := b3.below (hbn.mono hle)); (try have hlt := r4.lt); (try replace r4 := r4.below (hbn.mono hle)); (try have hlt := r6.lt); (try replace r6 := r6.below (hbn.mono hle)); (try have hlt := rs.lt); (try replace rs := rs.below (hbn.mono hle)); (try have hlt := rs2.lt); (try replace rs2 := rs2.below (hbn.mono hle)); (try have hlt := rs3.lt); (try replace rs3 := rs3.below (hbn.mono hle)); have g10 := ht; clear ht; simp only [putS])
       (refine wpList_storeB (t := 76) rfl _ _ rfl _ rfl _ rfl g10 (by kernel_rfl) rfl (by simp [Value.oneCell']) ?_; have g10o := g10; clear g10; intro wn ht hcn hzn; (try replace rs := rs.chg g10o (by simp [rcA]) hcn); (try replace rs2 := rs2.chg g10o (by simp [rcA]) hcn); (try replace rs3 := rs3.chg g10o (by simp [rcA]) hcn); have hsz := B.size; replace hzn := Nat.le_of_eq hzn.symm; replace B := Chg.below B hcn (by omega) B.size; (try replace b2 := b2.of_eq (hcn.block _ b2.lt (by omega))); (try replace b3 := b3.of_eq (hcn.block _ b3.lt (by omega))); (try replace r4 := r4.of_eq (hcn.block _ r4.lt (by omega))); (try replace r6 := r6.of_eq (hcn.block _ r6.lt (by omega))); (try replace rs := rs.of_eq (hcn.block _ rs.lt (by omega))); have g10 := ht; clear ht; simp only [putS])
       refine wpList_nil ?_
       go_upto_region 17 with fail
       refine wp_region_lit ?_
       try simp only [gelS]
       refine wpList_chunk 3 (by kernel_rfl) ?_
       simp only [takS, Nat.reduceAdd]
       repeat (first | go_big_quiet_skip | (go_big_quiet_want; first | (refine quiet_loadAny (t := 48) rfl _ _ _ rfl (fun w hw => run_load_err ((ov_B g10 w hw).cell 1 rfl)) (by first | rfl | omega) ?_; simp only [putS]; go_big_quiet_on) | (go_big_quiet_op; go_big_quiet_on)))
       refine wpQuiet_nil ?_
       refine wpList_nil ?_
       go_upto_region 19 with fail
       refine wp_region_lit ?_
       try simp only [gelS]
       refine wpList_chunk 2 (by kernel_rfl) ?_
       simp only [takS, Nat.reduceAdd]
       repeat (first | go_big_quiet_skip | (go_big_quiet_want; first | (refine quiet_loadAny (t := 36) rfl _ _ _ rfl (fun w hw => run_load_ras ((ov_B g10 w hw).cell 0 rfl)) (by first | rfl | omega) ?_; simp only [putS]; go_big_quiet_on) | (go_big_quiet_op; go_big_quiet_on)))
       refine wpQuiet_nil ?_
       (refine wpList_storeB (t := 36) rfl _ _ rfl _ rfl _ rfl r6 (by kernel_rfl) rfl (by simp [Value.oneCell']) ?_; have r6o := r6; clear r6; intro wn ht hcn hzn; (try replace rs := rs.chg r6o (by simp [rcA]) hcn); (try replace rs3 := rs3.chg r6o (by simp [rcA]) hcn); have hsz := B.size; replace hzn := Nat.le_of_eq hzn.symm; replace B := Chg.below B hcn (by omega) B.size; (try replace b2 := b2.of_eq (hcn.block _ b2.lt (by omega))); (try replace b3 := b3.of_eq (hcn.block _ b3.lt (by omega))); (try replace r4 := r4.of_eq (hcn.block _ r4.lt (by omega))); (try replace rs := rs.of_eq (hcn.block _ rs.lt (by omega))); have r6 := ht; clear ht; simp only [putS])
       refine wpList_nil ?_
       go_upto_region 13 with fail
       refine wp_region_lit ?_
       try simp only [gelS]
       refine wpList_chunk 3 (by kernel_rfl) ?_
       simp only [takS, Nat.reduceAdd]
       repeat (first | go_big_quiet_skip | (go_big_quiet_want; go_big_quiet_op; go_big_quiet_on))
       refine wpQuiet_nil ?_
       refine wpList_nil ?_
       go_wp2
       go_roundw
       case rel => exact ⟨j + 1, M', _, _, by omega, by go_num, HN, B, b2, b3, r4, r6, rs, rs3⟩
       case measure => simp [intOf]; omega
      ·have q5 : decide (0 < 255 - pa) = false := decide_eq_false hz
       have HN := Lib.hid (show setsI r ls (i * Wd + (j + 1)) = M from by rw [HST3.out, if_neg (by rw [q5]; simp)])
       go_upto_region 15 with fail
       refine wp_region_lit ?_
       try simp only [gelS]
       refine wpList_chunk 2 (by kernel_rfl) ?_
       simp only [takS, Nat.reduceAdd]
       repeat (first | go_big_quiet_skip | (go_big_quiet_want; go_big_quiet_op; go_big_quiet_on))
       refine wpQuiet_nil ?_
       refine wpList_nil ?_
       go_upto_region 13 with fail
       refine wp_region_lit ?_
       try simp only [gelS]
       refine wpList_chunk 3 (by kernel_rfl) ?_
       simp only [takS, Nat.reduceAdd]
       repeat (first | go_big_quiet_skip | (go_big_quiet_want; go_big_quiet_op; go_big_quiet_on))
       refine wpQuiet_nil ?_
       refine wpList_nil ?_
       go_wp2
       go_roundw
       case rel => exact ⟨j + 1, M, _, _, by omega, by go_num, HN, B, b2, b3, r4, r6, rs, rs2⟩
       case measure => simp [intOf]; omega
     ·have q4 : decide (r.x0 + (j : Int) < r.x1) = false := decide_eq_false (by omega)
      have hjW : j = Wd := by omega
      have HN := Lib.hid (show setsI r ls ((i + 1) * Wd) = M from by rw [Nat.add_mul, Nat.one_mul]; rw [hjW] at HM; exact HM.out)
      clear hjW
      go_upto_region 12 with fail
      refine wp_region_lit ?_
      try simp only [gelS]
      refine wpList_chunk 4 (by kernel_rfl) ?_
      simp only [takS, Nat.reduceAdd]
      repeat (first | go_big_quiet_skip | (go_big_quiet_want; first | (refine quiet_loadAny (t := 3) rfl _ _ _ rfl (fun w hw => run_load_int ((ov_B b3 w hw).cellL 0 rfl)) (by rfl) ?_; simp only [putS]; go_big_quiet_on) | (refine quiet_loadAny (t := 3) rfl _ _ _ rfl (fun w hw => run_load_int ((ov_B b3 w hw).cellL 1 rfl)) (by rfl) ?_; simp only [putS]; go_big_quiet_on) | (refine quiet_loadAny (t := 3) rfl _ _ _ rfl (fun w hw => run_load_int ((ov_B b3 w hw).cellL 2 rfl)) (by rfl) ?_; simp only [putS]; go_big_quiet_on) | (refine quiet_loadAny (t := 3) rfl _ _ _ rfl (fun w hw => run_load_int ((ov_B b3 w hw).cellL 3 rfl)) (by rfl) ?_; simp only [putS]; go_big_quiet_on) | (go_big_quiet_op; go_big_quiet_on)))
      refine wpQuiet_nil ?_
      refine wpList_nil ?_
      go_upto_region 10 with fail
      refine wp_region_lit ?_
      try simp only [gelS]
      refine wpList_chunk 3 (by kernel_rfl) ?_
      simp only [takS, Nat.reduceAdd]
      repeat (first | go_big_quiet_skip | (go_big_quiet_want; go_big_quiet_op; go_big_quiet_on))
      refine wpQuiet_nil ?_
      refine wpList_nil ?_
      go_wp2
      go_roundw
      case rel => exact ⟨i + 1, M, _, _, by omega, by go_num, HN, B, b2, b3, r4, r6, rs, rs2⟩
      case measure => simp [intOf]; omega
   ·have q3 : decide (r.y0 + (i : Int) < r.y1) = false := decide_eq_false (by omega)
    have hiH : i = (r.y1 - r.y0).toNat := by omega
    have HL := Lib.hid (show setsI r ls (areaN r) = M from by
     rw [HAW.out, Nat.mul_comm, HWD.out, ← hiH]; exact HM.out)
    clear hiH
    go_upto_region 9 with fail
    refine wp_region_lit ?_
    try simp only [gelS]
    refine wpList_chunk 4 (by kernel_rfl) ?_
    simp only [takS, Nat.reduceAdd]
    repeat (first | go_big_quiet_skip | (go_big_quiet_want; first | (refine quiet_loadAny (t := 3) rfl _ _ _ rfl (fun w hw => run_load_int ((ov_B b3 w hw).cellL 0 rfl)) (by rfl) ?_; simp only [putS]; go_big_quiet_on) | (refine quiet_loadAny (t := 3) rfl _ _ _ rfl (fun w hw => run_load_int ((ov_B b3 w hw).cellL 1 rfl)) (by rfl) ?_; simp only [putS]; go_big_quiet_on) | (refine quiet_loadAny (t := 3) rfl _ _ _ rfl (fun w hw => run_load_int ((ov_B b3 w hw).cellL 2 rfl)) (by rfl) ?_; simp only [putS]; go_big_quiet_on) | (refine quiet_loadAny (t := 3) rfl _ _ _ rfl (fun w hw => run_load_int ((ov_B b3 w hw).cellL 3 rfl)) (by rfl) ?_; simp only [putS]; go_big_quiet_on) | (go_big_quiet_op; go_big_quiet_on)))
    refine wpQuiet_nil ?_
    refine wpList_nil ?_
    go_upto_region 20 with fail
    refine wp_region_lit ?_
    try simp only [gelS]
    refine wpList_chunk 2 (by kernel_rfl) ?_
    simp only [takS, Nat.reduceAdd]
    repeat (first | go_big_quiet_skip | (go_big_quiet_want; first | (refine quiet_loadAny (t := 36) rfl _ _ _ rfl (fun w hw => run_load_B (ov_B r6 w hw) Try.isAgg36 (by kernel_rfl)) (by rfl) ?_; simp only [putS]; go_big_quiet_on) | (go_big_quiet_op; go_big_quiet_on)))
    refine wpQuiet_nil ?_
    (refine wpList_storeB (t := 52) rfl _ _ rfl _ rfl _ rfl r4 (by kernel_rfl) rfl (by simp [Value.oneCell']) ?_; have r4o := r4; clear r4; intro wn ht hcn hzn; (try replace rs2 := rs2.chg r4o (by simp [rcA]) hcn); have hsz := B.size; replace hzn := Nat.le_of_eq hzn.symm; replace B := Chg.below B hcn (by omega) B.size; have r4 := ht; clear ht; simp only [putS])
    refine wpList_nil ?_
    first | (refine bodyPost_ret (results_B (t := 52) rfl _ _ (b_r4) rfl r4 Try.isAgg52 (by kernel_rfl)) rfl ?_) | (go_step; refine bodyPost_ret (results_B (t := 52) rfl _ _ (b_r4) rfl r4 Try.isAgg52 (by kernel_rfl)) rfl ?_) | (go_step; go_step; refine bodyPost_ret (results_B (t := 52) rfl _ _ (b_r4) rfl r4 Try.isAgg52 (by kernel_rfl)) rfl ?_) | (go_step; go_step; go_step; refine bodyPost_ret (results_B (t := 52) rfl _ _ (b_r4) rfl r4 Try.isAgg52 (by kernel_rfl)) rfl ?_) | (go_step; go_step; go_step; go_step; refine bodyPost_ret (results_B (t := 52) rfl _ _ (b_r4) rfl r4 Try.isAgg52 (by kernel_rfl)) rfl ?_) | (go_step; go_step; go_step; go_step; go_step; refine bodyPost_ret (results_B (t := 52) rfl _ _ (b_r4) rfl r4 Try.isAgg52 (by kernel_rfl)) rfl ?_)
    rw [HL.out]
    exact ⟨_, _, rfl, rs2, B⟩
/- For the laws of chapter 15 that invert or fill: what both ways of inverting return; '==' of rasters, cropping. -/
theorem invR_tok {r : Rc} {ls : List TA} (tk : TokL ls) : TokL (invR r ls) := by
 unfold invR
 split
 ·exact pstR_tok (paintL_ok (invF_ok tk)) TokL.nil
 ·exact TokL.nil
theorem invR_valid (r : Rc) (ls : List TA) : validL (invR r ls) = true := by
 unfold invR
 split
 ·exact pstR_valid _ _ _
 ·exact validL_nil
theorem setsI_tok {r : Rc} {ls : List TA} (tk : TokL ls) : ∀ k, TokL (setsI r ls k) := fun k => by
 induction k with
 | zero => exact TokL.nil
 | succ k ih =>
  show TokL (if _ then _ else _)
  split
  ·exact setR_tok ih (invF_ok tk _ _)
  ·exact ih
theorem invS_tok {r : Rc} {ls : List TA} (tk : TokL ls) : TokL (invS r ls) := by
 unfold invS
 split
 ·exact setsI_tok tk _
 ·exact TokL.nil
theorem invS_valid {r : Rc} {ls : List TA} (hA : fitsE r = 0 → tlN r ≤ 1000) : validL (invS r ls) = true := by
 unfold invS
 split
 ·rename_i h
  exact (setsK_spec (fitsE_zero h) (hA h) _ _ _ (Nat.le_refl _)).1
 ·exact validL_nil
theorem valid_len {ls : List TA} (h : validL ls = true) : ls.length ≤ maxLen := by
 have := (validL_iff.1 h).1
 unfold maxLen
 omega
theorem inverse_both (M : List TA) (hM : MaskP M) (r : Rc) (hA : fitsE r = 0 → tlN r ≤ 1000) : ∃ (X Y : List TA) (E : Int), TokL X ∧ TokL Y ∧ X.length ≤ maxLen ∧ Y.length ≤ maxLen ∧ eqL (fineL X) (fineL Y) = true ∧
  (∀ (v : Value) (w : World), RS v M w → Calls Try.prog 24 #[.agg #[v], .agg (rcA r)] w fun e w' => ∃ a c, e = .returned (.tuple #[.agg #[.slice a X.length c], .int .i64 E]) ∧ RS (.slice a X.length c) X w' ∧ Below w.heap.size w w') ∧
  (∀ (v : Value) (w : World), RS v M w → Calls Try.prog 25 #[.agg #[v], .agg (rcA r)] w fun e w' => ∃ a c, e = .returned (.agg #[.slice a Y.length c, .int .i64 E]) ∧ RS (.slice a Y.length c) Y w' ∧ Below w.heap.size w w') := by
 have hn := valid_len hM.v
 refine ⟨invR r M, invS r M, fitsE r, invR_tok hM.t, invS_tok hM.t, valid_len (invR_valid r M), valid_len (invS_valid hA), ?_, fun v w h => P_Inverse v M r w h hM.t hn hM.v hA, fun v w h => R_Inverse v M r w h hM.t hn hM.v hA⟩
 rw [fineL_of (invR_valid r M), fineL_of (invS_valid hA)]
 exact inv_same r hM.t hA
theorem R_EqualT (v u : Value) (ls ks : List TA) (w : World) (h : RS v ls w) (h' : RS u ks w) (tk : TokL ls) (tk' : TokL ks) (hn : ls.length ≤ maxLen) (hn' : ks.length ≤ maxLen) (e : eqL (fineL ls) (fineL ks) = true) : Calls Try.prog 26 #[.agg #[v], .agg #[u]] w fun e w' => e = .returned (.bool true) ∧ Below w.heap.size w w' := e ▸ R_Equal v u ls ks w h h' tk tk' hn hn'
theorem tlN_area900 {r : Rc} (hE : fitsE r = 0) (h : (r.x1 - r.x0) * (r.y1 - r.y0) ≤ 900) : tlN r ≤ 1000 := by
 have h1 := tlN_area (fitsE_zero hE)
 have h2 : areaN r ≤ 900 := by unfold areaN; omega
 omega
theorem smR_tl (a b c d : Int) (h : fitsE (smR a b c d) = 0) : tlN (smR a b c d) ≤ 1000 := tlN_small h (by unfold smR; simp only; omega)
theorem R_ValidRW (r : Rc) (b : Bool) (w : World) (e : validR r = b) : Calls Try.prog 27 #[.agg (rcA r)] w fun e w' => e = .returned (.bool b) ∧ Below w.heap.size w w' := e ▸ R_ValidR r w
set_option maxHeartbeats 16000000 in
theorem walk_SelectionInverts (v0 : Value) (q : List Int) (r : Rc) (n0 n1 n2 n3 : Int) (hc : (Lit.int .i64 r.x0).wf = true ∧ (Lit.int .i64 r.y0).wf = true ∧ (Lit.int .i64 r.x1).wf = true ∧ (Lit.int .i64 r.y1).wf = true) (hw : (Lit.int .i64 n0).wf = true ∧ (Lit.int .i64 n1).wf = true ∧ (Lit.int .i64 n2).wf = true ∧ (Lit.int .i64 n3).wf = true) (w : World) (h0 : RSE inE v0 q w) (hn0 : q.length ≤ 17592186044416) (hwf : WfL q) : Calls Try.prog 6 #[v0, Rc.v r, .agg #[.int .i64 n0, .int .i64 n1, .int .i64 n2, .int .i64 n3]] w fun e w' => e = .returned (.bool true) ∧ Below w.heap.size w w' := by
 have B := Below.refl w.heap.size w
 obtain ⟨a0, c0, rfl, hc0⟩ := h0.len
 have H0 := Lib.hid h0
 have HMP := maskG_P q
 have HMK := Lib.hid (show ∀ W, RSE inE (.slice a0 q.length c0) q W → Calls Try.prog 19 #[.slice a0 q.length c0] W fun e w' => ∃ a c, e = .returned (.agg #[.slice a (maskG q).length c]) ∧ RS (.slice a (maskG q).length c) (maskG q) w' ∧ Below W.heap.size W w' from fun W h => R_Mask _ q W h hn0 hwf)
 generalize maskG q = M at *
 clear h0 hn0 hwf hc hw
 obtain ⟨X1, Y1, E1, hX1, hY1, lX1, lY1, eq1, P1, R1⟩ := inverse_both M HMP (smR n0 n1 n2 n3) (smR_tl n0 n1 n2 n3)
 have HS := Lib.hid (R_SmallR n0 n1 n2 n3)
 generalize smR n0 n1 n2 n3 = sr at *
 have HX1 := Lib.hid hX1
 have HY1 := Lib.hid hY1
 have HE1 := Lib.hid eq1
 have HP1 := Lib.hid P1
 have HR1 := Lib.hid R1
 clear hX1 hY1 eq1 P1 R1
 have HBOTH := Lib.hid (inverse_both M HMP r)
 clear HMP
 simp only [Rc.v_A]
 go_enter Try.func6, Try.ntmps6
 go_upto_region 0 with fail
 refine wp_region_lit ?_
 try simp only [gelS]
 (refine wpList_boxB (t := 31) rfl _ rfl _ rfl ?_; intro b_b4 wn hle hge ht hbn hzn; have hsz := B.size; replace B := B.trans (hbn.mono (by omega)); have hln := Nat.lt_of_lt_of_eq (Nat.lt_succ_self _) hzn.symm; clear hzn; have b4 := ht; clear ht; simp only [putS])
 (refine wpList_boxB (t := 46) rfl _ rfl _ rfl ?_; intro b_b5 wn hle hge ht hbn hzn; have hsz := B.size; replace B := B.trans (hbn.mono (by omega)); have hln := Nat.lt_of_lt_of_eq (Nat.lt_succ_self _) hzn.symm; clear hzn; (try have hlt := b4.lt); (try replace b4 := b4.below (hbn.mono hle)); have b5 := ht; clear ht; simp only [putS])
 refine wpList_chunk 1 (by kernel_rfl) ?_
 simp only [takS, Nat.reduceAdd]
 repeat (first | go_big_quiet_skip | (go_big_quiet_want; go_big_quiet_op; go_big_quiet_on))
 refine wpQuiet_nil ?_
 refine wpList_nil ?_
 go_upto_region 1 with fail
 refine wp_region_lit ?_
 try simp only [gelS]
 refine wpList_callF (by first | rfl | simp [Region.wanted, yielded]) rfl (enters_of Try.func10 (by kernel_rfl) rfl) (by simp only [Act.eval, evlS]; rfl) ?_
 refine (sanity15 _).mono ?_
 rintro e wn ⟨rfl, hbn⟩
 have hsz := B.size
 have hzn := hbn.size
 replace B := B.trans (hbn.mono B.size)
 (try replace b4 := b4.below hbn)
 (try replace b5 := b5.below hbn)
 refine ⟨_, rfl, ?_⟩
 simp only [putS]
 refine wpList_chunk 1 (by kernel_rfl) ?_
 simp only [takS, Nat.reduceAdd]
 repeat (first | go_big_quiet_skip | (go_big_quiet_want; go_big_quiet_op; go_big_quiet_on))
 refine wpQuiet_nil ?_
 refine wpList_nil ?_
 go_upto_region 2 with fail
 refine wp_region_lit ?_
 try simp only [gelS]
 refine wpList_chunk 1 (by kernel_rfl) ?_
 simp only [takS, Nat.reduceAdd]
 repeat (first | go_big_quiet_skip | (go_big_quiet_want; go_big_quiet_op; go_big_quiet_on))
 refine wpQuiet_nil ?_
 refine wpList_callF (by first | rfl | simp [Region.wanted, yielded]) rfl (enters_of Try.func19 (by kernel_rfl) rfl) (by simp only [Act.eval, evlS]; rfl) ?_
 refine (HMK.out _ (H0.out.below B)).mono ?_
 rintro e wn ⟨a1, c1, rfl, rs1, hbn⟩
 have hsz := B.size
 have hzn := hbn.size
 replace B := B.trans (hbn.mono B.size)
 (try replace b4 := b4.below hbn)
 (try replace b5 := b5.below hbn)
 (try replace rs1 := rs1.below hbn)
 refine ⟨_, rfl, ?_⟩
 simp only [putS]
 (refine wpList_allocBk (t := 36) rfl _ (run_alloc_R _ _ rfl) ?_; intro b_r8 wn hle hge ht hbn hzn; have hsz := B.size; replace B := B.trans (hbn.mono (by omega)); have hln := Nat.lt_of_lt_of_eq (Nat.lt_succ_self _) hzn.symm; clear hzn; (try have hlt := b4.lt); (try replace b4 := b4.below (hbn.mono hle)); (try have hlt := b5.lt); (try replace b5 := b5.below (hbn.mono hle)); (try have hlt := rs1.lt); (try replace rs1 := rs1.below (hbn.mono hle)); have r8 := ht; clear ht; simp only [putS])
 (refine wpList_storeB (t := 36) rfl _ _ rfl _ rfl _ rfl r8 (by kernel_rfl) rfl (by simp [rcA, Value.oneCell']) ?_; have r8o := r8; clear r8; intro wn ht hcn hzn; (try replace rs1 := rs1.chg r8o (by simp [rcA]) hcn); (try replace rs2 := rs2.chg r8o (by simp [rcA]) hcn); (try replace rs3 := rs3.chg r8o (by simp [rcA]) hcn); (try replace rs4 := rs4.chg r8o (by simp [rcA]) hcn); (try replace rs5 := rs5.chg r8o (by simp [rcA]) hcn); have hsz := B.size; replace hzn := Nat.le_of_eq hzn.symm; replace B := Chg.below B hcn (by omega) B.size; (try replace b4 := b4.of_eq (hcn.block _ b4.lt (by omega))); (try replace b5 := b5.of_eq (hcn.block _ b5.lt (by omega))); (try replace rs1 := rs1.of_eq (hcn.block _ rs1.lt (by omega))); have r8 := ht; clear ht; simp only [putS])
 refine wpList_nil ?_
 go_upto_region 3 with fail
 refine wp_region_lit ?_
 try simp only [gelS]
 refine wpList_chunk 1 (by kernel_rfl) ?_
 simp only [takS, Nat.reduceAdd]
 repeat (first | go_big_quiet_skip | (go_big_quiet_want; first | (refine quiet_loadAny (t := 46) rfl _ _ _ rfl (fun w hw => run_load_B (ov_B b5 w hw) Try.isAgg46 (by kernel_rfl)) (by rfl) ?_; simp only [putS]; go_big_quiet_on) | (go_big_quiet_op; go_big_quiet_on)))
 refine wpQuiet_nil ?_
 refine wpList_callF (by first | rfl | simp [Region.wanted, yielded]) rfl (enters_of Try.func23 (by kernel_rfl) rfl) (by simp only [Act.eval, evlS]; rfl) ?_
 refine (HS.out _).mono ?_
 rintro e wn ⟨rfl, hbn⟩
 have hsz := B.size
 have hzn := hbn.size
 replace B := B.trans (hbn.mono B.size)
 (try replace b4 := b4.below hbn)
 (try replace b5 := b5.below hbn)
 (try replace r8 := r8.below hbn)
 (try replace rs1 := rs1.below hbn)
 refine ⟨_, rfl, ?_⟩
 simp only [putS]
 (refine wpList_allocBk (t := 31) rfl _ (run_alloc_Rc _ _ rfl) ?_; intro b_b9 wn hle hge ht hbn hzn; have hsz := B.size; replace B := B.trans (hbn.mono (by omega)); have hln := Nat.lt_of_lt_of_eq (Nat.lt_succ_self _) hzn.symm; clear hzn; (try have hlt := b4.lt); (try replace b4 := b4.below (hbn.mono hle)); (try have hlt := b5.lt); (try replace b5 := b5.below (hbn.mono hle)); (try have hlt := r8.lt); (try replace r8 := r8.below (hbn.mono hle)); (try have hlt := rs1.lt); (try replace rs1 := rs1.below (hbn.mono hle)); have b9 := ht; clear ht; simp only [putS])
 (refine wpList_storeB (t := 31) rfl _ _ rfl _ rfl _ rfl b9 (by kernel_rfl) rfl (by simp [rcA, Value.oneCell']) ?_; have b9o := b9; clear b9; intro wn ht hcn hzn; (try replace rs1 := rs1.chg b9o (by simp [rcA]) hcn); (try replace rs2 := rs2.chg b9o (by simp [rcA]) hcn); (try replace rs3 := rs3.chg b9o (by simp [rcA]) hcn); (try replace rs4 := rs4.chg b9o (by simp [rcA]) hcn); (try replace rs5 := rs5.chg b9o (by simp [rcA]) hcn); have hsz := B.size; replace hzn := Nat.le_of_eq hzn.symm; replace B := Chg.below B hcn (by omega) B.size; (try replace b4 := b4.of_eq (hcn.block _ b4.lt (by omega))); (try replace b5 := b5.of_eq (hcn.block _ b5.lt (by omega))); (try replace r8 := r8.of_eq (hcn.block _ r8.lt (by omega))); (try replace rs1 := rs1.of_eq (hcn.block _ rs1.lt (by omega))); have b9 := ht; clear ht; simp only [putS])
 refine wpList_nil ?_
 replace b9 : AtB 31 _ b_b9 (rcA sr) := b9
 go_upto_region 4 with fail
 refine wp_region_lit ?_
 try simp only [gelS]
 refine wpList_chunk 2 (by kernel_rfl) ?_
 simp only [takS, Nat.reduceAdd]
 repeat (first | go_big_quiet_skip | (go_big_quiet_want; first | (refine quiet_loadAny (t := 36) rfl _ _ _ rfl (fun w hw => run_load_B (ov_B r8 w hw) Try.isAgg36 (by kernel_rfl)) (by rfl) ?_; simp only [putS]; go_big_quiet_on) | (refine quiet_loadAny (t := 36) rfl _ _ _ rfl (fun w hw => run_load_B (ov_B r10 w hw) Try.isAgg36 (by kernel_rfl)) (by rfl) ?_; simp only [putS]; go_big_quiet_on) | (refine quiet_loadAny (t := 36) rfl _ _ _ rfl (fun w hw => run_load_B (ov_B r14 w hw) Try.isAgg36 (by kernel_rfl)) (by rfl) ?_; simp only [putS]; go_big_quiet_on) | (refine quiet_loadAny (t := 31) rfl _ _ _ rfl (fun w hw => run_load_B (ov_B b9 w hw) Try.isAgg31 (by kernel_rfl)) (by rfl) ?_; simp only [putS]; go_big_quiet_on) | (refine quiet_loadAny (t := 31) rfl _ _ _ rfl (fun w hw => run_load_B (ov_B b4 w hw) Try.isAgg31 (by kernel_rfl)) (by rfl) ?_; simp only [putS]; go_big_quiet_on) | (refine quiet_loadAny (t := 36) rfl _ _ _ rfl (fun w hw => run_load_ras ((ov_B g12 w hw).cell 0 rfl)) (by first | rfl | omega) ?_; simp only [putS]; go_big_quiet_on) | (refine quiet_loadAny (t := 36) rfl _ _ _ rfl (fun w hw => run_load_ras ((ov_B g16 w hw).cell 0 rfl)) (by first | rfl | omega) ?_; simp only [putS]; go_big_quiet_on) | (go_big_quiet_op; go_big_quiet_on)))
 refine wpQuiet_nil ?_
 refine wpList_callF (by first | rfl | simp [Region.wanted, yielded]) rfl (enters_of Try.func24 (by kernel_rfl) rfl) (by simp only [Act.eval, evlS]; rfl) ?_
 refine (HP1.out _ _ rs1).mono ?_
 rintro e wn ⟨a2, c2, rfl, rs2, hbn⟩
 have hsz := B.size
 have hzn := hbn.size
 replace B := B.trans (hbn.mono B.size)
 (try replace b4 := b4.below hbn)
 (try replace b5 := b5.below hbn)
 (try replace r8 := r8.below hbn)
 (try replace b9 := b9.below hbn)
 (try replace r10 := r10.below hbn)
 (try replace g12 := g12.below hbn)
 (try replace r14 := r14.below hbn)
 (try replace g16 := g16.below hbn)
 (try replace rs1 := rs1.below hbn)
 (try replace rs2 := rs2.below hbn)
 refine ⟨_, rfl, ?_⟩
 simp only [putS]
 refine wpList_chunk 3 (by kernel_rfl) ?_
 simp only [takS, Nat.reduceAdd]
 repeat (first | go_big_quiet_skip | (go_big_quiet_want; go_big_quiet_op; go_big_quiet_on))
 refine wpQuiet_nil ?_
 (refine wpList_allocBk (t := 36) rfl _ (run_alloc_R _ _ rfl) ?_; intro b_r10 wn hle hge ht hbn hzn; have hsz := B.size; replace B := B.trans (hbn.mono (by omega)); have hln := Nat.lt_of_lt_of_eq (Nat.lt_succ_self _) hzn.symm; clear hzn; (try have hlt := b4.lt); (try replace b4 := b4.below (hbn.mono hle)); (try have hlt := b5.lt); (try replace b5 := b5.below (hbn.mono hle)); (try have hlt := r8.lt); (try replace r8 := r8.below (hbn.mono hle)); (try have hlt := b9.lt); (try replace b9 := b9.below (hbn.mono hle)); (try have hlt := r10.lt); (try replace r10 := r10.below (hbn.mono hle)); (try have hlt := g12.lt); (try replace g12 := g12.below (hbn.mono hle)); (try have hlt := r14.lt); (try replace r14 := r14.below (hbn.mono hle)); (try have hlt := g16.lt); (try replace g16 := g16.below (hbn.mono hle)); (try have hlt := rs1.lt); (try replace rs1 := rs1.below (hbn.mono hle)); (try have hlt := rs2.lt); (try replace rs2 := rs2.below (hbn.mono hle)); have r10 := ht; clear ht; simp only [putS])
 (refine wpList_storeB (t := 36) rfl _ _ rfl _ rfl _ rfl r10 (by kernel_rfl) rfl (by simp [rcA, Value.oneCell']) ?_; have r10o := r10; clear r10; intro wn ht hcn hzn; (try replace rs1 := rs1.chg r10o (by simp [rcA]) hcn); (try replace rs2 := rs2.chg r10o (by simp [rcA]) hcn); (try replace rs3 := rs3.chg r10o (by simp [rcA]) hcn); (try replace rs4 := rs4.chg r10o (by simp [rcA]) hcn); (try replace rs5 := rs5.chg r10o (by simp [rcA]) hcn); have hsz := B.size; replace hzn := Nat.le_of_eq hzn.symm; replace B := Chg.below B hcn (by omega) B.size; (try replace b4 := b4.of_eq (hcn.block _ b4.lt (by omega))); (try replace b5 := b5.of_eq (hcn.block _ b5.lt (by omega))); (try replace r8 := r8.of_eq (hcn.block _ r8.lt (by omega))); (try replace b9 := b9.of_eq (hcn.block _ b9.lt (by omega))); (try replace g12 := g12.of_eq (hcn.block _ g12.lt (by omega))); (try replace r14 := r14.of_eq (hcn.block _ r14.lt (by omega))); (try replace g16 := g16.of_eq (hcn.block _ g16.lt (by omega))); (try replace rs1 := rs1.of_eq (hcn.block _ rs1.lt (by omega))); (try replace rs2 := rs2.of_eq (hcn.block _ rs2.lt (by omega))); have r10 := ht; clear ht; simp only [putS])
 refine wpList_chunk 1 (by kernel_rfl) ?_
 simp only [takS, Nat.reduceAdd]
 repeat (first | go_big_quiet_skip | (go_big_quiet_want; go_big_quiet_op; go_big_quiet_on))
 refine wpQuiet_nil ?_
 refine wpList_nil ?_
 go_upto_region 5 with fail
 refine wp_region_lit ?_
 try simp only [gelS]
 refine wpList_chunk 2 (by kernel_rfl) ?_
 simp only [takS, Nat.reduceAdd]
 repeat (first | go_big_quiet_skip | (go_big_quiet_want; first | (refine quiet_loadAny (t := 36) rfl _ _ _ rfl (fun w hw => run_load_B (ov_B r8 w hw) Try.isAgg36 (by kernel_rfl)) (by rfl) ?_; simp only [putS]; go_big_quiet_on) | (refine quiet_loadAny (t := 36) rfl _ _ _ rfl (fun w hw => run_load_B (ov_B r10 w hw) Try.isAgg36 (by kernel_rfl)) (by rfl) ?_; simp only [putS]; go_big_quiet_on) | (refine quiet_loadAny (t := 36) rfl _ _ _ rfl (fun w hw => run_load_B (ov_B r14 w hw) Try.isAgg36 (by kernel_rfl)) (by rfl) ?_; simp only [putS]; go_big_quiet_on) | (refine quiet_loadAny (t := 31) rfl _ _ _ rfl (fun w hw => run_load_B (ov_B b9 w hw) Try.isAgg31 (by kernel_rfl)) (by rfl) ?_; simp only [putS]; go_big_quiet_on) | (refine quiet_loadAny (t := 31) rfl _ _ _ rfl (fun w hw => run_load_B (ov_B b4 w hw) Try.isAgg31 (by kernel_rfl)) (by rfl) ?_; simp only [putS]; go_big_quiet_on) | (refine quiet_loadAny (t := 36) rfl _ _ _ rfl (fun w hw => run_load_ras ((ov_B g12 w hw).cell 0 rfl)) (by first | rfl | omega) ?_; simp only [putS]; go_big_quiet_on) | (refine quiet_loadAny (t := 36) rfl _ _ _ rfl (fun w hw => run_load_ras ((ov_B g16 w hw).cell 0 rfl)) (by first | rfl | omega) ?_; simp only [putS]; go_big_quiet_on) | (go_big_quiet_op; go_big_quiet_on)))
 refine wpQuiet_nil ?_
 refine wpList_callF (by first | rfl | simp [Region.wanted, yielded]) rfl (enters_of Try.func25 (by kernel_rfl) rfl) (by simp only [Act.eval, evlS]; rfl) ?_
 refine (HR1.out _ _ rs1).mono ?_
 rintro e wn ⟨a3, c3, rfl, rs3, hbn⟩
 have hsz := B.size
 have hzn := hbn.size
 replace B := B.trans (hbn.mono B.size)
 (try replace b4 := b4.below hbn)
 (try replace b5 := b5.below hbn)
 (try replace r8 := r8.below hbn)
 (try replace b9 := b9.below hbn)
 (try replace r10 := r10.below hbn)
 (try replace g12 := g12.below hbn)
 (try replace r14 := r14.below hbn)
 (try replace g16 := g16.below hbn)
 (try replace rs1 := rs1.below hbn)
 (try replace rs2 := rs2.below hbn)
 (try replace rs3 := rs3.below hbn)
 refine ⟨_, rfl, ?_⟩
 simp only [putS]
 (refine wpList_allocBk (t := 52) rfl _ (run_alloc_G15 _ _ rfl) ?_; intro b_g12 wn hle hge ht hbn hzn; have hsz := B.size; replace B := B.trans (hbn.mono (by omega)); have hln := Nat.lt_of_lt_of_eq (Nat.lt_succ_self _) hzn.symm; clear hzn; (try have hlt := b4.lt); (try replace b4 := b4.below (hbn.mono hle)); (try have hlt := b5.lt); (try replace b5 := b5.below (hbn.mono hle)); (try have hlt := r8.lt); (try replace r8 := r8.below (hbn.mono hle)); (try have hlt := b9.lt); (try replace b9 := b9.below (hbn.mono hle)); (try have hlt := r10.lt); (try replace r10 := r10.below (hbn.mono hle)); (try have hlt := g12.lt); (try replace g12 := g12.below (hbn.mono hle)); (try have hlt := r14.lt); (try replace r14 := r14.below (hbn.mono hle)); (try have hlt := g16.lt); (try replace g16 := g16.below (hbn.mono hle)); (try have hlt := rs1.lt); (try replace rs1 := rs1.below (hbn.mono hle)); (try have hlt := rs2.lt); (try replace rs2 := rs2.below (hbn.mono hle)); (try have hlt := rs3.lt); (try replace rs3 := rs3.below (hbn.mono hle)); have g12 := ht; clear ht; simp only [putS])
 (refine wpList_storeB (t := 52) rfl _ _ rfl _ rfl _ rfl g12 (by kernel_rfl) rfl (by simp [rcA, Value.oneCell']) ?_; have g12o := g12; clear g12; intro wn ht hcn hzn; (try replace rs1 := rs1.chg g12o (by simp [rcA]) hcn); (try replace rs2 := rs2.chg g12o (by simp [rcA]) hcn); (try replace rs3 := rs3.chg g12o (by simp [rcA]) hcn); (try replace rs4 := rs4.chg g12o (by simp [rcA]) hcn); (try replace rs5 := rs5.chg g12o (by simp [rcA]) hcn); have hsz := B.size; replace hzn := Nat.le_of_eq hzn.symm; replace B := Chg.below B hcn (by omega) B.size; (try replace b4 := b4.of_eq (hcn.block _ b4.lt (by omega))); (try replace b5 := b5.of_eq (hcn.block _ b5.lt (by omega))); (try replace r8 := r8.of_eq (hcn.block _ r8.lt (by omega))); (try replace b9 := b9.of_eq (hcn.block _ b9.lt (by omega))); (try replace r10 := r10.of_eq (hcn.block _ r10.lt (by omega))); (try replace r14 := r14.of_eq (hcn.block _ r14.lt (by omega))); (try replace g16 := g16.of_eq (hcn.block _ g16.lt (by omega))); (try replace rs1 := rs1.of_eq (hcn.block _ rs1.lt (by omega))); (try replace rs2 := rs2.of_eq (hcn.block _ rs2.lt (by omega))); (try replace rs3 := rs3.of_eq (hcn.block _ rs3.lt (by omega))); have g12 := ht; clear ht; simp only [putS])
 refine wpList_nil ?_
 go_upto_region 6 with fail
 refine wp_region_lit ?_
 try simp only [gelS]
 refine wpList_chunk 3 (by kernel_rfl) ?_
 simp only [takS, Nat.reduceAdd]
 repeat (first | go_big_quiet_skip | (go_big_quiet_want; first | (refine quiet_loadAny (t := 36) rfl _ _ _ rfl (fun w hw => run_load_B (ov_B r8 w hw) Try.isAgg36 (by kernel_rfl)) (by rfl) ?_; simp only [putS]; go_big_quiet_on) | (refine quiet_loadAny (t := 36) rfl _ _ _ rfl (fun w hw => run_load_B (ov_B r10 w hw) Try.isAgg36 (by kernel_rfl)) (by rfl) ?_; simp only [putS]; go_big_quiet_on) | (refine quiet_loadAny (t := 36) rfl _ _ _ rfl (fun w hw => run_load_B (ov_B r14 w hw) Try.isAgg36 (by kernel_rfl)) (by rfl) ?_; simp only [putS]; go_big_quiet_on) | (refine quiet_loadAny (t := 36) rfl _ _ _ rfl (fun w hw => run_load_ras ((ov_B g12 w hw).cell 0 rfl)) (by first | rfl | omega) ?_; simp only [putS]; go_big_quiet_on) | (refine quiet_loadAny (t := 36) rfl _ _ _ rfl (fun w hw => run_load_ras ((ov_B g16 w hw).cell 0 rfl)) (by first | rfl | omega) ?_; simp only [putS]; go_big_quiet_on) | (go_big_quiet_op; go_big_quiet_on)))
 refine wpQuiet_nil ?_
 refine wpList_callF (by first | rfl | simp [Region.wanted, yielded]) rfl (enters_of Try.func26 (by kernel_rfl) rfl) (by simp only [Act.eval, evlS]; rfl) ?_
 refine (R_EqualT _ _ X1 Y1 _ rs2 rs3 HX1.out HY1.out lX1 lY1 HE1.out).mono ?_
 rintro e wn ⟨rfl, hbn⟩
 have hsz := B.size
 have hzn := hbn.size
 replace B := B.trans (hbn.mono B.size)
 (try replace b4 := b4.below hbn)
 (try replace b5 := b5.below hbn)
 (try replace r8 := r8.below hbn)
 (try replace b9 := b9.below hbn)
 (try replace r10 := r10.below hbn)
 (try replace g12 := g12.below hbn)
 (try replace r14 := r14.below hbn)
 (try replace g16 := g16.below hbn)
 (try replace rs1 := rs1.below hbn)
 (try replace rs2 := rs2.below hbn)
 (try replace rs3 := rs3.below hbn)
 refine ⟨_, rfl, ?_⟩
 simp only [putS]
 refine wpList_chunk 1 (by kernel_rfl) ?_
 simp only [takS, Nat.reduceAdd]
 repeat (first | go_big_quiet_skip | (go_big_quiet_want; go_big_quiet_op; go_big_quiet_on))
 refine wpQuiet_nil ?_
 refine wpList_nil ?_
 replace g12 : AtB 52 _ b_g12 #[.slice a3 Y1.length c3, .int .i64 E1] := g12
 go_upto_region 7 with fail
 go_cut [59] from 35 to 58 (fun s wx => ∃ b : Bool, s = .bool b ∧ (b = true → fitsE r = 0 → tlN r ≤ 1000) ∧ Below w.heap.size w wx ∧ AtB 31 wx b_b4 (rcA r) ∧ AtB 36 wx b_r8 #[.slice a1 M.length c1] ∧ AtB 36 wx b_r10 #[.slice a2 X1.length c2] ∧ AtB 52 wx b_g12 #[.slice a3 Y1.length c3, .int .i64 E1] ∧ RS (.slice a1 M.length c1) M wx ∧ RS (.slice a2 X1.length c2) X1 wx ∧ RS (.slice a3 Y1.length c3) Y1 wx)
 case first =>
  clear b9 b5
  by_cases hv : validR r = true
  ·obtain ⟨⟨v1, v2⟩, v3, v4, v5, v6⟩ := (validR_iff r).1 hv
   have HV := Lib.hid hv
   have z1 : 0 ≤ (r.x1 - r.x0) * (r.y1 - r.y0) := Int.mul_nonneg (by omega) (by omega)
   have z2 : (r.x1 - r.x0) * (r.y1 - r.y0) ≤ 131072 * 131072 := Int.mul_le_mul (by omega) (by omega) (by omega) (by omega)
   by_cases ha : (r.x1 - r.x0) * (r.y1 - r.y0) ≤ 900
   ·have q1 : decide ((r.x1 - r.x0) * (r.y1 - r.y0) ≤ 900) = true := decide_eq_true ha
    have HA := Lib.hid (show fitsE r = 0 → tlN r ≤ 1000 from fun h => tlN_area900 h ha)
    clear hv ha
    refine wp_region_lit ?_
    try simp only [gelS]
    refine wpList_chunk 14 (by kernel_rfl) ?_
    simp only [takS, Nat.reduceAdd]
    repeat (first | go_big_quiet_skip | (go_big_quiet_want; first | (refine quiet_loadAny (t := 31) rfl _ _ _ rfl (fun w hw => run_load_B (ov_B b9 w hw) Try.isAgg31 (by kernel_rfl)) (by rfl) ?_; simp only [putS]; go_big_quiet_on) | (refine quiet_loadAny (t := 31) rfl _ _ _ rfl (fun w hw => run_load_B (ov_B b4 w hw) Try.isAgg31 (by kernel_rfl)) (by rfl) ?_; simp only [putS]; go_big_quiet_on) | (refine quiet_loadAny (t := 3) rfl _ _ _ rfl (fun w hw => run_load_int ((ov_B b4 w hw).cellL 0 rfl)) (by rfl) ?_; simp only [putS]; go_big_quiet_on) | (refine quiet_loadAny (t := 3) rfl _ _ _ rfl (fun w hw => run_load_int ((ov_B b4 w hw).cellL 1 rfl)) (by rfl) ?_; simp only [putS]; go_big_quiet_on) | (refine quiet_loadAny (t := 3) rfl _ _ _ rfl (fun w hw => run_load_int ((ov_B b4 w hw).cellL 2 rfl)) (by rfl) ?_; simp only [putS]; go_big_quiet_on) | (refine quiet_loadAny (t := 3) rfl _ _ _ rfl (fun w hw => run_load_int ((ov_B b4 w hw).cellL 3 rfl)) (by rfl) ?_; simp only [putS]; go_big_quiet_on) | (go_big_quiet_op; go_big_quiet_on)))
    refine wpQuiet_nil ?_
    refine wpList_skip ?hs8_14 ?_
    case hs8_14 => kernel_rfl
    simp only [putS]
    refine wpList_chunk 10 (by kernel_rfl) ?_
    simp only [takS, Nat.reduceAdd]
    repeat (first | go_big_quiet_skip | (go_big_quiet_want; first | (refine quiet_loadAny (t := 3) rfl _ _ _ rfl (fun w hw => run_load_int ((ov_B b4 w hw).cellL 0 rfl)) (by rfl) ?_; simp only [putS]; go_big_quiet_on) | (refine quiet_loadAny (t := 3) rfl _ _ _ rfl (fun w hw => run_load_int ((ov_B b4 w hw).cellL 1 rfl)) (by rfl) ?_; simp only [putS]; go_big_quiet_on) | (refine quiet_loadAny (t := 3) rfl _ _ _ rfl (fun w hw => run_load_int ((ov_B b4 w hw).cellL 2 rfl)) (by rfl) ?_; simp only [putS]; go_big_quiet_on) | (refine quiet_loadAny (t := 3) rfl _ _ _ rfl (fun w hw => run_load_int ((ov_B b4 w hw).cellL 3 rfl)) (by rfl) ?_; simp only [putS]; go_big_quiet_on) | (go_big_quiet_op; go_big_quiet_on)))
    refine wpQuiet_nil ?_
    refine wpList_nil ?_
    go_wp2
    go_meet
    exact ⟨true, rfl, fun _ => HA.out, B, b4, r8, r10, g12, rs1, rs2, rs3⟩
   ·have q1 : decide ((r.x1 - r.x0) * (r.y1 - r.y0) ≤ 900) = false := decide_eq_false ha
    by_cases hs : 256 < r.x1 - r.x0
    ·have q2 : decide (256 < r.x1 - r.x0) = true := decide_eq_true hs
     have HA := Lib.hid (show fitsE r = 0 → tlN r ≤ 1000 from fun h => by
      have := fitsE_zero h
      have := this.h7
      omega)
     clear hv ha
     refine wp_region_lit ?_
     try simp only [gelS]
     refine wpList_chunk 14 (by kernel_rfl) ?_
     simp only [takS, Nat.reduceAdd]
     repeat (first | go_big_quiet_skip | (go_big_quiet_want; first | (refine quiet_loadAny (t := 31) rfl _ _ _ rfl (fun w hw => run_load_B (ov_B b9 w hw) Try.isAgg31 (by kernel_rfl)) (by rfl) ?_; simp only [putS]; go_big_quiet_on) | (refine quiet_loadAny (t := 31) rfl _ _ _ rfl (fun w hw => run_load_B (ov_B b4 w hw) Try.isAgg31 (by kernel_rfl)) (by rfl) ?_; simp only [putS]; go_big_quiet_on) | (refine quiet_loadAny (t := 3) rfl _ _ _ rfl (fun w hw => run_load_int ((ov_B b4 w hw).cellL 0 rfl)) (by rfl) ?_; simp only [putS]; go_big_quiet_on) | (refine quiet_loadAny (t := 3) rfl _ _ _ rfl (fun w hw => run_load_int ((ov_B b4 w hw).cellL 1 rfl)) (by rfl) ?_; simp only [putS]; go_big_quiet_on) | (refine quiet_loadAny (t := 3) rfl _ _ _ rfl (fun w hw => run_load_int ((ov_B b4 w hw).cellL 2 rfl)) (by rfl) ?_; simp only [putS]; go_big_quiet_on) | (refine quiet_loadAny (t := 3) rfl _ _ _ rfl (fun w hw => run_load_int ((ov_B b4 w hw).cellL 3 rfl)) (by rfl) ?_; simp only [putS]; go_big_quiet_on) | (go_big_quiet_op; go_big_quiet_on)))
     refine wpQuiet_nil ?_
     refine wpList_callF (by first | rfl | simp [Region.wanted, yielded]) rfl (enters_of Try.func27 (by kernel_rfl) rfl) (by simp only [Act.eval, evlS]; rfl) ?_
     refine (R_ValidRW r true _ HV.out).mono ?_
     rintro e wn ⟨rfl, hbn⟩
     have hsz := B.size
     have hzn := hbn.size
     replace B := B.trans (hbn.mono B.size)
     (try replace b4 := b4.below hbn)
     (try replace b5 := b5.below hbn)
     (try replace r8 := r8.below hbn)
     (try replace b9 := b9.below hbn)
     (try replace r10 := r10.below hbn)
     (try replace g12 := g12.below hbn)
     (try replace r14 := r14.below hbn)
     (try replace g16 := g16.below hbn)
     (try replace rs1 := rs1.below hbn)
     (try replace rs2 := rs2.below hbn)
     (try replace rs3 := rs3.below hbn)
     refine ⟨_, rfl, ?_⟩
     simp only [putS]
     refine wpList_chunk 10 (by kernel_rfl) ?_
     simp only [takS, Nat.reduceAdd]
     repeat (first | go_big_quiet_skip | (go_big_quiet_want; first | (refine quiet_loadAny (t := 3) rfl _ _ _ rfl (fun w hw => run_load_int ((ov_B b4 w hw).cellL 0 rfl)) (by rfl) ?_; simp only [putS]; go_big_quiet_on) | (refine quiet_loadAny (t := 3) rfl _ _ _ rfl (fun w hw => run_load_int ((ov_B b4 w hw).cellL 1 rfl)) (by rfl) ?_; simp only [putS]; go_big_quiet_on) | (refine quiet_loadAny (t := 3) rfl _ _ _ rfl (fun w hw => run_load_int ((ov_B b4 w hw).cellL 2 rfl)) (by rfl) ?_; simp only [putS]; go_big_quiet_on) | (refine quiet_loadAny (t := 3) rfl _ _ _ rfl (fun w hw => run_load_int ((ov_B b4 w hw).cellL 3 rfl)) (by rfl) ?_; simp only [putS]; go_big_quiet_on) | (go_big_quiet_op; go_big_quiet_on)))
     refine wpQuiet_nil ?_
     refine wpList_nil ?_
     go_wp2
     go_meet
     exact ⟨true, rfl, fun _ => HA.out, B, b4, r8, r10, g12, rs1, rs2, rs3⟩
    ·have q2 : decide (256 < r.x1 - r.x0) = false := decide_eq_false hs
     clear hv ha
     refine wp_region_lit ?_
     try simp only [gelS]
     refine wpList_chunk 14 (by kernel_rfl) ?_
     simp only [takS, Nat.reduceAdd]
     repeat (first | go_big_quiet_skip | (go_big_quiet_want; first | (refine quiet_loadAny (t := 31) rfl _ _ _ rfl (fun w hw => run_load_B (ov_B b9 w hw) Try.isAgg31 (by kernel_rfl)) (by rfl) ?_; simp only [putS]; go_big_quiet_on) | (refine quiet_loadAny (t := 31) rfl _ _ _ rfl (fun w hw => run_load_B (ov_B b4 w hw) Try.isAgg31 (by kernel_rfl)) (by rfl) ?_; simp only [putS]; go_big_quiet_on) | (refine quiet_loadAny (t := 3) rfl _ _ _ rfl (fun w hw => run_load_int ((ov_B b4 w hw).cellL 0 rfl)) (by rfl) ?_; simp only [putS]; go_big_quiet_on) | (refine quiet_loadAny (t := 3) rfl _ _ _ rfl (fun w hw => run_load_int ((ov_B b4 w hw).cellL 1 rfl)) (by rfl) ?_; simp only [putS]; go_big_quiet_on) | (refine quiet_loadAny (t := 3) rfl _ _ _ rfl (fun w hw => run_load_int ((ov_B b4 w hw).cellL 2 rfl)) (by rfl) ?_; simp only [putS]; go_big_quiet_on) | (refine quiet_loadAny (t := 3) rfl _ _ _ rfl (fun w hw => run_load_int ((ov_B b4 w hw).cellL 3 rfl)) (by rfl) ?_; simp only [putS]; go_big_quiet_on) | (go_big_quiet_op; go_big_quiet_on)))
     refine wpQuiet_nil ?_
     refine wpList_callF (by first | rfl | simp [Region.wanted, yielded]) rfl (enters_of Try.func27 (by kernel_rfl) rfl) (by simp only [Act.eval, evlS]; rfl) ?_
     refine (R_ValidRW r true _ HV.out).mono ?_
     rintro e wn ⟨rfl, hbn⟩
     have hsz := B.size
     have hzn := hbn.size
     replace B := B.trans (hbn.mono B.size)
     (try replace b4 := b4.below hbn)
     (try replace b5 := b5.below hbn)
     (try replace r8 := r8.below hbn)
     (try replace b9 := b9.below hbn)
     (try replace r10 := r10.below hbn)
     (try replace g12 := g12.below hbn)
     (try replace r14 := r14.below hbn)
     (try replace g16 := g16.below hbn)
     (try replace rs1 := rs1.below hbn)
     (try replace rs2 := rs2.below hbn)
     (try replace rs3 := rs3.below hbn)
     refine ⟨_, rfl, ?_⟩
     simp only [putS]
     refine wpList_chunk 10 (by kernel_rfl) ?_
     simp only [takS, Nat.reduceAdd]
     repeat (first | go_big_quiet_skip | (go_big_quiet_want; first | (refine quiet_loadAny (t := 3) rfl _ _ _ rfl (fun w hw => run_load_int ((ov_B b4 w hw).cellL 0 rfl)) (by rfl) ?_; simp only [putS]; go_big_quiet_on) | (refine quiet_loadAny (t := 3) rfl _ _ _ rfl (fun w hw => run_load_int ((ov_B b4 w hw).cellL 1 rfl)) (by rfl) ?_; simp only [putS]; go_big_quiet_on) | (refine quiet_loadAny (t := 3) rfl _ _ _ rfl (fun w hw => run_load_int ((ov_B b4 w hw).cellL 2 rfl)) (by rfl) ?_; simp only [putS]; go_big_quiet_on) | (refine quiet_loadAny (t := 3) rfl _ _ _ rfl (fun w hw => run_load_int ((ov_B b4 w hw).cellL 3 rfl)) (by rfl) ?_; simp only [putS]; go_big_quiet_on) | (go_big_quiet_op; go_big_quiet_on)))
     refine wpQuiet_nil ?_
     refine wpList_nil ?_
     go_wp2
     go_meet
     exact ⟨false, rfl, fun h => absurd h (by decide), B, b4, r8, r10, g12, rs1, rs2, rs3⟩
  ·have hv' : validR r = false := by simpa using hv
   have HV := Lib.hid hv'
   have HA := Lib.hid (show fitsE r = 0 → tlN r ≤ 1000 from fun h => by
    rcases fits_cases r with ⟨_, h2⟩ | ⟨h1, _⟩ | ⟨h1, _⟩
    ·omega
    ·rw [hv'] at h1; cases h1
    ·rw [hv'] at h1; cases h1)
   clear hv hv'
   cases hb : decide (wrap64 (wrap64 (r.x1 - r.x0) * wrap64 (r.y1 - r.y0)) ≤ 900) with
   | true =>
    refine wp_region_lit ?_
    try simp only [gelS]
    refine wpList_chunk 14 (by kernel_rfl) ?_
    simp only [takS, Nat.reduceAdd]
    repeat (first | go_big_quiet_skip | (go_big_quiet_want; first | (refine quiet_loadAny (t := 31) rfl _ _ _ rfl (fun w hw => run_load_B (ov_B b9 w hw) Try.isAgg31 (by kernel_rfl)) (by rfl) ?_; simp only [putS]; go_big_quiet_on) | (refine quiet_loadAny (t := 31) rfl _ _ _ rfl (fun w hw => run_load_B (ov_B b4 w hw) Try.isAgg31 (by kernel_rfl)) (by rfl) ?_; simp only [putS]; go_big_quiet_on) | (refine quiet_loadAny (t := 3) rfl _ _ _ rfl (fun w hw => run_load_int ((ov_B b4 w hw).cellL 0 rfl)) (by rfl) ?_; simp only [putS]; go_big_quiet_on) | (refine quiet_loadAny (t := 3) rfl _ _ _ rfl (fun w hw => run_load_int ((ov_B b4 w hw).cellL 1 rfl)) (by rfl) ?_; simp only [putS]; go_big_quiet_on) | (refine quiet_loadAny (t := 3) rfl _ _ _ rfl (fun w hw => run_load_int ((ov_B b4 w hw).cellL 2 rfl)) (by rfl) ?_; simp only [putS]; go_big_quiet_on) | (refine quiet_loadAny (t := 3) rfl _ _ _ rfl (fun w hw => run_load_int ((ov_B b4 w hw).cellL 3 rfl)) (by rfl) ?_; simp only [putS]; go_big_quiet_on) | (go_big_quiet_op; go_big_quiet_on)))
    refine wpQuiet_nil ?_
    refine wpList_skip ?hs11_14 ?_
    case hs11_14 => kernel_rfl
    simp only [putS]
    refine wpList_chunk 10 (by kernel_rfl) ?_
    simp only [takS, Nat.reduceAdd]
    repeat (first | go_big_quiet_skip | (go_big_quiet_want; first | (refine quiet_loadAny (t := 3) rfl _ _ _ rfl (fun w hw => run_load_int ((ov_B b4 w hw).cellL 0 rfl)) (by rfl) ?_; simp only [putS]; go_big_quiet_on) | (refine quiet_loadAny (t := 3) rfl _ _ _ rfl (fun w hw => run_load_int ((ov_B b4 w hw).cellL 1 rfl)) (by rfl) ?_; simp only [putS]; go_big_quiet_on) | (refine quiet_loadAny (t := 3) rfl _ _ _ rfl (fun w hw => run_load_int ((ov_B b4 w hw).cellL 2 rfl)) (by rfl) ?_; simp only [putS]; go_big_quiet_on) | (refine quiet_loadAny (t := 3) rfl _ _ _ rfl (fun w hw => run_load_int ((ov_B b4 w hw).cellL 3 rfl)) (by rfl) ?_; simp only [putS]; go_big_quiet_on) | (go_big_quiet_op; go_big_quiet_on)))
    refine wpQuiet_nil ?_
    refine wpList_nil ?_
    go_wp2
    go_meet
    exact ⟨true, rfl, fun _ => HA.out, B, b4, r8, r10, g12, rs1, rs2, rs3⟩
   | false =>
    refine wp_region_lit ?_
    try simp only [gelS]
    refine wpList_chunk 14 (by kernel_rfl) ?_
    simp only [takS, Nat.reduceAdd]
    repeat (first | go_big_quiet_skip | (go_big_quiet_want; first | (refine quiet_loadAny (t := 31) rfl _ _ _ rfl (fun w hw => run_load_B (ov_B b9 w hw) Try.isAgg31 (by kernel_rfl)) (by rfl) ?_; simp only [putS]; go_big_quiet_on) | (refine quiet_loadAny (t := 31) rfl _ _ _ rfl (fun w hw => run_load_B (ov_B b4 w hw) Try.isAgg31 (by kernel_rfl)) (by rfl) ?_; simp only [putS]; go_big_quiet_on) | (refine quiet_loadAny (t := 3) rfl _ _ _ rfl (fun w hw => run_load_int ((ov_B b4 w hw).cellL 0 rfl)) (by rfl) ?_; simp only [putS]; go_big_quiet_on) | (refine quiet_loadAny (t := 3) rfl _ _ _ rfl (fun w hw => run_load_int ((ov_B b4 w hw).cellL 1 rfl)) (by rfl) ?_; simp only [putS]; go_big_quiet_on) | (refine quiet_loadAny (t := 3) rfl _ _ _ rfl (fun w hw => run_load_int ((ov_B b4 w hw).cellL 2 rfl)) (by rfl) ?_; simp only [putS]; go_big_quiet_on) | (refine quiet_loadAny (t := 3) rfl _ _ _ rfl (fun w hw => run_load_int ((ov_B b4 w hw).cellL 3 rfl)) (by rfl) ?_; simp only [putS]; go_big_quiet_on) | (go_big_quiet_op; go_big_quiet_on)))
    refine wpQuiet_nil ?_
    refine wpList_callF (by first | rfl | simp [Region.wanted, yielded]) rfl (enters_of Try.func27 (by kernel_rfl) rfl) (by simp only [Act.eval, evlS]; rfl) ?_
    refine (R_ValidRW r false _ HV.out).mono ?_
    rintro e wn ⟨rfl, hbn⟩
    have hsz := B.size
    have hzn := hbn.size
    replace B := B.trans (hbn.mono B.size)
    (try replace b4 := b4.below hbn)
    (try replace b5 := b5.below hbn)
    (try replace r8 := r8.below hbn)
    (try replace b9 := b9.below hbn)
    (try replace r10 := r10.below hbn)
    (try replace g12 := g12.below hbn)
    (try replace r14 := r14.below hbn)
    (try replace g16 := g16.below hbn)
    (try replace rs1 := rs1.below hbn)
    (try replace rs2 := rs2.below hbn)
    (try replace rs3 := rs3.below hbn)
    refine ⟨_, rfl, ?_⟩
    simp only [putS]
    refine wpList_chunk 10 (by kernel_rfl) ?_
    simp only [takS, Nat.reduceAdd]
    repeat (first | go_big_quiet_skip | (go_big_quiet_want; first | (refine quiet_loadAny (t := 3) rfl _ _ _ rfl (fun w hw => run_load_int ((ov_B b4 w hw).cellL 0 rfl)) (by rfl) ?_; simp only [putS]; go_big_quiet_on) | (refine quiet_loadAny (t := 3) rfl _ _ _ rfl (fun w hw => run_load_int ((ov_B b4 w hw).cellL 1 rfl)) (by rfl) ?_; simp only [putS]; go_big_quiet_on) | (refine quiet_loadAny (t := 3) rfl _ _ _ rfl (fun w hw => run_load_int ((ov_B b4 w hw).cellL 2 rfl)) (by rfl) ?_; simp only [putS]; go_big_quiet_on) | (refine quiet_loadAny (t := 3) rfl _ _ _ rfl (fun w hw => run_load_int ((ov_B b4 w hw).cellL 3 rfl)) (by rfl) ?_; simp only [putS]; go_big_quiet_on) | (go_big_quiet_op; go_big_quiet_on)))
    refine wpQuiet_nil ?_
    refine wpList_nil ?_
    go_wp2
    go_meet
    exact ⟨true, rfl, fun _ => HA.out, B, b4, r8, r10, g12, rs1, rs2, rs3⟩
 case rest =>
  clear B b4 b5 b9 r8 r10 g12 rs1 rs2 rs3
  obtain ⟨b, rfl, hbA, B, b4, r8, r10, g12, rs1, rs2, rs3⟩ := hcut
  go_upto_if 59 with fail
  cases b with
  | true =>
   have hA := hbA rfl
   clear hbA
   obtain ⟨X2, Y2, E2, hX2, hY2, lX2, lY2, eq2, P2, R2⟩ := HBOTH.out hA
   have HX2 := Lib.hid hX2
   have HY2 := Lib.hid hY2
   have HE2 := Lib.hid eq2
   have HP2 := Lib.hid P2
   have HR2 := Lib.hid R2
   clear hX2 hY2 eq2 P2 R2 hA
   go_upto_region 8 with fail
   refine wp_region_lit ?_
   try simp only [gelS]
   refine wpList_chunk 2 (by kernel_rfl) ?_
   simp only [takS, Nat.reduceAdd]
   repeat (first | go_big_quiet_skip | (go_big_quiet_want; first | (refine quiet_loadAny (t := 36) rfl _ _ _ rfl (fun w hw => run_load_B (ov_B r8 w hw) Try.isAgg36 (by kernel_rfl)) (by rfl) ?_; simp only [putS]; go_big_quiet_on) | (refine quiet_loadAny (t := 36) rfl _ _ _ rfl (fun w hw => run_load_B (ov_B r10 w hw) Try.isAgg36 (by kernel_rfl)) (by rfl) ?_; simp only [putS]; go_big_quiet_on) | (refine quiet_loadAny (t := 36) rfl _ _ _ rfl (fun w hw => run_load_B (ov_B r14 w hw) Try.isAgg36 (by kernel_rfl)) (by rfl) ?_; simp only [putS]; go_big_quiet_on) | (refine quiet_loadAny (t := 31) rfl _ _ _ rfl (fun w hw => run_load_B (ov_B b9 w hw) Try.isAgg31 (by kernel_rfl)) (by rfl) ?_; simp only [putS]; go_big_quiet_on) | (refine quiet_loadAny (t := 31) rfl _ _ _ rfl (fun w hw => run_load_B (ov_B b4 w hw) Try.isAgg31 (by kernel_rfl)) (by rfl) ?_; simp only [putS]; go_big_quiet_on) | (refine quiet_loadAny (t := 36) rfl _ _ _ rfl (fun w hw => run_load_ras ((ov_B g12 w hw).cell 0 rfl)) (by first | rfl | omega) ?_; simp only [putS]; go_big_quiet_on) | (refine quiet_loadAny (t := 36) rfl _ _ _ rfl (fun w hw => run_load_ras ((ov_B g16 w hw).cell 0 rfl)) (by first | rfl | omega) ?_; simp only [putS]; go_big_quiet_on) | (go_big_quiet_op; go_big_quiet_on)))
   refine wpQuiet_nil ?_
   refine wpList_callF (by first | rfl | simp [Region.wanted, yielded]) rfl (enters_of Try.func24 (by kernel_rfl) rfl) (by simp only [Act.eval, evlS]; rfl) ?_
   refine (HP2.out _ _ rs1).mono ?_
   rintro e wn ⟨a4, c4, rfl, rs4, hbn⟩
   have hsz := B.size
   have hzn := hbn.size
   replace B := B.trans (hbn.mono B.size)
   (try replace b4 := b4.below hbn)
   (try replace r8 := r8.below hbn)
   (try replace b9 := b9.below hbn)
   (try replace r10 := r10.below hbn)
   (try replace g12 := g12.below hbn)
   (try replace r14 := r14.below hbn)
   (try replace g16 := g16.below hbn)
   (try replace rs1 := rs1.below hbn)
   (try replace rs4 := rs4.below hbn)
   refine ⟨_, rfl, ?_⟩
   simp only [putS]
   refine wpList_chunk 3 (by kernel_rfl) ?_
   simp only [takS, Nat.reduceAdd]
   repeat (first | go_big_quiet_skip | (go_big_quiet_want; go_big_quiet_op; go_big_quiet_on))
   refine wpQuiet_nil ?_
   (refine wpList_allocBk (t := 36) rfl _ (run_alloc_R _ _ rfl) ?_; intro b_r14 wn hle hge ht hbn hzn; have hsz := B.size; replace B := B.trans (hbn.mono (by omega)); have hln := Nat.lt_of_lt_of_eq (Nat.lt_succ_self _) hzn.symm; clear hzn; (try have hlt := b4.lt); (try replace b4 := b4.below (hbn.mono hle)); (try have hlt := b5.lt); (try have hlt := r8.lt); (try replace r8 := r8.below (hbn.mono hle)); (try have hlt := b9.lt); (try replace b9 := b9.below (hbn.mono hle)); (try have hlt := r10.lt); (try replace r10 := r10.below (hbn.mono hle)); (try have hlt := g12.lt); (try replace g12 := g12.below (hbn.mono hle)); (try have hlt := r14.lt); (try replace r14 := r14.below (hbn.mono hle)); (try have hlt := g16.lt); (try replace g16 := g16.below (hbn.mono hle)); (try have hlt := rs1.lt); (try replace rs1 := rs1.below (hbn.mono hle)); (try have hlt := rs2.lt); (try have hlt := rs3.lt); (try have hlt := rs4.lt); (try replace rs4 := rs4.below (hbn.mono hle)); have r14 := ht; clear ht; simp only [putS])
   (refine wpList_storeB (t := 36) rfl _ _ rfl _ rfl _ rfl r14 (by kernel_rfl) rfl (by simp [rcA, Value.oneCell']) ?_; have r14o := r14; clear r14; intro wn ht hcn hzn; (try replace rs1 := rs1.chg r14o (by simp [rcA]) hcn); (try replace rs4 := rs4.chg r14o (by simp [rcA]) hcn); (try replace rs5 := rs5.chg r14o (by simp [rcA]) hcn); have hsz := B.size; replace hzn := Nat.le_of_eq hzn.symm; replace B := Chg.below B hcn (by omega) B.size; (try replace b4 := b4.of_eq (hcn.block _ b4.lt (by omega))); (try replace r8 := r8.of_eq (hcn.block _ r8.lt (by omega))); (try replace b9 := b9.of_eq (hcn.block _ b9.lt (by omega))); (try replace r10 := r10.of_eq (hcn.block _ r10.lt (by omega))); (try replace g12 := g12.of_eq (hcn.block _ g12.lt (by omega))); (try replace g16 := g16.of_eq (hcn.block _ g16.lt (by omega))); (try replace rs1 := rs1.of_eq (hcn.block _ rs1.lt (by omega))); (try replace rs4 := rs4.of_eq (hcn.block _ rs4.lt (by omega))); have r14 := ht; clear ht; simp only [putS])
   refine wpList_chunk 1 (by kernel_rfl) ?_
   simp only [takS, Nat.reduceAdd]
   repeat (first | go_big_quiet_skip | (go_big_quiet_want; go_big_quiet_op; go_big_quiet_on))
   refine wpQuiet_nil ?_
   refine wpList_nil ?_
   go_upto_region 9 with fail
   refine wp_region_lit ?_
   try simp only [gelS]
   refine wpList_chunk 2 (by kernel_rfl) ?_
   simp only [takS, Nat.reduceAdd]
   repeat (first | go_big_quiet_skip | (go_big_quiet_want; first | (refine quiet_loadAny (t := 36) rfl _ _ _ rfl (fun w hw => run_load_B (ov_B r8 w hw) Try.isAgg36 (by kernel_rfl)) (by rfl) ?_; simp only [putS]; go_big_quiet_on) | (refine quiet_loadAny (t := 36) rfl _ _ _ rfl (fun w hw => run_load_B (ov_B r10 w hw) Try.isAgg36 (by kernel_rfl)) (by rfl) ?_; simp only [putS]; go_big_quiet_on) | (refine quiet_loadAny (t := 36) rfl _ _ _ rfl (fun w hw => run_load_B (ov_B r14 w hw) Try.isAgg36 (by kernel_rfl)) (by rfl) ?_; simp only [putS]; go_big_quiet_on) | (refine quiet_loadAny (t := 31) rfl _ _ _ rfl (fun w hw => run_load_B (ov_B b9 w hw) Try.isAgg31 (by kernel_rfl)) (by rfl) ?_; simp only [putS]; go_big_quiet_on) | (refine quiet_loadAny (t := 31) rfl _ _ _ rfl (fun w hw => run_load_B (ov_B b4 w hw) Try.isAgg31 (by kernel_rfl)) (by rfl) ?_; simp only [putS]; go_big_quiet_on) | (refine quiet_loadAny (t := 36) rfl _ _ _ rfl (fun w hw => run_load_ras ((ov_B g12 w hw).cell 0 rfl)) (by first | rfl | omega) ?_; simp only [putS]; go_big_quiet_on) | (refine quiet_loadAny (t := 36) rfl _ _ _ rfl (fun w hw => run_load_ras ((ov_B g16 w hw).cell 0 rfl)) (by first | rfl | omega) ?_; simp only [putS]; go_big_quiet_on) | (go_big_quiet_op; go_big_quiet_on)))
   refine wpQuiet_nil ?_
   refine wpList_callF (by first | rfl | simp [Region.wanted, yielded]) rfl (enters_of Try.func25 (by kernel_rfl) rfl) (by simp only [Act.eval, evlS]; rfl) ?_
   refine (HR2.out _ _ rs1).mono ?_
   rintro e wn ⟨a5, c5, rfl, rs5, hbn⟩
   have hsz := B.size
   have hzn := hbn.size
   replace B := B.trans (hbn.mono B.size)
   (try replace r8 := r8.below hbn)
   (try replace r10 := r10.below hbn)
   (try replace g12 := g12.below hbn)
   (try replace r14 := r14.below hbn)
   (try replace g16 := g16.below hbn)
   (try replace rs4 := rs4.below hbn)
   (try replace rs5 := rs5.below hbn)
   refine ⟨_, rfl, ?_⟩
   simp only [putS]
   (refine wpList_allocBk (t := 52) rfl _ (run_alloc_G15 _ _ rfl) ?_; intro b_g16 wn hle hge ht hbn hzn; have hsz := B.size; replace B := B.trans (hbn.mono (by omega)); have hln := Nat.lt_of_lt_of_eq (Nat.lt_succ_self _) hzn.symm; clear hzn; (try have hlt := b4.lt); (try have hlt := b5.lt); (try have hlt := r8.lt); (try replace r8 := r8.below (hbn.mono hle)); (try have hlt := b9.lt); (try have hlt := r10.lt); (try replace r10 := r10.below (hbn.mono hle)); (try have hlt := g12.lt); (try replace g12 := g12.below (hbn.mono hle)); (try have hlt := r14.lt); (try replace r14 := r14.below (hbn.mono hle)); (try have hlt := g16.lt); (try replace g16 := g16.below (hbn.mono hle)); (try have hlt := rs1.lt); (try have hlt := rs2.lt); (try have hlt := rs3.lt); (try have hlt := rs4.lt); (try replace rs4 := rs4.below (hbn.mono hle)); (try have hlt := rs5.lt); (try replace rs5 := rs5.below (hbn.mono hle)); have g16 := ht; clear ht; simp only [putS])
   (refine wpList_storeB (t := 52) rfl _ _ rfl _ rfl _ rfl g16 (by kernel_rfl) rfl (by simp [rcA, Value.oneCell']) ?_; have g16o := g16; clear g16; intro wn ht hcn hzn; (try replace rs4 := rs4.chg g16o (by simp [rcA]) hcn); (try replace rs5 := rs5.chg g16o (by simp [rcA]) hcn); have hsz := B.size; replace hzn := Nat.le_of_eq hzn.symm; replace B := Chg.below B hcn (by omega) B.size; (try replace r8 := r8.of_eq (hcn.block _ r8.lt (by omega))); (try replace r10 := r10.of_eq (hcn.block _ r10.lt (by omega))); (try replace g12 := g12.of_eq (hcn.block _ g12.lt (by omega))); (try replace r14 := r14.of_eq (hcn.block _ r14.lt (by omega))); (try replace rs4 := rs4.of_eq (hcn.block _ rs4.lt (by omega))); (try replace rs5 := rs5.of_eq (hcn.block _ rs5.lt (by omega))); have g16 := ht; clear ht; simp only [putS])
   refine wpList_nil ?_
   go_upto_region 10 with fail
   refine wp_region_lit ?_
   try simp only [gelS]
   refine wpList_chunk 14 (by kernel_rfl) ?_
   simp only [takS, Nat.reduceAdd]
   repeat (first | go_big_quiet_skip | (go_big_quiet_want; first | (refine quiet_loadAny (t := 36) rfl _ _ _ rfl (fun w hw => run_load_B (ov_B r8 w hw) Try.isAgg36 (by kernel_rfl)) (by rfl) ?_; simp only [putS]; go_big_quiet_on) | (refine quiet_loadAny (t := 36) rfl _ _ _ rfl (fun w hw => run_load_B (ov_B r10 w hw) Try.isAgg36 (by kernel_rfl)) (by rfl) ?_; simp only [putS]; go_big_quiet_on) | (refine quiet_loadAny (t := 36) rfl _ _ _ rfl (fun w hw => run_load_B (ov_B r14 w hw) Try.isAgg36 (by kernel_rfl)) (by rfl) ?_; simp only [putS]; go_big_quiet_on) | (refine quiet_loadAny (t := 36) rfl _ _ _ rfl (fun w hw => run_load_ras ((ov_B g12 w hw).cell 0 rfl)) (by first | rfl | omega) ?_; simp only [putS]; go_big_quiet_on) | (refine quiet_loadAny (t := 36) rfl _ _ _ rfl (fun w hw => run_load_ras ((ov_B g16 w hw).cell 0 rfl)) (by first | rfl | omega) ?_; simp only [putS]; go_big_quiet_on) | (refine quiet_loadAny (t := 48) rfl _ _ _ rfl (fun w hw => run_load_err ((ov_B g12 w hw).cell 1 rfl)) (by first | rfl | omega) ?_; simp only [putS]; go_big_quiet_on) | (refine quiet_loadAny (t := 48) rfl _ _ _ rfl (fun w hw => run_load_err ((ov_B g16 w hw).cell 1 rfl)) (by first | rfl | omega) ?_; simp only [putS]; go_big_quiet_on) | (go_big_quiet_op; go_big_quiet_on)))
   refine wpQuiet_nil ?_
   refine wpList_callF (by first | rfl | simp [Region.wanted, yielded]) rfl (enters_of Try.func26 (by kernel_rfl) rfl) (by simp only [Act.eval, evlS]; rfl) ?_
   refine (R_EqualT _ _ X2 Y2 _ rs4 rs5 HX2.out HY2.out lX2 lY2 HE2.out).mono ?_
   rintro e wn ⟨rfl, hbn⟩
   have hsz := B.size
   have hzn := hbn.size
   replace B := B.trans (hbn.mono B.size)
   (try replace g12 := g12.below hbn)
   (try replace g16 := g16.below hbn)
   refine ⟨_, rfl, ?_⟩
   simp only [putS]
   refine wpList_chunk 8 (by kernel_rfl) ?_
   simp only [takS, Nat.reduceAdd]
   repeat (first | go_big_quiet_skip | (go_big_quiet_want; first | (refine quiet_loadAny (t := 48) rfl _ _ _ rfl (fun w hw => run_load_err ((ov_B g12 w hw).cell 1 rfl)) (by first | rfl | omega) ?_; simp only [putS]; go_big_quiet_on) | (refine quiet_loadAny (t := 48) rfl _ _ _ rfl (fun w hw => run_load_err ((ov_B g16 w hw).cell 1 rfl)) (by first | rfl | omega) ?_; simp only [putS]; go_big_quiet_on) | (go_big_quiet_op; go_big_quiet_on)))
   refine wpQuiet_nil ?_
   refine wpList_nil ?_
   go_wp2
   go_ret
   exact ⟨rfl, B⟩
  | false =>
   clear hbA
   go_upto_region 11 with fail
   refine wp_region_lit ?_
   try simp only [gelS]
   refine wpList_chunk 11 (by kernel_rfl) ?_
   simp only [takS, Nat.reduceAdd]
   repeat (first | go_big_quiet_skip | (go_big_quiet_want; first | (refine quiet_loadAny (t := 48) rfl _ _ _ rfl (fun w hw => run_load_err ((ov_B g12 w hw).cell 1 rfl)) (by first | rfl | omega) ?_; simp only [putS]; go_big_quiet_on) | (refine quiet_loadAny (t := 48) rfl _ _ _ rfl (fun w hw => run_load_err ((ov_B g16 w hw).cell 1 rfl)) (by first | rfl | omega) ?_; simp only [putS]; go_big_quiet_on) | (go_big_quiet_op; go_big_quiet_on)))
   refine wpQuiet_nil ?_
   refine wpList_nil ?_
   go_wp2
   go_ret
   exact ⟨rfl, B⟩
namespace selectionInverts
open Go.ChangeShapes Go.WideShapes Go.ChangeAt Go.RowKit
open Go.ChangeMaps (open_string shut_string)
set_option maxRecDepth 100000 in
theorem lifted (os : Os) (started : os.Started) (H : Type) (enc : TypeId × Value → H) :
  ReturnsInHanded {} Try.checked os 6 .any (Rows.selectionInvertsSpec.pre6 enc Try.prog Try.f6 Rows.selectionInvertsRow.domain false) (Rows.selectionInvertsSpec.post enc Try.prog Try.f6 false true false false) := by
 refine returnsInHanded_of_change_sized (C := Try.checked) own started (by kernel_rfl) Try.func6
  (ChangeSpec.witness6 (enc := enc) (C := Try.checked) false ⟨#[], #[.slice none 0 0, .agg #[.int .i64 0, .int .i64 0, .int .i64 0, .int .i64 0], .agg #[.int .i64 0, .int .i64 0, .int .i64 0, .int .i64 0]], []⟩ 8 (by kernel_rfl) (by kernel_rfl) (by kernel_rfl) (by kernel_rfl)) ?_
 intro W base args ds gs before hval0 hW hcnd hsz0 _
 have hval : ∀ (j : Nat) t v, Try.f6.params[j]? = some t → args[j]? = some v → Value.okWide Try.prog W .any base t v := hval0
 have hW' := hW
 obtain ⟨p, q, hA0, hV, rfl, hfz, hnd⟩ := hW
 have hA : DataW.TrodAll enc Try.prog W 0 (fun _ => true) true Try.f6.params.toList args.toList ds p := hA0
 rw [Try.params6] at hA hval hsz0
 obtain ⟨v0, vs0, d0, ds0, p0, q0, hargs, rfl, rfl, h0, r0⟩ := trodAll_cons hA
 obtain ⟨v1, vs1, d1, ds1, p1, q1, rfl, rfl, rfl, h1, r1⟩ := trodAll_cons r0
 obtain ⟨v2, vs2, d2, ds2, p2, q2, rfl, rfl, rfl, h2, r2⟩ := trodAll_cons r1
 obtain ⟨rfl, rfl, rfl⟩ := trodAll_nil r2
 obtain rfl : args = #[v0, v1, v2] := by cases args; simp_all
 obtain ⟨rfl, rfl⟩ := trodVars_none hV
 have hwt0 : ∀ n ∈ DataW.weights Try.prog 23 d0, n ≤ reachBytes := fun n hn => by simpa using List.all_eq_true.1 hsz0 n (DataW.weights_mem_each (j := 0) rfl rfl n hn)
 have k0 := h0
 have lt0 : ∀ x ∈ p0, x.block < W.heap.size := by obtain ⟨m, hm⟩ := k0; exact DataW.trod_lt m _ _ _ hm
 have k1 := h1
 have lt1 : ∀ x ∈ p1, x.block < W.heap.size := by obtain ⟨m, hm⟩ := k1; exact DataW.trod_lt m _ _ _ hm
 have k2 := h2
 have lt2 : ∀ x ∈ p2, x.block < W.heap.size := by obtain ⟨m, hm⟩ := k2; exact DataW.trod_lt m _ _ _ hm
 obtain ⟨L0, hL0, hLn0, hLw0⟩ := open_intsW (hval 0 23 v0 rfl rfl) h0 hwt0
 obtain ⟨c1, rfl, wc1⟩ := open_rect (hval 1 31 v1 rfl rfl) h1
 obtain ⟨a2, b2, c2, e2, rfl, w2⟩ := open_int4 (hval 2 46 v2 rfl rfl) h2
 clear hA0 hval0
 refine (walk_SelectionInverts v0 L0 c1 a2 b2 c2 e2  wc1 w2 W hL0 hLn0 hLw0).mono fun e W' ⟨he, bel⟩ => ?_
 subst he
 exact ⟨_, rfl, _, _, _, [], _, [], hW', trodAll_mk1 (shut_bool Try.underlying4 _), (trodAll_cons_mk (Below.trod laidOut (by kernel_rfl) (of_decide_eq_true (by kernel_rfl)) k0 bel lt0) (trodAll_cons_mk (Below.trod laidOut (by kernel_rfl) (of_decide_eq_true (by kernel_rfl)) k1 bel lt1) (trodAll_cons_mk (Below.trod laidOut (by kernel_rfl) (of_decide_eq_true (by kernel_rfl)) k2 bel lt2) trodAll_mk0))), rfl, bel.frame _, fun h => by cases h⟩
theorem over : Rows.selectionInvertsRow.holds Try.pinned (OpenSpec.ofChange Rows.selectionInvertsSpec) :=
 OpenClaim.holds_of_wide 6 Try.f6 rfl rfl rfl rfl rfl rfl rfl ⟨rfl, rfl, rfl, rfl, rfl⟩ rfl rfl rfl rfl rfl (by kernel_rfl) Try.func6 (by kernel_rfl)
  (of_decide_eq_true (by kernel_rfl)) (by unfold Func.isWrapper; first | (rw [if_pos (by decide +kernel)]; kernel_rfl) | (rw [if_neg (by decide +kernel)]; exact ⟨rfl, rfl⟩))
  (fun os started H enc _ => lifted os started H enc)
/-- THE STATEMENT: SelectionInverts returns true for every input, and its arguments read as they did. -/
theorem proved : Rows.SelectionInvertsSaid := over
end selectionInverts
end Go.Proofs.Ytamgpfblhlfhaaa
