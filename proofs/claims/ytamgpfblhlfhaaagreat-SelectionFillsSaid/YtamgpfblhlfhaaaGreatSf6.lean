/- SelectionFills: for all polygons and pixels, Fill returns what the reference returns; the law returns true for every input, and its arguments read as they did. No condition. -/
import Derived.Test.YtamgpfblhlfhaaaGreatSf5

/- Contract of Fill of package selection. -/
namespace Go.Proofs.YtamgpfblhlfhaaaGreat
open Go.RowKit Go.Shelf Pl
set_option linter.unusedVariables false
set_option linter.unusedSimpArgs false
set_option maxRecDepth 20000
def filF (p : Px) (l : List Pnt) (x y : Int) : Px := fadeP p (covG l x y)
theorem filF_ok {p : Px} (h : p.ok) (l : List Pnt) (x y : Int) : (filF p l x y).ok := fadeP_ok h _
def filE (l : List Pnt) : Int := if validG l = true then (if largeR (boundG l) = true then 45 else 0) else 1
def filL (p : Px) (l : List Pnt) : List TA := if filE l = 0 ∧ emptyR (boundG l) = false then pstR (boundG l) (paintL (boundG l) (filF p l)) [] else []
theorem bound_bd {l : List Pnt} (hv : validG l = true) : (-65536 ≤ (boundG l).x0 ∧ (boundG l).x0 ≤ 65536) ∧ (-65536 ≤ (boundG l).y0 ∧ (boundG l).y0 ≤ 65536) ∧ (-65536 ≤ (boundG l).x1 ∧ (boundG l).x1 ≤ 65536) ∧ (-65536 ≤ (boundG l).y1 ∧ (boundG l).y1 ≤ 65536) := by
 have hne := valid_ne hv
 obtain ⟨_, hnear⟩ := validG_iff.1 hv
 obtain ⟨h1, h2, h3, h4, h5, h6⟩ := near_hull hne hnear
 unfold boundG
 rw [if_pos hv]
 unfold normR
 split
 ·unfold Rc.zero; simp
 ·omega
theorem bound_fits {l : List Pnt} (hv : validG l = true) (hl : largeR (boundG l) = false) (hn : emptyR (boundG l) = false) : fitsE (boundG l) = 0 := by
 obtain ⟨⟨a1, a2⟩, ⟨a3, a4⟩, ⟨a5, a6⟩, a7, a8⟩ := bound_bd hv
 obtain ⟨e1, e2⟩ := (emptyR_not _).1 hn
 unfold largeR at hl
 rw [Bool.or_eq_false_iff, decide_eq_false_iff_not, decide_eq_false_iff_not] at hl
 exact fits_small (by omega) (by omega) (by omega)
set_option maxHeartbeats 8000000 in
theorem P_FillG (v : Value) (l : List Pnt) (p : Px) (w : World) (h : RSE ptE v l w) (hn : l.length ≤ maxLen) (hp : p.ok) (hA : filE l = 0 → emptyR (boundG l) = false → tlN (boundG l) ≤ 1000) : Calls Tryz.prog 9 #[v, .agg (pxC4 p)] w fun e w' => ∃ a cp, e = .returned (.tuple #[.agg #[.slice a (filL p l).length cp], .int .i64 (filE l)]) ∧ RS (.slice a (filL p l).length cp) (filL p l) w' ∧ Below w.heap.size w w' := by
 have B := Below.refl w.heap.size w
 obtain ⟨a, c, rfl, hc⟩ := h.len
 have HS := Lib.hid h
 clear h
 obtain ⟨bd, hbd⟩ : ∃ b, boundG l = b := ⟨_, rfl⟩
 have HBD := Lib.hid hbd
 cases hv : validG l with
 | false =>
  have e1 : filE l = 1 := by unfold filE; rw [hv]; rfl
  have e2 : filL p l = [] := by unfold filL; rw [if_neg (fun h => by omega)]
  rw [e1, e2]
  have HV := Lib.hid hv
  clear hv hA e1 e2 hbd
  go_enter Tryz.func9, Tryz.ntmps9
  go_upto_region 0 with fail
  refine wp_region_lit ?_
  try simp only [gelS]
  (refine wpList_boxV (t := 22) rfl _ rfl _ rfl (by rfl) ?_; intro b_b2 wn hle hge ht hbn hzn; have hsz := B.size; replace B := B.trans (hbn.mono (by omega)); have hln := Nat.lt_of_lt_of_eq (Nat.lt_succ_self _) hzn.symm; clear hzn; have b2 := ht; clear ht; simp only [putS])
  (refine wpList_boxB (t := 25) rfl _ rfl _ rfl ?_; intro b_b3 wn hle hge ht hbn hzn; have hsz := B.size; replace B := B.trans (hbn.mono (by omega)); have hln := Nat.lt_of_lt_of_eq (Nat.lt_succ_self _) hzn.symm; clear hzn; (try have hlt := b2.lt); (try replace b2 := b2.below (hbn.mono hle)); have b3 := ht; clear ht; simp only [putS])
  (refine wpList_allocBk (t := 34) rfl _ (run_alloc_R _ _ rfl) ?_; intro b_r4 wn hle hge ht hbn hzn; have hsz := B.size; replace B := B.trans (hbn.mono (by omega)); have hln := Nat.lt_of_lt_of_eq (Nat.lt_succ_self _) hzn.symm; clear hzn; (try have hlt := b2.lt); (try replace b2 := b2.below (hbn.mono hle)); (try have hlt := b3.lt); (try replace b3 := b3.below (hbn.mono hle)); have r4 := ht; clear ht; simp only [putS])
  refine wpList_chunk 1 (by kernel_rfl) ?_
  simp only [takS, Nat.reduceAdd]
  repeat (first | go_big_quiet_skip | (go_big_quiet_want; go_big_quiet_op; go_big_quiet_on))
  refine wpQuiet_nil ?_
  refine wpList_nil ?_
  have k2 : w.heap.size ≤ b_b2 := by omega
  have k3 : b_b2 < b_b3 := by have := b2.lt; omega
  have k4 : b_b3 < b_r4 := by have := b3.lt; omega
  go_upto_region 1 with fail
  refine wp_region_lit ?_
  try simp only [gelS]
  refine wpList_chunk 1 (by kernel_rfl) ?_
  simp only [takS, Nat.reduceAdd]
  repeat (first | go_big_quiet_skip | (go_big_quiet_want; first | (refine quiet_loadAny (t := 22) rfl _ _ _ rfl (fun w hw => run_load_spw ((ov_B b2 w hw).cell 0 rfl)) (by rfl) ?_; simp only [putS]; go_big_quiet_on) | (go_big_quiet_op; go_big_quiet_on)))
  refine wpQuiet_nil ?_
  refine wpList_callF (by first | rfl | simp [Region.wanted, yielded]) rfl (enters_of Tryz.func28 (by kernel_rfl) rfl) (by simp only [Act.eval, evlS]; rfl) ?_
  refine (P_BoundGO _ l bd _ (HS.out.below B) hn HBD.out).mono ?_
  rintro e wn ⟨rfl, hbn⟩
  have hsz := B.size
  have hzn := hbn.size
  replace B := B.trans (hbn.mono B.size)
  (try replace b2 := b2.below hbn)
  (try replace b3 := b3.below hbn)
  (try replace r4 := r4.below hbn)
  refine ⟨_, rfl, ?_⟩
  simp only [putS]
  (refine wpList_allocBk (t := 30) rfl _ (run_alloc_Rc _ _ rfl) ?_; intro b_b6 wn hle hge ht hbn hzn; have hsz := B.size; replace B := B.trans (hbn.mono (by omega)); have hln := Nat.lt_of_lt_of_eq (Nat.lt_succ_self _) hzn.symm; clear hzn; (try have hlt := b2.lt); (try replace b2 := b2.below (hbn.mono hle)); (try have hlt := b3.lt); (try replace b3 := b3.below (hbn.mono hle)); (try have hlt := r4.lt); (try replace r4 := r4.below (hbn.mono hle)); have b6 := ht; clear ht; simp only [putS])
  (refine wpList_storeB (t := 30) rfl _ _ rfl _ rfl _ rfl b6 (by kernel_rfl) rfl (by simp [rcA, pxC4, Value.oneCell']) ?_; clear b6; intro wn ht hcn hzn; have hsz := B.size; replace hzn := Nat.le_of_eq hzn.symm; replace B := Chg.below B hcn (by omega) B.size; (try replace b2 := b2.of_eq (hcn.block _ b2.lt (by omega))); (try replace b3 := b3.of_eq (hcn.block _ b3.lt (by omega))); (try replace r4 := r4.of_eq (hcn.block _ r4.lt (by omega))); have b6 := ht; clear ht; simp only [putS])
  refine wpList_nil ?_
  replace b6 : AtB 30 _ b_b6 (rcA bd) := b6
  go_upto_region 2 with fail
  refine wp_region_lit ?_
  try simp only [gelS]
  refine wpList_chunk 1 (by kernel_rfl) ?_
  simp only [takS, Nat.reduceAdd]
  repeat (first | go_big_quiet_skip | (go_big_quiet_want; first | (refine quiet_loadAny (t := 22) rfl _ _ _ rfl (fun w hw => run_load_spw ((ov_B b2 w hw).cell 0 rfl)) (by rfl) ?_; simp only [putS]; go_big_quiet_on) | (go_big_quiet_op; go_big_quiet_on)))
  refine wpQuiet_nil ?_
  refine wpList_callF (by first | rfl | simp [Region.wanted, yielded]) rfl (enters_of Tryz.func29 (by kernel_rfl) rfl) (by simp only [Act.eval, evlS]; rfl) ?_
  refine (P_ValidO _ l false _ (HS.out.below B) hn HV.out).mono ?_
  rintro e wn ⟨rfl, hbn⟩
  have hsz := B.size
  have hzn := hbn.size
  replace B := B.trans (hbn.mono B.size)
  (try replace b2 := b2.below hbn)
  (try replace b3 := b3.below hbn)
  (try replace r4 := r4.below hbn)
  (try replace b6 := b6.below hbn)
  refine ⟨_, rfl, ?_⟩
  simp only [putS]
  refine wpList_chunk 2 (by kernel_rfl) ?_
  simp only [takS, Nat.reduceAdd]
  repeat (first | go_big_quiet_skip | (go_big_quiet_want; go_big_quiet_op; go_big_quiet_on))
  refine wpQuiet_nil ?_
  refine wpList_nil ?_
  go_upto_region 3 with fail
  refine wp_region_lit ?_
  try simp only [gelS]
  refine wpList_chunk 1 (by kernel_rfl) ?_
  simp only [takS, Nat.reduceAdd]
  repeat (first | go_big_quiet_skip | (go_big_quiet_want; go_big_quiet_op; go_big_quiet_on))
  refine wpQuiet_nil ?_
  (refine wpList_storeB (t := 34) rfl _ _ rfl _ rfl _ rfl r4 (by kernel_rfl) rfl (by simp [rcA, pxC4, Value.oneCell']) ?_; clear r4; intro wn ht hcn hzn; have hsz := B.size; replace hzn := Nat.le_of_eq hzn.symm; replace B := Chg.below B hcn (by omega) B.size; (try replace b2 := b2.of_eq (hcn.block _ b2.lt (by omega))); (try replace b3 := b3.of_eq (hcn.block _ b3.lt (by omega))); (try replace b6 := b6.of_eq (hcn.block _ b6.lt (by omega))); have r4 := ht; clear ht; simp only [putS])
  refine wpList_chunk 1 (by kernel_rfl) ?_
  simp only [takS, Nat.reduceAdd]
  repeat (first | go_big_quiet_skip | (go_big_quiet_want; go_big_quiet_op; go_big_quiet_on))
  refine wpQuiet_nil ?_
  refine wpList_nil ?_
  first | (refine bodyPost_ret (results_B2 (t := 34) rfl _ _ (b_r4) rfl _ rfl r4 Tryz.isAgg34 (by kernel_rfl)) rfl ?_) | (go_step; refine bodyPost_ret (results_B2 (t := 34) rfl _ _ (b_r4) rfl _ rfl r4 Tryz.isAgg34 (by kernel_rfl)) rfl ?_) | (go_step; go_step; refine bodyPost_ret (results_B2 (t := 34) rfl _ _ (b_r4) rfl _ rfl r4 Tryz.isAgg34 (by kernel_rfl)) rfl ?_) | (go_step; go_step; go_step; refine bodyPost_ret (results_B2 (t := 34) rfl _ _ (b_r4) rfl _ rfl r4 Tryz.isAgg34 (by kernel_rfl)) rfl ?_) | (go_step; go_step; go_step; go_step; refine bodyPost_ret (results_B2 (t := 34) rfl _ _ (b_r4) rfl _ rfl r4 Tryz.isAgg34 (by kernel_rfl)) rfl ?_) | (go_step; go_step; go_step; go_step; go_step; refine bodyPost_ret (results_B2 (t := 34) rfl _ _ (b_r4) rfl _ rfl r4 Tryz.isAgg34 (by kernel_rfl)) rfl ?_)
  exact ⟨none, 0, rfl, RS.nil _, B⟩
 | true =>
  have HV := Lib.hid hv
  have hbb := bound_bd hv
  rw [hbd] at hbb
  obtain ⟨⟨q1, q2⟩, ⟨q3, q4⟩, ⟨q5, q6⟩, q7, q8⟩ := hbb
  cases hl : largeR bd with
  | true =>
   have e1 : filE l = 45 := by unfold filE; rw [hv, hbd, hl]; rfl
   have e2 : filL p l = [] := by unfold filL; rw [if_neg (fun h => by omega)]
   rw [e1, e2]
   have HL := Lib.hid hl
   clear hv hl hA e1 e2 hbd
   go_enter Tryz.func9, Tryz.ntmps9
   go_upto_region 0 with fail
   refine wp_region_lit ?_
   try simp only [gelS]
   (refine wpList_boxV (t := 22) rfl _ rfl _ rfl (by rfl) ?_; intro b_b2 wn hle hge ht hbn hzn; have hsz := B.size; replace B := B.trans (hbn.mono (by omega)); have hln := Nat.lt_of_lt_of_eq (Nat.lt_succ_self _) hzn.symm; clear hzn; (try have hlt := b2.lt); (try replace b2 := b2.below (hbn.mono hle)); (try have hlt := b3.lt); (try replace b3 := b3.below (hbn.mono hle)); (try have hlt := r4.lt); (try replace r4 := r4.below (hbn.mono hle)); (try have hlt := b6.lt); (try replace b6 := b6.below (hbn.mono hle)); have b2 := ht; clear ht; simp only [putS])
   (refine wpList_boxB (t := 25) rfl _ rfl _ rfl ?_; intro b_b3 wn hle hge ht hbn hzn; have hsz := B.size; replace B := B.trans (hbn.mono (by omega)); have hln := Nat.lt_of_lt_of_eq (Nat.lt_succ_self _) hzn.symm; clear hzn; (try have hlt := b2.lt); (try replace b2 := b2.below (hbn.mono hle)); (try have hlt := b3.lt); (try replace b3 := b3.below (hbn.mono hle)); (try have hlt := r4.lt); (try replace r4 := r4.below (hbn.mono hle)); (try have hlt := b6.lt); (try replace b6 := b6.below (hbn.mono hle)); have b3 := ht; clear ht; simp only [putS])
   (refine wpList_allocBk (t := 34) rfl _ (run_alloc_R _ _ rfl) ?_; intro b_r4 wn hle hge ht hbn hzn; have hsz := B.size; replace B := B.trans (hbn.mono (by omega)); have hln := Nat.lt_of_lt_of_eq (Nat.lt_succ_self _) hzn.symm; clear hzn; (try have hlt := b2.lt); (try replace b2 := b2.below (hbn.mono hle)); (try have hlt := b3.lt); (try replace b3 := b3.below (hbn.mono hle)); (try have hlt := r4.lt); (try replace r4 := r4.below (hbn.mono hle)); (try have hlt := b6.lt); (try replace b6 := b6.below (hbn.mono hle)); have r4 := ht; clear ht; simp only [putS])
   refine wpList_chunk 1 (by kernel_rfl) ?_
   simp only [takS, Nat.reduceAdd]
   repeat (first | go_big_quiet_skip | (go_big_quiet_want; go_big_quiet_op; go_big_quiet_on))
   refine wpQuiet_nil ?_
   refine wpList_nil ?_
   have k2 : w.heap.size ≤ b_b2 := by omega
   have k3 : b_b2 < b_b3 := by have := b2.lt; omega
   have k4 : b_b3 < b_r4 := by have := b3.lt; omega
   go_upto_region 1 with fail
   refine wp_region_lit ?_
   try simp only [gelS]
   refine wpList_chunk 1 (by kernel_rfl) ?_
   simp only [takS, Nat.reduceAdd]
   repeat (first | go_big_quiet_skip | (go_big_quiet_want; first | (refine quiet_loadAny (t := 22) rfl _ _ _ rfl (fun w hw => run_load_spw ((ov_B b2 w hw).cell 0 rfl)) (by rfl) ?_; simp only [putS]; go_big_quiet_on) | (go_big_quiet_op; go_big_quiet_on)))
   refine wpQuiet_nil ?_
   refine wpList_callF (by first | rfl | simp [Region.wanted, yielded]) rfl (enters_of Tryz.func28 (by kernel_rfl) rfl) (by simp only [Act.eval, evlS]; rfl) ?_
   refine (P_BoundGO _ l bd _ (HS.out.below B) hn HBD.out).mono ?_
   rintro e wn ⟨rfl, hbn⟩
   have hsz := B.size
   have hzn := hbn.size
   replace B := B.trans (hbn.mono B.size)
   (try replace b2 := b2.below hbn)
   (try replace b3 := b3.below hbn)
   (try replace r4 := r4.below hbn)
   (try replace b6 := b6.below hbn)
   refine ⟨_, rfl, ?_⟩
   simp only [putS]
   (refine wpList_allocBk (t := 30) rfl _ (run_alloc_Rc _ _ rfl) ?_; intro b_b6 wn hle hge ht hbn hzn; have hsz := B.size; replace B := B.trans (hbn.mono (by omega)); have hln := Nat.lt_of_lt_of_eq (Nat.lt_succ_self _) hzn.symm; clear hzn; (try have hlt := b2.lt); (try replace b2 := b2.below (hbn.mono hle)); (try have hlt := b3.lt); (try replace b3 := b3.below (hbn.mono hle)); (try have hlt := r4.lt); (try replace r4 := r4.below (hbn.mono hle)); (try have hlt := b6.lt); (try replace b6 := b6.below (hbn.mono hle)); have b6 := ht; clear ht; simp only [putS])
   (refine wpList_storeB (t := 30) rfl _ _ rfl _ rfl _ rfl b6 (by kernel_rfl) rfl (by simp [rcA, pxC4, Value.oneCell']) ?_; clear b6; intro wn ht hcn hzn; have hsz := B.size; replace hzn := Nat.le_of_eq hzn.symm; replace B := Chg.below B hcn (by omega) B.size; (try replace b2 := b2.of_eq (hcn.block _ b2.lt (by omega))); (try replace b3 := b3.of_eq (hcn.block _ b3.lt (by omega))); (try replace r4 := r4.of_eq (hcn.block _ r4.lt (by omega))); have b6 := ht; clear ht; simp only [putS])
   refine wpList_nil ?_
   replace b6 : AtB 30 _ b_b6 (rcA bd) := b6
   go_upto_region 2 with fail
   refine wp_region_lit ?_
   try simp only [gelS]
   refine wpList_chunk 1 (by kernel_rfl) ?_
   simp only [takS, Nat.reduceAdd]
   repeat (first | go_big_quiet_skip | (go_big_quiet_want; first | (refine quiet_loadAny (t := 22) rfl _ _ _ rfl (fun w hw => run_load_spw ((ov_B b2 w hw).cell 0 rfl)) (by rfl) ?_; simp only [putS]; go_big_quiet_on) | (go_big_quiet_op; go_big_quiet_on)))
   refine wpQuiet_nil ?_
   refine wpList_callF (by first | rfl | simp [Region.wanted, yielded]) rfl (enters_of Tryz.func29 (by kernel_rfl) rfl) (by simp only [Act.eval, evlS]; rfl) ?_
   refine (P_ValidO _ l true _ (HS.out.below B) hn HV.out).mono ?_
   rintro e wn ⟨rfl, hbn⟩
   have hsz := B.size
   have hzn := hbn.size
   replace B := B.trans (hbn.mono B.size)
   (try replace b2 := b2.below hbn)
   (try replace b3 := b3.below hbn)
   (try replace r4 := r4.below hbn)
   (try replace b6 := b6.below hbn)
   refine ⟨_, rfl, ?_⟩
   simp only [putS]
   refine wpList_chunk 2 (by kernel_rfl) ?_
   simp only [takS, Nat.reduceAdd]
   repeat (first | go_big_quiet_skip | (go_big_quiet_want; go_big_quiet_op; go_big_quiet_on))
   refine wpQuiet_nil ?_
   refine wpList_nil ?_
   go_upto_region 4 with fail
   refine wp_region_lit ?_
   try simp only [gelS]
   refine wpList_chunk 1 (by kernel_rfl) ?_
   simp only [takS, Nat.reduceAdd]
   repeat (first | go_big_quiet_skip | (go_big_quiet_want; first | (refine quiet_loadAny (t := 30) rfl _ _ _ rfl (fun w hw => run_load_B (ov_B b6 w hw) Tryz.isAgg30 (by kernel_rfl)) (by rfl) ?_; simp only [putS]; go_big_quiet_on) | (go_big_quiet_op; go_big_quiet_on)))
   refine wpQuiet_nil ?_
   refine wpList_callF (by first | rfl | simp [Region.wanted, yielded]) rfl (enters_of Tryz.func30 (by kernel_rfl) rfl) (by simp only [Act.eval, evlS]; rfl) ?_
   refine (P_largeO bd true _ (by omega) HL.out).mono ?_
   rintro e wn ⟨rfl, hbn⟩
   have hsz := B.size
   have hzn := hbn.size
   replace B := B.trans (hbn.mono B.size)
   (try replace b2 := b2.below hbn)
   (try replace b3 := b3.below hbn)
   (try replace r4 := r4.below hbn)
   (try replace b6 := b6.below hbn)
   refine ⟨_, rfl, ?_⟩
   simp only [putS]
   refine wpList_chunk 1 (by kernel_rfl) ?_
   simp only [takS, Nat.reduceAdd]
   repeat (first | go_big_quiet_skip | (go_big_quiet_want; go_big_quiet_op; go_big_quiet_on))
   refine wpQuiet_nil ?_
   refine wpList_nil ?_
   go_upto_region 5 with fail
   refine wp_region_lit ?_
   try simp only [gelS]
   refine wpList_chunk 1 (by kernel_rfl) ?_
   simp only [takS, Nat.reduceAdd]
   repeat (first | go_big_quiet_skip | (go_big_quiet_want; go_big_quiet_op; go_big_quiet_on))
   refine wpQuiet_nil ?_
   (refine wpList_storeB (t := 34) rfl _ _ rfl _ rfl _ rfl r4 (by kernel_rfl) rfl (by simp [rcA, pxC4, Value.oneCell']) ?_; clear r4; intro wn ht hcn hzn; have hsz := B.size; replace hzn := Nat.le_of_eq hzn.symm; replace B := Chg.below B hcn (by omega) B.size; (try replace b2 := b2.of_eq (hcn.block _ b2.lt (by omega))); (try replace b3 := b3.of_eq (hcn.block _ b3.lt (by omega))); (try replace b6 := b6.of_eq (hcn.block _ b6.lt (by omega))); have r4 := ht; clear ht; simp only [putS])
   refine wpList_chunk 1 (by kernel_rfl) ?_
   simp only [takS, Nat.reduceAdd]
   repeat (first | go_big_quiet_skip | (go_big_quiet_want; go_big_quiet_op; go_big_quiet_on))
   refine wpQuiet_nil ?_
   refine wpList_nil ?_
   first | (refine bodyPost_ret (results_B2 (t := 34) rfl _ _ (b_r4) rfl _ rfl r4 Tryz.isAgg34 (by kernel_rfl)) rfl ?_) | (go_step; refine bodyPost_ret (results_B2 (t := 34) rfl _ _ (b_r4) rfl _ rfl r4 Tryz.isAgg34 (by kernel_rfl)) rfl ?_) | (go_step; go_step; refine bodyPost_ret (results_B2 (t := 34) rfl _ _ (b_r4) rfl _ rfl r4 Tryz.isAgg34 (by kernel_rfl)) rfl ?_) | (go_step; go_step; go_step; refine bodyPost_ret (results_B2 (t := 34) rfl _ _ (b_r4) rfl _ rfl r4 Tryz.isAgg34 (by kernel_rfl)) rfl ?_) | (go_step; go_step; go_step; go_step; refine bodyPost_ret (results_B2 (t := 34) rfl _ _ (b_r4) rfl _ rfl r4 Tryz.isAgg34 (by kernel_rfl)) rfl ?_) | (go_step; go_step; go_step; go_step; go_step; refine bodyPost_ret (results_B2 (t := 34) rfl _ _ (b_r4) rfl _ rfl r4 Tryz.isAgg34 (by kernel_rfl)) rfl ?_)
   exact ⟨none, 0, rfl, RS.nil _, B⟩
  | false =>
   have e1 : filE l = 0 := by unfold filE; rw [hv, hbd, hl]; rfl
   have HL := Lib.hid hl
   cases hm : emptyR bd with
   | true =>
    have e2 : filL p l = [] := by unfold filL; rw [hbd, hm, if_neg (fun h => by cases h.2)]
    rw [e1, e2]
    have HM := Lib.hid hm
    clear hv hl hA e1 e2 hbd hm
    go_enter Tryz.func9, Tryz.ntmps9
    go_upto_region 0 with fail
    refine wp_region_lit ?_
    try simp only [gelS]
    (refine wpList_boxV (t := 22) rfl _ rfl _ rfl (by rfl) ?_; intro b_b2 wn hle hge ht hbn hzn; have hsz := B.size; replace B := B.trans (hbn.mono (by omega)); have hln := Nat.lt_of_lt_of_eq (Nat.lt_succ_self _) hzn.symm; clear hzn; (try have hlt := b2.lt); (try replace b2 := b2.below (hbn.mono hle)); (try have hlt := b3.lt); (try replace b3 := b3.below (hbn.mono hle)); (try have hlt := r4.lt); (try replace r4 := r4.below (hbn.mono hle)); (try have hlt := b6.lt); (try replace b6 := b6.below (hbn.mono hle)); have b2 := ht; clear ht; simp only [putS])
    (refine wpList_boxB (t := 25) rfl _ rfl _ rfl ?_; intro b_b3 wn hle hge ht hbn hzn; have hsz := B.size; replace B := B.trans (hbn.mono (by omega)); have hln := Nat.lt_of_lt_of_eq (Nat.lt_succ_self _) hzn.symm; clear hzn; (try have hlt := b2.lt); (try replace b2 := b2.below (hbn.mono hle)); (try have hlt := b3.lt); (try replace b3 := b3.below (hbn.mono hle)); (try have hlt := r4.lt); (try replace r4 := r4.below (hbn.mono hle)); (try have hlt := b6.lt); (try replace b6 := b6.below (hbn.mono hle)); have b3 := ht; clear ht; simp only [putS])
    (refine wpList_allocBk (t := 34) rfl _ (run_alloc_R _ _ rfl) ?_; intro b_r4 wn hle hge ht hbn hzn; have hsz := B.size; replace B := B.trans (hbn.mono (by omega)); have hln := Nat.lt_of_lt_of_eq (Nat.lt_succ_self _) hzn.symm; clear hzn; (try have hlt := b2.lt); (try replace b2 := b2.below (hbn.mono hle)); (try have hlt := b3.lt); (try replace b3 := b3.below (hbn.mono hle)); (try have hlt := r4.lt); (try replace r4 := r4.below (hbn.mono hle)); (try have hlt := b6.lt); (try replace b6 := b6.below (hbn.mono hle)); have r4 := ht; clear ht; simp only [putS])
    refine wpList_chunk 1 (by kernel_rfl) ?_
    simp only [takS, Nat.reduceAdd]
    repeat (first | go_big_quiet_skip | (go_big_quiet_want; go_big_quiet_op; go_big_quiet_on))
    refine wpQuiet_nil ?_
    refine wpList_nil ?_
    have k2 : w.heap.size ≤ b_b2 := by omega
    have k3 : b_b2 < b_b3 := by have := b2.lt; omega
    have k4 : b_b3 < b_r4 := by have := b3.lt; omega
    go_upto_region 1 with fail
    refine wp_region_lit ?_
    try simp only [gelS]
    refine wpList_chunk 1 (by kernel_rfl) ?_
    simp only [takS, Nat.reduceAdd]
    repeat (first | go_big_quiet_skip | (go_big_quiet_want; first | (refine quiet_loadAny (t := 22) rfl _ _ _ rfl (fun w hw => run_load_spw ((ov_B b2 w hw).cell 0 rfl)) (by rfl) ?_; simp only [putS]; go_big_quiet_on) | (go_big_quiet_op; go_big_quiet_on)))
    refine wpQuiet_nil ?_
    refine wpList_callF (by first | rfl | simp [Region.wanted, yielded]) rfl (enters_of Tryz.func28 (by kernel_rfl) rfl) (by simp only [Act.eval, evlS]; rfl) ?_
    refine (P_BoundGO _ l bd _ (HS.out.below B) hn HBD.out).mono ?_
    rintro e wn ⟨rfl, hbn⟩
    have hsz := B.size
    have hzn := hbn.size
    replace B := B.trans (hbn.mono B.size)
    (try replace b2 := b2.below hbn)
    (try replace b3 := b3.below hbn)
    (try replace r4 := r4.below hbn)
    (try replace b6 := b6.below hbn)
    refine ⟨_, rfl, ?_⟩
    simp only [putS]
    (refine wpList_allocBk (t := 30) rfl _ (run_alloc_Rc _ _ rfl) ?_; intro b_b6 wn hle hge ht hbn hzn; have hsz := B.size; replace B := B.trans (hbn.mono (by omega)); have hln := Nat.lt_of_lt_of_eq (Nat.lt_succ_self _) hzn.symm; clear hzn; (try have hlt := b2.lt); (try replace b2 := b2.below (hbn.mono hle)); (try have hlt := b3.lt); (try replace b3 := b3.below (hbn.mono hle)); (try have hlt := r4.lt); (try replace r4 := r4.below (hbn.mono hle)); (try have hlt := b6.lt); (try replace b6 := b6.below (hbn.mono hle)); have b6 := ht; clear ht; simp only [putS])
    (refine wpList_storeB (t := 30) rfl _ _ rfl _ rfl _ rfl b6 (by kernel_rfl) rfl (by simp [rcA, pxC4, Value.oneCell']) ?_; clear b6; intro wn ht hcn hzn; have hsz := B.size; replace hzn := Nat.le_of_eq hzn.symm; replace B := Chg.below B hcn (by omega) B.size; (try replace b2 := b2.of_eq (hcn.block _ b2.lt (by omega))); (try replace b3 := b3.of_eq (hcn.block _ b3.lt (by omega))); (try replace r4 := r4.of_eq (hcn.block _ r4.lt (by omega))); have b6 := ht; clear ht; simp only [putS])
    refine wpList_nil ?_
    replace b6 : AtB 30 _ b_b6 (rcA bd) := b6
    go_upto_region 2 with fail
    refine wp_region_lit ?_
    try simp only [gelS]
    refine wpList_chunk 1 (by kernel_rfl) ?_
    simp only [takS, Nat.reduceAdd]
    repeat (first | go_big_quiet_skip | (go_big_quiet_want; first | (refine quiet_loadAny (t := 22) rfl _ _ _ rfl (fun w hw => run_load_spw ((ov_B b2 w hw).cell 0 rfl)) (by rfl) ?_; simp only [putS]; go_big_quiet_on) | (go_big_quiet_op; go_big_quiet_on)))
    refine wpQuiet_nil ?_
    refine wpList_callF (by first | rfl | simp [Region.wanted, yielded]) rfl (enters_of Tryz.func29 (by kernel_rfl) rfl) (by simp only [Act.eval, evlS]; rfl) ?_
    refine (P_ValidO _ l true _ (HS.out.below B) hn HV.out).mono ?_
    rintro e wn ⟨rfl, hbn⟩
    have hsz := B.size
    have hzn := hbn.size
    replace B := B.trans (hbn.mono B.size)
    (try replace b2 := b2.below hbn)
    (try replace b3 := b3.below hbn)
    (try replace r4 := r4.below hbn)
    (try replace b6 := b6.below hbn)
    refine ⟨_, rfl, ?_⟩
    simp only [putS]
    refine wpList_chunk 2 (by kernel_rfl) ?_
    simp only [takS, Nat.reduceAdd]
    repeat (first | go_big_quiet_skip | (go_big_quiet_want; go_big_quiet_op; go_big_quiet_on))
    refine wpQuiet_nil ?_
    refine wpList_nil ?_
    go_upto_region 4 with fail
    refine wp_region_lit ?_
    try simp only [gelS]
    refine wpList_chunk 1 (by kernel_rfl) ?_
    simp only [takS, Nat.reduceAdd]
    repeat (first | go_big_quiet_skip | (go_big_quiet_want; first | (refine quiet_loadAny (t := 30) rfl _ _ _ rfl (fun w hw => run_load_B (ov_B b6 w hw) Tryz.isAgg30 (by kernel_rfl)) (by rfl) ?_; simp only [putS]; go_big_quiet_on) | (go_big_quiet_op; go_big_quiet_on)))
    refine wpQuiet_nil ?_
    refine wpList_callF (by first | rfl | simp [Region.wanted, yielded]) rfl (enters_of Tryz.func30 (by kernel_rfl) rfl) (by simp only [Act.eval, evlS]; rfl) ?_
    refine (P_largeO bd false _ (by omega) HL.out).mono ?_
    rintro e wn ⟨rfl, hbn⟩
    have hsz := B.size
    have hzn := hbn.size
    replace B := B.trans (hbn.mono B.size)
    (try replace b2 := b2.below hbn)
    (try replace b3 := b3.below hbn)
    (try replace r4 := r4.below hbn)
    (try replace b6 := b6.below hbn)
    refine ⟨_, rfl, ?_⟩
    simp only [putS]
    refine wpList_chunk 1 (by kernel_rfl) ?_
    simp only [takS, Nat.reduceAdd]
    repeat (first | go_big_quiet_skip | (go_big_quiet_want; go_big_quiet_op; go_big_quiet_on))
    refine wpQuiet_nil ?_
    refine wpList_nil ?_
    go_upto_region 6 with fail
    refine wp_region_lit ?_
    try simp only [gelS]
    refine wpList_chunk 1 (by kernel_rfl) ?_
    simp only [takS, Nat.reduceAdd]
    repeat (first | go_big_quiet_skip | (go_big_quiet_want; first | (refine quiet_loadAny (t := 30) rfl _ _ _ rfl (fun w hw => run_load_B (ov_B b6 w hw) Tryz.isAgg30 (by kernel_rfl)) (by rfl) ?_; simp only [putS]; go_big_quiet_on) | (go_big_quiet_op; go_big_quiet_on)))
    refine wpQuiet_nil ?_
    (refine wpList_val rfl (.func (.func 32) #[] #[.pointer (some ⟨b_b3, 0, none⟩), .pointer (some ⟨b_b2, 0, none⟩)]) (by first | rfl | simp [go_sem, Act.eval]) ?_; simp only [putS])
    refine wpList_callF (by first | rfl | simp [Region.wanted, yielded]) rfl (enters_of Tryz.func31 (by kernel_rfl) rfl) (by simp only [Act.eval, evlS]; rfl) ?_
    refine (P_painted0 _ bd _ HM.out).mono ?_
    rintro e wn ⟨rfl, hbn⟩
    have hsz := B.size
    have hzn := hbn.size
    replace B := B.trans (hbn.mono B.size)
    (try replace b2 := b2.below hbn)
    (try replace b3 := b3.below hbn)
    (try replace r4 := r4.below hbn)
    (try replace b6 := b6.below hbn)
    refine ⟨_, rfl, ?_⟩
    simp only [putS]
    refine wpList_chunk 2 (by kernel_rfl) ?_
    simp only [takS, Nat.reduceAdd]
    repeat (first | go_big_quiet_skip | (go_big_quiet_want; go_big_quiet_op; go_big_quiet_on))
    refine wpQuiet_nil ?_
    (refine wpList_storeB (t := 34) rfl _ _ rfl _ rfl _ rfl r4 (by kernel_rfl) rfl (by simp [rcA, pxC4, Value.oneCell']) ?_; clear r4; intro wn ht hcn hzn; have hsz := B.size; replace hzn := Nat.le_of_eq hzn.symm; replace B := Chg.below B hcn (by omega) B.size; (try replace b2 := b2.of_eq (hcn.block _ b2.lt (by omega))); (try replace b3 := b3.of_eq (hcn.block _ b3.lt (by omega))); (try replace b6 := b6.of_eq (hcn.block _ b6.lt (by omega))); have r4 := ht; clear ht; simp only [putS])
    refine wpList_chunk 1 (by kernel_rfl) ?_
    simp only [takS, Nat.reduceAdd]
    repeat (first | go_big_quiet_skip | (go_big_quiet_want; go_big_quiet_op; go_big_quiet_on))
    refine wpQuiet_nil ?_
    refine wpList_nil ?_
    first | (refine bodyPost_ret (results_B2 (t := 34) rfl _ _ (b_r4) rfl _ rfl r4 Tryz.isAgg34 (by kernel_rfl)) rfl ?_) | (go_step; refine bodyPost_ret (results_B2 (t := 34) rfl _ _ (b_r4) rfl _ rfl r4 Tryz.isAgg34 (by kernel_rfl)) rfl ?_) | (go_step; go_step; refine bodyPost_ret (results_B2 (t := 34) rfl _ _ (b_r4) rfl _ rfl r4 Tryz.isAgg34 (by kernel_rfl)) rfl ?_) | (go_step; go_step; go_step; refine bodyPost_ret (results_B2 (t := 34) rfl _ _ (b_r4) rfl _ rfl r4 Tryz.isAgg34 (by kernel_rfl)) rfl ?_) | (go_step; go_step; go_step; go_step; refine bodyPost_ret (results_B2 (t := 34) rfl _ _ (b_r4) rfl _ rfl r4 Tryz.isAgg34 (by kernel_rfl)) rfl ?_) | (go_step; go_step; go_step; go_step; go_step; refine bodyPost_ret (results_B2 (t := 34) rfl _ _ (b_r4) rfl _ rfl r4 Tryz.isAgg34 (by kernel_rfl)) rfl ?_)
    exact ⟨none, 0, rfl, RS.nil _, B⟩
   | false =>
    have hA := hA e1 (by rw [hbd]; exact hm)
    have hE : fitsE bd = 0 := by rw [← hbd]; exact bound_fits hv (by rw [hbd]; exact hl) (by rw [hbd]; exact hm)
    rw [hbd] at hA
    have e2 : filL p l = pstR bd (paintL bd (filF p l)) [] := by unfold filL; rw [hbd, if_pos ⟨e1, hm⟩]
    have e3 : pstE bd (paintL bd (filF p l)) [] = 0 := (paint_R hE hA _).2
    rw [e1, e2]
    have HE := Lib.hid hE
    have HE3 := Lib.hid e3
    have HP := Lib.hid hp
    obtain ⟨⟨hl1, hl2⟩, hne⟩ := validG_iff.1 hv
    have HNE := Lib.hid hne
    clear hv hl hA e1 e2 hbd hm hE e3 hne
    go_enter Tryz.func9, Tryz.ntmps9
    go_upto_region 0 with fail
    refine wp_region_lit ?_
    try simp only [gelS]
    (refine wpList_boxV (t := 22) rfl _ rfl _ rfl (by rfl) ?_; intro b_b2 wn hle hge ht hbn hzn; have hsz := B.size; replace B := B.trans (hbn.mono (by omega)); have hln := Nat.lt_of_lt_of_eq (Nat.lt_succ_self _) hzn.symm; clear hzn; (try have hlt := b2.lt); (try replace b2 := b2.below (hbn.mono hle)); (try have hlt := b3.lt); (try replace b3 := b3.below (hbn.mono hle)); (try have hlt := r4.lt); (try replace r4 := r4.below (hbn.mono hle)); (try have hlt := b6.lt); (try replace b6 := b6.below (hbn.mono hle)); have b2 := ht; clear ht; simp only [putS])
    (refine wpList_boxB (t := 25) rfl _ rfl _ rfl ?_; intro b_b3 wn hle hge ht hbn hzn; have hsz := B.size; replace B := B.trans (hbn.mono (by omega)); have hln := Nat.lt_of_lt_of_eq (Nat.lt_succ_self _) hzn.symm; clear hzn; (try have hlt := b2.lt); (try replace b2 := b2.below (hbn.mono hle)); (try have hlt := b3.lt); (try replace b3 := b3.below (hbn.mono hle)); (try have hlt := r4.lt); (try replace r4 := r4.below (hbn.mono hle)); (try have hlt := b6.lt); (try replace b6 := b6.below (hbn.mono hle)); have b3 := ht; clear ht; simp only [putS])
    (refine wpList_allocBk (t := 34) rfl _ (run_alloc_R _ _ rfl) ?_; intro b_r4 wn hle hge ht hbn hzn; have hsz := B.size; replace B := B.trans (hbn.mono (by omega)); have hln := Nat.lt_of_lt_of_eq (Nat.lt_succ_self _) hzn.symm; clear hzn; (try have hlt := b2.lt); (try replace b2 := b2.below (hbn.mono hle)); (try have hlt := b3.lt); (try replace b3 := b3.below (hbn.mono hle)); (try have hlt := r4.lt); (try replace r4 := r4.below (hbn.mono hle)); (try have hlt := b6.lt); (try replace b6 := b6.below (hbn.mono hle)); have r4 := ht; clear ht; simp only [putS])
    refine wpList_chunk 1 (by kernel_rfl) ?_
    simp only [takS, Nat.reduceAdd]
    repeat (first | go_big_quiet_skip | (go_big_quiet_want; go_big_quiet_op; go_big_quiet_on))
    refine wpQuiet_nil ?_
    refine wpList_nil ?_
    have k2 : w.heap.size ≤ b_b2 := by omega
    have k3 : b_b2 < b_b3 := by have := b2.lt; omega
    have k4 : b_b3 < b_r4 := by have := b3.lt; omega
    go_upto_region 1 with fail
    refine wp_region_lit ?_
    try simp only [gelS]
    refine wpList_chunk 1 (by kernel_rfl) ?_
    simp only [takS, Nat.reduceAdd]
    repeat (first | go_big_quiet_skip | (go_big_quiet_want; first | (refine quiet_loadAny (t := 22) rfl _ _ _ rfl (fun w hw => run_load_spw ((ov_B b2 w hw).cell 0 rfl)) (by rfl) ?_; simp only [putS]; go_big_quiet_on) | (go_big_quiet_op; go_big_quiet_on)))
    refine wpQuiet_nil ?_
    refine wpList_callF (by first | rfl | simp [Region.wanted, yielded]) rfl (enters_of Tryz.func28 (by kernel_rfl) rfl) (by simp only [Act.eval, evlS]; rfl) ?_
    refine (P_BoundGO _ l bd _ (HS.out.below B) hn HBD.out).mono ?_
    rintro e wn ⟨rfl, hbn⟩
    have hsz := B.size
    have hzn := hbn.size
    replace B := B.trans (hbn.mono B.size)
    (try replace b2 := b2.below hbn)
    (try replace b3 := b3.below hbn)
    (try replace r4 := r4.below hbn)
    (try replace b6 := b6.below hbn)
    refine ⟨_, rfl, ?_⟩
    simp only [putS]
    (refine wpList_allocBk (t := 30) rfl _ (run_alloc_Rc _ _ rfl) ?_; intro b_b6 wn hle hge ht hbn hzn; have hsz := B.size; replace B := B.trans (hbn.mono (by omega)); have hln := Nat.lt_of_lt_of_eq (Nat.lt_succ_self _) hzn.symm; clear hzn; (try have hlt := b2.lt); (try replace b2 := b2.below (hbn.mono hle)); (try have hlt := b3.lt); (try replace b3 := b3.below (hbn.mono hle)); (try have hlt := r4.lt); (try replace r4 := r4.below (hbn.mono hle)); (try have hlt := b6.lt); (try replace b6 := b6.below (hbn.mono hle)); have b6 := ht; clear ht; simp only [putS])
    (refine wpList_storeB (t := 30) rfl _ _ rfl _ rfl _ rfl b6 (by kernel_rfl) rfl (by simp [rcA, pxC4, Value.oneCell']) ?_; clear b6; intro wn ht hcn hzn; have hsz := B.size; replace hzn := Nat.le_of_eq hzn.symm; replace B := Chg.below B hcn (by omega) B.size; (try replace b2 := b2.of_eq (hcn.block _ b2.lt (by omega))); (try replace b3 := b3.of_eq (hcn.block _ b3.lt (by omega))); (try replace r4 := r4.of_eq (hcn.block _ r4.lt (by omega))); have b6 := ht; clear ht; simp only [putS])
    refine wpList_nil ?_
    replace b6 : AtB 30 _ b_b6 (rcA bd) := b6
    go_upto_region 2 with fail
    refine wp_region_lit ?_
    try simp only [gelS]
    refine wpList_chunk 1 (by kernel_rfl) ?_
    simp only [takS, Nat.reduceAdd]
    repeat (first | go_big_quiet_skip | (go_big_quiet_want; first | (refine quiet_loadAny (t := 22) rfl _ _ _ rfl (fun w hw => run_load_spw ((ov_B b2 w hw).cell 0 rfl)) (by rfl) ?_; simp only [putS]; go_big_quiet_on) | (go_big_quiet_op; go_big_quiet_on)))
    refine wpQuiet_nil ?_
    refine wpList_callF (by first | rfl | simp [Region.wanted, yielded]) rfl (enters_of Tryz.func29 (by kernel_rfl) rfl) (by simp only [Act.eval, evlS]; rfl) ?_
    refine (P_ValidO _ l true _ (HS.out.below B) hn HV.out).mono ?_
    rintro e wn ⟨rfl, hbn⟩
    have hsz := B.size
    have hzn := hbn.size
    replace B := B.trans (hbn.mono B.size)
    (try replace b2 := b2.below hbn)
    (try replace b3 := b3.below hbn)
    (try replace r4 := r4.below hbn)
    (try replace b6 := b6.below hbn)
    refine ⟨_, rfl, ?_⟩
    simp only [putS]
    refine wpList_chunk 2 (by kernel_rfl) ?_
    simp only [takS, Nat.reduceAdd]
    repeat (first | go_big_quiet_skip | (go_big_quiet_want; go_big_quiet_op; go_big_quiet_on))
    refine wpQuiet_nil ?_
    refine wpList_nil ?_
    go_upto_region 4 with fail
    refine wp_region_lit ?_
    try simp only [gelS]
    refine wpList_chunk 1 (by kernel_rfl) ?_
    simp only [takS, Nat.reduceAdd]
    repeat (first | go_big_quiet_skip | (go_big_quiet_want; first | (refine quiet_loadAny (t := 30) rfl _ _ _ rfl (fun w hw => run_load_B (ov_B b6 w hw) Tryz.isAgg30 (by kernel_rfl)) (by rfl) ?_; simp only [putS]; go_big_quiet_on) | (go_big_quiet_op; go_big_quiet_on)))
    refine wpQuiet_nil ?_
    refine wpList_callF (by first | rfl | simp [Region.wanted, yielded]) rfl (enters_of Tryz.func30 (by kernel_rfl) rfl) (by simp only [Act.eval, evlS]; rfl) ?_
    refine (P_largeO bd false _ (by omega) HL.out).mono ?_
    rintro e wn ⟨rfl, hbn⟩
    have hsz := B.size
    have hzn := hbn.size
    replace B := B.trans (hbn.mono B.size)
    (try replace b2 := b2.below hbn)
    (try replace b3 := b3.below hbn)
    (try replace r4 := r4.below hbn)
    (try replace b6 := b6.below hbn)
    refine ⟨_, rfl, ?_⟩
    simp only [putS]
    refine wpList_chunk 1 (by kernel_rfl) ?_
    simp only [takS, Nat.reduceAdd]
    repeat (first | go_big_quiet_skip | (go_big_quiet_want; go_big_quiet_op; go_big_quiet_on))
    refine wpQuiet_nil ?_
    refine wpList_nil ?_
    go_upto_region 6 with fail
    have HX := Lib.hid (show ∀ W, Below wn.heap.size wn W → ∀ x y, hasR bd x y = true → Calls Tryz.prog 32 (#[.int .i64 x, .int .i64 y] ++ #[.pointer (some ⟨b_b3, 0, none⟩), .pointer (some ⟨b_b2, 0, none⟩)]) W fun e w' => e = .returned (Px.v (filF p l x y)) ∧ Below W.heap.size W w' from fun W hW x y hxy => by
     have hx := (hasR_iff bd x y).1 hxy
     exact P_fill1 b_b2 b_b3 p _ l x y W (b2.of_eq (hW.block _ b2.lt)) (b3.of_eq (hW.block _ b3.lt)) ((HS.out.below B).below hW) HP.out (by omega) HNE.out (by omega) (by omega))
    refine wp_region_lit ?_
    try simp only [gelS]
    refine wpList_chunk 1 (by kernel_rfl) ?_
    simp only [takS, Nat.reduceAdd]
    repeat (first | go_big_quiet_skip | (go_big_quiet_want; first | (refine quiet_loadAny (t := 30) rfl _ _ _ rfl (fun w hw => run_load_B (ov_B b6 w hw) Tryz.isAgg30 (by kernel_rfl)) (by rfl) ?_; simp only [putS]; go_big_quiet_on) | (go_big_quiet_op; go_big_quiet_on)))
    refine wpQuiet_nil ?_
    (refine wpList_val rfl (.func (.func 32) #[] #[.pointer (some ⟨b_b3, 0, none⟩), .pointer (some ⟨b_b2, 0, none⟩)]) (by first | rfl | simp [go_sem, Act.eval]) ?_; simp only [putS])
    refine wpList_callF (by first | rfl | simp [Region.wanted, yielded]) rfl (enters_of Tryz.func31 (by kernel_rfl) rfl) (by simp only [Act.eval, evlS]; rfl) ?_
    refine (P_painted1 _ _ (enters_of Tryz.func32 (by kernel_rfl) rfl) bd (filF p l) _ HE.out (filF_ok HP.out l) HX.out).mono ?_
    rintro e wn ⟨a5, c5, rfl, rs5, hbn⟩
    have hsz := B.size
    have hzn := hbn.size
    replace B := B.trans (hbn.mono B.size)
    (try replace r4 := r4.below hbn)
    rw [HE3.out]
    refine ⟨_, rfl, ?_⟩
    simp only [putS]
    refine wpList_chunk 2 (by kernel_rfl) ?_
    simp only [takS, Nat.reduceAdd]
    repeat (first | go_big_quiet_skip | (go_big_quiet_want; go_big_quiet_op; go_big_quiet_on))
    refine wpQuiet_nil ?_
    (refine wpList_storeB (t := 34) rfl _ _ rfl _ rfl _ rfl r4 (by kernel_rfl) rfl (by simp [rcA, pxC4, Value.oneCell']) ?_; have r4o := r4; clear r4; intro wn ht hcn hzn; (try replace rs5 := rs5.chg r4o (by simp [rcA]) hcn); have hsz := B.size; replace hzn := Nat.le_of_eq hzn.symm; replace B := Chg.below B hcn (by omega) B.size; have r4 := ht; clear ht; simp only [putS])
    refine wpList_chunk 1 (by kernel_rfl) ?_
    simp only [takS, Nat.reduceAdd]
    repeat (first | go_big_quiet_skip | (go_big_quiet_want; go_big_quiet_op; go_big_quiet_on))
    refine wpQuiet_nil ?_
    refine wpList_nil ?_
    first | (refine bodyPost_ret (results_B2 (t := 34) rfl _ _ (b_r4) rfl _ rfl r4 Tryz.isAgg34 (by kernel_rfl)) rfl ?_) | (go_step; refine bodyPost_ret (results_B2 (t := 34) rfl _ _ (b_r4) rfl _ rfl r4 Tryz.isAgg34 (by kernel_rfl)) rfl ?_) | (go_step; go_step; refine bodyPost_ret (results_B2 (t := 34) rfl _ _ (b_r4) rfl _ rfl r4 Tryz.isAgg34 (by kernel_rfl)) rfl ?_) | (go_step; go_step; go_step; refine bodyPost_ret (results_B2 (t := 34) rfl _ _ (b_r4) rfl _ rfl r4 Tryz.isAgg34 (by kernel_rfl)) rfl ?_) | (go_step; go_step; go_step; go_step; refine bodyPost_ret (results_B2 (t := 34) rfl _ _ (b_r4) rfl _ rfl r4 Tryz.isAgg34 (by kernel_rfl)) rfl ?_) | (go_step; go_step; go_step; go_step; go_step; refine bodyPost_ret (results_B2 (t := 34) rfl _ _ (b_r4) rfl _ rfl r4 Tryz.isAgg34 (by kernel_rfl)) rfl ?_)
    exact ⟨_, _, rfl, rs5, B⟩
/- The reference's Inverse. -/
def setsI (r : Rc) (ls : List TA) (k : Nat) : List TA := setsK r (invF ls) (fun x y => decide (0 < 255 - (getL ls x y).a)) k
def invS (r : Rc) (ls : List TA) : List TA := if fitsE r = 0 then setsI r ls (areaN r) else []
theorem run_alloc_G15 (w : World) (o : Oper) (ho : o.op = .alloc 39) (ev : Operand → Value) : (execOp ev o).run Tryz.prog w = .ok (.value (.pointer (some ⟨w.heap.size, 0, none⟩))) (w.alloc (.cells #[.slice none 0 0, .int .i64 0] 39)) := by
 obtain ⟨d, p, t, ps, af, gd⟩ := o
 simp only at ho
 subst ho
 kernel_rfl
/- The reference's Fill. -/
def filG (p : Px) (l : List Pnt) (x y : Int) : Px := cleanP (filF p l x y)
def setsF (p : Px) (l : List Pnt) (k : Nat) : List TA := setsK (boundG l) (filG p l) (fun _ _ => true) k
def filS (p : Px) (l : List Pnt) : List TA := if filE l = 0 ∧ emptyR (boundG l) = false then setsF p l (areaN (boundG l)) else []
theorem cleanP_twice (p : Px) : cleanP (cleanP p) = cleanP p := by
 unfold cleanP
 by_cases h : p.a = 0
 ·rw [if_pos h]; rfl
 ·rw [if_neg h, if_neg h]
theorem bound_empty {l : List Pnt} (hv : validG l = true) (h : emptyR (boundG l) = true) : boundG l = Rc.zero := by
 unfold boundG at h ⊢
 rw [if_pos hv] at h ⊢
 unfold normR at h ⊢
 split
 ·rfl
 ·rename_i hn
  rw [if_neg hn] at h
  exact absurd h hn
theorem filE_valid {l : List Pnt} (h : filE l = 0) : validG l = true ∧ largeR (boundG l) = false := by
 unfold filE at h
 split at h
 ·rename_i hv
  split at h
  ·cases h
  ·rename_i hl
   exact ⟨hv, by simpa using hl⟩
 ·cases h
/-- Both ways of filling give the same raster. -/
theorem fil_same (p : Px) (l : List Pnt) (hA : filE l = 0 → emptyR (boundG l) = false → tlN (boundG l) ≤ 1000) : eqL (filL p l) (filS p l) = true := by
 unfold filL filS
 split
 ·rename_i h
  obtain ⟨hv, hl⟩ := filE_valid h.1
  refine paint_sets (bound_fits hv hl h.2) (hA h.1 h.2) _ _ _ fun x y _ => ?_
  rw [if_pos rfl]
  unfold filG
  rw [cleanP_twice]
 ·rfl
theorem R_FadeO (q r : Px) (c : Int) (w : World) (hq : q.ok) (e : fadeP q c = r) : Calls Tryz.prog 37 #[.agg (pxC4 q), .int .i64 c] w fun e w' => e = .returned (.agg (pxC4 r)) ∧ Below w.heap.size w w' := e ▸ R_Fade q c w hq
theorem R_CleanO (q r : Px) (w : World) (hq : q.ok) (e : cleanP q = r) : Calls Tryz.prog 36 #[.agg (pxC4 q)] w fun e w' => e = .returned (.agg (pxC4 r)) ∧ Below w.heap.size w w' := e ▸ R_Clean q w hq
theorem R_CoverFO (v : Value) (l : List Pnt) (x y n : Int) (w : World) (h : RSE ptE v l w) (hn : l.length ≤ maxLen) (e : coverR l x y = n) : Calls Tryz.prog 38 #[v, .int .i64 x, .int .i64 y] w fun e w' => e = .returned (.int .i64 n) ∧ Below w.heap.size w w' := e ▸ R_CoverG v l x y w h hn
theorem R_BoundFO (v : Value) (l : List Pnt) (r : Rc) (w : World) (h : RSE ptE v l w) (hn : l.length ≤ maxLen) (e : boundG l = r) : Calls Tryz.prog 8 #[v] w fun e w' => e = .returned (.agg (rcA r)) ∧ Below w.heap.size w w' := e ▸ R_BoundG v l w h hn
theorem R_SetP (v : Value) (ls : List TA) (x y : Int) (p : Px) (w : World) (h : RS v ls w) (tk : TokL ls) (hn : ls.length ≤ maxLen) (hx : (Lit.int .i64 x).wf = true) (hy : (Lit.int .i64 y).wf = true) (hp : p.ok) (L : List TA) (e1 : setR ls x y p = L) (e2 : setE ls x y p = 0) : Calls Tryz.prog 35 #[.agg #[v], .int .i64 x, .int .i64 y, .agg (pxC4 p)] w fun e w' => ∃ v', e = .returned (.agg #[v', .int .i64 0]) ∧ RS v' L w' ∧ Below w.heap.size w w' :=
 (R_SetR v ls x y p w h tk hn hx hy hp).mono fun e w' ⟨v', he, hr, hb⟩ => by
  rw [e1] at hr
  rw [e2] at he
  exact ⟨v', he, hr, hb⟩
set_option maxHeartbeats 8000000 in
theorem R_FillG (v : Value) (l : List Pnt) (p : Px) (w : World) (h : RSE ptE v l w) (hn : l.length ≤ maxLen) (hp : p.ok) (hA : filE l = 0 → emptyR (boundG l) = false → tlN (boundG l) ≤ 1000) : Calls Tryz.prog 10 #[v, .agg (pxC4 p)] w fun e w' => ∃ a cp, e = .returned (.agg #[.slice a (filS p l).length cp, .int .i64 (filE l)]) ∧ RS (.slice a (filS p l).length cp) (filS p l) w' ∧ Below w.heap.size w w' := by
 have B := Below.refl w.heap.size w
 obtain ⟨a, c, rfl, hc⟩ := h.len
 have HS := Lib.hid h
 clear h
 obtain ⟨bd, hbd⟩ : ∃ b, boundG l = b := ⟨_, rfl⟩
 have HBD := Lib.hid hbd
 cases hv : validG l with
 | false =>
  have e1 : filE l = 1 := by unfold filE; rw [hv]; rfl
  have e2 : filS p l = [] := by unfold filS; rw [if_neg (fun h => by omega)]
  rw [e1, e2]
  have HV := Lib.hid hv
  clear hv hA e1 e2 hbd
  go_enter Tryz.func10, Tryz.ntmps10
  go_upto_region 0 with fail
  refine wp_region_lit ?_
  try simp only [gelS]
  (refine wpList_boxB (t := 25) rfl _ rfl _ rfl ?_; intro b_b3 wn hle hge ht hbn hzn; have hsz := B.size; replace B := B.trans (hbn.mono (by omega)); have hln := Nat.lt_of_lt_of_eq (Nat.lt_succ_self _) hzn.symm; clear hzn; have b3 := ht; clear ht; simp only [putS])
  (refine wpList_allocBk (t := 39) rfl _ (run_alloc_G15 _ _ rfl) ?_; intro b_r4 wn hle hge ht hbn hzn; have hsz := B.size; replace B := B.trans (hbn.mono (by omega)); have hln := Nat.lt_of_lt_of_eq (Nat.lt_succ_self _) hzn.symm; clear hzn; (try have hlt := b3.lt); (try replace b3 := b3.below (hbn.mono hle)); have r4 := ht; clear ht; simp only [putS])
  refine wpList_nil ?_
  have k2 : w.heap.size ≤ b_b3 := by omega
  have k3 : b_b3 < b_r4 := by have := b3.lt; omega
  go_upto_region 1 with fail
  refine wp_region_lit ?_
  try simp only [gelS]
  refine wpList_chunk 1 (by kernel_rfl) ?_
  simp only [takS, Nat.reduceAdd]
  repeat (first | go_big_quiet_skip | (go_big_quiet_want; go_big_quiet_op; go_big_quiet_on))
  refine wpQuiet_nil ?_
  refine wpList_callF (by first | rfl | simp [Region.wanted, yielded]) rfl (enters_of Tryz.func25 (by kernel_rfl) rfl) (by simp only [Act.eval, evlS]; rfl) ?_
  refine (R_ValidGO _ l false _ (HS.out.below B) hn HV.out).mono ?_
  rintro e wn ⟨rfl, hbn⟩
  have hsz := B.size
  have hzn := hbn.size
  replace B := B.trans (hbn.mono B.size)
  (try replace b3 := b3.below hbn)
  (try replace r4 := r4.below hbn)
  refine ⟨_, rfl, ?_⟩
  simp only [putS]
  refine wpList_chunk 1 (by kernel_rfl) ?_
  simp only [takS, Nat.reduceAdd]
  repeat (first | go_big_quiet_skip | (go_big_quiet_want; go_big_quiet_op; go_big_quiet_on))
  refine wpQuiet_nil ?_
  refine wpList_nil ?_
  go_upto_region 2 with fail
  refine wp_region_lit ?_
  try simp only [gelS]
  refine wpList_chunk 2 (by kernel_rfl) ?_
  simp only [takS, Nat.reduceAdd]
  repeat (first | go_big_quiet_skip | (go_big_quiet_want; go_big_quiet_op; go_big_quiet_on))
  refine wpQuiet_nil ?_
  refine wpList_nil ?_
  go_upto_region 3 with fail
  refine wp_region_lit ?_
  try simp only [gelS]
  refine wpList_chunk 1 (by kernel_rfl) ?_
  simp only [takS, Nat.reduceAdd]
  repeat (first | go_big_quiet_skip | (go_big_quiet_want; go_big_quiet_op; go_big_quiet_on))
  refine wpQuiet_nil ?_
  (refine wpList_storeB (t := 39) rfl _ _ rfl _ rfl _ rfl r4 (by kernel_rfl) rfl (by simp [rcA, pxC4, Value.oneCell']) ?_; have r4o := r4; clear r4; intro wn ht hcn hzn; have hsz := B.size; replace hzn := Nat.le_of_eq hzn.symm; replace B := Chg.below B hcn (by omega) B.size; (try replace b3 := b3.of_eq (hcn.block _ b3.lt (by omega))); have r4 := ht; clear ht; simp only [putS])
  refine wpList_nil ?_
  first | (refine bodyPost_ret (results_B (t := 39) rfl _ _ (b_r4) rfl r4 Tryz.isAgg39 (by kernel_rfl)) rfl ?_) | (go_step; refine bodyPost_ret (results_B (t := 39) rfl _ _ (b_r4) rfl r4 Tryz.isAgg39 (by kernel_rfl)) rfl ?_) | (go_step; go_step; refine bodyPost_ret (results_B (t := 39) rfl _ _ (b_r4) rfl r4 Tryz.isAgg39 (by kernel_rfl)) rfl ?_) | (go_step; go_step; go_step; refine bodyPost_ret (results_B (t := 39) rfl _ _ (b_r4) rfl r4 Tryz.isAgg39 (by kernel_rfl)) rfl ?_) | (go_step; go_step; go_step; go_step; refine bodyPost_ret (results_B (t := 39) rfl _ _ (b_r4) rfl r4 Tryz.isAgg39 (by kernel_rfl)) rfl ?_) | (go_step; go_step; go_step; go_step; go_step; refine bodyPost_ret (results_B (t := 39) rfl _ _ (b_r4) rfl r4 Tryz.isAgg39 (by kernel_rfl)) rfl ?_)
  exact ⟨none, 0, rfl, RS.nil _, B⟩
 | true =>
  have HV := Lib.hid hv
  have hbb := bound_bd hv
  rw [hbd] at hbb
  obtain ⟨⟨q1, q2⟩, ⟨q3, q4⟩, ⟨q5, q6⟩, q7, q8⟩ := hbb
  cases hl : largeR bd with
  | true =>
   have e1 : filE l = 45 := by unfold filE; rw [hv, hbd, hl]; rfl
   have e2 : filS p l = [] := by unfold filS; rw [if_neg (fun h => by omega)]
   rw [e1, e2]
   have HL := Lib.hid hl
   clear hv hl hA e1 e2 hbd
   by_cases g1 : 256 < bd.x1 - bd.x0
   ·have d1 : decide (256 < bd.x1 - bd.x0) = true := decide_eq_true g1
    go_enter Tryz.func10, Tryz.ntmps10
    go_upto_region 0 with fail
    refine wp_region_lit ?_
    try simp only [gelS]
    (refine wpList_boxB (t := 25) rfl _ rfl _ rfl ?_; intro b_b3 wn hle hge ht hbn hzn; have hsz := B.size; replace B := B.trans (hbn.mono (by omega)); have hln := Nat.lt_of_lt_of_eq (Nat.lt_succ_self _) hzn.symm; clear hzn; (try have hlt := b3.lt); (try replace b3 := b3.below (hbn.mono hle)); (try have hlt := r4.lt); (try replace r4 := r4.below (hbn.mono hle)); have b3 := ht; clear ht; simp only [putS])
    (refine wpList_allocBk (t := 39) rfl _ (run_alloc_G15 _ _ rfl) ?_; intro b_r4 wn hle hge ht hbn hzn; have hsz := B.size; replace B := B.trans (hbn.mono (by omega)); have hln := Nat.lt_of_lt_of_eq (Nat.lt_succ_self _) hzn.symm; clear hzn; (try have hlt := b3.lt); (try replace b3 := b3.below (hbn.mono hle)); (try have hlt := r4.lt); (try replace r4 := r4.below (hbn.mono hle)); have r4 := ht; clear ht; simp only [putS])
    refine wpList_nil ?_
    have k2 : w.heap.size ≤ b_b3 := by omega
    have k3 : b_b3 < b_r4 := by have := b3.lt; omega
    go_upto_region 1 with fail
    refine wp_region_lit ?_
    try simp only [gelS]
    refine wpList_chunk 1 (by kernel_rfl) ?_
    simp only [takS, Nat.reduceAdd]
    repeat (first | go_big_quiet_skip | (go_big_quiet_want; go_big_quiet_op; go_big_quiet_on))
    refine wpQuiet_nil ?_
    refine wpList_callF (by first | rfl | simp [Region.wanted, yielded]) rfl (enters_of Tryz.func25 (by kernel_rfl) rfl) (by simp only [Act.eval, evlS]; rfl) ?_
    refine (R_ValidGO _ l true _ (HS.out.below B) hn HV.out).mono ?_
    rintro e wn ⟨rfl, hbn⟩
    have hsz := B.size
    have hzn := hbn.size
    replace B := B.trans (hbn.mono B.size)
    (try replace b3 := b3.below hbn)
    (try replace r4 := r4.below hbn)
    refine ⟨_, rfl, ?_⟩
    simp only [putS]
    refine wpList_chunk 1 (by kernel_rfl) ?_
    simp only [takS, Nat.reduceAdd]
    repeat (first | go_big_quiet_skip | (go_big_quiet_want; go_big_quiet_op; go_big_quiet_on))
    refine wpQuiet_nil ?_
    refine wpList_nil ?_
    go_upto_region 2 with fail
    refine wp_region_lit ?_
    try simp only [gelS]
    refine wpList_chunk 2 (by kernel_rfl) ?_
    simp only [takS, Nat.reduceAdd]
    repeat (first | go_big_quiet_skip | (go_big_quiet_want; go_big_quiet_op; go_big_quiet_on))
    refine wpQuiet_nil ?_
    refine wpList_nil ?_
    go_upto_region 4 with fail
    refine wp_region_lit ?_
    try simp only [gelS]
    refine wpList_chunk 1 (by kernel_rfl) ?_
    simp only [takS, Nat.reduceAdd]
    repeat (first | go_big_quiet_skip | (go_big_quiet_want; go_big_quiet_op; go_big_quiet_on))
    refine wpQuiet_nil ?_
    refine wpList_callF (by first | rfl | simp [Region.wanted, yielded]) rfl (enters_of Tryz.func8 (by kernel_rfl) rfl) (by simp only [Act.eval, evlS]; rfl) ?_
    refine (R_BoundFO _ l bd _ (HS.out.below B) hn HBD.out).mono ?_
    rintro e wn ⟨rfl, hbn⟩
    have hsz := B.size
    have hzn := hbn.size
    replace B := B.trans (hbn.mono B.size)
    (try replace b3 := b3.below hbn)
    (try replace r4 := r4.below hbn)
    refine ⟨_, rfl, ?_⟩
    simp only [putS]
    (refine wpList_allocBk (t := 30) rfl _ (run_alloc_Rc _ _ rfl) ?_; intro b_b6 wn hle hge ht hbn hzn; have hsz := B.size; replace B := B.trans (hbn.mono (by omega)); have hln := Nat.lt_of_lt_of_eq (Nat.lt_succ_self _) hzn.symm; clear hzn; (try have hlt := b3.lt); (try replace b3 := b3.below (hbn.mono hle)); (try have hlt := r4.lt); (try replace r4 := r4.below (hbn.mono hle)); have b6 := ht; clear ht; simp only [putS])
    (refine wpList_storeB (t := 30) rfl _ _ rfl _ rfl _ rfl b6 (by kernel_rfl) rfl (by simp [rcA, pxC4, Value.oneCell']) ?_; have b6o := b6; clear b6; intro wn ht hcn hzn; have hsz := B.size; replace hzn := Nat.le_of_eq hzn.symm; replace B := Chg.below B hcn (by omega) B.size; (try replace b3 := b3.of_eq (hcn.block _ b3.lt (by omega))); (try replace r4 := r4.of_eq (hcn.block _ r4.lt (by omega))); have b6 := ht; clear ht; simp only [putS])
    refine wpList_nil ?_
    replace b6 : AtB 30 _ b_b6 (rcA bd) := b6
    have k4 : b_r4 < b_b6 := by have := r4.lt; omega
    go_upto_region 5 with fail
    refine wp_region_lit ?_
    try simp only [gelS]
    refine wpList_chunk 14 (by kernel_rfl) ?_
    simp only [takS, Nat.reduceAdd]
    repeat (first | go_big_quiet_skip | (go_big_quiet_want; first | (refine quiet_loadAny (t := 3) rfl _ _ _ rfl (fun w hw => run_load_int ((ov_B b6 w hw).cellL 0 rfl)) (by rfl) ?_; simp only [putS]; go_big_quiet_on) | (refine quiet_loadAny (t := 3) rfl _ _ _ rfl (fun w hw => run_load_int ((ov_B b6 w hw).cellL 1 rfl)) (by rfl) ?_; simp only [putS]; go_big_quiet_on) | (refine quiet_loadAny (t := 3) rfl _ _ _ rfl (fun w hw => run_load_int ((ov_B b6 w hw).cellL 2 rfl)) (by rfl) ?_; simp only [putS]; go_big_quiet_on) | (refine quiet_loadAny (t := 3) rfl _ _ _ rfl (fun w hw => run_load_int ((ov_B b6 w hw).cellL 3 rfl)) (by rfl) ?_; simp only [putS]; go_big_quiet_on) | (go_big_quiet_op; go_big_quiet_on)))
    refine wpQuiet_nil ?_
    refine wpList_nil ?_
    go_upto_region 6 with fail
    refine wp_region_lit ?_
    try simp only [gelS]
    refine wpList_chunk 1 (by kernel_rfl) ?_
    simp only [takS, Nat.reduceAdd]
    repeat (first | go_big_quiet_skip | (go_big_quiet_want; go_big_quiet_op; go_big_quiet_on))
    refine wpQuiet_nil ?_
    (refine wpList_storeB (t := 39) rfl _ _ rfl _ rfl _ rfl r4 (by kernel_rfl) rfl (by simp [rcA, pxC4, Value.oneCell']) ?_; have r4o := r4; clear r4; intro wn ht hcn hzn; have hsz := B.size; replace hzn := Nat.le_of_eq hzn.symm; replace B := Chg.below B hcn (by omega) B.size; (try replace b3 := b3.of_eq (hcn.block _ b3.lt (by omega))); (try replace b6 := b6.of_eq (hcn.block _ b6.lt (by omega))); have r4 := ht; clear ht; simp only [putS])
    refine wpList_nil ?_
    first | (refine bodyPost_ret (results_B (t := 39) rfl _ _ (b_r4) rfl r4 Tryz.isAgg39 (by kernel_rfl)) rfl ?_) | (go_step; refine bodyPost_ret (results_B (t := 39) rfl _ _ (b_r4) rfl r4 Tryz.isAgg39 (by kernel_rfl)) rfl ?_) | (go_step; go_step; refine bodyPost_ret (results_B (t := 39) rfl _ _ (b_r4) rfl r4 Tryz.isAgg39 (by kernel_rfl)) rfl ?_) | (go_step; go_step; go_step; refine bodyPost_ret (results_B (t := 39) rfl _ _ (b_r4) rfl r4 Tryz.isAgg39 (by kernel_rfl)) rfl ?_) | (go_step; go_step; go_step; go_step; refine bodyPost_ret (results_B (t := 39) rfl _ _ (b_r4) rfl r4 Tryz.isAgg39 (by kernel_rfl)) rfl ?_) | (go_step; go_step; go_step; go_step; go_step; refine bodyPost_ret (results_B (t := 39) rfl _ _ (b_r4) rfl r4 Tryz.isAgg39 (by kernel_rfl)) rfl ?_)
    exact ⟨none, 0, rfl, RS.nil _, B⟩
   ·have d1 : decide (256 < bd.x1 - bd.x0) = false := decide_eq_false g1
    have d2 : decide (256 < bd.y1 - bd.y0) = true := by
     have := HL.out
     unfold largeR at this
     rw [d1, Bool.false_or] at this
     exact this
    go_enter Tryz.func10, Tryz.ntmps10
    go_upto_region 0 with fail
    refine wp_region_lit ?_
    try simp only [gelS]
    (refine wpList_boxB (t := 25) rfl _ rfl _ rfl ?_; intro b_b3 wn hle hge ht hbn hzn; have hsz := B.size; replace B := B.trans (hbn.mono (by omega)); have hln := Nat.lt_of_lt_of_eq (Nat.lt_succ_self _) hzn.symm; clear hzn; (try have hlt := b3.lt); (try replace b3 := b3.below (hbn.mono hle)); (try have hlt := r4.lt); (try replace r4 := r4.below (hbn.mono hle)); (try have hlt := b6.lt); (try replace b6 := b6.below (hbn.mono hle)); have b3 := ht; clear ht; simp only [putS])
    (refine wpList_allocBk (t := 39) rfl _ (run_alloc_G15 _ _ rfl) ?_; intro b_r4 wn hle hge ht hbn hzn; have hsz := B.size; replace B := B.trans (hbn.mono (by omega)); have hln := Nat.lt_of_lt_of_eq (Nat.lt_succ_self _) hzn.symm; clear hzn; (try have hlt := b3.lt); (try replace b3 := b3.below (hbn.mono hle)); (try have hlt := r4.lt); (try replace r4 := r4.below (hbn.mono hle)); (try have hlt := b6.lt); (try replace b6 := b6.below (hbn.mono hle)); have r4 := ht; clear ht; simp only [putS])
    refine wpList_nil ?_
    have k2 : w.heap.size ≤ b_b3 := by omega
    have k3 : b_b3 < b_r4 := by have := b3.lt; omega
    go_upto_region 1 with fail
    refine wp_region_lit ?_
    try simp only [gelS]
    refine wpList_chunk 1 (by kernel_rfl) ?_
    simp only [takS, Nat.reduceAdd]
    repeat (first | go_big_quiet_skip | (go_big_quiet_want; go_big_quiet_op; go_big_quiet_on))
    refine wpQuiet_nil ?_
    refine wpList_callF (by first | rfl | simp [Region.wanted, yielded]) rfl (enters_of Tryz.func25 (by kernel_rfl) rfl) (by simp only [Act.eval, evlS]; rfl) ?_
    refine (R_ValidGO _ l true _ (HS.out.below B) hn HV.out).mono ?_
    rintro e wn ⟨rfl, hbn⟩
    have hsz := B.size
    have hzn := hbn.size
    replace B := B.trans (hbn.mono B.size)
    (try replace b3 := b3.below hbn)
    (try replace r4 := r4.below hbn)
    (try replace b6 := b6.below hbn)
    refine ⟨_, rfl, ?_⟩
    simp only [putS]
    refine wpList_chunk 1 (by kernel_rfl) ?_
    simp only [takS, Nat.reduceAdd]
    repeat (first | go_big_quiet_skip | (go_big_quiet_want; go_big_quiet_op; go_big_quiet_on))
    refine wpQuiet_nil ?_
    refine wpList_nil ?_
    go_upto_region 2 with fail
    refine wp_region_lit ?_
    try simp only [gelS]
    refine wpList_chunk 2 (by kernel_rfl) ?_
    simp only [takS, Nat.reduceAdd]
    repeat (first | go_big_quiet_skip | (go_big_quiet_want; go_big_quiet_op; go_big_quiet_on))
    refine wpQuiet_nil ?_
    refine wpList_nil ?_
    go_upto_region 4 with fail
    refine wp_region_lit ?_
    try simp only [gelS]
    refine wpList_chunk 1 (by kernel_rfl) ?_
    simp only [takS, Nat.reduceAdd]
    repeat (first | go_big_quiet_skip | (go_big_quiet_want; go_big_quiet_op; go_big_quiet_on))
    refine wpQuiet_nil ?_
    refine wpList_callF (by first | rfl | simp [Region.wanted, yielded]) rfl (enters_of Tryz.func8 (by kernel_rfl) rfl) (by simp only [Act.eval, evlS]; rfl) ?_
    refine (R_BoundFO _ l bd _ (HS.out.below B) hn HBD.out).mono ?_
    rintro e wn ⟨rfl, hbn⟩
    have hsz := B.size
    have hzn := hbn.size
    replace B := B.trans (hbn.mono B.size)
    (try replace b3 := b3.below hbn)
    (try replace r4 := r4.below hbn)
    (try replace b6 := b6.below hbn)
    refine ⟨_, rfl, ?_⟩
    simp only [putS]
    (refine wpList_allocBk (t := 30) rfl _ (run_alloc_Rc _ _ rfl) ?_; intro b_b6 wn hle hge ht hbn hzn; have hsz := B.size; replace B := B.trans (hbn.mono (by omega)); have hln := Nat.lt_of_lt_of_eq (Nat.lt_succ_self _) hzn.symm; clear hzn; (try have hlt := b3.lt); (try replace b3 := b3.below (hbn.mono hle)); (try have hlt := r4.lt); (try replace r4 := r4.below (hbn.mono hle)); (try have hlt := b6.lt); (try replace b6 := b6.below (hbn.mono hle)); have b6 := ht; clear ht; simp only [putS])
    (refine wpList_storeB (t := 30) rfl _ _ rfl _ rfl _ rfl b6 (by kernel_rfl) rfl (by simp [rcA, pxC4, Value.oneCell']) ?_; have b6o := b6; clear b6; intro wn ht hcn hzn; have hsz := B.size; replace hzn := Nat.le_of_eq hzn.symm; replace B := Chg.below B hcn (by omega) B.size; (try replace b3 := b3.of_eq (hcn.block _ b3.lt (by omega))); (try replace r4 := r4.of_eq (hcn.block _ r4.lt (by omega))); have b6 := ht; clear ht; simp only [putS])
    refine wpList_nil ?_
    replace b6 : AtB 30 _ b_b6 (rcA bd) := b6
    have k4 : b_r4 < b_b6 := by have := r4.lt; omega
    go_upto_region 5 with fail
    refine wp_region_lit ?_
    try simp only [gelS]
    refine wpList_chunk 14 (by kernel_rfl) ?_
    simp only [takS, Nat.reduceAdd]
    repeat (first | go_big_quiet_skip | (go_big_quiet_want; first | (refine quiet_loadAny (t := 3) rfl _ _ _ rfl (fun w hw => run_load_int ((ov_B b6 w hw).cellL 0 rfl)) (by rfl) ?_; simp only [putS]; go_big_quiet_on) | (refine quiet_loadAny (t := 3) rfl _ _ _ rfl (fun w hw => run_load_int ((ov_B b6 w hw).cellL 1 rfl)) (by rfl) ?_; simp only [putS]; go_big_quiet_on) | (refine quiet_loadAny (t := 3) rfl _ _ _ rfl (fun w hw => run_load_int ((ov_B b6 w hw).cellL 2 rfl)) (by rfl) ?_; simp only [putS]; go_big_quiet_on) | (refine quiet_loadAny (t := 3) rfl _ _ _ rfl (fun w hw => run_load_int ((ov_B b6 w hw).cellL 3 rfl)) (by rfl) ?_; simp only [putS]; go_big_quiet_on) | (go_big_quiet_op; go_big_quiet_on)))
    refine wpQuiet_nil ?_
    refine wpList_nil ?_
    go_upto_region 6 with fail
    refine wp_region_lit ?_
    try simp only [gelS]
    refine wpList_chunk 1 (by kernel_rfl) ?_
    simp only [takS, Nat.reduceAdd]
    repeat (first | go_big_quiet_skip | (go_big_quiet_want; go_big_quiet_op; go_big_quiet_on))
    refine wpQuiet_nil ?_
    (refine wpList_storeB (t := 39) rfl _ _ rfl _ rfl _ rfl r4 (by kernel_rfl) rfl (by simp [rcA, pxC4, Value.oneCell']) ?_; have r4o := r4; clear r4; intro wn ht hcn hzn; have hsz := B.size; replace hzn := Nat.le_of_eq hzn.symm; replace B := Chg.below B hcn (by omega) B.size; (try replace b3 := b3.of_eq (hcn.block _ b3.lt (by omega))); (try replace b6 := b6.of_eq (hcn.block _ b6.lt (by omega))); have r4 := ht; clear ht; simp only [putS])
    refine wpList_nil ?_
    first | (refine bodyPost_ret (results_B (t := 39) rfl _ _ (b_r4) rfl r4 Tryz.isAgg39 (by kernel_rfl)) rfl ?_) | (go_step; refine bodyPost_ret (results_B (t := 39) rfl _ _ (b_r4) rfl r4 Tryz.isAgg39 (by kernel_rfl)) rfl ?_) | (go_step; go_step; refine bodyPost_ret (results_B (t := 39) rfl _ _ (b_r4) rfl r4 Tryz.isAgg39 (by kernel_rfl)) rfl ?_) | (go_step; go_step; go_step; refine bodyPost_ret (results_B (t := 39) rfl _ _ (b_r4) rfl r4 Tryz.isAgg39 (by kernel_rfl)) rfl ?_) | (go_step; go_step; go_step; go_step; refine bodyPost_ret (results_B (t := 39) rfl _ _ (b_r4) rfl r4 Tryz.isAgg39 (by kernel_rfl)) rfl ?_) | (go_step; go_step; go_step; go_step; go_step; refine bodyPost_ret (results_B (t := 39) rfl _ _ (b_r4) rfl r4 Tryz.isAgg39 (by kernel_rfl)) rfl ?_)
    exact ⟨none, 0, rfl, RS.nil _, B⟩
  | false =>
   have e1 : filE l = 0 := by unfold filE; rw [hv, hbd, hl]; rfl
   have hl2 := hl
   unfold largeR at hl2
   rw [Bool.or_eq_false_iff] at hl2
   have d1 := hl2.1
   have d2 := hl2.2
   clear hl2
   cases hm : emptyR bd with
   | true =>
    have hz : bd = Rc.zero := by rw [← hbd]; exact bound_empty hv (by rw [hbd]; exact hm)
    have e2 : filS p l = [] := by unfold filS; rw [hbd, hm, if_neg (fun h => by cases h.2)]
    have d3 : decide (bd.y0 < bd.y1) = false := by rw [hz]; rfl
    rw [e1, e2]
    clear hv hl hA e1 e2 hbd hm hz
    go_enter Tryz.func10, Tryz.ntmps10
    go_upto_region 0 with fail
    refine wp_region_lit ?_
    try simp only [gelS]
    (refine wpList_boxB (t := 25) rfl _ rfl _ rfl ?_; intro b_b3 wn hle hge ht hbn hzn; have hsz := B.size; replace B := B.trans (hbn.mono (by omega)); have hln := Nat.lt_of_lt_of_eq (Nat.lt_succ_self _) hzn.symm; clear hzn; (try have hlt := b3.lt); (try replace b3 := b3.below (hbn.mono hle)); (try have hlt := r4.lt); (try replace r4 := r4.below (hbn.mono hle)); (try have hlt := b6.lt); (try replace b6 := b6.below (hbn.mono hle)); have b3 := ht; clear ht; simp only [putS])
    (refine wpList_allocBk (t := 39) rfl _ (run_alloc_G15 _ _ rfl) ?_; intro b_r4 wn hle hge ht hbn hzn; have hsz := B.size; replace B := B.trans (hbn.mono (by omega)); have hln := Nat.lt_of_lt_of_eq (Nat.lt_succ_self _) hzn.symm; clear hzn; (try have hlt := b3.lt); (try replace b3 := b3.below (hbn.mono hle)); (try have hlt := r4.lt); (try replace r4 := r4.below (hbn.mono hle)); (try have hlt := b6.lt); (try replace b6 := b6.below (hbn.mono hle)); have r4 := ht; clear ht; simp only [putS])
    refine wpList_nil ?_
    have k2 : w.heap.size ≤ b_b3 := by omega
    have k3 : b_b3 < b_r4 := by have := b3.lt; omega
    go_upto_region 1 with fail
    refine wp_region_lit ?_
    try simp only [gelS]
    refine wpList_chunk 1 (by kernel_rfl) ?_
    simp only [takS, Nat.reduceAdd]
    repeat (first | go_big_quiet_skip | (go_big_quiet_want; go_big_quiet_op; go_big_quiet_on))
    refine wpQuiet_nil ?_
    refine wpList_callF (by first | rfl | simp [Region.wanted, yielded]) rfl (enters_of Tryz.func25 (by kernel_rfl) rfl) (by simp only [Act.eval, evlS]; rfl) ?_
    refine (R_ValidGO _ l true _ (HS.out.below B) hn HV.out).mono ?_
    rintro e wn ⟨rfl, hbn⟩
    have hsz := B.size
    have hzn := hbn.size
    replace B := B.trans (hbn.mono B.size)
    (try replace b3 := b3.below hbn)
    (try replace r4 := r4.below hbn)
    (try replace b6 := b6.below hbn)
    refine ⟨_, rfl, ?_⟩
    simp only [putS]
    refine wpList_chunk 1 (by kernel_rfl) ?_
    simp only [takS, Nat.reduceAdd]
    repeat (first | go_big_quiet_skip | (go_big_quiet_want; go_big_quiet_op; go_big_quiet_on))
    refine wpQuiet_nil ?_
    refine wpList_nil ?_
    go_upto_region 2 with fail
    refine wp_region_lit ?_
    try simp only [gelS]
    refine wpList_chunk 2 (by kernel_rfl) ?_
    simp only [takS, Nat.reduceAdd]
    repeat (first | go_big_quiet_skip | (go_big_quiet_want; go_big_quiet_op; go_big_quiet_on))
    refine wpQuiet_nil ?_
    refine wpList_nil ?_
    go_upto_region 4 with fail
    refine wp_region_lit ?_
    try simp only [gelS]
    refine wpList_chunk 1 (by kernel_rfl) ?_
    simp only [takS, Nat.reduceAdd]
    repeat (first | go_big_quiet_skip | (go_big_quiet_want; go_big_quiet_op; go_big_quiet_on))
    refine wpQuiet_nil ?_
    refine wpList_callF (by first | rfl | simp [Region.wanted, yielded]) rfl (enters_of Tryz.func8 (by kernel_rfl) rfl) (by simp only [Act.eval, evlS]; rfl) ?_
    refine (R_BoundFO _ l bd _ (HS.out.below B) hn HBD.out).mono ?_
    rintro e wn ⟨rfl, hbn⟩
    have hsz := B.size
    have hzn := hbn.size
    replace B := B.trans (hbn.mono B.size)
    (try replace b3 := b3.below hbn)
    (try replace r4 := r4.below hbn)
    (try replace b6 := b6.below hbn)
    refine ⟨_, rfl, ?_⟩
    simp only [putS]
    (refine wpList_allocBk (t := 30) rfl _ (run_alloc_Rc _ _ rfl) ?_; intro b_b6 wn hle hge ht hbn hzn; have hsz := B.size; replace B := B.trans (hbn.mono (by omega)); have hln := Nat.lt_of_lt_of_eq (Nat.lt_succ_self _) hzn.symm; clear hzn; (try have hlt := b3.lt); (try replace b3 := b3.below (hbn.mono hle)); (try have hlt := r4.lt); (try replace r4 := r4.below (hbn.mono hle)); (try have hlt := b6.lt); (try replace b6 := b6.below (hbn.mono hle)); have b6 := ht; clear ht; simp only [putS])
    (refine wpList_storeB (t := 30) rfl _ _ rfl _ rfl _ rfl b6 (by kernel_rfl) rfl (by simp [rcA, pxC4, Value.oneCell']) ?_; have b6o := b6; clear b6; intro wn ht hcn hzn; have hsz := B.size; replace hzn := Nat.le_of_eq hzn.symm; replace B := Chg.below B hcn (by omega) B.size; (try replace b3 := b3.of_eq (hcn.block _ b3.lt (by omega))); (try replace r4 := r4.of_eq (hcn.block _ r4.lt (by omega))); have b6 := ht; clear ht; simp only [putS])
    refine wpList_nil ?_
    replace b6 : AtB 30 _ b_b6 (rcA bd) := b6
    have k4 : b_r4 < b_b6 := by have := r4.lt; omega
    go_upto_region 5 with fail
    refine wp_region_lit ?_
    try simp only [gelS]
    refine wpList_chunk 14 (by kernel_rfl) ?_
    simp only [takS, Nat.reduceAdd]
    repeat (first | go_big_quiet_skip | (go_big_quiet_want; first | (refine quiet_loadAny (t := 3) rfl _ _ _ rfl (fun w hw => run_load_int ((ov_B b6 w hw).cellL 0 rfl)) (by rfl) ?_; simp only [putS]; go_big_quiet_on) | (refine quiet_loadAny (t := 3) rfl _ _ _ rfl (fun w hw => run_load_int ((ov_B b6 w hw).cellL 1 rfl)) (by rfl) ?_; simp only [putS]; go_big_quiet_on) | (refine quiet_loadAny (t := 3) rfl _ _ _ rfl (fun w hw => run_load_int ((ov_B b6 w hw).cellL 2 rfl)) (by rfl) ?_; simp only [putS]; go_big_quiet_on) | (refine quiet_loadAny (t := 3) rfl _ _ _ rfl (fun w hw => run_load_int ((ov_B b6 w hw).cellL 3 rfl)) (by rfl) ?_; simp only [putS]; go_big_quiet_on) | (go_big_quiet_op; go_big_quiet_on)))
    refine wpQuiet_nil ?_
    refine wpList_nil ?_
    go_upto_region 7 with fail
    refine wp_region_lit ?_
    try simp only [gelS]
    (refine wpList_allocBk (t := 34) rfl _ (run_alloc_R _ _ rfl) ?_; intro b_r7 wn hle hge ht hbn hzn; have hsz := B.size; replace B := B.trans (hbn.mono (by omega)); have hln := Nat.lt_of_lt_of_eq (Nat.lt_succ_self _) hzn.symm; clear hzn; (try have hlt := b3.lt); (try replace b3 := b3.below (hbn.mono hle)); (try have hlt := r4.lt); (try replace r4 := r4.below (hbn.mono hle)); (try have hlt := b6.lt); (try replace b6 := b6.below (hbn.mono hle)); have r7 := ht; clear ht; simp only [putS])
    refine wpList_nil ?_
    go_upto_region 8 with fail
    refine wp_region_lit ?_
    try simp only [gelS]
    refine wpList_chunk 3 (by kernel_rfl) ?_
    simp only [takS, Nat.reduceAdd]
    repeat (first | go_big_quiet_skip | (go_big_quiet_want; first | (refine quiet_loadAny (t := 3) rfl _ _ _ rfl (fun w hw => run_load_int ((ov_B b6 w hw).cellL 0 rfl)) (by rfl) ?_; simp only [putS]; go_big_quiet_on) | (refine quiet_loadAny (t := 3) rfl _ _ _ rfl (fun w hw => run_load_int ((ov_B b6 w hw).cellL 1 rfl)) (by rfl) ?_; simp only [putS]; go_big_quiet_on) | (refine quiet_loadAny (t := 3) rfl _ _ _ rfl (fun w hw => run_load_int ((ov_B b6 w hw).cellL 2 rfl)) (by rfl) ?_; simp only [putS]; go_big_quiet_on) | (refine quiet_loadAny (t := 3) rfl _ _ _ rfl (fun w hw => run_load_int ((ov_B b6 w hw).cellL 3 rfl)) (by rfl) ?_; simp only [putS]; go_big_quiet_on) | (go_big_quiet_op; go_big_quiet_on)))
    refine wpQuiet_nil ?_
    refine wpList_nil ?_
    go_wp2
    go_loopw [8, 9, 10] (fun yv _ _ wr => yv = .int .i64 bd.y0 ∧ Below w.heap.size w wr ∧ AtB 39 wr b_r4 #[.slice none 0 0, .int .i64 0] ∧ AtB 30 wr b_b6 (rcA bd) ∧ AtB 34 wr b_r7 #[.slice none 0 0]) (fun _ _ _ _ => 0)
    case atStart => exact ⟨rfl, B, r4, b6, r7⟩
    case round =>
     clear B b3 r4 b6 r7
     obtain ⟨rfl, B, r4, b6, r7⟩ := hrel
     go_upto_region 9 with fail
     refine wp_region_lit ?_
     try simp only [gelS]
     refine wpList_chunk 4 (by kernel_rfl) ?_
     simp only [takS, Nat.reduceAdd]
     repeat (first | go_big_quiet_skip | (go_big_quiet_want; first | (refine quiet_loadAny (t := 3) rfl _ _ _ rfl (fun w hw => run_load_int ((ov_B b6 w hw).cellL 0 rfl)) (by rfl) ?_; simp only [putS]; go_big_quiet_on) | (refine quiet_loadAny (t := 3) rfl _ _ _ rfl (fun w hw => run_load_int ((ov_B b6 w hw).cellL 1 rfl)) (by rfl) ?_; simp only [putS]; go_big_quiet_on) | (refine quiet_loadAny (t := 3) rfl _ _ _ rfl (fun w hw => run_load_int ((ov_B b6 w hw).cellL 2 rfl)) (by rfl) ?_; simp only [putS]; go_big_quiet_on) | (refine quiet_loadAny (t := 3) rfl _ _ _ rfl (fun w hw => run_load_int ((ov_B b6 w hw).cellL 3 rfl)) (by rfl) ?_; simp only [putS]; go_big_quiet_on) | (go_big_quiet_op; go_big_quiet_on)))
     refine wpQuiet_nil ?_
     refine wpList_nil ?_
     go_upto_region 18 with fail
     refine wp_region_lit ?_
     try simp only [gelS]
     refine wpList_chunk 2 (by kernel_rfl) ?_
     simp only [takS, Nat.reduceAdd]
     repeat (first | go_big_quiet_skip | (go_big_quiet_want; first | (refine quiet_loadAny (t := 34) rfl _ _ _ rfl (fun w hw => run_load_B (ov_B r7 w hw) Tryz.isAgg34 (by kernel_rfl)) (by rfl) ?_; simp only [putS]; go_big_quiet_on) | (go_big_quiet_op; go_big_quiet_on)))
     refine wpQuiet_nil ?_
     (refine wpList_storeB (t := 39) rfl _ _ rfl _ rfl _ rfl r4 (by kernel_rfl) rfl (by simp [rcA, pxC4, Value.oneCell']) ?_; have r4o := r4; clear r4; intro wn ht hcn hzn; have hsz := B.size; replace hzn := Nat.le_of_eq hzn.symm; replace B := Chg.below B hcn (by omega) B.size; (try replace b3 := b3.of_eq (hcn.block _ b3.lt (by omega))); (try replace b6 := b6.of_eq (hcn.block _ b6.lt (by omega))); (try replace r7 := r7.of_eq (hcn.block _ r7.lt (by omega))); have r4 := ht; clear ht; simp only [putS])
     refine wpList_nil ?_
     first | (refine bodyPost_ret (results_B (t := 39) rfl _ _ (b_r4) rfl r4 Tryz.isAgg39 (by kernel_rfl)) rfl ?_) | (go_step; refine bodyPost_ret (results_B (t := 39) rfl _ _ (b_r4) rfl r4 Tryz.isAgg39 (by kernel_rfl)) rfl ?_) | (go_step; go_step; refine bodyPost_ret (results_B (t := 39) rfl _ _ (b_r4) rfl r4 Tryz.isAgg39 (by kernel_rfl)) rfl ?_) | (go_step; go_step; go_step; refine bodyPost_ret (results_B (t := 39) rfl _ _ (b_r4) rfl r4 Tryz.isAgg39 (by kernel_rfl)) rfl ?_) | (go_step; go_step; go_step; go_step; refine bodyPost_ret (results_B (t := 39) rfl _ _ (b_r4) rfl r4 Tryz.isAgg39 (by kernel_rfl)) rfl ?_) | (go_step; go_step; go_step; go_step; go_step; refine bodyPost_ret (results_B (t := 39) rfl _ _ (b_r4) rfl r4 Tryz.isAgg39 (by kernel_rfl)) rfl ?_)
     exact ⟨none, 0, rfl, RS.nil _, B⟩
   | false =>
    have hA := hA e1 (by rw [hbd]; exact hm)
    have hE : fitsE bd = 0 := by rw [← hbd]; exact bound_fits hv (by rw [hbd]; exact hl) (by rw [hbd]; exact hm)
    rw [hbd] at hA
    have e2 : filS p l = setsF p l (areaN bd) := by unfold filS; rw [hbd, if_pos ⟨e1, hm⟩]
    rw [e1, e2]
    have HFit := Lib.hid (fitsE_zero hE)
    obtain ⟨f1, f2, f3, f4, f5, f6, f7, f8⟩ := fitsE_zero hE
    have HA := Lib.hid hA
    have HAW := Lib.hid (area_wid (fitsE_zero hE)).1
    have HP := Lib.hid hp
    have HSF := Lib.hid (show ∀ k, setsF p l k = setsK bd (filG p l) (fun _ _ => true) k from fun k => by unfold setsF; rw [hbd])
    have HSP := Lib.hid (show ∀ k, k ≤ areaN bd → validL (setsF p l k) = true ∧ (setsF p l k).length ≤ 1000 from fun k hk => by rw [HSF.out]; exact ⟨(setsK_spec (fitsE_zero hE) hA _ _ k hk).1, (setsK_spec (fitsE_zero hE) hA _ _ k hk).2.1⟩)
    have HTK := Lib.hid (show ∀ k, TokL (setsF p l k) from fun k => by
     rw [HSF.out]
     induction k with
     | zero => exact TokL.nil
     | succ k ih =>
      show TokL (if _ then _ else _)
      split
      ·exact setR_tok ih (cleanP_ok (filF_ok hp l _ _))
      ·exact ih)
    have hwid : (widN bd : Int) = bd.x1 - bd.x0 := by unfold widN; omega
    obtain ⟨Wd, hWd⟩ : ∃ W, widN bd = W := ⟨_, rfl⟩
    rw [hWd] at hwid
    have HWD := Lib.hid hWd
    clear hv hl hA e1 e2 hbd hm hE hWd hp
    go_enter Tryz.func10, Tryz.ntmps10
    go_upto_region 0 with fail
    refine wp_region_lit ?_
    try simp only [gelS]
    (refine wpList_boxB (t := 25) rfl _ rfl _ rfl ?_; intro b_b3 wn hle hge ht hbn hzn; have hsz := B.size; replace B := B.trans (hbn.mono (by omega)); have hln := Nat.lt_of_lt_of_eq (Nat.lt_succ_self _) hzn.symm; clear hzn; (try have hlt := b3.lt); (try replace b3 := b3.below (hbn.mono hle)); (try have hlt := r4.lt); (try replace r4 := r4.below (hbn.mono hle)); (try have hlt := b6.lt); (try replace b6 := b6.below (hbn.mono hle)); (try have hlt := r7.lt); (try replace r7 := r7.below (hbn.mono hle)); have b3 := ht; clear ht; simp only [putS])
    (refine wpList_allocBk (t := 39) rfl _ (run_alloc_G15 _ _ rfl) ?_; intro b_r4 wn hle hge ht hbn hzn; have hsz := B.size; replace B := B.trans (hbn.mono (by omega)); have hln := Nat.lt_of_lt_of_eq (Nat.lt_succ_self _) hzn.symm; clear hzn; (try have hlt := b3.lt); (try replace b3 := b3.below (hbn.mono hle)); (try have hlt := r4.lt); (try replace r4 := r4.below (hbn.mono hle)); (try have hlt := b6.lt); (try replace b6 := b6.below (hbn.mono hle)); (try have hlt := r7.lt); (try replace r7 := r7.below (hbn.mono hle)); have r4 := ht; clear ht; simp only [putS])
    refine wpList_nil ?_
    have k2 : w.heap.size ≤ b_b3 := by omega
    have k3 : b_b3 < b_r4 := by have := b3.lt; omega
    go_upto_region 1 with fail
    refine wp_region_lit ?_
    try simp only [gelS]
    refine wpList_chunk 1 (by kernel_rfl) ?_
    simp only [takS, Nat.reduceAdd]
    repeat (first | go_big_quiet_skip | (go_big_quiet_want; go_big_quiet_op; go_big_quiet_on))
    refine wpQuiet_nil ?_
    refine wpList_callF (by first | rfl | simp [Region.wanted, yielded]) rfl (enters_of Tryz.func25 (by kernel_rfl) rfl) (by simp only [Act.eval, evlS]; rfl) ?_
    refine (R_ValidGO _ l true _ (HS.out.below B) hn HV.out).mono ?_
    rintro e wn ⟨rfl, hbn⟩
    have hsz := B.size
    have hzn := hbn.size
    replace B := B.trans (hbn.mono B.size)
    (try replace b3 := b3.below hbn)
    (try replace r4 := r4.below hbn)
    (try replace b6 := b6.below hbn)
    (try replace r7 := r7.below hbn)
    refine ⟨_, rfl, ?_⟩
    simp only [putS]
    refine wpList_chunk 1 (by kernel_rfl) ?_
    simp only [takS, Nat.reduceAdd]
    repeat (first | go_big_quiet_skip | (go_big_quiet_want; go_big_quiet_op; go_big_quiet_on))
    refine wpQuiet_nil ?_
    refine wpList_nil ?_
    go_upto_region 2 with fail
    refine wp_region_lit ?_
    try simp only [gelS]
    refine wpList_chunk 2 (by kernel_rfl) ?_
    simp only [takS, Nat.reduceAdd]
    repeat (first | go_big_quiet_skip | (go_big_quiet_want; go_big_quiet_op; go_big_quiet_on))
    refine wpQuiet_nil ?_
    refine wpList_nil ?_
    go_upto_region 4 with fail
    refine wp_region_lit ?_
    try simp only [gelS]
    refine wpList_chunk 1 (by kernel_rfl) ?_
    simp only [takS, Nat.reduceAdd]
    repeat (first | go_big_quiet_skip | (go_big_quiet_want; go_big_quiet_op; go_big_quiet_on))
    refine wpQuiet_nil ?_
    refine wpList_callF (by first | rfl | simp [Region.wanted, yielded]) rfl (enters_of Tryz.func8 (by kernel_rfl) rfl) (by simp only [Act.eval, evlS]; rfl) ?_
    refine (R_BoundFO _ l bd _ (HS.out.below B) hn HBD.out).mono ?_
    rintro e wn ⟨rfl, hbn⟩
    have hsz := B.size
    have hzn := hbn.size
    replace B := B.trans (hbn.mono B.size)
    (try replace b3 := b3.below hbn)
    (try replace r4 := r4.below hbn)
    (try replace b6 := b6.below hbn)
    (try replace r7 := r7.below hbn)
    refine ⟨_, rfl, ?_⟩
    simp only [putS]
    (refine wpList_allocBk (t := 30) rfl _ (run_alloc_Rc _ _ rfl) ?_; intro b_b6 wn hle hge ht hbn hzn; have hsz := B.size; replace B := B.trans (hbn.mono (by omega)); have hln := Nat.lt_of_lt_of_eq (Nat.lt_succ_self _) hzn.symm; clear hzn; (try have hlt := b3.lt); (try replace b3 := b3.below (hbn.mono hle)); (try have hlt := r4.lt); (try replace r4 := r4.below (hbn.mono hle)); (try have hlt := b6.lt); (try replace b6 := b6.below (hbn.mono hle)); (try have hlt := r7.lt); (try replace r7 := r7.below (hbn.mono hle)); have b6 := ht; clear ht; simp only [putS])
    (refine wpList_storeB (t := 30) rfl _ _ rfl _ rfl _ rfl b6 (by kernel_rfl) rfl (by simp [rcA, pxC4, Value.oneCell']) ?_; have b6o := b6; clear b6; intro wn ht hcn hzn; have hsz := B.size; replace hzn := Nat.le_of_eq hzn.symm; replace B := Chg.below B hcn (by omega) B.size; (try replace b3 := b3.of_eq (hcn.block _ b3.lt (by omega))); (try replace r4 := r4.of_eq (hcn.block _ r4.lt (by omega))); (try replace r7 := r7.of_eq (hcn.block _ r7.lt (by omega))); have b6 := ht; clear ht; simp only [putS])
    refine wpList_nil ?_
    replace b6 : AtB 30 _ b_b6 (rcA bd) := b6
    have k4 : b_r4 < b_b6 := by have := r4.lt; omega
    go_upto_region 5 with fail
    refine wp_region_lit ?_
    try simp only [gelS]
    refine wpList_chunk 14 (by kernel_rfl) ?_
    simp only [takS, Nat.reduceAdd]
    repeat (first | go_big_quiet_skip | (go_big_quiet_want; first | (refine quiet_loadAny (t := 3) rfl _ _ _ rfl (fun w hw => run_load_int ((ov_B b6 w hw).cellL 0 rfl)) (by rfl) ?_; simp only [putS]; go_big_quiet_on) | (refine quiet_loadAny (t := 3) rfl _ _ _ rfl (fun w hw => run_load_int ((ov_B b6 w hw).cellL 1 rfl)) (by rfl) ?_; simp only [putS]; go_big_quiet_on) | (refine quiet_loadAny (t := 3) rfl _ _ _ rfl (fun w hw => run_load_int ((ov_B b6 w hw).cellL 2 rfl)) (by rfl) ?_; simp only [putS]; go_big_quiet_on) | (refine quiet_loadAny (t := 3) rfl _ _ _ rfl (fun w hw => run_load_int ((ov_B b6 w hw).cellL 3 rfl)) (by rfl) ?_; simp only [putS]; go_big_quiet_on) | (go_big_quiet_op; go_big_quiet_on)))
    refine wpQuiet_nil ?_
    refine wpList_nil ?_
    go_upto_region 7 with fail
    refine wp_region_lit ?_
    try simp only [gelS]
    (refine wpList_allocBk (t := 34) rfl _ (run_alloc_R _ _ rfl) ?_; intro b_r7 wn hle hge ht hbn hzn; have hsz := B.size; replace B := B.trans (hbn.mono (by omega)); have hln := Nat.lt_of_lt_of_eq (Nat.lt_succ_self _) hzn.symm; clear hzn; (try have hlt := b3.lt); (try replace b3 := b3.below (hbn.mono hle)); (try have hlt := r4.lt); (try replace r4 := r4.below (hbn.mono hle)); (try have hlt := b6.lt); (try replace b6 := b6.below (hbn.mono hle)); (try have hlt := r7.lt); (try replace r7 := r7.below (hbn.mono hle)); have r7 := ht; clear ht; simp only [putS])
    refine wpList_nil ?_
    have k5 : b_b6 < b_r7 := by have := b6.lt; omega
    go_upto_region 8 with fail
    refine wp_region_lit ?_
    try simp only [gelS]
    refine wpList_chunk 3 (by kernel_rfl) ?_
    simp only [takS, Nat.reduceAdd]
    repeat (first | go_big_quiet_skip | (go_big_quiet_want; first | (refine quiet_loadAny (t := 3) rfl _ _ _ rfl (fun w hw => run_load_int ((ov_B b6 w hw).cellL 0 rfl)) (by rfl) ?_; simp only [putS]; go_big_quiet_on) | (refine quiet_loadAny (t := 3) rfl _ _ _ rfl (fun w hw => run_load_int ((ov_B b6 w hw).cellL 1 rfl)) (by rfl) ?_; simp only [putS]; go_big_quiet_on) | (refine quiet_loadAny (t := 3) rfl _ _ _ rfl (fun w hw => run_load_int ((ov_B b6 w hw).cellL 2 rfl)) (by rfl) ?_; simp only [putS]; go_big_quiet_on) | (refine quiet_loadAny (t := 3) rfl _ _ _ rfl (fun w hw => run_load_int ((ov_B b6 w hw).cellL 3 rfl)) (by rfl) ?_; simp only [putS]; go_big_quiet_on) | (go_big_quiet_op; go_big_quiet_on)))
    refine wpQuiet_nil ?_
    refine wpList_nil ?_
    have rs2 : RS (.slice none 0 0) [] wn := RS.nil wn
    go_wp2
    go_loopw [8, 9, 10] (fun yv _ _ wr => ∃ (i : Nat) (M : List TA) (ao : Option Addr) (co : Nat), (i : Int) ≤ bd.y1 - bd.y0 ∧ yv = .int .i64 (bd.y0 + (i : Int)) ∧ Hid (setsF p l (i * Wd) = M) ∧ Below w.heap.size w wr ∧ AtB 25 wr b_b3 (pxC4 p) ∧ AtB 39 wr b_r4 #[.slice none 0 0, .int .i64 0] ∧ AtB 30 wr b_b6 (rcA bd) ∧ AtB 34 wr b_r7 #[.slice ao M.length co] ∧ RS (.slice ao M.length co) M wr) (fun yv _ _ _ => (bd.y1 - intOf yv).toNat)
    case atStart => exact ⟨0, [], _, _, by omega, by rw [Int.natCast_zero, Int.add_zero], Lib.hid (by rw [Nat.zero_mul]; rfl), B, b3, r4, b6, r7, rs2⟩
    case round =>
     clear B b3 r4 b6 r7 rs2
     obtain ⟨i, M, ao, co, hi, rfl, HM, B, b3, r4, b6, r7, rs2⟩ := hrel
     by_cases hi1 : (i : Int) < bd.y1 - bd.y0
     ·have d3 : decide (bd.y0 + (i : Int) < bd.y1) = true := decide_eq_true (by omega)
      go_upto_region 9 with fail
      refine wp_region_lit ?_
      try simp only [gelS]
      refine wpList_chunk 4 (by kernel_rfl) ?_
      simp only [takS, Nat.reduceAdd]
      repeat (first | go_big_quiet_skip | (go_big_quiet_want; first | (refine quiet_loadAny (t := 3) rfl _ _ _ rfl (fun w hw => run_load_int ((ov_B b6 w hw).cellL 0 rfl)) (by rfl) ?_; simp only [putS]; go_big_quiet_on) | (refine quiet_loadAny (t := 3) rfl _ _ _ rfl (fun w hw => run_load_int ((ov_B b6 w hw).cellL 1 rfl)) (by rfl) ?_; simp only [putS]; go_big_quiet_on) | (refine quiet_loadAny (t := 3) rfl _ _ _ rfl (fun w hw => run_load_int ((ov_B b6 w hw).cellL 2 rfl)) (by rfl) ?_; simp only [putS]; go_big_quiet_on) | (refine quiet_loadAny (t := 3) rfl _ _ _ rfl (fun w hw => run_load_int ((ov_B b6 w hw).cellL 3 rfl)) (by rfl) ?_; simp only [putS]; go_big_quiet_on) | (go_big_quiet_op; go_big_quiet_on)))
      refine wpQuiet_nil ?_
      refine wpList_nil ?_
      go_upto_region 11 with fail
      refine wp_region_lit ?_
      try simp only [gelS]
      refine wpList_chunk 3 (by kernel_rfl) ?_
      simp only [takS, Nat.reduceAdd]
      repeat (first | go_big_quiet_skip | (go_big_quiet_want; first | (refine quiet_loadAny (t := 3) rfl _ _ _ rfl (fun w hw => run_load_int ((ov_B b6 w hw).cellL 0 rfl)) (by rfl) ?_; simp only [putS]; go_big_quiet_on) | (refine quiet_loadAny (t := 3) rfl _ _ _ rfl (fun w hw => run_load_int ((ov_B b6 w hw).cellL 1 rfl)) (by rfl) ?_; simp only [putS]; go_big_quiet_on) | (refine quiet_loadAny (t := 3) rfl _ _ _ rfl (fun w hw => run_load_int ((ov_B b6 w hw).cellL 2 rfl)) (by rfl) ?_; simp only [putS]; go_big_quiet_on) | (refine quiet_loadAny (t := 3) rfl _ _ _ rfl (fun w hw => run_load_int ((ov_B b6 w hw).cellL 3 rfl)) (by rfl) ?_; simp only [putS]; go_big_quiet_on) | (go_big_quiet_op; go_big_quiet_on)))
      refine wpQuiet_nil ?_
      refine wpList_nil ?_
      go_wp2
      go_loopw [9, 10] (fun xv _ wr => ∃ (j : Nat) (M : List TA) (ao : Option Addr) (co : Nat), (j : Int) ≤ bd.x1 - bd.x0 ∧ xv = .int .i64 (bd.x0 + (j : Int)) ∧ Hid (setsF p l (i * Wd + j) = M) ∧ Below w.heap.size w wr ∧ AtB 25 wr b_b3 (pxC4 p) ∧ AtB 39 wr b_r4 #[.slice none 0 0, .int .i64 0] ∧ AtB 30 wr b_b6 (rcA bd) ∧ AtB 34 wr b_r7 #[.slice ao M.length co] ∧ RS (.slice ao M.length co) M wr) (fun xv _ _ => (bd.x1 - intOf xv).toNat)
      case atStart => exact ⟨0, M, _, _, by omega, by rw [Int.natCast_zero, Int.add_zero], Lib.hid HM.out, B, b3, r4, b6, r7, rs2⟩
      case round =>
       clear B b3 r4 b6 r7 rs2
       obtain ⟨j, M, ao, co, hj, rfl, HM, B, b3, r4, b6, r7, rs2⟩ := hrel
       by_cases hj1 : (j : Int) < bd.x1 - bd.x0
       ·have d4 : decide (bd.x0 + (j : Int) < bd.x1) = true := decide_eq_true (by omega)
        obtain ⟨k, ek, hk, ex, ey⟩ := px_xy HFit.out (X := j) (Y := i) hj1 hi1
        have ekn : k = i * Wd + j := by rw [← hwid] at ek; omega
        subst ekn
        clear ek
        have hMv := (HSP.out _ (Nat.le_of_lt hk))
        rw [HM.out] at hMv
        have HMV := Lib.hid hMv
        have HMT := Lib.hid (show TokL M from by rw [← HM.out]; exact HTK.out _)
        have hMe := fun q => setsK_err HFit.out HA.out (filG p l) (fun _ _ => true) hk q
        have HME := Lib.hid (show ∀ q, setE M (bd.x0 + (j : Int)) (bd.y0 + (i : Int)) q = 0 from fun q => by
         have := hMe q
         rw [ex, ey, ← HSF.out, HM.out] at this
         exact this)
        have HST := Lib.hid (show setsF p l (i * Wd + (j + 1)) = setR M (bd.x0 + (j : Int)) (bd.y0 + (i : Int)) (filG p l (bd.x0 + (j : Int)) (bd.y0 + (i : Int))) from by
         rw [← Nat.add_assoc, HSF.out]
         show (if true = true then setR (setsK bd (filG p l) (fun _ _ => true) _) (pxX bd _) (pxY bd _) (filG p l (pxX bd _) (pxY bd _)) else _) = _
         rw [if_pos rfl, ex, ey, ← HSF.out, HM.out])
        clear hMe hMv ex ey hk
        have wx1 : (Lit.int .i64 (bd.x0 + (j : Int))).wf = true := wf_mk (by omega) (by omega)
        have wy1 : (Lit.int .i64 (bd.y0 + (i : Int))).wf = true := wf_mk (by omega) (by omega)
        obtain ⟨n, hn1⟩ : ∃ n, covG l (bd.x0 + (j : Int)) (bd.y0 + (i : Int)) = n := ⟨_, rfl⟩
        have HCV := Lib.hid (show coverR l (bd.x0 + (j : Int)) (bd.y0 + (i : Int)) = n from by unfold coverR; rw [if_pos ⟨HV.out, by omega, by omega, by omega, by omega⟩, hn1])
        obtain ⟨q1', hq1⟩ : ∃ q, fadeP p n = q := ⟨_, rfl⟩
        obtain ⟨q2', hq2⟩ : ∃ q, cleanP q1' = q := ⟨_, rfl⟩
        have HQ1 := Lib.hid hq1
        have HQ2 := Lib.hid hq2
        have HK1 := Lib.hid (show q1'.ok from hq1 ▸ fadeP_ok HP.out n)
        have HK2 := Lib.hid (show q2'.ok from hq2 ▸ cleanP_ok HK1.out)
        have hfg : filG p l (bd.x0 + (j : Int)) (bd.y0 + (i : Int)) = q2' := by unfold filG filF; rw [hn1, hq1, hq2]
        obtain ⟨M', hM'⟩ : ∃ M', setR M (bd.x0 + (j : Int)) (bd.y0 + (i : Int)) q2' = M' := ⟨_, rfl⟩
        have HN := Lib.hid (show setsF p l (i * Wd + (j + 1)) = M' from by rw [HST.out, hfg, hM'])
        have HM' := Lib.hid hM'
        clear hM' hfg hq1 hq2 hn1 HST
        go_upto_region 12 with fail
        refine wp_region_lit ?_
        try simp only [gelS]
        refine wpList_chunk 4 (by kernel_rfl) ?_
        simp only [takS, Nat.reduceAdd]
        repeat (first | go_big_quiet_skip | (go_big_quiet_want; first | (refine quiet_loadAny (t := 3) rfl _ _ _ rfl (fun w hw => run_load_int ((ov_B b6 w hw).cellL 0 rfl)) (by rfl) ?_; simp only [putS]; go_big_quiet_on) | (refine quiet_loadAny (t := 3) rfl _ _ _ rfl (fun w hw => run_load_int ((ov_B b6 w hw).cellL 1 rfl)) (by rfl) ?_; simp only [putS]; go_big_quiet_on) | (refine quiet_loadAny (t := 3) rfl _ _ _ rfl (fun w hw => run_load_int ((ov_B b6 w hw).cellL 2 rfl)) (by rfl) ?_; simp only [putS]; go_big_quiet_on) | (refine quiet_loadAny (t := 3) rfl _ _ _ rfl (fun w hw => run_load_int ((ov_B b6 w hw).cellL 3 rfl)) (by rfl) ?_; simp only [putS]; go_big_quiet_on) | (go_big_quiet_op; go_big_quiet_on)))
        refine wpQuiet_nil ?_
        refine wpList_nil ?_
        go_upto_region 14 with fail
        try simp only [gelS]
        try have lx_b3 := b3.lt
        try have lx_r4 := r4.lt
        try have lx_b6 := b6.lt
        try have lx_r7 := r7.lt
        try have lx_rs2 := rs2.lt
        refine wp_region_RL 12 [(7, detS ?v1_7), (8, detS ?v1_8), (9, detS ?v1_9), (10, gotS (M') (0)), (11, ptrS (wr.heap.size) 63 #[.slice none 0 0, .int .i64 0])] (by kernel_rfl) (by kernel_rfl) (by kernel_rfl) ?_
        rotate_left 3
        simp only [takS, Nat.reduceAdd]
        refine wpRL_chunk 7 (by kernel_rfl) ?_
        simp only [takS, Nat.reduceAdd]
        repeat (first | go_big_quiet_skip | (go_big_quiet_want; first | (refine quiet_loadAny (t := 34) rfl _ _ _ rfl (fun w hw => run_load_B (ov_B r7 w hw) Tryz.isAgg34 (by kernel_rfl)) (by rfl) ?_; simp only [putS]; go_big_quiet_on) | (refine quiet_loadAny (t := 25) rfl _ _ _ rfl (fun w hw => run_load_B (ov_B b3 w hw) Tryz.isAgg25 (by kernel_rfl)) (by rfl) ?_; simp only [putS]; go_big_quiet_on) | (go_big_quiet_op; go_big_quiet_on)))
        refine wpQuiet_nil ?_
        refine wpRL_callB (by rfl) (by first | rfl | simp [Region.wanted, yielded]) ?_ ?_
        ·intro wn hbn hE Kx hKx
         have hsz := B.size
         have hzn := hbn.size
         replace B := B.trans (hbn.mono B.size)
         (try replace b3 := b3.below hbn)
         (try replace r4 := r4.below hbn)
         (try replace b6 := b6.below hbn)
         (try replace r7 := r7.below hbn)
         (try replace rs2 := rs2.below hbn)
         refine wp_callF rfl (enters_of Tryz.func38 (by kernel_rfl) rfl) (by simp only [Act.eval, evlS]; rfl) ?_
         refine (R_CoverFO _ l (bd.x0 + (j : Int)) (bd.y0 + (i : Int)) n wn (HS.out.below B) hn HCV.out).mono ?_
         rintro e wm ⟨rfl, hbm⟩
         refine ⟨_, rfl, ?_⟩
         have hz := hKx () wm trivial hbm
         dsimp only [detS] at hz
         exact hz
        rintro ⟨⟩
        dsimp only [detS]
        simp only [putS]
        refine wpRL_callB (by rfl) (by first | rfl | simp [Region.wanted, yielded]) ?_ ?_
        ·intro wn hbn hE Kx hKx
         have hsz := B.size
         have hzn := hbn.size
         replace B := B.trans (hbn.mono B.size)
         (try replace b3 := b3.below hbn)
         (try replace r4 := r4.below hbn)
         (try replace b6 := b6.below hbn)
         (try replace r7 := r7.below hbn)
         (try replace rs2 := rs2.below hbn)
         refine wp_callF rfl (enters_of Tryz.func37 (by kernel_rfl) rfl) (by simp only [Act.eval, evlS]; rfl) ?_
         refine (R_FadeO p q1' n wn HP.out HQ1.out).mono ?_
         rintro e wm ⟨rfl, hbm⟩
         refine ⟨_, rfl, ?_⟩
         have hz := hKx () wm trivial hbm
         dsimp only [detS] at hz
         exact hz
        rintro ⟨⟩
        dsimp only [detS]
        simp only [putS]
        refine wpRL_callB (by rfl) (by first | rfl | simp [Region.wanted, yielded]) ?_ ?_
        ·intro wn hbn hE Kx hKx
         have hsz := B.size
         have hzn := hbn.size
         replace B := B.trans (hbn.mono B.size)
         (try replace b3 := b3.below hbn)
         (try replace r4 := r4.below hbn)
         (try replace b6 := b6.below hbn)
         (try replace r7 := r7.below hbn)
         (try replace rs2 := rs2.below hbn)
         refine wp_callF rfl (enters_of Tryz.func36 (by kernel_rfl) rfl) (by simp only [Act.eval, evlS]; rfl) ?_
         refine (R_CleanO q1' q2' wn HK1.out HQ2.out).mono ?_
         rintro e wm ⟨rfl, hbm⟩
         refine ⟨_, rfl, ?_⟩
         have hz := hKx () wm trivial hbm
         dsimp only [detS] at hz
         exact hz
        rintro ⟨⟩
        dsimp only [detS]
        simp only [putS]
        refine wpRL_callB (by rfl) (by first | rfl | simp [Region.wanted, yielded]) ?_ ?_
        ·intro wn hbn hE Kx hKx
         have hsz := B.size
         have hzn := hbn.size
         replace B := B.trans (hbn.mono B.size)
         (try replace b3 := b3.below hbn)
         (try replace r4 := r4.below hbn)
         (try replace b6 := b6.below hbn)
         (try replace r7 := r7.below hbn)
         (try replace rs2 := rs2.below hbn)
         refine wp_callF rfl (enters_of Tryz.func35 (by kernel_rfl) rfl) (by simp only [Act.eval, evlS]; rfl) ?_
         refine (R_SetP _ M (bd.x0 + (j : Int)) (bd.y0 + (i : Int)) q2' wn rs2 HMT.out (len_maxLen (by have := HMV.out.2; omega)) wx1 wy1 HK2.out M' HM'.out (HME.out _)).mono ?_
         rintro e wm ⟨v', rfl, hr, hbm⟩
         obtain ⟨a', c', rfl, _⟩ := hr.len
         exact ⟨_, rfl, hKx (a', c') wm hr hbm⟩
        rintro ⟨a59, c59⟩
        dsimp only [detS, gotS]
        simp only [putS]
        refine wpRL_callB (by rfl) (by first | rfl | simp [Region.wanted, yielded]) ?_ ?_
        ·intro wn hbn hE Kx hKx
         have hsz := B.size
         have hzn := hbn.size
         replace B := B.trans (hbn.mono B.size)
         (try replace b3 := b3.below hbn)
         (try replace r4 := r4.below hbn)
         (try replace b6 := b6.below hbn)
         (try replace r7 := r7.below hbn)
         (try replace rs2 := rs2.below hbn)
         refine owp_allocBk (t := 63) _ (run_alloc_G _ _ rfl) ?_
         intro b wm h1 h2 ht hbm hzm
         exact hKx b wm ⟨Nat.le_trans hbn.size h1, ht⟩ (hbm.mono h1)
        rintro b_g10
        dsimp only [detS, ptrS]
        simp only [putS]
        refine wpRL_nil ?_
        intro wn hbn hE
        have hsz := B.size
        have hzn := hbn.size
        replace B := B.trans (hbn.mono B.size)
        (try replace b3 := b3.below hbn)
        (try replace r4 := r4.below hbn)
        (try replace b6 := b6.below hbn)
        (try replace r7 := r7.below hbn)
        (try replace rs2 := rs2.below hbn)
        have rs3 := hE 10
        change RS _ _ _ at rs3
        obtain ⟨hge_g10, g10⟩ : _ ∧ AtB _ _ _ _ := hE 11
        clear hE
        try simp only [List.drop_succ_cons, List.drop_zero]
        go_wp2_with (first | (refine wpList_storeB (t := 63) rfl _ _ rfl _ rfl _ rfl g10 (by kernel_rfl) rfl (by simp [Value.oneCell']) ?_; have g10o := g10; clear g10; intro wn ht hcn hzn; (try replace rs2 := rs2.chg g10o (by simp [rcA]) hcn); (try replace rs3 := rs3.chg g10o (by simp [rcA]) hcn); have hsz := B.size; replace hzn := Nat.le_of_eq hzn.symm; replace B := Chg.below B hcn (by omega) B.size; (try replace b3 := b3.of_eq (hcn.block _ b3.lt (by omega))); (try replace r4 := r4.of_eq (hcn.block _ r4.lt (by omega))); (try replace b6 := b6.of_eq (hcn.block _ b6.lt (by omega))); (try replace r7 := r7.of_eq (hcn.block _ r7.lt (by omega))); have g10 := ht; clear ht; simp only [putS]) | fail)
        refine NoPan.normal ?_
        go_upto_region 15 with fail
        refine wp_region_lit ?_
        try simp only [gelS]
        refine wpList_chunk 3 (by kernel_rfl) ?_
        simp only [takS, Nat.reduceAdd]
        repeat (first | go_big_quiet_skip | (go_big_quiet_want; first | (refine quiet_loadAny (t := 35) rfl _ _ _ rfl (fun w hw => run_load_err ((ov_B g10 w hw).cell 1 rfl)) (by first | rfl | omega) ?_; simp only [putS]; go_big_quiet_on) | (go_big_quiet_op; go_big_quiet_on)))
        refine wpQuiet_nil ?_
        refine wpList_nil ?_
        go_upto_region 17 with fail
        refine wp_region_lit ?_
        try simp only [gelS]
        refine wpList_chunk 2 (by kernel_rfl) ?_
        simp only [takS, Nat.reduceAdd]
        repeat (first | go_big_quiet_skip | (go_big_quiet_want; first | (refine quiet_loadAny (t := 34) rfl _ _ _ rfl (fun w hw => run_load_ras ((ov_B g10 w hw).cell 0 rfl)) (by first | rfl | omega) ?_; simp only [putS]; go_big_quiet_on) | (go_big_quiet_op; go_big_quiet_on)))
        refine wpQuiet_nil ?_
        (refine wpList_storeB (t := 34) rfl _ _ rfl _ rfl _ rfl r7 (by kernel_rfl) rfl (by simp [rcA, pxC4, Value.oneCell']) ?_; have r7o := r7; clear r7; intro wn ht hcn hzn; (try replace rs3 := rs3.chg r7o (by simp [rcA, pxC4]) hcn); have hsz := B.size; replace hzn := Nat.le_of_eq hzn.symm; replace B := Chg.below B hcn (by omega) B.size; (try replace b3 := b3.of_eq (hcn.block _ b3.lt (by omega))); (try replace r4 := r4.of_eq (hcn.block _ r4.lt (by omega))); (try replace b6 := b6.of_eq (hcn.block _ b6.lt (by omega))); have r7 := ht; clear ht; simp only [putS])
        refine wpList_nil ?_
        go_upto_region 13 with fail
        refine wp_region_lit ?_
        try simp only [gelS]
        refine wpList_chunk 3 (by kernel_rfl) ?_
        simp only [takS, Nat.reduceAdd]
        repeat (first | go_big_quiet_skip | (go_big_quiet_want; go_big_quiet_op; go_big_quiet_on))
        refine wpQuiet_nil ?_
        refine wpList_nil ?_
        go_wp2
        go_roundw
        case rel => exact ⟨j + 1, M', _, _, by omega, by go_num, HN, B, b3, r4, b6, r7, rs3⟩
        case measure => simp [intOf]; omega
       ·have d4 : decide (bd.x0 + (j : Int) < bd.x1) = false := decide_eq_false (by omega)
        have hjW : j = Wd := by omega
        have HN := Lib.hid (show setsF p l ((i + 1) * Wd) = M from by rw [Nat.add_mul, Nat.one_mul]; rw [hjW] at HM; exact HM.out)
        clear hjW
        go_upto_region 12 with fail
        refine wp_region_lit ?_
        try simp only [gelS]
        refine wpList_chunk 4 (by kernel_rfl) ?_
        simp only [takS, Nat.reduceAdd]
        repeat (first | go_big_quiet_skip | (go_big_quiet_want; first | (refine quiet_loadAny (t := 3) rfl _ _ _ rfl (fun w hw => run_load_int ((ov_B b6 w hw).cellL 0 rfl)) (by rfl) ?_; simp only [putS]; go_big_quiet_on) | (refine quiet_loadAny (t := 3) rfl _ _ _ rfl (fun w hw => run_load_int ((ov_B b6 w hw).cellL 1 rfl)) (by rfl) ?_; simp only [putS]; go_big_quiet_on) | (refine quiet_loadAny (t := 3) rfl _ _ _ rfl (fun w hw => run_load_int ((ov_B b6 w hw).cellL 2 rfl)) (by rfl) ?_; simp only [putS]; go_big_quiet_on) | (refine quiet_loadAny (t := 3) rfl _ _ _ rfl (fun w hw => run_load_int ((ov_B b6 w hw).cellL 3 rfl)) (by rfl) ?_; simp only [putS]; go_big_quiet_on) | (go_big_quiet_op; go_big_quiet_on)))
        refine wpQuiet_nil ?_
        refine wpList_nil ?_
        go_upto_region 10 with fail
        refine wp_region_lit ?_
        try simp only [gelS]
        refine wpList_chunk 3 (by kernel_rfl) ?_
        simp only [takS, Nat.reduceAdd]
        repeat (first | go_big_quiet_skip | (go_big_quiet_want; go_big_quiet_op; go_big_quiet_on))
        refine wpQuiet_nil ?_
        refine wpList_nil ?_
        go_wp2
        go_roundw
        case rel => exact ⟨i + 1, M, _, _, by omega, by go_num, HN, B, b3, r4, b6, r7, rs2⟩
        case measure => simp [intOf]; omega
     ·have d3 : decide (bd.y0 + (i : Int) < bd.y1) = false := decide_eq_false (by omega)
      have hiH : i = (bd.y1 - bd.y0).toNat := by omega
      have HL := Lib.hid (show setsF p l (areaN bd) = M from by
       rw [HAW.out, Nat.mul_comm, HWD.out, ← hiH]; exact HM.out)
      clear hiH
      go_upto_region 9 with fail
      refine wp_region_lit ?_
      try simp only [gelS]
      refine wpList_chunk 4 (by kernel_rfl) ?_
      simp only [takS, Nat.reduceAdd]
      repeat (first | go_big_quiet_skip | (go_big_quiet_want; first | (refine quiet_loadAny (t := 3) rfl _ _ _ rfl (fun w hw => run_load_int ((ov_B b6 w hw).cellL 0 rfl)) (by rfl) ?_; simp only [putS]; go_big_quiet_on) | (refine quiet_loadAny (t := 3) rfl _ _ _ rfl (fun w hw => run_load_int ((ov_B b6 w hw).cellL 1 rfl)) (by rfl) ?_; simp only [putS]; go_big_quiet_on) | (refine quiet_loadAny (t := 3) rfl _ _ _ rfl (fun w hw => run_load_int ((ov_B b6 w hw).cellL 2 rfl)) (by rfl) ?_; simp only [putS]; go_big_quiet_on) | (refine quiet_loadAny (t := 3) rfl _ _ _ rfl (fun w hw => run_load_int ((ov_B b6 w hw).cellL 3 rfl)) (by rfl) ?_; simp only [putS]; go_big_quiet_on) | (go_big_quiet_op; go_big_quiet_on)))
      refine wpQuiet_nil ?_
      refine wpList_nil ?_
      go_upto_region 18 with fail
      refine wp_region_lit ?_
      try simp only [gelS]
      refine wpList_chunk 2 (by kernel_rfl) ?_
      simp only [takS, Nat.reduceAdd]
      repeat (first | go_big_quiet_skip | (go_big_quiet_want; first | (refine quiet_loadAny (t := 34) rfl _ _ _ rfl (fun w hw => run_load_B (ov_B r7 w hw) Tryz.isAgg34 (by kernel_rfl)) (by rfl) ?_; simp only [putS]; go_big_quiet_on) | (go_big_quiet_op; go_big_quiet_on)))
      refine wpQuiet_nil ?_
      (refine wpList_storeB (t := 39) rfl _ _ rfl _ rfl _ rfl r4 (by kernel_rfl) rfl (by simp [rcA, pxC4, Value.oneCell']) ?_; have r4o := r4; clear r4; intro wn ht hcn hzn; (try replace rs2 := rs2.chg r4o (by simp [rcA, pxC4]) hcn); have hsz := B.size; replace hzn := Nat.le_of_eq hzn.symm; replace B := Chg.below B hcn (by omega) B.size; have r4 := ht; clear ht; simp only [putS])
      refine wpList_nil ?_
      first | (refine bodyPost_ret (results_B (t := 39) rfl _ _ (b_r4) rfl r4 Tryz.isAgg39 (by kernel_rfl)) rfl ?_) | (go_step; refine bodyPost_ret (results_B (t := 39) rfl _ _ (b_r4) rfl r4 Tryz.isAgg39 (by kernel_rfl)) rfl ?_) | (go_step; go_step; refine bodyPost_ret (results_B (t := 39) rfl _ _ (b_r4) rfl r4 Tryz.isAgg39 (by kernel_rfl)) rfl ?_) | (go_step; go_step; go_step; refine bodyPost_ret (results_B (t := 39) rfl _ _ (b_r4) rfl r4 Tryz.isAgg39 (by kernel_rfl)) rfl ?_) | (go_step; go_step; go_step; go_step; refine bodyPost_ret (results_B (t := 39) rfl _ _ (b_r4) rfl r4 Tryz.isAgg39 (by kernel_rfl)) rfl ?_) | (go_step; go_step; go_step; go_step; go_step; refine bodyPost_ret (results_B (t := 39) rfl _ _ (b_r4) rfl r4 Tryz.isAgg39 (by kernel_rfl)) rfl ?_)
      rw [HL.out]
      exact ⟨_, _, rfl, rs2, B⟩
/- For the laws of chapter 15 that invert or fill: what both ways of inverting return; '==' of rasters, cropping. -/
theorem valid_len {ls : List TA} (h : validL ls = true) : ls.length ≤ maxLen := by
 have := (validL_iff.1 h).1
 unfold maxLen
 omega
theorem R_EqualT (v u : Value) (ls ks : List TA) (w : World) (h : RS v ls w) (h' : RS u ks w) (tk : TokL ls) (tk' : TokL ks) (hn : ls.length ≤ maxLen) (hn' : ks.length ≤ maxLen) (e : eqL (fineL ls) (fineL ks) = true) : Calls Tryz.prog 11 #[.agg #[v], .agg #[u]] w fun e w' => e = .returned (.bool true) ∧ Below w.heap.size w w' := e ▸ R_Equal v u ls ks w h h' tk tk' hn hn'
theorem filL_tok {p : Px} (hp : p.ok) (l : List Pnt) : TokL (filL p l) := by
 unfold filL
 split
 ·exact pstR_tok (paintL_ok (filF_ok hp l)) TokL.nil
 ·exact TokL.nil
theorem filL_valid (p : Px) (l : List Pnt) : validL (filL p l) = true := by
 unfold filL
 split
 ·exact pstR_valid _ _ _
 ·exact validL_nil
theorem filS_tok {p : Px} (hp : p.ok) (l : List Pnt) : TokL (filS p l) := by
 unfold filS
 split
 ·unfold setsF
  induction areaN (boundG l) with
  | zero => exact TokL.nil
  | succ k ih =>
   show TokL (if _ then _ else _)
   split
   ·exact setR_tok ih (cleanP_ok (filF_ok hp l _ _))
   ·exact ih
 ·exact TokL.nil
theorem filS_valid {p : Px} {l : List Pnt} (hA : filE l = 0 → emptyR (boundG l) = false → tlN (boundG l) ≤ 1000) : validL (filS p l) = true := by
 unfold filS
 split
 ·rename_i h
  obtain ⟨hv, hl⟩ := filE_valid h.1
  exact (setsK_spec (fitsE_zero (bound_fits hv hl h.2)) (hA h.1 h.2) _ _ _ (Nat.le_refl _)).1
 ·exact validL_nil
theorem fill_both (p : Px) (hp : p.ok) (l : List Pnt) (hn : l.length ≤ maxLen) (hA : filE l = 0 → emptyR (boundG l) = false → tlN (boundG l) ≤ 1000) : ∃ (X Y : List TA) (E : Int), TokL X ∧ TokL Y ∧ X.length ≤ maxLen ∧ Y.length ≤ maxLen ∧ eqL (fineL X) (fineL Y) = true ∧
  (∀ (v : Value) (w : World), RSE ptE v l w → Calls Tryz.prog 9 #[v, .agg (pxC4 p)] w fun e w' => ∃ v', e = .returned (.tuple #[.agg #[v'], .int .i64 E]) ∧ RS v' X w' ∧ Below w.heap.size w w') ∧
  (∀ (v : Value) (w : World), RSE ptE v l w → Calls Tryz.prog 10 #[v, .agg (pxC4 p)] w fun e w' => ∃ v', e = .returned (.agg #[v', .int .i64 E]) ∧ RS v' Y w' ∧ Below w.heap.size w w') := by
 refine ⟨filL p l, filS p l, filE l, filL_tok hp l, filS_tok hp l, valid_len (filL_valid p l), valid_len (filS_valid hA), ?_, fun v w h => ?_, fun v w h => ?_⟩
 ·rw [fineL_of (filL_valid p l), fineL_of (filS_valid hA)]
  exact fil_same p l hA
 ·exact (P_FillG v l p w h hn hp hA).mono fun e w' ⟨a, c, he, hr, hb⟩ => ⟨_, he, hr, hb⟩
 ·exact (R_FillG v l p w h hn hp hA).mono fun e w' ⟨a, c, he, hr, hb⟩ => ⟨_, he, hr, hb⟩
theorem bound_bdA (l : List Pnt) : ((-65536 ≤ (boundG l).x0 ∧ (boundG l).x0 ≤ 65536) ∧ (-65536 ≤ (boundG l).y0 ∧ (boundG l).y0 ≤ 65536) ∧ (-65536 ≤ (boundG l).x1 ∧ (boundG l).x1 ≤ 65536) ∧ (-65536 ≤ (boundG l).y1 ∧ (boundG l).y1 ≤ 65536)) ∧ (boundG l).x0 ≤ (boundG l).x1 ∧ (boundG l).y0 ≤ (boundG l).y1 := by
 cases hv : validG l with
 | true =>
  refine ⟨bound_bd hv, ?_⟩
  cases hm : emptyR (boundG l) with
  | true => rw [bound_empty hv hm]; exact ⟨Int.le_refl _, Int.le_refl _⟩
  | false =>
   have := (emptyR_not _).1 hm
   omega
 | false =>
  have : boundG l = Rc.zero := by unfold boundG; rw [hv]; rfl
  rw [this]
  unfold Rc.zero
  simp
theorem fill_ok {l : List Pnt} (h : (boundG l).x1 - (boundG l).x0 > 256 ∨ (boundG l).y1 - (boundG l).y0 > 256 ∨ ((boundG l).x1 - (boundG l).x0) * ((boundG l).y1 - (boundG l).y0) ≤ 900) : filE l = 0 → emptyR (boundG l) = false → tlN (boundG l) ≤ 1000 := fun h1 h2 => by
 obtain ⟨hv, hl⟩ := filE_valid h1
 have hE := bound_fits hv hl h2
 have hF := fitsE_zero hE
 have := hF.h7
 have := hF.h8
 rcases h with h | h | h
 ·omega
 ·omega
 ·have h3 := tlN_area hF
  have h4 : areaN (boundG l) ≤ 900 := by unfold areaN; omega
  omega
theorem ptE_ne {g o b : Nat} {t : TypeId} {cs : Array Value} {ls : List Pnt} {w : World} (h : RCellsE ptE g o ls w) (hn : 0 < ls.length) (k : AtB t w b cs) (hs : ∀ (i : Nat) (n : Int), cs[i]? ≠ some (.int .i64 n)) : g ≠ b := by
 rintro rfl
 have hx : ls[0]? = some ls[0] := List.getElem?_eq_getElem hn
 have h1 := h.2 0 _ hx 0 (by omega)
 simp only [Nat.zero_mul, Nat.add_zero] at h1
 rw [(cells_of_block k).1] at h1
 exact hs _ _ h1
theorem RSE.chgI {v : Value} {L : List Pnt} {t : TypeId} {b : Nat} {cs : Array Value} {w w' : World} (h : RSE ptE v L w) (hb : AtB t w b cs) (hc : Chg b w w') (hs : ∀ (i : Nat) (n : Int), cs[i]? ≠ some (.int .i64 n)) : RSE ptE v L w' := by
 rcases h with h | ⟨g, o, c, e, hl, sc⟩ | h
 ·exact .inl h
 ·exact .inr (.inl ⟨g, o, c, e, hl, fun hn => (sc hn).of_eq (hc.block _ (sc hn).lt (ptE_ne (sc hn) hn hb hs))⟩)
 ·exact .inr (.inr h)
theorem ns2 (a b : Value) (ha : ∀ n, a ≠ .int .i64 n) (hb : ∀ n, b ≠ .int .i64 n) : ∀ (i : Nat) (n : Int), (#[a, b])[i]? ≠ some (.int .i64 n) := fun i n => by
 rcases i with _ | _ | i
 ·simpa using ha n
 ·simpa using hb n
 ·simp
theorem run_alloc_P2s (w : World) (o : Oper) (ho : o.op = .alloc 28) (ev : Operand → Value) : (execOp ev o).run Tryz.prog w = .ok (.value (.pointer (some ⟨w.heap.size, 0, none⟩))) (w.alloc (.cells #[.slice none 0 0, .slice none 0 0] 28)) := by
 obtain ⟨d, p, t, ps, af, gd⟩ := o
 simp only at ho
 subst ho
 kernel_rfl
theorem run_load_spf {w : World} {b j : Nat} {v : Value} (h : w.cell? ⟨b, j, none⟩ = some v) : (Instr.loadAt 22 (.pointer (some ⟨b, j, none⟩))).run Tryz.prog w = .ok v w := by
 simp [go_sem, h]
theorem wp_minX {P : Program} {Q : Exit → Act → World → Prop} {w : World} {x y : Operand} {t ty : TypeId} {o : Oper} {a : Act} {K : Act → World → Prop} {p q : Int} (ho : o.op = .call { callee := .builtin .min, args := #[x, y], argTypes := #[t, t] }) (hty : o.type = ty) (ht : P.underlying ty = some (.int .i64)) (hx : a.eval x = .int .i64 p) (hy : a.eval y = .int .i64 q)
  (h : K (a.put o.dst (.int .i64 (min p q))) w) : o.wp P a w K Q := by
 obtain ⟨dst, op, type, pos, after, guard⟩ := o
 simp only at ho hty
 subst ho
 subst hty
 unfold Oper.wp
 have hu := run_underlying ht w
 have key : ∀ ρ : Operand → Value, ρ x = .int .i64 p → ρ y = .int .i64 q → (execOp ρ { dst, op := .call { callee := .builtin .min, args := #[x, y], argTypes := #[t, t] }, type, pos, after, guard : Oper }).run P w = .ok (.value (.int .i64 (min p q))) w := fun ρ h1 h2 => by
  simp [go_sem, h1, h2, hu, Builtin.min_, Builtin.min2, ht]; (split <;> omega)
 rw [key a.eval hx hy]
 exact h
def rseS {α : Type} {k : Nat} {T ST : TypeId} (E : Elt α k T ST) (ls : List α) : NSpec := ⟨Option Addr × Nat, ⟨(none, 0)⟩, fun x => .slice x.1 ls.length x.2, fun x w => RSE E (.slice x.1 ls.length x.2) ls w, fun _ _ _ hb h => h.below hb⟩
set_option maxHeartbeats 16000000 in
theorem walk_SelectionFills (v0 : Value) (l0 : List Pnt) (v1 : Value) (q : List Int) (p : Px) (hp : p.ok) (w : World) (h0 : RSE ptE v0 l0 w) (hn0 : l0.length ≤ maxLen) (h1 : RSE inE v1 q w) (hn1 : q.length ≤ 17592186044416) : Calls Tryz.prog 3 #[v0, v1, Px.v p] w fun e w' => e = .returned (.bool true) ∧ Below w.heap.size w w' := by
 have B := Below.refl w.heap.size w
 obtain ⟨a0, c0, rfl, hc0⟩ := h0.len
 obtain ⟨a1, c1, rfl, hc1⟩ := h1.len
 obtain ⟨m, hm⟩ : ∃ m : Nat, m = min l0.length 70 := ⟨_, rfl⟩
 have hmi : min (l0.length : Int) 70 = (m : Int) := by omega
 have hml : m ≤ l0.length := by omega
 have hmc : m ≤ c0 := by omega
 have hm70 : m ≤ 70 := by omega
 clear hm
 obtain ⟨l, hl⟩ : ∃ l, l0.take m = l := ⟨_, rfl⟩
 have hll : l.length ≤ 70 := by rw [← hl, List.length_take]; omega
 have HN := Lib.hid (show l.length ≤ maxLen from by unfold maxLen; omega)
 have HPT := Lib.hid (show ∀ W, RSE ptE (.slice a0 l0.length c0) l0 W → RSE ptE (.slice a0 m c0) l W from fun W h => hl ▸ h.takeN hml)
 have HQ := Lib.hid hn1
 have H0 := Lib.hid h0
 have H1 := Lib.hid h1
 have HP := Lib.hid hp
 have HPN := Lib.hid (show (pathG q).length ≤ maxLen from by have := pathG_len q; unfold maxLen; omega)
 clear hl hn0 hn1 h0 h1 hp
 have epv : Px.v p = .agg (pxC4 p) := rfl
 rw [epv]
 clear epv
 go_enter Tryz.func3, Tryz.ntmps3
 go_upto_region 0 with fail
 refine wp_region_lit ?_
 try simp only [gelS]
 (refine wpList_boxB (t := 25) rfl _ rfl _ rfl ?_; intro b_b5 wn hle hge ht hbn hzn; have hsz := B.size; replace B := B.trans (hbn.mono (by omega)); have hln := Nat.lt_of_lt_of_eq (Nat.lt_succ_self _) hzn.symm; clear hzn; have b5 := ht; clear ht; simp only [putS])
 refine wpList_chunk 1 (by kernel_rfl) ?_
 simp only [takS, Nat.reduceAdd]
 repeat (first | go_big_quiet_skip | (go_big_quiet_want; go_big_quiet_op; go_big_quiet_on))
 refine wpQuiet_nil ?_
 refine wpList_nil ?_
 go_upto_region 1 with fail
 refine wp_region_lit ?_
 try simp only [gelS]
 refine wpList_callF (by first | rfl | simp [Region.wanted, yielded]) rfl (enters_of Tryz.func6 (by kernel_rfl) rfl) (by simp only [Act.eval, evlS]; rfl) ?_
 refine (sanity15 _).mono ?_
 rintro e wn ⟨rfl, hbn⟩
 have hsz := B.size
 have hzn := hbn.size
 replace B := B.trans (hbn.mono B.size)
 (try replace b5 := b5.below hbn)
 refine ⟨_, rfl, ?_⟩
 simp only [putS]
 refine wpList_chunk 1 (by kernel_rfl) ?_
 simp only [takS, Nat.reduceAdd]
 repeat (first | go_big_quiet_skip | (go_big_quiet_want; go_big_quiet_op; go_big_quiet_on))
 refine wpQuiet_nil ?_
 refine wpList_nil ?_
 go_upto_region 2 with fail
 try simp only [gelS]
 try have lx_b5 := b5.lt
 refine wp_region_RL 9 [(2, detS ?v1_2), (3, detS ?v1_3), (6, rseS ptE (pathG q)), (8, ptrS (wn.heap.size) 28 #[.slice none 0 0, .slice none 0 0])] (by kernel_rfl) (by kernel_rfl) (by kernel_rfl) ?_
 rotate_left 2
 simp only [takS, Nat.reduceAdd]
 refine wpRL_chunk 2 (by kernel_rfl) ?_
 simp only [takS, Nat.reduceAdd]
 repeat (first | go_big_quiet_skip | (go_big_quiet_want; go_big_quiet_op; go_big_quiet_on))
 refine wpQuiet_nil ?_
 refine wpRL_callB (by rfl) (by first | rfl | simp [Region.wanted, yielded]) ?_ ?_
 ·intro wn hbn hE Kx hKx
  have hsz := B.size
  have hzn := hbn.size
  replace B := B.trans (hbn.mono B.size)
  (try replace b5 := b5.below hbn)
  refine wp_lenS rfl Tryz.underlying22 rfl ?_
  exact hKx () _ trivial (Below.refl _ _)
 rintro ⟨⟩
 dsimp only [detS]
 simp only [putS]
 refine wpRL_callB (by rfl) (by first | rfl | simp [Region.wanted, yielded]) ?_ ?_
 ·intro wn hbn hE Kx hKx
  have hsz := B.size
  have hzn := hbn.size
  replace B := B.trans (hbn.mono B.size)
  (try replace b5 := b5.below hbn)
  refine wp_minX rfl rfl Tryz.underlying3 rfl rfl ?_
  rw [hmi]
  exact hKx () _ trivial (Below.refl _ _)
 rintro ⟨⟩
 dsimp only [detS]
 simp only [putS]
 refine wpRL_chunk 2 (by kernel_rfl) ?_
 simp only [takS, Nat.reduceAdd]
 repeat (first | go_big_quiet_skip | (go_big_quiet_want; go_big_quiet_op; go_big_quiet_on))
 refine wpQuiet_nil ?_
 refine wpRL_callB (by rfl) (by first | rfl | simp [Region.wanted, yielded]) ?_ ?_
 ·intro wn hbn hE Kx hKx
  have hsz := B.size
  have hzn := hbn.size
  replace B := B.trans (hbn.mono B.size)
  (try replace b5 := b5.below hbn)
  refine wp_callF rfl (enters_of Tryz.func7 (by kernel_rfl) rfl) (by simp only [Act.eval, evlS]; rfl) ?_
  refine (R_Path _ q wn (H1.out.below B) HQ.out).mono ?_
  rintro e wm ⟨a', c', rfl, hr, hbm⟩
  exact ⟨_, rfl, hKx (a', c') wm hr hbm⟩
 rintro ⟨a23, c23⟩
 dsimp only [detS, rseS]
 simp only [putS]
 refine wpRL_chunk 1 (by kernel_rfl) ?_
 simp only [takS, Nat.reduceAdd]
 repeat (first | go_big_quiet_skip | (go_big_quiet_want; go_big_quiet_op; go_big_quiet_on))
 refine wpQuiet_nil ?_
 refine wpRL_callB (by rfl) (by first | rfl | simp [Region.wanted, yielded]) ?_ ?_
 ·intro wn hbn hE Kx hKx
  have hsz := B.size
  have hzn := hbn.size
  replace B := B.trans (hbn.mono B.size)
  (try replace b5 := b5.below hbn)
  refine owp_allocBk (t := 28) _ (run_alloc_P2s _ _ rfl) ?_
  intro b wm h1 h2 ht hbm hzm
  exact hKx b wm ⟨Nat.le_trans hbn.size h1, ht⟩ (hbm.mono h1)
 rintro b_b8
 dsimp only [detS, ptrS]
 simp only [putS]
 refine wpRL_nil ?_
 intro wn hbn hE
 have hsz := B.size
 have hzn := hbn.size
 replace B := B.trans (hbn.mono B.size)
 (try replace b5 := b5.below hbn)
 have rp0 := hE 6
 change RSE _ _ _ _ at rp0
 obtain ⟨hge_b8, b8⟩ : _ ∧ AtB _ _ _ _ := hE 8
 clear hE
 try simp only [List.drop_succ_cons, List.drop_zero]
 obtain ⟨zb8, rfl⟩ : ∃ n : Nat, n = b_b8 := ⟨b_b8, rfl⟩
 go_wp2_with (first | (refine wpList_storeB (t := 28) rfl _ _ rfl _ rfl _ rfl b8 (by kernel_rfl) rfl (by simp [Value.oneCell']) ?_; have b8o := b8; clear b8; intro wn ht hcn hzn; replace rp0 := rp0.chgI b8o hcn (ns2 _ _ (by simp) (by simp)); have hsz := B.size; replace hzn := Nat.le_of_eq hzn.symm; replace B := Chg.below B hcn (by omega) B.size; (try replace b5 := b5.of_eq (hcn.block _ b5.lt (by omega))); have b8 := ht; clear ht; simp only [putS]) | fail)
 refine NoPan.normal ?_
 replace b8 : AtB 28 _ zb8 #[.slice a0 m c0, .slice a23 (pathG q).length c23] := b8
 have rp := RSN.mk rp0
 obtain ⟨np, hnp⟩ : ∃ n, n = wn.heap.size := ⟨_, rfl⟩
 rw [← hnp] at rp
 have hnp2 : np ≤ wn.heap.size := Nat.le_of_eq hnp
 clear hnp rp0
 have k1 := b5.lt
 have k2 := b8.lt
 go_upto_region 3 with fail
 refine wp_region_lit ?_
 try simp only [gelS]
 refine wpList_chunk 1 (by kernel_rfl) ?_
 simp only [takS, Nat.reduceAdd]
 repeat (first | go_big_quiet_skip | (go_big_quiet_want; go_big_quiet_op; go_big_quiet_on))
 refine wpQuiet_nil ?_
 refine wpList_nil ?_
 go_wp2
 go_loopw [9, 10, 11, 12, 13, 14, 15] (fun iv _ _ _ _ _ _ wr => ∃ i : Nat, i ≤ 2 ∧ iv = .int .i64 (i : Int) ∧ Below w.heap.size w wr ∧ np ≤ wr.heap.size ∧ AtB 25 wr b_b5 (pxC4 p) ∧ AtB 28 wr zb8 #[.slice a0 m c0, .slice a23 (pathG q).length c23] ∧ RSN ptE np (.slice a23 (pathG q).length c23) (pathG q) wr) (fun iv _ _ _ _ _ _ _ => (2 - intOf iv).toNat)
 case atStart => exact ⟨0, by omega, rfl, B, hnp2, b5, b8, rp⟩
 case round =>
  clear B b5 b8 rp k1 k2 hnp2
  obtain ⟨i, hi, rfl, B, hnp2, b5, b8, rp⟩ := hrel
  have hi3 : i = 0 ∨ i = 1 ∨ i = 2 := by omega
  rcases hi3 with rfl | rfl | rfl
  ·have d1 : decide (((0 : Nat) : Int) < 2) = true := by decide
   obtain ⟨⟨⟨bb1, bb2⟩, ⟨bb3, bb4⟩, ⟨bb5, bb6⟩, bb7, bb8⟩, bb9, bb10⟩ := bound_bdA l
   have HOK := Lib.hid (fill_ok (l := l))
   have HBOTH := Lib.hid (fill_both p HP.out l HN.out)
   obtain ⟨bd, hbd⟩ : ∃ b, boundG l = b := ⟨_, rfl⟩
   rw [hbd] at bb1 bb2 bb3 bb4 bb5 bb6 bb7 bb8 bb9 bb10 HOK HBOTH
   have HBD := Lib.hid hbd
   clear hbd
   have z1 : 0 ≤ (bd.x1 - bd.x0) * (bd.y1 - bd.y0) := Int.mul_nonneg (by omega) (by omega)
   have z2 : (bd.x1 - bd.x0) * (bd.y1 - bd.y0) ≤ 131072 * 131072 := Int.mul_le_mul (by omega) (by omega) (by omega) (by omega)
   go_upto_region 4 with fail
   refine wp_region_lit ?_
   try simp only [gelS]
   refine wpList_chunk 2 (by kernel_rfl) ?_
   simp only [takS, Nat.reduceAdd]
   repeat (first | go_big_quiet_skip | (go_big_quiet_want; go_big_quiet_op; go_big_quiet_on))
   refine wpQuiet_nil ?_
   refine wpList_nil ?_
   go_upto_region 6 with fail
   refine wp_region_lit ?_
   try simp only [gelS]
   refine wpList_chunk 3 (by kernel_rfl) ?_
   simp only [takS, Nat.reduceAdd]
   repeat (first | go_big_quiet_skip | (go_big_quiet_want; first | (refine quiet_loadAny (t := 22) rfl _ _ _ rfl (fun w hw => run_load_spf ((ov_B b8 w hw).cellL 0 rfl)) (by first | rfl | omega) ?_; simp only [putS]; go_big_quiet_on) | (go_big_quiet_op; go_big_quiet_on)))
   refine wpQuiet_nil ?_
   refine wpList_callF (by first | rfl | simp [Region.wanted, yielded]) rfl (enters_of Tryz.func8 (by kernel_rfl) rfl) (by simp only [Act.eval, evlS]; rfl) ?_
   refine (R_BoundFO _ l bd _ (HPT.out _ (H0.out.below B)) HN.out HBD.out).mono ?_
   rintro e wn ⟨rfl, hbn⟩
   have hsz := B.size
   have hzn := hbn.size
   replace B := B.trans (hbn.mono B.size)
   (try replace b5 := b5.below hbn)
   (try replace b8 := b8.below hbn)
   (try replace rp := rp.below hbn)
   refine ⟨_, rfl, ?_⟩
   simp only [putS]
   (refine wpList_allocBk (t := 30) rfl _ (run_alloc_Rc _ _ rfl) ?_; intro b_b10 wn hle hge ht hbn hzn; have hsz := B.size; replace B := B.trans (hbn.mono (by omega)); have hln := Nat.lt_of_lt_of_eq (Nat.lt_succ_self _) hzn.symm; clear hzn; (try have hlt := b5.lt); (try replace b5 := b5.below (hbn.mono hle)); (try have hlt := b8.lt); (try replace b8 := b8.below (hbn.mono hle)); (try have hlt := rp.lt); (try replace rp := rp.below (hbn.mono hle)); have b10 := ht; clear ht; simp only [putS])
   (refine wpList_storeB (t := 30) rfl _ _ rfl _ rfl _ rfl b10 (by kernel_rfl) rfl (by simp [rcA, pxC4, Value.oneCell']) ?_; have b10o := b10; clear b10; intro wn ht hcn hzn; replace rp := rp.chg hcn (by omega); have hsz := B.size; replace hzn := Nat.le_of_eq hzn.symm; replace B := Chg.below B hcn (by omega) B.size; (try replace b5 := b5.of_eq (hcn.block _ b5.lt (by omega))); (try replace b8 := b8.of_eq (hcn.block _ b8.lt (by omega))); have b10 := ht; clear ht; simp only [putS])
   refine wpList_nil ?_
   replace b10 : AtB 30 _ b_b10 (rcA bd) := b10
   go_upto_region 7 with fail
   go_cut [11] from 33 to 60 (fun s wr => ∃ b : Bool, s = .bool b ∧ (b = false → bd.x1 - bd.x0 > 256 ∨ bd.y1 - bd.y0 > 256 ∨ (bd.x1 - bd.x0) * (bd.y1 - bd.y0) ≤ 900) ∧ Below w.heap.size w wr ∧ np ≤ wr.heap.size ∧ AtB 25 wr b_b5 (pxC4 p) ∧ AtB 28 wr zb8 #[.slice a0 m c0, .slice a23 (pathG q).length c23] ∧ RSN ptE np (.slice a23 (pathG q).length c23) (pathG q) wr)
   case first =>
    have hnp3 := rp.1
    by_cases ha : 900 < (bd.x1 - bd.x0) * (bd.y1 - bd.y0)
    ·have e1 : decide (900 < (bd.x1 - bd.x0) * (bd.y1 - bd.y0)) = true := decide_eq_true ha
     by_cases hb : bd.x1 - bd.x0 ≤ 256
     ·have e2 : decide (bd.x1 - bd.x0 ≤ 256) = true := decide_eq_true hb
      by_cases hc : bd.y1 - bd.y0 ≤ 256
      ·have e3 : decide (bd.y1 - bd.y0 ≤ 256) = true := decide_eq_true hc
       refine wp_region_lit ?_
       try simp only [gelS]
       refine wpList_chunk 29 (by kernel_rfl) ?_
       simp only [takS, Nat.reduceAdd]
       repeat (first | go_big_quiet_skip | (go_big_quiet_want; first | (refine quiet_loadAny (t := 3) rfl _ _ _ rfl (fun w hw => run_load_int ((ov_B b10 w hw).cellL 0 rfl)) (by rfl) ?_; simp only [putS]; go_big_quiet_on) | (refine quiet_loadAny (t := 3) rfl _ _ _ rfl (fun w hw => run_load_int ((ov_B b10 w hw).cellL 1 rfl)) (by rfl) ?_; simp only [putS]; go_big_quiet_on) | (refine quiet_loadAny (t := 3) rfl _ _ _ rfl (fun w hw => run_load_int ((ov_B b10 w hw).cellL 2 rfl)) (by rfl) ?_; simp only [putS]; go_big_quiet_on) | (refine quiet_loadAny (t := 3) rfl _ _ _ rfl (fun w hw => run_load_int ((ov_B b10 w hw).cellL 3 rfl)) (by rfl) ?_; simp only [putS]; go_big_quiet_on) | (go_big_quiet_op; go_big_quiet_on)))
       refine wpQuiet_nil ?_
       refine wpList_nil ?_
       go_wp2
       go_meet
       exact ⟨true, rfl, (fun h => Bool.noConfusion h), B, hnp3, b5, b8, rp⟩
      ·have e3 : decide (bd.y1 - bd.y0 ≤ 256) = false := decide_eq_false hc
       have HC := Lib.hid hc
       clear hc
       refine wp_region_lit ?_
       try simp only [gelS]
       refine wpList_chunk 29 (by kernel_rfl) ?_
       simp only [takS, Nat.reduceAdd]
       repeat (first | go_big_quiet_skip | (go_big_quiet_want; first | (refine quiet_loadAny (t := 3) rfl _ _ _ rfl (fun w hw => run_load_int ((ov_B b10 w hw).cellL 0 rfl)) (by rfl) ?_; simp only [putS]; go_big_quiet_on) | (refine quiet_loadAny (t := 3) rfl _ _ _ rfl (fun w hw => run_load_int ((ov_B b10 w hw).cellL 1 rfl)) (by rfl) ?_; simp only [putS]; go_big_quiet_on) | (refine quiet_loadAny (t := 3) rfl _ _ _ rfl (fun w hw => run_load_int ((ov_B b10 w hw).cellL 2 rfl)) (by rfl) ?_; simp only [putS]; go_big_quiet_on) | (refine quiet_loadAny (t := 3) rfl _ _ _ rfl (fun w hw => run_load_int ((ov_B b10 w hw).cellL 3 rfl)) (by rfl) ?_; simp only [putS]; go_big_quiet_on) | (go_big_quiet_op; go_big_quiet_on)))
       refine wpQuiet_nil ?_
       refine wpList_nil ?_
       go_wp2
       go_meet
       exact ⟨false, rfl, fun _ => .inr (.inl (by have := HC.out; omega)), B, hnp3, b5, b8, rp⟩
     ·have e2 : decide (bd.x1 - bd.x0 ≤ 256) = false := decide_eq_false hb
      have HB := Lib.hid hb
      clear hb
      refine wp_region_lit ?_
      try simp only [gelS]
      refine wpList_chunk 29 (by kernel_rfl) ?_
      simp only [takS, Nat.reduceAdd]
      repeat (first | go_big_quiet_skip | (go_big_quiet_want; first | (refine quiet_loadAny (t := 3) rfl _ _ _ rfl (fun w hw => run_load_int ((ov_B b10 w hw).cellL 0 rfl)) (by rfl) ?_; simp only [putS]; go_big_quiet_on) | (refine quiet_loadAny (t := 3) rfl _ _ _ rfl (fun w hw => run_load_int ((ov_B b10 w hw).cellL 1 rfl)) (by rfl) ?_; simp only [putS]; go_big_quiet_on) | (refine quiet_loadAny (t := 3) rfl _ _ _ rfl (fun w hw => run_load_int ((ov_B b10 w hw).cellL 2 rfl)) (by rfl) ?_; simp only [putS]; go_big_quiet_on) | (refine quiet_loadAny (t := 3) rfl _ _ _ rfl (fun w hw => run_load_int ((ov_B b10 w hw).cellL 3 rfl)) (by rfl) ?_; simp only [putS]; go_big_quiet_on) | (go_big_quiet_op; go_big_quiet_on)))
      refine wpQuiet_nil ?_
      refine wpList_nil ?_
      go_wp2
      go_meet
      exact ⟨false, rfl, fun _ => .inl (by have := HB.out; omega), B, hnp3, b5, b8, rp⟩
    ·have e1 : decide (900 < (bd.x1 - bd.x0) * (bd.y1 - bd.y0)) = false := decide_eq_false ha
     have HA := Lib.hid ha
     clear ha
     refine wp_region_lit ?_
     try simp only [gelS]
     refine wpList_chunk 29 (by kernel_rfl) ?_
     simp only [takS, Nat.reduceAdd]
     repeat (first | go_big_quiet_skip | (go_big_quiet_want; first | (refine quiet_loadAny (t := 3) rfl _ _ _ rfl (fun w hw => run_load_int ((ov_B b10 w hw).cellL 0 rfl)) (by rfl) ?_; simp only [putS]; go_big_quiet_on) | (refine quiet_loadAny (t := 3) rfl _ _ _ rfl (fun w hw => run_load_int ((ov_B b10 w hw).cellL 1 rfl)) (by rfl) ?_; simp only [putS]; go_big_quiet_on) | (refine quiet_loadAny (t := 3) rfl _ _ _ rfl (fun w hw => run_load_int ((ov_B b10 w hw).cellL 2 rfl)) (by rfl) ?_; simp only [putS]; go_big_quiet_on) | (refine quiet_loadAny (t := 3) rfl _ _ _ rfl (fun w hw => run_load_int ((ov_B b10 w hw).cellL 3 rfl)) (by rfl) ?_; simp only [putS]; go_big_quiet_on) | (go_big_quiet_op; go_big_quiet_on)))
     refine wpQuiet_nil ?_
     refine wpList_nil ?_
     go_wp2
     go_meet
     exact ⟨false, rfl, fun _ => .inr (.inr (by have := HA.out; omega)), B, hnp3, b5, b8, rp⟩
   case rest =>
    clear B b5 b8 rp b10 hnp2
    obtain ⟨b, rfl, hbA, B, hnp2, b5, b8, rp⟩ := hcut
    go_upto_region 8 with fail
    refine wp_region_lit ?_
    try simp only [gelS]
    refine wpList_chunk 1 (by kernel_rfl) ?_
    simp only [takS, Nat.reduceAdd]
    repeat (first | go_big_quiet_skip | (go_big_quiet_want; go_big_quiet_op; go_big_quiet_on))
    refine wpQuiet_nil ?_
    refine wpList_nil ?_
    cases b with
    | true =>
     clear hbA
     go_upto_region 5 with fail
     refine wp_region_lit ?_
     try simp only [gelS]
     refine wpList_chunk 3 (by kernel_rfl) ?_
     simp only [takS, Nat.reduceAdd]
     repeat (first | go_big_quiet_skip | (go_big_quiet_want; go_big_quiet_op; go_big_quiet_on))
     refine wpQuiet_nil ?_
     refine wpList_nil ?_
     go_wp2
     go_roundw
     case rel => exact ⟨0 + 1, by omega, by go_num, B, by omega, b5, b8, rp⟩
     case measure => simp [intOf]; try omega
    | false =>
     obtain ⟨X, Y, E, tX, tY, lX, lY, eq, PF, RF⟩ := HBOTH.out (HOK.out (hbA rfl))
     have HX := Lib.hid tX
     have HY := Lib.hid tY
     have HE := Lib.hid eq
     have HPF := Lib.hid PF
     have HRF := Lib.hid RF
     clear tX tY eq PF RF hbA
     go_upto_region 9 with fail
     try simp only [gelS]
     try have lx_b5 := b5.lt
     try have lx_b8 := b8.lt
     try have lx_rp := rp.lt
     refine wp_region_RL 9 [(4, tupS (X) (E)), (8, ptrS (wc.heap.size) 34 #[.slice none 0 0])] (by kernel_rfl) (by kernel_rfl) (by kernel_rfl) ?_
     rotate_left 0
     simp only [takS, Nat.reduceAdd]
     refine wpRL_chunk 4 (by kernel_rfl) ?_
     simp only [takS, Nat.reduceAdd]
     repeat (first | go_big_quiet_skip | (go_big_quiet_want; first | (refine quiet_loadAny (t := 22) rfl _ _ _ rfl (fun w hw => run_load_spf ((ov_B b8 w hw).cellL 0 rfl)) (by first | rfl | omega) ?_; simp only [putS]; go_big_quiet_on) | (refine quiet_loadAny (t := 25) rfl _ _ _ rfl (fun w hw => run_load_B (ov_B b5 w hw) Tryz.isAgg25 (by kernel_rfl)) (by rfl) ?_; simp only [putS]; go_big_quiet_on) | (go_big_quiet_op; go_big_quiet_on)))
     refine wpQuiet_nil ?_
     refine wpRL_callB (by rfl) (by first | rfl | simp [Region.wanted, yielded]) ?_ ?_
     ·intro wn hbn hE Kx hKx
      have hsz := B.size
      have hzn := hbn.size
      replace B := B.trans (hbn.mono B.size)
      (try replace b5 := b5.below hbn)
      (try replace b8 := b8.below hbn)
      (try replace rp := rp.below hbn)
      refine wp_callF rfl (enters_of Tryz.func9 (by kernel_rfl) rfl) (by simp only [Act.eval, evlS]; rfl) ?_
      refine (HPF.out _ wn (HPT.out _ (H0.out.below B))).mono ?_
      rintro e wm ⟨v', rfl, hr, hbm⟩
      obtain ⟨a', c', rfl, _⟩ := hr.len
      exact ⟨_, rfl, hKx (a', c') wm hr hbm⟩
     rintro ⟨a67, c67⟩
     dsimp only [detS, tupS]
     simp only [putS]
     refine wpRL_chunk 3 (by kernel_rfl) ?_
     simp only [takS, Nat.reduceAdd]
     repeat (first | go_big_quiet_skip | (go_big_quiet_want; go_big_quiet_op; go_big_quiet_on))
     refine wpQuiet_nil ?_
     refine wpRL_callB (by rfl) (by first | rfl | simp [Region.wanted, yielded]) ?_ ?_
     ·intro wn hbn hE Kx hKx
      have hsz := B.size
      have hzn := hbn.size
      replace B := B.trans (hbn.mono B.size)
      (try replace b5 := b5.below hbn)
      (try replace b8 := b8.below hbn)
      (try replace rp := rp.below hbn)
      refine owp_allocBk (t := 34) _ (run_alloc_R _ _ rfl) ?_
      intro b wm h1 h2 ht hbm hzm
      exact hKx b wm ⟨Nat.le_trans hbn.size h1, ht⟩ (hbm.mono h1)
     rintro b_r12
     dsimp only [detS, ptrS]
     simp only [putS]
     refine wpRL_nil ?_
     intro wn hbn hE
     have hsz := B.size
     have hzn := hbn.size
     replace B := B.trans (hbn.mono B.size)
     (try replace b5 := b5.below hbn)
     (try replace b8 := b8.below hbn)
     (try replace rp := rp.below hbn)
     have rs3 := hE 4
     change RS _ _ _ at rs3
     obtain ⟨hge_r12, r12⟩ : _ ∧ AtB _ _ _ _ := hE 8
     clear hE
     try simp only [List.drop_succ_cons, List.drop_zero]
     obtain ⟨zr12, rfl⟩ : ∃ n : Nat, n = b_r12 := ⟨b_r12, rfl⟩
     go_wp2_with (first | (refine wpList_storeB (t := 34) rfl _ _ rfl _ rfl _ rfl r12 (by kernel_rfl) rfl (by simp [rcA, pxC4, Value.oneCell']) ?_; have r12o := r12; clear r12; intro wn ht hcn hzn; replace rp := rp.chg hcn (by omega); (try replace rs3 := rs3.chg r12o (by simp [rcA, pxC4]) hcn); have hsz := B.size; replace hzn := Nat.le_of_eq hzn.symm; replace B := Chg.below B hcn (by omega) B.size; (try replace b5 := b5.of_eq (hcn.block _ b5.lt (by omega))); (try replace b8 := b8.of_eq (hcn.block _ b8.lt (by omega))); (try replace b10 := b10.of_eq (hcn.block _ b10.lt (by omega))); (try replace g14 := g14.of_eq (hcn.block _ g14.lt (by omega))); have r12 := ht; clear ht; simp only [putS]) | fail)
     refine NoPan.normal ?_
     go_upto_region 10 with fail
     try simp only [gelS]
     try have lx_b5 := b5.lt
     try have lx_b8 := b8.lt
     try have lx_rp := rp.lt
     try have lx_r12 := r12.lt
     try have lx_rs3 := rs3.lt
     refine wp_region_RL 6 [(4, gotS (Y) (E)), (5, ptrS (wn.heap.size) 39 #[.slice none 0 0, .int .i64 0])] (by kernel_rfl) (by kernel_rfl) (by kernel_rfl) ?_
     rotate_left 0
     simp only [takS, Nat.reduceAdd]
     refine wpRL_chunk 4 (by kernel_rfl) ?_
     simp only [takS, Nat.reduceAdd]
     repeat (first | go_big_quiet_skip | (go_big_quiet_want; first | (refine quiet_loadAny (t := 22) rfl _ _ _ rfl (fun w hw => run_load_spf ((ov_B b8 w hw).cellL 0 rfl)) (by first | rfl | omega) ?_; simp only [putS]; go_big_quiet_on) | (refine quiet_loadAny (t := 25) rfl _ _ _ rfl (fun w hw => run_load_B (ov_B b5 w hw) Tryz.isAgg25 (by kernel_rfl)) (by rfl) ?_; simp only [putS]; go_big_quiet_on) | (go_big_quiet_op; go_big_quiet_on)))
     refine wpQuiet_nil ?_
     refine wpRL_callB (by rfl) (by first | rfl | simp [Region.wanted, yielded]) ?_ ?_
     ·intro wn hbn hE Kx hKx
      have hsz := B.size
      have hzn := hbn.size
      replace B := B.trans (hbn.mono B.size)
      (try replace b5 := b5.below hbn)
      (try replace b8 := b8.below hbn)
      (try replace rp := rp.below hbn)
      (try replace r12 := r12.below hbn)
      (try replace rs3 := rs3.below hbn)
      refine wp_callF rfl (enters_of Tryz.func10 (by kernel_rfl) rfl) (by simp only [Act.eval, evlS]; rfl) ?_
      refine (HRF.out _ wn (HPT.out _ (H0.out.below B))).mono ?_
      rintro e wm ⟨v', rfl, hr, hbm⟩
      obtain ⟨a', c', rfl, _⟩ := hr.len
      exact ⟨_, rfl, hKx (a', c') wm hr hbm⟩
     rintro ⟨a74, c74⟩
     dsimp only [detS, gotS]
     simp only [putS]
     refine wpRL_callB (by rfl) (by first | rfl | simp [Region.wanted, yielded]) ?_ ?_
     ·intro wn hbn hE Kx hKx
      have hsz := B.size
      have hzn := hbn.size
      replace B := B.trans (hbn.mono B.size)
      (try replace b5 := b5.below hbn)
      (try replace b8 := b8.below hbn)
      (try replace rp := rp.below hbn)
      (try replace r12 := r12.below hbn)
      (try replace rs3 := rs3.below hbn)
      refine owp_allocBk (t := 39) _ (run_alloc_G15 _ _ rfl) ?_
      intro b wm h1 h2 ht hbm hzm
      exact hKx b wm ⟨Nat.le_trans hbn.size h1, ht⟩ (hbm.mono h1)
     rintro b_g14
     dsimp only [detS, ptrS]
     simp only [putS]
     refine wpRL_nil ?_
     intro wn hbn hE
     have hsz := B.size
     have hzn := hbn.size
     replace B := B.trans (hbn.mono B.size)
     (try replace b5 := b5.below hbn)
     (try replace b8 := b8.below hbn)
     (try replace rp := rp.below hbn)
     (try replace r12 := r12.below hbn)
     (try replace rs3 := rs3.below hbn)
     have rs4 := hE 4
     change RS _ _ _ at rs4
     obtain ⟨hge_g14, g14⟩ : _ ∧ AtB _ _ _ _ := hE 5
     clear hE
     try simp only [List.drop_succ_cons, List.drop_zero]
     obtain ⟨zg14, rfl⟩ : ∃ n : Nat, n = b_g14 := ⟨b_g14, rfl⟩
     go_wp2_with (first | (refine wpList_storeB (t := 39) rfl _ _ rfl _ rfl _ rfl g14 (by kernel_rfl) rfl (by simp [rcA, pxC4, Value.oneCell']) ?_; have g14o := g14; clear g14; intro wn ht hcn hzn; replace rp := rp.chg hcn (by omega); (try replace rs3 := rs3.chg g14o (by simp [rcA, pxC4]) hcn); (try replace rs4 := rs4.chg g14o (by simp [rcA, pxC4]) hcn); have hsz := B.size; replace hzn := Nat.le_of_eq hzn.symm; replace B := Chg.below B hcn (by omega) B.size; (try replace b5 := b5.of_eq (hcn.block _ b5.lt (by omega))); (try replace b8 := b8.of_eq (hcn.block _ b8.lt (by omega))); (try replace b10 := b10.of_eq (hcn.block _ b10.lt (by omega))); (try replace r12 := r12.of_eq (hcn.block _ r12.lt (by omega))); have g14 := ht; clear ht; simp only [putS]) | fail)
     refine NoPan.normal ?_
     go_upto_region 11 with fail
     refine wp_region_lit ?_
     try simp only [gelS]
     refine wpList_chunk 3 (by kernel_rfl) ?_
     simp only [takS, Nat.reduceAdd]
     repeat (first | go_big_quiet_skip | (go_big_quiet_want; first | (refine quiet_loadAny (t := 34) rfl _ _ _ rfl (fun w hw => run_load_B (ov_B r12 w hw) Tryz.isAgg34 (by kernel_rfl)) (by rfl) ?_; simp only [putS]; go_big_quiet_on) | (refine quiet_loadAny (t := 34) rfl _ _ _ rfl (fun w hw => run_load_ras ((ov_B g14 w hw).cell 0 rfl)) (by first | rfl | omega) ?_; simp only [putS]; go_big_quiet_on) | (go_big_quiet_op; go_big_quiet_on)))
     refine wpQuiet_nil ?_
     refine wpList_callF (by first | rfl | simp [Region.wanted, yielded]) rfl (enters_of Tryz.func11 (by kernel_rfl) rfl) (by simp only [Act.eval, evlS]; rfl) ?_
     refine (R_EqualT _ _ X Y _ rs3 rs4 HX.out HY.out lX lY HE.out).mono ?_
     rintro e wn ⟨rfl, hbn⟩
     have hsz := B.size
     have hzn := hbn.size
     replace B := B.trans (hbn.mono B.size)
     (try replace b5 := b5.below hbn)
     (try replace b8 := b8.below hbn)
     (try replace rp := rp.below hbn)
     (try replace r12 := r12.below hbn)
     (try replace g14 := g14.below hbn)
     (try replace rs3 := rs3.below hbn)
     (try replace rs4 := rs4.below hbn)
     refine ⟨_, rfl, ?_⟩
     simp only [putS]
     refine wpList_chunk 1 (by kernel_rfl) ?_
     simp only [takS, Nat.reduceAdd]
     repeat (first | go_big_quiet_skip | (go_big_quiet_want; go_big_quiet_op; go_big_quiet_on))
     refine wpQuiet_nil ?_
     refine wpList_nil ?_
     go_upto_region 12 with fail
     refine wp_region_lit ?_
     try simp only [gelS]
     refine wpList_chunk 8 (by kernel_rfl) ?_
     simp only [takS, Nat.reduceAdd]
     repeat (first | go_big_quiet_skip | (go_big_quiet_want; first | (refine quiet_loadAny (t := 35) rfl _ _ _ rfl (fun w hw => run_load_err ((ov_B g14 w hw).cell 1 rfl)) (by first | rfl | omega) ?_; simp only [putS]; go_big_quiet_on) | (go_big_quiet_op; go_big_quiet_on)))
     refine wpQuiet_nil ?_
     refine wpList_nil ?_
     go_upto_region 5 with fail
     refine wp_region_lit ?_
     try simp only [gelS]
     refine wpList_chunk 3 (by kernel_rfl) ?_
     simp only [takS, Nat.reduceAdd]
     repeat (first | go_big_quiet_skip | (go_big_quiet_want; go_big_quiet_op; go_big_quiet_on))
     refine wpQuiet_nil ?_
     refine wpList_nil ?_
     go_wp2
     go_roundw
     case rel => exact ⟨0 + 1, by omega, by go_num, B, rp.1, b5, b8, rp⟩
     case measure => simp [intOf]; try omega
  ·have d1 : decide (((1 : Nat) : Int) < 2) = true := by decide
   obtain ⟨⟨⟨bb1, bb2⟩, ⟨bb3, bb4⟩, ⟨bb5, bb6⟩, bb7, bb8⟩, bb9, bb10⟩ := bound_bdA (pathG q)
   have HOK := Lib.hid (fill_ok (l := (pathG q)))
   have HBOTH := Lib.hid (fill_both p HP.out (pathG q) HPN.out)
   obtain ⟨bd, hbd⟩ : ∃ b, boundG (pathG q) = b := ⟨_, rfl⟩
   rw [hbd] at bb1 bb2 bb3 bb4 bb5 bb6 bb7 bb8 bb9 bb10 HOK HBOTH
   have HBD := Lib.hid hbd
   clear hbd
   have z1 : 0 ≤ (bd.x1 - bd.x0) * (bd.y1 - bd.y0) := Int.mul_nonneg (by omega) (by omega)
   have z2 : (bd.x1 - bd.x0) * (bd.y1 - bd.y0) ≤ 131072 * 131072 := Int.mul_le_mul (by omega) (by omega) (by omega) (by omega)
   go_upto_region 4 with fail
   refine wp_region_lit ?_
   try simp only [gelS]
   refine wpList_chunk 2 (by kernel_rfl) ?_
   simp only [takS, Nat.reduceAdd]
   repeat (first | go_big_quiet_skip | (go_big_quiet_want; go_big_quiet_op; go_big_quiet_on))
   refine wpQuiet_nil ?_
   refine wpList_nil ?_
   go_upto_region 6 with fail
   refine wp_region_lit ?_
   try simp only [gelS]
   refine wpList_chunk 3 (by kernel_rfl) ?_
   simp only [takS, Nat.reduceAdd]
   repeat (first | go_big_quiet_skip | (go_big_quiet_want; first | (refine quiet_loadAny (t := 22) rfl _ _ _ rfl (fun w hw => run_load_spf ((ov_B b8 w hw).cellL 1 rfl)) (by first | rfl | omega) ?_; simp only [putS]; go_big_quiet_on) | (go_big_quiet_op; go_big_quiet_on)))
   refine wpQuiet_nil ?_
   refine wpList_callF (by first | rfl | simp [Region.wanted, yielded]) rfl (enters_of Tryz.func8 (by kernel_rfl) rfl) (by simp only [Act.eval, evlS]; rfl) ?_
   refine (R_BoundFO _ (pathG q) bd _ rp.rs HPN.out HBD.out).mono ?_
   rintro e wn ⟨rfl, hbn⟩
   have hsz := B.size
   have hzn := hbn.size
   replace B := B.trans (hbn.mono B.size)
   (try replace b5 := b5.below hbn)
   (try replace b8 := b8.below hbn)
   (try replace rp := rp.below hbn)
   refine ⟨_, rfl, ?_⟩
   simp only [putS]
   (refine wpList_allocBk (t := 30) rfl _ (run_alloc_Rc _ _ rfl) ?_; intro b_b10 wn hle hge ht hbn hzn; have hsz := B.size; replace B := B.trans (hbn.mono (by omega)); have hln := Nat.lt_of_lt_of_eq (Nat.lt_succ_self _) hzn.symm; clear hzn; (try have hlt := b5.lt); (try replace b5 := b5.below (hbn.mono hle)); (try have hlt := b8.lt); (try replace b8 := b8.below (hbn.mono hle)); (try have hlt := rp.lt); (try replace rp := rp.below (hbn.mono hle)); have b10 := ht; clear ht; simp only [putS])
   (refine wpList_storeB (t := 30) rfl _ _ rfl _ rfl _ rfl b10 (by kernel_rfl) rfl (by simp [rcA, pxC4, Value.oneCell']) ?_; have b10o := b10; clear b10; intro wn ht hcn hzn; replace rp := rp.chg hcn (by omega); have hsz := B.size; replace hzn := Nat.le_of_eq hzn.symm; replace B := Chg.below B hcn (by omega) B.size; (try replace b5 := b5.of_eq (hcn.block _ b5.lt (by omega))); (try replace b8 := b8.of_eq (hcn.block _ b8.lt (by omega))); (try replace r12 := r12.of_eq (hcn.block _ r12.lt (by omega))); (try replace g14 := g14.of_eq (hcn.block _ g14.lt (by omega))); have b10 := ht; clear ht; simp only [putS])
   refine wpList_nil ?_
   replace b10 : AtB 30 _ b_b10 (rcA bd) := b10
   go_upto_region 7 with fail
   go_cut [11] from 33 to 60 (fun s wr => ∃ b : Bool, s = .bool b ∧ (b = false → bd.x1 - bd.x0 > 256 ∨ bd.y1 - bd.y0 > 256 ∨ (bd.x1 - bd.x0) * (bd.y1 - bd.y0) ≤ 900) ∧ Below w.heap.size w wr ∧ np ≤ wr.heap.size ∧ AtB 25 wr b_b5 (pxC4 p) ∧ AtB 28 wr zb8 #[.slice a0 m c0, .slice a23 (pathG q).length c23] ∧ RSN ptE np (.slice a23 (pathG q).length c23) (pathG q) wr)
   case first =>
    have hnp3 := rp.1
    by_cases ha : 900 < (bd.x1 - bd.x0) * (bd.y1 - bd.y0)
    ·have e1 : decide (900 < (bd.x1 - bd.x0) * (bd.y1 - bd.y0)) = true := decide_eq_true ha
     by_cases hb : bd.x1 - bd.x0 ≤ 256
     ·have e2 : decide (bd.x1 - bd.x0 ≤ 256) = true := decide_eq_true hb
      by_cases hc : bd.y1 - bd.y0 ≤ 256
      ·have e3 : decide (bd.y1 - bd.y0 ≤ 256) = true := decide_eq_true hc
       refine wp_region_lit ?_
       try simp only [gelS]
       refine wpList_chunk 29 (by kernel_rfl) ?_
       simp only [takS, Nat.reduceAdd]
       repeat (first | go_big_quiet_skip | (go_big_quiet_want; first | (refine quiet_loadAny (t := 3) rfl _ _ _ rfl (fun w hw => run_load_int ((ov_B b10 w hw).cellL 0 rfl)) (by rfl) ?_; simp only [putS]; go_big_quiet_on) | (refine quiet_loadAny (t := 3) rfl _ _ _ rfl (fun w hw => run_load_int ((ov_B b10 w hw).cellL 1 rfl)) (by rfl) ?_; simp only [putS]; go_big_quiet_on) | (refine quiet_loadAny (t := 3) rfl _ _ _ rfl (fun w hw => run_load_int ((ov_B b10 w hw).cellL 2 rfl)) (by rfl) ?_; simp only [putS]; go_big_quiet_on) | (refine quiet_loadAny (t := 3) rfl _ _ _ rfl (fun w hw => run_load_int ((ov_B b10 w hw).cellL 3 rfl)) (by rfl) ?_; simp only [putS]; go_big_quiet_on) | (go_big_quiet_op; go_big_quiet_on)))
       refine wpQuiet_nil ?_
       refine wpList_nil ?_
       go_wp2
       go_meet
       exact ⟨true, rfl, (fun h => Bool.noConfusion h), B, hnp3, b5, b8, rp⟩
      ·have e3 : decide (bd.y1 - bd.y0 ≤ 256) = false := decide_eq_false hc
       have HC := Lib.hid hc
       clear hc
       refine wp_region_lit ?_
       try simp only [gelS]
       refine wpList_chunk 29 (by kernel_rfl) ?_
       simp only [takS, Nat.reduceAdd]
       repeat (first | go_big_quiet_skip | (go_big_quiet_want; first | (refine quiet_loadAny (t := 3) rfl _ _ _ rfl (fun w hw => run_load_int ((ov_B b10 w hw).cellL 0 rfl)) (by rfl) ?_; simp only [putS]; go_big_quiet_on) | (refine quiet_loadAny (t := 3) rfl _ _ _ rfl (fun w hw => run_load_int ((ov_B b10 w hw).cellL 1 rfl)) (by rfl) ?_; simp only [putS]; go_big_quiet_on) | (refine quiet_loadAny (t := 3) rfl _ _ _ rfl (fun w hw => run_load_int ((ov_B b10 w hw).cellL 2 rfl)) (by rfl) ?_; simp only [putS]; go_big_quiet_on) | (refine quiet_loadAny (t := 3) rfl _ _ _ rfl (fun w hw => run_load_int ((ov_B b10 w hw).cellL 3 rfl)) (by rfl) ?_; simp only [putS]; go_big_quiet_on) | (go_big_quiet_op; go_big_quiet_on)))
       refine wpQuiet_nil ?_
       refine wpList_nil ?_
       go_wp2
       go_meet
       exact ⟨false, rfl, fun _ => .inr (.inl (by have := HC.out; omega)), B, hnp3, b5, b8, rp⟩
     ·have e2 : decide (bd.x1 - bd.x0 ≤ 256) = false := decide_eq_false hb
      have HB := Lib.hid hb
      clear hb
      refine wp_region_lit ?_
      try simp only [gelS]
      refine wpList_chunk 29 (by kernel_rfl) ?_
      simp only [takS, Nat.reduceAdd]
      repeat (first | go_big_quiet_skip | (go_big_quiet_want; first | (refine quiet_loadAny (t := 3) rfl _ _ _ rfl (fun w hw => run_load_int ((ov_B b10 w hw).cellL 0 rfl)) (by rfl) ?_; simp only [putS]; go_big_quiet_on) | (refine quiet_loadAny (t := 3) rfl _ _ _ rfl (fun w hw => run_load_int ((ov_B b10 w hw).cellL 1 rfl)) (by rfl) ?_; simp only [putS]; go_big_quiet_on) | (refine quiet_loadAny (t := 3) rfl _ _ _ rfl (fun w hw => run_load_int ((ov_B b10 w hw).cellL 2 rfl)) (by rfl) ?_; simp only [putS]; go_big_quiet_on) | (refine quiet_loadAny (t := 3) rfl _ _ _ rfl (fun w hw => run_load_int ((ov_B b10 w hw).cellL 3 rfl)) (by rfl) ?_; simp only [putS]; go_big_quiet_on) | (go_big_quiet_op; go_big_quiet_on)))
      refine wpQuiet_nil ?_
      refine wpList_nil ?_
      go_wp2
      go_meet
      exact ⟨false, rfl, fun _ => .inl (by have := HB.out; omega), B, hnp3, b5, b8, rp⟩
    ·have e1 : decide (900 < (bd.x1 - bd.x0) * (bd.y1 - bd.y0)) = false := decide_eq_false ha
     have HA := Lib.hid ha
     clear ha
     refine wp_region_lit ?_
     try simp only [gelS]
     refine wpList_chunk 29 (by kernel_rfl) ?_
     simp only [takS, Nat.reduceAdd]
     repeat (first | go_big_quiet_skip | (go_big_quiet_want; first | (refine quiet_loadAny (t := 3) rfl _ _ _ rfl (fun w hw => run_load_int ((ov_B b10 w hw).cellL 0 rfl)) (by rfl) ?_; simp only [putS]; go_big_quiet_on) | (refine quiet_loadAny (t := 3) rfl _ _ _ rfl (fun w hw => run_load_int ((ov_B b10 w hw).cellL 1 rfl)) (by rfl) ?_; simp only [putS]; go_big_quiet_on) | (refine quiet_loadAny (t := 3) rfl _ _ _ rfl (fun w hw => run_load_int ((ov_B b10 w hw).cellL 2 rfl)) (by rfl) ?_; simp only [putS]; go_big_quiet_on) | (refine quiet_loadAny (t := 3) rfl _ _ _ rfl (fun w hw => run_load_int ((ov_B b10 w hw).cellL 3 rfl)) (by rfl) ?_; simp only [putS]; go_big_quiet_on) | (go_big_quiet_op; go_big_quiet_on)))
     refine wpQuiet_nil ?_
     refine wpList_nil ?_
     go_wp2
     go_meet
     exact ⟨false, rfl, fun _ => .inr (.inr (by have := HA.out; omega)), B, hnp3, b5, b8, rp⟩
   case rest =>
    clear B b5 b8 rp b10 hnp2
    obtain ⟨b, rfl, hbA, B, hnp2, b5, b8, rp⟩ := hcut
    go_upto_region 8 with fail
    refine wp_region_lit ?_
    try simp only [gelS]
    refine wpList_chunk 1 (by kernel_rfl) ?_
    simp only [takS, Nat.reduceAdd]
    repeat (first | go_big_quiet_skip | (go_big_quiet_want; go_big_quiet_op; go_big_quiet_on))
    refine wpQuiet_nil ?_
    refine wpList_nil ?_
    cases b with
    | true =>
     clear hbA
     go_upto_region 5 with fail
     refine wp_region_lit ?_
     try simp only [gelS]
     refine wpList_chunk 3 (by kernel_rfl) ?_
     simp only [takS, Nat.reduceAdd]
     repeat (first | go_big_quiet_skip | (go_big_quiet_want; go_big_quiet_op; go_big_quiet_on))
     refine wpQuiet_nil ?_
     refine wpList_nil ?_
     go_wp2
     go_roundw
     case rel => exact ⟨1 + 1, by omega, by go_num, B, by omega, b5, b8, rp⟩
     case measure => simp [intOf]; try omega
    | false =>
     obtain ⟨X, Y, E, tX, tY, lX, lY, eq, PF, RF⟩ := HBOTH.out (HOK.out (hbA rfl))
     have HX := Lib.hid tX
     have HY := Lib.hid tY
     have HE := Lib.hid eq
     have HPF := Lib.hid PF
     have HRF := Lib.hid RF
     clear tX tY eq PF RF hbA
     go_upto_region 9 with fail
     try simp only [gelS]
     try have lx_b5 := b5.lt
     try have lx_b8 := b8.lt
     try have lx_rp := rp.lt
     refine wp_region_RL 9 [(4, tupS (X) (E)), (8, ptrS (wc.heap.size) 34 #[.slice none 0 0])] (by kernel_rfl) (by kernel_rfl) (by kernel_rfl) ?_
     rotate_left 0
     simp only [takS, Nat.reduceAdd]
     refine wpRL_chunk 4 (by kernel_rfl) ?_
     simp only [takS, Nat.reduceAdd]
     repeat (first | go_big_quiet_skip | (go_big_quiet_want; first | (refine quiet_loadAny (t := 22) rfl _ _ _ rfl (fun w hw => run_load_spf ((ov_B b8 w hw).cellL 1 rfl)) (by first | rfl | omega) ?_; simp only [putS]; go_big_quiet_on) | (refine quiet_loadAny (t := 25) rfl _ _ _ rfl (fun w hw => run_load_B (ov_B b5 w hw) Tryz.isAgg25 (by kernel_rfl)) (by rfl) ?_; simp only [putS]; go_big_quiet_on) | (go_big_quiet_op; go_big_quiet_on)))
     refine wpQuiet_nil ?_
     refine wpRL_callB (by rfl) (by first | rfl | simp [Region.wanted, yielded]) ?_ ?_
     ·intro wn hbn hE Kx hKx
      have hsz := B.size
      have hzn := hbn.size
      replace B := B.trans (hbn.mono B.size)
      (try replace b5 := b5.below hbn)
      (try replace b8 := b8.below hbn)
      (try replace rp := rp.below hbn)
      refine wp_callF rfl (enters_of Tryz.func9 (by kernel_rfl) rfl) (by simp only [Act.eval, evlS]; rfl) ?_
      refine (HPF.out _ wn rp.rs).mono ?_
      rintro e wm ⟨v', rfl, hr, hbm⟩
      obtain ⟨a', c', rfl, _⟩ := hr.len
      exact ⟨_, rfl, hKx (a', c') wm hr hbm⟩
     rintro ⟨a67, c67⟩
     dsimp only [detS, tupS]
     simp only [putS]
     refine wpRL_chunk 3 (by kernel_rfl) ?_
     simp only [takS, Nat.reduceAdd]
     repeat (first | go_big_quiet_skip | (go_big_quiet_want; go_big_quiet_op; go_big_quiet_on))
     refine wpQuiet_nil ?_
     refine wpRL_callB (by rfl) (by first | rfl | simp [Region.wanted, yielded]) ?_ ?_
     ·intro wn hbn hE Kx hKx
      have hsz := B.size
      have hzn := hbn.size
      replace B := B.trans (hbn.mono B.size)
      (try replace b5 := b5.below hbn)
      (try replace b8 := b8.below hbn)
      (try replace rp := rp.below hbn)
      refine owp_allocBk (t := 34) _ (run_alloc_R _ _ rfl) ?_
      intro b wm h1 h2 ht hbm hzm
      exact hKx b wm ⟨Nat.le_trans hbn.size h1, ht⟩ (hbm.mono h1)
     rintro b_r12
     dsimp only [detS, ptrS]
     simp only [putS]
     refine wpRL_nil ?_
     intro wn hbn hE
     have hsz := B.size
     have hzn := hbn.size
     replace B := B.trans (hbn.mono B.size)
     (try replace b5 := b5.below hbn)
     (try replace b8 := b8.below hbn)
     (try replace rp := rp.below hbn)
     have rs3 := hE 4
     change RS _ _ _ at rs3
     obtain ⟨hge_r12, r12⟩ : _ ∧ AtB _ _ _ _ := hE 8
     clear hE
     try simp only [List.drop_succ_cons, List.drop_zero]
     obtain ⟨zr12, rfl⟩ : ∃ n : Nat, n = b_r12 := ⟨b_r12, rfl⟩
     go_wp2_with (first | (refine wpList_storeB (t := 34) rfl _ _ rfl _ rfl _ rfl r12 (by kernel_rfl) rfl (by simp [rcA, pxC4, Value.oneCell']) ?_; have r12o := r12; clear r12; intro wn ht hcn hzn; replace rp := rp.chg hcn (by omega); (try replace rs3 := rs3.chg r12o (by simp [rcA, pxC4]) hcn); have hsz := B.size; replace hzn := Nat.le_of_eq hzn.symm; replace B := Chg.below B hcn (by omega) B.size; (try replace b5 := b5.of_eq (hcn.block _ b5.lt (by omega))); (try replace b8 := b8.of_eq (hcn.block _ b8.lt (by omega))); (try replace g14 := g14.of_eq (hcn.block _ g14.lt (by omega))); have r12 := ht; clear ht; simp only [putS]) | fail)
     refine NoPan.normal ?_
     go_upto_region 10 with fail
     try simp only [gelS]
     try have lx_b5 := b5.lt
     try have lx_b8 := b8.lt
     try have lx_rp := rp.lt
     try have lx_r12 := r12.lt
     try have lx_rs3 := rs3.lt
     refine wp_region_RL 6 [(4, gotS (Y) (E)), (5, ptrS (wn.heap.size) 39 #[.slice none 0 0, .int .i64 0])] (by kernel_rfl) (by kernel_rfl) (by kernel_rfl) ?_
     rotate_left 0
     simp only [takS, Nat.reduceAdd]
     refine wpRL_chunk 4 (by kernel_rfl) ?_
     simp only [takS, Nat.reduceAdd]
     repeat (first | go_big_quiet_skip | (go_big_quiet_want; first | (refine quiet_loadAny (t := 22) rfl _ _ _ rfl (fun w hw => run_load_spf ((ov_B b8 w hw).cellL 1 rfl)) (by first | rfl | omega) ?_; simp only [putS]; go_big_quiet_on) | (refine quiet_loadAny (t := 25) rfl _ _ _ rfl (fun w hw => run_load_B (ov_B b5 w hw) Tryz.isAgg25 (by kernel_rfl)) (by rfl) ?_; simp only [putS]; go_big_quiet_on) | (go_big_quiet_op; go_big_quiet_on)))
     refine wpQuiet_nil ?_
     refine wpRL_callB (by rfl) (by first | rfl | simp [Region.wanted, yielded]) ?_ ?_
     ·intro wn hbn hE Kx hKx
      have hsz := B.size
      have hzn := hbn.size
      replace B := B.trans (hbn.mono B.size)
      (try replace b5 := b5.below hbn)
      (try replace b8 := b8.below hbn)
      (try replace rp := rp.below hbn)
      (try replace r12 := r12.below hbn)
      (try replace rs3 := rs3.below hbn)
      refine wp_callF rfl (enters_of Tryz.func10 (by kernel_rfl) rfl) (by simp only [Act.eval, evlS]; rfl) ?_
      refine (HRF.out _ wn rp.rs).mono ?_
      rintro e wm ⟨v', rfl, hr, hbm⟩
      obtain ⟨a', c', rfl, _⟩ := hr.len
      exact ⟨_, rfl, hKx (a', c') wm hr hbm⟩
     rintro ⟨a74, c74⟩
     dsimp only [detS, gotS]
     simp only [putS]
     refine wpRL_callB (by rfl) (by first | rfl | simp [Region.wanted, yielded]) ?_ ?_
     ·intro wn hbn hE Kx hKx
      have hsz := B.size
      have hzn := hbn.size
      replace B := B.trans (hbn.mono B.size)
      (try replace b5 := b5.below hbn)
      (try replace b8 := b8.below hbn)
      (try replace rp := rp.below hbn)
      (try replace r12 := r12.below hbn)
      (try replace rs3 := rs3.below hbn)
      refine owp_allocBk (t := 39) _ (run_alloc_G15 _ _ rfl) ?_
      intro b wm h1 h2 ht hbm hzm
      exact hKx b wm ⟨Nat.le_trans hbn.size h1, ht⟩ (hbm.mono h1)
     rintro b_g14
     dsimp only [detS, ptrS]
     simp only [putS]
     refine wpRL_nil ?_
     intro wn hbn hE
     have hsz := B.size
     have hzn := hbn.size
     replace B := B.trans (hbn.mono B.size)
     (try replace b5 := b5.below hbn)
     (try replace b8 := b8.below hbn)
     (try replace rp := rp.below hbn)
     (try replace r12 := r12.below hbn)
     (try replace rs3 := rs3.below hbn)
     have rs4 := hE 4
     change RS _ _ _ at rs4
     obtain ⟨hge_g14, g14⟩ : _ ∧ AtB _ _ _ _ := hE 5
     clear hE
     try simp only [List.drop_succ_cons, List.drop_zero]
     obtain ⟨zg14, rfl⟩ : ∃ n : Nat, n = b_g14 := ⟨b_g14, rfl⟩
     go_wp2_with (first | (refine wpList_storeB (t := 39) rfl _ _ rfl _ rfl _ rfl g14 (by kernel_rfl) rfl (by simp [rcA, pxC4, Value.oneCell']) ?_; have g14o := g14; clear g14; intro wn ht hcn hzn; replace rp := rp.chg hcn (by omega); (try replace rs3 := rs3.chg g14o (by simp [rcA, pxC4]) hcn); (try replace rs4 := rs4.chg g14o (by simp [rcA, pxC4]) hcn); have hsz := B.size; replace hzn := Nat.le_of_eq hzn.symm; replace B := Chg.below B hcn (by omega) B.size; (try replace b5 := b5.of_eq (hcn.block _ b5.lt (by omega))); (try replace b8 := b8.of_eq (hcn.block _ b8.lt (by omega))); (try replace r12 := r12.of_eq (hcn.block _ r12.lt (by omega))); have g14 := ht; clear ht; simp only [putS]) | fail)
     refine NoPan.normal ?_
     go_upto_region 11 with fail
     refine wp_region_lit ?_
     try simp only [gelS]
     refine wpList_chunk 3 (by kernel_rfl) ?_
     simp only [takS, Nat.reduceAdd]
     repeat (first | go_big_quiet_skip | (go_big_quiet_want; first | (refine quiet_loadAny (t := 34) rfl _ _ _ rfl (fun w hw => run_load_B (ov_B r12 w hw) Tryz.isAgg34 (by kernel_rfl)) (by rfl) ?_; simp only [putS]; go_big_quiet_on) | (refine quiet_loadAny (t := 34) rfl _ _ _ rfl (fun w hw => run_load_ras ((ov_B g14 w hw).cell 0 rfl)) (by first | rfl | omega) ?_; simp only [putS]; go_big_quiet_on) | (go_big_quiet_op; go_big_quiet_on)))
     refine wpQuiet_nil ?_
     refine wpList_callF (by first | rfl | simp [Region.wanted, yielded]) rfl (enters_of Tryz.func11 (by kernel_rfl) rfl) (by simp only [Act.eval, evlS]; rfl) ?_
     refine (R_EqualT _ _ X Y _ rs3 rs4 HX.out HY.out lX lY HE.out).mono ?_
     rintro e wn ⟨rfl, hbn⟩
     have hsz := B.size
     have hzn := hbn.size
     replace B := B.trans (hbn.mono B.size)
     (try replace b5 := b5.below hbn)
     (try replace b8 := b8.below hbn)
     (try replace rp := rp.below hbn)
     (try replace g14 := g14.below hbn)
     refine ⟨_, rfl, ?_⟩
     simp only [putS]
     refine wpList_chunk 1 (by kernel_rfl) ?_
     simp only [takS, Nat.reduceAdd]
     repeat (first | go_big_quiet_skip | (go_big_quiet_want; go_big_quiet_op; go_big_quiet_on))
     refine wpQuiet_nil ?_
     refine wpList_nil ?_
     go_upto_region 12 with fail
     refine wp_region_lit ?_
     try simp only [gelS]
     refine wpList_chunk 8 (by kernel_rfl) ?_
     simp only [takS, Nat.reduceAdd]
     repeat (first | go_big_quiet_skip | (go_big_quiet_want; first | (refine quiet_loadAny (t := 35) rfl _ _ _ rfl (fun w hw => run_load_err ((ov_B g14 w hw).cell 1 rfl)) (by first | rfl | omega) ?_; simp only [putS]; go_big_quiet_on) | (go_big_quiet_op; go_big_quiet_on)))
     refine wpQuiet_nil ?_
     refine wpList_nil ?_
     go_upto_region 5 with fail
     refine wp_region_lit ?_
     try simp only [gelS]
     refine wpList_chunk 3 (by kernel_rfl) ?_
     simp only [takS, Nat.reduceAdd]
     repeat (first | go_big_quiet_skip | (go_big_quiet_want; go_big_quiet_op; go_big_quiet_on))
     refine wpQuiet_nil ?_
     refine wpList_nil ?_
     go_wp2
     go_roundw
     case rel => exact ⟨1 + 1, by omega, by go_num, B, rp.1, b5, b8, rp⟩
     case measure => simp [intOf]; try omega
  ·have d1 : decide (((2 : Nat) : Int) < 2) = false := by decide
   go_upto_region 4 with fail
   refine wp_region_lit ?_
   try simp only [gelS]
   refine wpList_chunk 2 (by kernel_rfl) ?_
   simp only [takS, Nat.reduceAdd]
   repeat (first | go_big_quiet_skip | (go_big_quiet_want; go_big_quiet_op; go_big_quiet_on))
   refine wpQuiet_nil ?_
   refine wpList_nil ?_
   go_upto_region 14 with fail
   refine wp_region_lit ?_
   try simp only [gelS]
   refine wpList_chunk 2 (by kernel_rfl) ?_
   simp only [takS, Nat.reduceAdd]
   repeat (first | go_big_quiet_skip | (go_big_quiet_want; go_big_quiet_op; go_big_quiet_on))
   refine wpQuiet_nil ?_
   refine wpList_nil ?_
   go_wp2
   go_ret
   exact ⟨rfl, B⟩
namespace selectionFills
open Go.ChangeShapes Go.WideShapes Go.ChangeAt Go.RowKit
open Go.ChangeMaps (open_string shut_string)
set_option maxRecDepth 100000 in
theorem lifted (os : Os) (started : os.Started) (H : Type) (enc : TypeId × Value → H) :
  ReturnsInHanded {} Tryz.checked os 3 .any (Rows.selectionFillsSpec.pre6 enc Tryz.prog Tryz.f3 Rows.selectionFillsRow.domain false) (Rows.selectionFillsSpec.post enc Tryz.prog Tryz.f3 false true false false) := by
 refine returnsInHanded_of_change_sized (C := Tryz.checked) own started (by kernel_rfl) Tryz.func3
  (ChangeSpec.witness6 (enc := enc) (C := Tryz.checked) false ⟨#[], #[.slice none 0 0, .slice none 0 0, .agg #[.int .u8 0, .int .u8 0, .int .u8 0, .int .u8 0]], []⟩ 8 (by kernel_rfl) (by kernel_rfl) (by kernel_rfl) (by kernel_rfl)) ?_
 intro W base args ds gs before hval0 hW hcnd hsz0 _
 have hval : ∀ (j : Nat) t v, Tryz.f3.params[j]? = some t → args[j]? = some v → Value.okWide Tryz.prog W .any base t v := hval0
 have hW' := hW
 obtain ⟨p, q, hA0, hV, rfl, hfz, hnd⟩ := hW
 have hA : DataW.TrodAll enc Tryz.prog W 0 (fun _ => true) true Tryz.f3.params.toList args.toList ds p := hA0
 rw [Tryz.params3] at hA hval hsz0
 obtain ⟨v0, vs0, d0, ds0, p0, q0, hargs, rfl, rfl, h0, r0⟩ := trodAll_cons hA
 obtain ⟨v1, vs1, d1, ds1, p1, q1, rfl, rfl, rfl, h1, r1⟩ := trodAll_cons r0
 obtain ⟨v2, vs2, d2, ds2, p2, q2, rfl, rfl, rfl, h2, r2⟩ := trodAll_cons r1
 obtain ⟨rfl, rfl, rfl⟩ := trodAll_nil r2
 obtain rfl : args = #[v0, v1, v2] := by cases args; simp_all
 obtain ⟨rfl, rfl⟩ := trodVars_none hV
 have hwt1 : ∀ n ∈ DataW.weights Tryz.prog 23 d1, n ≤ reachBytes := fun n hn => by simpa using List.all_eq_true.1 hsz0 n (DataW.weights_mem_each (j := 1) rfl rfl n hn)
 have k0 := h0
 have lt0 : ∀ x ∈ p0, x.block < W.heap.size := by obtain ⟨m, hm⟩ := k0; exact DataW.trod_lt m _ _ _ hm
 have k1 := h1
 have lt1 : ∀ x ∈ p1, x.block < W.heap.size := by obtain ⟨m, hm⟩ := k1; exact DataW.trod_lt m _ _ _ hm
 have k2 := h2
 have lt2 : ∀ x ∈ p2, x.block < W.heap.size := by obtain ⟨m, hm⟩ := k2; exact DataW.trod_lt m _ _ _ hm
 obtain ⟨l0, hl0, hln0⟩ := open_pts (hval 0 22 v0 rfl rfl) h0
 obtain ⟨L1, hL1, hLn1⟩ := open_ints1 (hval 1 23 v1 rfl rfl) h1 hwt1
 obtain ⟨a2, rfl, w2⟩ := open_px (hval 2 25 v2 rfl rfl) h2
 clear hA0 hval0
 refine (walk_SelectionFills v0 l0 v1 L1 a2   w2 W hl0 hln0 hL1 hLn1).mono fun e W' ⟨he, bel⟩ => ?_
 subst he
 exact ⟨_, rfl, _, _, _, [], _, [], hW', trodAll_mk1 (shut_bool Tryz.underlying4 _), (trodAll_cons_mk (Below.trod laidOut (by kernel_rfl) (of_decide_eq_true (by kernel_rfl)) k0 bel lt0) (trodAll_cons_mk (Below.trod laidOut (by kernel_rfl) (of_decide_eq_true (by kernel_rfl)) k1 bel lt1) (trodAll_cons_mk (Below.trod laidOut (by kernel_rfl) (of_decide_eq_true (by kernel_rfl)) k2 bel lt2) trodAll_mk0))), rfl, bel.frame _, fun h => by cases h⟩
theorem over : Rows.selectionFillsRow.holds Tryz.pinned (OpenSpec.ofChange Rows.selectionFillsSpec) :=
 OpenClaim.holds_of_wide 3 Tryz.f3 rfl rfl rfl rfl rfl rfl rfl ⟨rfl, rfl, rfl, rfl, rfl⟩ rfl rfl rfl rfl rfl (by kernel_rfl) Tryz.func3 (by kernel_rfl)
  (of_decide_eq_true (by kernel_rfl)) (by unfold Func.isWrapper; first | (rw [if_pos (by decide +kernel)]; kernel_rfl) | (rw [if_neg (by decide +kernel)]; exact ⟨rfl, rfl⟩))
  (fun os started H enc _ => lifted os started H enc)
/-- THE STATEMENT: SelectionFills returns true for every input, and its arguments read as they did. -/
theorem proved : Rows.SelectionFillsSaid := over
end selectionFills
end Go.Proofs.YtamgpfblhlfhaaaGreat
