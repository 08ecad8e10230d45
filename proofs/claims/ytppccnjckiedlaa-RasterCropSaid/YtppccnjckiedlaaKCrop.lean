import Derived.Test.YtppccnjckiedlaaK3
import Derived.Test.YtppccnjckiedlaaK2

/- RasterCrop: for every raster and rectangles, Crop agrees with the reference, cropping twice is cropping to the intersection, cropping to the bounds changes nothing; the law returns true for every input, and its arguments read as they did. No condition. -/
namespace Go.Proofs.Ytppccnjckiedlaa
open Go.RowKit Go.Shelf Pl
set_option linter.unusedVariables false
set_option linter.unusedSimpArgs false
set_option maxRecDepth 20000
set_option maxHeartbeats 4000000 in
theorem walk_RasterCrop (q : RawQ) (vL vT : Value) (L T : List Int) (a b : Rc) (ha : (Lit.int .i64 a.x0).wf = true ∧ (Lit.int .i64 a.y0).wf = true ∧ (Lit.int .i64 a.x1).wf = true ∧ (Lit.int .i64 a.y1).wf = true) (hb : (Lit.int .i64 b.x0).wf = true ∧ (Lit.int .i64 b.y0).wf = true ∧ (Lit.int .i64 b.x1).wf = true ∧ (Lit.int .i64 b.y1).wf = true) (w : World) (hL : RSE inE vL L w) (hLn : L.length ≤ 17592186044416) (hT : RSE inE vT T w) (hTn : T.length ≤ 17592186044416) :
    Calls Try.prog 10 #[.agg #[vL, .int .i64 q.at_, .int .i64 q.px, .int .i64 q.py, vT, .int .i64 q.how], Rc.v a, Rc.v b] w fun e w' => e = .returned (.bool true) ∧ Below w.heap.size w w' := by
  have B := Below.refl w.heap.size w
  have HL := Lib.hid hL
  have HT := Lib.hid hT
  clear hL hT
  have HN := Lib.hid (len_maxLen (Nat.le_trans (ofL_len q L T) (by omega)))
  have HM := Lib.hid (len_maxLen (Nat.le_trans (madeL_len L) (by omega)))
  have HC1 := Lib.hid (len_maxLen (Nat.le_trans (Nat.le_trans (cropL_len (nearR a) (madeL L)) (madeL_len L)) (by omega)))
  have HC2 := Lib.hid (len_maxLen (Nat.le_trans (Nat.le_trans (cropL_len (interR (nearR a) (nearR b)) (madeL L)) (madeL_len L)) (by omega)))
  have HCa := Lib.hid (len_maxLen (Nat.le_trans (Nat.le_trans (cropL_len a (fineL (ofL q L T))) (fineL_length _)) (by omega)))
  have HCn := Lib.hid (len_maxLen (Nat.le_trans (Nat.le_trans (cropL_len (nearR a) (fineL (ofL q L T))) (fineL_length _)) (by omega)))
  have HV := Lib.hid (cropL_valid (madeL_valid L) (interR (nearR a) (nearR b)))
  simp only [Rc.v_A]
  go_enter Try.func10, Try.ntmps10
  go_upto_region 6 with (first | (refine wpList_storeB (t := 64) rfl _ _ rfl _ rfl _ rfl d11 (by kernel_rfl) rfl (by simp [rcA, Value.oneCell']) ?_; have d11o := d11; clear d11; intro wn ht hcn hzn; (try replace rs1 := rs1.chg d11o (by simp [rcA]) hcn); (try replace rs2 := rs2.chg d11o (by simp [rcA]) hcn); (try replace rs3 := rs3.chg d11o (by simp [rcA]) hcn); (try replace rs4 := rs4.chg d11o (by simp [rcA]) hcn); have hsz := B.size; replace hzn := Nat.le_of_eq hzn.symm; replace B := Chg.below B hcn (by omega) B.size; (try replace q1 := q1.of_eq (hcn.block _ q1.lt (by omega))); (try replace c4 := c4.of_eq (hcn.block _ c4.lt (by omega))); (try replace c5 := c5.of_eq (hcn.block _ c5.lt (by omega))); (try replace r8 := r8.of_eq (hcn.block _ r8.lt (by omega))); (try replace r9 := r9.of_eq (hcn.block _ r9.lt (by omega))); (try replace d10 := d10.of_eq (hcn.block _ d10.lt (by omega))); (try replace r12 := r12.of_eq (hcn.block _ r12.lt (by omega))); (try replace r13 := r13.of_eq (hcn.block _ r13.lt (by omega))); (try replace rs1 := rs1.of_eq (hcn.block _ rs1.lt (by omega))); (try replace rs2 := rs2.of_eq (hcn.block _ rs2.lt (by omega))); (try replace rs3 := rs3.of_eq (hcn.block _ rs3.lt (by omega))); (try replace rs4 := rs4.of_eq (hcn.block _ rs4.lt (by omega))); have d11 := ht; clear ht; simp only [Act.put, List.setIfInBounds_toArray, List.set_cons_zero, List.set_cons_succ]) | (have _ := d10; refine wpList_allocBk (t := 64) rfl _ (run_alloc_Rc _ _ rfl) ?_; intro b_d11 wn hle hge ht hbn hzn; have hsz := B.size; replace B := B.trans (hbn.mono (by omega)); have hln := Nat.lt_of_lt_of_eq (Nat.lt_succ_self _) hzn.symm; clear hzn; (try first | (have hlt := q1.lt; replace q1 := q1.of_eq (hbn.block _ (by omega))) | replace q1 := q1.below (hbn.mono hle)); (try first | (have hlt := c4.lt; replace c4 := c4.of_eq (hbn.block _ (by omega))) | replace c4 := c4.below (hbn.mono hle)); (try first | (have hlt := c5.lt; replace c5 := c5.of_eq (hbn.block _ (by omega))) | replace c5 := c5.below (hbn.mono hle)); (try first | (have hlt := r8.lt; replace r8 := r8.of_eq (hbn.block _ (by omega))) | replace r8 := r8.below (hbn.mono hle)); (try first | (have hlt := r9.lt; replace r9 := r9.of_eq (hbn.block _ (by omega))) | replace r9 := r9.below (hbn.mono hle)); (try first | (have hlt := d10.lt; replace d10 := d10.of_eq (hbn.block _ (by omega))) | replace d10 := d10.below (hbn.mono hle)); (try first | (have hlt := d11.lt; replace d11 := d11.of_eq (hbn.block _ (by omega))) | replace d11 := d11.below (hbn.mono hle)); (try first | (have hlt := r12.lt; replace r12 := r12.of_eq (hbn.block _ (by omega))) | replace r12 := r12.below (hbn.mono hle)); (try first | (have hlt := r13.lt; replace r13 := r13.of_eq (hbn.block _ (by omega))) | replace r13 := r13.below (hbn.mono hle)); (try first | (have hlt := rs1.lt; replace rs1 := rs1.of_eq (hbn.block _ (by omega))) | replace rs1 := rs1.below (hbn.mono hle)); (try first | (have hlt := rs2.lt; replace rs2 := rs2.of_eq (hbn.block _ (by omega))) | replace rs2 := rs2.below (hbn.mono hle)); (try first | (have hlt := rs3.lt; replace rs3 := rs3.of_eq (hbn.block _ (by omega))) | replace rs3 := rs3.below (hbn.mono hle)); (try first | (have hlt := rs4.lt; replace rs4 := rs4.of_eq (hbn.block _ (by omega))) | replace rs4 := rs4.below (hbn.mono hle)); have d11 := ht; clear ht; simp only [Act.put, List.setIfInBounds_toArray, List.set_cons_zero, List.set_cons_succ]) | (refine wpList_storeB (t := 64) rfl _ _ rfl _ rfl _ rfl d10 (by kernel_rfl) rfl (by simp [rcA, Value.oneCell']) ?_; have d10o := d10; clear d10; intro wn ht hcn hzn; (try replace rs1 := rs1.chg d10o (by simp [rcA]) hcn); (try replace rs2 := rs2.chg d10o (by simp [rcA]) hcn); (try replace rs3 := rs3.chg d10o (by simp [rcA]) hcn); (try replace rs4 := rs4.chg d10o (by simp [rcA]) hcn); have hsz := B.size; replace hzn := Nat.le_of_eq hzn.symm; replace B := Chg.below B hcn (by omega) B.size; (try replace q1 := q1.of_eq (hcn.block _ q1.lt (by omega))); (try replace c4 := c4.of_eq (hcn.block _ c4.lt (by omega))); (try replace c5 := c5.of_eq (hcn.block _ c5.lt (by omega))); (try replace r8 := r8.of_eq (hcn.block _ r8.lt (by omega))); (try replace r9 := r9.of_eq (hcn.block _ r9.lt (by omega))); (try replace d11 := d11.of_eq (hcn.block _ d11.lt (by omega))); (try replace r12 := r12.of_eq (hcn.block _ r12.lt (by omega))); (try replace r13 := r13.of_eq (hcn.block _ r13.lt (by omega))); (try replace rs1 := rs1.of_eq (hcn.block _ rs1.lt (by omega))); (try replace rs2 := rs2.of_eq (hcn.block _ rs2.lt (by omega))); (try replace rs3 := rs3.of_eq (hcn.block _ rs3.lt (by omega))); (try replace rs4 := rs4.of_eq (hcn.block _ rs4.lt (by omega))); have d10 := ht; clear ht; simp only [Act.put, List.setIfInBounds_toArray, List.set_cons_zero, List.set_cons_succ]) | (have _ := r9; refine wpList_allocBk (t := 64) rfl _ (run_alloc_Rc _ _ rfl) ?_; intro b_d10 wn hle hge ht hbn hzn; have hsz := B.size; replace B := B.trans (hbn.mono (by omega)); have hln := Nat.lt_of_lt_of_eq (Nat.lt_succ_self _) hzn.symm; clear hzn; (try first | (have hlt := q1.lt; replace q1 := q1.of_eq (hbn.block _ (by omega))) | replace q1 := q1.below (hbn.mono hle)); (try first | (have hlt := c4.lt; replace c4 := c4.of_eq (hbn.block _ (by omega))) | replace c4 := c4.below (hbn.mono hle)); (try first | (have hlt := c5.lt; replace c5 := c5.of_eq (hbn.block _ (by omega))) | replace c5 := c5.below (hbn.mono hle)); (try first | (have hlt := r8.lt; replace r8 := r8.of_eq (hbn.block _ (by omega))) | replace r8 := r8.below (hbn.mono hle)); (try first | (have hlt := r9.lt; replace r9 := r9.of_eq (hbn.block _ (by omega))) | replace r9 := r9.below (hbn.mono hle)); (try first | (have hlt := d10.lt; replace d10 := d10.of_eq (hbn.block _ (by omega))) | replace d10 := d10.below (hbn.mono hle)); (try first | (have hlt := d11.lt; replace d11 := d11.of_eq (hbn.block _ (by omega))) | replace d11 := d11.below (hbn.mono hle)); (try first | (have hlt := r12.lt; replace r12 := r12.of_eq (hbn.block _ (by omega))) | replace r12 := r12.below (hbn.mono hle)); (try first | (have hlt := r13.lt; replace r13 := r13.of_eq (hbn.block _ (by omega))) | replace r13 := r13.below (hbn.mono hle)); (try first | (have hlt := rs1.lt; replace rs1 := rs1.of_eq (hbn.block _ (by omega))) | replace rs1 := rs1.below (hbn.mono hle)); (try first | (have hlt := rs2.lt; replace rs2 := rs2.of_eq (hbn.block _ (by omega))) | replace rs2 := rs2.below (hbn.mono hle)); (try first | (have hlt := rs3.lt; replace rs3 := rs3.of_eq (hbn.block _ (by omega))) | replace rs3 := rs3.below (hbn.mono hle)); (try first | (have hlt := rs4.lt; replace rs4 := rs4.of_eq (hbn.block _ (by omega))) | replace rs4 := rs4.below (hbn.mono hle)); have d10 := ht; clear ht; simp only [Act.put, List.setIfInBounds_toArray, List.set_cons_zero, List.set_cons_succ]) | (go_at_call 32; refine (R_Near _ _).mono ?_; rintro e wn ⟨rfl, hbn⟩; have hsz := B.size; have hzn := hbn.size; replace B := B.trans (hbn.mono B.size); (try first | replace q1 := q1.of_eq (hbn.block _ q1.lt) | replace q1 := q1.below hbn); (try first | replace c4 := c4.of_eq (hbn.block _ c4.lt) | replace c4 := c4.below hbn); (try first | replace c5 := c5.of_eq (hbn.block _ c5.lt) | replace c5 := c5.below hbn); (try first | replace r8 := r8.of_eq (hbn.block _ r8.lt) | replace r8 := r8.below hbn); (try first | replace r9 := r9.of_eq (hbn.block _ r9.lt) | replace r9 := r9.below hbn); (try first | replace d10 := d10.of_eq (hbn.block _ d10.lt) | replace d10 := d10.below hbn); (try first | replace d11 := d11.of_eq (hbn.block _ d11.lt) | replace d11 := d11.below hbn); (try first | replace r12 := r12.of_eq (hbn.block _ r12.lt) | replace r12 := r12.below hbn); (try first | replace r13 := r13.of_eq (hbn.block _ r13.lt) | replace r13 := r13.below hbn); (try first | replace rs1 := rs1.of_eq (hbn.block _ rs1.lt) | replace rs1 := rs1.below hbn); (try first | replace rs2 := rs2.of_eq (hbn.block _ rs2.lt) | replace rs2 := rs2.below hbn); (try first | replace rs3 := rs3.of_eq (hbn.block _ rs3.lt) | replace rs3 := rs3.below hbn); (try first | replace rs4 := rs4.of_eq (hbn.block _ rs4.lt) | replace rs4 := rs4.below hbn)) | (refine wpList_storeB (t := 30) rfl _ _ rfl _ rfl _ rfl r9 (by kernel_rfl) rfl (by simp [Value.oneCell']) ?_; have r9o := r9; clear r9; intro wn ht hcn hzn; (try replace rs1 := rs1.chg r9o (by simp [rcA]) hcn); (try replace rs2 := rs2.chg r9o (by simp [rcA]) hcn); (try replace rs3 := rs3.chg r9o (by simp [rcA]) hcn); (try replace rs4 := rs4.chg r9o (by simp [rcA]) hcn); have hsz := B.size; replace hzn := Nat.le_of_eq hzn.symm; replace B := Chg.below B hcn (by omega) B.size; (try replace q1 := q1.of_eq (hcn.block _ q1.lt (by omega))); (try replace c4 := c4.of_eq (hcn.block _ c4.lt (by omega))); (try replace c5 := c5.of_eq (hcn.block _ c5.lt (by omega))); (try replace r8 := r8.of_eq (hcn.block _ r8.lt (by omega))); (try replace d10 := d10.of_eq (hcn.block _ d10.lt (by omega))); (try replace d11 := d11.of_eq (hcn.block _ d11.lt (by omega))); (try replace r12 := r12.of_eq (hcn.block _ r12.lt (by omega))); (try replace r13 := r13.of_eq (hcn.block _ r13.lt (by omega))); (try replace rs1 := rs1.of_eq (hcn.block _ rs1.lt (by omega))); (try replace rs2 := rs2.of_eq (hcn.block _ rs2.lt (by omega))); (try replace rs3 := rs3.of_eq (hcn.block _ rs3.lt (by omega))); (try replace rs4 := rs4.of_eq (hcn.block _ rs4.lt (by omega))); have r9 := ht; clear ht; simp only [Act.put, List.setIfInBounds_toArray, List.set_cons_zero, List.set_cons_succ]) | (have _ := rs2; refine wpList_allocBk (t := 30) rfl _ (run_alloc_R _ _ rfl) ?_; intro b_r9 wn hle hge ht hbn hzn; have hsz := B.size; replace B := B.trans (hbn.mono (by omega)); have hln := Nat.lt_of_lt_of_eq (Nat.lt_succ_self _) hzn.symm; clear hzn; (try first | (have hlt := q1.lt; replace q1 := q1.of_eq (hbn.block _ (by omega))) | replace q1 := q1.below (hbn.mono hle)); (try first | (have hlt := c4.lt; replace c4 := c4.of_eq (hbn.block _ (by omega))) | replace c4 := c4.below (hbn.mono hle)); (try first | (have hlt := c5.lt; replace c5 := c5.of_eq (hbn.block _ (by omega))) | replace c5 := c5.below (hbn.mono hle)); (try first | (have hlt := r8.lt; replace r8 := r8.of_eq (hbn.block _ (by omega))) | replace r8 := r8.below (hbn.mono hle)); (try first | (have hlt := r9.lt; replace r9 := r9.of_eq (hbn.block _ (by omega))) | replace r9 := r9.below (hbn.mono hle)); (try first | (have hlt := d10.lt; replace d10 := d10.of_eq (hbn.block _ (by omega))) | replace d10 := d10.below (hbn.mono hle)); (try first | (have hlt := d11.lt; replace d11 := d11.of_eq (hbn.block _ (by omega))) | replace d11 := d11.below (hbn.mono hle)); (try first | (have hlt := r12.lt; replace r12 := r12.of_eq (hbn.block _ (by omega))) | replace r12 := r12.below (hbn.mono hle)); (try first | (have hlt := r13.lt; replace r13 := r13.of_eq (hbn.block _ (by omega))) | replace r13 := r13.below (hbn.mono hle)); (try first | (have hlt := rs1.lt; replace rs1 := rs1.of_eq (hbn.block _ (by omega))) | replace rs1 := rs1.below (hbn.mono hle)); (try first | (have hlt := rs2.lt; replace rs2 := rs2.of_eq (hbn.block _ (by omega))) | replace rs2 := rs2.below (hbn.mono hle)); (try first | (have hlt := rs3.lt; replace rs3 := rs3.of_eq (hbn.block _ (by omega))) | replace rs3 := rs3.below (hbn.mono hle)); (try first | (have hlt := rs4.lt; replace rs4 := rs4.of_eq (hbn.block _ (by omega))) | replace rs4 := rs4.below (hbn.mono hle)); have r9 := ht; clear ht; simp only [Act.put, List.setIfInBounds_toArray, List.set_cons_zero, List.set_cons_succ]) | (go_at_call 18; refine (R_Made8O _ L _ (HL.out.below B) hLn).mono ?_; rintro e wn ⟨a2, c2, rfl, rs2, hbn⟩; have hsz := B.size; have hzn := hbn.size; replace B := B.trans (hbn.mono B.size); (try first | replace q1 := q1.of_eq (hbn.block _ q1.lt) | replace q1 := q1.below hbn); (try first | replace c4 := c4.of_eq (hbn.block _ c4.lt) | replace c4 := c4.below hbn); (try first | replace c5 := c5.of_eq (hbn.block _ c5.lt) | replace c5 := c5.below hbn); (try first | replace r8 := r8.of_eq (hbn.block _ r8.lt) | replace r8 := r8.below hbn); (try first | replace r9 := r9.of_eq (hbn.block _ r9.lt) | replace r9 := r9.below hbn); (try first | replace d10 := d10.of_eq (hbn.block _ d10.lt) | replace d10 := d10.below hbn); (try first | replace d11 := d11.of_eq (hbn.block _ d11.lt) | replace d11 := d11.below hbn); (try first | replace r12 := r12.of_eq (hbn.block _ r12.lt) | replace r12 := r12.below hbn); (try first | replace r13 := r13.of_eq (hbn.block _ r13.lt) | replace r13 := r13.below hbn); (try first | replace rs1 := rs1.of_eq (hbn.block _ rs1.lt) | replace rs1 := rs1.below hbn); (try first | replace rs2 := rs2.of_eq (hbn.block _ rs2.lt) | replace rs2 := rs2.below hbn); (try first | replace rs3 := rs3.of_eq (hbn.block _ rs3.lt) | replace rs3 := rs3.below hbn); (try first | replace rs4 := rs4.of_eq (hbn.block _ rs4.lt) | replace rs4 := rs4.below hbn)) | (refine wpList_storeB (t := 30) rfl _ _ rfl _ rfl _ rfl r8 (by kernel_rfl) rfl (by simp [Value.oneCell']) ?_; have r8o := r8; clear r8; intro wn ht hcn hzn; (try replace rs1 := rs1.chg r8o (by simp [rcA]) hcn); (try replace rs2 := rs2.chg r8o (by simp [rcA]) hcn); (try replace rs3 := rs3.chg r8o (by simp [rcA]) hcn); (try replace rs4 := rs4.chg r8o (by simp [rcA]) hcn); have hsz := B.size; replace hzn := Nat.le_of_eq hzn.symm; replace B := Chg.below B hcn (by omega) B.size; (try replace q1 := q1.of_eq (hcn.block _ q1.lt (by omega))); (try replace c4 := c4.of_eq (hcn.block _ c4.lt (by omega))); (try replace c5 := c5.of_eq (hcn.block _ c5.lt (by omega))); (try replace r9 := r9.of_eq (hcn.block _ r9.lt (by omega))); (try replace d10 := d10.of_eq (hcn.block _ d10.lt (by omega))); (try replace d11 := d11.of_eq (hcn.block _ d11.lt (by omega))); (try replace r12 := r12.of_eq (hcn.block _ r12.lt (by omega))); (try replace r13 := r13.of_eq (hcn.block _ r13.lt (by omega))); (try replace rs1 := rs1.of_eq (hcn.block _ rs1.lt (by omega))); (try replace rs2 := rs2.of_eq (hcn.block _ rs2.lt (by omega))); (try replace rs3 := rs3.of_eq (hcn.block _ rs3.lt (by omega))); (try replace rs4 := rs4.of_eq (hcn.block _ rs4.lt (by omega))); have r8 := ht; clear ht; simp only [Act.put, List.setIfInBounds_toArray, List.set_cons_zero, List.set_cons_succ]) | (have _ := rs1; refine wpList_allocBk (t := 30) rfl _ (run_alloc_R _ _ rfl) ?_; intro b_r8 wn hle hge ht hbn hzn; have hsz := B.size; replace B := B.trans (hbn.mono (by omega)); have hln := Nat.lt_of_lt_of_eq (Nat.lt_succ_self _) hzn.symm; clear hzn; (try first | (have hlt := q1.lt; replace q1 := q1.of_eq (hbn.block _ (by omega))) | replace q1 := q1.below (hbn.mono hle)); (try first | (have hlt := c4.lt; replace c4 := c4.of_eq (hbn.block _ (by omega))) | replace c4 := c4.below (hbn.mono hle)); (try first | (have hlt := c5.lt; replace c5 := c5.of_eq (hbn.block _ (by omega))) | replace c5 := c5.below (hbn.mono hle)); (try first | (have hlt := r8.lt; replace r8 := r8.of_eq (hbn.block _ (by omega))) | replace r8 := r8.below (hbn.mono hle)); (try first | (have hlt := r9.lt; replace r9 := r9.of_eq (hbn.block _ (by omega))) | replace r9 := r9.below (hbn.mono hle)); (try first | (have hlt := d10.lt; replace d10 := d10.of_eq (hbn.block _ (by omega))) | replace d10 := d10.below (hbn.mono hle)); (try first | (have hlt := d11.lt; replace d11 := d11.of_eq (hbn.block _ (by omega))) | replace d11 := d11.below (hbn.mono hle)); (try first | (have hlt := r12.lt; replace r12 := r12.of_eq (hbn.block _ (by omega))) | replace r12 := r12.below (hbn.mono hle)); (try first | (have hlt := r13.lt; replace r13 := r13.of_eq (hbn.block _ (by omega))) | replace r13 := r13.below (hbn.mono hle)); (try first | (have hlt := rs1.lt; replace rs1 := rs1.of_eq (hbn.block _ (by omega))) | replace rs1 := rs1.below (hbn.mono hle)); (try first | (have hlt := rs2.lt; replace rs2 := rs2.of_eq (hbn.block _ (by omega))) | replace rs2 := rs2.below (hbn.mono hle)); (try first | (have hlt := rs3.lt; replace rs3 := rs3.of_eq (hbn.block _ (by omega))) | replace rs3 := rs3.below (hbn.mono hle)); (try first | (have hlt := rs4.lt; replace rs4 := rs4.of_eq (hbn.block _ (by omega))) | replace rs4 := rs4.below (hbn.mono hle)); have r8 := ht; clear ht; simp only [Act.put, List.setIfInBounds_toArray, List.set_cons_zero, List.set_cons_succ]) | (go_at_call 15; refine (L_ofO q _ _ L T _ (HL.out.below B) hLn (HT.out.below B) hTn).mono ?_; rintro e wn ⟨a1, c1, rfl, rs1, hbn⟩; have hsz := B.size; have hzn := hbn.size; replace B := B.trans (hbn.mono B.size); (try first | replace q1 := q1.of_eq (hbn.block _ q1.lt) | replace q1 := q1.below hbn); (try first | replace c4 := c4.of_eq (hbn.block _ c4.lt) | replace c4 := c4.below hbn); (try first | replace c5 := c5.of_eq (hbn.block _ c5.lt) | replace c5 := c5.below hbn); (try first | replace r8 := r8.of_eq (hbn.block _ r8.lt) | replace r8 := r8.below hbn); (try first | replace r9 := r9.of_eq (hbn.block _ r9.lt) | replace r9 := r9.below hbn); (try first | replace d10 := d10.of_eq (hbn.block _ d10.lt) | replace d10 := d10.below hbn); (try first | replace d11 := d11.of_eq (hbn.block _ d11.lt) | replace d11 := d11.below hbn); (try first | replace r12 := r12.of_eq (hbn.block _ r12.lt) | replace r12 := r12.below hbn); (try first | replace r13 := r13.of_eq (hbn.block _ r13.lt) | replace r13 := r13.below hbn); (try first | replace rs1 := rs1.of_eq (hbn.block _ rs1.lt) | replace rs1 := rs1.below hbn); (try first | replace rs2 := rs2.of_eq (hbn.block _ rs2.lt) | replace rs2 := rs2.below hbn); (try first | replace rs3 := rs3.of_eq (hbn.block _ rs3.lt) | replace rs3 := rs3.below hbn); (try first | replace rs4 := rs4.of_eq (hbn.block _ rs4.lt) | replace rs4 := rs4.below hbn)) | (refine wpList_loadAny (t := 22) rfl _ rfl _ _ _ rfl (run_load_sli (q1.cell 0 rfl)) (by rfl) ?_; simp only [Act.put, List.setIfInBounds_toArray, List.set_cons_zero, List.set_cons_succ]) | (refine wpList_loadAny (t := 26) rfl _ rfl _ _ _ rfl (run_load_B q1 Try.isAgg26 (by kernel_rfl)) (by rfl) ?_; simp only [Act.put, List.setIfInBounds_toArray, List.set_cons_zero, List.set_cons_succ]) | (refine wpList_loadAny (t := 64) rfl _ rfl _ _ _ rfl (run_load_B c4 Try.isAgg64 (by kernel_rfl)) (by rfl) ?_; simp only [Act.put, List.setIfInBounds_toArray, List.set_cons_zero, List.set_cons_succ]) | (refine wpList_loadAny (t := 64) rfl _ rfl _ _ _ rfl (run_load_B c5 Try.isAgg64 (by kernel_rfl)) (by rfl) ?_; simp only [Act.put, List.setIfInBounds_toArray, List.set_cons_zero, List.set_cons_succ]) | (go_at_call 14; refine (sanity08 _).mono ?_; rintro e wn ⟨rfl, hbn⟩; have hsz := B.size; have hzn := hbn.size; replace B := B.trans (hbn.mono B.size); (try first | replace q1 := q1.of_eq (hbn.block _ q1.lt) | replace q1 := q1.below hbn); (try first | replace c4 := c4.of_eq (hbn.block _ c4.lt) | replace c4 := c4.below hbn); (try first | replace c5 := c5.of_eq (hbn.block _ c5.lt) | replace c5 := c5.below hbn)) | (have _ := c4; refine wpList_boxB (t := 64) rfl _ rfl _ rfl ?_; intro b_c5 wn hle hge ht hbn hzn; have hsz := B.size; replace B := B.trans (hbn.mono (by omega)); have hln := Nat.lt_of_lt_of_eq (Nat.lt_succ_self _) hzn.symm; clear hzn; (try first | (have hlt := q1.lt; replace q1 := q1.of_eq (hbn.block _ (by omega))) | replace q1 := q1.below (hbn.mono hle)); (try first | (have hlt := c4.lt; replace c4 := c4.of_eq (hbn.block _ (by omega))) | replace c4 := c4.below (hbn.mono hle)); (try first | (have hlt := c5.lt; replace c5 := c5.of_eq (hbn.block _ (by omega))) | replace c5 := c5.below (hbn.mono hle)); (try first | (have hlt := r8.lt; replace r8 := r8.of_eq (hbn.block _ (by omega))) | replace r8 := r8.below (hbn.mono hle)); (try first | (have hlt := r9.lt; replace r9 := r9.of_eq (hbn.block _ (by omega))) | replace r9 := r9.below (hbn.mono hle)); (try first | (have hlt := d10.lt; replace d10 := d10.of_eq (hbn.block _ (by omega))) | replace d10 := d10.below (hbn.mono hle)); (try first | (have hlt := d11.lt; replace d11 := d11.of_eq (hbn.block _ (by omega))) | replace d11 := d11.below (hbn.mono hle)); (try first | (have hlt := r12.lt; replace r12 := r12.of_eq (hbn.block _ (by omega))) | replace r12 := r12.below (hbn.mono hle)); (try first | (have hlt := r13.lt; replace r13 := r13.of_eq (hbn.block _ (by omega))) | replace r13 := r13.below (hbn.mono hle)); (try first | (have hlt := rs1.lt; replace rs1 := rs1.of_eq (hbn.block _ (by omega))) | replace rs1 := rs1.below (hbn.mono hle)); (try first | (have hlt := rs2.lt; replace rs2 := rs2.of_eq (hbn.block _ (by omega))) | replace rs2 := rs2.below (hbn.mono hle)); (try first | (have hlt := rs3.lt; replace rs3 := rs3.of_eq (hbn.block _ (by omega))) | replace rs3 := rs3.below (hbn.mono hle)); (try first | (have hlt := rs4.lt; replace rs4 := rs4.of_eq (hbn.block _ (by omega))) | replace rs4 := rs4.below (hbn.mono hle)); have c5 := ht; clear ht; simp only [Act.put, List.setIfInBounds_toArray, List.set_cons_zero, List.set_cons_succ]) | (have _ := q1; refine wpList_boxB (t := 64) rfl _ rfl _ rfl ?_; intro b_c4 wn hle hge ht hbn hzn; have hsz := B.size; replace B := B.trans (hbn.mono (by omega)); have hln := Nat.lt_of_lt_of_eq (Nat.lt_succ_self _) hzn.symm; clear hzn; (try first | (have hlt := q1.lt; replace q1 := q1.of_eq (hbn.block _ (by omega))) | replace q1 := q1.below (hbn.mono hle)); (try first | (have hlt := c4.lt; replace c4 := c4.of_eq (hbn.block _ (by omega))) | replace c4 := c4.below (hbn.mono hle)); (try first | (have hlt := c5.lt; replace c5 := c5.of_eq (hbn.block _ (by omega))) | replace c5 := c5.below (hbn.mono hle)); (try first | (have hlt := r8.lt; replace r8 := r8.of_eq (hbn.block _ (by omega))) | replace r8 := r8.below (hbn.mono hle)); (try first | (have hlt := r9.lt; replace r9 := r9.of_eq (hbn.block _ (by omega))) | replace r9 := r9.below (hbn.mono hle)); (try first | (have hlt := d10.lt; replace d10 := d10.of_eq (hbn.block _ (by omega))) | replace d10 := d10.below (hbn.mono hle)); (try first | (have hlt := d11.lt; replace d11 := d11.of_eq (hbn.block _ (by omega))) | replace d11 := d11.below (hbn.mono hle)); (try first | (have hlt := r12.lt; replace r12 := r12.of_eq (hbn.block _ (by omega))) | replace r12 := r12.below (hbn.mono hle)); (try first | (have hlt := r13.lt; replace r13 := r13.of_eq (hbn.block _ (by omega))) | replace r13 := r13.below (hbn.mono hle)); (try first | (have hlt := rs1.lt; replace rs1 := rs1.of_eq (hbn.block _ (by omega))) | replace rs1 := rs1.below (hbn.mono hle)); (try first | (have hlt := rs2.lt; replace rs2 := rs2.of_eq (hbn.block _ (by omega))) | replace rs2 := rs2.below (hbn.mono hle)); (try first | (have hlt := rs3.lt; replace rs3 := rs3.of_eq (hbn.block _ (by omega))) | replace rs3 := rs3.below (hbn.mono hle)); (try first | (have hlt := rs4.lt; replace rs4 := rs4.of_eq (hbn.block _ (by omega))) | replace rs4 := rs4.below (hbn.mono hle)); have c4 := ht; clear ht; simp only [Act.put, List.setIfInBounds_toArray, List.set_cons_zero, List.set_cons_succ]) | (refine wpList_boxB (t := 26) rfl _ rfl _ rfl ?_; intro b_q1 wn hle hge ht hbn hzn; have hsz := B.size; replace B := B.trans (hbn.mono (by omega)); have hln := Nat.lt_of_lt_of_eq (Nat.lt_succ_self _) hzn.symm; clear hzn; (try first | (have hlt := q1.lt; replace q1 := q1.of_eq (hbn.block _ (by omega))) | replace q1 := q1.below (hbn.mono hle)); (try first | (have hlt := c4.lt; replace c4 := c4.of_eq (hbn.block _ (by omega))) | replace c4 := c4.below (hbn.mono hle)); (try first | (have hlt := c5.lt; replace c5 := c5.of_eq (hbn.block _ (by omega))) | replace c5 := c5.below (hbn.mono hle)); (try first | (have hlt := r8.lt; replace r8 := r8.of_eq (hbn.block _ (by omega))) | replace r8 := r8.below (hbn.mono hle)); (try first | (have hlt := r9.lt; replace r9 := r9.of_eq (hbn.block _ (by omega))) | replace r9 := r9.below (hbn.mono hle)); (try first | (have hlt := d10.lt; replace d10 := d10.of_eq (hbn.block _ (by omega))) | replace d10 := d10.below (hbn.mono hle)); (try first | (have hlt := d11.lt; replace d11 := d11.of_eq (hbn.block _ (by omega))) | replace d11 := d11.below (hbn.mono hle)); (try first | (have hlt := r12.lt; replace r12 := r12.of_eq (hbn.block _ (by omega))) | replace r12 := r12.below (hbn.mono hle)); (try first | (have hlt := r13.lt; replace r13 := r13.of_eq (hbn.block _ (by omega))) | replace r13 := r13.below (hbn.mono hle)); (try first | (have hlt := rs1.lt; replace rs1 := rs1.of_eq (hbn.block _ (by omega))) | replace rs1 := rs1.below (hbn.mono hle)); (try first | (have hlt := rs2.lt; replace rs2 := rs2.of_eq (hbn.block _ (by omega))) | replace rs2 := rs2.below (hbn.mono hle)); (try first | (have hlt := rs3.lt; replace rs3 := rs3.of_eq (hbn.block _ (by omega))) | replace rs3 := rs3.below (hbn.mono hle)); (try first | (have hlt := rs4.lt; replace rs4 := rs4.of_eq (hbn.block _ (by omega))) | replace rs4 := rs4.below (hbn.mono hle)); have q1 := ht; clear ht; simp only [Act.put, List.setIfInBounds_toArray, List.set_cons_zero, List.set_cons_succ]) | fail)
  try have lx_q1 := q1.lt
  try have lx_c4 := c4.lt
  try have lx_c5 := c5.lt
  try have lx_r8 := r8.lt
  try have lx_r9 := r9.lt
  try have lx_d10 := d10.lt
  try have lx_d11 := d11.lt
  try have lx_r12 := r12.lt
  try have lx_r13 := r13.lt
  try have lx_rs1 := rs1.lt
  try have lx_rs2 := rs2.lt
  try have lx_rs3 := rs3.lt
  try have lx_rs4 := rs4.lt
  refine wp_region_RL 6 [(2, rasS (cropL (nearR a) (madeL L))), (4, rasS (cropL (interR (nearR a) (nearR b)) (madeL L))), (5, ptrS (wn.heap.size) 30 #[.slice none 0 0])] (by kernel_rfl) (by kernel_rfl) (by kernel_rfl) ?_
  rotate_left 0
  simp only [List.take_succ_cons, List.take_zero, List.drop_succ_cons, List.drop_zero, Nat.reduceAdd]
  refine wpRL_chunk 2 (by kernel_rfl) ?_
  simp only [List.take_succ_cons, List.take_zero, List.drop_succ_cons, List.drop_zero, Nat.reduceAdd]
  repeat (first | go_big_quiet_skip | (go_big_quiet_want; first | (refine quiet_loadAny (t := 30) rfl _ _ _ rfl (fun w hw => run_load_B (ov_B r8 w hw) Try.isAgg30 (by kernel_rfl)) (by rfl) ?_; simp only [Act.put, List.setIfInBounds_toArray, List.set_cons_zero, List.set_cons_succ]; go_big_quiet_on) | (refine quiet_loadAny (t := 30) rfl _ _ _ rfl (fun w hw => run_load_B (ov_B r9 w hw) Try.isAgg30 (by kernel_rfl)) (by rfl) ?_; simp only [Act.put, List.setIfInBounds_toArray, List.set_cons_zero, List.set_cons_succ]; go_big_quiet_on) | (refine quiet_loadAny (t := 30) rfl _ _ _ rfl (fun w hw => run_load_B (ov_B r12 w hw) Try.isAgg30 (by kernel_rfl)) (by rfl) ?_; simp only [Act.put, List.setIfInBounds_toArray, List.set_cons_zero, List.set_cons_succ]; go_big_quiet_on) | (refine quiet_loadAny (t := 30) rfl _ _ _ rfl (fun w hw => run_load_B (ov_B r13 w hw) Try.isAgg30 (by kernel_rfl)) (by rfl) ?_; simp only [Act.put, List.setIfInBounds_toArray, List.set_cons_zero, List.set_cons_succ]; go_big_quiet_on) | (refine quiet_loadAny (t := 64) rfl _ _ _ rfl (fun w hw => run_load_B (ov_B c4 w hw) Try.isAgg64 (by kernel_rfl)) (by rfl) ?_; simp only [Act.put, List.setIfInBounds_toArray, List.set_cons_zero, List.set_cons_succ]; go_big_quiet_on) | (refine quiet_loadAny (t := 64) rfl _ _ _ rfl (fun w hw => run_load_B (ov_B c5 w hw) Try.isAgg64 (by kernel_rfl)) (by rfl) ?_; simp only [Act.put, List.setIfInBounds_toArray, List.set_cons_zero, List.set_cons_succ]; go_big_quiet_on) | (refine quiet_loadAny (t := 64) rfl _ _ _ rfl (fun w hw => run_load_B (ov_B d10 w hw) Try.isAgg64 (by kernel_rfl)) (by rfl) ?_; simp only [Act.put, List.setIfInBounds_toArray, List.set_cons_zero, List.set_cons_succ]; go_big_quiet_on) | (refine quiet_loadAny (t := 64) rfl _ _ _ rfl (fun w hw => run_load_B (ov_B d11 w hw) Try.isAgg64 (by kernel_rfl)) (by rfl) ?_; simp only [Act.put, List.setIfInBounds_toArray, List.set_cons_zero, List.set_cons_succ]; go_big_quiet_on) | (go_big_quiet_op; go_big_quiet_on)))
  refine wpQuiet_nil ?_
  refine wpRL_callB (by rfl) (by first | rfl | simp [Region.wanted, yielded]) ?_ ?_
  · intro wn hbn hE Kx hKx
    have hsz := B.size
    have hzn := hbn.size
    replace B := B.trans (hbn.mono B.size)
    (try first | replace q1 := q1.of_eq (hbn.block _ q1.lt) | replace q1 := q1.below hbn)
    (try first | replace c4 := c4.of_eq (hbn.block _ c4.lt) | replace c4 := c4.below hbn)
    (try first | replace c5 := c5.of_eq (hbn.block _ c5.lt) | replace c5 := c5.below hbn)
    (try first | replace r8 := r8.of_eq (hbn.block _ r8.lt) | replace r8 := r8.below hbn)
    (try first | replace r9 := r9.of_eq (hbn.block _ r9.lt) | replace r9 := r9.below hbn)
    (try first | replace d10 := d10.of_eq (hbn.block _ d10.lt) | replace d10 := d10.below hbn)
    (try first | replace d11 := d11.of_eq (hbn.block _ d11.lt) | replace d11 := d11.below hbn)
    (try first | replace r12 := r12.of_eq (hbn.block _ r12.lt) | replace r12 := r12.below hbn)
    (try first | replace r13 := r13.of_eq (hbn.block _ r13.lt) | replace r13 := r13.below hbn)
    (try first | replace rs1 := rs1.of_eq (hbn.block _ rs1.lt) | replace rs1 := rs1.below hbn)
    (try first | replace rs2 := rs2.of_eq (hbn.block _ rs2.lt) | replace rs2 := rs2.below hbn)
    (try first | replace rs3 := rs3.of_eq (hbn.block _ rs3.lt) | replace rs3 := rs3.below hbn)
    (try first | replace rs4 := rs4.of_eq (hbn.block _ rs4.lt) | replace rs4 := rs4.below hbn)
    go_simp
    go_at_call 40
    refine (P_CropV _ (madeL L) _ (nearR a) wn rs2 (madeL_tok L) HM.out (madeL_valid L) rfl).mono ?_
    rintro e wm ⟨v', rfl, hr, hbm⟩
    obtain ⟨a', c', rfl, _⟩ := hr.len
    exact hKx (a', c') wm hr hbm
  rintro ⟨a26, c26⟩
  dsimp only [detS, rasS]
  simp only [Act.put, List.setIfInBounds_toArray, List.set_cons_zero, List.set_cons_succ]
  refine wpRL_chunk 1 (by kernel_rfl) ?_
  simp only [List.take_succ_cons, List.take_zero, List.drop_succ_cons, List.drop_zero, Nat.reduceAdd]
  repeat (first | go_big_quiet_skip | (go_big_quiet_want; first | (refine quiet_loadAny (t := 30) rfl _ _ _ rfl (fun w hw => run_load_B (ov_B r8 w hw) Try.isAgg30 (by kernel_rfl)) (by rfl) ?_; simp only [Act.put, List.setIfInBounds_toArray, List.set_cons_zero, List.set_cons_succ]; go_big_quiet_on) | (refine quiet_loadAny (t := 30) rfl _ _ _ rfl (fun w hw => run_load_B (ov_B r9 w hw) Try.isAgg30 (by kernel_rfl)) (by rfl) ?_; simp only [Act.put, List.setIfInBounds_toArray, List.set_cons_zero, List.set_cons_succ]; go_big_quiet_on) | (refine quiet_loadAny (t := 30) rfl _ _ _ rfl (fun w hw => run_load_B (ov_B r12 w hw) Try.isAgg30 (by kernel_rfl)) (by rfl) ?_; simp only [Act.put, List.setIfInBounds_toArray, List.set_cons_zero, List.set_cons_succ]; go_big_quiet_on) | (refine quiet_loadAny (t := 30) rfl _ _ _ rfl (fun w hw => run_load_B (ov_B r13 w hw) Try.isAgg30 (by kernel_rfl)) (by rfl) ?_; simp only [Act.put, List.setIfInBounds_toArray, List.set_cons_zero, List.set_cons_succ]; go_big_quiet_on) | (refine quiet_loadAny (t := 64) rfl _ _ _ rfl (fun w hw => run_load_B (ov_B c4 w hw) Try.isAgg64 (by kernel_rfl)) (by rfl) ?_; simp only [Act.put, List.setIfInBounds_toArray, List.set_cons_zero, List.set_cons_succ]; go_big_quiet_on) | (refine quiet_loadAny (t := 64) rfl _ _ _ rfl (fun w hw => run_load_B (ov_B c5 w hw) Try.isAgg64 (by kernel_rfl)) (by rfl) ?_; simp only [Act.put, List.setIfInBounds_toArray, List.set_cons_zero, List.set_cons_succ]; go_big_quiet_on) | (refine quiet_loadAny (t := 64) rfl _ _ _ rfl (fun w hw => run_load_B (ov_B d10 w hw) Try.isAgg64 (by kernel_rfl)) (by rfl) ?_; simp only [Act.put, List.setIfInBounds_toArray, List.set_cons_zero, List.set_cons_succ]; go_big_quiet_on) | (refine quiet_loadAny (t := 64) rfl _ _ _ rfl (fun w hw => run_load_B (ov_B d11 w hw) Try.isAgg64 (by kernel_rfl)) (by rfl) ?_; simp only [Act.put, List.setIfInBounds_toArray, List.set_cons_zero, List.set_cons_succ]; go_big_quiet_on) | (go_big_quiet_op; go_big_quiet_on)))
  refine wpQuiet_nil ?_
  refine wpRL_callB (by rfl) (by first | rfl | simp [Region.wanted, yielded]) ?_ ?_
  · intro wn hbn hE Kx hKx
    have hsz := B.size
    have hzn := hbn.size
    replace B := B.trans (hbn.mono B.size)
    (try first | replace q1 := q1.of_eq (hbn.block _ q1.lt) | replace q1 := q1.below hbn)
    (try first | replace c4 := c4.of_eq (hbn.block _ c4.lt) | replace c4 := c4.below hbn)
    (try first | replace c5 := c5.of_eq (hbn.block _ c5.lt) | replace c5 := c5.below hbn)
    (try first | replace r8 := r8.of_eq (hbn.block _ r8.lt) | replace r8 := r8.below hbn)
    (try first | replace r9 := r9.of_eq (hbn.block _ r9.lt) | replace r9 := r9.below hbn)
    (try first | replace d10 := d10.of_eq (hbn.block _ d10.lt) | replace d10 := d10.below hbn)
    (try first | replace d11 := d11.of_eq (hbn.block _ d11.lt) | replace d11 := d11.below hbn)
    (try first | replace r12 := r12.of_eq (hbn.block _ r12.lt) | replace r12 := r12.below hbn)
    (try first | replace r13 := r13.of_eq (hbn.block _ r13.lt) | replace r13 := r13.below hbn)
    (try first | replace rs1 := rs1.of_eq (hbn.block _ rs1.lt) | replace rs1 := rs1.below hbn)
    (try first | replace rs2 := rs2.of_eq (hbn.block _ rs2.lt) | replace rs2 := rs2.below hbn)
    (try first | replace rs3 := rs3.of_eq (hbn.block _ rs3.lt) | replace rs3 := rs3.below hbn)
    (try first | replace rs4 := rs4.of_eq (hbn.block _ rs4.lt) | replace rs4 := rs4.below hbn)
    have n26 := hE 2 (by kernel_rfl)
    change RS _ _ _ at n26
    go_simp
    go_at_call 40
    refine (P_CropV _ (cropL (nearR a) (madeL L)) _ (nearR b) wn n26 (cropL_tok (madeL_tok L) _) HC1.out (cropL_valid (madeL_valid L) _) (cropL_twice _ _ _)).mono ?_
    rintro e wm ⟨v', rfl, hr, hbm⟩
    obtain ⟨a', c', rfl, _⟩ := hr.len
    exact hKx (a', c') wm hr hbm
  rintro ⟨a28, c28⟩
  dsimp only [detS, rasS]
  simp only [Act.put, List.setIfInBounds_toArray, List.set_cons_zero, List.set_cons_succ]
  refine wpRL_callB (by rfl) (by first | rfl | simp [Region.wanted, yielded]) ?_ ?_
  · intro wn hbn hE Kx hKx
    have hsz := B.size
    have hzn := hbn.size
    replace B := B.trans (hbn.mono B.size)
    (try first | replace q1 := q1.of_eq (hbn.block _ q1.lt) | replace q1 := q1.below hbn)
    (try first | replace c4 := c4.of_eq (hbn.block _ c4.lt) | replace c4 := c4.below hbn)
    (try first | replace c5 := c5.of_eq (hbn.block _ c5.lt) | replace c5 := c5.below hbn)
    (try first | replace r8 := r8.of_eq (hbn.block _ r8.lt) | replace r8 := r8.below hbn)
    (try first | replace r9 := r9.of_eq (hbn.block _ r9.lt) | replace r9 := r9.below hbn)
    (try first | replace d10 := d10.of_eq (hbn.block _ d10.lt) | replace d10 := d10.below hbn)
    (try first | replace d11 := d11.of_eq (hbn.block _ d11.lt) | replace d11 := d11.below hbn)
    (try first | replace r12 := r12.of_eq (hbn.block _ r12.lt) | replace r12 := r12.below hbn)
    (try first | replace r13 := r13.of_eq (hbn.block _ r13.lt) | replace r13 := r13.below hbn)
    (try first | replace rs1 := rs1.of_eq (hbn.block _ rs1.lt) | replace rs1 := rs1.below hbn)
    (try first | replace rs2 := rs2.of_eq (hbn.block _ rs2.lt) | replace rs2 := rs2.below hbn)
    (try first | replace rs3 := rs3.of_eq (hbn.block _ rs3.lt) | replace rs3 := rs3.below hbn)
    (try first | replace rs4 := rs4.of_eq (hbn.block _ rs4.lt) | replace rs4 := rs4.below hbn)
    refine owp_allocBk (t := 30) _ (run_alloc_R _ _ rfl) ?_
    intro b wm h1 h2 ht hbm hzm
    exact hKx b wm ⟨Nat.le_trans hbn.size h1, ht⟩ (hbm.mono h1)
  rintro b_r12
  dsimp only [detS, ptrS]
  simp only [Act.put, List.setIfInBounds_toArray, List.set_cons_zero, List.set_cons_succ]
  refine wpRL_nil ?_
  intro wn hbn hE
  have hsz := B.size
  have hzn := hbn.size
  replace B := B.trans (hbn.mono B.size)
  (try first | replace q1 := q1.of_eq (hbn.block _ q1.lt) | replace q1 := q1.below hbn)
  (try first | replace c4 := c4.of_eq (hbn.block _ c4.lt) | replace c4 := c4.below hbn)
  (try first | replace c5 := c5.of_eq (hbn.block _ c5.lt) | replace c5 := c5.below hbn)
  (try first | replace r8 := r8.of_eq (hbn.block _ r8.lt) | replace r8 := r8.below hbn)
  (try first | replace r9 := r9.of_eq (hbn.block _ r9.lt) | replace r9 := r9.below hbn)
  (try first | replace d10 := d10.of_eq (hbn.block _ d10.lt) | replace d10 := d10.below hbn)
  (try first | replace d11 := d11.of_eq (hbn.block _ d11.lt) | replace d11 := d11.below hbn)
  (try first | replace r12 := r12.of_eq (hbn.block _ r12.lt) | replace r12 := r12.below hbn)
  (try first | replace r13 := r13.of_eq (hbn.block _ r13.lt) | replace r13 := r13.below hbn)
  (try first | replace rs1 := rs1.of_eq (hbn.block _ rs1.lt) | replace rs1 := rs1.below hbn)
  (try first | replace rs2 := rs2.of_eq (hbn.block _ rs2.lt) | replace rs2 := rs2.below hbn)
  (try first | replace rs3 := rs3.of_eq (hbn.block _ rs3.lt) | replace rs3 := rs3.below hbn)
  (try first | replace rs4 := rs4.of_eq (hbn.block _ rs4.lt) | replace rs4 := rs4.below hbn)
  have n26 := hE 2
  change RS _ _ _ at n26
  have rs3 := hE 4
  change RS _ _ _ at rs3
  obtain ⟨hge_r12, r12⟩ : _ ∧ AtB _ _ _ _ := hE 5
  clear hE
  try simp only [List.drop_succ_cons, List.drop_zero]
  go_wp2_with (first | (refine wpList_storeB (t := 30) rfl _ _ rfl _ rfl _ rfl r12 (by kernel_rfl) rfl (by simp [Value.oneCell']) ?_; have r12o := r12; clear r12; intro wn ht hcn hzn; (try replace rs1 := rs1.chg r12o (by simp [rcA]) hcn); (try replace rs2 := rs2.chg r12o (by simp [rcA]) hcn); (try replace rs3 := rs3.chg r12o (by simp [rcA]) hcn); (try replace rs4 := rs4.chg r12o (by simp [rcA]) hcn); have hsz := B.size; replace hzn := Nat.le_of_eq hzn.symm; replace B := Chg.below B hcn (by omega) B.size; (try replace q1 := q1.of_eq (hcn.block _ q1.lt (by omega))); (try replace c4 := c4.of_eq (hcn.block _ c4.lt (by omega))); (try replace c5 := c5.of_eq (hcn.block _ c5.lt (by omega))); (try replace r8 := r8.of_eq (hcn.block _ r8.lt (by omega))); (try replace r9 := r9.of_eq (hcn.block _ r9.lt (by omega))); (try replace d10 := d10.of_eq (hcn.block _ d10.lt (by omega))); (try replace d11 := d11.of_eq (hcn.block _ d11.lt (by omega))); (try replace r13 := r13.of_eq (hcn.block _ r13.lt (by omega))); (try replace rs1 := rs1.of_eq (hcn.block _ rs1.lt (by omega))); (try replace rs2 := rs2.of_eq (hcn.block _ rs2.lt (by omega))); (try replace rs3 := rs3.of_eq (hcn.block _ rs3.lt (by omega))); (try replace rs4 := rs4.of_eq (hcn.block _ rs4.lt (by omega))); have r12 := ht; clear ht; simp only [Act.put, List.setIfInBounds_toArray, List.set_cons_zero, List.set_cons_succ]) | fail)
  refine NoPan.normal ?_
  go_wp2
  clear n26
  try have lx_q1 := q1.lt
  try have lx_c4 := c4.lt
  try have lx_c5 := c5.lt
  try have lx_r8 := r8.lt
  try have lx_r9 := r9.lt
  try have lx_d10 := d10.lt
  try have lx_d11 := d11.lt
  try have lx_r12 := r12.lt
  try have lx_r13 := r13.lt
  try have lx_rs1 := rs1.lt
  try have lx_rs2 := rs2.lt
  try have lx_rs3 := rs3.lt
  try have lx_rs4 := rs4.lt
  refine wp_region_RL 6 [(3, detS ?v3), (4, rasS (cropL (interR (nearR a) (nearR b)) (madeL L))), (5, ptrS (wn.heap.size) 30 #[.slice none 0 0])] (by kernel_rfl) (by kernel_rfl) (by kernel_rfl) ?_
  rotate_left 1
  simp only [List.take_succ_cons, List.take_zero, List.drop_succ_cons, List.drop_zero, Nat.reduceAdd]
  refine wpRL_chunk 3 (by kernel_rfl) ?_
  simp only [List.take_succ_cons, List.take_zero, List.drop_succ_cons, List.drop_zero, Nat.reduceAdd]
  repeat (first | go_big_quiet_skip | (go_big_quiet_want; first | (refine quiet_loadAny (t := 30) rfl _ _ _ rfl (fun w hw => run_load_B (ov_B r8 w hw) Try.isAgg30 (by kernel_rfl)) (by rfl) ?_; simp only [Act.put, List.setIfInBounds_toArray, List.set_cons_zero, List.set_cons_succ]; go_big_quiet_on) | (refine quiet_loadAny (t := 30) rfl _ _ _ rfl (fun w hw => run_load_B (ov_B r9 w hw) Try.isAgg30 (by kernel_rfl)) (by rfl) ?_; simp only [Act.put, List.setIfInBounds_toArray, List.set_cons_zero, List.set_cons_succ]; go_big_quiet_on) | (refine quiet_loadAny (t := 30) rfl _ _ _ rfl (fun w hw => run_load_B (ov_B r12 w hw) Try.isAgg30 (by kernel_rfl)) (by rfl) ?_; simp only [Act.put, List.setIfInBounds_toArray, List.set_cons_zero, List.set_cons_succ]; go_big_quiet_on) | (refine quiet_loadAny (t := 30) rfl _ _ _ rfl (fun w hw => run_load_B (ov_B r13 w hw) Try.isAgg30 (by kernel_rfl)) (by rfl) ?_; simp only [Act.put, List.setIfInBounds_toArray, List.set_cons_zero, List.set_cons_succ]; go_big_quiet_on) | (refine quiet_loadAny (t := 64) rfl _ _ _ rfl (fun w hw => run_load_B (ov_B c4 w hw) Try.isAgg64 (by kernel_rfl)) (by rfl) ?_; simp only [Act.put, List.setIfInBounds_toArray, List.set_cons_zero, List.set_cons_succ]; go_big_quiet_on) | (refine quiet_loadAny (t := 64) rfl _ _ _ rfl (fun w hw => run_load_B (ov_B c5 w hw) Try.isAgg64 (by kernel_rfl)) (by rfl) ?_; simp only [Act.put, List.setIfInBounds_toArray, List.set_cons_zero, List.set_cons_succ]; go_big_quiet_on) | (refine quiet_loadAny (t := 64) rfl _ _ _ rfl (fun w hw => run_load_B (ov_B d10 w hw) Try.isAgg64 (by kernel_rfl)) (by rfl) ?_; simp only [Act.put, List.setIfInBounds_toArray, List.set_cons_zero, List.set_cons_succ]; go_big_quiet_on) | (refine quiet_loadAny (t := 64) rfl _ _ _ rfl (fun w hw => run_load_B (ov_B d11 w hw) Try.isAgg64 (by kernel_rfl)) (by rfl) ?_; simp only [Act.put, List.setIfInBounds_toArray, List.set_cons_zero, List.set_cons_succ]; go_big_quiet_on) | (go_big_quiet_op; go_big_quiet_on)))
  refine wpQuiet_nil ?_
  refine wpRL_callB (by rfl) (by first | rfl | simp [Region.wanted, yielded]) ?_ ?_
  · intro wn hbn hE Kx hKx
    have hsz := B.size
    have hzn := hbn.size
    replace B := B.trans (hbn.mono B.size)
    (try first | replace q1 := q1.of_eq (hbn.block _ q1.lt) | replace q1 := q1.below hbn)
    (try first | replace c4 := c4.of_eq (hbn.block _ c4.lt) | replace c4 := c4.below hbn)
    (try first | replace c5 := c5.of_eq (hbn.block _ c5.lt) | replace c5 := c5.below hbn)
    (try first | replace r8 := r8.of_eq (hbn.block _ r8.lt) | replace r8 := r8.below hbn)
    (try first | replace r9 := r9.of_eq (hbn.block _ r9.lt) | replace r9 := r9.below hbn)
    (try first | replace d10 := d10.of_eq (hbn.block _ d10.lt) | replace d10 := d10.below hbn)
    (try first | replace d11 := d11.of_eq (hbn.block _ d11.lt) | replace d11 := d11.below hbn)
    (try first | replace r12 := r12.of_eq (hbn.block _ r12.lt) | replace r12 := r12.below hbn)
    (try first | replace r13 := r13.of_eq (hbn.block _ r13.lt) | replace r13 := r13.below hbn)
    (try first | replace rs1 := rs1.of_eq (hbn.block _ rs1.lt) | replace rs1 := rs1.below hbn)
    (try first | replace rs2 := rs2.of_eq (hbn.block _ rs2.lt) | replace rs2 := rs2.below hbn)
    (try first | replace rs3 := rs3.of_eq (hbn.block _ rs3.lt) | replace rs3 := rs3.below hbn)
    (try first | replace rs4 := rs4.of_eq (hbn.block _ rs4.lt) | replace rs4 := rs4.below hbn)
    go_simp
    go_at_call 42
    refine (P_Intersect (nearR a) (nearR b) wn).mono ?_
    rintro e wm ⟨rfl, hbm⟩
    exact hKx () wm trivial hbm
  rintro ⟨⟩
  dsimp only [detS]
  simp only [Act.put, List.setIfInBounds_toArray, List.set_cons_zero, List.set_cons_succ]
  refine wpRL_callB (by rfl) (by first | rfl | simp [Region.wanted, yielded]) ?_ ?_
  · intro wn hbn hE Kx hKx
    have hsz := B.size
    have hzn := hbn.size
    replace B := B.trans (hbn.mono B.size)
    (try first | replace q1 := q1.of_eq (hbn.block _ q1.lt) | replace q1 := q1.below hbn)
    (try first | replace c4 := c4.of_eq (hbn.block _ c4.lt) | replace c4 := c4.below hbn)
    (try first | replace c5 := c5.of_eq (hbn.block _ c5.lt) | replace c5 := c5.below hbn)
    (try first | replace r8 := r8.of_eq (hbn.block _ r8.lt) | replace r8 := r8.below hbn)
    (try first | replace r9 := r9.of_eq (hbn.block _ r9.lt) | replace r9 := r9.below hbn)
    (try first | replace d10 := d10.of_eq (hbn.block _ d10.lt) | replace d10 := d10.below hbn)
    (try first | replace d11 := d11.of_eq (hbn.block _ d11.lt) | replace d11 := d11.below hbn)
    (try first | replace r12 := r12.of_eq (hbn.block _ r12.lt) | replace r12 := r12.below hbn)
    (try first | replace r13 := r13.of_eq (hbn.block _ r13.lt) | replace r13 := r13.below hbn)
    (try first | replace rs1 := rs1.of_eq (hbn.block _ rs1.lt) | replace rs1 := rs1.below hbn)
    (try first | replace rs2 := rs2.of_eq (hbn.block _ rs2.lt) | replace rs2 := rs2.below hbn)
    (try first | replace rs3 := rs3.of_eq (hbn.block _ rs3.lt) | replace rs3 := rs3.below hbn)
    (try first | replace rs4 := rs4.of_eq (hbn.block _ rs4.lt) | replace rs4 := rs4.below hbn)
    go_simp
    go_at_call 40
    refine (P_CropV _ (madeL L) _ (interR (nearR a) (nearR b)) wn rs2 (madeL_tok L) HM.out (madeL_valid L) rfl).mono ?_
    rintro e wm ⟨v', rfl, hr, hbm⟩
    obtain ⟨a', c', rfl, _⟩ := hr.len
    exact hKx (a', c') wm hr hbm
  rintro ⟨a33, c33⟩
  dsimp only [detS, rasS]
  simp only [Act.put, List.setIfInBounds_toArray, List.set_cons_zero, List.set_cons_succ]
  refine wpRL_callB (by rfl) (by first | rfl | simp [Region.wanted, yielded]) ?_ ?_
  · intro wn hbn hE Kx hKx
    have hsz := B.size
    have hzn := hbn.size
    replace B := B.trans (hbn.mono B.size)
    (try first | replace q1 := q1.of_eq (hbn.block _ q1.lt) | replace q1 := q1.below hbn)
    (try first | replace c4 := c4.of_eq (hbn.block _ c4.lt) | replace c4 := c4.below hbn)
    (try first | replace c5 := c5.of_eq (hbn.block _ c5.lt) | replace c5 := c5.below hbn)
    (try first | replace r8 := r8.of_eq (hbn.block _ r8.lt) | replace r8 := r8.below hbn)
    (try first | replace r9 := r9.of_eq (hbn.block _ r9.lt) | replace r9 := r9.below hbn)
    (try first | replace d10 := d10.of_eq (hbn.block _ d10.lt) | replace d10 := d10.below hbn)
    (try first | replace d11 := d11.of_eq (hbn.block _ d11.lt) | replace d11 := d11.below hbn)
    (try first | replace r12 := r12.of_eq (hbn.block _ r12.lt) | replace r12 := r12.below hbn)
    (try first | replace r13 := r13.of_eq (hbn.block _ r13.lt) | replace r13 := r13.below hbn)
    (try first | replace rs1 := rs1.of_eq (hbn.block _ rs1.lt) | replace rs1 := rs1.below hbn)
    (try first | replace rs2 := rs2.of_eq (hbn.block _ rs2.lt) | replace rs2 := rs2.below hbn)
    (try first | replace rs3 := rs3.of_eq (hbn.block _ rs3.lt) | replace rs3 := rs3.below hbn)
    (try first | replace rs4 := rs4.of_eq (hbn.block _ rs4.lt) | replace rs4 := rs4.below hbn)
    refine owp_allocBk (t := 30) _ (run_alloc_R _ _ rfl) ?_
    intro b wm h1 h2 ht hbm hzm
    exact hKx b wm ⟨Nat.le_trans hbn.size h1, ht⟩ (hbm.mono h1)
  rintro b_r13
  dsimp only [detS, ptrS]
  simp only [Act.put, List.setIfInBounds_toArray, List.set_cons_zero, List.set_cons_succ]
  refine wpRL_nil ?_
  intro wn hbn hE
  have hsz := B.size
  have hzn := hbn.size
  replace B := B.trans (hbn.mono B.size)
  (try first | replace q1 := q1.of_eq (hbn.block _ q1.lt) | replace q1 := q1.below hbn)
  (try first | replace c4 := c4.of_eq (hbn.block _ c4.lt) | replace c4 := c4.below hbn)
  (try first | replace c5 := c5.of_eq (hbn.block _ c5.lt) | replace c5 := c5.below hbn)
  (try first | replace r8 := r8.of_eq (hbn.block _ r8.lt) | replace r8 := r8.below hbn)
  (try first | replace r9 := r9.of_eq (hbn.block _ r9.lt) | replace r9 := r9.below hbn)
  (try first | replace d10 := d10.of_eq (hbn.block _ d10.lt) | replace d10 := d10.below hbn)
  (try first | replace d11 := d11.of_eq (hbn.block _ d11.lt) | replace d11 := d11.below hbn)
  (try first | replace r12 := r12.of_eq (hbn.block _ r12.lt) | replace r12 := r12.below hbn)
  (try first | replace r13 := r13.of_eq (hbn.block _ r13.lt) | replace r13 := r13.below hbn)
  (try first | replace rs1 := rs1.of_eq (hbn.block _ rs1.lt) | replace rs1 := rs1.below hbn)
  (try first | replace rs2 := rs2.of_eq (hbn.block _ rs2.lt) | replace rs2 := rs2.below hbn)
  (try first | replace rs3 := rs3.of_eq (hbn.block _ rs3.lt) | replace rs3 := rs3.below hbn)
  (try first | replace rs4 := rs4.of_eq (hbn.block _ rs4.lt) | replace rs4 := rs4.below hbn)
  have rs4 := hE 4
  change RS _ _ _ at rs4
  obtain ⟨hge_r13, r13⟩ : _ ∧ AtB _ _ _ _ := hE 5
  clear hE
  try simp only [List.drop_succ_cons, List.drop_zero]
  go_wp2_with (first | (refine wpList_storeB (t := 30) rfl _ _ rfl _ rfl _ rfl r13 (by kernel_rfl) rfl (by simp [Value.oneCell']) ?_; have r13o := r13; clear r13; intro wn ht hcn hzn; (try replace rs1 := rs1.chg r13o (by simp [rcA]) hcn); (try replace rs2 := rs2.chg r13o (by simp [rcA]) hcn); (try replace rs3 := rs3.chg r13o (by simp [rcA]) hcn); (try replace rs4 := rs4.chg r13o (by simp [rcA]) hcn); have hsz := B.size; replace hzn := Nat.le_of_eq hzn.symm; replace B := Chg.below B hcn (by omega) B.size; (try replace q1 := q1.of_eq (hcn.block _ q1.lt (by omega))); (try replace c4 := c4.of_eq (hcn.block _ c4.lt (by omega))); (try replace c5 := c5.of_eq (hcn.block _ c5.lt (by omega))); (try replace r8 := r8.of_eq (hcn.block _ r8.lt (by omega))); (try replace r9 := r9.of_eq (hcn.block _ r9.lt (by omega))); (try replace d10 := d10.of_eq (hcn.block _ d10.lt (by omega))); (try replace d11 := d11.of_eq (hcn.block _ d11.lt (by omega))); (try replace r12 := r12.of_eq (hcn.block _ r12.lt (by omega))); (try replace rs1 := rs1.of_eq (hcn.block _ rs1.lt (by omega))); (try replace rs2 := rs2.of_eq (hcn.block _ rs2.lt (by omega))); (try replace rs3 := rs3.of_eq (hcn.block _ rs3.lt (by omega))); (try replace rs4 := rs4.of_eq (hcn.block _ rs4.lt (by omega))); have r13 := ht; clear ht; simp only [Act.put, List.setIfInBounds_toArray, List.set_cons_zero, List.set_cons_succ]) | fail)
  refine NoPan.normal ?_
  go_wp2
  try have lx_q1 := q1.lt
  try have lx_c4 := c4.lt
  try have lx_c5 := c5.lt
  try have lx_r8 := r8.lt
  try have lx_r9 := r9.lt
  try have lx_d10 := d10.lt
  try have lx_d11 := d11.lt
  try have lx_r12 := r12.lt
  try have lx_r13 := r13.lt
  try have lx_rs1 := rs1.lt
  try have lx_rs2 := rs2.lt
  try have lx_rs3 := rs3.lt
  try have lx_rs4 := rs4.lt
  refine wp_region_RL 37 [(4, rasS (cropL a (fineL (ofL q L T)))), (7, rasS (cropL a (fineL (ofL q L T)))), (8, detS ?v8), (13, rasS (cropL (nearR a) (fineL (ofL q L T)))), (16, rasS (cropL (nearR a) (fineL (ofL q L T)))), (17, detS ?v17), (22, detS ?v22), (27, detS ?v27), (28, rasS (madeL L)), (30, detS ?v30), (34, detS ?v34)] (by kernel_rfl) (by kernel_rfl) (by kernel_rfl) ?_
  rotate_left 6
  simp only [List.take_succ_cons, List.take_zero, List.drop_succ_cons, List.drop_zero, Nat.reduceAdd]
  refine wpRL_chunk 4 (by kernel_rfl) ?_
  simp only [List.take_succ_cons, List.take_zero, List.drop_succ_cons, List.drop_zero, Nat.reduceAdd]
  repeat (first | go_big_quiet_skip | (go_big_quiet_want; first | (refine quiet_loadAny (t := 30) rfl _ _ _ rfl (fun w hw => run_load_B (ov_B r8 w hw) Try.isAgg30 (by kernel_rfl)) (by rfl) ?_; simp only [Act.put, List.setIfInBounds_toArray, List.set_cons_zero, List.set_cons_succ]; go_big_quiet_on) | (refine quiet_loadAny (t := 30) rfl _ _ _ rfl (fun w hw => run_load_B (ov_B r9 w hw) Try.isAgg30 (by kernel_rfl)) (by rfl) ?_; simp only [Act.put, List.setIfInBounds_toArray, List.set_cons_zero, List.set_cons_succ]; go_big_quiet_on) | (refine quiet_loadAny (t := 30) rfl _ _ _ rfl (fun w hw => run_load_B (ov_B r12 w hw) Try.isAgg30 (by kernel_rfl)) (by rfl) ?_; simp only [Act.put, List.setIfInBounds_toArray, List.set_cons_zero, List.set_cons_succ]; go_big_quiet_on) | (refine quiet_loadAny (t := 30) rfl _ _ _ rfl (fun w hw => run_load_B (ov_B r13 w hw) Try.isAgg30 (by kernel_rfl)) (by rfl) ?_; simp only [Act.put, List.setIfInBounds_toArray, List.set_cons_zero, List.set_cons_succ]; go_big_quiet_on) | (refine quiet_loadAny (t := 64) rfl _ _ _ rfl (fun w hw => run_load_B (ov_B c4 w hw) Try.isAgg64 (by kernel_rfl)) (by rfl) ?_; simp only [Act.put, List.setIfInBounds_toArray, List.set_cons_zero, List.set_cons_succ]; go_big_quiet_on) | (refine quiet_loadAny (t := 64) rfl _ _ _ rfl (fun w hw => run_load_B (ov_B c5 w hw) Try.isAgg64 (by kernel_rfl)) (by rfl) ?_; simp only [Act.put, List.setIfInBounds_toArray, List.set_cons_zero, List.set_cons_succ]; go_big_quiet_on) | (refine quiet_loadAny (t := 64) rfl _ _ _ rfl (fun w hw => run_load_B (ov_B d10 w hw) Try.isAgg64 (by kernel_rfl)) (by rfl) ?_; simp only [Act.put, List.setIfInBounds_toArray, List.set_cons_zero, List.set_cons_succ]; go_big_quiet_on) | (refine quiet_loadAny (t := 64) rfl _ _ _ rfl (fun w hw => run_load_B (ov_B d11 w hw) Try.isAgg64 (by kernel_rfl)) (by rfl) ?_; simp only [Act.put, List.setIfInBounds_toArray, List.set_cons_zero, List.set_cons_succ]; go_big_quiet_on) | (go_big_quiet_op; go_big_quiet_on)))
  refine wpQuiet_nil ?_
  refine wpRL_callB (by rfl) (by first | rfl | simp [Region.wanted, yielded]) ?_ ?_
  · intro wn hbn hE Kx hKx
    have hsz := B.size
    have hzn := hbn.size
    replace B := B.trans (hbn.mono B.size)
    (try first | replace q1 := q1.of_eq (hbn.block _ q1.lt) | replace q1 := q1.below hbn)
    (try first | replace c4 := c4.of_eq (hbn.block _ c4.lt) | replace c4 := c4.below hbn)
    (try first | replace c5 := c5.of_eq (hbn.block _ c5.lt) | replace c5 := c5.below hbn)
    (try first | replace r8 := r8.of_eq (hbn.block _ r8.lt) | replace r8 := r8.below hbn)
    (try first | replace r9 := r9.of_eq (hbn.block _ r9.lt) | replace r9 := r9.below hbn)
    (try first | replace d10 := d10.of_eq (hbn.block _ d10.lt) | replace d10 := d10.below hbn)
    (try first | replace d11 := d11.of_eq (hbn.block _ d11.lt) | replace d11 := d11.below hbn)
    (try first | replace r12 := r12.of_eq (hbn.block _ r12.lt) | replace r12 := r12.below hbn)
    (try first | replace r13 := r13.of_eq (hbn.block _ r13.lt) | replace r13 := r13.below hbn)
    (try first | replace rs1 := rs1.of_eq (hbn.block _ rs1.lt) | replace rs1 := rs1.below hbn)
    (try first | replace rs2 := rs2.of_eq (hbn.block _ rs2.lt) | replace rs2 := rs2.below hbn)
    (try first | replace rs3 := rs3.of_eq (hbn.block _ rs3.lt) | replace rs3 := rs3.below hbn)
    (try first | replace rs4 := rs4.of_eq (hbn.block _ rs4.lt) | replace rs4 := rs4.below hbn)
    go_simp
    go_at_call 40
    refine (P_CropR _ (ofL q L T) (a) wn rs1 (ofL_tok q L T) HN.out).mono ?_
    rintro e wm ⟨v', rfl, hr, hbm⟩
    obtain ⟨a', c', rfl, _⟩ := hr.len
    exact hKx (a', c') wm hr hbm
  rintro ⟨a38, c38⟩
  dsimp only [detS, rasS]
  simp only [Act.put, List.setIfInBounds_toArray, List.set_cons_zero, List.set_cons_succ]
  refine wpRL_chunk 2 (by kernel_rfl) ?_
  simp only [List.take_succ_cons, List.take_zero, List.drop_succ_cons, List.drop_zero, Nat.reduceAdd]
  repeat (first | go_big_quiet_skip | (go_big_quiet_want; first | (refine quiet_loadAny (t := 30) rfl _ _ _ rfl (fun w hw => run_load_B (ov_B r8 w hw) Try.isAgg30 (by kernel_rfl)) (by rfl) ?_; simp only [Act.put, List.setIfInBounds_toArray, List.set_cons_zero, List.set_cons_succ]; go_big_quiet_on) | (refine quiet_loadAny (t := 30) rfl _ _ _ rfl (fun w hw => run_load_B (ov_B r9 w hw) Try.isAgg30 (by kernel_rfl)) (by rfl) ?_; simp only [Act.put, List.setIfInBounds_toArray, List.set_cons_zero, List.set_cons_succ]; go_big_quiet_on) | (refine quiet_loadAny (t := 30) rfl _ _ _ rfl (fun w hw => run_load_B (ov_B r12 w hw) Try.isAgg30 (by kernel_rfl)) (by rfl) ?_; simp only [Act.put, List.setIfInBounds_toArray, List.set_cons_zero, List.set_cons_succ]; go_big_quiet_on) | (refine quiet_loadAny (t := 30) rfl _ _ _ rfl (fun w hw => run_load_B (ov_B r13 w hw) Try.isAgg30 (by kernel_rfl)) (by rfl) ?_; simp only [Act.put, List.setIfInBounds_toArray, List.set_cons_zero, List.set_cons_succ]; go_big_quiet_on) | (refine quiet_loadAny (t := 64) rfl _ _ _ rfl (fun w hw => run_load_B (ov_B c4 w hw) Try.isAgg64 (by kernel_rfl)) (by rfl) ?_; simp only [Act.put, List.setIfInBounds_toArray, List.set_cons_zero, List.set_cons_succ]; go_big_quiet_on) | (refine quiet_loadAny (t := 64) rfl _ _ _ rfl (fun w hw => run_load_B (ov_B c5 w hw) Try.isAgg64 (by kernel_rfl)) (by rfl) ?_; simp only [Act.put, List.setIfInBounds_toArray, List.set_cons_zero, List.set_cons_succ]; go_big_quiet_on) | (refine quiet_loadAny (t := 64) rfl _ _ _ rfl (fun w hw => run_load_B (ov_B d10 w hw) Try.isAgg64 (by kernel_rfl)) (by rfl) ?_; simp only [Act.put, List.setIfInBounds_toArray, List.set_cons_zero, List.set_cons_succ]; go_big_quiet_on) | (refine quiet_loadAny (t := 64) rfl _ _ _ rfl (fun w hw => run_load_B (ov_B d11 w hw) Try.isAgg64 (by kernel_rfl)) (by rfl) ?_; simp only [Act.put, List.setIfInBounds_toArray, List.set_cons_zero, List.set_cons_succ]; go_big_quiet_on) | (go_big_quiet_op; go_big_quiet_on)))
  refine wpQuiet_nil ?_
  refine wpRL_callB (by rfl) (by first | rfl | simp [Region.wanted, yielded]) ?_ ?_
  · intro wn hbn hE Kx hKx
    have hsz := B.size
    have hzn := hbn.size
    replace B := B.trans (hbn.mono B.size)
    (try first | replace q1 := q1.of_eq (hbn.block _ q1.lt) | replace q1 := q1.below hbn)
    (try first | replace c4 := c4.of_eq (hbn.block _ c4.lt) | replace c4 := c4.below hbn)
    (try first | replace c5 := c5.of_eq (hbn.block _ c5.lt) | replace c5 := c5.below hbn)
    (try first | replace r8 := r8.of_eq (hbn.block _ r8.lt) | replace r8 := r8.below hbn)
    (try first | replace r9 := r9.of_eq (hbn.block _ r9.lt) | replace r9 := r9.below hbn)
    (try first | replace d10 := d10.of_eq (hbn.block _ d10.lt) | replace d10 := d10.below hbn)
    (try first | replace d11 := d11.of_eq (hbn.block _ d11.lt) | replace d11 := d11.below hbn)
    (try first | replace r12 := r12.of_eq (hbn.block _ r12.lt) | replace r12 := r12.below hbn)
    (try first | replace r13 := r13.of_eq (hbn.block _ r13.lt) | replace r13 := r13.below hbn)
    (try first | replace rs1 := rs1.of_eq (hbn.block _ rs1.lt) | replace rs1 := rs1.below hbn)
    (try first | replace rs2 := rs2.of_eq (hbn.block _ rs2.lt) | replace rs2 := rs2.below hbn)
    (try first | replace rs3 := rs3.of_eq (hbn.block _ rs3.lt) | replace rs3 := rs3.below hbn)
    (try first | replace rs4 := rs4.of_eq (hbn.block _ rs4.lt) | replace rs4 := rs4.below hbn)
    go_simp
    go_at_call 43
    refine (R_CropR _ (ofL q L T) (a) wn rs1 (ofL_tok q L T) HN.out).mono ?_
    rintro e wm ⟨v', rfl, hr, hbm⟩
    obtain ⟨a', c', rfl, _⟩ := hr.len
    exact hKx (a', c') wm hr hbm
  rintro ⟨a41, c41⟩
  dsimp only [detS, rasS]
  simp only [Act.put, List.setIfInBounds_toArray, List.set_cons_zero, List.set_cons_succ]
  refine wpRL_callB (by rfl) (by first | rfl | simp [Region.wanted, yielded]) ?_ ?_
  · intro wn hbn hE Kx hKx
    have hsz := B.size
    have hzn := hbn.size
    replace B := B.trans (hbn.mono B.size)
    (try first | replace q1 := q1.of_eq (hbn.block _ q1.lt) | replace q1 := q1.below hbn)
    (try first | replace c4 := c4.of_eq (hbn.block _ c4.lt) | replace c4 := c4.below hbn)
    (try first | replace c5 := c5.of_eq (hbn.block _ c5.lt) | replace c5 := c5.below hbn)
    (try first | replace r8 := r8.of_eq (hbn.block _ r8.lt) | replace r8 := r8.below hbn)
    (try first | replace r9 := r9.of_eq (hbn.block _ r9.lt) | replace r9 := r9.below hbn)
    (try first | replace d10 := d10.of_eq (hbn.block _ d10.lt) | replace d10 := d10.below hbn)
    (try first | replace d11 := d11.of_eq (hbn.block _ d11.lt) | replace d11 := d11.below hbn)
    (try first | replace r12 := r12.of_eq (hbn.block _ r12.lt) | replace r12 := r12.below hbn)
    (try first | replace r13 := r13.of_eq (hbn.block _ r13.lt) | replace r13 := r13.below hbn)
    (try first | replace rs1 := rs1.of_eq (hbn.block _ rs1.lt) | replace rs1 := rs1.below hbn)
    (try first | replace rs2 := rs2.of_eq (hbn.block _ rs2.lt) | replace rs2 := rs2.below hbn)
    (try first | replace rs3 := rs3.of_eq (hbn.block _ rs3.lt) | replace rs3 := rs3.below hbn)
    (try first | replace rs4 := rs4.of_eq (hbn.block _ rs4.lt) | replace rs4 := rs4.below hbn)
    have n38 := hE 4 (by kernel_rfl)
    change RS _ _ _ at n38
    have n41 := hE 7 (by kernel_rfl)
    change RS _ _ _ at n41
    go_simp
    go_at_call 30
    refine (R_EqualS _ _ (cropL a (fineL (ofL q L T))) wn n38 n41 (cropL_tok (fineL_tok (ofL_tok q L T)) _) HCa.out).mono ?_
    rintro e wm ⟨rfl, hbm⟩
    exact hKx () wm trivial hbm
  rintro ⟨⟩
  dsimp only [detS]
  simp only [Act.put, List.setIfInBounds_toArray, List.set_cons_zero, List.set_cons_succ]
  refine wpRL_chunk 4 (by kernel_rfl) ?_
  simp only [List.take_succ_cons, List.take_zero, List.drop_succ_cons, List.drop_zero, Nat.reduceAdd]
  repeat (first | go_big_quiet_skip | (go_big_quiet_want; first | (refine quiet_loadAny (t := 30) rfl _ _ _ rfl (fun w hw => run_load_B (ov_B r8 w hw) Try.isAgg30 (by kernel_rfl)) (by rfl) ?_; simp only [Act.put, List.setIfInBounds_toArray, List.set_cons_zero, List.set_cons_succ]; go_big_quiet_on) | (refine quiet_loadAny (t := 30) rfl _ _ _ rfl (fun w hw => run_load_B (ov_B r9 w hw) Try.isAgg30 (by kernel_rfl)) (by rfl) ?_; simp only [Act.put, List.setIfInBounds_toArray, List.set_cons_zero, List.set_cons_succ]; go_big_quiet_on) | (refine quiet_loadAny (t := 30) rfl _ _ _ rfl (fun w hw => run_load_B (ov_B r12 w hw) Try.isAgg30 (by kernel_rfl)) (by rfl) ?_; simp only [Act.put, List.setIfInBounds_toArray, List.set_cons_zero, List.set_cons_succ]; go_big_quiet_on) | (refine quiet_loadAny (t := 30) rfl _ _ _ rfl (fun w hw => run_load_B (ov_B r13 w hw) Try.isAgg30 (by kernel_rfl)) (by rfl) ?_; simp only [Act.put, List.setIfInBounds_toArray, List.set_cons_zero, List.set_cons_succ]; go_big_quiet_on) | (refine quiet_loadAny (t := 64) rfl _ _ _ rfl (fun w hw => run_load_B (ov_B c4 w hw) Try.isAgg64 (by kernel_rfl)) (by rfl) ?_; simp only [Act.put, List.setIfInBounds_toArray, List.set_cons_zero, List.set_cons_succ]; go_big_quiet_on) | (refine quiet_loadAny (t := 64) rfl _ _ _ rfl (fun w hw => run_load_B (ov_B c5 w hw) Try.isAgg64 (by kernel_rfl)) (by rfl) ?_; simp only [Act.put, List.setIfInBounds_toArray, List.set_cons_zero, List.set_cons_succ]; go_big_quiet_on) | (refine quiet_loadAny (t := 64) rfl _ _ _ rfl (fun w hw => run_load_B (ov_B d10 w hw) Try.isAgg64 (by kernel_rfl)) (by rfl) ?_; simp only [Act.put, List.setIfInBounds_toArray, List.set_cons_zero, List.set_cons_succ]; go_big_quiet_on) | (refine quiet_loadAny (t := 64) rfl _ _ _ rfl (fun w hw => run_load_B (ov_B d11 w hw) Try.isAgg64 (by kernel_rfl)) (by rfl) ?_; simp only [Act.put, List.setIfInBounds_toArray, List.set_cons_zero, List.set_cons_succ]; go_big_quiet_on) | (go_big_quiet_op; go_big_quiet_on)))
  refine wpQuiet_nil ?_
  refine wpRL_callB (by rfl) (by first | rfl | simp [Region.wanted, yielded]) ?_ ?_
  · intro wn hbn hE Kx hKx
    have hsz := B.size
    have hzn := hbn.size
    replace B := B.trans (hbn.mono B.size)
    (try first | replace q1 := q1.of_eq (hbn.block _ q1.lt) | replace q1 := q1.below hbn)
    (try first | replace c4 := c4.of_eq (hbn.block _ c4.lt) | replace c4 := c4.below hbn)
    (try first | replace c5 := c5.of_eq (hbn.block _ c5.lt) | replace c5 := c5.below hbn)
    (try first | replace r8 := r8.of_eq (hbn.block _ r8.lt) | replace r8 := r8.below hbn)
    (try first | replace r9 := r9.of_eq (hbn.block _ r9.lt) | replace r9 := r9.below hbn)
    (try first | replace d10 := d10.of_eq (hbn.block _ d10.lt) | replace d10 := d10.below hbn)
    (try first | replace d11 := d11.of_eq (hbn.block _ d11.lt) | replace d11 := d11.below hbn)
    (try first | replace r12 := r12.of_eq (hbn.block _ r12.lt) | replace r12 := r12.below hbn)
    (try first | replace r13 := r13.of_eq (hbn.block _ r13.lt) | replace r13 := r13.below hbn)
    (try first | replace rs1 := rs1.of_eq (hbn.block _ rs1.lt) | replace rs1 := rs1.below hbn)
    (try first | replace rs2 := rs2.of_eq (hbn.block _ rs2.lt) | replace rs2 := rs2.below hbn)
    (try first | replace rs3 := rs3.of_eq (hbn.block _ rs3.lt) | replace rs3 := rs3.below hbn)
    (try first | replace rs4 := rs4.of_eq (hbn.block _ rs4.lt) | replace rs4 := rs4.below hbn)
    go_simp
    go_at_call 40
    refine (P_CropR _ (ofL q L T) (nearR a) wn rs1 (ofL_tok q L T) HN.out).mono ?_
    rintro e wm ⟨v', rfl, hr, hbm⟩
    obtain ⟨a', c', rfl, _⟩ := hr.len
    exact hKx (a', c') wm hr hbm
  rintro ⟨a47, c47⟩
  dsimp only [detS, rasS]
  simp only [Act.put, List.setIfInBounds_toArray, List.set_cons_zero, List.set_cons_succ]
  refine wpRL_chunk 2 (by kernel_rfl) ?_
  simp only [List.take_succ_cons, List.take_zero, List.drop_succ_cons, List.drop_zero, Nat.reduceAdd]
  repeat (first | go_big_quiet_skip | (go_big_quiet_want; first | (refine quiet_loadAny (t := 30) rfl _ _ _ rfl (fun w hw => run_load_B (ov_B r8 w hw) Try.isAgg30 (by kernel_rfl)) (by rfl) ?_; simp only [Act.put, List.setIfInBounds_toArray, List.set_cons_zero, List.set_cons_succ]; go_big_quiet_on) | (refine quiet_loadAny (t := 30) rfl _ _ _ rfl (fun w hw => run_load_B (ov_B r9 w hw) Try.isAgg30 (by kernel_rfl)) (by rfl) ?_; simp only [Act.put, List.setIfInBounds_toArray, List.set_cons_zero, List.set_cons_succ]; go_big_quiet_on) | (refine quiet_loadAny (t := 30) rfl _ _ _ rfl (fun w hw => run_load_B (ov_B r12 w hw) Try.isAgg30 (by kernel_rfl)) (by rfl) ?_; simp only [Act.put, List.setIfInBounds_toArray, List.set_cons_zero, List.set_cons_succ]; go_big_quiet_on) | (refine quiet_loadAny (t := 30) rfl _ _ _ rfl (fun w hw => run_load_B (ov_B r13 w hw) Try.isAgg30 (by kernel_rfl)) (by rfl) ?_; simp only [Act.put, List.setIfInBounds_toArray, List.set_cons_zero, List.set_cons_succ]; go_big_quiet_on) | (refine quiet_loadAny (t := 64) rfl _ _ _ rfl (fun w hw => run_load_B (ov_B c4 w hw) Try.isAgg64 (by kernel_rfl)) (by rfl) ?_; simp only [Act.put, List.setIfInBounds_toArray, List.set_cons_zero, List.set_cons_succ]; go_big_quiet_on) | (refine quiet_loadAny (t := 64) rfl _ _ _ rfl (fun w hw => run_load_B (ov_B c5 w hw) Try.isAgg64 (by kernel_rfl)) (by rfl) ?_; simp only [Act.put, List.setIfInBounds_toArray, List.set_cons_zero, List.set_cons_succ]; go_big_quiet_on) | (refine quiet_loadAny (t := 64) rfl _ _ _ rfl (fun w hw => run_load_B (ov_B d10 w hw) Try.isAgg64 (by kernel_rfl)) (by rfl) ?_; simp only [Act.put, List.setIfInBounds_toArray, List.set_cons_zero, List.set_cons_succ]; go_big_quiet_on) | (refine quiet_loadAny (t := 64) rfl _ _ _ rfl (fun w hw => run_load_B (ov_B d11 w hw) Try.isAgg64 (by kernel_rfl)) (by rfl) ?_; simp only [Act.put, List.setIfInBounds_toArray, List.set_cons_zero, List.set_cons_succ]; go_big_quiet_on) | (go_big_quiet_op; go_big_quiet_on)))
  refine wpQuiet_nil ?_
  refine wpRL_callB (by rfl) (by first | rfl | simp [Region.wanted, yielded]) ?_ ?_
  · intro wn hbn hE Kx hKx
    have hsz := B.size
    have hzn := hbn.size
    replace B := B.trans (hbn.mono B.size)
    (try first | replace q1 := q1.of_eq (hbn.block _ q1.lt) | replace q1 := q1.below hbn)
    (try first | replace c4 := c4.of_eq (hbn.block _ c4.lt) | replace c4 := c4.below hbn)
    (try first | replace c5 := c5.of_eq (hbn.block _ c5.lt) | replace c5 := c5.below hbn)
    (try first | replace r8 := r8.of_eq (hbn.block _ r8.lt) | replace r8 := r8.below hbn)
    (try first | replace r9 := r9.of_eq (hbn.block _ r9.lt) | replace r9 := r9.below hbn)
    (try first | replace d10 := d10.of_eq (hbn.block _ d10.lt) | replace d10 := d10.below hbn)
    (try first | replace d11 := d11.of_eq (hbn.block _ d11.lt) | replace d11 := d11.below hbn)
    (try first | replace r12 := r12.of_eq (hbn.block _ r12.lt) | replace r12 := r12.below hbn)
    (try first | replace r13 := r13.of_eq (hbn.block _ r13.lt) | replace r13 := r13.below hbn)
    (try first | replace rs1 := rs1.of_eq (hbn.block _ rs1.lt) | replace rs1 := rs1.below hbn)
    (try first | replace rs2 := rs2.of_eq (hbn.block _ rs2.lt) | replace rs2 := rs2.below hbn)
    (try first | replace rs3 := rs3.of_eq (hbn.block _ rs3.lt) | replace rs3 := rs3.below hbn)
    (try first | replace rs4 := rs4.of_eq (hbn.block _ rs4.lt) | replace rs4 := rs4.below hbn)
    go_simp
    go_at_call 43
    refine (R_CropR _ (ofL q L T) (nearR a) wn rs1 (ofL_tok q L T) HN.out).mono ?_
    rintro e wm ⟨v', rfl, hr, hbm⟩
    obtain ⟨a', c', rfl, _⟩ := hr.len
    exact hKx (a', c') wm hr hbm
  rintro ⟨a50, c50⟩
  dsimp only [detS, rasS]
  simp only [Act.put, List.setIfInBounds_toArray, List.set_cons_zero, List.set_cons_succ]
  refine wpRL_callB (by rfl) (by first | rfl | simp [Region.wanted, yielded]) ?_ ?_
  · intro wn hbn hE Kx hKx
    have hsz := B.size
    have hzn := hbn.size
    replace B := B.trans (hbn.mono B.size)
    (try first | replace q1 := q1.of_eq (hbn.block _ q1.lt) | replace q1 := q1.below hbn)
    (try first | replace c4 := c4.of_eq (hbn.block _ c4.lt) | replace c4 := c4.below hbn)
    (try first | replace c5 := c5.of_eq (hbn.block _ c5.lt) | replace c5 := c5.below hbn)
    (try first | replace r8 := r8.of_eq (hbn.block _ r8.lt) | replace r8 := r8.below hbn)
    (try first | replace r9 := r9.of_eq (hbn.block _ r9.lt) | replace r9 := r9.below hbn)
    (try first | replace d10 := d10.of_eq (hbn.block _ d10.lt) | replace d10 := d10.below hbn)
    (try first | replace d11 := d11.of_eq (hbn.block _ d11.lt) | replace d11 := d11.below hbn)
    (try first | replace r12 := r12.of_eq (hbn.block _ r12.lt) | replace r12 := r12.below hbn)
    (try first | replace r13 := r13.of_eq (hbn.block _ r13.lt) | replace r13 := r13.below hbn)
    (try first | replace rs1 := rs1.of_eq (hbn.block _ rs1.lt) | replace rs1 := rs1.below hbn)
    (try first | replace rs2 := rs2.of_eq (hbn.block _ rs2.lt) | replace rs2 := rs2.below hbn)
    (try first | replace rs3 := rs3.of_eq (hbn.block _ rs3.lt) | replace rs3 := rs3.below hbn)
    (try first | replace rs4 := rs4.of_eq (hbn.block _ rs4.lt) | replace rs4 := rs4.below hbn)
    have n47 := hE 13 (by kernel_rfl)
    change RS _ _ _ at n47
    have n50 := hE 16 (by kernel_rfl)
    change RS _ _ _ at n50
    go_simp
    go_at_call 30
    refine (R_EqualS _ _ (cropL (nearR a) (fineL (ofL q L T))) wn n47 n50 (cropL_tok (fineL_tok (ofL_tok q L T)) _) HCn.out).mono ?_
    rintro e wm ⟨rfl, hbm⟩
    exact hKx () wm trivial hbm
  rintro ⟨⟩
  dsimp only [detS]
  simp only [Act.put, List.setIfInBounds_toArray, List.set_cons_zero, List.set_cons_succ]
  refine wpRL_chunk 4 (by kernel_rfl) ?_
  simp only [List.take_succ_cons, List.take_zero, List.drop_succ_cons, List.drop_zero, Nat.reduceAdd]
  repeat (first | go_big_quiet_skip | (go_big_quiet_want; first | (refine quiet_loadAny (t := 30) rfl _ _ _ rfl (fun w hw => run_load_B (ov_B r8 w hw) Try.isAgg30 (by kernel_rfl)) (by rfl) ?_; simp only [Act.put, List.setIfInBounds_toArray, List.set_cons_zero, List.set_cons_succ]; go_big_quiet_on) | (refine quiet_loadAny (t := 30) rfl _ _ _ rfl (fun w hw => run_load_B (ov_B r9 w hw) Try.isAgg30 (by kernel_rfl)) (by rfl) ?_; simp only [Act.put, List.setIfInBounds_toArray, List.set_cons_zero, List.set_cons_succ]; go_big_quiet_on) | (refine quiet_loadAny (t := 30) rfl _ _ _ rfl (fun w hw => run_load_B (ov_B r12 w hw) Try.isAgg30 (by kernel_rfl)) (by rfl) ?_; simp only [Act.put, List.setIfInBounds_toArray, List.set_cons_zero, List.set_cons_succ]; go_big_quiet_on) | (refine quiet_loadAny (t := 30) rfl _ _ _ rfl (fun w hw => run_load_B (ov_B r13 w hw) Try.isAgg30 (by kernel_rfl)) (by rfl) ?_; simp only [Act.put, List.setIfInBounds_toArray, List.set_cons_zero, List.set_cons_succ]; go_big_quiet_on) | (refine quiet_loadAny (t := 64) rfl _ _ _ rfl (fun w hw => run_load_B (ov_B c4 w hw) Try.isAgg64 (by kernel_rfl)) (by rfl) ?_; simp only [Act.put, List.setIfInBounds_toArray, List.set_cons_zero, List.set_cons_succ]; go_big_quiet_on) | (refine quiet_loadAny (t := 64) rfl _ _ _ rfl (fun w hw => run_load_B (ov_B c5 w hw) Try.isAgg64 (by kernel_rfl)) (by rfl) ?_; simp only [Act.put, List.setIfInBounds_toArray, List.set_cons_zero, List.set_cons_succ]; go_big_quiet_on) | (refine quiet_loadAny (t := 64) rfl _ _ _ rfl (fun w hw => run_load_B (ov_B d10 w hw) Try.isAgg64 (by kernel_rfl)) (by rfl) ?_; simp only [Act.put, List.setIfInBounds_toArray, List.set_cons_zero, List.set_cons_succ]; go_big_quiet_on) | (refine quiet_loadAny (t := 64) rfl _ _ _ rfl (fun w hw => run_load_B (ov_B d11 w hw) Try.isAgg64 (by kernel_rfl)) (by rfl) ?_; simp only [Act.put, List.setIfInBounds_toArray, List.set_cons_zero, List.set_cons_succ]; go_big_quiet_on) | (go_big_quiet_op; go_big_quiet_on)))
  refine wpQuiet_nil ?_
  refine wpRL_callB (by rfl) (by first | rfl | simp [Region.wanted, yielded]) ?_ ?_
  · intro wn hbn hE Kx hKx
    have hsz := B.size
    have hzn := hbn.size
    replace B := B.trans (hbn.mono B.size)
    (try first | replace q1 := q1.of_eq (hbn.block _ q1.lt) | replace q1 := q1.below hbn)
    (try first | replace c4 := c4.of_eq (hbn.block _ c4.lt) | replace c4 := c4.below hbn)
    (try first | replace c5 := c5.of_eq (hbn.block _ c5.lt) | replace c5 := c5.below hbn)
    (try first | replace r8 := r8.of_eq (hbn.block _ r8.lt) | replace r8 := r8.below hbn)
    (try first | replace r9 := r9.of_eq (hbn.block _ r9.lt) | replace r9 := r9.below hbn)
    (try first | replace d10 := d10.of_eq (hbn.block _ d10.lt) | replace d10 := d10.below hbn)
    (try first | replace d11 := d11.of_eq (hbn.block _ d11.lt) | replace d11 := d11.below hbn)
    (try first | replace r12 := r12.of_eq (hbn.block _ r12.lt) | replace r12 := r12.below hbn)
    (try first | replace r13 := r13.of_eq (hbn.block _ r13.lt) | replace r13 := r13.below hbn)
    (try first | replace rs1 := rs1.of_eq (hbn.block _ rs1.lt) | replace rs1 := rs1.below hbn)
    (try first | replace rs2 := rs2.of_eq (hbn.block _ rs2.lt) | replace rs2 := rs2.below hbn)
    (try first | replace rs3 := rs3.of_eq (hbn.block _ rs3.lt) | replace rs3 := rs3.below hbn)
    (try first | replace rs4 := rs4.of_eq (hbn.block _ rs4.lt) | replace rs4 := rs4.below hbn)
    go_simp
    go_at_call 44
    refine (P_EqualS _ _ (cropL (interR (nearR a) (nearR b)) (madeL L)) wn rs3 rs4 (cropL_tok (madeL_tok L) _) HC2.out).mono ?_
    rintro e wm ⟨rfl, hbm⟩
    exact hKx () wm trivial hbm
  rintro ⟨⟩
  dsimp only [detS]
  simp only [Act.put, List.setIfInBounds_toArray, List.set_cons_zero, List.set_cons_succ]
  refine wpRL_chunk 4 (by kernel_rfl) ?_
  simp only [List.take_succ_cons, List.take_zero, List.drop_succ_cons, List.drop_zero, Nat.reduceAdd]
  repeat (first | go_big_quiet_skip | (go_big_quiet_want; first | (refine quiet_loadAny (t := 30) rfl _ _ _ rfl (fun w hw => run_load_B (ov_B r8 w hw) Try.isAgg30 (by kernel_rfl)) (by rfl) ?_; simp only [Act.put, List.setIfInBounds_toArray, List.set_cons_zero, List.set_cons_succ]; go_big_quiet_on) | (refine quiet_loadAny (t := 30) rfl _ _ _ rfl (fun w hw => run_load_B (ov_B r9 w hw) Try.isAgg30 (by kernel_rfl)) (by rfl) ?_; simp only [Act.put, List.setIfInBounds_toArray, List.set_cons_zero, List.set_cons_succ]; go_big_quiet_on) | (refine quiet_loadAny (t := 30) rfl _ _ _ rfl (fun w hw => run_load_B (ov_B r12 w hw) Try.isAgg30 (by kernel_rfl)) (by rfl) ?_; simp only [Act.put, List.setIfInBounds_toArray, List.set_cons_zero, List.set_cons_succ]; go_big_quiet_on) | (refine quiet_loadAny (t := 30) rfl _ _ _ rfl (fun w hw => run_load_B (ov_B r13 w hw) Try.isAgg30 (by kernel_rfl)) (by rfl) ?_; simp only [Act.put, List.setIfInBounds_toArray, List.set_cons_zero, List.set_cons_succ]; go_big_quiet_on) | (refine quiet_loadAny (t := 64) rfl _ _ _ rfl (fun w hw => run_load_B (ov_B c4 w hw) Try.isAgg64 (by kernel_rfl)) (by rfl) ?_; simp only [Act.put, List.setIfInBounds_toArray, List.set_cons_zero, List.set_cons_succ]; go_big_quiet_on) | (refine quiet_loadAny (t := 64) rfl _ _ _ rfl (fun w hw => run_load_B (ov_B c5 w hw) Try.isAgg64 (by kernel_rfl)) (by rfl) ?_; simp only [Act.put, List.setIfInBounds_toArray, List.set_cons_zero, List.set_cons_succ]; go_big_quiet_on) | (refine quiet_loadAny (t := 64) rfl _ _ _ rfl (fun w hw => run_load_B (ov_B d10 w hw) Try.isAgg64 (by kernel_rfl)) (by rfl) ?_; simp only [Act.put, List.setIfInBounds_toArray, List.set_cons_zero, List.set_cons_succ]; go_big_quiet_on) | (refine quiet_loadAny (t := 64) rfl _ _ _ rfl (fun w hw => run_load_B (ov_B d11 w hw) Try.isAgg64 (by kernel_rfl)) (by rfl) ?_; simp only [Act.put, List.setIfInBounds_toArray, List.set_cons_zero, List.set_cons_succ]; go_big_quiet_on) | (go_big_quiet_op; go_big_quiet_on)))
  refine wpQuiet_nil ?_
  refine wpRL_callB (by rfl) (by first | rfl | simp [Region.wanted, yielded]) ?_ ?_
  · intro wn hbn hE Kx hKx
    have hsz := B.size
    have hzn := hbn.size
    replace B := B.trans (hbn.mono B.size)
    (try first | replace q1 := q1.of_eq (hbn.block _ q1.lt) | replace q1 := q1.below hbn)
    (try first | replace c4 := c4.of_eq (hbn.block _ c4.lt) | replace c4 := c4.below hbn)
    (try first | replace c5 := c5.of_eq (hbn.block _ c5.lt) | replace c5 := c5.below hbn)
    (try first | replace r8 := r8.of_eq (hbn.block _ r8.lt) | replace r8 := r8.below hbn)
    (try first | replace r9 := r9.of_eq (hbn.block _ r9.lt) | replace r9 := r9.below hbn)
    (try first | replace d10 := d10.of_eq (hbn.block _ d10.lt) | replace d10 := d10.below hbn)
    (try first | replace d11 := d11.of_eq (hbn.block _ d11.lt) | replace d11 := d11.below hbn)
    (try first | replace r12 := r12.of_eq (hbn.block _ r12.lt) | replace r12 := r12.below hbn)
    (try first | replace r13 := r13.of_eq (hbn.block _ r13.lt) | replace r13 := r13.below hbn)
    (try first | replace rs1 := rs1.of_eq (hbn.block _ rs1.lt) | replace rs1 := rs1.below hbn)
    (try first | replace rs2 := rs2.of_eq (hbn.block _ rs2.lt) | replace rs2 := rs2.below hbn)
    (try first | replace rs3 := rs3.of_eq (hbn.block _ rs3.lt) | replace rs3 := rs3.below hbn)
    (try first | replace rs4 := rs4.of_eq (hbn.block _ rs4.lt) | replace rs4 := rs4.below hbn)
    go_simp
    go_at_call 38
    refine (P_BoundsV _ (madeL L) wn rs2 (madeL_tok L) HM.out (madeL_valid L)).mono ?_
    rintro e wm ⟨rfl, hbm⟩
    exact hKx () wm trivial hbm
  rintro ⟨⟩
  dsimp only [detS]
  simp only [Act.put, List.setIfInBounds_toArray, List.set_cons_zero, List.set_cons_succ]
  refine wpRL_callB (by rfl) (by first | rfl | simp [Region.wanted, yielded]) ?_ ?_
  · intro wn hbn hE Kx hKx
    have hsz := B.size
    have hzn := hbn.size
    replace B := B.trans (hbn.mono B.size)
    (try first | replace q1 := q1.of_eq (hbn.block _ q1.lt) | replace q1 := q1.below hbn)
    (try first | replace c4 := c4.of_eq (hbn.block _ c4.lt) | replace c4 := c4.below hbn)
    (try first | replace c5 := c5.of_eq (hbn.block _ c5.lt) | replace c5 := c5.below hbn)
    (try first | replace r8 := r8.of_eq (hbn.block _ r8.lt) | replace r8 := r8.below hbn)
    (try first | replace r9 := r9.of_eq (hbn.block _ r9.lt) | replace r9 := r9.below hbn)
    (try first | replace d10 := d10.of_eq (hbn.block _ d10.lt) | replace d10 := d10.below hbn)
    (try first | replace d11 := d11.of_eq (hbn.block _ d11.lt) | replace d11 := d11.below hbn)
    (try first | replace r12 := r12.of_eq (hbn.block _ r12.lt) | replace r12 := r12.below hbn)
    (try first | replace r13 := r13.of_eq (hbn.block _ r13.lt) | replace r13 := r13.below hbn)
    (try first | replace rs1 := rs1.of_eq (hbn.block _ rs1.lt) | replace rs1 := rs1.below hbn)
    (try first | replace rs2 := rs2.of_eq (hbn.block _ rs2.lt) | replace rs2 := rs2.below hbn)
    (try first | replace rs3 := rs3.of_eq (hbn.block _ rs3.lt) | replace rs3 := rs3.below hbn)
    (try first | replace rs4 := rs4.of_eq (hbn.block _ rs4.lt) | replace rs4 := rs4.below hbn)
    go_simp
    go_at_call 40
    refine (P_CropV _ (madeL L) _ (boundL (madeL L)) wn rs2 (madeL_tok L) HM.out (madeL_valid L) (cropL_bound (madeL_valid L) (madeL_tok L))).mono ?_
    rintro e wm ⟨v', rfl, hr, hbm⟩
    obtain ⟨a', c', rfl, _⟩ := hr.len
    exact hKx (a', c') wm hr hbm
  rintro ⟨a62, c62⟩
  dsimp only [detS, rasS]
  simp only [Act.put, List.setIfInBounds_toArray, List.set_cons_zero, List.set_cons_succ]
  refine wpRL_chunk 1 (by kernel_rfl) ?_
  simp only [List.take_succ_cons, List.take_zero, List.drop_succ_cons, List.drop_zero, Nat.reduceAdd]
  repeat (first | go_big_quiet_skip | (go_big_quiet_want; first | (refine quiet_loadAny (t := 30) rfl _ _ _ rfl (fun w hw => run_load_B (ov_B r8 w hw) Try.isAgg30 (by kernel_rfl)) (by rfl) ?_; simp only [Act.put, List.setIfInBounds_toArray, List.set_cons_zero, List.set_cons_succ]; go_big_quiet_on) | (refine quiet_loadAny (t := 30) rfl _ _ _ rfl (fun w hw => run_load_B (ov_B r9 w hw) Try.isAgg30 (by kernel_rfl)) (by rfl) ?_; simp only [Act.put, List.setIfInBounds_toArray, List.set_cons_zero, List.set_cons_succ]; go_big_quiet_on) | (refine quiet_loadAny (t := 30) rfl _ _ _ rfl (fun w hw => run_load_B (ov_B r12 w hw) Try.isAgg30 (by kernel_rfl)) (by rfl) ?_; simp only [Act.put, List.setIfInBounds_toArray, List.set_cons_zero, List.set_cons_succ]; go_big_quiet_on) | (refine quiet_loadAny (t := 30) rfl _ _ _ rfl (fun w hw => run_load_B (ov_B r13 w hw) Try.isAgg30 (by kernel_rfl)) (by rfl) ?_; simp only [Act.put, List.setIfInBounds_toArray, List.set_cons_zero, List.set_cons_succ]; go_big_quiet_on) | (refine quiet_loadAny (t := 64) rfl _ _ _ rfl (fun w hw => run_load_B (ov_B c4 w hw) Try.isAgg64 (by kernel_rfl)) (by rfl) ?_; simp only [Act.put, List.setIfInBounds_toArray, List.set_cons_zero, List.set_cons_succ]; go_big_quiet_on) | (refine quiet_loadAny (t := 64) rfl _ _ _ rfl (fun w hw => run_load_B (ov_B c5 w hw) Try.isAgg64 (by kernel_rfl)) (by rfl) ?_; simp only [Act.put, List.setIfInBounds_toArray, List.set_cons_zero, List.set_cons_succ]; go_big_quiet_on) | (refine quiet_loadAny (t := 64) rfl _ _ _ rfl (fun w hw => run_load_B (ov_B d10 w hw) Try.isAgg64 (by kernel_rfl)) (by rfl) ?_; simp only [Act.put, List.setIfInBounds_toArray, List.set_cons_zero, List.set_cons_succ]; go_big_quiet_on) | (refine quiet_loadAny (t := 64) rfl _ _ _ rfl (fun w hw => run_load_B (ov_B d11 w hw) Try.isAgg64 (by kernel_rfl)) (by rfl) ?_; simp only [Act.put, List.setIfInBounds_toArray, List.set_cons_zero, List.set_cons_succ]; go_big_quiet_on) | (go_big_quiet_op; go_big_quiet_on)))
  refine wpQuiet_nil ?_
  refine wpRL_callB (by rfl) (by first | rfl | simp [Region.wanted, yielded]) ?_ ?_
  · intro wn hbn hE Kx hKx
    have hsz := B.size
    have hzn := hbn.size
    replace B := B.trans (hbn.mono B.size)
    (try first | replace q1 := q1.of_eq (hbn.block _ q1.lt) | replace q1 := q1.below hbn)
    (try first | replace c4 := c4.of_eq (hbn.block _ c4.lt) | replace c4 := c4.below hbn)
    (try first | replace c5 := c5.of_eq (hbn.block _ c5.lt) | replace c5 := c5.below hbn)
    (try first | replace r8 := r8.of_eq (hbn.block _ r8.lt) | replace r8 := r8.below hbn)
    (try first | replace r9 := r9.of_eq (hbn.block _ r9.lt) | replace r9 := r9.below hbn)
    (try first | replace d10 := d10.of_eq (hbn.block _ d10.lt) | replace d10 := d10.below hbn)
    (try first | replace d11 := d11.of_eq (hbn.block _ d11.lt) | replace d11 := d11.below hbn)
    (try first | replace r12 := r12.of_eq (hbn.block _ r12.lt) | replace r12 := r12.below hbn)
    (try first | replace r13 := r13.of_eq (hbn.block _ r13.lt) | replace r13 := r13.below hbn)
    (try first | replace rs1 := rs1.of_eq (hbn.block _ rs1.lt) | replace rs1 := rs1.below hbn)
    (try first | replace rs2 := rs2.of_eq (hbn.block _ rs2.lt) | replace rs2 := rs2.below hbn)
    (try first | replace rs3 := rs3.of_eq (hbn.block _ rs3.lt) | replace rs3 := rs3.below hbn)
    (try first | replace rs4 := rs4.of_eq (hbn.block _ rs4.lt) | replace rs4 := rs4.below hbn)
    have n62 := hE 28 (by kernel_rfl)
    change RS _ _ _ at n62
    go_simp
    go_at_call 44
    refine (P_EqualS _ _ (madeL L) wn n62 rs2 (madeL_tok L) HM.out).mono ?_
    rintro e wm ⟨rfl, hbm⟩
    exact hKx () wm trivial hbm
  rintro ⟨⟩
  dsimp only [detS]
  simp only [Act.put, List.setIfInBounds_toArray, List.set_cons_zero, List.set_cons_succ]
  refine wpRL_chunk 3 (by kernel_rfl) ?_
  simp only [List.take_succ_cons, List.take_zero, List.drop_succ_cons, List.drop_zero, Nat.reduceAdd]
  repeat (first | go_big_quiet_skip | (go_big_quiet_want; first | (refine quiet_loadAny (t := 30) rfl _ _ _ rfl (fun w hw => run_load_B (ov_B r8 w hw) Try.isAgg30 (by kernel_rfl)) (by rfl) ?_; simp only [Act.put, List.setIfInBounds_toArray, List.set_cons_zero, List.set_cons_succ]; go_big_quiet_on) | (refine quiet_loadAny (t := 30) rfl _ _ _ rfl (fun w hw => run_load_B (ov_B r9 w hw) Try.isAgg30 (by kernel_rfl)) (by rfl) ?_; simp only [Act.put, List.setIfInBounds_toArray, List.set_cons_zero, List.set_cons_succ]; go_big_quiet_on) | (refine quiet_loadAny (t := 30) rfl _ _ _ rfl (fun w hw => run_load_B (ov_B r12 w hw) Try.isAgg30 (by kernel_rfl)) (by rfl) ?_; simp only [Act.put, List.setIfInBounds_toArray, List.set_cons_zero, List.set_cons_succ]; go_big_quiet_on) | (refine quiet_loadAny (t := 30) rfl _ _ _ rfl (fun w hw => run_load_B (ov_B r13 w hw) Try.isAgg30 (by kernel_rfl)) (by rfl) ?_; simp only [Act.put, List.setIfInBounds_toArray, List.set_cons_zero, List.set_cons_succ]; go_big_quiet_on) | (refine quiet_loadAny (t := 64) rfl _ _ _ rfl (fun w hw => run_load_B (ov_B c4 w hw) Try.isAgg64 (by kernel_rfl)) (by rfl) ?_; simp only [Act.put, List.setIfInBounds_toArray, List.set_cons_zero, List.set_cons_succ]; go_big_quiet_on) | (refine quiet_loadAny (t := 64) rfl _ _ _ rfl (fun w hw => run_load_B (ov_B c5 w hw) Try.isAgg64 (by kernel_rfl)) (by rfl) ?_; simp only [Act.put, List.setIfInBounds_toArray, List.set_cons_zero, List.set_cons_succ]; go_big_quiet_on) | (refine quiet_loadAny (t := 64) rfl _ _ _ rfl (fun w hw => run_load_B (ov_B d10 w hw) Try.isAgg64 (by kernel_rfl)) (by rfl) ?_; simp only [Act.put, List.setIfInBounds_toArray, List.set_cons_zero, List.set_cons_succ]; go_big_quiet_on) | (refine quiet_loadAny (t := 64) rfl _ _ _ rfl (fun w hw => run_load_B (ov_B d11 w hw) Try.isAgg64 (by kernel_rfl)) (by rfl) ?_; simp only [Act.put, List.setIfInBounds_toArray, List.set_cons_zero, List.set_cons_succ]; go_big_quiet_on) | (go_big_quiet_op; go_big_quiet_on)))
  refine wpQuiet_nil ?_
  refine wpRL_callB (by rfl) (by first | rfl | simp [Region.wanted, yielded]) ?_ ?_
  · intro wn hbn hE Kx hKx
    have hsz := B.size
    have hzn := hbn.size
    replace B := B.trans (hbn.mono B.size)
    (try first | replace q1 := q1.of_eq (hbn.block _ q1.lt) | replace q1 := q1.below hbn)
    (try first | replace c4 := c4.of_eq (hbn.block _ c4.lt) | replace c4 := c4.below hbn)
    (try first | replace c5 := c5.of_eq (hbn.block _ c5.lt) | replace c5 := c5.below hbn)
    (try first | replace r8 := r8.of_eq (hbn.block _ r8.lt) | replace r8 := r8.below hbn)
    (try first | replace r9 := r9.of_eq (hbn.block _ r9.lt) | replace r9 := r9.below hbn)
    (try first | replace d10 := d10.of_eq (hbn.block _ d10.lt) | replace d10 := d10.below hbn)
    (try first | replace d11 := d11.of_eq (hbn.block _ d11.lt) | replace d11 := d11.below hbn)
    (try first | replace r12 := r12.of_eq (hbn.block _ r12.lt) | replace r12 := r12.below hbn)
    (try first | replace r13 := r13.of_eq (hbn.block _ r13.lt) | replace r13 := r13.below hbn)
    (try first | replace rs1 := rs1.of_eq (hbn.block _ rs1.lt) | replace rs1 := rs1.below hbn)
    (try first | replace rs2 := rs2.of_eq (hbn.block _ rs2.lt) | replace rs2 := rs2.below hbn)
    (try first | replace rs3 := rs3.of_eq (hbn.block _ rs3.lt) | replace rs3 := rs3.below hbn)
    (try first | replace rs4 := rs4.of_eq (hbn.block _ rs4.lt) | replace rs4 := rs4.below hbn)
    go_simp
    go_at_call 16
    refine (P_ValidB _ (cropL (interR (nearR a) (nearR b)) (madeL L)) _ wn rs3 (cropL_tok (madeL_tok L) _) HC2.out HV.out).mono ?_
    rintro e wm ⟨rfl, hbm⟩
    exact hKx () wm trivial hbm
  rintro ⟨⟩
  dsimp only [detS]
  simp only [Act.put, List.setIfInBounds_toArray, List.set_cons_zero, List.set_cons_succ]
  refine wpRL_chunk 2 (by kernel_rfl) ?_
  simp only [List.take_succ_cons, List.take_zero, List.drop_succ_cons, List.drop_zero, Nat.reduceAdd]
  repeat (first | go_big_quiet_skip | (go_big_quiet_want; first | (refine quiet_loadAny (t := 30) rfl _ _ _ rfl (fun w hw => run_load_B (ov_B r8 w hw) Try.isAgg30 (by kernel_rfl)) (by rfl) ?_; simp only [Act.put, List.setIfInBounds_toArray, List.set_cons_zero, List.set_cons_succ]; go_big_quiet_on) | (refine quiet_loadAny (t := 30) rfl _ _ _ rfl (fun w hw => run_load_B (ov_B r9 w hw) Try.isAgg30 (by kernel_rfl)) (by rfl) ?_; simp only [Act.put, List.setIfInBounds_toArray, List.set_cons_zero, List.set_cons_succ]; go_big_quiet_on) | (refine quiet_loadAny (t := 30) rfl _ _ _ rfl (fun w hw => run_load_B (ov_B r12 w hw) Try.isAgg30 (by kernel_rfl)) (by rfl) ?_; simp only [Act.put, List.setIfInBounds_toArray, List.set_cons_zero, List.set_cons_succ]; go_big_quiet_on) | (refine quiet_loadAny (t := 30) rfl _ _ _ rfl (fun w hw => run_load_B (ov_B r13 w hw) Try.isAgg30 (by kernel_rfl)) (by rfl) ?_; simp only [Act.put, List.setIfInBounds_toArray, List.set_cons_zero, List.set_cons_succ]; go_big_quiet_on) | (refine quiet_loadAny (t := 64) rfl _ _ _ rfl (fun w hw => run_load_B (ov_B c4 w hw) Try.isAgg64 (by kernel_rfl)) (by rfl) ?_; simp only [Act.put, List.setIfInBounds_toArray, List.set_cons_zero, List.set_cons_succ]; go_big_quiet_on) | (refine quiet_loadAny (t := 64) rfl _ _ _ rfl (fun w hw => run_load_B (ov_B c5 w hw) Try.isAgg64 (by kernel_rfl)) (by rfl) ?_; simp only [Act.put, List.setIfInBounds_toArray, List.set_cons_zero, List.set_cons_succ]; go_big_quiet_on) | (refine quiet_loadAny (t := 64) rfl _ _ _ rfl (fun w hw => run_load_B (ov_B d10 w hw) Try.isAgg64 (by kernel_rfl)) (by rfl) ?_; simp only [Act.put, List.setIfInBounds_toArray, List.set_cons_zero, List.set_cons_succ]; go_big_quiet_on) | (refine quiet_loadAny (t := 64) rfl _ _ _ rfl (fun w hw => run_load_B (ov_B d11 w hw) Try.isAgg64 (by kernel_rfl)) (by rfl) ?_; simp only [Act.put, List.setIfInBounds_toArray, List.set_cons_zero, List.set_cons_succ]; go_big_quiet_on) | (go_big_quiet_op; go_big_quiet_on)))
  refine wpQuiet_nil ?_
  refine wpRL_nil ?_
  intro wn hbn hE
  have hsz := B.size
  have hzn := hbn.size
  replace B := B.trans (hbn.mono B.size)
  (try first | replace q1 := q1.of_eq (hbn.block _ q1.lt) | replace q1 := q1.below hbn)
  (try first | replace c4 := c4.of_eq (hbn.block _ c4.lt) | replace c4 := c4.below hbn)
  (try first | replace c5 := c5.of_eq (hbn.block _ c5.lt) | replace c5 := c5.below hbn)
  (try first | replace r8 := r8.of_eq (hbn.block _ r8.lt) | replace r8 := r8.below hbn)
  (try first | replace r9 := r9.of_eq (hbn.block _ r9.lt) | replace r9 := r9.below hbn)
  (try first | replace d10 := d10.of_eq (hbn.block _ d10.lt) | replace d10 := d10.below hbn)
  (try first | replace d11 := d11.of_eq (hbn.block _ d11.lt) | replace d11 := d11.below hbn)
  (try first | replace r12 := r12.of_eq (hbn.block _ r12.lt) | replace r12 := r12.below hbn)
  (try first | replace r13 := r13.of_eq (hbn.block _ r13.lt) | replace r13 := r13.below hbn)
  (try first | replace rs1 := rs1.of_eq (hbn.block _ rs1.lt) | replace rs1 := rs1.below hbn)
  (try first | replace rs2 := rs2.of_eq (hbn.block _ rs2.lt) | replace rs2 := rs2.below hbn)
  (try first | replace rs3 := rs3.of_eq (hbn.block _ rs3.lt) | replace rs3 := rs3.below hbn)
  (try first | replace rs4 := rs4.of_eq (hbn.block _ rs4.lt) | replace rs4 := rs4.below hbn)
  have n38 := hE 4
  change RS _ _ _ at n38
  have n41 := hE 7
  change RS _ _ _ at n41
  have n47 := hE 13
  change RS _ _ _ at n47
  have n50 := hE 16
  change RS _ _ _ at n50
  have n62 := hE 28
  change RS _ _ _ at n62
  clear hE
  try simp only [List.drop_succ_cons, List.drop_zero]
  refine NoPan.normal ?_
  go_wp2
  go_ret
  exact ⟨rfl, B⟩
namespace rasterCrop
open Go.ChangeShapes Go.WideShapes Go.ChangeAt Go.RowKit
open Go.ChangeMaps (open_string shut_string)
set_option maxRecDepth 100000 in
theorem lifted (os : Os) (started : os.Started) (H : Type) (enc : TypeId × Value → H) :
    ReturnsInHanded {} Try.checked os 10 .any (Rows.rasterCropSpec.pre6 enc Try.prog Try.f10 Rows.rasterCropRow.domain false) (Rows.rasterCropSpec.post enc Try.prog Try.f10 false true false false) := by
  refine returnsInHanded_of_change_sized (C := Try.checked) own started (by kernel_rfl) Try.func10
    (ChangeSpec.witness6 (enc := enc) (C := Try.checked) false ⟨#[], #[.agg #[.slice none 0 0, .int .i64 0, .int .i64 0, .int .i64 0, .slice none 0 0, .int .i64 0], .agg #[.int .i64 0, .int .i64 0, .int .i64 0, .int .i64 0], .agg #[.int .i64 0, .int .i64 0, .int .i64 0, .int .i64 0]], []⟩ 8 (by kernel_rfl) (by kernel_rfl) (by kernel_rfl) (by kernel_rfl)) ?_
  intro W base args ds gs before hval0 hW hcnd hsz0 _
  have hval : ∀ (j : Nat) t v, Try.f10.params[j]? = some t → args[j]? = some v → Value.okWide Try.prog W .any base t v := hval0
  have hW' := hW
  obtain ⟨p, q, hA0, hV, rfl, hfz, hnd⟩ := hW
  have hA : DataW.TrodAll enc Try.prog W 0 (fun _ => true) true Try.f10.params.toList args.toList ds p := hA0
  rw [Try.params10] at hA hval hsz0
  obtain ⟨v0, vs0, d0, ds0, p0, q0, hargs, rfl, rfl, h0, r0⟩ := trodAll_cons hA
  obtain ⟨v1, vs1, d1, ds1, p1, q1, rfl, rfl, rfl, h1, r1⟩ := trodAll_cons r0
  obtain ⟨v2, vs2, d2, ds2, p2, q2, rfl, rfl, rfl, h2, r2⟩ := trodAll_cons r1
  obtain ⟨rfl, rfl, rfl⟩ := trodAll_nil r2
  obtain rfl : args = #[v0, v1, v2] := by cases args; simp_all
  obtain ⟨rfl, rfl⟩ := trodVars_none hV
  have hwt0 : ∀ n ∈ DataW.weights Try.prog 26 d0, n ≤ reachBytes := fun n hn => by simpa using List.all_eq_true.1 hsz0 n (DataW.weights_mem_each (j := 0) rfl rfl n hn)
  have k0 := h0
  have lt0 : ∀ x ∈ p0, x.block < W.heap.size := by obtain ⟨m, hm⟩ := k0; exact DataW.trod_lt m _ _ _ hm
  have k1 := h1
  have lt1 : ∀ x ∈ p1, x.block < W.heap.size := by obtain ⟨m, hm⟩ := k1; exact DataW.trod_lt m _ _ _ hm
  have k2 := h2
  have lt2 : ∀ x ∈ p2, x.block < W.heap.size := by obtain ⟨m, hm⟩ := k2; exact DataW.trod_lt m _ _ _ hm
  obtain ⟨a0, vl0, vt0, L0, T0, rfl, hL0, hLn0, hT0, hTn0⟩ := open_raw (hval 0 26 v0 rfl rfl) h0 hwt0
  obtain ⟨c1, rfl, wc1⟩ := open_rect (hval 1 64 v1 rfl rfl) h1
  obtain ⟨c2, rfl, wc2⟩ := open_rect (hval 2 64 v2 rfl rfl) h2
  clear hA0 hval0
  refine (walk_RasterCrop a0 vl0 vt0 L0 T0 c1 c2  wc1 wc2 W hL0 hLn0 hT0 hTn0).mono fun e W' ⟨he, bel⟩ => ?_
  subst he
  exact ⟨_, rfl, _, _, _, [], _, [], hW', trodAll_mk1 (shut_bool Try.underlying4 _), (trodAll_cons_mk (Below.trod laidOut (by kernel_rfl) (of_decide_eq_true (by kernel_rfl)) k0 bel lt0) (trodAll_cons_mk (Below.trod laidOut (by kernel_rfl) (of_decide_eq_true (by kernel_rfl)) k1 bel lt1) (trodAll_cons_mk (Below.trod laidOut (by kernel_rfl) (of_decide_eq_true (by kernel_rfl)) k2 bel lt2) trodAll_mk0))), rfl, bel.frame _, fun h => by cases h⟩
theorem over : Rows.rasterCropRow.holds Try.pinned (OpenSpec.ofChange Rows.rasterCropSpec) :=
  OpenClaim.holds_of_wide 10 Try.f10 rfl rfl rfl rfl rfl rfl rfl ⟨rfl, rfl, rfl, rfl, rfl⟩ rfl rfl rfl rfl rfl (by kernel_rfl) Try.func10 (by kernel_rfl)
    (of_decide_eq_true (by kernel_rfl)) (by unfold Func.isWrapper; first | (rw [if_pos (by decide +kernel)]; kernel_rfl) | (rw [if_neg (by decide +kernel)]; exact ⟨rfl, rfl⟩))
    (fun os started H enc _ => lifted os started H enc)
/-- THE STATEMENT: RasterCrop returns true for every input, and its arguments read as they did. -/
theorem proved : Rows.RasterCropSaid := over
end rasterCrop
end Go.Proofs.Ytppccnjckiedlaa
