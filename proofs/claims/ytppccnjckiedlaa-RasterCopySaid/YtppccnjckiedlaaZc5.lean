/- RasterCopy: pasting the image of a rectangle of one raster into another transfers exactly this rectangle; the law returns true for every input, and its arguments read as they did. No condition. -/
import Derived.Test.YtppccnjckiedlaaZc4

namespace Go.Proofs.Ytppccnjckiedlaa
open Go.RowKit Go.Shelf Pl
open Go.ChangeShapes Go.WideShapes Go.ChangeAt
set_option linter.unusedVariables false
set_option linter.unusedSimpArgs false
set_option maxRecDepth 20000
section
variable {H : Type} {enc : TypeId × Value → H} {w : World} {base : Nat} {spare : Nat → Bool} {held : Bool}
theorem open_ints2 {r : Reach} {b0 : Nat} {v : Value} {d : DataW H} {p : List MemPlace} (hv : Value.okWide Try.prog w r b0 97 v)
    (h : DataW.Trod enc Try.prog w base spare held 97 v d p) (hw : ∀ n ∈ d.weights Try.prog 97, n ≤ reachBytes) :
    ∃ (vL vM : Value) (L M : List Int), v = .agg #[vL, vM] ∧ RSE inE vL L w ∧ L.length ≤ 17592186044416 ∧ RSE inE vM M w ∧ M.length ≤ 17592186044416 := by
  obtain ⟨cs, rfl, hsz⟩ := okWide_array Try.underlying97 hv
  obtain ⟨fuel, hf⟩ := h
  have hC : Try.prog.cellsOf 22 = 1 := by kernel_rfl
  have hC2 : Try.prog.cellsOf 97 = 2 := by kernel_rfl
  rw [hC2] at hsz
  obtain ⟨xs, m, _, hx0, _, hxl, hx⟩ := DataW.trod_array Try.underlying97 hf
  obtain ⟨l, rfl⟩ : ∃ l : List Value, cs = l.toArray := ⟨cs.toList, by simp⟩
  match l, (by simpa using hsz : l.length = 2) with
  | [c0, c1], _ =>
    have h0 := hx 0 (by omega)
    have h1 := hx 1 (by omega)
    simp only [hC, Value.cells] at h0 h1
    match xs, hxl with
    | [y0, y1], _ =>
      have hd : d = .agg [y0.1, y1.1] := (Prod.mk.inj hx0).1
      have hww : ∀ n, n ∈ y0.1.weights Try.prog 22 ∨ n ∈ y1.1.weights Try.prog 22 → n ≤ reachBytes := fun n hn => by
        refine hw n ?_
        rw [hd]
        simp only [DataW.weights, Try.underlying97]
        simp only [DataW.weightsAll, List.mem_append]
        rcases hn with hn | hn
        · exact .inl hn
        · exact .inr (.inl hn)
      obtain ⟨vL, L, eL, rL, lL⟩ := trod_ints (x := y0) (by simpa using h0) (fun n hn => hww n (.inl hn))
      obtain ⟨vM, M, eM, rM, lM⟩ := trod_ints (x := y1) (by simpa using h1) (fun n hn => hww n (.inr hn))
      simp at eL eM
      subst eL; subst eM
      exact ⟨_, _, L, M, rfl, rL, lL, rM, lM⟩
end
def nu8 : Value → Bool
  | .int .u8 _ => false
  | _ => true
theorem RSE.mkP {g o c : Nat} {L : List Px} {w : World} (h : RCellsE pxE g o L w) (hc : L.length ≤ c) {n : Nat} (hn : L.length = n) : RSE pxE (.slice (some ⟨g, o, none⟩) n c) L w := by
  subst hn
  exact .inr (.inl ⟨g, o, c, rfl, hc, fun _ => h⟩)
theorem P_GetC (v : Value) (ls : List TA) (x y : Int) (p : Px) (w : World) (h : RS v ls w) (hn : ls.length ≤ maxLen) (hx : (Lit.int .i64 x).wf = true) (hy : (Lit.int .i64 y).wf = true) (e1 : getL ls x y = p) : Calls Try.prog 20 #[.agg #[v], .int .i64 x, .int .i64 y] w fun e w' => e = .returned (Px.v p) ∧ Below w.heap.size w w' := e1 ▸ P_GetR v ls x y w h hn hx hy
theorem P_ImageE (v : Value) (ls : List TA) (P : List Px) (c : Rc) (w : World) (h : RS v ls w) (tk : TokL ls) (hn : ls.length ≤ maxLen) (hv : validL ls = true) (hE : fitsE c = 0) (hP : imgL c ls = P) : Calls Try.prog 33 #[.agg #[v], .agg (rcA c)] w fun e w' => ∃ g o cp, e = .returned (.tuple #[.agg (imgC c (.slice (some ⟨g, o, none⟩) (areaN c) cp)), .int .i64 0]) ∧ RCellsE pxE g o P w' ∧ P.length ≤ cp ∧ Below w.heap.size w w' := by
  subst hP
  refine (P_Image_ok v ls c w h tk hn hE).mono fun e w' ⟨u, he, hr, hb⟩ => ?_
  rw [imgPL_eq (fitsE_zero hE) (fineL_valid ls), fineL_of hv] at hr
  obtain ⟨a, cp, rfl, hcp⟩ := hr.len
  have hp := (area_bd (fitsE_zero hE)).1
  obtain ⟨g, o, rfl, hc⟩ := hr.at (by rw [imgL_len]; omega)
  rw [imgL_len] at he
  exact ⟨g, o, cp, he, hc, hcp, hb⟩
theorem P_EqualT (v u : Value) (ls ks : List TA) (w : World) (h : RS v ls w) (h' : RS u ks w) (tk : TokL ls) (tk' : TokL ks) (hn : ls.length ≤ maxLen) (hn' : ks.length ≤ maxLen) (e : eqL (fineL ls) (fineL ks) = true) : Calls Try.prog 44 #[.agg #[v], .agg #[u]] w fun e w' => e = .returned (.bool true) ∧ Below w.heap.size w w' := by
  have := P_Equal v u ls ks w h h' tk tk' hn hn'
  rw [e] at this
  exact this
theorem rce_nb {g o b : Nat} {t : TypeId} {cs : Array Value} {ls : List Px} {w : World} (h : RCellsE pxE g o ls w) (hn : 0 < ls.length) (k : AtB t w b cs) (hs : cs.all nu8 = true) : g ≠ b := by
  rintro rfl
  have h0 := h.2 0 _ (List.getElem?_eq_getElem hn) 0 (by omega)
  simp only [Nat.zero_mul, Nat.add_zero] at h0
  rw [(cells_of_block k).1] at h0
  have h2 : cs[o]? = some (.int .u8 ls[0].r) := h0
  have h3 := Array.all_eq_true_iff_forall_mem.1 hs _ (Array.mem_of_getElem? h2)
  simp [nu8] at h3
set_option maxHeartbeats 8000000 in
theorem walk_RasterCopy (vL vM : Value) (L M : List Int) (c : Rc) (x0 y0 : Int) (hc : (Lit.int .i64 c.x0).wf = true ∧ (Lit.int .i64 c.y0).wf = true ∧ (Lit.int .i64 c.x1).wf = true ∧ (Lit.int .i64 c.y1).wf = true) (hw : (Lit.int .i64 x0).wf = true ∧ (Lit.int .i64 y0).wf = true) (w : World) (hL : RSE inE vL L w) (hLn : L.length ≤ 17592186044416) (hM : RSE inE vM M w) (hMn : M.length ≤ 17592186044416) :
    Calls Try.prog 13 #[.agg #[vL, vM], Rc.v c, .agg #[.int .i64 x0, .int .i64 y0]] w fun e w' => e = .returned (.bool true) ∧ Below w.heap.size w w' := by
  have B := Below.refl w.heap.size w
  have HL := Lib.hid hL
  have HM := Lib.hid hM
  clear hL hM
  have HE := Lib.hid (near_fits' c)
  have n1 := Lib.hid (len_maxLen (Nat.le_trans (madeL_len L) (by omega)))
  have n2 := Lib.hid (len_maxLen (Nat.le_trans (madeL_len M) (by omega)))
  have nR := Lib.hid (Nat.le_trans (pstR_len (nearR c) (imgL (nearR c) (madeL L)) (madeL M)) (show 1024 ≤ maxLen from by unfold maxLen; omega))
  have nQ := Lib.hid (Nat.le_trans (pstR_len (nearR c) (imgL (nearR c) (madeL L)) (madeL L)) (show 1024 ≤ maxLen from by unfold maxLen; omega))
  have okP := Lib.hid (imgL_okL (madeL_tok L) (nearR c))
  have tR := Lib.hid (pstR_tok (c := (nearR c)) okP.out (madeL_tok M))
  have tQ := Lib.hid (pstR_tok (c := (nearR c)) okP.out (madeL_tok L))
  have CE1 := Lib.hid (copy_R c (madeL_valid L) (madeL_valid M) (madeL_len40 M)).2
  have CE2 := Lib.hid (copy_R c (madeL_valid L) (madeL_valid L) (madeL_len40 L)).2
  have HPL := Lib.hid (imgL_len (nearR c) (madeL L))
  have hap := (area_bd (fitsE_zero (near_fits' c)))
  have hPn := Lib.hid (show (imgL (nearR c) (madeL L)).length ≤ maxLen from by rw [HPL.out]; unfold maxLen; omega)
  have CI := Lib.hid (copy_img c (madeL_valid L) (madeL_valid M) (madeL_len40 M))
  have CS := Lib.hid (show eqL (fineL (pstR (nearR c) (imgL (nearR c) (madeL L)) (madeL L))) (fineL (madeL L)) = true from by rw [fineL_of (pstR_valid _ _ _), fineL_of (madeL_valid L)]; exact copy_same c (madeL_valid L) (madeL_len40 L))
  have CG := Lib.hid (fun x y => copy_get c (madeL_valid L) (madeL_valid M) (madeL_len40 M) x y)
  obtain ⟨hap1, hap2⟩ := hap
  simp only [Rc.v_A]
  go_enter Try.func13, Try.ntmps13
  go_upto_region 0 with fail
  refine wp_region_lit ?_
  try simp only [List.getElem_toArray, List.getElem_cons_zero, List.getElem_cons_succ]
  (refine wpList_boxB (t := 97) rfl _ rfl _ rfl ?_; intro b_q3 wn hle hge ht hbn hzn; have hsz := B.size; replace B := B.trans (hbn.mono (by omega)); have hln := Nat.lt_of_lt_of_eq (Nat.lt_succ_self _) hzn.symm; clear hzn; have q3 := ht; clear ht; simp only [Act.put, putS])
  (refine wpList_boxB (t := 64) rfl _ rfl _ rfl ?_; intro b_c4 wn hle hge ht hbn hzn; have hsz := B.size; replace B := B.trans (hbn.mono (by omega)); have hln := Nat.lt_of_lt_of_eq (Nat.lt_succ_self _) hzn.symm; clear hzn; (try first | (have hlt := q3.lt; replace q3 := q3.of_eq (hbn.block _ (by omega))) | replace q3 := q3.below (hbn.mono hle)); have c4 := ht; clear ht; simp only [Act.put, putS])
  (refine wpList_boxB (t := 43) rfl _ rfl _ rfl ?_; intro b_a5 wn hle hge ht hbn hzn; have hsz := B.size; replace B := B.trans (hbn.mono (by omega)); have hln := Nat.lt_of_lt_of_eq (Nat.lt_succ_self _) hzn.symm; clear hzn; (try first | (have hlt := q3.lt; replace q3 := q3.of_eq (hbn.block _ (by omega))) | replace q3 := q3.below (hbn.mono hle)); (try first | (have hlt := c4.lt; replace c4 := c4.of_eq (hbn.block _ (by omega))) | replace c4 := c4.below (hbn.mono hle)); have a5 := ht; clear ht; simp only [Act.put, putS])
  refine wpList_chunk 1 (by kernel_rfl) ?_
  simp only [takS, Nat.reduceAdd]
  repeat (first | go_big_quiet_skip | (go_big_quiet_want; first | (go_big_quiet_op; go_big_quiet_on)))
  refine wpQuiet_nil ?_
  refine wpList_nil ?_
  go_upto_region 1 with fail
  refine wp_region_lit ?_
  try simp only [List.getElem_toArray, List.getElem_cons_zero, List.getElem_cons_succ]
  refine wpList_callF (by first | rfl | simp [Region.wanted, yielded]) rfl (enters_of Try.func14 (by kernel_rfl) rfl) (by simp only [List.map_toArray, List.map_cons, List.map_nil, Act.eval, Array.getD_eq_getD_getElem?, List.getElem?_toArray, List.getElem?_cons_succ, List.getElem?_cons_zero, Option.getD_some]; rfl) ?_
  refine (sanity08 _).mono ?_
  rintro e wn ⟨rfl, hbn⟩
  have hsz := B.size
  have hzn := hbn.size
  replace B := B.trans (hbn.mono B.size)
  (try first | replace q3 := q3.of_eq (hbn.block _ q3.lt) | replace q3 := q3.below hbn)
  (try first | replace c4 := c4.of_eq (hbn.block _ c4.lt) | replace c4 := c4.below hbn)
  (try first | replace a5 := a5.of_eq (hbn.block _ a5.lt) | replace a5 := a5.below hbn)
  refine ⟨_, rfl, ?_⟩
  simp only [Act.put, putS]
  refine wpList_chunk 1 (by kernel_rfl) ?_
  simp only [takS, Nat.reduceAdd]
  repeat (first | go_big_quiet_skip | (go_big_quiet_want; first | (go_big_quiet_op; go_big_quiet_on)))
  refine wpQuiet_nil ?_
  refine wpList_nil ?_
  go_upto_region 2 with fail
  refine wp_region_lit ?_
  try simp only [List.getElem_toArray, List.getElem_cons_zero, List.getElem_cons_succ]
  refine wpList_chunk 2 (by kernel_rfl) ?_
  simp only [takS, Nat.reduceAdd]
  repeat (first | go_big_quiet_skip | (go_big_quiet_want; first | (refine quiet_loadAny (t := 22) rfl _ _ _ rfl (fun w hw => run_load_sli ((ov_B q3 w hw).cellL 0 rfl)) (by rfl) ?_; simp only [Act.put, putS]; go_big_quiet_on) | (refine quiet_loadAny (t := 22) rfl _ _ _ rfl (fun w hw => run_load_sli ((ov_B q3 w hw).cellL 1 rfl)) (by rfl) ?_; simp only [Act.put, putS]; go_big_quiet_on) | (go_big_quiet_op; go_big_quiet_on)))
  refine wpQuiet_nil ?_
  refine wpList_callF (by first | rfl | simp [Region.wanted, yielded]) rfl (enters_of Try.func18 (by kernel_rfl) rfl) (by simp only [List.map_toArray, List.map_cons, List.map_nil, Act.eval, Array.getD_eq_getD_getElem?, List.getElem?_toArray, List.getElem?_cons_succ, List.getElem?_cons_zero, Option.getD_some]; rfl) ?_
  refine (R_Made8O _ L _ (HL.out.below B) hLn).mono ?_
  rintro e wn ⟨a1, c1, rfl, rs1, hbn⟩
  have hsz := B.size
  have hzn := hbn.size
  replace B := B.trans (hbn.mono B.size)
  (try first | replace q3 := q3.of_eq (hbn.block _ q3.lt) | replace q3 := q3.below hbn)
  (try first | replace c4 := c4.of_eq (hbn.block _ c4.lt) | replace c4 := c4.below hbn)
  (try first | replace a5 := a5.of_eq (hbn.block _ a5.lt) | replace a5 := a5.below hbn)
  (try first | replace rs1 := rs1.of_eq (hbn.block _ rs1.lt) | replace rs1 := rs1.below hbn)
  refine ⟨_, rfl, ?_⟩
  simp only [Act.put, putS]
  (refine wpList_allocBk (t := 30) rfl _ (run_alloc_R _ _ rfl) ?_; intro b_r8 wn hle hge ht hbn hzn; have hsz := B.size; replace B := B.trans (hbn.mono (by omega)); have hln := Nat.lt_of_lt_of_eq (Nat.lt_succ_self _) hzn.symm; clear hzn; (try first | (have hlt := q3.lt; replace q3 := q3.of_eq (hbn.block _ (by omega))) | replace q3 := q3.below (hbn.mono hle)); (try first | (have hlt := c4.lt; replace c4 := c4.of_eq (hbn.block _ (by omega))) | replace c4 := c4.below (hbn.mono hle)); (try first | (have hlt := a5.lt; replace a5 := a5.of_eq (hbn.block _ (by omega))) | replace a5 := a5.below (hbn.mono hle)); (try first | (have hlt := rs1.lt; replace rs1 := rs1.of_eq (hbn.block _ (by omega))) | replace rs1 := rs1.below (hbn.mono hle)); have r8 := ht; clear ht; simp only [Act.put, putS])
  (refine wpList_storeB (t := 30) rfl _ _ rfl _ rfl _ rfl r8 (by kernel_rfl) rfl (by simp [rcA, imgC, Value.oneCell']) ?_; have r8o := r8; clear r8; intro wn ht hcn hzn; (try replace rs1 := rs1.chg r8o (by simp [rcA, imgC]) hcn); (try replace rs2 := rs2.chg r8o (by simp [rcA, imgC]) hcn); (try replace rs3 := rs3.chg r8o (by simp [rcA, imgC]) hcn); (try replace rs4 := rs4.chg r8o (by simp [rcA, imgC]) hcn); have hsz := B.size; replace hzn := Nat.le_of_eq hzn.symm; replace B := Chg.below B hcn (by omega) B.size; (try replace q3 := q3.of_eq (hcn.block _ q3.lt (by omega))); (try replace c4 := c4.of_eq (hcn.block _ c4.lt (by omega))); (try replace a5 := a5.of_eq (hcn.block _ a5.lt (by omega))); (try replace ce1 := ce1.of_eq (hcn.block _ ce1.lt (by first | omega | exact fun e => by subst e; exact (rce_nb ce1 (by rw [HPL.out]; omega) r8o (by simp [rcA, imgC, nu8])) rfl))); (try replace ce2 := ce2.of_eq (hcn.block _ ce2.lt (by first | omega | exact fun e => by subst e; exact (rce_nb ce2 (by rw [HPL.out]; omega) r8o (by simp [rcA, imgC, nu8])) rfl))); have r8 := ht; clear ht; simp only [Act.put, putS])
  refine wpList_nil ?_
  go_upto_region 3 with fail
  refine wp_region_lit ?_
  try simp only [List.getElem_toArray, List.getElem_cons_zero, List.getElem_cons_succ]
  refine wpList_chunk 2 (by kernel_rfl) ?_
  simp only [takS, Nat.reduceAdd]
  repeat (first | go_big_quiet_skip | (go_big_quiet_want; first | (refine quiet_loadAny (t := 22) rfl _ _ _ rfl (fun w hw => run_load_sli ((ov_B q3 w hw).cellL 0 rfl)) (by rfl) ?_; simp only [Act.put, putS]; go_big_quiet_on) | (refine quiet_loadAny (t := 22) rfl _ _ _ rfl (fun w hw => run_load_sli ((ov_B q3 w hw).cellL 1 rfl)) (by rfl) ?_; simp only [Act.put, putS]; go_big_quiet_on) | (go_big_quiet_op; go_big_quiet_on)))
  refine wpQuiet_nil ?_
  refine wpList_callF (by first | rfl | simp [Region.wanted, yielded]) rfl (enters_of Try.func18 (by kernel_rfl) rfl) (by simp only [List.map_toArray, List.map_cons, List.map_nil, Act.eval, Array.getD_eq_getD_getElem?, List.getElem?_toArray, List.getElem?_cons_succ, List.getElem?_cons_zero, Option.getD_some]; rfl) ?_
  refine (R_Made8O _ M _ (HM.out.below B) hMn).mono ?_
  rintro e wn ⟨a2, c2, rfl, rs2, hbn⟩
  have hsz := B.size
  have hzn := hbn.size
  replace B := B.trans (hbn.mono B.size)
  (try first | replace q3 := q3.of_eq (hbn.block _ q3.lt) | replace q3 := q3.below hbn)
  (try first | replace c4 := c4.of_eq (hbn.block _ c4.lt) | replace c4 := c4.below hbn)
  (try first | replace a5 := a5.of_eq (hbn.block _ a5.lt) | replace a5 := a5.below hbn)
  (try first | replace r8 := r8.of_eq (hbn.block _ r8.lt) | replace r8 := r8.below hbn)
  (try first | replace ce1 := ce1.of_eq (hbn.block _ ce1.lt) | replace ce1 := ce1.below hbn)
  (try first | replace ce2 := ce2.of_eq (hbn.block _ ce2.lt) | replace ce2 := ce2.below hbn)
  (try first | replace rs1 := rs1.of_eq (hbn.block _ rs1.lt) | replace rs1 := rs1.below hbn)
  (try first | replace rs2 := rs2.of_eq (hbn.block _ rs2.lt) | replace rs2 := rs2.below hbn)
  refine ⟨_, rfl, ?_⟩
  simp only [Act.put, putS]
  (refine wpList_allocBk (t := 30) rfl _ (run_alloc_R _ _ rfl) ?_; intro b_r9 wn hle hge ht hbn hzn; have hsz := B.size; replace B := B.trans (hbn.mono (by omega)); have hln := Nat.lt_of_lt_of_eq (Nat.lt_succ_self _) hzn.symm; clear hzn; (try first | (have hlt := q3.lt; replace q3 := q3.of_eq (hbn.block _ (by omega))) | replace q3 := q3.below (hbn.mono hle)); (try first | (have hlt := c4.lt; replace c4 := c4.of_eq (hbn.block _ (by omega))) | replace c4 := c4.below (hbn.mono hle)); (try first | (have hlt := a5.lt; replace a5 := a5.of_eq (hbn.block _ (by omega))) | replace a5 := a5.below (hbn.mono hle)); (try first | (have hlt := r8.lt; replace r8 := r8.of_eq (hbn.block _ (by omega))) | replace r8 := r8.below (hbn.mono hle)); (try first | (have hlt := ce1.lt; replace ce1 := ce1.of_eq (hbn.block _ (by omega))) | replace ce1 := ce1.below (hbn.mono hle)); (try first | (have hlt := ce2.lt; replace ce2 := ce2.of_eq (hbn.block _ (by omega))) | replace ce2 := ce2.below (hbn.mono hle)); (try first | (have hlt := rs1.lt; replace rs1 := rs1.of_eq (hbn.block _ (by omega))) | replace rs1 := rs1.below (hbn.mono hle)); (try first | (have hlt := rs2.lt; replace rs2 := rs2.of_eq (hbn.block _ (by omega))) | replace rs2 := rs2.below (hbn.mono hle)); have r9 := ht; clear ht; simp only [Act.put, putS])
  (refine wpList_storeB (t := 30) rfl _ _ rfl _ rfl _ rfl r9 (by kernel_rfl) rfl (by simp [rcA, imgC, Value.oneCell']) ?_; have r9o := r9; clear r9; intro wn ht hcn hzn; (try replace rs1 := rs1.chg r9o (by simp [rcA, imgC]) hcn); (try replace rs2 := rs2.chg r9o (by simp [rcA, imgC]) hcn); (try replace rs3 := rs3.chg r9o (by simp [rcA, imgC]) hcn); (try replace rs4 := rs4.chg r9o (by simp [rcA, imgC]) hcn); have hsz := B.size; replace hzn := Nat.le_of_eq hzn.symm; replace B := Chg.below B hcn (by omega) B.size; (try replace q3 := q3.of_eq (hcn.block _ q3.lt (by omega))); (try replace c4 := c4.of_eq (hcn.block _ c4.lt (by omega))); (try replace a5 := a5.of_eq (hcn.block _ a5.lt (by omega))); (try replace r8 := r8.of_eq (hcn.block _ r8.lt (by omega))); (try replace ce1 := ce1.of_eq (hcn.block _ ce1.lt (by first | omega | exact fun e => by subst e; exact (rce_nb ce1 (by rw [HPL.out]; omega) r9o (by simp [rcA, imgC, nu8])) rfl))); (try replace ce2 := ce2.of_eq (hcn.block _ ce2.lt (by first | omega | exact fun e => by subst e; exact (rce_nb ce2 (by rw [HPL.out]; omega) r9o (by simp [rcA, imgC, nu8])) rfl))); have r9 := ht; clear ht; simp only [Act.put, putS])
  refine wpList_nil ?_
  go_upto_region 4 with fail
  refine wp_region_lit ?_
  try simp only [List.getElem_toArray, List.getElem_cons_zero, List.getElem_cons_succ]
  refine wpList_chunk 1 (by kernel_rfl) ?_
  simp only [takS, Nat.reduceAdd]
  repeat (first | go_big_quiet_skip | (go_big_quiet_want; first | (refine quiet_loadAny (t := 64) rfl _ _ _ rfl (fun w hw => run_load_B (ov_B c4 w hw) Try.isAgg64 (by kernel_rfl)) (by rfl) ?_; simp only [Act.put, putS]; go_big_quiet_on) | (go_big_quiet_op; go_big_quiet_on)))
  refine wpQuiet_nil ?_
  refine wpList_callF (by first | rfl | simp [Region.wanted, yielded]) rfl (enters_of Try.func32 (by kernel_rfl) rfl) (by simp only [List.map_toArray, List.map_cons, List.map_nil, Act.eval, Array.getD_eq_getD_getElem?, List.getElem?_toArray, List.getElem?_cons_succ, List.getElem?_cons_zero, Option.getD_some]; rfl) ?_
  refine (R_Near c _).mono ?_
  rintro e wn ⟨rfl, hbn⟩
  have hsz := B.size
  have hzn := hbn.size
  replace B := B.trans (hbn.mono B.size)
  (try first | replace q3 := q3.of_eq (hbn.block _ q3.lt) | replace q3 := q3.below hbn)
  (try first | replace c4 := c4.of_eq (hbn.block _ c4.lt) | replace c4 := c4.below hbn)
  (try first | replace a5 := a5.of_eq (hbn.block _ a5.lt) | replace a5 := a5.below hbn)
  (try first | replace r8 := r8.of_eq (hbn.block _ r8.lt) | replace r8 := r8.below hbn)
  (try first | replace r9 := r9.of_eq (hbn.block _ r9.lt) | replace r9 := r9.below hbn)
  (try first | replace ce1 := ce1.of_eq (hbn.block _ ce1.lt) | replace ce1 := ce1.below hbn)
  (try first | replace ce2 := ce2.of_eq (hbn.block _ ce2.lt) | replace ce2 := ce2.below hbn)
  (try first | replace rs1 := rs1.of_eq (hbn.block _ rs1.lt) | replace rs1 := rs1.below hbn)
  (try first | replace rs2 := rs2.of_eq (hbn.block _ rs2.lt) | replace rs2 := rs2.below hbn)
  refine ⟨_, rfl, ?_⟩
  simp only [Act.put, putS]
  (refine wpList_storeB (t := 64) rfl _ _ rfl _ rfl _ rfl c4 (by kernel_rfl) rfl (by simp [rcA, imgC, Value.oneCell']) ?_; have c4o := c4; clear c4; intro wn ht hcn hzn; (try replace rs1 := rs1.chg c4o (by simp [rcA, imgC]) hcn); (try replace rs2 := rs2.chg c4o (by simp [rcA, imgC]) hcn); (try replace rs3 := rs3.chg c4o (by simp [rcA, imgC]) hcn); (try replace rs4 := rs4.chg c4o (by simp [rcA, imgC]) hcn); have hsz := B.size; replace hzn := Nat.le_of_eq hzn.symm; replace B := Chg.below B hcn (by omega) B.size; (try replace q3 := q3.of_eq (hcn.block _ q3.lt (by omega))); (try replace a5 := a5.of_eq (hcn.block _ a5.lt (by omega))); (try replace r8 := r8.of_eq (hcn.block _ r8.lt (by omega))); (try replace r9 := r9.of_eq (hcn.block _ r9.lt (by omega))); (try replace ce1 := ce1.of_eq (hcn.block _ ce1.lt (by first | omega | exact fun e => by subst e; exact (rce_nb ce1 (by rw [HPL.out]; omega) c4o (by simp [rcA, imgC, nu8])) rfl))); (try replace ce2 := ce2.of_eq (hcn.block _ ce2.lt (by first | omega | exact fun e => by subst e; exact (rce_nb ce2 (by rw [HPL.out]; omega) c4o (by simp [rcA, imgC, nu8])) rfl))); have c4 := ht; clear ht; simp only [Act.put, putS])
  refine wpList_nil ?_
  replace c4 : AtB 64 _ b_c4 (rcA (nearR c)) := c4
  go_upto_region 5 with fail
  refine wp_region_lit ?_
  try simp only [List.getElem_toArray, List.getElem_cons_zero, List.getElem_cons_succ]
  refine wpList_chunk 2 (by kernel_rfl) ?_
  simp only [takS, Nat.reduceAdd]
  repeat (first | go_big_quiet_skip | (go_big_quiet_want; first | (refine quiet_loadAny (t := 30) rfl _ _ _ rfl (fun w hw => run_load_B (ov_B r8 w hw) Try.isAgg30 (by kernel_rfl)) (by rfl) ?_; simp only [Act.put, putS]; go_big_quiet_on) | (refine quiet_loadAny (t := 30) rfl _ _ _ rfl (fun w hw => run_load_B (ov_B r9 w hw) Try.isAgg30 (by kernel_rfl)) (by rfl) ?_; simp only [Act.put, putS]; go_big_quiet_on) | (refine quiet_loadAny (t := 30) rfl _ _ _ rfl (fun w hw => run_load_B (ov_B r12 w hw) Try.isAgg30 (by kernel_rfl)) (by rfl) ?_; simp only [Act.put, putS]; go_big_quiet_on) | (refine quiet_loadAny (t := 30) rfl _ _ _ rfl (fun w hw => run_load_B (ov_B r16 w hw) Try.isAgg30 (by kernel_rfl)) (by rfl) ?_; simp only [Act.put, putS]; go_big_quiet_on) | (refine quiet_loadAny (t := 64) rfl _ _ _ rfl (fun w hw => run_load_B (ov_B c4 w hw) Try.isAgg64 (by kernel_rfl)) (by rfl) ?_; simp only [Act.put, putS]; go_big_quiet_on) | (go_big_quiet_op; go_big_quiet_on)))
  refine wpQuiet_nil ?_
  refine wpList_callF (by first | rfl | simp [Region.wanted, yielded]) rfl (enters_of Try.func33 (by kernel_rfl) rfl) (by simp only [List.map_toArray, List.map_cons, List.map_nil, Act.eval, Array.getD_eq_getD_getElem?, List.getElem?_toArray, List.getElem?_cons_succ, List.getElem?_cons_zero, Option.getD_some]; rfl) ?_
  refine (P_ImageE _ (madeL L) (imgL (nearR c) (madeL L)) (nearR c) _ rs1 (madeL_tok L) n1.out (madeL_valid L) HE.out rfl).mono ?_
  rintro e wn ⟨g1, o1, cp1, rfl, ce1, hcp1, hbn⟩
  have hsz := B.size
  have hzn := hbn.size
  replace B := B.trans (hbn.mono B.size)
  (try first | replace q3 := q3.of_eq (hbn.block _ q3.lt) | replace q3 := q3.below hbn)
  (try first | replace c4 := c4.of_eq (hbn.block _ c4.lt) | replace c4 := c4.below hbn)
  (try first | replace a5 := a5.of_eq (hbn.block _ a5.lt) | replace a5 := a5.below hbn)
  (try first | replace r8 := r8.of_eq (hbn.block _ r8.lt) | replace r8 := r8.below hbn)
  (try first | replace r9 := r9.of_eq (hbn.block _ r9.lt) | replace r9 := r9.below hbn)
  (try first | replace r12 := r12.of_eq (hbn.block _ r12.lt) | replace r12 := r12.below hbn)
  (try first | replace r16 := r16.of_eq (hbn.block _ r16.lt) | replace r16 := r16.below hbn)
  (try first | replace ce1 := ce1.of_eq (hbn.block _ ce1.lt) | replace ce1 := ce1.below hbn)
  (try first | replace ce2 := ce2.of_eq (hbn.block _ ce2.lt) | replace ce2 := ce2.below hbn)
  (try first | replace rs1 := rs1.of_eq (hbn.block _ rs1.lt) | replace rs1 := rs1.below hbn)
  (try first | replace rs2 := rs2.of_eq (hbn.block _ rs2.lt) | replace rs2 := rs2.below hbn)
  refine ⟨_, rfl, ?_⟩
  simp only [Act.put, putS]
  refine wpList_chunk 3 (by kernel_rfl) ?_
  simp only [takS, Nat.reduceAdd]
  repeat (first | go_big_quiet_skip | (go_big_quiet_want; first | (go_big_quiet_op; go_big_quiet_on)))
  refine wpQuiet_nil ?_
  (refine wpList_allocBk (t := 68) rfl _ (run_alloc_Im _ _ rfl) ?_; intro b_m10 wn hle hge ht hbn hzn; have hsz := B.size; replace B := B.trans (hbn.mono (by omega)); have hln := Nat.lt_of_lt_of_eq (Nat.lt_succ_self _) hzn.symm; clear hzn; (try first | (have hlt := q3.lt; replace q3 := q3.of_eq (hbn.block _ (by omega))) | replace q3 := q3.below (hbn.mono hle)); (try first | (have hlt := c4.lt; replace c4 := c4.of_eq (hbn.block _ (by omega))) | replace c4 := c4.below (hbn.mono hle)); (try first | (have hlt := a5.lt; replace a5 := a5.of_eq (hbn.block _ (by omega))) | replace a5 := a5.below (hbn.mono hle)); (try first | (have hlt := r8.lt; replace r8 := r8.of_eq (hbn.block _ (by omega))) | replace r8 := r8.below (hbn.mono hle)); (try first | (have hlt := r9.lt; replace r9 := r9.of_eq (hbn.block _ (by omega))) | replace r9 := r9.below (hbn.mono hle)); (try first | (have hlt := r12.lt; replace r12 := r12.of_eq (hbn.block _ (by omega))) | replace r12 := r12.below (hbn.mono hle)); (try first | (have hlt := r16.lt; replace r16 := r16.of_eq (hbn.block _ (by omega))) | replace r16 := r16.below (hbn.mono hle)); (try first | (have hlt := ce1.lt; replace ce1 := ce1.of_eq (hbn.block _ (by omega))) | replace ce1 := ce1.below (hbn.mono hle)); (try first | (have hlt := ce2.lt; replace ce2 := ce2.of_eq (hbn.block _ (by omega))) | replace ce2 := ce2.below (hbn.mono hle)); (try first | (have hlt := rs1.lt; replace rs1 := rs1.of_eq (hbn.block _ (by omega))) | replace rs1 := rs1.below (hbn.mono hle)); (try first | (have hlt := rs2.lt; replace rs2 := rs2.of_eq (hbn.block _ (by omega))) | replace rs2 := rs2.below (hbn.mono hle)); have m10 := ht; clear ht; simp only [Act.put, putS])
  (refine wpList_storeB (t := 68) rfl _ _ rfl _ rfl _ rfl m10 (by kernel_rfl) rfl (by simp [rcA, imgC, Value.oneCell']) ?_; have m10o := m10; clear m10; intro wn ht hcn hzn; (try replace rs1 := rs1.chg m10o (by simp [rcA, imgC]) hcn); (try replace rs2 := rs2.chg m10o (by simp [rcA, imgC]) hcn); (try replace rs3 := rs3.chg m10o (by simp [rcA, imgC]) hcn); (try replace rs4 := rs4.chg m10o (by simp [rcA, imgC]) hcn); have hsz := B.size; replace hzn := Nat.le_of_eq hzn.symm; replace B := Chg.below B hcn (by omega) B.size; (try replace q3 := q3.of_eq (hcn.block _ q3.lt (by omega))); (try replace c4 := c4.of_eq (hcn.block _ c4.lt (by omega))); (try replace a5 := a5.of_eq (hcn.block _ a5.lt (by omega))); (try replace r8 := r8.of_eq (hcn.block _ r8.lt (by omega))); (try replace r9 := r9.of_eq (hcn.block _ r9.lt (by omega))); (try replace r12 := r12.of_eq (hcn.block _ r12.lt (by omega))); (try replace r16 := r16.of_eq (hcn.block _ r16.lt (by omega))); (try replace ce1 := ce1.of_eq (hcn.block _ ce1.lt (by first | omega | exact fun e => by subst e; exact (rce_nb ce1 (by rw [HPL.out]; omega) m10o (by simp [rcA, imgC, nu8])) rfl))); (try replace ce2 := ce2.of_eq (hcn.block _ ce2.lt (by first | omega | exact fun e => by subst e; exact (rce_nb ce2 (by rw [HPL.out]; omega) m10o (by simp [rcA, imgC, nu8])) rfl))); have m10 := ht; clear ht; simp only [Act.put, putS])
  refine wpList_chunk 1 (by kernel_rfl) ?_
  simp only [takS, Nat.reduceAdd]
  repeat (first | go_big_quiet_skip | (go_big_quiet_want; first | (go_big_quiet_op; go_big_quiet_on)))
  refine wpQuiet_nil ?_
  refine wpList_nil ?_
  replace m10 : AtB 68 _ b_m10 (imgC (nearR c) (.slice (some ⟨g1, o1, none⟩) (areaN (nearR c)) cp1)) := m10
  go_upto_region 6 with fail
  refine wp_region_lit ?_
  try simp only [List.getElem_toArray, List.getElem_cons_zero, List.getElem_cons_succ]
  refine wpList_chunk 2 (by kernel_rfl) ?_
  simp only [takS, Nat.reduceAdd]
  repeat (first | go_big_quiet_skip | (go_big_quiet_want; first | (refine quiet_loadAny (t := 30) rfl _ _ _ rfl (fun w hw => run_load_B (ov_B r8 w hw) Try.isAgg30 (by kernel_rfl)) (by rfl) ?_; simp only [Act.put, putS]; go_big_quiet_on) | (refine quiet_loadAny (t := 30) rfl _ _ _ rfl (fun w hw => run_load_B (ov_B r9 w hw) Try.isAgg30 (by kernel_rfl)) (by rfl) ?_; simp only [Act.put, putS]; go_big_quiet_on) | (refine quiet_loadAny (t := 30) rfl _ _ _ rfl (fun w hw => run_load_B (ov_B r12 w hw) Try.isAgg30 (by kernel_rfl)) (by rfl) ?_; simp only [Act.put, putS]; go_big_quiet_on) | (refine quiet_loadAny (t := 30) rfl _ _ _ rfl (fun w hw => run_load_B (ov_B r16 w hw) Try.isAgg30 (by kernel_rfl)) (by rfl) ?_; simp only [Act.put, putS]; go_big_quiet_on) | (refine quiet_loadAny (t := 68) rfl _ _ _ rfl (fun w hw => run_load_img (ov_B m10 w hw)) (by first | rfl | omega) ?_; simp only [Act.put, putS]; go_big_quiet_on) | (refine quiet_loadAny (t := 68) rfl _ _ _ rfl (fun w hw => run_load_img (ov_B m14 w hw)) (by first | rfl | omega) ?_; simp only [Act.put, putS]; go_big_quiet_on) | (go_big_quiet_op; go_big_quiet_on)))
  refine wpQuiet_nil ?_
  refine wpList_callF (by first | rfl | simp [Region.wanted, yielded]) rfl (enters_of Try.func48 (by kernel_rfl) rfl) (by simp only [List.map_toArray, List.map_cons, List.map_nil, Act.eval, Array.getD_eq_getD_getElem?, List.getElem?_toArray, List.getElem?_cons_succ, List.getElem?_cons_zero, Option.getD_some]; rfl) ?_
  refine (P_PasteB _ (madeL M) (pstR (nearR c) (imgL (nearR c) (madeL L)) (madeL M)) 0 (nearR c) _ (imgL (nearR c) (madeL L)) _ rs2 (madeL_tok M) n2.out (RSE.mkP ce1 hcp1 HPL.out) hPn.out okP.out rfl CE1.out).mono ?_
  rintro e wn ⟨a3, c3, rfl, rs3, hbn⟩
  have hsz := B.size
  have hzn := hbn.size
  replace B := B.trans (hbn.mono B.size)
  (try first | replace q3 := q3.of_eq (hbn.block _ q3.lt) | replace q3 := q3.below hbn)
  (try first | replace c4 := c4.of_eq (hbn.block _ c4.lt) | replace c4 := c4.below hbn)
  (try first | replace a5 := a5.of_eq (hbn.block _ a5.lt) | replace a5 := a5.below hbn)
  (try first | replace r8 := r8.of_eq (hbn.block _ r8.lt) | replace r8 := r8.below hbn)
  (try first | replace r9 := r9.of_eq (hbn.block _ r9.lt) | replace r9 := r9.below hbn)
  (try first | replace m10 := m10.of_eq (hbn.block _ m10.lt) | replace m10 := m10.below hbn)
  (try first | replace r12 := r12.of_eq (hbn.block _ r12.lt) | replace r12 := r12.below hbn)
  (try first | replace m14 := m14.of_eq (hbn.block _ m14.lt) | replace m14 := m14.below hbn)
  (try first | replace r16 := r16.of_eq (hbn.block _ r16.lt) | replace r16 := r16.below hbn)
  (try first | replace ce1 := ce1.of_eq (hbn.block _ ce1.lt) | replace ce1 := ce1.below hbn)
  (try first | replace ce2 := ce2.of_eq (hbn.block _ ce2.lt) | replace ce2 := ce2.below hbn)
  (try first | replace rs1 := rs1.of_eq (hbn.block _ rs1.lt) | replace rs1 := rs1.below hbn)
  (try first | replace rs2 := rs2.of_eq (hbn.block _ rs2.lt) | replace rs2 := rs2.below hbn)
  (try first | replace rs3 := rs3.of_eq (hbn.block _ rs3.lt) | replace rs3 := rs3.below hbn)
  refine ⟨_, rfl, ?_⟩
  simp only [Act.put, putS]
  refine wpList_chunk 3 (by kernel_rfl) ?_
  simp only [takS, Nat.reduceAdd]
  repeat (first | go_big_quiet_skip | (go_big_quiet_want; first | (go_big_quiet_op; go_big_quiet_on)))
  refine wpQuiet_nil ?_
  (refine wpList_allocBk (t := 30) rfl _ (run_alloc_R _ _ rfl) ?_; intro b_r12 wn hle hge ht hbn hzn; have hsz := B.size; replace B := B.trans (hbn.mono (by omega)); have hln := Nat.lt_of_lt_of_eq (Nat.lt_succ_self _) hzn.symm; clear hzn; (try first | (have hlt := q3.lt; replace q3 := q3.of_eq (hbn.block _ (by omega))) | replace q3 := q3.below (hbn.mono hle)); (try first | (have hlt := c4.lt; replace c4 := c4.of_eq (hbn.block _ (by omega))) | replace c4 := c4.below (hbn.mono hle)); (try first | (have hlt := a5.lt; replace a5 := a5.of_eq (hbn.block _ (by omega))) | replace a5 := a5.below (hbn.mono hle)); (try first | (have hlt := r8.lt; replace r8 := r8.of_eq (hbn.block _ (by omega))) | replace r8 := r8.below (hbn.mono hle)); (try first | (have hlt := r9.lt; replace r9 := r9.of_eq (hbn.block _ (by omega))) | replace r9 := r9.below (hbn.mono hle)); (try first | (have hlt := m10.lt; replace m10 := m10.of_eq (hbn.block _ (by omega))) | replace m10 := m10.below (hbn.mono hle)); (try first | (have hlt := r12.lt; replace r12 := r12.of_eq (hbn.block _ (by omega))) | replace r12 := r12.below (hbn.mono hle)); (try first | (have hlt := m14.lt; replace m14 := m14.of_eq (hbn.block _ (by omega))) | replace m14 := m14.below (hbn.mono hle)); (try first | (have hlt := r16.lt; replace r16 := r16.of_eq (hbn.block _ (by omega))) | replace r16 := r16.below (hbn.mono hle)); (try first | (have hlt := ce1.lt; replace ce1 := ce1.of_eq (hbn.block _ (by omega))) | replace ce1 := ce1.below (hbn.mono hle)); (try first | (have hlt := ce2.lt; replace ce2 := ce2.of_eq (hbn.block _ (by omega))) | replace ce2 := ce2.below (hbn.mono hle)); (try first | (have hlt := rs1.lt; replace rs1 := rs1.of_eq (hbn.block _ (by omega))) | replace rs1 := rs1.below (hbn.mono hle)); (try first | (have hlt := rs2.lt; replace rs2 := rs2.of_eq (hbn.block _ (by omega))) | replace rs2 := rs2.below (hbn.mono hle)); (try first | (have hlt := rs3.lt; replace rs3 := rs3.of_eq (hbn.block _ (by omega))) | replace rs3 := rs3.below (hbn.mono hle)); have r12 := ht; clear ht; simp only [Act.put, putS])
  (refine wpList_storeB (t := 30) rfl _ _ rfl _ rfl _ rfl r12 (by kernel_rfl) rfl (by simp [rcA, imgC, Value.oneCell']) ?_; have r12o := r12; clear r12; intro wn ht hcn hzn; (try replace rs1 := rs1.chg r12o (by simp [rcA, imgC]) hcn); (try replace rs2 := rs2.chg r12o (by simp [rcA, imgC]) hcn); (try replace rs3 := rs3.chg r12o (by simp [rcA, imgC]) hcn); (try replace rs4 := rs4.chg r12o (by simp [rcA, imgC]) hcn); have hsz := B.size; replace hzn := Nat.le_of_eq hzn.symm; replace B := Chg.below B hcn (by omega) B.size; (try replace q3 := q3.of_eq (hcn.block _ q3.lt (by omega))); (try replace c4 := c4.of_eq (hcn.block _ c4.lt (by omega))); (try replace a5 := a5.of_eq (hcn.block _ a5.lt (by omega))); (try replace r8 := r8.of_eq (hcn.block _ r8.lt (by omega))); (try replace r9 := r9.of_eq (hcn.block _ r9.lt (by omega))); (try replace m10 := m10.of_eq (hcn.block _ m10.lt (by omega))); (try replace m14 := m14.of_eq (hcn.block _ m14.lt (by omega))); (try replace r16 := r16.of_eq (hcn.block _ r16.lt (by omega))); (try replace ce1 := ce1.of_eq (hcn.block _ ce1.lt (by first | omega | exact fun e => by subst e; exact (rce_nb ce1 (by rw [HPL.out]; omega) r12o (by simp [rcA, imgC, nu8])) rfl))); (try replace ce2 := ce2.of_eq (hcn.block _ ce2.lt (by first | omega | exact fun e => by subst e; exact (rce_nb ce2 (by rw [HPL.out]; omega) r12o (by simp [rcA, imgC, nu8])) rfl))); have r12 := ht; clear ht; simp only [Act.put, putS])
  refine wpList_chunk 1 (by kernel_rfl) ?_
  simp only [takS, Nat.reduceAdd]
  repeat (first | go_big_quiet_skip | (go_big_quiet_want; first | (go_big_quiet_op; go_big_quiet_on)))
  refine wpQuiet_nil ?_
  refine wpList_nil ?_
  go_upto_region 7 with fail
  refine wp_region_lit ?_
  try simp only [List.getElem_toArray, List.getElem_cons_zero, List.getElem_cons_succ]
  refine wpList_chunk 2 (by kernel_rfl) ?_
  simp only [takS, Nat.reduceAdd]
  repeat (first | go_big_quiet_skip | (go_big_quiet_want; first | (refine quiet_loadAny (t := 30) rfl _ _ _ rfl (fun w hw => run_load_B (ov_B r8 w hw) Try.isAgg30 (by kernel_rfl)) (by rfl) ?_; simp only [Act.put, putS]; go_big_quiet_on) | (refine quiet_loadAny (t := 30) rfl _ _ _ rfl (fun w hw => run_load_B (ov_B r9 w hw) Try.isAgg30 (by kernel_rfl)) (by rfl) ?_; simp only [Act.put, putS]; go_big_quiet_on) | (refine quiet_loadAny (t := 30) rfl _ _ _ rfl (fun w hw => run_load_B (ov_B r12 w hw) Try.isAgg30 (by kernel_rfl)) (by rfl) ?_; simp only [Act.put, putS]; go_big_quiet_on) | (refine quiet_loadAny (t := 30) rfl _ _ _ rfl (fun w hw => run_load_B (ov_B r16 w hw) Try.isAgg30 (by kernel_rfl)) (by rfl) ?_; simp only [Act.put, putS]; go_big_quiet_on) | (refine quiet_loadAny (t := 64) rfl _ _ _ rfl (fun w hw => run_load_B (ov_B c4 w hw) Try.isAgg64 (by kernel_rfl)) (by rfl) ?_; simp only [Act.put, putS]; go_big_quiet_on) | (go_big_quiet_op; go_big_quiet_on)))
  refine wpQuiet_nil ?_
  refine wpList_callF (by first | rfl | simp [Region.wanted, yielded]) rfl (enters_of Try.func33 (by kernel_rfl) rfl) (by simp only [List.map_toArray, List.map_cons, List.map_nil, Act.eval, Array.getD_eq_getD_getElem?, List.getElem?_toArray, List.getElem?_cons_succ, List.getElem?_cons_zero, Option.getD_some]; rfl) ?_
  refine (P_ImageE _ (pstR (nearR c) (imgL (nearR c) (madeL L)) (madeL M)) (imgL (nearR c) (madeL L)) (nearR c) _ rs3 tR.out nR.out (pstR_valid _ _ _) HE.out CI.out).mono ?_
  rintro e wn ⟨g2, o2, cp2, rfl, ce2, hcp2, hbn⟩
  have hsz := B.size
  have hzn := hbn.size
  replace B := B.trans (hbn.mono B.size)
  (try first | replace q3 := q3.of_eq (hbn.block _ q3.lt) | replace q3 := q3.below hbn)
  (try first | replace c4 := c4.of_eq (hbn.block _ c4.lt) | replace c4 := c4.below hbn)
  (try first | replace a5 := a5.of_eq (hbn.block _ a5.lt) | replace a5 := a5.below hbn)
  (try first | replace r8 := r8.of_eq (hbn.block _ r8.lt) | replace r8 := r8.below hbn)
  (try first | replace r9 := r9.of_eq (hbn.block _ r9.lt) | replace r9 := r9.below hbn)
  (try first | replace m10 := m10.of_eq (hbn.block _ m10.lt) | replace m10 := m10.below hbn)
  (try first | replace r12 := r12.of_eq (hbn.block _ r12.lt) | replace r12 := r12.below hbn)
  (try first | replace m14 := m14.of_eq (hbn.block _ m14.lt) | replace m14 := m14.below hbn)
  (try first | replace r16 := r16.of_eq (hbn.block _ r16.lt) | replace r16 := r16.below hbn)
  (try first | replace ce1 := ce1.of_eq (hbn.block _ ce1.lt) | replace ce1 := ce1.below hbn)
  (try first | replace ce2 := ce2.of_eq (hbn.block _ ce2.lt) | replace ce2 := ce2.below hbn)
  (try first | replace rs1 := rs1.of_eq (hbn.block _ rs1.lt) | replace rs1 := rs1.below hbn)
  (try first | replace rs2 := rs2.of_eq (hbn.block _ rs2.lt) | replace rs2 := rs2.below hbn)
  (try first | replace rs3 := rs3.of_eq (hbn.block _ rs3.lt) | replace rs3 := rs3.below hbn)
  refine ⟨_, rfl, ?_⟩
  simp only [Act.put, putS]
  refine wpList_chunk 3 (by kernel_rfl) ?_
  simp only [takS, Nat.reduceAdd]
  repeat (first | go_big_quiet_skip | (go_big_quiet_want; first | (go_big_quiet_op; go_big_quiet_on)))
  refine wpQuiet_nil ?_
  (refine wpList_allocBk (t := 68) rfl _ (run_alloc_Im _ _ rfl) ?_; intro b_m14 wn hle hge ht hbn hzn; have hsz := B.size; replace B := B.trans (hbn.mono (by omega)); have hln := Nat.lt_of_lt_of_eq (Nat.lt_succ_self _) hzn.symm; clear hzn; (try first | (have hlt := q3.lt; replace q3 := q3.of_eq (hbn.block _ (by omega))) | replace q3 := q3.below (hbn.mono hle)); (try first | (have hlt := c4.lt; replace c4 := c4.of_eq (hbn.block _ (by omega))) | replace c4 := c4.below (hbn.mono hle)); (try first | (have hlt := a5.lt; replace a5 := a5.of_eq (hbn.block _ (by omega))) | replace a5 := a5.below (hbn.mono hle)); (try first | (have hlt := r8.lt; replace r8 := r8.of_eq (hbn.block _ (by omega))) | replace r8 := r8.below (hbn.mono hle)); (try first | (have hlt := r9.lt; replace r9 := r9.of_eq (hbn.block _ (by omega))) | replace r9 := r9.below (hbn.mono hle)); (try first | (have hlt := m10.lt; replace m10 := m10.of_eq (hbn.block _ (by omega))) | replace m10 := m10.below (hbn.mono hle)); (try first | (have hlt := r12.lt; replace r12 := r12.of_eq (hbn.block _ (by omega))) | replace r12 := r12.below (hbn.mono hle)); (try first | (have hlt := m14.lt; replace m14 := m14.of_eq (hbn.block _ (by omega))) | replace m14 := m14.below (hbn.mono hle)); (try first | (have hlt := r16.lt; replace r16 := r16.of_eq (hbn.block _ (by omega))) | replace r16 := r16.below (hbn.mono hle)); (try first | (have hlt := ce1.lt; replace ce1 := ce1.of_eq (hbn.block _ (by omega))) | replace ce1 := ce1.below (hbn.mono hle)); (try first | (have hlt := ce2.lt; replace ce2 := ce2.of_eq (hbn.block _ (by omega))) | replace ce2 := ce2.below (hbn.mono hle)); (try first | (have hlt := rs1.lt; replace rs1 := rs1.of_eq (hbn.block _ (by omega))) | replace rs1 := rs1.below (hbn.mono hle)); (try first | (have hlt := rs2.lt; replace rs2 := rs2.of_eq (hbn.block _ (by omega))) | replace rs2 := rs2.below (hbn.mono hle)); (try first | (have hlt := rs3.lt; replace rs3 := rs3.of_eq (hbn.block _ (by omega))) | replace rs3 := rs3.below (hbn.mono hle)); have m14 := ht; clear ht; simp only [Act.put, putS])
  (refine wpList_storeB (t := 68) rfl _ _ rfl _ rfl _ rfl m14 (by kernel_rfl) rfl (by simp [rcA, imgC, Value.oneCell']) ?_; have m14o := m14; clear m14; intro wn ht hcn hzn; (try replace rs1 := rs1.chg m14o (by simp [rcA, imgC]) hcn); (try replace rs2 := rs2.chg m14o (by simp [rcA, imgC]) hcn); (try replace rs3 := rs3.chg m14o (by simp [rcA, imgC]) hcn); (try replace rs4 := rs4.chg m14o (by simp [rcA, imgC]) hcn); have hsz := B.size; replace hzn := Nat.le_of_eq hzn.symm; replace B := Chg.below B hcn (by omega) B.size; (try replace q3 := q3.of_eq (hcn.block _ q3.lt (by omega))); (try replace c4 := c4.of_eq (hcn.block _ c4.lt (by omega))); (try replace a5 := a5.of_eq (hcn.block _ a5.lt (by omega))); (try replace r8 := r8.of_eq (hcn.block _ r8.lt (by omega))); (try replace r9 := r9.of_eq (hcn.block _ r9.lt (by omega))); (try replace m10 := m10.of_eq (hcn.block _ m10.lt (by omega))); (try replace r12 := r12.of_eq (hcn.block _ r12.lt (by omega))); (try replace r16 := r16.of_eq (hcn.block _ r16.lt (by omega))); (try replace ce1 := ce1.of_eq (hcn.block _ ce1.lt (by first | omega | exact fun e => by subst e; exact (rce_nb ce1 (by rw [HPL.out]; omega) m14o (by simp [rcA, imgC, nu8])) rfl))); (try replace ce2 := ce2.of_eq (hcn.block _ ce2.lt (by first | omega | exact fun e => by subst e; exact (rce_nb ce2 (by rw [HPL.out]; omega) m14o (by simp [rcA, imgC, nu8])) rfl))); have m14 := ht; clear ht; simp only [Act.put, putS])
  refine wpList_chunk 1 (by kernel_rfl) ?_
  simp only [takS, Nat.reduceAdd]
  repeat (first | go_big_quiet_skip | (go_big_quiet_want; first | (go_big_quiet_op; go_big_quiet_on)))
  refine wpQuiet_nil ?_
  refine wpList_nil ?_
  replace m14 : AtB 68 _ b_m14 (imgC (nearR c) (.slice (some ⟨g2, o2, none⟩) (areaN (nearR c)) cp2)) := m14
  go_upto_region 8 with fail
  refine wp_region_lit ?_
  try simp only [List.getElem_toArray, List.getElem_cons_zero, List.getElem_cons_succ]
  refine wpList_chunk 2 (by kernel_rfl) ?_
  simp only [takS, Nat.reduceAdd]
  repeat (first | go_big_quiet_skip | (go_big_quiet_want; first | (refine quiet_loadAny (t := 30) rfl _ _ _ rfl (fun w hw => run_load_B (ov_B r8 w hw) Try.isAgg30 (by kernel_rfl)) (by rfl) ?_; simp only [Act.put, putS]; go_big_quiet_on) | (refine quiet_loadAny (t := 30) rfl _ _ _ rfl (fun w hw => run_load_B (ov_B r9 w hw) Try.isAgg30 (by kernel_rfl)) (by rfl) ?_; simp only [Act.put, putS]; go_big_quiet_on) | (refine quiet_loadAny (t := 30) rfl _ _ _ rfl (fun w hw => run_load_B (ov_B r12 w hw) Try.isAgg30 (by kernel_rfl)) (by rfl) ?_; simp only [Act.put, putS]; go_big_quiet_on) | (refine quiet_loadAny (t := 30) rfl _ _ _ rfl (fun w hw => run_load_B (ov_B r16 w hw) Try.isAgg30 (by kernel_rfl)) (by rfl) ?_; simp only [Act.put, putS]; go_big_quiet_on) | (refine quiet_loadAny (t := 68) rfl _ _ _ rfl (fun w hw => run_load_img (ov_B m10 w hw)) (by first | rfl | omega) ?_; simp only [Act.put, putS]; go_big_quiet_on) | (refine quiet_loadAny (t := 68) rfl _ _ _ rfl (fun w hw => run_load_img (ov_B m14 w hw)) (by first | rfl | omega) ?_; simp only [Act.put, putS]; go_big_quiet_on) | (go_big_quiet_op; go_big_quiet_on)))
  refine wpQuiet_nil ?_
  refine wpList_callF (by first | rfl | simp [Region.wanted, yielded]) rfl (enters_of Try.func48 (by kernel_rfl) rfl) (by simp only [List.map_toArray, List.map_cons, List.map_nil, Act.eval, Array.getD_eq_getD_getElem?, List.getElem?_toArray, List.getElem?_cons_succ, List.getElem?_cons_zero, Option.getD_some]; rfl) ?_
  refine (P_PasteB _ (madeL L) (pstR (nearR c) (imgL (nearR c) (madeL L)) (madeL L)) 0 (nearR c) _ (imgL (nearR c) (madeL L)) _ rs1 (madeL_tok L) n1.out (RSE.mkP ce1 hcp1 HPL.out) hPn.out okP.out rfl CE2.out).mono ?_
  rintro e wn ⟨a4, c4', rfl, rs4, hbn⟩
  have hsz := B.size
  have hzn := hbn.size
  replace B := B.trans (hbn.mono B.size)
  (try first | replace q3 := q3.of_eq (hbn.block _ q3.lt) | replace q3 := q3.below hbn)
  (try first | replace c4 := c4.of_eq (hbn.block _ c4.lt) | replace c4 := c4.below hbn)
  (try first | replace a5 := a5.of_eq (hbn.block _ a5.lt) | replace a5 := a5.below hbn)
  (try first | replace r8 := r8.of_eq (hbn.block _ r8.lt) | replace r8 := r8.below hbn)
  (try first | replace r9 := r9.of_eq (hbn.block _ r9.lt) | replace r9 := r9.below hbn)
  (try first | replace m10 := m10.of_eq (hbn.block _ m10.lt) | replace m10 := m10.below hbn)
  (try first | replace r12 := r12.of_eq (hbn.block _ r12.lt) | replace r12 := r12.below hbn)
  (try first | replace m14 := m14.of_eq (hbn.block _ m14.lt) | replace m14 := m14.below hbn)
  (try first | replace r16 := r16.of_eq (hbn.block _ r16.lt) | replace r16 := r16.below hbn)
  (try first | replace ce1 := ce1.of_eq (hbn.block _ ce1.lt) | replace ce1 := ce1.below hbn)
  (try first | replace ce2 := ce2.of_eq (hbn.block _ ce2.lt) | replace ce2 := ce2.below hbn)
  (try first | replace rs1 := rs1.of_eq (hbn.block _ rs1.lt) | replace rs1 := rs1.below hbn)
  (try first | replace rs2 := rs2.of_eq (hbn.block _ rs2.lt) | replace rs2 := rs2.below hbn)
  (try first | replace rs3 := rs3.of_eq (hbn.block _ rs3.lt) | replace rs3 := rs3.below hbn)
  (try first | replace rs4 := rs4.of_eq (hbn.block _ rs4.lt) | replace rs4 := rs4.below hbn)
  refine ⟨_, rfl, ?_⟩
  simp only [Act.put, putS]
  refine wpList_chunk 3 (by kernel_rfl) ?_
  simp only [takS, Nat.reduceAdd]
  repeat (first | go_big_quiet_skip | (go_big_quiet_want; first | (go_big_quiet_op; go_big_quiet_on)))
  refine wpQuiet_nil ?_
  (refine wpList_allocBk (t := 30) rfl _ (run_alloc_R _ _ rfl) ?_; intro b_r16 wn hle hge ht hbn hzn; have hsz := B.size; replace B := B.trans (hbn.mono (by omega)); have hln := Nat.lt_of_lt_of_eq (Nat.lt_succ_self _) hzn.symm; clear hzn; (try first | (have hlt := q3.lt; replace q3 := q3.of_eq (hbn.block _ (by omega))) | replace q3 := q3.below (hbn.mono hle)); (try first | (have hlt := c4.lt; replace c4 := c4.of_eq (hbn.block _ (by omega))) | replace c4 := c4.below (hbn.mono hle)); (try first | (have hlt := a5.lt; replace a5 := a5.of_eq (hbn.block _ (by omega))) | replace a5 := a5.below (hbn.mono hle)); (try first | (have hlt := r8.lt; replace r8 := r8.of_eq (hbn.block _ (by omega))) | replace r8 := r8.below (hbn.mono hle)); (try first | (have hlt := r9.lt; replace r9 := r9.of_eq (hbn.block _ (by omega))) | replace r9 := r9.below (hbn.mono hle)); (try first | (have hlt := m10.lt; replace m10 := m10.of_eq (hbn.block _ (by omega))) | replace m10 := m10.below (hbn.mono hle)); (try first | (have hlt := r12.lt; replace r12 := r12.of_eq (hbn.block _ (by omega))) | replace r12 := r12.below (hbn.mono hle)); (try first | (have hlt := m14.lt; replace m14 := m14.of_eq (hbn.block _ (by omega))) | replace m14 := m14.below (hbn.mono hle)); (try first | (have hlt := r16.lt; replace r16 := r16.of_eq (hbn.block _ (by omega))) | replace r16 := r16.below (hbn.mono hle)); (try first | (have hlt := ce1.lt; replace ce1 := ce1.of_eq (hbn.block _ (by omega))) | replace ce1 := ce1.below (hbn.mono hle)); (try first | (have hlt := ce2.lt; replace ce2 := ce2.of_eq (hbn.block _ (by omega))) | replace ce2 := ce2.below (hbn.mono hle)); (try first | (have hlt := rs1.lt; replace rs1 := rs1.of_eq (hbn.block _ (by omega))) | replace rs1 := rs1.below (hbn.mono hle)); (try first | (have hlt := rs2.lt; replace rs2 := rs2.of_eq (hbn.block _ (by omega))) | replace rs2 := rs2.below (hbn.mono hle)); (try first | (have hlt := rs3.lt; replace rs3 := rs3.of_eq (hbn.block _ (by omega))) | replace rs3 := rs3.below (hbn.mono hle)); (try first | (have hlt := rs4.lt; replace rs4 := rs4.of_eq (hbn.block _ (by omega))) | replace rs4 := rs4.below (hbn.mono hle)); have r16 := ht; clear ht; simp only [Act.put, putS])
  (refine wpList_storeB (t := 30) rfl _ _ rfl _ rfl _ rfl r16 (by kernel_rfl) rfl (by simp [rcA, imgC, Value.oneCell']) ?_; have r16o := r16; clear r16; intro wn ht hcn hzn; (try replace rs1 := rs1.chg r16o (by simp [rcA, imgC]) hcn); (try replace rs2 := rs2.chg r16o (by simp [rcA, imgC]) hcn); (try replace rs3 := rs3.chg r16o (by simp [rcA, imgC]) hcn); (try replace rs4 := rs4.chg r16o (by simp [rcA, imgC]) hcn); have hsz := B.size; replace hzn := Nat.le_of_eq hzn.symm; replace B := Chg.below B hcn (by omega) B.size; (try replace q3 := q3.of_eq (hcn.block _ q3.lt (by omega))); (try replace c4 := c4.of_eq (hcn.block _ c4.lt (by omega))); (try replace a5 := a5.of_eq (hcn.block _ a5.lt (by omega))); (try replace r8 := r8.of_eq (hcn.block _ r8.lt (by omega))); (try replace r9 := r9.of_eq (hcn.block _ r9.lt (by omega))); (try replace m10 := m10.of_eq (hcn.block _ m10.lt (by omega))); (try replace r12 := r12.of_eq (hcn.block _ r12.lt (by omega))); (try replace m14 := m14.of_eq (hcn.block _ m14.lt (by omega))); (try replace ce1 := ce1.of_eq (hcn.block _ ce1.lt (by first | omega | exact fun e => by subst e; exact (rce_nb ce1 (by rw [HPL.out]; omega) r16o (by simp [rcA, imgC, nu8])) rfl))); (try replace ce2 := ce2.of_eq (hcn.block _ ce2.lt (by first | omega | exact fun e => by subst e; exact (rce_nb ce2 (by rw [HPL.out]; omega) r16o (by simp [rcA, imgC, nu8])) rfl))); have r16 := ht; clear ht; simp only [Act.put, putS])
  refine wpList_chunk 1 (by kernel_rfl) ?_
  simp only [takS, Nat.reduceAdd]
  repeat (first | go_big_quiet_skip | (go_big_quiet_want; first | (go_big_quiet_op; go_big_quiet_on)))
  refine wpQuiet_nil ?_
  refine wpList_nil ?_
  have eb1 := bits_and63 x0
  have eb2 := bits_and63 y0
  go_upto_region 9 with fail
  refine wp_region_lit ?_
  try simp only [List.getElem_toArray, List.getElem_cons_zero, List.getElem_cons_succ]
  refine wpList_chunk 5 (by kernel_rfl) ?_
  simp only [takS, Nat.reduceAdd]
  repeat (first | go_big_quiet_skip | (go_big_quiet_want; first | (refine quiet_loadAny (t := 3) rfl _ _ _ rfl (fun w hw => run_load_int ((ov_B a5 w hw).cellL 0 rfl)) (by rfl) ?_; simp only [Act.put, putS]; go_big_quiet_on) | (refine quiet_loadAny (t := 3) rfl _ _ _ rfl (fun w hw => run_load_int ((ov_B a5 w hw).cellL 1 rfl)) (by rfl) ?_; simp only [Act.put, putS]; go_big_quiet_on) | (go_big_quiet_op; go_big_quiet_on)))
  refine wpQuiet_nil ?_
  refine wpList_nil ?_
  go_upto_region 10 with fail
  refine wp_region_lit ?_
  try simp only [List.getElem_toArray, List.getElem_cons_zero, List.getElem_cons_succ]
  refine wpList_chunk 5 (by kernel_rfl) ?_
  simp only [takS, Nat.reduceAdd]
  repeat (first | go_big_quiet_skip | (go_big_quiet_want; first | (refine quiet_loadAny (t := 3) rfl _ _ _ rfl (fun w hw => run_load_int ((ov_B a5 w hw).cellL 0 rfl)) (by rfl) ?_; simp only [Act.put, putS]; go_big_quiet_on) | (refine quiet_loadAny (t := 3) rfl _ _ _ rfl (fun w hw => run_load_int ((ov_B a5 w hw).cellL 1 rfl)) (by rfl) ?_; simp only [Act.put, putS]; go_big_quiet_on) | (go_big_quiet_op; go_big_quiet_on)))
  refine wpQuiet_nil ?_
  refine wpList_nil ?_
  clear eb1 eb2
  have wX : (Lit.int .i64 (x0 % 64 - 30)).wf = true := wf_mk (by omega) (by omega)
  have wY : (Lit.int .i64 (y0 % 64 - 30)).wf = true := wf_mk (by omega) (by omega)
  have cg := CG.out (x0 % 64 - 30) (y0 % 64 - 30)
  have lg1 := ce1.lt
  have lg2 := ce2.lt
  obtain ⟨X, hX⟩ : ∃ X, x0 % 64 - 30 = X := ⟨_, rfl⟩
  obtain ⟨Y, hY⟩ : ∃ Y, y0 % 64 - 30 = Y := ⟨_, rfl⟩
  rw [hX] at wX cg
  rw [hY] at wY cg
  simp only [hX, hY]
  clear hX hY
  go_upto_region 11 with fail
  refine wp_region_lit ?_
  try simp only [List.getElem_toArray, List.getElem_cons_zero, List.getElem_cons_succ]
  refine wpList_chunk 3 (by kernel_rfl) ?_
  simp only [takS, Nat.reduceAdd]
  repeat (first | go_big_quiet_skip | (go_big_quiet_want; first | (refine quiet_loadAny (t := 30) rfl _ _ _ rfl (fun w hw => run_load_B (ov_B r8 w hw) Try.isAgg30 (by kernel_rfl)) (by rfl) ?_; simp only [Act.put, putS]; go_big_quiet_on) | (refine quiet_loadAny (t := 30) rfl _ _ _ rfl (fun w hw => run_load_B (ov_B r9 w hw) Try.isAgg30 (by kernel_rfl)) (by rfl) ?_; simp only [Act.put, putS]; go_big_quiet_on) | (refine quiet_loadAny (t := 30) rfl _ _ _ rfl (fun w hw => run_load_B (ov_B r12 w hw) Try.isAgg30 (by kernel_rfl)) (by rfl) ?_; simp only [Act.put, putS]; go_big_quiet_on) | (refine quiet_loadAny (t := 30) rfl _ _ _ rfl (fun w hw => run_load_B (ov_B r16 w hw) Try.isAgg30 (by kernel_rfl)) (by rfl) ?_; simp only [Act.put, putS]; go_big_quiet_on) | (go_big_quiet_op; go_big_quiet_on)))
  refine wpQuiet_nil ?_
  refine wpList_callF (by first | rfl | simp [Region.wanted, yielded]) rfl (enters_of Try.func20 (by kernel_rfl) rfl) (by simp only [List.map_toArray, List.map_cons, List.map_nil, Act.eval, Array.getD_eq_getD_getElem?, List.getElem?_toArray, List.getElem?_cons_succ, List.getElem?_cons_zero, Option.getD_some]; rfl) ?_
  refine (P_GetC _ (madeL M) X Y (getL (madeL M) X Y) _ rs2 n2.out wX wY rfl).mono ?_
  rintro e wn ⟨rfl, hbn⟩
  have hsz := B.size
  have hzn := hbn.size
  replace B := B.trans (hbn.mono B.size)
  (try first | replace q3 := q3.of_eq (hbn.block _ q3.lt) | replace q3 := q3.below hbn)
  (try first | replace c4 := c4.of_eq (hbn.block _ c4.lt) | replace c4 := c4.below hbn)
  (try first | replace a5 := a5.of_eq (hbn.block _ a5.lt) | replace a5 := a5.below hbn)
  (try first | replace r8 := r8.of_eq (hbn.block _ r8.lt) | replace r8 := r8.below hbn)
  (try first | replace r9 := r9.of_eq (hbn.block _ r9.lt) | replace r9 := r9.below hbn)
  (try first | replace m10 := m10.of_eq (hbn.block _ m10.lt) | replace m10 := m10.below hbn)
  (try first | replace r12 := r12.of_eq (hbn.block _ r12.lt) | replace r12 := r12.below hbn)
  (try first | replace m14 := m14.of_eq (hbn.block _ m14.lt) | replace m14 := m14.below hbn)
  (try first | replace r16 := r16.of_eq (hbn.block _ r16.lt) | replace r16 := r16.below hbn)
  (try first | replace ce1 := ce1.of_eq (hbn.block _ ce1.lt) | replace ce1 := ce1.below hbn)
  (try first | replace ce2 := ce2.of_eq (hbn.block _ ce2.lt) | replace ce2 := ce2.below hbn)
  (try first | replace rs1 := rs1.of_eq (hbn.block _ rs1.lt) | replace rs1 := rs1.below hbn)
  (try first | replace rs2 := rs2.of_eq (hbn.block _ rs2.lt) | replace rs2 := rs2.below hbn)
  (try first | replace rs3 := rs3.of_eq (hbn.block _ rs3.lt) | replace rs3 := rs3.below hbn)
  (try first | replace rs4 := rs4.of_eq (hbn.block _ rs4.lt) | replace rs4 := rs4.below hbn)
  refine ⟨_, rfl, ?_⟩
  simp only [Act.put, putS]
  (refine wpList_allocPx' rfl rfl ?_; intro b_p20 wn hle hge ht hbn hzn; have hsz := B.size; replace B := B.trans (hbn.mono (by omega)); have hln := Nat.lt_of_lt_of_eq (Nat.lt_succ_self _) hzn.symm; clear hzn; (try first | (have hlt := q3.lt; replace q3 := q3.of_eq (hbn.block _ (by omega))) | replace q3 := q3.below (hbn.mono hle)); (try first | (have hlt := c4.lt; replace c4 := c4.of_eq (hbn.block _ (by omega))) | replace c4 := c4.below (hbn.mono hle)); (try first | (have hlt := a5.lt; replace a5 := a5.of_eq (hbn.block _ (by omega))) | replace a5 := a5.below (hbn.mono hle)); (try first | (have hlt := r8.lt; replace r8 := r8.of_eq (hbn.block _ (by omega))) | replace r8 := r8.below (hbn.mono hle)); (try first | (have hlt := r9.lt; replace r9 := r9.of_eq (hbn.block _ (by omega))) | replace r9 := r9.below (hbn.mono hle)); (try first | (have hlt := m10.lt; replace m10 := m10.of_eq (hbn.block _ (by omega))) | replace m10 := m10.below (hbn.mono hle)); (try first | (have hlt := r12.lt; replace r12 := r12.of_eq (hbn.block _ (by omega))) | replace r12 := r12.below (hbn.mono hle)); (try first | (have hlt := m14.lt; replace m14 := m14.of_eq (hbn.block _ (by omega))) | replace m14 := m14.below (hbn.mono hle)); (try first | (have hlt := r16.lt; replace r16 := r16.of_eq (hbn.block _ (by omega))) | replace r16 := r16.below (hbn.mono hle)); (try first | (have hlt := ce1.lt; replace ce1 := ce1.of_eq (hbn.block _ (by omega))) | replace ce1 := ce1.below (hbn.mono hle)); (try first | (have hlt := ce2.lt; replace ce2 := ce2.of_eq (hbn.block _ (by omega))) | replace ce2 := ce2.below (hbn.mono hle)); (try first | (have hlt := rs1.lt; replace rs1 := rs1.of_eq (hbn.block _ (by omega))) | replace rs1 := rs1.below (hbn.mono hle)); (try first | (have hlt := rs2.lt; replace rs2 := rs2.of_eq (hbn.block _ (by omega))) | replace rs2 := rs2.below (hbn.mono hle)); (try first | (have hlt := rs3.lt; replace rs3 := rs3.of_eq (hbn.block _ (by omega))) | replace rs3 := rs3.below (hbn.mono hle)); (try first | (have hlt := rs4.lt; replace rs4 := rs4.of_eq (hbn.block _ (by omega))) | replace rs4 := rs4.below (hbn.mono hle)); have p20 := ht; clear ht; simp only [Act.put, putS])
  (refine wpList_storePx rfl _ _ rfl _ rfl (_) rfl p20 ?_; have p20o := p20; clear p20; intro wn ht hcn hzn; (try replace rs1 := rs1.chgP p20o hcn); (try replace rs2 := rs2.chgP p20o hcn); (try replace rs3 := rs3.chgP p20o hcn); (try replace rs4 := rs4.chgP p20o hcn); have hsz := B.size; replace hzn := Nat.le_of_eq hzn.symm; replace B := Chg.below B hcn (by omega) B.size; (try replace q3 := q3.of_eq (hcn.block _ q3.lt (by omega))); (try replace c4 := c4.of_eq (hcn.block _ c4.lt (by omega))); (try replace a5 := a5.of_eq (hcn.block _ a5.lt (by omega))); (try replace r8 := r8.of_eq (hcn.block _ r8.lt (by omega))); (try replace r9 := r9.of_eq (hcn.block _ r9.lt (by omega))); (try replace m10 := m10.of_eq (hcn.block _ m10.lt (by omega))); (try replace r12 := r12.of_eq (hcn.block _ r12.lt (by omega))); (try replace m14 := m14.of_eq (hcn.block _ m14.lt (by omega))); (try replace r16 := r16.of_eq (hcn.block _ r16.lt (by omega))); (try replace ce1 := ce1.of_eq (hcn.block _ ce1.lt (by omega))); (try replace ce2 := ce2.of_eq (hcn.block _ ce2.lt (by omega))); have p20 := ht; clear ht; simp only [Act.put, putS])
  refine wpList_nil ?_
  have lp20 := p20.lt
  cases hh : hasR (nearR c) X Y with
  | false =>
    rw [hh] at cg
    have CGV := Lib.hid (show getL (pstR (nearR c) (imgL (nearR c) (madeL L)) (madeL M)) X Y = getL (madeL M) X Y from cg)
    have HH := Lib.hid hh
    clear hh cg
    go_upto_region 12 with fail
    refine wp_region_lit ?_
    try simp only [List.getElem_toArray, List.getElem_cons_zero, List.getElem_cons_succ]
    refine wpList_chunk 4 (by kernel_rfl) ?_
    simp only [takS, Nat.reduceAdd]
    repeat (first | go_big_quiet_skip | (go_big_quiet_want; first | (refine quiet_loadAny (t := 64) rfl _ _ _ rfl (fun w hw => run_load_B (ov_B c4 w hw) Try.isAgg64 (by kernel_rfl)) (by rfl) ?_; simp only [Act.put, putS]; go_big_quiet_on) | (go_big_quiet_op; go_big_quiet_on)))
    refine wpQuiet_nil ?_
    refine wpList_callF (by first | rfl | simp [Region.wanted, yielded]) rfl (enters_of Try.func39 (by kernel_rfl) rfl) (by simp only [List.map_toArray, List.map_cons, List.map_nil, Act.eval, Array.getD_eq_getD_getElem?, List.getElem?_toArray, List.getElem?_cons_succ, List.getElem?_cons_zero, Option.getD_some]; rfl) ?_
    refine (P_HasO (nearR c) X Y false _ HH.out).mono ?_
    rintro e wn ⟨rfl, hbn⟩
    have hsz := B.size
    have hzn := hbn.size
    replace B := B.trans (hbn.mono B.size)
    (try first | replace q3 := q3.of_eq (hbn.block _ q3.lt) | replace q3 := q3.below hbn)
    (try first | replace c4 := c4.of_eq (hbn.block _ c4.lt) | replace c4 := c4.below hbn)
    (try first | replace a5 := a5.of_eq (hbn.block _ a5.lt) | replace a5 := a5.below hbn)
    (try first | replace r8 := r8.of_eq (hbn.block _ r8.lt) | replace r8 := r8.below hbn)
    (try first | replace r9 := r9.of_eq (hbn.block _ r9.lt) | replace r9 := r9.below hbn)
    (try first | replace m10 := m10.of_eq (hbn.block _ m10.lt) | replace m10 := m10.below hbn)
    (try first | replace r12 := r12.of_eq (hbn.block _ r12.lt) | replace r12 := r12.below hbn)
    (try first | replace m14 := m14.of_eq (hbn.block _ m14.lt) | replace m14 := m14.below hbn)
    (try first | replace r16 := r16.of_eq (hbn.block _ r16.lt) | replace r16 := r16.below hbn)
    (try first | replace p20 := p20.of_eq (hbn.block _ p20.lt) | replace p20 := p20.below hbn)
    (try first | replace ce1 := ce1.of_eq (hbn.block _ ce1.lt) | replace ce1 := ce1.below hbn)
    (try first | replace ce2 := ce2.of_eq (hbn.block _ ce2.lt) | replace ce2 := ce2.below hbn)
    (try first | replace rs1 := rs1.of_eq (hbn.block _ rs1.lt) | replace rs1 := rs1.below hbn)
    (try first | replace rs2 := rs2.of_eq (hbn.block _ rs2.lt) | replace rs2 := rs2.below hbn)
    (try first | replace rs3 := rs3.of_eq (hbn.block _ rs3.lt) | replace rs3 := rs3.below hbn)
    (try first | replace rs4 := rs4.of_eq (hbn.block _ rs4.lt) | replace rs4 := rs4.below hbn)
    refine ⟨_, rfl, ?_⟩
    simp only [Act.put, putS]
    refine wpList_nil ?_
    have hq := eqls_px (getL (madeL M) X Y)
    go_wp2
    try simp only [List.getElem_toArray, List.getElem_cons_zero, List.getElem_cons_succ]
    try have lx_q3 := q3.lt
    try have lx_c4 := c4.lt
    try have lx_a5 := a5.lt
    try have lx_r8 := r8.lt
    try have lx_r9 := r9.lt
    try have lx_m10 := m10.lt
    try have lx_r12 := r12.lt
    try have lx_m14 := m14.lt
    try have lx_r16 := r16.lt
    try have lx_p20 := p20.lt
    try have lx_ce1 := ce1.lt
    try have lx_ce2 := ce2.lt
    try have lx_rs1 := rs1.lt
    try have lx_rs2 := rs2.lt
    try have lx_rs3 := rs3.lt
    try have lx_rs4 := rs4.lt
    refine wp_region_RL 36 [(20, detS ?v1_20), (25, detS ?v1_25), (31, detS ?v1_31)] (by kernel_rfl) (by kernel_rfl) (by kernel_rfl) ?_
    rotate_left 3
    simp only [takS, Nat.reduceAdd]
    refine wpRL_chunk 20 (by kernel_rfl) ?_
    simp only [takS, Nat.reduceAdd]
    repeat (first | go_big_quiet_skip | (go_big_quiet_want; first | (refine quiet_loadAny (t := 68) rfl _ _ _ rfl (fun w hw => run_load_img (ov_B m10 w hw)) (by first | rfl | omega) ?_; simp only [Act.put, putS]; go_big_quiet_on) | (refine quiet_loadAny (t := 68) rfl _ _ _ rfl (fun w hw => run_load_img (ov_B m14 w hw)) (by first | rfl | omega) ?_; simp only [Act.put, putS]; go_big_quiet_on) | (go_big_quiet_op; go_big_quiet_on)))
    refine wpQuiet_nil ?_
    refine wpRL_callB (by rfl) ?hw1_20 ?_ ?_
    case hw1_20 => kernel_rfl
    · intro wn hbn hE Kx hKx
      have hsz := B.size
      have hzn := hbn.size
      replace B := B.trans (hbn.mono B.size)
      (try first | replace q3 := q3.of_eq (hbn.block _ q3.lt) | replace q3 := q3.below hbn)
      (try first | replace c4 := c4.of_eq (hbn.block _ c4.lt) | replace c4 := c4.below hbn)
      (try first | replace a5 := a5.of_eq (hbn.block _ a5.lt) | replace a5 := a5.below hbn)
      (try first | replace r8 := r8.of_eq (hbn.block _ r8.lt) | replace r8 := r8.below hbn)
      (try first | replace r9 := r9.of_eq (hbn.block _ r9.lt) | replace r9 := r9.below hbn)
      (try first | replace m10 := m10.of_eq (hbn.block _ m10.lt) | replace m10 := m10.below hbn)
      (try first | replace r12 := r12.of_eq (hbn.block _ r12.lt) | replace r12 := r12.below hbn)
      (try first | replace m14 := m14.of_eq (hbn.block _ m14.lt) | replace m14 := m14.below hbn)
      (try first | replace r16 := r16.of_eq (hbn.block _ r16.lt) | replace r16 := r16.below hbn)
      (try first | replace p20 := p20.of_eq (hbn.block _ p20.lt) | replace p20 := p20.below hbn)
      (try first | replace ce1 := ce1.of_eq (hbn.block _ ce1.lt) | replace ce1 := ce1.below hbn)
      (try first | replace ce2 := ce2.of_eq (hbn.block _ ce2.lt) | replace ce2 := ce2.below hbn)
      (try first | replace rs1 := rs1.of_eq (hbn.block _ rs1.lt) | replace rs1 := rs1.below hbn)
      (try first | replace rs2 := rs2.of_eq (hbn.block _ rs2.lt) | replace rs2 := rs2.below hbn)
      (try first | replace rs3 := rs3.of_eq (hbn.block _ rs3.lt) | replace rs3 := rs3.below hbn)
      (try first | replace rs4 := rs4.of_eq (hbn.block _ rs4.lt) | replace rs4 := rs4.below hbn)
      refine wp_callF rfl (enters_of Try.func50 (by kernel_rfl) rfl) (by simp only [List.map_toArray, List.map_cons, List.map_nil, Act.eval, Array.getD_eq_getD_getElem?, List.getElem?_toArray, List.getElem?_cons_succ, List.getElem?_cons_zero, Option.getD_some]; rfl) ?_
      refine (P_SameS (nearR c) _ _ (imgL (nearR c) (madeL L)) _ (RSE.mkP ce1 hcp1 HPL.out) (RSE.mkP ce2 hcp2 HPL.out) (by rw [HPL.out]; omega)).mono ?_
      rintro e wm ⟨rfl, hbm⟩
      refine ⟨_, rfl, ?_⟩
      have hz := hKx () wm trivial hbm
      dsimp only [detS] at hz
      exact hz
    rintro ⟨⟩
    dsimp only [detS]
    simp only [Act.put, putS]
    refine wpRL_chunk 4 (by kernel_rfl) ?_
    simp only [takS, Nat.reduceAdd]
    repeat (first | go_big_quiet_skip | (go_big_quiet_want; first | (refine quiet_loadAny (t := 30) rfl _ _ _ rfl (fun w hw => run_load_B (ov_B r8 w hw) Try.isAgg30 (by kernel_rfl)) (by rfl) ?_; simp only [Act.put, putS]; go_big_quiet_on) | (refine quiet_loadAny (t := 30) rfl _ _ _ rfl (fun w hw => run_load_B (ov_B r9 w hw) Try.isAgg30 (by kernel_rfl)) (by rfl) ?_; simp only [Act.put, putS]; go_big_quiet_on) | (refine quiet_loadAny (t := 30) rfl _ _ _ rfl (fun w hw => run_load_B (ov_B r12 w hw) Try.isAgg30 (by kernel_rfl)) (by rfl) ?_; simp only [Act.put, putS]; go_big_quiet_on) | (refine quiet_loadAny (t := 30) rfl _ _ _ rfl (fun w hw => run_load_B (ov_B r16 w hw) Try.isAgg30 (by kernel_rfl)) (by rfl) ?_; simp only [Act.put, putS]; go_big_quiet_on) | (go_big_quiet_op; go_big_quiet_on)))
    refine wpQuiet_nil ?_
    refine wpRL_callB (by rfl) ?hw1_25 ?_ ?_
    case hw1_25 => kernel_rfl
    · intro wn hbn hE Kx hKx
      have hsz := B.size
      have hzn := hbn.size
      replace B := B.trans (hbn.mono B.size)
      (try first | replace q3 := q3.of_eq (hbn.block _ q3.lt) | replace q3 := q3.below hbn)
      (try first | replace c4 := c4.of_eq (hbn.block _ c4.lt) | replace c4 := c4.below hbn)
      (try first | replace a5 := a5.of_eq (hbn.block _ a5.lt) | replace a5 := a5.below hbn)
      (try first | replace r8 := r8.of_eq (hbn.block _ r8.lt) | replace r8 := r8.below hbn)
      (try first | replace r9 := r9.of_eq (hbn.block _ r9.lt) | replace r9 := r9.below hbn)
      (try first | replace m10 := m10.of_eq (hbn.block _ m10.lt) | replace m10 := m10.below hbn)
      (try first | replace r12 := r12.of_eq (hbn.block _ r12.lt) | replace r12 := r12.below hbn)
      (try first | replace m14 := m14.of_eq (hbn.block _ m14.lt) | replace m14 := m14.below hbn)
      (try first | replace r16 := r16.of_eq (hbn.block _ r16.lt) | replace r16 := r16.below hbn)
      (try first | replace p20 := p20.of_eq (hbn.block _ p20.lt) | replace p20 := p20.below hbn)
      (try first | replace ce1 := ce1.of_eq (hbn.block _ ce1.lt) | replace ce1 := ce1.below hbn)
      (try first | replace ce2 := ce2.of_eq (hbn.block _ ce2.lt) | replace ce2 := ce2.below hbn)
      (try first | replace rs1 := rs1.of_eq (hbn.block _ rs1.lt) | replace rs1 := rs1.below hbn)
      (try first | replace rs2 := rs2.of_eq (hbn.block _ rs2.lt) | replace rs2 := rs2.below hbn)
      (try first | replace rs3 := rs3.of_eq (hbn.block _ rs3.lt) | replace rs3 := rs3.below hbn)
      (try first | replace rs4 := rs4.of_eq (hbn.block _ rs4.lt) | replace rs4 := rs4.below hbn)
      refine wp_callF rfl (enters_of Try.func44 (by kernel_rfl) rfl) (by simp only [List.map_toArray, List.map_cons, List.map_nil, Act.eval, Array.getD_eq_getD_getElem?, List.getElem?_toArray, List.getElem?_cons_succ, List.getElem?_cons_zero, Option.getD_some]; rfl) ?_
      refine (P_EqualT _ _ (pstR (nearR c) (imgL (nearR c) (madeL L)) (madeL L)) (madeL L) _ rs4 rs1 tQ.out (madeL_tok L) nQ.out n1.out CS.out).mono ?_
      rintro e wm ⟨rfl, hbm⟩
      refine ⟨_, rfl, ?_⟩
      have hz := hKx () wm trivial hbm
      dsimp only [detS] at hz
      exact hz
    rintro ⟨⟩
    dsimp only [detS]
    simp only [Act.put, putS]
    refine wpRL_chunk 5 (by kernel_rfl) ?_
    simp only [takS, Nat.reduceAdd]
    repeat (first | go_big_quiet_skip | (go_big_quiet_want; first | (refine quiet_loadAny (t := 30) rfl _ _ _ rfl (fun w hw => run_load_B (ov_B r8 w hw) Try.isAgg30 (by kernel_rfl)) (by rfl) ?_; simp only [Act.put, putS]; go_big_quiet_on) | (refine quiet_loadAny (t := 30) rfl _ _ _ rfl (fun w hw => run_load_B (ov_B r9 w hw) Try.isAgg30 (by kernel_rfl)) (by rfl) ?_; simp only [Act.put, putS]; go_big_quiet_on) | (refine quiet_loadAny (t := 30) rfl _ _ _ rfl (fun w hw => run_load_B (ov_B r12 w hw) Try.isAgg30 (by kernel_rfl)) (by rfl) ?_; simp only [Act.put, putS]; go_big_quiet_on) | (refine quiet_loadAny (t := 30) rfl _ _ _ rfl (fun w hw => run_load_B (ov_B r16 w hw) Try.isAgg30 (by kernel_rfl)) (by rfl) ?_; simp only [Act.put, putS]; go_big_quiet_on) | (go_big_quiet_op; go_big_quiet_on)))
    refine wpQuiet_nil ?_
    refine wpRL_callB (by rfl) ?hw1_31 ?_ ?_
    case hw1_31 => kernel_rfl
    · intro wn hbn hE Kx hKx
      have hsz := B.size
      have hzn := hbn.size
      replace B := B.trans (hbn.mono B.size)
      (try first | replace q3 := q3.of_eq (hbn.block _ q3.lt) | replace q3 := q3.below hbn)
      (try first | replace c4 := c4.of_eq (hbn.block _ c4.lt) | replace c4 := c4.below hbn)
      (try first | replace a5 := a5.of_eq (hbn.block _ a5.lt) | replace a5 := a5.below hbn)
      (try first | replace r8 := r8.of_eq (hbn.block _ r8.lt) | replace r8 := r8.below hbn)
      (try first | replace r9 := r9.of_eq (hbn.block _ r9.lt) | replace r9 := r9.below hbn)
      (try first | replace m10 := m10.of_eq (hbn.block _ m10.lt) | replace m10 := m10.below hbn)
      (try first | replace r12 := r12.of_eq (hbn.block _ r12.lt) | replace r12 := r12.below hbn)
      (try first | replace m14 := m14.of_eq (hbn.block _ m14.lt) | replace m14 := m14.below hbn)
      (try first | replace r16 := r16.of_eq (hbn.block _ r16.lt) | replace r16 := r16.below hbn)
      (try first | replace p20 := p20.of_eq (hbn.block _ p20.lt) | replace p20 := p20.below hbn)
      (try first | replace ce1 := ce1.of_eq (hbn.block _ ce1.lt) | replace ce1 := ce1.below hbn)
      (try first | replace ce2 := ce2.of_eq (hbn.block _ ce2.lt) | replace ce2 := ce2.below hbn)
      (try first | replace rs1 := rs1.of_eq (hbn.block _ rs1.lt) | replace rs1 := rs1.below hbn)
      (try first | replace rs2 := rs2.of_eq (hbn.block _ rs2.lt) | replace rs2 := rs2.below hbn)
      (try first | replace rs3 := rs3.of_eq (hbn.block _ rs3.lt) | replace rs3 := rs3.below hbn)
      (try first | replace rs4 := rs4.of_eq (hbn.block _ rs4.lt) | replace rs4 := rs4.below hbn)
      refine wp_callF rfl (enters_of Try.func20 (by kernel_rfl) rfl) (by simp only [List.map_toArray, List.map_cons, List.map_nil, Act.eval, Array.getD_eq_getD_getElem?, List.getElem?_toArray, List.getElem?_cons_succ, List.getElem?_cons_zero, Option.getD_some]; rfl) ?_
      refine (P_GetC _ (pstR (nearR c) (imgL (nearR c) (madeL L)) (madeL M)) X Y (getL (madeL M) X Y) _ rs3 nR.out wX wY CGV.out).mono ?_
      rintro e wm ⟨rfl, hbm⟩
      refine ⟨_, rfl, ?_⟩
      have hz := hKx () wm trivial hbm
      dsimp only [detS] at hz
      exact hz
    rintro ⟨⟩
    dsimp only [detS]
    simp only [Act.put, putS]
    refine wpRL_chunk 4 (by kernel_rfl) ?_
    simp only [takS, Nat.reduceAdd]
    repeat (first | go_big_quiet_skip | (go_big_quiet_want; first | (refine quiet_loadPx rfl _ rfl (ov_px p20) ?_; simp only [Act.put, putS]; go_big_quiet_on) | (go_big_quiet_op; go_big_quiet_on)))
    refine wpQuiet_nil ?_
    refine wpRL_nil ?_
    intro wn hbn hE
    have hsz := B.size
    have hzn := hbn.size
    replace B := B.trans (hbn.mono B.size)
    (try first | replace q3 := q3.of_eq (hbn.block _ q3.lt) | replace q3 := q3.below hbn)
    (try first | replace c4 := c4.of_eq (hbn.block _ c4.lt) | replace c4 := c4.below hbn)
    (try first | replace a5 := a5.of_eq (hbn.block _ a5.lt) | replace a5 := a5.below hbn)
    (try first | replace r8 := r8.of_eq (hbn.block _ r8.lt) | replace r8 := r8.below hbn)
    (try first | replace r9 := r9.of_eq (hbn.block _ r9.lt) | replace r9 := r9.below hbn)
    (try first | replace m10 := m10.of_eq (hbn.block _ m10.lt) | replace m10 := m10.below hbn)
    (try first | replace r12 := r12.of_eq (hbn.block _ r12.lt) | replace r12 := r12.below hbn)
    (try first | replace m14 := m14.of_eq (hbn.block _ m14.lt) | replace m14 := m14.below hbn)
    (try first | replace r16 := r16.of_eq (hbn.block _ r16.lt) | replace r16 := r16.below hbn)
    (try first | replace p20 := p20.of_eq (hbn.block _ p20.lt) | replace p20 := p20.below hbn)
    (try first | replace ce1 := ce1.of_eq (hbn.block _ ce1.lt) | replace ce1 := ce1.below hbn)
    (try first | replace ce2 := ce2.of_eq (hbn.block _ ce2.lt) | replace ce2 := ce2.below hbn)
    (try first | replace rs1 := rs1.of_eq (hbn.block _ rs1.lt) | replace rs1 := rs1.below hbn)
    (try first | replace rs2 := rs2.of_eq (hbn.block _ rs2.lt) | replace rs2 := rs2.below hbn)
    (try first | replace rs3 := rs3.of_eq (hbn.block _ rs3.lt) | replace rs3 := rs3.below hbn)
    (try first | replace rs4 := rs4.of_eq (hbn.block _ rs4.lt) | replace rs4 := rs4.below hbn)
    clear hE
    try simp only [List.drop_succ_cons, List.drop_zero]
    refine NoPan.normal ?_
    iterate 3 go_step
    go_ret
    exact ⟨rfl, B⟩
  | true =>
    rw [hh] at cg
    have CGV := Lib.hid (show getL (pstR (nearR c) (imgL (nearR c) (madeL L)) (madeL M)) X Y = getL (madeL L) X Y from cg)
    have HH := Lib.hid hh
    clear hh cg
    go_upto_region 12 with fail
    refine wp_region_lit ?_
    try simp only [List.getElem_toArray, List.getElem_cons_zero, List.getElem_cons_succ]
    refine wpList_chunk 4 (by kernel_rfl) ?_
    simp only [takS, Nat.reduceAdd]
    repeat (first | go_big_quiet_skip | (go_big_quiet_want; first | (refine quiet_loadAny (t := 64) rfl _ _ _ rfl (fun w hw => run_load_B (ov_B c4 w hw) Try.isAgg64 (by kernel_rfl)) (by rfl) ?_; simp only [Act.put, putS]; go_big_quiet_on) | (go_big_quiet_op; go_big_quiet_on)))
    refine wpQuiet_nil ?_
    refine wpList_callF (by first | rfl | simp [Region.wanted, yielded]) rfl (enters_of Try.func39 (by kernel_rfl) rfl) (by simp only [List.map_toArray, List.map_cons, List.map_nil, Act.eval, Array.getD_eq_getD_getElem?, List.getElem?_toArray, List.getElem?_cons_succ, List.getElem?_cons_zero, Option.getD_some]; rfl) ?_
    refine (P_HasO (nearR c) X Y true _ HH.out).mono ?_
    rintro e wn ⟨rfl, hbn⟩
    have hsz := B.size
    have hzn := hbn.size
    replace B := B.trans (hbn.mono B.size)
    (try first | replace q3 := q3.of_eq (hbn.block _ q3.lt) | replace q3 := q3.below hbn)
    (try first | replace c4 := c4.of_eq (hbn.block _ c4.lt) | replace c4 := c4.below hbn)
    (try first | replace a5 := a5.of_eq (hbn.block _ a5.lt) | replace a5 := a5.below hbn)
    (try first | replace r8 := r8.of_eq (hbn.block _ r8.lt) | replace r8 := r8.below hbn)
    (try first | replace r9 := r9.of_eq (hbn.block _ r9.lt) | replace r9 := r9.below hbn)
    (try first | replace m10 := m10.of_eq (hbn.block _ m10.lt) | replace m10 := m10.below hbn)
    (try first | replace r12 := r12.of_eq (hbn.block _ r12.lt) | replace r12 := r12.below hbn)
    (try first | replace m14 := m14.of_eq (hbn.block _ m14.lt) | replace m14 := m14.below hbn)
    (try first | replace r16 := r16.of_eq (hbn.block _ r16.lt) | replace r16 := r16.below hbn)
    (try first | replace p20 := p20.of_eq (hbn.block _ p20.lt) | replace p20 := p20.below hbn)
    (try first | replace ce1 := ce1.of_eq (hbn.block _ ce1.lt) | replace ce1 := ce1.below hbn)
    (try first | replace ce2 := ce2.of_eq (hbn.block _ ce2.lt) | replace ce2 := ce2.below hbn)
    (try first | replace rs1 := rs1.of_eq (hbn.block _ rs1.lt) | replace rs1 := rs1.below hbn)
    (try first | replace rs2 := rs2.of_eq (hbn.block _ rs2.lt) | replace rs2 := rs2.below hbn)
    (try first | replace rs3 := rs3.of_eq (hbn.block _ rs3.lt) | replace rs3 := rs3.below hbn)
    (try first | replace rs4 := rs4.of_eq (hbn.block _ rs4.lt) | replace rs4 := rs4.below hbn)
    refine ⟨_, rfl, ?_⟩
    simp only [Act.put, putS]
    refine wpList_nil ?_
    go_upto_region 13 with fail
    refine wp_region_lit ?_
    try simp only [List.getElem_toArray, List.getElem_cons_zero, List.getElem_cons_succ]
    refine wpList_chunk 3 (by kernel_rfl) ?_
    simp only [takS, Nat.reduceAdd]
    repeat (first | go_big_quiet_skip | (go_big_quiet_want; first | (refine quiet_loadAny (t := 30) rfl _ _ _ rfl (fun w hw => run_load_B (ov_B r8 w hw) Try.isAgg30 (by kernel_rfl)) (by rfl) ?_; simp only [Act.put, putS]; go_big_quiet_on) | (refine quiet_loadAny (t := 30) rfl _ _ _ rfl (fun w hw => run_load_B (ov_B r9 w hw) Try.isAgg30 (by kernel_rfl)) (by rfl) ?_; simp only [Act.put, putS]; go_big_quiet_on) | (refine quiet_loadAny (t := 30) rfl _ _ _ rfl (fun w hw => run_load_B (ov_B r12 w hw) Try.isAgg30 (by kernel_rfl)) (by rfl) ?_; simp only [Act.put, putS]; go_big_quiet_on) | (refine quiet_loadAny (t := 30) rfl _ _ _ rfl (fun w hw => run_load_B (ov_B r16 w hw) Try.isAgg30 (by kernel_rfl)) (by rfl) ?_; simp only [Act.put, putS]; go_big_quiet_on) | (go_big_quiet_op; go_big_quiet_on)))
    refine wpQuiet_nil ?_
    refine wpList_callF (by first | rfl | simp [Region.wanted, yielded]) rfl (enters_of Try.func20 (by kernel_rfl) rfl) (by simp only [List.map_toArray, List.map_cons, List.map_nil, Act.eval, Array.getD_eq_getD_getElem?, List.getElem?_toArray, List.getElem?_cons_succ, List.getElem?_cons_zero, Option.getD_some]; rfl) ?_
    refine (P_GetC _ (madeL L) X Y (getL (madeL L) X Y) _ rs1 n1.out wX wY rfl).mono ?_
    rintro e wn ⟨rfl, hbn⟩
    have hsz := B.size
    have hzn := hbn.size
    replace B := B.trans (hbn.mono B.size)
    (try first | replace q3 := q3.of_eq (hbn.block _ q3.lt) | replace q3 := q3.below hbn)
    (try first | replace c4 := c4.of_eq (hbn.block _ c4.lt) | replace c4 := c4.below hbn)
    (try first | replace a5 := a5.of_eq (hbn.block _ a5.lt) | replace a5 := a5.below hbn)
    (try first | replace r8 := r8.of_eq (hbn.block _ r8.lt) | replace r8 := r8.below hbn)
    (try first | replace r9 := r9.of_eq (hbn.block _ r9.lt) | replace r9 := r9.below hbn)
    (try first | replace m10 := m10.of_eq (hbn.block _ m10.lt) | replace m10 := m10.below hbn)
    (try first | replace r12 := r12.of_eq (hbn.block _ r12.lt) | replace r12 := r12.below hbn)
    (try first | replace m14 := m14.of_eq (hbn.block _ m14.lt) | replace m14 := m14.below hbn)
    (try first | replace r16 := r16.of_eq (hbn.block _ r16.lt) | replace r16 := r16.below hbn)
    (try first | replace p20 := p20.of_eq (hbn.block _ p20.lt) | replace p20 := p20.below hbn)
    (try first | replace ce1 := ce1.of_eq (hbn.block _ ce1.lt) | replace ce1 := ce1.below hbn)
    (try first | replace ce2 := ce2.of_eq (hbn.block _ ce2.lt) | replace ce2 := ce2.below hbn)
    (try first | replace rs1 := rs1.of_eq (hbn.block _ rs1.lt) | replace rs1 := rs1.below hbn)
    (try first | replace rs2 := rs2.of_eq (hbn.block _ rs2.lt) | replace rs2 := rs2.below hbn)
    (try first | replace rs3 := rs3.of_eq (hbn.block _ rs3.lt) | replace rs3 := rs3.below hbn)
    (try first | replace rs4 := rs4.of_eq (hbn.block _ rs4.lt) | replace rs4 := rs4.below hbn)
    refine ⟨_, rfl, ?_⟩
    simp only [Act.put, putS]
    (refine wpList_storePx rfl _ _ rfl _ rfl (_) rfl p20 ?_; have p20o := p20; clear p20; intro wn ht hcn hzn; (try replace rs1 := rs1.chgP p20o hcn); (try replace rs2 := rs2.chgP p20o hcn); (try replace rs3 := rs3.chgP p20o hcn); (try replace rs4 := rs4.chgP p20o hcn); have hsz := B.size; replace hzn := Nat.le_of_eq hzn.symm; replace B := Chg.below B hcn (by omega) B.size; (try replace q3 := q3.of_eq (hcn.block _ q3.lt (by omega))); (try replace c4 := c4.of_eq (hcn.block _ c4.lt (by omega))); (try replace a5 := a5.of_eq (hcn.block _ a5.lt (by omega))); (try replace r8 := r8.of_eq (hcn.block _ r8.lt (by omega))); (try replace r9 := r9.of_eq (hcn.block _ r9.lt (by omega))); (try replace m10 := m10.of_eq (hcn.block _ m10.lt (by omega))); (try replace r12 := r12.of_eq (hcn.block _ r12.lt (by omega))); (try replace m14 := m14.of_eq (hcn.block _ m14.lt (by omega))); (try replace r16 := r16.of_eq (hcn.block _ r16.lt (by omega))); (try replace ce1 := ce1.of_eq (hcn.block _ ce1.lt (by omega))); (try replace ce2 := ce2.of_eq (hcn.block _ ce2.lt (by omega))); have p20 := ht; clear ht; simp only [Act.put, putS])
    refine wpList_nil ?_
    have hq := eqls_px (getL (madeL L) X Y)
    go_wp2
    try simp only [List.getElem_toArray, List.getElem_cons_zero, List.getElem_cons_succ]
    try have lx_q3 := q3.lt
    try have lx_c4 := c4.lt
    try have lx_a5 := a5.lt
    try have lx_r8 := r8.lt
    try have lx_r9 := r9.lt
    try have lx_m10 := m10.lt
    try have lx_r12 := r12.lt
    try have lx_m14 := m14.lt
    try have lx_r16 := r16.lt
    try have lx_p20 := p20.lt
    try have lx_ce1 := ce1.lt
    try have lx_ce2 := ce2.lt
    try have lx_rs1 := rs1.lt
    try have lx_rs2 := rs2.lt
    try have lx_rs3 := rs3.lt
    try have lx_rs4 := rs4.lt
    refine wp_region_RL 36 [(20, detS ?v2_20), (25, detS ?v2_25), (31, detS ?v2_31)] (by kernel_rfl) (by kernel_rfl) (by kernel_rfl) ?_
    rotate_left 3
    simp only [takS, Nat.reduceAdd]
    refine wpRL_chunk 20 (by kernel_rfl) ?_
    simp only [takS, Nat.reduceAdd]
    repeat (first | go_big_quiet_skip | (go_big_quiet_want; first | (refine quiet_loadAny (t := 68) rfl _ _ _ rfl (fun w hw => run_load_img (ov_B m10 w hw)) (by first | rfl | omega) ?_; simp only [Act.put, putS]; go_big_quiet_on) | (refine quiet_loadAny (t := 68) rfl _ _ _ rfl (fun w hw => run_load_img (ov_B m14 w hw)) (by first | rfl | omega) ?_; simp only [Act.put, putS]; go_big_quiet_on) | (go_big_quiet_op; go_big_quiet_on)))
    refine wpQuiet_nil ?_
    refine wpRL_callB (by rfl) ?hw2_20 ?_ ?_
    case hw2_20 => kernel_rfl
    · intro wn hbn hE Kx hKx
      have hsz := B.size
      have hzn := hbn.size
      replace B := B.trans (hbn.mono B.size)
      (try first | replace q3 := q3.of_eq (hbn.block _ q3.lt) | replace q3 := q3.below hbn)
      (try first | replace c4 := c4.of_eq (hbn.block _ c4.lt) | replace c4 := c4.below hbn)
      (try first | replace a5 := a5.of_eq (hbn.block _ a5.lt) | replace a5 := a5.below hbn)
      (try first | replace r8 := r8.of_eq (hbn.block _ r8.lt) | replace r8 := r8.below hbn)
      (try first | replace r9 := r9.of_eq (hbn.block _ r9.lt) | replace r9 := r9.below hbn)
      (try first | replace m10 := m10.of_eq (hbn.block _ m10.lt) | replace m10 := m10.below hbn)
      (try first | replace r12 := r12.of_eq (hbn.block _ r12.lt) | replace r12 := r12.below hbn)
      (try first | replace m14 := m14.of_eq (hbn.block _ m14.lt) | replace m14 := m14.below hbn)
      (try first | replace r16 := r16.of_eq (hbn.block _ r16.lt) | replace r16 := r16.below hbn)
      (try first | replace p20 := p20.of_eq (hbn.block _ p20.lt) | replace p20 := p20.below hbn)
      (try first | replace ce1 := ce1.of_eq (hbn.block _ ce1.lt) | replace ce1 := ce1.below hbn)
      (try first | replace ce2 := ce2.of_eq (hbn.block _ ce2.lt) | replace ce2 := ce2.below hbn)
      (try first | replace rs1 := rs1.of_eq (hbn.block _ rs1.lt) | replace rs1 := rs1.below hbn)
      (try first | replace rs2 := rs2.of_eq (hbn.block _ rs2.lt) | replace rs2 := rs2.below hbn)
      (try first | replace rs3 := rs3.of_eq (hbn.block _ rs3.lt) | replace rs3 := rs3.below hbn)
      (try first | replace rs4 := rs4.of_eq (hbn.block _ rs4.lt) | replace rs4 := rs4.below hbn)
      refine wp_callF rfl (enters_of Try.func50 (by kernel_rfl) rfl) (by simp only [List.map_toArray, List.map_cons, List.map_nil, Act.eval, Array.getD_eq_getD_getElem?, List.getElem?_toArray, List.getElem?_cons_succ, List.getElem?_cons_zero, Option.getD_some]; rfl) ?_
      refine (P_SameS (nearR c) _ _ (imgL (nearR c) (madeL L)) _ (RSE.mkP ce1 hcp1 HPL.out) (RSE.mkP ce2 hcp2 HPL.out) (by rw [HPL.out]; omega)).mono ?_
      rintro e wm ⟨rfl, hbm⟩
      refine ⟨_, rfl, ?_⟩
      have hz := hKx () wm trivial hbm
      dsimp only [detS] at hz
      exact hz
    rintro ⟨⟩
    dsimp only [detS]
    simp only [Act.put, putS]
    refine wpRL_chunk 4 (by kernel_rfl) ?_
    simp only [takS, Nat.reduceAdd]
    repeat (first | go_big_quiet_skip | (go_big_quiet_want; first | (refine quiet_loadAny (t := 30) rfl _ _ _ rfl (fun w hw => run_load_B (ov_B r8 w hw) Try.isAgg30 (by kernel_rfl)) (by rfl) ?_; simp only [Act.put, putS]; go_big_quiet_on) | (refine quiet_loadAny (t := 30) rfl _ _ _ rfl (fun w hw => run_load_B (ov_B r9 w hw) Try.isAgg30 (by kernel_rfl)) (by rfl) ?_; simp only [Act.put, putS]; go_big_quiet_on) | (refine quiet_loadAny (t := 30) rfl _ _ _ rfl (fun w hw => run_load_B (ov_B r12 w hw) Try.isAgg30 (by kernel_rfl)) (by rfl) ?_; simp only [Act.put, putS]; go_big_quiet_on) | (refine quiet_loadAny (t := 30) rfl _ _ _ rfl (fun w hw => run_load_B (ov_B r16 w hw) Try.isAgg30 (by kernel_rfl)) (by rfl) ?_; simp only [Act.put, putS]; go_big_quiet_on) | (go_big_quiet_op; go_big_quiet_on)))
    refine wpQuiet_nil ?_
    refine wpRL_callB (by rfl) ?hw2_25 ?_ ?_
    case hw2_25 => kernel_rfl
    · intro wn hbn hE Kx hKx
      have hsz := B.size
      have hzn := hbn.size
      replace B := B.trans (hbn.mono B.size)
      (try first | replace q3 := q3.of_eq (hbn.block _ q3.lt) | replace q3 := q3.below hbn)
      (try first | replace c4 := c4.of_eq (hbn.block _ c4.lt) | replace c4 := c4.below hbn)
      (try first | replace a5 := a5.of_eq (hbn.block _ a5.lt) | replace a5 := a5.below hbn)
      (try first | replace r8 := r8.of_eq (hbn.block _ r8.lt) | replace r8 := r8.below hbn)
      (try first | replace r9 := r9.of_eq (hbn.block _ r9.lt) | replace r9 := r9.below hbn)
      (try first | replace m10 := m10.of_eq (hbn.block _ m10.lt) | replace m10 := m10.below hbn)
      (try first | replace r12 := r12.of_eq (hbn.block _ r12.lt) | replace r12 := r12.below hbn)
      (try first | replace m14 := m14.of_eq (hbn.block _ m14.lt) | replace m14 := m14.below hbn)
      (try first | replace r16 := r16.of_eq (hbn.block _ r16.lt) | replace r16 := r16.below hbn)
      (try first | replace p20 := p20.of_eq (hbn.block _ p20.lt) | replace p20 := p20.below hbn)
      (try first | replace ce1 := ce1.of_eq (hbn.block _ ce1.lt) | replace ce1 := ce1.below hbn)
      (try first | replace ce2 := ce2.of_eq (hbn.block _ ce2.lt) | replace ce2 := ce2.below hbn)
      (try first | replace rs1 := rs1.of_eq (hbn.block _ rs1.lt) | replace rs1 := rs1.below hbn)
      (try first | replace rs2 := rs2.of_eq (hbn.block _ rs2.lt) | replace rs2 := rs2.below hbn)
      (try first | replace rs3 := rs3.of_eq (hbn.block _ rs3.lt) | replace rs3 := rs3.below hbn)
      (try first | replace rs4 := rs4.of_eq (hbn.block _ rs4.lt) | replace rs4 := rs4.below hbn)
      refine wp_callF rfl (enters_of Try.func44 (by kernel_rfl) rfl) (by simp only [List.map_toArray, List.map_cons, List.map_nil, Act.eval, Array.getD_eq_getD_getElem?, List.getElem?_toArray, List.getElem?_cons_succ, List.getElem?_cons_zero, Option.getD_some]; rfl) ?_
      refine (P_EqualT _ _ (pstR (nearR c) (imgL (nearR c) (madeL L)) (madeL L)) (madeL L) _ rs4 rs1 tQ.out (madeL_tok L) nQ.out n1.out CS.out).mono ?_
      rintro e wm ⟨rfl, hbm⟩
      refine ⟨_, rfl, ?_⟩
      have hz := hKx () wm trivial hbm
      dsimp only [detS] at hz
      exact hz
    rintro ⟨⟩
    dsimp only [detS]
    simp only [Act.put, putS]
    refine wpRL_chunk 5 (by kernel_rfl) ?_
    simp only [takS, Nat.reduceAdd]
    repeat (first | go_big_quiet_skip | (go_big_quiet_want; first | (refine quiet_loadAny (t := 30) rfl _ _ _ rfl (fun w hw => run_load_B (ov_B r8 w hw) Try.isAgg30 (by kernel_rfl)) (by rfl) ?_; simp only [Act.put, putS]; go_big_quiet_on) | (refine quiet_loadAny (t := 30) rfl _ _ _ rfl (fun w hw => run_load_B (ov_B r9 w hw) Try.isAgg30 (by kernel_rfl)) (by rfl) ?_; simp only [Act.put, putS]; go_big_quiet_on) | (refine quiet_loadAny (t := 30) rfl _ _ _ rfl (fun w hw => run_load_B (ov_B r12 w hw) Try.isAgg30 (by kernel_rfl)) (by rfl) ?_; simp only [Act.put, putS]; go_big_quiet_on) | (refine quiet_loadAny (t := 30) rfl _ _ _ rfl (fun w hw => run_load_B (ov_B r16 w hw) Try.isAgg30 (by kernel_rfl)) (by rfl) ?_; simp only [Act.put, putS]; go_big_quiet_on) | (go_big_quiet_op; go_big_quiet_on)))
    refine wpQuiet_nil ?_
    refine wpRL_callB (by rfl) ?hw2_31 ?_ ?_
    case hw2_31 => kernel_rfl
    · intro wn hbn hE Kx hKx
      have hsz := B.size
      have hzn := hbn.size
      replace B := B.trans (hbn.mono B.size)
      (try first | replace q3 := q3.of_eq (hbn.block _ q3.lt) | replace q3 := q3.below hbn)
      (try first | replace c4 := c4.of_eq (hbn.block _ c4.lt) | replace c4 := c4.below hbn)
      (try first | replace a5 := a5.of_eq (hbn.block _ a5.lt) | replace a5 := a5.below hbn)
      (try first | replace r8 := r8.of_eq (hbn.block _ r8.lt) | replace r8 := r8.below hbn)
      (try first | replace r9 := r9.of_eq (hbn.block _ r9.lt) | replace r9 := r9.below hbn)
      (try first | replace m10 := m10.of_eq (hbn.block _ m10.lt) | replace m10 := m10.below hbn)
      (try first | replace r12 := r12.of_eq (hbn.block _ r12.lt) | replace r12 := r12.below hbn)
      (try first | replace m14 := m14.of_eq (hbn.block _ m14.lt) | replace m14 := m14.below hbn)
      (try first | replace r16 := r16.of_eq (hbn.block _ r16.lt) | replace r16 := r16.below hbn)
      (try first | replace p20 := p20.of_eq (hbn.block _ p20.lt) | replace p20 := p20.below hbn)
      (try first | replace ce1 := ce1.of_eq (hbn.block _ ce1.lt) | replace ce1 := ce1.below hbn)
      (try first | replace ce2 := ce2.of_eq (hbn.block _ ce2.lt) | replace ce2 := ce2.below hbn)
      (try first | replace rs1 := rs1.of_eq (hbn.block _ rs1.lt) | replace rs1 := rs1.below hbn)
      (try first | replace rs2 := rs2.of_eq (hbn.block _ rs2.lt) | replace rs2 := rs2.below hbn)
      (try first | replace rs3 := rs3.of_eq (hbn.block _ rs3.lt) | replace rs3 := rs3.below hbn)
      (try first | replace rs4 := rs4.of_eq (hbn.block _ rs4.lt) | replace rs4 := rs4.below hbn)
      refine wp_callF rfl (enters_of Try.func20 (by kernel_rfl) rfl) (by simp only [List.map_toArray, List.map_cons, List.map_nil, Act.eval, Array.getD_eq_getD_getElem?, List.getElem?_toArray, List.getElem?_cons_succ, List.getElem?_cons_zero, Option.getD_some]; rfl) ?_
      refine (P_GetC _ (pstR (nearR c) (imgL (nearR c) (madeL L)) (madeL M)) X Y (getL (madeL L) X Y) _ rs3 nR.out wX wY CGV.out).mono ?_
      rintro e wm ⟨rfl, hbm⟩
      refine ⟨_, rfl, ?_⟩
      have hz := hKx () wm trivial hbm
      dsimp only [detS] at hz
      exact hz
    rintro ⟨⟩
    dsimp only [detS]
    simp only [Act.put, putS]
    refine wpRL_chunk 4 (by kernel_rfl) ?_
    simp only [takS, Nat.reduceAdd]
    repeat (first | go_big_quiet_skip | (go_big_quiet_want; first | (refine quiet_loadPx rfl _ rfl (ov_px p20) ?_; simp only [Act.put, putS]; go_big_quiet_on) | (go_big_quiet_op; go_big_quiet_on)))
    refine wpQuiet_nil ?_
    refine wpRL_nil ?_
    intro wn hbn hE
    have hsz := B.size
    have hzn := hbn.size
    replace B := B.trans (hbn.mono B.size)
    (try first | replace q3 := q3.of_eq (hbn.block _ q3.lt) | replace q3 := q3.below hbn)
    (try first | replace c4 := c4.of_eq (hbn.block _ c4.lt) | replace c4 := c4.below hbn)
    (try first | replace a5 := a5.of_eq (hbn.block _ a5.lt) | replace a5 := a5.below hbn)
    (try first | replace r8 := r8.of_eq (hbn.block _ r8.lt) | replace r8 := r8.below hbn)
    (try first | replace r9 := r9.of_eq (hbn.block _ r9.lt) | replace r9 := r9.below hbn)
    (try first | replace m10 := m10.of_eq (hbn.block _ m10.lt) | replace m10 := m10.below hbn)
    (try first | replace r12 := r12.of_eq (hbn.block _ r12.lt) | replace r12 := r12.below hbn)
    (try first | replace m14 := m14.of_eq (hbn.block _ m14.lt) | replace m14 := m14.below hbn)
    (try first | replace r16 := r16.of_eq (hbn.block _ r16.lt) | replace r16 := r16.below hbn)
    (try first | replace p20 := p20.of_eq (hbn.block _ p20.lt) | replace p20 := p20.below hbn)
    (try first | replace ce1 := ce1.of_eq (hbn.block _ ce1.lt) | replace ce1 := ce1.below hbn)
    (try first | replace ce2 := ce2.of_eq (hbn.block _ ce2.lt) | replace ce2 := ce2.below hbn)
    (try first | replace rs1 := rs1.of_eq (hbn.block _ rs1.lt) | replace rs1 := rs1.below hbn)
    (try first | replace rs2 := rs2.of_eq (hbn.block _ rs2.lt) | replace rs2 := rs2.below hbn)
    (try first | replace rs3 := rs3.of_eq (hbn.block _ rs3.lt) | replace rs3 := rs3.below hbn)
    (try first | replace rs4 := rs4.of_eq (hbn.block _ rs4.lt) | replace rs4 := rs4.below hbn)
    clear hE
    try simp only [List.drop_succ_cons, List.drop_zero]
    refine NoPan.normal ?_
    iterate 3 go_step
    go_ret
    exact ⟨rfl, B⟩
namespace rasterCopy
open Go.ChangeShapes Go.WideShapes Go.ChangeAt Go.RowKit
open Go.ChangeMaps (open_string shut_string)
set_option maxRecDepth 100000 in
theorem lifted (os : Os) (started : os.Started) (H : Type) (enc : TypeId × Value → H) :
    ReturnsInHanded {} Try.checked os 13 .any (Rows.rasterCopySpec.pre6 enc Try.prog Try.f13 Rows.rasterCopyRow.domain false) (Rows.rasterCopySpec.post enc Try.prog Try.f13 false true false false) := by
  refine returnsInHanded_of_change_sized (C := Try.checked) own started (by kernel_rfl) Try.func13
    (ChangeSpec.witness6 (enc := enc) (C := Try.checked) false ⟨#[], #[.agg #[.slice none 0 0, .slice none 0 0], .agg #[.int .i64 0, .int .i64 0, .int .i64 0, .int .i64 0], .agg #[.int .i64 0, .int .i64 0]], []⟩ 8 (by kernel_rfl) (by kernel_rfl) (by kernel_rfl) (by kernel_rfl)) ?_
  intro W base args ds gs before hval0 hW hcnd hsz0 _
  have hval : ∀ (j : Nat) t v, Try.f13.params[j]? = some t → args[j]? = some v → Value.okWide Try.prog W .any base t v := hval0
  have hW' := hW
  obtain ⟨p, q, hA0, hV, rfl, hfz, hnd⟩ := hW
  have hA : DataW.TrodAll enc Try.prog W 0 (fun _ => true) true Try.f13.params.toList args.toList ds p := hA0
  rw [Try.params13] at hA hval hsz0
  obtain ⟨v0, vs0, d0, ds0, p0, q0, hargs, rfl, rfl, h0, r0⟩ := trodAll_cons hA
  obtain ⟨v1, vs1, d1, ds1, p1, q1, rfl, rfl, rfl, h1, r1⟩ := trodAll_cons r0
  obtain ⟨v2, vs2, d2, ds2, p2, q2, rfl, rfl, rfl, h2, r2⟩ := trodAll_cons r1
  obtain ⟨rfl, rfl, rfl⟩ := trodAll_nil r2
  obtain rfl : args = #[v0, v1, v2] := by cases args; simp_all
  obtain ⟨rfl, rfl⟩ := trodVars_none hV
  have hwt0 : ∀ n ∈ DataW.weights Try.prog 97 d0, n ≤ reachBytes := fun n hn => by simpa using List.all_eq_true.1 hsz0 n (DataW.weights_mem_each (j := 0) rfl rfl n hn)
  have k0 := h0
  have lt0 : ∀ x ∈ p0, x.block < W.heap.size := by obtain ⟨m, hm⟩ := k0; exact DataW.trod_lt m _ _ _ hm
  have k1 := h1
  have lt1 : ∀ x ∈ p1, x.block < W.heap.size := by obtain ⟨m, hm⟩ := k1; exact DataW.trod_lt m _ _ _ hm
  have k2 := h2
  have lt2 : ∀ x ∈ p2, x.block < W.heap.size := by obtain ⟨m, hm⟩ := k2; exact DataW.trod_lt m _ _ _ hm
  obtain ⟨va0, vb0, L0, M0, rfl, hL0, hLn0, hM0, hMn0⟩ := open_ints2 (hval 0 97 v0 rfl rfl) h0 hwt0
  obtain ⟨c1, rfl, wc1⟩ := open_rect (hval 1 64 v1 rfl rfl) h1
  obtain ⟨a2, b2, rfl, w2⟩ := open_int2 (hval 2 43 v2 rfl rfl) h2
  clear hA0 hval0
  refine (walk_RasterCopy va0 vb0 L0 M0 c1 a2 b2  wc1 w2 W hL0 hLn0 hM0 hMn0).mono fun e W' ⟨he, bel⟩ => ?_
  subst he
  exact ⟨_, rfl, _, _, _, [], _, [], hW', trodAll_mk1 (shut_bool Try.underlying4 _), (trodAll_cons_mk (Below.trod laidOut (by kernel_rfl) (of_decide_eq_true (by kernel_rfl)) k0 bel lt0) (trodAll_cons_mk (Below.trod laidOut (by kernel_rfl) (of_decide_eq_true (by kernel_rfl)) k1 bel lt1) (trodAll_cons_mk (Below.trod laidOut (by kernel_rfl) (of_decide_eq_true (by kernel_rfl)) k2 bel lt2) trodAll_mk0))), rfl, bel.frame _, fun h => by cases h⟩
theorem over : Rows.rasterCopyRow.holds Try.pinned (OpenSpec.ofChange Rows.rasterCopySpec) :=
  OpenClaim.holds_of_wide 13 Try.f13 rfl rfl rfl rfl rfl rfl rfl ⟨rfl, rfl, rfl, rfl, rfl⟩ rfl rfl rfl rfl rfl (by kernel_rfl) Try.func13 (by kernel_rfl)
    (of_decide_eq_true (by kernel_rfl)) (by unfold Func.isWrapper; first | (rw [if_pos (by decide +kernel)]; kernel_rfl) | (rw [if_neg (by decide +kernel)]; exact ⟨rfl, rfl⟩))
    (fun os started H enc _ => lifted os started H enc)
/-- THE STATEMENT: RasterCopy returns true for every input, and its arguments read as they did. -/
theorem proved : Rows.RasterCopySaid := over
end rasterCopy
end Go.Proofs.Ytppccnjckiedlaa
