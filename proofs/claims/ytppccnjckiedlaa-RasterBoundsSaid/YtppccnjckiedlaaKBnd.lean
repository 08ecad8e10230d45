import Derived.Test.YtppccnjckiedlaaK3
import Derived.Test.YtppccnjckiedlaaK2

/- RasterBounds: for every raster, Bounds agrees with the reference, contains every visible pixel, and has one on each side; the law returns true for every input, and its arguments read as they did. No condition. -/
namespace Go.Proofs.Ytppccnjckiedlaa
open Go.RowKit Go.Shelf Pl
set_option linter.unusedVariables false
set_option linter.unusedSimpArgs false
set_option maxRecDepth 20000
theorem eqls_rc (r : Rc) (w : World) : (binOp .eql 64 (Rc.v r) (Rc.v r)).run Try.prog w = .ok (.bool true) w := by rw [eql_rc, decide_eq_true rfl]
@[go_sem] theorem guard_rcv (op : BinOp) (p q : Operand) (a b : Rc) (w : World) : (eqGuard op 64 p q (Rc.v a) (Rc.v b)).run Try.prog w = .ok () w := guard_rc op p q _ _ w
theorem eqls_rcA (r : Rc) (w : World) : (binOp .eql 64 (.agg (rcA r)) (.agg (rcA r))).run Try.prog w = .ok (.bool true) w := eqls_rc r w
theorem eqz_rc (w : World) : (binOp .eql 64 (.agg (rcA ⟨0, 0, 0, 0⟩)) (.agg #[.int .i64 0, .int .i64 0, .int .i64 0, .int .i64 0])).run Try.prog w = .ok (.bool true) w := eqls_rc ⟨0, 0, 0, 0⟩ w
theorem R_BoundsA (v : Value) (ls : List TA) (r : Rc) (w : World) (h : RS v ls w) (tk : TokL ls) (hn : ls.length ≤ maxLen) (hv : validL ls = true) (e : boundL ls = r) : Calls Try.prog 41 #[.agg #[v]] w fun e w' => e = .returned (.agg (rcA r)) ∧ Below w.heap.size w w' := e ▸ R_BoundsV v ls w h tk hn hv
/-- The four sides of a rectangle. -/
def sideR (b : Rc) (k : Nat) : Rc := if k = 0 then ⟨b.x0, b.y0, b.x0 + 1, b.y1⟩ else if k = 1 then ⟨b.x1 - 1, b.y0, b.x1, b.y1⟩ else if k = 2 then ⟨b.x0, b.y0, b.x1, b.y0 + 1⟩ else ⟨b.x0, b.y1 - 1, b.x1, b.y1⟩
def sidesA (b : Rc) : Array Value := #[.int .i64 b.x0, .int .i64 b.y0, .int .i64 (b.x0 + 1), .int .i64 b.y1, .int .i64 (b.x1 - 1), .int .i64 b.y0, .int .i64 b.x1, .int .i64 b.y1, .int .i64 b.x0, .int .i64 b.y0, .int .i64 b.x1, .int .i64 (b.y0 + 1), .int .i64 b.x0, .int .i64 (b.y1 - 1), .int .i64 b.x1, .int .i64 b.y1]
theorem run_load_side {w : World} {g : Nat} {b : Rc} (h : AtB 84 w g (sidesA b)) (k : Nat) (hk : k < 4) : (Instr.loadAt 64 (.pointer (some ⟨g, k * 4, none⟩))).run Try.prog w = .ok (.agg (rcA (sideR b k))) w := by
  have hc : k = 0 ∨ k = 1 ∨ k = 2 ∨ k = 3 := by omega
  rcases hc with rfl | rfl | rfl | rfl
  all_goals
    refine run_load_BP h _ Try.isAgg64 (by kernel_rfl) (fun j hj => ?_)
    have hj : j < 4 := hj
    have hc : j = 0 ∨ j = 1 ∨ j = 2 ∨ j = 3 := by omega
    rcases hc with rfl | rfl | rfl | rfl <;> rfl
theorem run_alloc_Rq (w : World) (o : Oper) (ho : o.op = .alloc 84) (ev : Operand → Value) : (execOp ev o).run Try.prog w = .ok (.value (.pointer (some ⟨w.heap.size, 0, none⟩))) (w.alloc (.cells #[.int .i64 0, .int .i64 0, .int .i64 0, .int .i64 0, .int .i64 0, .int .i64 0, .int .i64 0, .int .i64 0, .int .i64 0, .int .i64 0, .int .i64 0, .int .i64 0, .int .i64 0, .int .i64 0, .int .i64 0, .int .i64 0] 84)) := by
  obtain ⟨d, p, t, ps, af, gd⟩ := o
  simp only at ho
  subst ho
  kernel_rfl
theorem vis_bd {ls : List TA} (h : validL ls = true) {x y : Int} (hv : Vis ls x y) : -65536 ≤ x ∧ x ≤ 65535 ∧ -65536 ≤ y ∧ y ≤ 65535 := by
  obtain ⟨e, he, i, hi, _, rfl, rfl⟩ := hv
  have hw := of_decide_eq_true ((goodA_iff e).1 (validL_good h e he)).1
  omega
theorem boundL_bd {ls : List TA} (h : validL ls = true) : -65536 ≤ (boundL ls).x0 ∧ (boundL ls).x0 ≤ 65535 ∧ -65536 ≤ (boundL ls).y0 ∧ (boundL ls).y0 ≤ 65535 ∧ -65536 ≤ (boundL ls).x1 ∧ (boundL ls).x1 ≤ 65536 ∧ -65536 ≤ (boundL ls).y1 ∧ (boundL ls).y1 ≤ 65536 := by
  rcases boundL_tight ls with ⟨e, _⟩ | ⟨_, _, ⟨ya, ha⟩, ⟨xb, hb⟩, ⟨yc, hc⟩, ⟨xd, hd⟩⟩
  · rw [e]; unfold Rc.zero; simp
  · have ka := vis_bd h ha
    have kb := vis_bd h hb
    have kc := vis_bd h hc
    have kd := vis_bd h hd
    omega
theorem side_pos {ls : List TA} (h : validL ls = true) (tk : TokL ls) (hl : 0 < ls.length) (k : Nat) (hk : k < 4) : 0 < (cropL (sideR (boundL ls) k) ls).length := by
  obtain ⟨h0, h1, h2, h3⟩ := boundL_sides h tk hl
  have hc : k = 0 ∨ k = 1 ∨ k = 2 ∨ k = 3 := by omega
  rcases hc with rfl | rfl | rfl | rfl
  · exact h0
  · exact h1
  · exact h2
  · exact h3
set_option maxHeartbeats 16000000 in
theorem walk_RasterBounds (q : RawQ) (vL vT : Value) (L T : List Int) (x y : Int) (hx : (Lit.int .i64 x).wf = true) (hy : (Lit.int .i64 y).wf = true) (w : World) (hL : RSE inE vL L w) (hLn : L.length ≤ 17592186044416) (hT : RSE inE vT T w) (hTn : T.length ≤ 17592186044416) :
    Calls Try.prog 9 #[.agg #[vL, .int .i64 q.at_, .int .i64 q.px, .int .i64 q.py, vT, .int .i64 q.how], .int .i64 x, .int .i64 y] w fun e w' => e = .returned (.bool true) ∧ Below w.heap.size w w' := by
  have B := Below.refl w.heap.size w
  have HL := Lib.hid hL
  have HT := Lib.hid hT
  clear hL hT
  have HN := Lib.hid (len_maxLen (Nat.le_trans (ofL_len q L T) (by omega)))
  have HM := Lib.hid (len_maxLen (Nat.le_trans (madeL_len L) (by omega)))
  have b63 := bits_and63 x
  have c63 := bits_and63 y
  have wa : (Lit.int .i64 (x % 64 - 30)).wf = true := wf_mk (by omega) (by omega)
  have wb : (Lit.int .i64 (y % 64 - 30)).wf = true := wf_mk (by omega) (by omega)
  go_enter Try.func9, Try.ntmps9
  go_upto_region 7 with (first | (refine wpList_storeB (t := 64) rfl _ _ rfl _ rfl _ rfl d10 (by kernel_rfl) rfl (by simp [rcA, sidesA, Value.oneCell']) ?_; have d10o := d10; clear d10; intro wn ht hcn hzn; (try replace rs1 := rs1.chg d10o (by simp [rcA, sidesA]) hcn); (try replace rs2 := rs2.chg d10o (by simp [rcA, sidesA]) hcn); (try replace rs3 := rs3.chg d10o (by simp [rcA, sidesA]) hcn); have hsz := B.size; replace hzn := Nat.le_of_eq hzn.symm; replace B := Chg.below B hcn (by omega) B.size; (try replace q1 := q1.of_eq (hcn.block _ q1.lt (by omega))); (try replace r8 := r8.of_eq (hcn.block _ r8.lt (by omega))); (try replace r9 := r9.of_eq (hcn.block _ r9.lt (by omega))); (try replace s11 := s11.of_eq (hcn.block _ s11.lt (by omega))); (try replace r13 := r13.of_eq (hcn.block _ r13.lt (by omega))); (try replace rs1 := rs1.of_eq (hcn.block _ rs1.lt (by omega))); (try replace rs2 := rs2.of_eq (hcn.block _ rs2.lt (by omega))); (try replace rs3 := rs3.of_eq (hcn.block _ rs3.lt (by omega))); have d10 := ht; clear ht; simp only [Act.put, List.setIfInBounds_toArray, List.set_cons_zero, List.set_cons_succ]) | (have _ := r9; refine wpList_allocBk (t := 64) rfl _ (run_alloc_Rc _ _ rfl) ?_; intro b_d10 wn hle hge ht hbn hzn; have hsz := B.size; replace B := B.trans (hbn.mono (by omega)); have hln := Nat.lt_of_lt_of_eq (Nat.lt_succ_self _) hzn.symm; clear hzn; (try first | (have hlt := q1.lt; replace q1 := q1.of_eq (hbn.block _ (by omega))) | replace q1 := q1.below (hbn.mono hle)); (try first | (have hlt := r8.lt; replace r8 := r8.of_eq (hbn.block _ (by omega))) | replace r8 := r8.below (hbn.mono hle)); (try first | (have hlt := r9.lt; replace r9 := r9.of_eq (hbn.block _ (by omega))) | replace r9 := r9.below (hbn.mono hle)); (try first | (have hlt := d10.lt; replace d10 := d10.of_eq (hbn.block _ (by omega))) | replace d10 := d10.below (hbn.mono hle)); (try first | (have hlt := s11.lt; replace s11 := s11.of_eq (hbn.block _ (by omega))) | replace s11 := s11.below (hbn.mono hle)); (try first | (have hlt := r13.lt; replace r13 := r13.of_eq (hbn.block _ (by omega))) | replace r13 := r13.below (hbn.mono hle)); (try first | (have hlt := rs1.lt; replace rs1 := rs1.of_eq (hbn.block _ (by omega))) | replace rs1 := rs1.below (hbn.mono hle)); (try first | (have hlt := rs2.lt; replace rs2 := rs2.of_eq (hbn.block _ (by omega))) | replace rs2 := rs2.below (hbn.mono hle)); (try first | (have hlt := rs3.lt; replace rs3 := rs3.of_eq (hbn.block _ (by omega))) | replace rs3 := rs3.below (hbn.mono hle)); have d10 := ht; clear ht; simp only [Act.put, List.setIfInBounds_toArray, List.set_cons_zero, List.set_cons_succ]) | (go_at_call 38; refine (P_BoundsV _ (madeL L) _ rs2 (madeL_tok L) HM.out (madeL_valid L)).mono ?_; rintro e wn ⟨rfl, hbn⟩; have hsz := B.size; have hzn := hbn.size; replace B := B.trans (hbn.mono B.size); (try first | replace q1 := q1.of_eq (hbn.block _ q1.lt) | replace q1 := q1.below hbn); (try first | replace r8 := r8.of_eq (hbn.block _ r8.lt) | replace r8 := r8.below hbn); (try first | replace r9 := r9.of_eq (hbn.block _ r9.lt) | replace r9 := r9.below hbn); (try first | replace d10 := d10.of_eq (hbn.block _ d10.lt) | replace d10 := d10.below hbn); (try first | replace s11 := s11.of_eq (hbn.block _ s11.lt) | replace s11 := s11.below hbn); (try first | replace r13 := r13.of_eq (hbn.block _ r13.lt) | replace r13 := r13.below hbn); (try first | replace rs1 := rs1.of_eq (hbn.block _ rs1.lt) | replace rs1 := rs1.below hbn); (try first | replace rs2 := rs2.of_eq (hbn.block _ rs2.lt) | replace rs2 := rs2.below hbn); (try first | replace rs3 := rs3.of_eq (hbn.block _ rs3.lt) | replace rs3 := rs3.below hbn)) | (refine wpList_storeB (t := 30) rfl _ _ rfl _ rfl _ rfl r9 (by kernel_rfl) rfl (by simp [Value.oneCell']) ?_; have r9o := r9; clear r9; intro wn ht hcn hzn; (try replace rs1 := rs1.chg r9o (by simp [rcA, sidesA]) hcn); (try replace rs2 := rs2.chg r9o (by simp [rcA, sidesA]) hcn); (try replace rs3 := rs3.chg r9o (by simp [rcA, sidesA]) hcn); have hsz := B.size; replace hzn := Nat.le_of_eq hzn.symm; replace B := Chg.below B hcn (by omega) B.size; (try replace q1 := q1.of_eq (hcn.block _ q1.lt (by omega))); (try replace r8 := r8.of_eq (hcn.block _ r8.lt (by omega))); (try replace d10 := d10.of_eq (hcn.block _ d10.lt (by omega))); (try replace s11 := s11.of_eq (hcn.block _ s11.lt (by omega))); (try replace r13 := r13.of_eq (hcn.block _ r13.lt (by omega))); (try replace rs1 := rs1.of_eq (hcn.block _ rs1.lt (by omega))); (try replace rs2 := rs2.of_eq (hcn.block _ rs2.lt (by omega))); (try replace rs3 := rs3.of_eq (hcn.block _ rs3.lt (by omega))); have r9 := ht; clear ht; simp only [Act.put, List.setIfInBounds_toArray, List.set_cons_zero, List.set_cons_succ]) | (have _ := rs2; refine wpList_allocBk (t := 30) rfl _ (run_alloc_R _ _ rfl) ?_; intro b_r9 wn hle hge ht hbn hzn; have hsz := B.size; replace B := B.trans (hbn.mono (by omega)); have hln := Nat.lt_of_lt_of_eq (Nat.lt_succ_self _) hzn.symm; clear hzn; (try first | (have hlt := q1.lt; replace q1 := q1.of_eq (hbn.block _ (by omega))) | replace q1 := q1.below (hbn.mono hle)); (try first | (have hlt := r8.lt; replace r8 := r8.of_eq (hbn.block _ (by omega))) | replace r8 := r8.below (hbn.mono hle)); (try first | (have hlt := r9.lt; replace r9 := r9.of_eq (hbn.block _ (by omega))) | replace r9 := r9.below (hbn.mono hle)); (try first | (have hlt := d10.lt; replace d10 := d10.of_eq (hbn.block _ (by omega))) | replace d10 := d10.below (hbn.mono hle)); (try first | (have hlt := s11.lt; replace s11 := s11.of_eq (hbn.block _ (by omega))) | replace s11 := s11.below (hbn.mono hle)); (try first | (have hlt := r13.lt; replace r13 := r13.of_eq (hbn.block _ (by omega))) | replace r13 := r13.below (hbn.mono hle)); (try first | (have hlt := rs1.lt; replace rs1 := rs1.of_eq (hbn.block _ (by omega))) | replace rs1 := rs1.below (hbn.mono hle)); (try first | (have hlt := rs2.lt; replace rs2 := rs2.of_eq (hbn.block _ (by omega))) | replace rs2 := rs2.below (hbn.mono hle)); (try first | (have hlt := rs3.lt; replace rs3 := rs3.of_eq (hbn.block _ (by omega))) | replace rs3 := rs3.below (hbn.mono hle)); have r9 := ht; clear ht; simp only [Act.put, List.setIfInBounds_toArray, List.set_cons_zero, List.set_cons_succ]) | (go_at_call 18; refine (R_Made8O _ L _ (HL.out.below B) hLn).mono ?_; rintro e wn ⟨a2, c2, rfl, rs2, hbn⟩; have hsz := B.size; have hzn := hbn.size; replace B := B.trans (hbn.mono B.size); (try first | replace q1 := q1.of_eq (hbn.block _ q1.lt) | replace q1 := q1.below hbn); (try first | replace r8 := r8.of_eq (hbn.block _ r8.lt) | replace r8 := r8.below hbn); (try first | replace r9 := r9.of_eq (hbn.block _ r9.lt) | replace r9 := r9.below hbn); (try first | replace d10 := d10.of_eq (hbn.block _ d10.lt) | replace d10 := d10.below hbn); (try first | replace s11 := s11.of_eq (hbn.block _ s11.lt) | replace s11 := s11.below hbn); (try first | replace r13 := r13.of_eq (hbn.block _ r13.lt) | replace r13 := r13.below hbn); (try first | replace rs1 := rs1.of_eq (hbn.block _ rs1.lt) | replace rs1 := rs1.below hbn); (try first | replace rs2 := rs2.of_eq (hbn.block _ rs2.lt) | replace rs2 := rs2.below hbn); (try first | replace rs3 := rs3.of_eq (hbn.block _ rs3.lt) | replace rs3 := rs3.below hbn)) | (refine wpList_storeB (t := 30) rfl _ _ rfl _ rfl _ rfl r8 (by kernel_rfl) rfl (by simp [Value.oneCell']) ?_; have r8o := r8; clear r8; intro wn ht hcn hzn; (try replace rs1 := rs1.chg r8o (by simp [rcA, sidesA]) hcn); (try replace rs2 := rs2.chg r8o (by simp [rcA, sidesA]) hcn); (try replace rs3 := rs3.chg r8o (by simp [rcA, sidesA]) hcn); have hsz := B.size; replace hzn := Nat.le_of_eq hzn.symm; replace B := Chg.below B hcn (by omega) B.size; (try replace q1 := q1.of_eq (hcn.block _ q1.lt (by omega))); (try replace r9 := r9.of_eq (hcn.block _ r9.lt (by omega))); (try replace d10 := d10.of_eq (hcn.block _ d10.lt (by omega))); (try replace s11 := s11.of_eq (hcn.block _ s11.lt (by omega))); (try replace r13 := r13.of_eq (hcn.block _ r13.lt (by omega))); (try replace rs1 := rs1.of_eq (hcn.block _ rs1.lt (by omega))); (try replace rs2 := rs2.of_eq (hcn.block _ rs2.lt (by omega))); (try replace rs3 := rs3.of_eq (hcn.block _ rs3.lt (by omega))); have r8 := ht; clear ht; simp only [Act.put, List.setIfInBounds_toArray, List.set_cons_zero, List.set_cons_succ]) | (have _ := rs1; refine wpList_allocBk (t := 30) rfl _ (run_alloc_R _ _ rfl) ?_; intro b_r8 wn hle hge ht hbn hzn; have hsz := B.size; replace B := B.trans (hbn.mono (by omega)); have hln := Nat.lt_of_lt_of_eq (Nat.lt_succ_self _) hzn.symm; clear hzn; (try first | (have hlt := q1.lt; replace q1 := q1.of_eq (hbn.block _ (by omega))) | replace q1 := q1.below (hbn.mono hle)); (try first | (have hlt := r8.lt; replace r8 := r8.of_eq (hbn.block _ (by omega))) | replace r8 := r8.below (hbn.mono hle)); (try first | (have hlt := r9.lt; replace r9 := r9.of_eq (hbn.block _ (by omega))) | replace r9 := r9.below (hbn.mono hle)); (try first | (have hlt := d10.lt; replace d10 := d10.of_eq (hbn.block _ (by omega))) | replace d10 := d10.below (hbn.mono hle)); (try first | (have hlt := s11.lt; replace s11 := s11.of_eq (hbn.block _ (by omega))) | replace s11 := s11.below (hbn.mono hle)); (try first | (have hlt := r13.lt; replace r13 := r13.of_eq (hbn.block _ (by omega))) | replace r13 := r13.below (hbn.mono hle)); (try first | (have hlt := rs1.lt; replace rs1 := rs1.of_eq (hbn.block _ (by omega))) | replace rs1 := rs1.below (hbn.mono hle)); (try first | (have hlt := rs2.lt; replace rs2 := rs2.of_eq (hbn.block _ (by omega))) | replace rs2 := rs2.below (hbn.mono hle)); (try first | (have hlt := rs3.lt; replace rs3 := rs3.of_eq (hbn.block _ (by omega))) | replace rs3 := rs3.below (hbn.mono hle)); have r8 := ht; clear ht; simp only [Act.put, List.setIfInBounds_toArray, List.set_cons_zero, List.set_cons_succ]) | (go_at_call 15; refine (L_ofO q _ _ L T _ (HL.out.below B) hLn (HT.out.below B) hTn).mono ?_; rintro e wn ⟨a1, c1, rfl, rs1, hbn⟩; have hsz := B.size; have hzn := hbn.size; replace B := B.trans (hbn.mono B.size); (try first | replace q1 := q1.of_eq (hbn.block _ q1.lt) | replace q1 := q1.below hbn); (try first | replace r8 := r8.of_eq (hbn.block _ r8.lt) | replace r8 := r8.below hbn); (try first | replace r9 := r9.of_eq (hbn.block _ r9.lt) | replace r9 := r9.below hbn); (try first | replace d10 := d10.of_eq (hbn.block _ d10.lt) | replace d10 := d10.below hbn); (try first | replace s11 := s11.of_eq (hbn.block _ s11.lt) | replace s11 := s11.below hbn); (try first | replace r13 := r13.of_eq (hbn.block _ r13.lt) | replace r13 := r13.below hbn); (try first | replace rs1 := rs1.of_eq (hbn.block _ rs1.lt) | replace rs1 := rs1.below hbn); (try first | replace rs2 := rs2.of_eq (hbn.block _ rs2.lt) | replace rs2 := rs2.below hbn); (try first | replace rs3 := rs3.of_eq (hbn.block _ rs3.lt) | replace rs3 := rs3.below hbn)) | (refine wpList_loadAny (t := 22) rfl _ rfl _ _ _ rfl (run_load_sli (q1.cell 0 rfl)) (by rfl) ?_; simp only [Act.put, List.setIfInBounds_toArray, List.set_cons_zero, List.set_cons_succ]) | (refine wpList_loadAny (t := 26) rfl _ rfl _ _ _ rfl (run_load_B q1 Try.isAgg26 (by kernel_rfl)) (by rfl) ?_; simp only [Act.put, List.setIfInBounds_toArray, List.set_cons_zero, List.set_cons_succ]) | (refine wpList_loadAny (t := 30) rfl _ rfl _ _ _ rfl (run_load_B r9 Try.isAgg30 (by kernel_rfl)) (by rfl) ?_; simp only [Act.put, List.setIfInBounds_toArray, List.set_cons_zero, List.set_cons_succ]) | (go_at_call 14; refine (sanity08 _).mono ?_; rintro e wn ⟨rfl, hbn⟩; have hsz := B.size; have hzn := hbn.size; replace B := B.trans (hbn.mono B.size); (try first | replace q1 := q1.of_eq (hbn.block _ q1.lt) | replace q1 := q1.below hbn)) | (refine wpList_boxB (t := 26) rfl _ rfl _ rfl ?_; intro b_q1 wn hle hge ht hbn hzn; have hsz := B.size; replace B := B.trans (hbn.mono (by omega)); have hln := Nat.lt_of_lt_of_eq (Nat.lt_succ_self _) hzn.symm; clear hzn; (try first | (have hlt := q1.lt; replace q1 := q1.of_eq (hbn.block _ (by omega))) | replace q1 := q1.below (hbn.mono hle)); (try first | (have hlt := r8.lt; replace r8 := r8.of_eq (hbn.block _ (by omega))) | replace r8 := r8.below (hbn.mono hle)); (try first | (have hlt := r9.lt; replace r9 := r9.of_eq (hbn.block _ (by omega))) | replace r9 := r9.below (hbn.mono hle)); (try first | (have hlt := d10.lt; replace d10 := d10.of_eq (hbn.block _ (by omega))) | replace d10 := d10.below (hbn.mono hle)); (try first | (have hlt := s11.lt; replace s11 := s11.of_eq (hbn.block _ (by omega))) | replace s11 := s11.below (hbn.mono hle)); (try first | (have hlt := r13.lt; replace r13 := r13.of_eq (hbn.block _ (by omega))) | replace r13 := r13.below (hbn.mono hle)); (try first | (have hlt := rs1.lt; replace rs1 := rs1.of_eq (hbn.block _ (by omega))) | replace rs1 := rs1.below (hbn.mono hle)); (try first | (have hlt := rs2.lt; replace rs2 := rs2.of_eq (hbn.block _ (by omega))) | replace rs2 := rs2.below (hbn.mono hle)); (try first | (have hlt := rs3.lt; replace rs3 := rs3.of_eq (hbn.block _ (by omega))) | replace rs3 := rs3.below (hbn.mono hle)); have q1 := ht; clear ht; simp only [Act.put, List.setIfInBounds_toArray, List.set_cons_zero, List.set_cons_succ]) | fail)
  clear b63 c63
  obtain ⟨X, hX⟩ : ∃ X, x % 64 - 30 = X := ⟨_, rfl⟩
  obtain ⟨Y, hY⟩ : ∃ Y, y % 64 - 30 = Y := ⟨_, rfl⟩
  rw [hX] at wa
  rw [hY] at wb
  try rw [hX]
  try rw [hY]
  clear hX hY
  have BD := boundL_bd (madeL_valid L)
  have HBT := Lib.hid (boundL_has (ls := madeL L) (x := X) (y := Y))
  have HBS := Lib.hid (side_pos (madeL_valid L) (madeL_tok L))
  have HEM := Lib.hid (fun h : (madeL L).length = 0 => (by rw [List.eq_nil_of_length_eq_zero h]; rfl : boundL (madeL L) = Rc.zero))
  obtain ⟨⟨p0, p1, p2, pa⟩, hp⟩ : ∃ p, getL (madeL L) X Y = p := ⟨_, rfl⟩
  have GETC : Hid (∀ v w, RS v (madeL L) w → Calls Try.prog 20 #[.agg #[v], .int .i64 X, .int .i64 Y] w fun e w' => e = .returned (.agg #[.int .u8 p0, .int .u8 p1, .int .u8 p2, .int .u8 pa]) ∧ Below w.heap.size w w') := Lib.hid fun v w h =>
    (P_GetR v (madeL L) X Y w h HM.out wa wb).mono fun e w' ⟨he, hb⟩ => ⟨by rw [he, hp]; rfl, hb⟩
  have HVI := Lib.hid (fun h : 0 < pa => HBT.out (getL_vis (by rw [hp]; exact h)))
  have hpa : 0 ≤ pa ∧ pa ≤ 255 := by
    have : (getL (madeL L) X Y).ok := by
      unfold getL
      exact tileL_tok (madeL_tok L) _ _ _ (by omega)
    rw [hp] at this
    exact this.2.2.2
  clear hp wa wb
  obtain ⟨ml, hml⟩ : ∃ n, (madeL L).length = n := ⟨_, rfl⟩
  rw [hml] at rs2 r9 HEM HBS
  have HML := Lib.hid hml
  clear hml
  try rw [HML.out]
  generalize hb : boundL (madeL L) = b at *
  obtain ⟨x0, y0, x1, y1⟩ := b
  simp only at BD
  obtain ⟨BD1, BD2, BD3, BD4, BD5, BD6, BD7, BD8⟩ := BD
  have HB := Lib.hid hb
  clear hb
  by_cases hv : 0 < pa
  · have dv : decide (0 < pa) = true := decide_eq_true hv
    have hh := HVI.out hv
    refine wp_region_lit ?_
    try simp only [List.getElem_toArray, List.getElem_cons_zero, List.getElem_cons_succ]
    refine wpList_chunk 3 (by kernel_rfl) ?_
    simp only [List.take_succ_cons, List.take_zero, List.drop_succ_cons, List.drop_zero, Nat.reduceAdd]
    repeat (first | go_big_quiet_skip | (go_big_quiet_want; first | (refine quiet_loadAny (t := 30) rfl _ _ _ rfl (fun w hw => run_load_B (ov_B r8 w hw) Try.isAgg30 (by kernel_rfl)) (by rfl) ?_; simp only [Act.put, List.setIfInBounds_toArray, List.set_cons_zero, List.set_cons_succ]; go_big_quiet_on) | (refine quiet_loadAny (t := 30) rfl _ _ _ rfl (fun w hw => run_load_B (ov_B r9 w hw) Try.isAgg30 (by kernel_rfl)) (by rfl) ?_; simp only [Act.put, List.setIfInBounds_toArray, List.set_cons_zero, List.set_cons_succ]; go_big_quiet_on) | (refine quiet_loadAny (t := 64) rfl _ _ _ rfl (fun w hw => run_load_B (ov_B d10 w hw) Try.isAgg64 (by kernel_rfl)) (by rfl) ?_; simp only [Act.put, List.setIfInBounds_toArray, List.set_cons_zero, List.set_cons_succ]; go_big_quiet_on) | (refine quiet_loadAny (t := 28) rfl _ _ _ rfl (fun w hw => run_load_sl (ov_B r9 w hw).cell0) (by rfl) ?_; simp only [Act.put, List.setIfInBounds_toArray, List.set_cons_zero, List.set_cons_succ]; go_big_quiet_on) | (refine quiet_loadAny (t := 28) rfl _ _ _ rfl (fun w hw => run_load_sl (ov_B r13 w hw).cell0) (by rfl) ?_; simp only [Act.put, List.setIfInBounds_toArray, List.set_cons_zero, List.set_cons_succ]; go_big_quiet_on) | (refine quiet_loadAny (t := 3) rfl _ _ _ rfl (fun w hw => run_load_int ((ov_B d10 w hw).cellL 0 rfl)) (by rfl) ?_; simp only [Act.put, List.setIfInBounds_toArray, List.set_cons_zero, List.set_cons_succ]; go_big_quiet_on) | (refine quiet_loadAny (t := 3) rfl _ _ _ rfl (fun w hw => run_load_int ((ov_B d10 w hw).cellL 1 rfl)) (by rfl) ?_; simp only [Act.put, List.setIfInBounds_toArray, List.set_cons_zero, List.set_cons_succ]; go_big_quiet_on) | (refine quiet_loadAny (t := 3) rfl _ _ _ rfl (fun w hw => run_load_int ((ov_B d10 w hw).cellL 2 rfl)) (by rfl) ?_; simp only [Act.put, List.setIfInBounds_toArray, List.set_cons_zero, List.set_cons_succ]; go_big_quiet_on) | (refine quiet_loadAny (t := 3) rfl _ _ _ rfl (fun w hw => run_load_int ((ov_B d10 w hw).cellL 3 rfl)) (by rfl) ?_; simp only [Act.put, List.setIfInBounds_toArray, List.set_cons_zero, List.set_cons_succ]; go_big_quiet_on) | (go_big_quiet_op; go_big_quiet_on)))
    refine wpQuiet_nil ?_
    refine wpList_callF (by first | rfl | simp [Region.wanted, yielded]) rfl (enters_of Try.func20 (by kernel_rfl) rfl) (by simp only [List.map_toArray, List.map_cons, List.map_nil, Act.eval, Array.getD_eq_getD_getElem?, List.getElem?_toArray, List.getElem?_cons_succ, List.getElem?_cons_zero, Option.getD_some]; rfl) ?_
    refine (GETC.out _ _ rs2).mono ?_
    rintro e wn ⟨rfl, hbn⟩
    have hsz := B.size
    have hzn := hbn.size
    replace B := B.trans (hbn.mono B.size)
    (try first | replace q1 := q1.of_eq (hbn.block _ q1.lt) | replace q1 := q1.below hbn)
    (try first | replace r8 := r8.of_eq (hbn.block _ r8.lt) | replace r8 := r8.below hbn)
    (try first | replace r9 := r9.of_eq (hbn.block _ r9.lt) | replace r9 := r9.below hbn)
    (try first | replace d10 := d10.of_eq (hbn.block _ d10.lt) | replace d10 := d10.below hbn)
    (try first | replace s11 := s11.of_eq (hbn.block _ s11.lt) | replace s11 := s11.below hbn)
    (try first | replace r13 := r13.of_eq (hbn.block _ r13.lt) | replace r13 := r13.below hbn)
    (try first | replace rs1 := rs1.of_eq (hbn.block _ rs1.lt) | replace rs1 := rs1.below hbn)
    (try first | replace rs2 := rs2.of_eq (hbn.block _ rs2.lt) | replace rs2 := rs2.below hbn)
    (try first | replace rs3 := rs3.of_eq (hbn.block _ rs3.lt) | replace rs3 := rs3.below hbn)
    refine ⟨_, rfl, ?_⟩
    simp only [Act.put, List.setIfInBounds_toArray, List.set_cons_zero, List.set_cons_succ]
    refine wpList_chunk 7 (by kernel_rfl) ?_
    simp only [List.take_succ_cons, List.take_zero, List.drop_succ_cons, List.drop_zero, Nat.reduceAdd]
    repeat (first | go_big_quiet_skip | (go_big_quiet_want; first | (refine quiet_loadAny (t := 30) rfl _ _ _ rfl (fun w hw => run_load_B (ov_B r8 w hw) Try.isAgg30 (by kernel_rfl)) (by rfl) ?_; simp only [Act.put, List.setIfInBounds_toArray, List.set_cons_zero, List.set_cons_succ]; go_big_quiet_on) | (refine quiet_loadAny (t := 30) rfl _ _ _ rfl (fun w hw => run_load_B (ov_B r9 w hw) Try.isAgg30 (by kernel_rfl)) (by rfl) ?_; simp only [Act.put, List.setIfInBounds_toArray, List.set_cons_zero, List.set_cons_succ]; go_big_quiet_on) | (refine quiet_loadAny (t := 64) rfl _ _ _ rfl (fun w hw => run_load_B (ov_B d10 w hw) Try.isAgg64 (by kernel_rfl)) (by rfl) ?_; simp only [Act.put, List.setIfInBounds_toArray, List.set_cons_zero, List.set_cons_succ]; go_big_quiet_on) | (refine quiet_loadAny (t := 28) rfl _ _ _ rfl (fun w hw => run_load_sl (ov_B r9 w hw).cell0) (by rfl) ?_; simp only [Act.put, List.setIfInBounds_toArray, List.set_cons_zero, List.set_cons_succ]; go_big_quiet_on) | (refine quiet_loadAny (t := 28) rfl _ _ _ rfl (fun w hw => run_load_sl (ov_B r13 w hw).cell0) (by rfl) ?_; simp only [Act.put, List.setIfInBounds_toArray, List.set_cons_zero, List.set_cons_succ]; go_big_quiet_on) | (refine quiet_loadAny (t := 3) rfl _ _ _ rfl (fun w hw => run_load_int ((ov_B d10 w hw).cellL 0 rfl)) (by rfl) ?_; simp only [Act.put, List.setIfInBounds_toArray, List.set_cons_zero, List.set_cons_succ]; go_big_quiet_on) | (refine quiet_loadAny (t := 3) rfl _ _ _ rfl (fun w hw => run_load_int ((ov_B d10 w hw).cellL 1 rfl)) (by rfl) ?_; simp only [Act.put, List.setIfInBounds_toArray, List.set_cons_zero, List.set_cons_succ]; go_big_quiet_on) | (refine quiet_loadAny (t := 3) rfl _ _ _ rfl (fun w hw => run_load_int ((ov_B d10 w hw).cellL 2 rfl)) (by rfl) ?_; simp only [Act.put, List.setIfInBounds_toArray, List.set_cons_zero, List.set_cons_succ]; go_big_quiet_on) | (refine quiet_loadAny (t := 3) rfl _ _ _ rfl (fun w hw => run_load_int ((ov_B d10 w hw).cellL 3 rfl)) (by rfl) ?_; simp only [Act.put, List.setIfInBounds_toArray, List.set_cons_zero, List.set_cons_succ]; go_big_quiet_on) | (go_big_quiet_op; go_big_quiet_on)))
    refine wpQuiet_nil ?_
    refine wpList_callF (by first | rfl | simp [Region.wanted, yielded]) rfl (enters_of Try.func39 (by kernel_rfl) rfl) (by simp only [List.map_toArray, List.map_cons, List.map_nil, Act.eval, Array.getD_eq_getD_getElem?, List.getElem?_toArray, List.getElem?_cons_succ, List.getElem?_cons_zero, Option.getD_some]; rfl) ?_
    refine (P_HasB ⟨x0, y0, x1, y1⟩ X Y true _ hh).mono ?_
    rintro e wn ⟨rfl, hbn⟩
    have hsz := B.size
    have hzn := hbn.size
    replace B := B.trans (hbn.mono B.size)
    (try first | replace q1 := q1.of_eq (hbn.block _ q1.lt) | replace q1 := q1.below hbn)
    (try first | replace r8 := r8.of_eq (hbn.block _ r8.lt) | replace r8 := r8.below hbn)
    (try first | replace r9 := r9.of_eq (hbn.block _ r9.lt) | replace r9 := r9.below hbn)
    (try first | replace d10 := d10.of_eq (hbn.block _ d10.lt) | replace d10 := d10.below hbn)
    (try first | replace s11 := s11.of_eq (hbn.block _ s11.lt) | replace s11 := s11.below hbn)
    (try first | replace r13 := r13.of_eq (hbn.block _ r13.lt) | replace r13 := r13.below hbn)
    (try first | replace rs1 := rs1.of_eq (hbn.block _ rs1.lt) | replace rs1 := rs1.below hbn)
    (try first | replace rs2 := rs2.of_eq (hbn.block _ rs2.lt) | replace rs2 := rs2.below hbn)
    (try first | replace rs3 := rs3.of_eq (hbn.block _ rs3.lt) | replace rs3 := rs3.below hbn)
    refine ⟨_, rfl, ?_⟩
    simp only [Act.put, List.setIfInBounds_toArray, List.set_cons_zero, List.set_cons_succ]
    refine wpList_chunk 2 (by kernel_rfl) ?_
    simp only [List.take_succ_cons, List.take_zero, List.drop_succ_cons, List.drop_zero, Nat.reduceAdd]
    repeat (first | go_big_quiet_skip | (go_big_quiet_want; first | (refine quiet_loadAny (t := 30) rfl _ _ _ rfl (fun w hw => run_load_B (ov_B r8 w hw) Try.isAgg30 (by kernel_rfl)) (by rfl) ?_; simp only [Act.put, List.setIfInBounds_toArray, List.set_cons_zero, List.set_cons_succ]; go_big_quiet_on) | (refine quiet_loadAny (t := 30) rfl _ _ _ rfl (fun w hw => run_load_B (ov_B r9 w hw) Try.isAgg30 (by kernel_rfl)) (by rfl) ?_; simp only [Act.put, List.setIfInBounds_toArray, List.set_cons_zero, List.set_cons_succ]; go_big_quiet_on) | (refine quiet_loadAny (t := 64) rfl _ _ _ rfl (fun w hw => run_load_B (ov_B d10 w hw) Try.isAgg64 (by kernel_rfl)) (by rfl) ?_; simp only [Act.put, List.setIfInBounds_toArray, List.set_cons_zero, List.set_cons_succ]; go_big_quiet_on) | (refine quiet_loadAny (t := 28) rfl _ _ _ rfl (fun w hw => run_load_sl (ov_B r9 w hw).cell0) (by rfl) ?_; simp only [Act.put, List.setIfInBounds_toArray, List.set_cons_zero, List.set_cons_succ]; go_big_quiet_on) | (refine quiet_loadAny (t := 28) rfl _ _ _ rfl (fun w hw => run_load_sl (ov_B r13 w hw).cell0) (by rfl) ?_; simp only [Act.put, List.setIfInBounds_toArray, List.set_cons_zero, List.set_cons_succ]; go_big_quiet_on) | (refine quiet_loadAny (t := 3) rfl _ _ _ rfl (fun w hw => run_load_int ((ov_B d10 w hw).cellL 0 rfl)) (by rfl) ?_; simp only [Act.put, List.setIfInBounds_toArray, List.set_cons_zero, List.set_cons_succ]; go_big_quiet_on) | (refine quiet_loadAny (t := 3) rfl _ _ _ rfl (fun w hw => run_load_int ((ov_B d10 w hw).cellL 1 rfl)) (by rfl) ?_; simp only [Act.put, List.setIfInBounds_toArray, List.set_cons_zero, List.set_cons_succ]; go_big_quiet_on) | (refine quiet_loadAny (t := 3) rfl _ _ _ rfl (fun w hw => run_load_int ((ov_B d10 w hw).cellL 2 rfl)) (by rfl) ?_; simp only [Act.put, List.setIfInBounds_toArray, List.set_cons_zero, List.set_cons_succ]; go_big_quiet_on) | (refine quiet_loadAny (t := 3) rfl _ _ _ rfl (fun w hw => run_load_int ((ov_B d10 w hw).cellL 3 rfl)) (by rfl) ?_; simp only [Act.put, List.setIfInBounds_toArray, List.set_cons_zero, List.set_cons_succ]; go_big_quiet_on) | (go_big_quiet_op; go_big_quiet_on)))
    refine wpQuiet_nil ?_
    refine wpList_nil ?_
    go_upto_region 9 with fail
    by_cases h0 : ml = 0
    · have e0 := HEM.out h0
      injection e0 with e1 e2 e3 e4
      subst e1; subst e2; subst e3; subst e4; subst h0
      have hq1 := eqls_rc
      have hq2 := eqls_rcA
      have hq3 := eqz_rc
      refine wp_region_lit ?_
      try simp only [List.getElem_toArray, List.getElem_cons_zero, List.getElem_cons_succ]
      refine wpList_chunk 2 (by kernel_rfl) ?_
      simp only [List.take_succ_cons, List.take_zero, List.drop_succ_cons, List.drop_zero, Nat.reduceAdd]
      repeat (first | go_big_quiet_skip | (go_big_quiet_want; first | (refine quiet_loadAny (t := 30) rfl _ _ _ rfl (fun w hw => run_load_B (ov_B r8 w hw) Try.isAgg30 (by kernel_rfl)) (by rfl) ?_; simp only [Act.put, List.setIfInBounds_toArray, List.set_cons_zero, List.set_cons_succ]; go_big_quiet_on) | (refine quiet_loadAny (t := 30) rfl _ _ _ rfl (fun w hw => run_load_B (ov_B r9 w hw) Try.isAgg30 (by kernel_rfl)) (by rfl) ?_; simp only [Act.put, List.setIfInBounds_toArray, List.set_cons_zero, List.set_cons_succ]; go_big_quiet_on) | (refine quiet_loadAny (t := 64) rfl _ _ _ rfl (fun w hw => run_load_B (ov_B d10 w hw) Try.isAgg64 (by kernel_rfl)) (by rfl) ?_; simp only [Act.put, List.setIfInBounds_toArray, List.set_cons_zero, List.set_cons_succ]; go_big_quiet_on) | (refine quiet_loadAny (t := 28) rfl _ _ _ rfl (fun w hw => run_load_sl (ov_B r9 w hw).cell0) (by rfl) ?_; simp only [Act.put, List.setIfInBounds_toArray, List.set_cons_zero, List.set_cons_succ]; go_big_quiet_on) | (refine quiet_loadAny (t := 28) rfl _ _ _ rfl (fun w hw => run_load_sl (ov_B r13 w hw).cell0) (by rfl) ?_; simp only [Act.put, List.setIfInBounds_toArray, List.set_cons_zero, List.set_cons_succ]; go_big_quiet_on) | (refine quiet_loadAny (t := 3) rfl _ _ _ rfl (fun w hw => run_load_int ((ov_B d10 w hw).cellL 0 rfl)) (by rfl) ?_; simp only [Act.put, List.setIfInBounds_toArray, List.set_cons_zero, List.set_cons_succ]; go_big_quiet_on) | (refine quiet_loadAny (t := 3) rfl _ _ _ rfl (fun w hw => run_load_int ((ov_B d10 w hw).cellL 1 rfl)) (by rfl) ?_; simp only [Act.put, List.setIfInBounds_toArray, List.set_cons_zero, List.set_cons_succ]; go_big_quiet_on) | (refine quiet_loadAny (t := 3) rfl _ _ _ rfl (fun w hw => run_load_int ((ov_B d10 w hw).cellL 2 rfl)) (by rfl) ?_; simp only [Act.put, List.setIfInBounds_toArray, List.set_cons_zero, List.set_cons_succ]; go_big_quiet_on) | (refine quiet_loadAny (t := 3) rfl _ _ _ rfl (fun w hw => run_load_int ((ov_B d10 w hw).cellL 3 rfl)) (by rfl) ?_; simp only [Act.put, List.setIfInBounds_toArray, List.set_cons_zero, List.set_cons_succ]; go_big_quiet_on) | (go_big_quiet_op; go_big_quiet_on)))
      refine wpQuiet_nil ?_
      refine wpList_lenS (by first | rfl | simp [Region.wanted, yielded]) rfl Try.underlying28 rfl ?_
      simp only [Act.put, List.setIfInBounds_toArray, List.set_cons_zero, List.set_cons_succ]
      refine wpList_chunk 1 (by kernel_rfl) ?_
      simp only [List.take_succ_cons, List.take_zero, List.drop_succ_cons, List.drop_zero, Nat.reduceAdd]
      repeat (first | go_big_quiet_skip | (go_big_quiet_want; first | (refine quiet_loadAny (t := 30) rfl _ _ _ rfl (fun w hw => run_load_B (ov_B r8 w hw) Try.isAgg30 (by kernel_rfl)) (by rfl) ?_; simp only [Act.put, List.setIfInBounds_toArray, List.set_cons_zero, List.set_cons_succ]; go_big_quiet_on) | (refine quiet_loadAny (t := 30) rfl _ _ _ rfl (fun w hw => run_load_B (ov_B r9 w hw) Try.isAgg30 (by kernel_rfl)) (by rfl) ?_; simp only [Act.put, List.setIfInBounds_toArray, List.set_cons_zero, List.set_cons_succ]; go_big_quiet_on) | (refine quiet_loadAny (t := 64) rfl _ _ _ rfl (fun w hw => run_load_B (ov_B d10 w hw) Try.isAgg64 (by kernel_rfl)) (by rfl) ?_; simp only [Act.put, List.setIfInBounds_toArray, List.set_cons_zero, List.set_cons_succ]; go_big_quiet_on) | (refine quiet_loadAny (t := 28) rfl _ _ _ rfl (fun w hw => run_load_sl (ov_B r9 w hw).cell0) (by rfl) ?_; simp only [Act.put, List.setIfInBounds_toArray, List.set_cons_zero, List.set_cons_succ]; go_big_quiet_on) | (refine quiet_loadAny (t := 28) rfl _ _ _ rfl (fun w hw => run_load_sl (ov_B r13 w hw).cell0) (by rfl) ?_; simp only [Act.put, List.setIfInBounds_toArray, List.set_cons_zero, List.set_cons_succ]; go_big_quiet_on) | (refine quiet_loadAny (t := 3) rfl _ _ _ rfl (fun w hw => run_load_int ((ov_B d10 w hw).cellL 0 rfl)) (by rfl) ?_; simp only [Act.put, List.setIfInBounds_toArray, List.set_cons_zero, List.set_cons_succ]; go_big_quiet_on) | (refine quiet_loadAny (t := 3) rfl _ _ _ rfl (fun w hw => run_load_int ((ov_B d10 w hw).cellL 1 rfl)) (by rfl) ?_; simp only [Act.put, List.setIfInBounds_toArray, List.set_cons_zero, List.set_cons_succ]; go_big_quiet_on) | (refine quiet_loadAny (t := 3) rfl _ _ _ rfl (fun w hw => run_load_int ((ov_B d10 w hw).cellL 2 rfl)) (by rfl) ?_; simp only [Act.put, List.setIfInBounds_toArray, List.set_cons_zero, List.set_cons_succ]; go_big_quiet_on) | (refine quiet_loadAny (t := 3) rfl _ _ _ rfl (fun w hw => run_load_int ((ov_B d10 w hw).cellL 3 rfl)) (by rfl) ?_; simp only [Act.put, List.setIfInBounds_toArray, List.set_cons_zero, List.set_cons_succ]; go_big_quiet_on) | (go_big_quiet_op; go_big_quiet_on)))
      refine wpQuiet_nil ?_
      refine wpList_nil ?_
      go_upto_region 17 with fail
      replace d10 : AtB 64 _ b_d10 (rcA ⟨0, 0, 0, 0⟩) := d10
      try simp only [List.getElem_toArray, List.getElem_cons_zero, List.getElem_cons_succ]
      try have lx_q1 := q1.lt
      try have lx_r8 := r8.lt
      try have lx_r9 := r9.lt
      try have lx_d10 := d10.lt
      try have lx_s11 := s11.lt
      try have lx_r13 := r13.lt
      try have lx_rs1 := rs1.lt
      try have lx_rs2 := rs2.lt
      try have lx_rs3 := rs3.lt
      refine wp_region_RL 26 [(3, detS ?v1_3), (5, detS ?v1_5), (11, detS ?v1_11), (17, detS ?v1_17)] (by kernel_rfl) (by kernel_rfl) (by kernel_rfl) ?_
      rotate_left 4
      simp only [List.take_succ_cons, List.take_zero, List.drop_succ_cons, List.drop_zero, Nat.reduceAdd]
      refine wpRL_chunk 3 (by kernel_rfl) ?_
      simp only [List.take_succ_cons, List.take_zero, List.drop_succ_cons, List.drop_zero, Nat.reduceAdd]
      repeat (first | go_big_quiet_skip | (go_big_quiet_want; first | (refine quiet_loadAny (t := 30) rfl _ _ _ rfl (fun w hw => run_load_B (ov_B r8 w hw) Try.isAgg30 (by kernel_rfl)) (by rfl) ?_; simp only [Act.put, List.setIfInBounds_toArray, List.set_cons_zero, List.set_cons_succ]; go_big_quiet_on) | (refine quiet_loadAny (t := 30) rfl _ _ _ rfl (fun w hw => run_load_B (ov_B r9 w hw) Try.isAgg30 (by kernel_rfl)) (by rfl) ?_; simp only [Act.put, List.setIfInBounds_toArray, List.set_cons_zero, List.set_cons_succ]; go_big_quiet_on) | (refine quiet_loadAny (t := 64) rfl _ _ _ rfl (fun w hw => run_load_B (ov_B d10 w hw) Try.isAgg64 (by kernel_rfl)) (by rfl) ?_; simp only [Act.put, List.setIfInBounds_toArray, List.set_cons_zero, List.set_cons_succ]; go_big_quiet_on) | (refine quiet_loadAny (t := 28) rfl _ _ _ rfl (fun w hw => run_load_sl (ov_B r9 w hw).cell0) (by rfl) ?_; simp only [Act.put, List.setIfInBounds_toArray, List.set_cons_zero, List.set_cons_succ]; go_big_quiet_on) | (refine quiet_loadAny (t := 28) rfl _ _ _ rfl (fun w hw => run_load_sl (ov_B r13 w hw).cell0) (by rfl) ?_; simp only [Act.put, List.setIfInBounds_toArray, List.set_cons_zero, List.set_cons_succ]; go_big_quiet_on) | (refine quiet_loadAny (t := 3) rfl _ _ _ rfl (fun w hw => run_load_int ((ov_B d10 w hw).cellL 0 rfl)) (by rfl) ?_; simp only [Act.put, List.setIfInBounds_toArray, List.set_cons_zero, List.set_cons_succ]; go_big_quiet_on) | (refine quiet_loadAny (t := 3) rfl _ _ _ rfl (fun w hw => run_load_int ((ov_B d10 w hw).cellL 1 rfl)) (by rfl) ?_; simp only [Act.put, List.setIfInBounds_toArray, List.set_cons_zero, List.set_cons_succ]; go_big_quiet_on) | (refine quiet_loadAny (t := 3) rfl _ _ _ rfl (fun w hw => run_load_int ((ov_B d10 w hw).cellL 2 rfl)) (by rfl) ?_; simp only [Act.put, List.setIfInBounds_toArray, List.set_cons_zero, List.set_cons_succ]; go_big_quiet_on) | (refine quiet_loadAny (t := 3) rfl _ _ _ rfl (fun w hw => run_load_int ((ov_B d10 w hw).cellL 3 rfl)) (by rfl) ?_; simp only [Act.put, List.setIfInBounds_toArray, List.set_cons_zero, List.set_cons_succ]; go_big_quiet_on) | (go_big_quiet_op; go_big_quiet_on)))
      refine wpQuiet_nil ?_
      refine wpRL_callB (by rfl) (by first | rfl | simp [Region.wanted, yielded]) ?_ ?_
      · intro wn hbn hE Kx hKx
        have hsz := B.size
        have hzn := hbn.size
        replace B := B.trans (hbn.mono B.size)
        (try first | replace q1 := q1.of_eq (hbn.block _ q1.lt) | replace q1 := q1.below hbn)
        (try first | replace r8 := r8.of_eq (hbn.block _ r8.lt) | replace r8 := r8.below hbn)
        (try first | replace r9 := r9.of_eq (hbn.block _ r9.lt) | replace r9 := r9.below hbn)
        (try first | replace d10 := d10.of_eq (hbn.block _ d10.lt) | replace d10 := d10.below hbn)
        (try first | replace s11 := s11.of_eq (hbn.block _ s11.lt) | replace s11 := s11.below hbn)
        (try first | replace r13 := r13.of_eq (hbn.block _ r13.lt) | replace r13 := r13.below hbn)
        (try first | replace rs1 := rs1.of_eq (hbn.block _ rs1.lt) | replace rs1 := rs1.below hbn)
        (try first | replace rs2 := rs2.of_eq (hbn.block _ rs2.lt) | replace rs2 := rs2.below hbn)
        (try first | replace rs3 := rs3.of_eq (hbn.block _ rs3.lt) | replace rs3 := rs3.below hbn)
        refine wp_callF rfl (enters_of Try.func38 (by kernel_rfl) rfl) (by simp only [List.map_toArray, List.map_cons, List.map_nil, Act.eval, Array.getD_eq_getD_getElem?, List.getElem?_toArray, List.getElem?_cons_succ, List.getElem?_cons_zero, Option.getD_some]; rfl) ?_
        refine (P_BoundsR _ (ofL q L T) wn rs1 (ofL_tok q L T) HN.out).mono ?_
        rintro e wm ⟨rfl, hbm⟩
        refine ⟨_, rfl, ?_⟩
        have hz := hKx () wm trivial hbm
        dsimp only [detS] at hz
        exact hz
      rintro ⟨⟩
      dsimp only [detS]
      simp only [Act.put, List.setIfInBounds_toArray, List.set_cons_zero, List.set_cons_succ]
      refine wpRL_chunk 1 (by kernel_rfl) ?_
      simp only [List.take_succ_cons, List.take_zero, List.drop_succ_cons, List.drop_zero, Nat.reduceAdd]
      repeat (first | go_big_quiet_skip | (go_big_quiet_want; first | (refine quiet_loadAny (t := 30) rfl _ _ _ rfl (fun w hw => run_load_B (ov_B r8 w hw) Try.isAgg30 (by kernel_rfl)) (by rfl) ?_; simp only [Act.put, List.setIfInBounds_toArray, List.set_cons_zero, List.set_cons_succ]; go_big_quiet_on) | (refine quiet_loadAny (t := 30) rfl _ _ _ rfl (fun w hw => run_load_B (ov_B r9 w hw) Try.isAgg30 (by kernel_rfl)) (by rfl) ?_; simp only [Act.put, List.setIfInBounds_toArray, List.set_cons_zero, List.set_cons_succ]; go_big_quiet_on) | (refine quiet_loadAny (t := 64) rfl _ _ _ rfl (fun w hw => run_load_B (ov_B d10 w hw) Try.isAgg64 (by kernel_rfl)) (by rfl) ?_; simp only [Act.put, List.setIfInBounds_toArray, List.set_cons_zero, List.set_cons_succ]; go_big_quiet_on) | (refine quiet_loadAny (t := 28) rfl _ _ _ rfl (fun w hw => run_load_sl (ov_B r9 w hw).cell0) (by rfl) ?_; simp only [Act.put, List.setIfInBounds_toArray, List.set_cons_zero, List.set_cons_succ]; go_big_quiet_on) | (refine quiet_loadAny (t := 28) rfl _ _ _ rfl (fun w hw => run_load_sl (ov_B r13 w hw).cell0) (by rfl) ?_; simp only [Act.put, List.setIfInBounds_toArray, List.set_cons_zero, List.set_cons_succ]; go_big_quiet_on) | (refine quiet_loadAny (t := 3) rfl _ _ _ rfl (fun w hw => run_load_int ((ov_B d10 w hw).cellL 0 rfl)) (by rfl) ?_; simp only [Act.put, List.setIfInBounds_toArray, List.set_cons_zero, List.set_cons_succ]; go_big_quiet_on) | (refine quiet_loadAny (t := 3) rfl _ _ _ rfl (fun w hw => run_load_int ((ov_B d10 w hw).cellL 1 rfl)) (by rfl) ?_; simp only [Act.put, List.setIfInBounds_toArray, List.set_cons_zero, List.set_cons_succ]; go_big_quiet_on) | (refine quiet_loadAny (t := 3) rfl _ _ _ rfl (fun w hw => run_load_int ((ov_B d10 w hw).cellL 2 rfl)) (by rfl) ?_; simp only [Act.put, List.setIfInBounds_toArray, List.set_cons_zero, List.set_cons_succ]; go_big_quiet_on) | (refine quiet_loadAny (t := 3) rfl _ _ _ rfl (fun w hw => run_load_int ((ov_B d10 w hw).cellL 3 rfl)) (by rfl) ?_; simp only [Act.put, List.setIfInBounds_toArray, List.set_cons_zero, List.set_cons_succ]; go_big_quiet_on) | (go_big_quiet_op; go_big_quiet_on)))
      refine wpQuiet_nil ?_
      refine wpRL_callB (by rfl) (by first | rfl | simp [Region.wanted, yielded]) ?_ ?_
      · intro wn hbn hE Kx hKx
        have hsz := B.size
        have hzn := hbn.size
        replace B := B.trans (hbn.mono B.size)
        (try first | replace q1 := q1.of_eq (hbn.block _ q1.lt) | replace q1 := q1.below hbn)
        (try first | replace r8 := r8.of_eq (hbn.block _ r8.lt) | replace r8 := r8.below hbn)
        (try first | replace r9 := r9.of_eq (hbn.block _ r9.lt) | replace r9 := r9.below hbn)
        (try first | replace d10 := d10.of_eq (hbn.block _ d10.lt) | replace d10 := d10.below hbn)
        (try first | replace s11 := s11.of_eq (hbn.block _ s11.lt) | replace s11 := s11.below hbn)
        (try first | replace r13 := r13.of_eq (hbn.block _ r13.lt) | replace r13 := r13.below hbn)
        (try first | replace rs1 := rs1.of_eq (hbn.block _ rs1.lt) | replace rs1 := rs1.below hbn)
        (try first | replace rs2 := rs2.of_eq (hbn.block _ rs2.lt) | replace rs2 := rs2.below hbn)
        (try first | replace rs3 := rs3.of_eq (hbn.block _ rs3.lt) | replace rs3 := rs3.below hbn)
        refine wp_callF rfl (enters_of Try.func41 (by kernel_rfl) rfl) (by simp only [List.map_toArray, List.map_cons, List.map_nil, Act.eval, Array.getD_eq_getD_getElem?, List.getElem?_toArray, List.getElem?_cons_succ, List.getElem?_cons_zero, Option.getD_some]; rfl) ?_
        refine (R_BoundsR _ (ofL q L T) wn rs1 (ofL_tok q L T) HN.out).mono ?_
        rintro e wm ⟨rfl, hbm⟩
        refine ⟨_, rfl, ?_⟩
        have hz := hKx () wm trivial hbm
        dsimp only [detS] at hz
        exact hz
      rintro ⟨⟩
      dsimp only [detS]
      simp only [Act.put, List.setIfInBounds_toArray, List.set_cons_zero, List.set_cons_succ]
      refine wpRL_chunk 5 (by kernel_rfl) ?_
      simp only [List.take_succ_cons, List.take_zero, List.drop_succ_cons, List.drop_zero, Nat.reduceAdd]
      repeat (first | go_big_quiet_skip | (go_big_quiet_want; first | (refine quiet_loadAny (t := 30) rfl _ _ _ rfl (fun w hw => run_load_B (ov_B r8 w hw) Try.isAgg30 (by kernel_rfl)) (by rfl) ?_; simp only [Act.put, List.setIfInBounds_toArray, List.set_cons_zero, List.set_cons_succ]; go_big_quiet_on) | (refine quiet_loadAny (t := 30) rfl _ _ _ rfl (fun w hw => run_load_B (ov_B r9 w hw) Try.isAgg30 (by kernel_rfl)) (by rfl) ?_; simp only [Act.put, List.setIfInBounds_toArray, List.set_cons_zero, List.set_cons_succ]; go_big_quiet_on) | (refine quiet_loadAny (t := 64) rfl _ _ _ rfl (fun w hw => run_load_B (ov_B d10 w hw) Try.isAgg64 (by kernel_rfl)) (by rfl) ?_; simp only [Act.put, List.setIfInBounds_toArray, List.set_cons_zero, List.set_cons_succ]; go_big_quiet_on) | (refine quiet_loadAny (t := 28) rfl _ _ _ rfl (fun w hw => run_load_sl (ov_B r9 w hw).cell0) (by rfl) ?_; simp only [Act.put, List.setIfInBounds_toArray, List.set_cons_zero, List.set_cons_succ]; go_big_quiet_on) | (refine quiet_loadAny (t := 28) rfl _ _ _ rfl (fun w hw => run_load_sl (ov_B r13 w hw).cell0) (by rfl) ?_; simp only [Act.put, List.setIfInBounds_toArray, List.set_cons_zero, List.set_cons_succ]; go_big_quiet_on) | (refine quiet_loadAny (t := 3) rfl _ _ _ rfl (fun w hw => run_load_int ((ov_B d10 w hw).cellL 0 rfl)) (by rfl) ?_; simp only [Act.put, List.setIfInBounds_toArray, List.set_cons_zero, List.set_cons_succ]; go_big_quiet_on) | (refine quiet_loadAny (t := 3) rfl _ _ _ rfl (fun w hw => run_load_int ((ov_B d10 w hw).cellL 1 rfl)) (by rfl) ?_; simp only [Act.put, List.setIfInBounds_toArray, List.set_cons_zero, List.set_cons_succ]; go_big_quiet_on) | (refine quiet_loadAny (t := 3) rfl _ _ _ rfl (fun w hw => run_load_int ((ov_B d10 w hw).cellL 2 rfl)) (by rfl) ?_; simp only [Act.put, List.setIfInBounds_toArray, List.set_cons_zero, List.set_cons_succ]; go_big_quiet_on) | (refine quiet_loadAny (t := 3) rfl _ _ _ rfl (fun w hw => run_load_int ((ov_B d10 w hw).cellL 3 rfl)) (by rfl) ?_; simp only [Act.put, List.setIfInBounds_toArray, List.set_cons_zero, List.set_cons_succ]; go_big_quiet_on) | (go_big_quiet_op; go_big_quiet_on)))
      refine wpQuiet_nil ?_
      refine wpRL_callB (by rfl) (by first | rfl | simp [Region.wanted, yielded]) ?_ ?_
      · intro wn hbn hE Kx hKx
        have hsz := B.size
        have hzn := hbn.size
        replace B := B.trans (hbn.mono B.size)
        (try first | replace q1 := q1.of_eq (hbn.block _ q1.lt) | replace q1 := q1.below hbn)
        (try first | replace r8 := r8.of_eq (hbn.block _ r8.lt) | replace r8 := r8.below hbn)
        (try first | replace r9 := r9.of_eq (hbn.block _ r9.lt) | replace r9 := r9.below hbn)
        (try first | replace d10 := d10.of_eq (hbn.block _ d10.lt) | replace d10 := d10.below hbn)
        (try first | replace s11 := s11.of_eq (hbn.block _ s11.lt) | replace s11 := s11.below hbn)
        (try first | replace r13 := r13.of_eq (hbn.block _ r13.lt) | replace r13 := r13.below hbn)
        (try first | replace rs1 := rs1.of_eq (hbn.block _ rs1.lt) | replace rs1 := rs1.below hbn)
        (try first | replace rs2 := rs2.of_eq (hbn.block _ rs2.lt) | replace rs2 := rs2.below hbn)
        (try first | replace rs3 := rs3.of_eq (hbn.block _ rs3.lt) | replace rs3 := rs3.below hbn)
        refine wp_callF rfl (enters_of Try.func41 (by kernel_rfl) rfl) (by simp only [List.map_toArray, List.map_cons, List.map_nil, Act.eval, Array.getD_eq_getD_getElem?, List.getElem?_toArray, List.getElem?_cons_succ, List.getElem?_cons_zero, Option.getD_some]; rfl) ?_
        refine (R_BoundsA _ (madeL L) ⟨0, 0, 0, 0⟩ wn rs2 (madeL_tok L) HM.out (madeL_valid L) HB.out).mono ?_
        rintro e wm ⟨rfl, hbm⟩
        refine ⟨_, rfl, ?_⟩
        have hz := hKx () wm trivial hbm
        dsimp only [detS] at hz
        exact hz
      rintro ⟨⟩
      dsimp only [detS]
      simp only [Act.put, List.setIfInBounds_toArray, List.set_cons_zero, List.set_cons_succ]
      refine wpRL_chunk 5 (by kernel_rfl) ?_
      simp only [List.take_succ_cons, List.take_zero, List.drop_succ_cons, List.drop_zero, Nat.reduceAdd]
      repeat (first | go_big_quiet_skip | (go_big_quiet_want; first | (refine quiet_loadAny (t := 30) rfl _ _ _ rfl (fun w hw => run_load_B (ov_B r8 w hw) Try.isAgg30 (by kernel_rfl)) (by rfl) ?_; simp only [Act.put, List.setIfInBounds_toArray, List.set_cons_zero, List.set_cons_succ]; go_big_quiet_on) | (refine quiet_loadAny (t := 30) rfl _ _ _ rfl (fun w hw => run_load_B (ov_B r9 w hw) Try.isAgg30 (by kernel_rfl)) (by rfl) ?_; simp only [Act.put, List.setIfInBounds_toArray, List.set_cons_zero, List.set_cons_succ]; go_big_quiet_on) | (refine quiet_loadAny (t := 64) rfl _ _ _ rfl (fun w hw => run_load_B (ov_B d10 w hw) Try.isAgg64 (by kernel_rfl)) (by rfl) ?_; simp only [Act.put, List.setIfInBounds_toArray, List.set_cons_zero, List.set_cons_succ]; go_big_quiet_on) | (refine quiet_loadAny (t := 28) rfl _ _ _ rfl (fun w hw => run_load_sl (ov_B r9 w hw).cell0) (by rfl) ?_; simp only [Act.put, List.setIfInBounds_toArray, List.set_cons_zero, List.set_cons_succ]; go_big_quiet_on) | (refine quiet_loadAny (t := 28) rfl _ _ _ rfl (fun w hw => run_load_sl (ov_B r13 w hw).cell0) (by rfl) ?_; simp only [Act.put, List.setIfInBounds_toArray, List.set_cons_zero, List.set_cons_succ]; go_big_quiet_on) | (refine quiet_loadAny (t := 3) rfl _ _ _ rfl (fun w hw => run_load_int ((ov_B d10 w hw).cellL 0 rfl)) (by rfl) ?_; simp only [Act.put, List.setIfInBounds_toArray, List.set_cons_zero, List.set_cons_succ]; go_big_quiet_on) | (refine quiet_loadAny (t := 3) rfl _ _ _ rfl (fun w hw => run_load_int ((ov_B d10 w hw).cellL 1 rfl)) (by rfl) ?_; simp only [Act.put, List.setIfInBounds_toArray, List.set_cons_zero, List.set_cons_succ]; go_big_quiet_on) | (refine quiet_loadAny (t := 3) rfl _ _ _ rfl (fun w hw => run_load_int ((ov_B d10 w hw).cellL 2 rfl)) (by rfl) ?_; simp only [Act.put, List.setIfInBounds_toArray, List.set_cons_zero, List.set_cons_succ]; go_big_quiet_on) | (refine quiet_loadAny (t := 3) rfl _ _ _ rfl (fun w hw => run_load_int ((ov_B d10 w hw).cellL 3 rfl)) (by rfl) ?_; simp only [Act.put, List.setIfInBounds_toArray, List.set_cons_zero, List.set_cons_succ]; go_big_quiet_on) | (go_big_quiet_op; go_big_quiet_on)))
      refine wpQuiet_nil ?_
      refine wpRL_callB (by rfl) (by first | rfl | simp [Region.wanted, yielded]) ?_ ?_
      · intro wn hbn hE Kx hKx
        have hsz := B.size
        have hzn := hbn.size
        replace B := B.trans (hbn.mono B.size)
        (try first | replace q1 := q1.of_eq (hbn.block _ q1.lt) | replace q1 := q1.below hbn)
        (try first | replace r8 := r8.of_eq (hbn.block _ r8.lt) | replace r8 := r8.below hbn)
        (try first | replace r9 := r9.of_eq (hbn.block _ r9.lt) | replace r9 := r9.below hbn)
        (try first | replace d10 := d10.of_eq (hbn.block _ d10.lt) | replace d10 := d10.below hbn)
        (try first | replace s11 := s11.of_eq (hbn.block _ s11.lt) | replace s11 := s11.below hbn)
        (try first | replace r13 := r13.of_eq (hbn.block _ r13.lt) | replace r13 := r13.below hbn)
        (try first | replace rs1 := rs1.of_eq (hbn.block _ rs1.lt) | replace rs1 := rs1.below hbn)
        (try first | replace rs2 := rs2.of_eq (hbn.block _ rs2.lt) | replace rs2 := rs2.below hbn)
        (try first | replace rs3 := rs3.of_eq (hbn.block _ rs3.lt) | replace rs3 := rs3.below hbn)
        refine wp_lenS rfl Try.underlying28 rfl ?_
        exact hKx () _ trivial (Below.refl _ _)
      rintro ⟨⟩
      dsimp only [detS]
      simp only [Act.put, List.setIfInBounds_toArray, List.set_cons_zero, List.set_cons_succ]
      refine wpRL_chunk 8 (by kernel_rfl) ?_
      simp only [List.take_succ_cons, List.take_zero, List.drop_succ_cons, List.drop_zero, Nat.reduceAdd]
      repeat (first | go_big_quiet_skip | (go_big_quiet_want; first | (refine quiet_loadAny (t := 30) rfl _ _ _ rfl (fun w hw => run_load_B (ov_B r8 w hw) Try.isAgg30 (by kernel_rfl)) (by rfl) ?_; simp only [Act.put, List.setIfInBounds_toArray, List.set_cons_zero, List.set_cons_succ]; go_big_quiet_on) | (refine quiet_loadAny (t := 30) rfl _ _ _ rfl (fun w hw => run_load_B (ov_B r9 w hw) Try.isAgg30 (by kernel_rfl)) (by rfl) ?_; simp only [Act.put, List.setIfInBounds_toArray, List.set_cons_zero, List.set_cons_succ]; go_big_quiet_on) | (refine quiet_loadAny (t := 64) rfl _ _ _ rfl (fun w hw => run_load_B (ov_B d10 w hw) Try.isAgg64 (by kernel_rfl)) (by rfl) ?_; simp only [Act.put, List.setIfInBounds_toArray, List.set_cons_zero, List.set_cons_succ]; go_big_quiet_on) | (refine quiet_loadAny (t := 28) rfl _ _ _ rfl (fun w hw => run_load_sl (ov_B r9 w hw).cell0) (by rfl) ?_; simp only [Act.put, List.setIfInBounds_toArray, List.set_cons_zero, List.set_cons_succ]; go_big_quiet_on) | (refine quiet_loadAny (t := 28) rfl _ _ _ rfl (fun w hw => run_load_sl (ov_B r13 w hw).cell0) (by rfl) ?_; simp only [Act.put, List.setIfInBounds_toArray, List.set_cons_zero, List.set_cons_succ]; go_big_quiet_on) | (refine quiet_loadAny (t := 3) rfl _ _ _ rfl (fun w hw => run_load_int ((ov_B d10 w hw).cellL 0 rfl)) (by rfl) ?_; simp only [Act.put, List.setIfInBounds_toArray, List.set_cons_zero, List.set_cons_succ]; go_big_quiet_on) | (refine quiet_loadAny (t := 3) rfl _ _ _ rfl (fun w hw => run_load_int ((ov_B d10 w hw).cellL 1 rfl)) (by rfl) ?_; simp only [Act.put, List.setIfInBounds_toArray, List.set_cons_zero, List.set_cons_succ]; go_big_quiet_on) | (refine quiet_loadAny (t := 3) rfl _ _ _ rfl (fun w hw => run_load_int ((ov_B d10 w hw).cellL 2 rfl)) (by rfl) ?_; simp only [Act.put, List.setIfInBounds_toArray, List.set_cons_zero, List.set_cons_succ]; go_big_quiet_on) | (refine quiet_loadAny (t := 3) rfl _ _ _ rfl (fun w hw => run_load_int ((ov_B d10 w hw).cellL 3 rfl)) (by rfl) ?_; simp only [Act.put, List.setIfInBounds_toArray, List.set_cons_zero, List.set_cons_succ]; go_big_quiet_on) | (go_big_quiet_op; go_big_quiet_on)))
      refine wpQuiet_nil ?_
      refine wpRL_nil ?_
      intro wn hbn hE
      have hsz := B.size
      have hzn := hbn.size
      replace B := B.trans (hbn.mono B.size)
      (try first | replace q1 := q1.of_eq (hbn.block _ q1.lt) | replace q1 := q1.below hbn)
      (try first | replace r8 := r8.of_eq (hbn.block _ r8.lt) | replace r8 := r8.below hbn)
      (try first | replace r9 := r9.of_eq (hbn.block _ r9.lt) | replace r9 := r9.below hbn)
      (try first | replace d10 := d10.of_eq (hbn.block _ d10.lt) | replace d10 := d10.below hbn)
      (try first | replace s11 := s11.of_eq (hbn.block _ s11.lt) | replace s11 := s11.below hbn)
      (try first | replace r13 := r13.of_eq (hbn.block _ r13.lt) | replace r13 := r13.below hbn)
      (try first | replace rs1 := rs1.of_eq (hbn.block _ rs1.lt) | replace rs1 := rs1.below hbn)
      (try first | replace rs2 := rs2.of_eq (hbn.block _ rs2.lt) | replace rs2 := rs2.below hbn)
      (try first | replace rs3 := rs3.of_eq (hbn.block _ rs3.lt) | replace rs3 := rs3.below hbn)
      clear hE
      try simp only [List.drop_succ_cons, List.drop_zero]
      refine NoPan.normal ?_
      go_wp2
      go_ret
      exact ⟨rfl, B⟩
    · have d0 : decide ((0 : Int) < (ml : Int)) = true := decide_eq_true (by omega)
      have d0' : decide (0 < ml) = true := decide_eq_true (by omega)
      refine wp_region_lit ?_
      try simp only [List.getElem_toArray, List.getElem_cons_zero, List.getElem_cons_succ]
      refine wpList_chunk 2 (by kernel_rfl) ?_
      simp only [List.take_succ_cons, List.take_zero, List.drop_succ_cons, List.drop_zero, Nat.reduceAdd]
      repeat (first | go_big_quiet_skip | (go_big_quiet_want; first | (refine quiet_loadAny (t := 30) rfl _ _ _ rfl (fun w hw => run_load_B (ov_B r8 w hw) Try.isAgg30 (by kernel_rfl)) (by rfl) ?_; simp only [Act.put, List.setIfInBounds_toArray, List.set_cons_zero, List.set_cons_succ]; go_big_quiet_on) | (refine quiet_loadAny (t := 30) rfl _ _ _ rfl (fun w hw => run_load_B (ov_B r9 w hw) Try.isAgg30 (by kernel_rfl)) (by rfl) ?_; simp only [Act.put, List.setIfInBounds_toArray, List.set_cons_zero, List.set_cons_succ]; go_big_quiet_on) | (refine quiet_loadAny (t := 64) rfl _ _ _ rfl (fun w hw => run_load_B (ov_B d10 w hw) Try.isAgg64 (by kernel_rfl)) (by rfl) ?_; simp only [Act.put, List.setIfInBounds_toArray, List.set_cons_zero, List.set_cons_succ]; go_big_quiet_on) | (refine quiet_loadAny (t := 28) rfl _ _ _ rfl (fun w hw => run_load_sl (ov_B r9 w hw).cell0) (by rfl) ?_; simp only [Act.put, List.setIfInBounds_toArray, List.set_cons_zero, List.set_cons_succ]; go_big_quiet_on) | (refine quiet_loadAny (t := 28) rfl _ _ _ rfl (fun w hw => run_load_sl (ov_B r13 w hw).cell0) (by rfl) ?_; simp only [Act.put, List.setIfInBounds_toArray, List.set_cons_zero, List.set_cons_succ]; go_big_quiet_on) | (refine quiet_loadAny (t := 3) rfl _ _ _ rfl (fun w hw => run_load_int ((ov_B d10 w hw).cellL 0 rfl)) (by rfl) ?_; simp only [Act.put, List.setIfInBounds_toArray, List.set_cons_zero, List.set_cons_succ]; go_big_quiet_on) | (refine quiet_loadAny (t := 3) rfl _ _ _ rfl (fun w hw => run_load_int ((ov_B d10 w hw).cellL 1 rfl)) (by rfl) ?_; simp only [Act.put, List.setIfInBounds_toArray, List.set_cons_zero, List.set_cons_succ]; go_big_quiet_on) | (refine quiet_loadAny (t := 3) rfl _ _ _ rfl (fun w hw => run_load_int ((ov_B d10 w hw).cellL 2 rfl)) (by rfl) ?_; simp only [Act.put, List.setIfInBounds_toArray, List.set_cons_zero, List.set_cons_succ]; go_big_quiet_on) | (refine quiet_loadAny (t := 3) rfl _ _ _ rfl (fun w hw => run_load_int ((ov_B d10 w hw).cellL 3 rfl)) (by rfl) ?_; simp only [Act.put, List.setIfInBounds_toArray, List.set_cons_zero, List.set_cons_succ]; go_big_quiet_on) | (go_big_quiet_op; go_big_quiet_on)))
      refine wpQuiet_nil ?_
      refine wpList_lenS (by first | rfl | simp [Region.wanted, yielded]) rfl Try.underlying28 rfl ?_
      simp only [Act.put, List.setIfInBounds_toArray, List.set_cons_zero, List.set_cons_succ]
      refine wpList_chunk 1 (by kernel_rfl) ?_
      simp only [List.take_succ_cons, List.take_zero, List.drop_succ_cons, List.drop_zero, Nat.reduceAdd]
      repeat (first | go_big_quiet_skip | (go_big_quiet_want; first | (refine quiet_loadAny (t := 30) rfl _ _ _ rfl (fun w hw => run_load_B (ov_B r8 w hw) Try.isAgg30 (by kernel_rfl)) (by rfl) ?_; simp only [Act.put, List.setIfInBounds_toArray, List.set_cons_zero, List.set_cons_succ]; go_big_quiet_on) | (refine quiet_loadAny (t := 30) rfl _ _ _ rfl (fun w hw => run_load_B (ov_B r9 w hw) Try.isAgg30 (by kernel_rfl)) (by rfl) ?_; simp only [Act.put, List.setIfInBounds_toArray, List.set_cons_zero, List.set_cons_succ]; go_big_quiet_on) | (refine quiet_loadAny (t := 64) rfl _ _ _ rfl (fun w hw => run_load_B (ov_B d10 w hw) Try.isAgg64 (by kernel_rfl)) (by rfl) ?_; simp only [Act.put, List.setIfInBounds_toArray, List.set_cons_zero, List.set_cons_succ]; go_big_quiet_on) | (refine quiet_loadAny (t := 28) rfl _ _ _ rfl (fun w hw => run_load_sl (ov_B r9 w hw).cell0) (by rfl) ?_; simp only [Act.put, List.setIfInBounds_toArray, List.set_cons_zero, List.set_cons_succ]; go_big_quiet_on) | (refine quiet_loadAny (t := 28) rfl _ _ _ rfl (fun w hw => run_load_sl (ov_B r13 w hw).cell0) (by rfl) ?_; simp only [Act.put, List.setIfInBounds_toArray, List.set_cons_zero, List.set_cons_succ]; go_big_quiet_on) | (refine quiet_loadAny (t := 3) rfl _ _ _ rfl (fun w hw => run_load_int ((ov_B d10 w hw).cellL 0 rfl)) (by rfl) ?_; simp only [Act.put, List.setIfInBounds_toArray, List.set_cons_zero, List.set_cons_succ]; go_big_quiet_on) | (refine quiet_loadAny (t := 3) rfl _ _ _ rfl (fun w hw => run_load_int ((ov_B d10 w hw).cellL 1 rfl)) (by rfl) ?_; simp only [Act.put, List.setIfInBounds_toArray, List.set_cons_zero, List.set_cons_succ]; go_big_quiet_on) | (refine quiet_loadAny (t := 3) rfl _ _ _ rfl (fun w hw => run_load_int ((ov_B d10 w hw).cellL 2 rfl)) (by rfl) ?_; simp only [Act.put, List.setIfInBounds_toArray, List.set_cons_zero, List.set_cons_succ]; go_big_quiet_on) | (refine quiet_loadAny (t := 3) rfl _ _ _ rfl (fun w hw => run_load_int ((ov_B d10 w hw).cellL 3 rfl)) (by rfl) ?_; simp only [Act.put, List.setIfInBounds_toArray, List.set_cons_zero, List.set_cons_succ]; go_big_quiet_on) | (go_big_quiet_op; go_big_quiet_on)))
      refine wpQuiet_nil ?_
      refine wpList_nil ?_
      go_upto_region 10 with fail
      refine wp_region_lit ?_
      try simp only [List.getElem_toArray, List.getElem_cons_zero, List.getElem_cons_succ]
      refine wpList_chunk 41 (by kernel_rfl) ?_
      simp only [List.take_succ_cons, List.take_zero, List.drop_succ_cons, List.drop_zero, Nat.reduceAdd]
      repeat (first | go_big_quiet_skip | (go_big_quiet_want; first | (refine quiet_loadAny (t := 30) rfl _ _ _ rfl (fun w hw => run_load_B (ov_B r8 w hw) Try.isAgg30 (by kernel_rfl)) (by rfl) ?_; simp only [Act.put, List.setIfInBounds_toArray, List.set_cons_zero, List.set_cons_succ]; go_big_quiet_on) | (refine quiet_loadAny (t := 30) rfl _ _ _ rfl (fun w hw => run_load_B (ov_B r9 w hw) Try.isAgg30 (by kernel_rfl)) (by rfl) ?_; simp only [Act.put, List.setIfInBounds_toArray, List.set_cons_zero, List.set_cons_succ]; go_big_quiet_on) | (refine quiet_loadAny (t := 64) rfl _ _ _ rfl (fun w hw => run_load_B (ov_B d10 w hw) Try.isAgg64 (by kernel_rfl)) (by rfl) ?_; simp only [Act.put, List.setIfInBounds_toArray, List.set_cons_zero, List.set_cons_succ]; go_big_quiet_on) | (refine quiet_loadAny (t := 28) rfl _ _ _ rfl (fun w hw => run_load_sl (ov_B r9 w hw).cell0) (by rfl) ?_; simp only [Act.put, List.setIfInBounds_toArray, List.set_cons_zero, List.set_cons_succ]; go_big_quiet_on) | (refine quiet_loadAny (t := 28) rfl _ _ _ rfl (fun w hw => run_load_sl (ov_B r13 w hw).cell0) (by rfl) ?_; simp only [Act.put, List.setIfInBounds_toArray, List.set_cons_zero, List.set_cons_succ]; go_big_quiet_on) | (refine quiet_loadAny (t := 3) rfl _ _ _ rfl (fun w hw => run_load_int ((ov_B d10 w hw).cellL 0 rfl)) (by rfl) ?_; simp only [Act.put, List.setIfInBounds_toArray, List.set_cons_zero, List.set_cons_succ]; go_big_quiet_on) | (refine quiet_loadAny (t := 3) rfl _ _ _ rfl (fun w hw => run_load_int ((ov_B d10 w hw).cellL 1 rfl)) (by rfl) ?_; simp only [Act.put, List.setIfInBounds_toArray, List.set_cons_zero, List.set_cons_succ]; go_big_quiet_on) | (refine quiet_loadAny (t := 3) rfl _ _ _ rfl (fun w hw => run_load_int ((ov_B d10 w hw).cellL 2 rfl)) (by rfl) ?_; simp only [Act.put, List.setIfInBounds_toArray, List.set_cons_zero, List.set_cons_succ]; go_big_quiet_on) | (refine quiet_loadAny (t := 3) rfl _ _ _ rfl (fun w hw => run_load_int ((ov_B d10 w hw).cellL 3 rfl)) (by rfl) ?_; simp only [Act.put, List.setIfInBounds_toArray, List.set_cons_zero, List.set_cons_succ]; go_big_quiet_on) | (go_big_quiet_op; go_big_quiet_on)))
      refine wpQuiet_nil ?_
      (refine wpList_allocBk (t := 84) rfl _ (run_alloc_Rq _ _ rfl) ?_; intro b_s11 wn hle hge ht hbn hzn; have hsz := B.size; replace B := B.trans (hbn.mono (by omega)); have hln := Nat.lt_of_lt_of_eq (Nat.lt_succ_self _) hzn.symm; clear hzn; (try first | (have hlt := q1.lt; replace q1 := q1.of_eq (hbn.block _ (by omega))) | replace q1 := q1.below (hbn.mono hle)); (try first | (have hlt := r8.lt; replace r8 := r8.of_eq (hbn.block _ (by omega))) | replace r8 := r8.below (hbn.mono hle)); (try first | (have hlt := r9.lt; replace r9 := r9.of_eq (hbn.block _ (by omega))) | replace r9 := r9.below (hbn.mono hle)); (try first | (have hlt := d10.lt; replace d10 := d10.of_eq (hbn.block _ (by omega))) | replace d10 := d10.below (hbn.mono hle)); (try first | (have hlt := s11.lt; replace s11 := s11.of_eq (hbn.block _ (by omega))) | replace s11 := s11.below (hbn.mono hle)); (try first | (have hlt := r13.lt; replace r13 := r13.of_eq (hbn.block _ (by omega))) | replace r13 := r13.below (hbn.mono hle)); (try first | (have hlt := rs1.lt; replace rs1 := rs1.of_eq (hbn.block _ (by omega))) | replace rs1 := rs1.below (hbn.mono hle)); (try first | (have hlt := rs2.lt; replace rs2 := rs2.of_eq (hbn.block _ (by omega))) | replace rs2 := rs2.below (hbn.mono hle)); (try first | (have hlt := rs3.lt; replace rs3 := rs3.of_eq (hbn.block _ (by omega))) | replace rs3 := rs3.below (hbn.mono hle)); have s11 := ht; clear ht; simp only [Act.put, List.setIfInBounds_toArray, List.set_cons_zero, List.set_cons_succ])
      (refine wpList_storeB (t := 84) rfl _ _ rfl _ rfl (sidesA ⟨x0, y0, x1, y1⟩) rfl s11 (by kernel_rfl) rfl (by simp [sidesA, Value.oneCell']) ?_; have s11o := s11; clear s11; intro wn ht hcn hzn; (try replace rs1 := rs1.chg s11o (by simp [rcA, sidesA]) hcn); (try replace rs2 := rs2.chg s11o (by simp [rcA, sidesA]) hcn); (try replace rs3 := rs3.chg s11o (by simp [rcA, sidesA]) hcn); have hsz := B.size; replace hzn := Nat.le_of_eq hzn.symm; replace B := Chg.below B hcn (by omega) B.size; (try replace q1 := q1.of_eq (hcn.block _ q1.lt (by omega))); (try replace r8 := r8.of_eq (hcn.block _ r8.lt (by omega))); (try replace r9 := r9.of_eq (hcn.block _ r9.lt (by omega))); (try replace d10 := d10.of_eq (hcn.block _ d10.lt (by omega))); (try replace r13 := r13.of_eq (hcn.block _ r13.lt (by omega))); (try replace rs1 := rs1.of_eq (hcn.block _ rs1.lt (by omega))); (try replace rs2 := rs2.of_eq (hcn.block _ rs2.lt (by omega))); (try replace rs3 := rs3.of_eq (hcn.block _ rs3.lt (by omega))); have s11 := ht; clear ht; simp only [Act.put, List.setIfInBounds_toArray, List.set_cons_zero, List.set_cons_succ])
      refine wpList_nil ?_
      go_wp2
      go_loopw [12, 13] (fun i _ wr => ∃ k : Nat, k ≤ 4 ∧ i = .int .i64 k ∧ Below w.heap.size w wr ∧ AtB 30 wr b_r8 #[.slice a1 (ofL q L T).length c1] ∧ AtB 30 wr b_r9 #[.slice a2 ml c2] ∧ AtB 64 wr b_d10 (rcA ⟨x0, y0, x1, y1⟩) ∧ AtB 84 wr b_s11 (sidesA ⟨x0, y0, x1, y1⟩) ∧ RS (.slice a1 (ofL q L T).length c1) (ofL q L T) wr ∧ RS (.slice a2 ml c2) (madeL L) wr) (fun i _ _ => (4 - intOf i).toNat)
      case atStart => exact ⟨0, by omega, rfl, B, r8, r9, d10, s11, rs1, rs2⟩
      case round =>
        clear B r8 r9 d10 s11 rs1 rs2
        obtain ⟨k, hk4, rfl, B, r8, r9, d10, s11, rs1, rs2⟩ := hrel
        by_cases hk : k < 4
        · have hpos := HBS.out (by omega) k hk
          have dk : decide ((k : Int) < 4) = true := decide_eq_true (by omega)
          have dne : decide (((cropL (sideR ⟨x0, y0, x1, y1⟩ k) (madeL L)).length : Int) = 0) = false := decide_eq_false (by omega)
          go_upto_region 14 with fail
          try simp only [List.getElem_toArray, List.getElem_cons_zero, List.getElem_cons_succ]
          try have lx_q1 := q1.lt
          try have lx_r8 := r8.lt
          try have lx_r9 := r9.lt
          try have lx_d10 := d10.lt
          try have lx_s11 := s11.lt
          try have lx_r13 := r13.lt
          try have lx_rs1 := rs1.lt
          try have lx_rs2 := rs2.lt
          try have lx_rs3 := rs3.lt
          refine wp_region_RL 6 [(4, rasS (cropL (sideR ⟨x0, y0, x1, y1⟩ k) (madeL L))), (5, ptrS (wr.heap.size) 30 #[.slice none 0 0])] (by kernel_rfl) (by kernel_rfl) (by kernel_rfl) ?_
          rotate_left 0
          simp only [List.take_succ_cons, List.take_zero, List.drop_succ_cons, List.drop_zero, Nat.reduceAdd]
          refine wpRL_chunk 4 (by kernel_rfl) ?_
          simp only [List.take_succ_cons, List.take_zero, List.drop_succ_cons, List.drop_zero, Nat.reduceAdd]
          repeat (first | go_big_quiet_skip | (go_big_quiet_want; first | (refine quiet_loadAny (t := 30) rfl _ _ _ rfl (fun w hw => run_load_B (ov_B r8 w hw) Try.isAgg30 (by kernel_rfl)) (by rfl) ?_; simp only [Act.put, List.setIfInBounds_toArray, List.set_cons_zero, List.set_cons_succ]; go_big_quiet_on) | (refine quiet_loadAny (t := 30) rfl _ _ _ rfl (fun w hw => run_load_B (ov_B r9 w hw) Try.isAgg30 (by kernel_rfl)) (by rfl) ?_; simp only [Act.put, List.setIfInBounds_toArray, List.set_cons_zero, List.set_cons_succ]; go_big_quiet_on) | (refine quiet_loadAny (t := 64) rfl _ _ _ rfl (fun w hw => run_load_B (ov_B d10 w hw) Try.isAgg64 (by kernel_rfl)) (by rfl) ?_; simp only [Act.put, List.setIfInBounds_toArray, List.set_cons_zero, List.set_cons_succ]; go_big_quiet_on) | (refine quiet_loadAny (t := 28) rfl _ _ _ rfl (fun w hw => run_load_sl (ov_B r9 w hw).cell0) (by rfl) ?_; simp only [Act.put, List.setIfInBounds_toArray, List.set_cons_zero, List.set_cons_succ]; go_big_quiet_on) | (refine quiet_loadAny (t := 28) rfl _ _ _ rfl (fun w hw => run_load_sl (ov_B r13 w hw).cell0) (by rfl) ?_; simp only [Act.put, List.setIfInBounds_toArray, List.set_cons_zero, List.set_cons_succ]; go_big_quiet_on) | (refine quiet_loadAny (t := 3) rfl _ _ _ rfl (fun w hw => run_load_int ((ov_B d10 w hw).cellL 0 rfl)) (by rfl) ?_; simp only [Act.put, List.setIfInBounds_toArray, List.set_cons_zero, List.set_cons_succ]; go_big_quiet_on) | (refine quiet_loadAny (t := 3) rfl _ _ _ rfl (fun w hw => run_load_int ((ov_B d10 w hw).cellL 1 rfl)) (by rfl) ?_; simp only [Act.put, List.setIfInBounds_toArray, List.set_cons_zero, List.set_cons_succ]; go_big_quiet_on) | (refine quiet_loadAny (t := 3) rfl _ _ _ rfl (fun w hw => run_load_int ((ov_B d10 w hw).cellL 2 rfl)) (by rfl) ?_; simp only [Act.put, List.setIfInBounds_toArray, List.set_cons_zero, List.set_cons_succ]; go_big_quiet_on) | (refine quiet_loadAny (t := 3) rfl _ _ _ rfl (fun w hw => run_load_int ((ov_B d10 w hw).cellL 3 rfl)) (by rfl) ?_; simp only [Act.put, List.setIfInBounds_toArray, List.set_cons_zero, List.set_cons_succ]; go_big_quiet_on) | (refine quiet_loadAny (t := 64) rfl _ _ _ rfl (fun w hw => run_load_side (ov_B s11 w hw) k hk) (by first | rfl | omega) ?_; simp only [Act.put, List.setIfInBounds_toArray, List.set_cons_zero, List.set_cons_succ]; go_big_quiet_on) | (go_big_quiet_op; go_big_quiet_on)))
          refine wpQuiet_nil ?_
          refine wpRL_callB (by rfl) (by first | rfl | simp [Region.wanted, yielded]) ?_ ?_
          · intro wn hbn hE Kx hKx
            have hsz := B.size
            have hzn := hbn.size
            replace B := B.trans (hbn.mono B.size)
            (try first | replace q1 := q1.of_eq (hbn.block _ q1.lt) | replace q1 := q1.below hbn)
            (try first | replace r8 := r8.of_eq (hbn.block _ r8.lt) | replace r8 := r8.below hbn)
            (try first | replace r9 := r9.of_eq (hbn.block _ r9.lt) | replace r9 := r9.below hbn)
            (try first | replace d10 := d10.of_eq (hbn.block _ d10.lt) | replace d10 := d10.below hbn)
            (try first | replace s11 := s11.of_eq (hbn.block _ s11.lt) | replace s11 := s11.below hbn)
            (try first | replace r13 := r13.of_eq (hbn.block _ r13.lt) | replace r13 := r13.below hbn)
            (try first | replace rs1 := rs1.of_eq (hbn.block _ rs1.lt) | replace rs1 := rs1.below hbn)
            (try first | replace rs2 := rs2.of_eq (hbn.block _ rs2.lt) | replace rs2 := rs2.below hbn)
            (try first | replace rs3 := rs3.of_eq (hbn.block _ rs3.lt) | replace rs3 := rs3.below hbn)
            refine wp_callF rfl (enters_of Try.func40 (by kernel_rfl) rfl) (by simp only [List.map_toArray, List.map_cons, List.map_nil, Act.eval, Array.getD_eq_getD_getElem?, List.getElem?_toArray, List.getElem?_cons_succ, List.getElem?_cons_zero, Option.getD_some]; rfl) ?_
            refine (P_CropV _ (madeL L) _ (sideR ⟨x0, y0, x1, y1⟩ k) wn rs2 (madeL_tok L) HM.out (madeL_valid L) rfl).mono ?_
            rintro e wm ⟨v', rfl, hr, hbm⟩
            obtain ⟨a', c', rfl, _⟩ := hr.len
            exact ⟨_, rfl, hKx (a', c') wm hr hbm⟩
          rintro ⟨a95, c95⟩
          dsimp only [detS, rasS]
          simp only [Act.put, List.setIfInBounds_toArray, List.set_cons_zero, List.set_cons_succ]
          refine wpRL_callB (by rfl) (by first | rfl | simp [Region.wanted, yielded]) ?_ ?_
          · intro wn hbn hE Kx hKx
            have hsz := B.size
            have hzn := hbn.size
            replace B := B.trans (hbn.mono B.size)
            (try first | replace q1 := q1.of_eq (hbn.block _ q1.lt) | replace q1 := q1.below hbn)
            (try first | replace r8 := r8.of_eq (hbn.block _ r8.lt) | replace r8 := r8.below hbn)
            (try first | replace r9 := r9.of_eq (hbn.block _ r9.lt) | replace r9 := r9.below hbn)
            (try first | replace d10 := d10.of_eq (hbn.block _ d10.lt) | replace d10 := d10.below hbn)
            (try first | replace s11 := s11.of_eq (hbn.block _ s11.lt) | replace s11 := s11.below hbn)
            (try first | replace r13 := r13.of_eq (hbn.block _ r13.lt) | replace r13 := r13.below hbn)
            (try first | replace rs1 := rs1.of_eq (hbn.block _ rs1.lt) | replace rs1 := rs1.below hbn)
            (try first | replace rs2 := rs2.of_eq (hbn.block _ rs2.lt) | replace rs2 := rs2.below hbn)
            (try first | replace rs3 := rs3.of_eq (hbn.block _ rs3.lt) | replace rs3 := rs3.below hbn)
            refine owp_allocBk (t := 30) _ (run_alloc_R _ _ rfl) ?_
            intro b wm h1 h2 ht hbm hzm
            exact hKx b wm ⟨Nat.le_trans hbn.size h1, ht⟩ (hbm.mono h1)
          rintro b_r13
          dsimp only [detS, ptrS]
          simp only [Act.put, List.setIfInBounds_toArray, List.set_cons_zero, List.set_cons_succ]
          refine wpRL_nil ?_
          intro wn hbn hE
          have hsz := B.size
          have hzn := hbn.size
          replace B := B.trans (hbn.mono B.size)
          (try first | replace q1 := q1.of_eq (hbn.block _ q1.lt) | replace q1 := q1.below hbn)
          (try first | replace r8 := r8.of_eq (hbn.block _ r8.lt) | replace r8 := r8.below hbn)
          (try first | replace r9 := r9.of_eq (hbn.block _ r9.lt) | replace r9 := r9.below hbn)
          (try first | replace d10 := d10.of_eq (hbn.block _ d10.lt) | replace d10 := d10.below hbn)
          (try first | replace s11 := s11.of_eq (hbn.block _ s11.lt) | replace s11 := s11.below hbn)
          (try first | replace r13 := r13.of_eq (hbn.block _ r13.lt) | replace r13 := r13.below hbn)
          (try first | replace rs1 := rs1.of_eq (hbn.block _ rs1.lt) | replace rs1 := rs1.below hbn)
          (try first | replace rs2 := rs2.of_eq (hbn.block _ rs2.lt) | replace rs2 := rs2.below hbn)
          (try first | replace rs3 := rs3.of_eq (hbn.block _ rs3.lt) | replace rs3 := rs3.below hbn)
          have rs3 := hE 4
          change RS _ _ _ at rs3
          obtain ⟨hge_r13, r13⟩ : _ ∧ AtB _ _ _ _ := hE 5
          clear hE
          try simp only [List.drop_succ_cons, List.drop_zero]
          (refine wpList_storeB (t := 30) rfl _ _ rfl _ rfl _ rfl r13 (by kernel_rfl) rfl (by simp [Value.oneCell']) ?_; have r13o := r13; clear r13; intro wn ht hcn hzn; (try replace rs1 := rs1.chg r13o (by simp [rcA, sidesA]) hcn); (try replace rs2 := rs2.chg r13o (by simp [rcA, sidesA]) hcn); (try replace rs3 := rs3.chg r13o (by simp [rcA, sidesA]) hcn); have hsz := B.size; replace hzn := Nat.le_of_eq hzn.symm; replace B := Chg.below B hcn (by omega) B.size; (try replace q1 := q1.of_eq (hcn.block _ q1.lt (by omega))); (try replace r8 := r8.of_eq (hcn.block _ r8.lt (by omega))); (try replace r9 := r9.of_eq (hcn.block _ r9.lt (by omega))); (try replace d10 := d10.of_eq (hcn.block _ d10.lt (by omega))); (try replace s11 := s11.of_eq (hcn.block _ s11.lt (by omega))); (try replace rs1 := rs1.of_eq (hcn.block _ rs1.lt (by omega))); (try replace rs2 := rs2.of_eq (hcn.block _ rs2.lt (by omega))); (try replace rs3 := rs3.of_eq (hcn.block _ rs3.lt (by omega))); have r13 := ht; clear ht; simp only [Act.put, List.setIfInBounds_toArray, List.set_cons_zero, List.set_cons_succ])
          refine NoPan.normal ?_
          go_upto_region 15 with fail
          refine wp_region_lit ?_
          try simp only [List.getElem_toArray, List.getElem_cons_zero, List.getElem_cons_succ]
          refine wpList_chunk 2 (by kernel_rfl) ?_
          simp only [List.take_succ_cons, List.take_zero, List.drop_succ_cons, List.drop_zero, Nat.reduceAdd]
          repeat (first | go_big_quiet_skip | (go_big_quiet_want; first | (refine quiet_loadAny (t := 30) rfl _ _ _ rfl (fun w hw => run_load_B (ov_B r8 w hw) Try.isAgg30 (by kernel_rfl)) (by rfl) ?_; simp only [Act.put, List.setIfInBounds_toArray, List.set_cons_zero, List.set_cons_succ]; go_big_quiet_on) | (refine quiet_loadAny (t := 30) rfl _ _ _ rfl (fun w hw => run_load_B (ov_B r9 w hw) Try.isAgg30 (by kernel_rfl)) (by rfl) ?_; simp only [Act.put, List.setIfInBounds_toArray, List.set_cons_zero, List.set_cons_succ]; go_big_quiet_on) | (refine quiet_loadAny (t := 64) rfl _ _ _ rfl (fun w hw => run_load_B (ov_B d10 w hw) Try.isAgg64 (by kernel_rfl)) (by rfl) ?_; simp only [Act.put, List.setIfInBounds_toArray, List.set_cons_zero, List.set_cons_succ]; go_big_quiet_on) | (refine quiet_loadAny (t := 28) rfl _ _ _ rfl (fun w hw => run_load_sl (ov_B r9 w hw).cell0) (by rfl) ?_; simp only [Act.put, List.setIfInBounds_toArray, List.set_cons_zero, List.set_cons_succ]; go_big_quiet_on) | (refine quiet_loadAny (t := 28) rfl _ _ _ rfl (fun w hw => run_load_sl (ov_B r13 w hw).cell0) (by rfl) ?_; simp only [Act.put, List.setIfInBounds_toArray, List.set_cons_zero, List.set_cons_succ]; go_big_quiet_on) | (refine quiet_loadAny (t := 3) rfl _ _ _ rfl (fun w hw => run_load_int ((ov_B d10 w hw).cellL 0 rfl)) (by rfl) ?_; simp only [Act.put, List.setIfInBounds_toArray, List.set_cons_zero, List.set_cons_succ]; go_big_quiet_on) | (refine quiet_loadAny (t := 3) rfl _ _ _ rfl (fun w hw => run_load_int ((ov_B d10 w hw).cellL 1 rfl)) (by rfl) ?_; simp only [Act.put, List.setIfInBounds_toArray, List.set_cons_zero, List.set_cons_succ]; go_big_quiet_on) | (refine quiet_loadAny (t := 3) rfl _ _ _ rfl (fun w hw => run_load_int ((ov_B d10 w hw).cellL 2 rfl)) (by rfl) ?_; simp only [Act.put, List.setIfInBounds_toArray, List.set_cons_zero, List.set_cons_succ]; go_big_quiet_on) | (refine quiet_loadAny (t := 3) rfl _ _ _ rfl (fun w hw => run_load_int ((ov_B d10 w hw).cellL 3 rfl)) (by rfl) ?_; simp only [Act.put, List.setIfInBounds_toArray, List.set_cons_zero, List.set_cons_succ]; go_big_quiet_on) | (go_big_quiet_op; go_big_quiet_on)))
          refine wpQuiet_nil ?_
          refine wpList_lenS (by first | rfl | simp [Region.wanted, yielded]) rfl Try.underlying28 rfl ?_
          simp only [Act.put, List.setIfInBounds_toArray, List.set_cons_zero, List.set_cons_succ]
          refine wpList_chunk 1 (by kernel_rfl) ?_
          simp only [List.take_succ_cons, List.take_zero, List.drop_succ_cons, List.drop_zero, Nat.reduceAdd]
          repeat (first | go_big_quiet_skip | (go_big_quiet_want; first | (refine quiet_loadAny (t := 30) rfl _ _ _ rfl (fun w hw => run_load_B (ov_B r8 w hw) Try.isAgg30 (by kernel_rfl)) (by rfl) ?_; simp only [Act.put, List.setIfInBounds_toArray, List.set_cons_zero, List.set_cons_succ]; go_big_quiet_on) | (refine quiet_loadAny (t := 30) rfl _ _ _ rfl (fun w hw => run_load_B (ov_B r9 w hw) Try.isAgg30 (by kernel_rfl)) (by rfl) ?_; simp only [Act.put, List.setIfInBounds_toArray, List.set_cons_zero, List.set_cons_succ]; go_big_quiet_on) | (refine quiet_loadAny (t := 64) rfl _ _ _ rfl (fun w hw => run_load_B (ov_B d10 w hw) Try.isAgg64 (by kernel_rfl)) (by rfl) ?_; simp only [Act.put, List.setIfInBounds_toArray, List.set_cons_zero, List.set_cons_succ]; go_big_quiet_on) | (refine quiet_loadAny (t := 28) rfl _ _ _ rfl (fun w hw => run_load_sl (ov_B r9 w hw).cell0) (by rfl) ?_; simp only [Act.put, List.setIfInBounds_toArray, List.set_cons_zero, List.set_cons_succ]; go_big_quiet_on) | (refine quiet_loadAny (t := 28) rfl _ _ _ rfl (fun w hw => run_load_sl (ov_B r13 w hw).cell0) (by rfl) ?_; simp only [Act.put, List.setIfInBounds_toArray, List.set_cons_zero, List.set_cons_succ]; go_big_quiet_on) | (refine quiet_loadAny (t := 3) rfl _ _ _ rfl (fun w hw => run_load_int ((ov_B d10 w hw).cellL 0 rfl)) (by rfl) ?_; simp only [Act.put, List.setIfInBounds_toArray, List.set_cons_zero, List.set_cons_succ]; go_big_quiet_on) | (refine quiet_loadAny (t := 3) rfl _ _ _ rfl (fun w hw => run_load_int ((ov_B d10 w hw).cellL 1 rfl)) (by rfl) ?_; simp only [Act.put, List.setIfInBounds_toArray, List.set_cons_zero, List.set_cons_succ]; go_big_quiet_on) | (refine quiet_loadAny (t := 3) rfl _ _ _ rfl (fun w hw => run_load_int ((ov_B d10 w hw).cellL 2 rfl)) (by rfl) ?_; simp only [Act.put, List.setIfInBounds_toArray, List.set_cons_zero, List.set_cons_succ]; go_big_quiet_on) | (refine quiet_loadAny (t := 3) rfl _ _ _ rfl (fun w hw => run_load_int ((ov_B d10 w hw).cellL 3 rfl)) (by rfl) ?_; simp only [Act.put, List.setIfInBounds_toArray, List.set_cons_zero, List.set_cons_succ]; go_big_quiet_on) | (go_big_quiet_op; go_big_quiet_on)))
          refine wpQuiet_nil ?_
          refine wpList_nil ?_
          go_wp2
          go_roundw
          case rel => exact ⟨k + 1, by omega, by go_num, B, r8, r9, d10, s11, rs1, rs2⟩
          case measure => simp [intOf]; omega
        · obtain rfl : k = 4 := by omega
          have hq1 := eqls_rc
          have hq2 := eqls_rcA
          have dk : decide (((4 : Nat) : Int) < 4) = false := rfl
          have d0 : decide ((0 : Int) < (ml : Int)) = true := decide_eq_true (by omega)
          go_upto_region 17 with fail
          try simp only [List.getElem_toArray, List.getElem_cons_zero, List.getElem_cons_succ]
          try have lx_q1 := q1.lt
          try have lx_r8 := r8.lt
          try have lx_r9 := r9.lt
          try have lx_d10 := d10.lt
          try have lx_s11 := s11.lt
          try have lx_r13 := r13.lt
          try have lx_rs1 := rs1.lt
          try have lx_rs2 := rs2.lt
          try have lx_rs3 := rs3.lt
          refine wp_region_RL 26 [(3, detS ?v3_3), (5, detS ?v3_5), (11, detS ?v3_11), (17, detS ?v3_17)] (by kernel_rfl) (by kernel_rfl) (by kernel_rfl) ?_
          rotate_left 4
          simp only [List.take_succ_cons, List.take_zero, List.drop_succ_cons, List.drop_zero, Nat.reduceAdd]
          refine wpRL_chunk 3 (by kernel_rfl) ?_
          simp only [List.take_succ_cons, List.take_zero, List.drop_succ_cons, List.drop_zero, Nat.reduceAdd]
          repeat (first | go_big_quiet_skip | (go_big_quiet_want; first | (refine quiet_loadAny (t := 30) rfl _ _ _ rfl (fun w hw => run_load_B (ov_B r8 w hw) Try.isAgg30 (by kernel_rfl)) (by rfl) ?_; simp only [Act.put, List.setIfInBounds_toArray, List.set_cons_zero, List.set_cons_succ]; go_big_quiet_on) | (refine quiet_loadAny (t := 30) rfl _ _ _ rfl (fun w hw => run_load_B (ov_B r9 w hw) Try.isAgg30 (by kernel_rfl)) (by rfl) ?_; simp only [Act.put, List.setIfInBounds_toArray, List.set_cons_zero, List.set_cons_succ]; go_big_quiet_on) | (refine quiet_loadAny (t := 64) rfl _ _ _ rfl (fun w hw => run_load_B (ov_B d10 w hw) Try.isAgg64 (by kernel_rfl)) (by rfl) ?_; simp only [Act.put, List.setIfInBounds_toArray, List.set_cons_zero, List.set_cons_succ]; go_big_quiet_on) | (refine quiet_loadAny (t := 28) rfl _ _ _ rfl (fun w hw => run_load_sl (ov_B r9 w hw).cell0) (by rfl) ?_; simp only [Act.put, List.setIfInBounds_toArray, List.set_cons_zero, List.set_cons_succ]; go_big_quiet_on) | (refine quiet_loadAny (t := 28) rfl _ _ _ rfl (fun w hw => run_load_sl (ov_B r13 w hw).cell0) (by rfl) ?_; simp only [Act.put, List.setIfInBounds_toArray, List.set_cons_zero, List.set_cons_succ]; go_big_quiet_on) | (refine quiet_loadAny (t := 3) rfl _ _ _ rfl (fun w hw => run_load_int ((ov_B d10 w hw).cellL 0 rfl)) (by rfl) ?_; simp only [Act.put, List.setIfInBounds_toArray, List.set_cons_zero, List.set_cons_succ]; go_big_quiet_on) | (refine quiet_loadAny (t := 3) rfl _ _ _ rfl (fun w hw => run_load_int ((ov_B d10 w hw).cellL 1 rfl)) (by rfl) ?_; simp only [Act.put, List.setIfInBounds_toArray, List.set_cons_zero, List.set_cons_succ]; go_big_quiet_on) | (refine quiet_loadAny (t := 3) rfl _ _ _ rfl (fun w hw => run_load_int ((ov_B d10 w hw).cellL 2 rfl)) (by rfl) ?_; simp only [Act.put, List.setIfInBounds_toArray, List.set_cons_zero, List.set_cons_succ]; go_big_quiet_on) | (refine quiet_loadAny (t := 3) rfl _ _ _ rfl (fun w hw => run_load_int ((ov_B d10 w hw).cellL 3 rfl)) (by rfl) ?_; simp only [Act.put, List.setIfInBounds_toArray, List.set_cons_zero, List.set_cons_succ]; go_big_quiet_on) | (go_big_quiet_op; go_big_quiet_on)))
          refine wpQuiet_nil ?_
          refine wpRL_callB (by rfl) (by first | rfl | simp [Region.wanted, yielded]) ?_ ?_
          · intro wn hbn hE Kx hKx
            have hsz := B.size
            have hzn := hbn.size
            replace B := B.trans (hbn.mono B.size)
            (try first | replace q1 := q1.of_eq (hbn.block _ q1.lt) | replace q1 := q1.below hbn)
            (try first | replace r8 := r8.of_eq (hbn.block _ r8.lt) | replace r8 := r8.below hbn)
            (try first | replace r9 := r9.of_eq (hbn.block _ r9.lt) | replace r9 := r9.below hbn)
            (try first | replace d10 := d10.of_eq (hbn.block _ d10.lt) | replace d10 := d10.below hbn)
            (try first | replace s11 := s11.of_eq (hbn.block _ s11.lt) | replace s11 := s11.below hbn)
            (try first | replace r13 := r13.of_eq (hbn.block _ r13.lt) | replace r13 := r13.below hbn)
            (try first | replace rs1 := rs1.of_eq (hbn.block _ rs1.lt) | replace rs1 := rs1.below hbn)
            (try first | replace rs2 := rs2.of_eq (hbn.block _ rs2.lt) | replace rs2 := rs2.below hbn)
            (try first | replace rs3 := rs3.of_eq (hbn.block _ rs3.lt) | replace rs3 := rs3.below hbn)
            refine wp_callF rfl (enters_of Try.func38 (by kernel_rfl) rfl) (by simp only [List.map_toArray, List.map_cons, List.map_nil, Act.eval, Array.getD_eq_getD_getElem?, List.getElem?_toArray, List.getElem?_cons_succ, List.getElem?_cons_zero, Option.getD_some]; rfl) ?_
            refine (P_BoundsR _ (ofL q L T) wn rs1 (ofL_tok q L T) HN.out).mono ?_
            rintro e wm ⟨rfl, hbm⟩
            refine ⟨_, rfl, ?_⟩
            have hz := hKx () wm trivial hbm
            dsimp only [detS] at hz
            exact hz
          rintro ⟨⟩
          dsimp only [detS]
          simp only [Act.put, List.setIfInBounds_toArray, List.set_cons_zero, List.set_cons_succ]
          refine wpRL_chunk 1 (by kernel_rfl) ?_
          simp only [List.take_succ_cons, List.take_zero, List.drop_succ_cons, List.drop_zero, Nat.reduceAdd]
          repeat (first | go_big_quiet_skip | (go_big_quiet_want; first | (refine quiet_loadAny (t := 30) rfl _ _ _ rfl (fun w hw => run_load_B (ov_B r8 w hw) Try.isAgg30 (by kernel_rfl)) (by rfl) ?_; simp only [Act.put, List.setIfInBounds_toArray, List.set_cons_zero, List.set_cons_succ]; go_big_quiet_on) | (refine quiet_loadAny (t := 30) rfl _ _ _ rfl (fun w hw => run_load_B (ov_B r9 w hw) Try.isAgg30 (by kernel_rfl)) (by rfl) ?_; simp only [Act.put, List.setIfInBounds_toArray, List.set_cons_zero, List.set_cons_succ]; go_big_quiet_on) | (refine quiet_loadAny (t := 64) rfl _ _ _ rfl (fun w hw => run_load_B (ov_B d10 w hw) Try.isAgg64 (by kernel_rfl)) (by rfl) ?_; simp only [Act.put, List.setIfInBounds_toArray, List.set_cons_zero, List.set_cons_succ]; go_big_quiet_on) | (refine quiet_loadAny (t := 28) rfl _ _ _ rfl (fun w hw => run_load_sl (ov_B r9 w hw).cell0) (by rfl) ?_; simp only [Act.put, List.setIfInBounds_toArray, List.set_cons_zero, List.set_cons_succ]; go_big_quiet_on) | (refine quiet_loadAny (t := 28) rfl _ _ _ rfl (fun w hw => run_load_sl (ov_B r13 w hw).cell0) (by rfl) ?_; simp only [Act.put, List.setIfInBounds_toArray, List.set_cons_zero, List.set_cons_succ]; go_big_quiet_on) | (refine quiet_loadAny (t := 3) rfl _ _ _ rfl (fun w hw => run_load_int ((ov_B d10 w hw).cellL 0 rfl)) (by rfl) ?_; simp only [Act.put, List.setIfInBounds_toArray, List.set_cons_zero, List.set_cons_succ]; go_big_quiet_on) | (refine quiet_loadAny (t := 3) rfl _ _ _ rfl (fun w hw => run_load_int ((ov_B d10 w hw).cellL 1 rfl)) (by rfl) ?_; simp only [Act.put, List.setIfInBounds_toArray, List.set_cons_zero, List.set_cons_succ]; go_big_quiet_on) | (refine quiet_loadAny (t := 3) rfl _ _ _ rfl (fun w hw => run_load_int ((ov_B d10 w hw).cellL 2 rfl)) (by rfl) ?_; simp only [Act.put, List.setIfInBounds_toArray, List.set_cons_zero, List.set_cons_succ]; go_big_quiet_on) | (refine quiet_loadAny (t := 3) rfl _ _ _ rfl (fun w hw => run_load_int ((ov_B d10 w hw).cellL 3 rfl)) (by rfl) ?_; simp only [Act.put, List.setIfInBounds_toArray, List.set_cons_zero, List.set_cons_succ]; go_big_quiet_on) | (go_big_quiet_op; go_big_quiet_on)))
          refine wpQuiet_nil ?_
          refine wpRL_callB (by rfl) (by first | rfl | simp [Region.wanted, yielded]) ?_ ?_
          · intro wn hbn hE Kx hKx
            have hsz := B.size
            have hzn := hbn.size
            replace B := B.trans (hbn.mono B.size)
            (try first | replace q1 := q1.of_eq (hbn.block _ q1.lt) | replace q1 := q1.below hbn)
            (try first | replace r8 := r8.of_eq (hbn.block _ r8.lt) | replace r8 := r8.below hbn)
            (try first | replace r9 := r9.of_eq (hbn.block _ r9.lt) | replace r9 := r9.below hbn)
            (try first | replace d10 := d10.of_eq (hbn.block _ d10.lt) | replace d10 := d10.below hbn)
            (try first | replace s11 := s11.of_eq (hbn.block _ s11.lt) | replace s11 := s11.below hbn)
            (try first | replace r13 := r13.of_eq (hbn.block _ r13.lt) | replace r13 := r13.below hbn)
            (try first | replace rs1 := rs1.of_eq (hbn.block _ rs1.lt) | replace rs1 := rs1.below hbn)
            (try first | replace rs2 := rs2.of_eq (hbn.block _ rs2.lt) | replace rs2 := rs2.below hbn)
            (try first | replace rs3 := rs3.of_eq (hbn.block _ rs3.lt) | replace rs3 := rs3.below hbn)
            refine wp_callF rfl (enters_of Try.func41 (by kernel_rfl) rfl) (by simp only [List.map_toArray, List.map_cons, List.map_nil, Act.eval, Array.getD_eq_getD_getElem?, List.getElem?_toArray, List.getElem?_cons_succ, List.getElem?_cons_zero, Option.getD_some]; rfl) ?_
            refine (R_BoundsR _ (ofL q L T) wn rs1 (ofL_tok q L T) HN.out).mono ?_
            rintro e wm ⟨rfl, hbm⟩
            refine ⟨_, rfl, ?_⟩
            have hz := hKx () wm trivial hbm
            dsimp only [detS] at hz
            exact hz
          rintro ⟨⟩
          dsimp only [detS]
          simp only [Act.put, List.setIfInBounds_toArray, List.set_cons_zero, List.set_cons_succ]
          refine wpRL_chunk 5 (by kernel_rfl) ?_
          simp only [List.take_succ_cons, List.take_zero, List.drop_succ_cons, List.drop_zero, Nat.reduceAdd]
          repeat (first | go_big_quiet_skip | (go_big_quiet_want; first | (refine quiet_loadAny (t := 30) rfl _ _ _ rfl (fun w hw => run_load_B (ov_B r8 w hw) Try.isAgg30 (by kernel_rfl)) (by rfl) ?_; simp only [Act.put, List.setIfInBounds_toArray, List.set_cons_zero, List.set_cons_succ]; go_big_quiet_on) | (refine quiet_loadAny (t := 30) rfl _ _ _ rfl (fun w hw => run_load_B (ov_B r9 w hw) Try.isAgg30 (by kernel_rfl)) (by rfl) ?_; simp only [Act.put, List.setIfInBounds_toArray, List.set_cons_zero, List.set_cons_succ]; go_big_quiet_on) | (refine quiet_loadAny (t := 64) rfl _ _ _ rfl (fun w hw => run_load_B (ov_B d10 w hw) Try.isAgg64 (by kernel_rfl)) (by rfl) ?_; simp only [Act.put, List.setIfInBounds_toArray, List.set_cons_zero, List.set_cons_succ]; go_big_quiet_on) | (refine quiet_loadAny (t := 28) rfl _ _ _ rfl (fun w hw => run_load_sl (ov_B r9 w hw).cell0) (by rfl) ?_; simp only [Act.put, List.setIfInBounds_toArray, List.set_cons_zero, List.set_cons_succ]; go_big_quiet_on) | (refine quiet_loadAny (t := 28) rfl _ _ _ rfl (fun w hw => run_load_sl (ov_B r13 w hw).cell0) (by rfl) ?_; simp only [Act.put, List.setIfInBounds_toArray, List.set_cons_zero, List.set_cons_succ]; go_big_quiet_on) | (refine quiet_loadAny (t := 3) rfl _ _ _ rfl (fun w hw => run_load_int ((ov_B d10 w hw).cellL 0 rfl)) (by rfl) ?_; simp only [Act.put, List.setIfInBounds_toArray, List.set_cons_zero, List.set_cons_succ]; go_big_quiet_on) | (refine quiet_loadAny (t := 3) rfl _ _ _ rfl (fun w hw => run_load_int ((ov_B d10 w hw).cellL 1 rfl)) (by rfl) ?_; simp only [Act.put, List.setIfInBounds_toArray, List.set_cons_zero, List.set_cons_succ]; go_big_quiet_on) | (refine quiet_loadAny (t := 3) rfl _ _ _ rfl (fun w hw => run_load_int ((ov_B d10 w hw).cellL 2 rfl)) (by rfl) ?_; simp only [Act.put, List.setIfInBounds_toArray, List.set_cons_zero, List.set_cons_succ]; go_big_quiet_on) | (refine quiet_loadAny (t := 3) rfl _ _ _ rfl (fun w hw => run_load_int ((ov_B d10 w hw).cellL 3 rfl)) (by rfl) ?_; simp only [Act.put, List.setIfInBounds_toArray, List.set_cons_zero, List.set_cons_succ]; go_big_quiet_on) | (go_big_quiet_op; go_big_quiet_on)))
          refine wpQuiet_nil ?_
          refine wpRL_callB (by rfl) (by first | rfl | simp [Region.wanted, yielded]) ?_ ?_
          · intro wn hbn hE Kx hKx
            have hsz := B.size
            have hzn := hbn.size
            replace B := B.trans (hbn.mono B.size)
            (try first | replace q1 := q1.of_eq (hbn.block _ q1.lt) | replace q1 := q1.below hbn)
            (try first | replace r8 := r8.of_eq (hbn.block _ r8.lt) | replace r8 := r8.below hbn)
            (try first | replace r9 := r9.of_eq (hbn.block _ r9.lt) | replace r9 := r9.below hbn)
            (try first | replace d10 := d10.of_eq (hbn.block _ d10.lt) | replace d10 := d10.below hbn)
            (try first | replace s11 := s11.of_eq (hbn.block _ s11.lt) | replace s11 := s11.below hbn)
            (try first | replace r13 := r13.of_eq (hbn.block _ r13.lt) | replace r13 := r13.below hbn)
            (try first | replace rs1 := rs1.of_eq (hbn.block _ rs1.lt) | replace rs1 := rs1.below hbn)
            (try first | replace rs2 := rs2.of_eq (hbn.block _ rs2.lt) | replace rs2 := rs2.below hbn)
            (try first | replace rs3 := rs3.of_eq (hbn.block _ rs3.lt) | replace rs3 := rs3.below hbn)
            refine wp_callF rfl (enters_of Try.func41 (by kernel_rfl) rfl) (by simp only [List.map_toArray, List.map_cons, List.map_nil, Act.eval, Array.getD_eq_getD_getElem?, List.getElem?_toArray, List.getElem?_cons_succ, List.getElem?_cons_zero, Option.getD_some]; rfl) ?_
            refine (R_BoundsA _ (madeL L) ⟨x0, y0, x1, y1⟩ wn rs2 (madeL_tok L) HM.out (madeL_valid L) HB.out).mono ?_
            rintro e wm ⟨rfl, hbm⟩
            refine ⟨_, rfl, ?_⟩
            have hz := hKx () wm trivial hbm
            dsimp only [detS] at hz
            exact hz
          rintro ⟨⟩
          dsimp only [detS]
          simp only [Act.put, List.setIfInBounds_toArray, List.set_cons_zero, List.set_cons_succ]
          refine wpRL_chunk 5 (by kernel_rfl) ?_
          simp only [List.take_succ_cons, List.take_zero, List.drop_succ_cons, List.drop_zero, Nat.reduceAdd]
          repeat (first | go_big_quiet_skip | (go_big_quiet_want; first | (refine quiet_loadAny (t := 30) rfl _ _ _ rfl (fun w hw => run_load_B (ov_B r8 w hw) Try.isAgg30 (by kernel_rfl)) (by rfl) ?_; simp only [Act.put, List.setIfInBounds_toArray, List.set_cons_zero, List.set_cons_succ]; go_big_quiet_on) | (refine quiet_loadAny (t := 30) rfl _ _ _ rfl (fun w hw => run_load_B (ov_B r9 w hw) Try.isAgg30 (by kernel_rfl)) (by rfl) ?_; simp only [Act.put, List.setIfInBounds_toArray, List.set_cons_zero, List.set_cons_succ]; go_big_quiet_on) | (refine quiet_loadAny (t := 64) rfl _ _ _ rfl (fun w hw => run_load_B (ov_B d10 w hw) Try.isAgg64 (by kernel_rfl)) (by rfl) ?_; simp only [Act.put, List.setIfInBounds_toArray, List.set_cons_zero, List.set_cons_succ]; go_big_quiet_on) | (refine quiet_loadAny (t := 28) rfl _ _ _ rfl (fun w hw => run_load_sl (ov_B r9 w hw).cell0) (by rfl) ?_; simp only [Act.put, List.setIfInBounds_toArray, List.set_cons_zero, List.set_cons_succ]; go_big_quiet_on) | (refine quiet_loadAny (t := 28) rfl _ _ _ rfl (fun w hw => run_load_sl (ov_B r13 w hw).cell0) (by rfl) ?_; simp only [Act.put, List.setIfInBounds_toArray, List.set_cons_zero, List.set_cons_succ]; go_big_quiet_on) | (refine quiet_loadAny (t := 3) rfl _ _ _ rfl (fun w hw => run_load_int ((ov_B d10 w hw).cellL 0 rfl)) (by rfl) ?_; simp only [Act.put, List.setIfInBounds_toArray, List.set_cons_zero, List.set_cons_succ]; go_big_quiet_on) | (refine quiet_loadAny (t := 3) rfl _ _ _ rfl (fun w hw => run_load_int ((ov_B d10 w hw).cellL 1 rfl)) (by rfl) ?_; simp only [Act.put, List.setIfInBounds_toArray, List.set_cons_zero, List.set_cons_succ]; go_big_quiet_on) | (refine quiet_loadAny (t := 3) rfl _ _ _ rfl (fun w hw => run_load_int ((ov_B d10 w hw).cellL 2 rfl)) (by rfl) ?_; simp only [Act.put, List.setIfInBounds_toArray, List.set_cons_zero, List.set_cons_succ]; go_big_quiet_on) | (refine quiet_loadAny (t := 3) rfl _ _ _ rfl (fun w hw => run_load_int ((ov_B d10 w hw).cellL 3 rfl)) (by rfl) ?_; simp only [Act.put, List.setIfInBounds_toArray, List.set_cons_zero, List.set_cons_succ]; go_big_quiet_on) | (go_big_quiet_op; go_big_quiet_on)))
          refine wpQuiet_nil ?_
          refine wpRL_callB (by rfl) (by first | rfl | simp [Region.wanted, yielded]) ?_ ?_
          · intro wn hbn hE Kx hKx
            have hsz := B.size
            have hzn := hbn.size
            replace B := B.trans (hbn.mono B.size)
            (try first | replace q1 := q1.of_eq (hbn.block _ q1.lt) | replace q1 := q1.below hbn)
            (try first | replace r8 := r8.of_eq (hbn.block _ r8.lt) | replace r8 := r8.below hbn)
            (try first | replace r9 := r9.of_eq (hbn.block _ r9.lt) | replace r9 := r9.below hbn)
            (try first | replace d10 := d10.of_eq (hbn.block _ d10.lt) | replace d10 := d10.below hbn)
            (try first | replace s11 := s11.of_eq (hbn.block _ s11.lt) | replace s11 := s11.below hbn)
            (try first | replace r13 := r13.of_eq (hbn.block _ r13.lt) | replace r13 := r13.below hbn)
            (try first | replace rs1 := rs1.of_eq (hbn.block _ rs1.lt) | replace rs1 := rs1.below hbn)
            (try first | replace rs2 := rs2.of_eq (hbn.block _ rs2.lt) | replace rs2 := rs2.below hbn)
            (try first | replace rs3 := rs3.of_eq (hbn.block _ rs3.lt) | replace rs3 := rs3.below hbn)
            refine wp_lenS rfl Try.underlying28 rfl ?_
            exact hKx () _ trivial (Below.refl _ _)
          rintro ⟨⟩
          dsimp only [detS]
          simp only [Act.put, List.setIfInBounds_toArray, List.set_cons_zero, List.set_cons_succ]
          refine wpRL_chunk 8 (by kernel_rfl) ?_
          simp only [List.take_succ_cons, List.take_zero, List.drop_succ_cons, List.drop_zero, Nat.reduceAdd]
          repeat (first | go_big_quiet_skip | (go_big_quiet_want; first | (refine quiet_loadAny (t := 30) rfl _ _ _ rfl (fun w hw => run_load_B (ov_B r8 w hw) Try.isAgg30 (by kernel_rfl)) (by rfl) ?_; simp only [Act.put, List.setIfInBounds_toArray, List.set_cons_zero, List.set_cons_succ]; go_big_quiet_on) | (refine quiet_loadAny (t := 30) rfl _ _ _ rfl (fun w hw => run_load_B (ov_B r9 w hw) Try.isAgg30 (by kernel_rfl)) (by rfl) ?_; simp only [Act.put, List.setIfInBounds_toArray, List.set_cons_zero, List.set_cons_succ]; go_big_quiet_on) | (refine quiet_loadAny (t := 64) rfl _ _ _ rfl (fun w hw => run_load_B (ov_B d10 w hw) Try.isAgg64 (by kernel_rfl)) (by rfl) ?_; simp only [Act.put, List.setIfInBounds_toArray, List.set_cons_zero, List.set_cons_succ]; go_big_quiet_on) | (refine quiet_loadAny (t := 28) rfl _ _ _ rfl (fun w hw => run_load_sl (ov_B r9 w hw).cell0) (by rfl) ?_; simp only [Act.put, List.setIfInBounds_toArray, List.set_cons_zero, List.set_cons_succ]; go_big_quiet_on) | (refine quiet_loadAny (t := 28) rfl _ _ _ rfl (fun w hw => run_load_sl (ov_B r13 w hw).cell0) (by rfl) ?_; simp only [Act.put, List.setIfInBounds_toArray, List.set_cons_zero, List.set_cons_succ]; go_big_quiet_on) | (refine quiet_loadAny (t := 3) rfl _ _ _ rfl (fun w hw => run_load_int ((ov_B d10 w hw).cellL 0 rfl)) (by rfl) ?_; simp only [Act.put, List.setIfInBounds_toArray, List.set_cons_zero, List.set_cons_succ]; go_big_quiet_on) | (refine quiet_loadAny (t := 3) rfl _ _ _ rfl (fun w hw => run_load_int ((ov_B d10 w hw).cellL 1 rfl)) (by rfl) ?_; simp only [Act.put, List.setIfInBounds_toArray, List.set_cons_zero, List.set_cons_succ]; go_big_quiet_on) | (refine quiet_loadAny (t := 3) rfl _ _ _ rfl (fun w hw => run_load_int ((ov_B d10 w hw).cellL 2 rfl)) (by rfl) ?_; simp only [Act.put, List.setIfInBounds_toArray, List.set_cons_zero, List.set_cons_succ]; go_big_quiet_on) | (refine quiet_loadAny (t := 3) rfl _ _ _ rfl (fun w hw => run_load_int ((ov_B d10 w hw).cellL 3 rfl)) (by rfl) ?_; simp only [Act.put, List.setIfInBounds_toArray, List.set_cons_zero, List.set_cons_succ]; go_big_quiet_on) | (go_big_quiet_op; go_big_quiet_on)))
          refine wpQuiet_nil ?_
          refine wpRL_nil ?_
          intro wn hbn hE
          have hsz := B.size
          have hzn := hbn.size
          replace B := B.trans (hbn.mono B.size)
          (try first | replace q1 := q1.of_eq (hbn.block _ q1.lt) | replace q1 := q1.below hbn)
          (try first | replace r8 := r8.of_eq (hbn.block _ r8.lt) | replace r8 := r8.below hbn)
          (try first | replace r9 := r9.of_eq (hbn.block _ r9.lt) | replace r9 := r9.below hbn)
          (try first | replace d10 := d10.of_eq (hbn.block _ d10.lt) | replace d10 := d10.below hbn)
          (try first | replace s11 := s11.of_eq (hbn.block _ s11.lt) | replace s11 := s11.below hbn)
          (try first | replace r13 := r13.of_eq (hbn.block _ r13.lt) | replace r13 := r13.below hbn)
          (try first | replace rs1 := rs1.of_eq (hbn.block _ rs1.lt) | replace rs1 := rs1.below hbn)
          (try first | replace rs2 := rs2.of_eq (hbn.block _ rs2.lt) | replace rs2 := rs2.below hbn)
          (try first | replace rs3 := rs3.of_eq (hbn.block _ rs3.lt) | replace rs3 := rs3.below hbn)
          clear hE
          try simp only [List.drop_succ_cons, List.drop_zero]
          refine NoPan.normal ?_
          go_wp2
          go_ret
          exact ⟨rfl, B⟩
  · have dv : decide (0 < pa) = false := decide_eq_false hv
    refine wp_region_lit ?_
    try simp only [List.getElem_toArray, List.getElem_cons_zero, List.getElem_cons_succ]
    refine wpList_chunk 3 (by kernel_rfl) ?_
    simp only [List.take_succ_cons, List.take_zero, List.drop_succ_cons, List.drop_zero, Nat.reduceAdd]
    repeat (first | go_big_quiet_skip | (go_big_quiet_want; first | (refine quiet_loadAny (t := 30) rfl _ _ _ rfl (fun w hw => run_load_B (ov_B r8 w hw) Try.isAgg30 (by kernel_rfl)) (by rfl) ?_; simp only [Act.put, List.setIfInBounds_toArray, List.set_cons_zero, List.set_cons_succ]; go_big_quiet_on) | (refine quiet_loadAny (t := 30) rfl _ _ _ rfl (fun w hw => run_load_B (ov_B r9 w hw) Try.isAgg30 (by kernel_rfl)) (by rfl) ?_; simp only [Act.put, List.setIfInBounds_toArray, List.set_cons_zero, List.set_cons_succ]; go_big_quiet_on) | (refine quiet_loadAny (t := 64) rfl _ _ _ rfl (fun w hw => run_load_B (ov_B d10 w hw) Try.isAgg64 (by kernel_rfl)) (by rfl) ?_; simp only [Act.put, List.setIfInBounds_toArray, List.set_cons_zero, List.set_cons_succ]; go_big_quiet_on) | (refine quiet_loadAny (t := 28) rfl _ _ _ rfl (fun w hw => run_load_sl (ov_B r9 w hw).cell0) (by rfl) ?_; simp only [Act.put, List.setIfInBounds_toArray, List.set_cons_zero, List.set_cons_succ]; go_big_quiet_on) | (refine quiet_loadAny (t := 28) rfl _ _ _ rfl (fun w hw => run_load_sl (ov_B r13 w hw).cell0) (by rfl) ?_; simp only [Act.put, List.setIfInBounds_toArray, List.set_cons_zero, List.set_cons_succ]; go_big_quiet_on) | (refine quiet_loadAny (t := 3) rfl _ _ _ rfl (fun w hw => run_load_int ((ov_B d10 w hw).cellL 0 rfl)) (by rfl) ?_; simp only [Act.put, List.setIfInBounds_toArray, List.set_cons_zero, List.set_cons_succ]; go_big_quiet_on) | (refine quiet_loadAny (t := 3) rfl _ _ _ rfl (fun w hw => run_load_int ((ov_B d10 w hw).cellL 1 rfl)) (by rfl) ?_; simp only [Act.put, List.setIfInBounds_toArray, List.set_cons_zero, List.set_cons_succ]; go_big_quiet_on) | (refine quiet_loadAny (t := 3) rfl _ _ _ rfl (fun w hw => run_load_int ((ov_B d10 w hw).cellL 2 rfl)) (by rfl) ?_; simp only [Act.put, List.setIfInBounds_toArray, List.set_cons_zero, List.set_cons_succ]; go_big_quiet_on) | (refine quiet_loadAny (t := 3) rfl _ _ _ rfl (fun w hw => run_load_int ((ov_B d10 w hw).cellL 3 rfl)) (by rfl) ?_; simp only [Act.put, List.setIfInBounds_toArray, List.set_cons_zero, List.set_cons_succ]; go_big_quiet_on) | (go_big_quiet_op; go_big_quiet_on)))
    refine wpQuiet_nil ?_
    refine wpList_callF (by first | rfl | simp [Region.wanted, yielded]) rfl (enters_of Try.func20 (by kernel_rfl) rfl) (by simp only [List.map_toArray, List.map_cons, List.map_nil, Act.eval, Array.getD_eq_getD_getElem?, List.getElem?_toArray, List.getElem?_cons_succ, List.getElem?_cons_zero, Option.getD_some]; rfl) ?_
    refine (GETC.out _ _ rs2).mono ?_
    rintro e wn ⟨rfl, hbn⟩
    have hsz := B.size
    have hzn := hbn.size
    replace B := B.trans (hbn.mono B.size)
    (try first | replace q1 := q1.of_eq (hbn.block _ q1.lt) | replace q1 := q1.below hbn)
    (try first | replace r8 := r8.of_eq (hbn.block _ r8.lt) | replace r8 := r8.below hbn)
    (try first | replace r9 := r9.of_eq (hbn.block _ r9.lt) | replace r9 := r9.below hbn)
    (try first | replace d10 := d10.of_eq (hbn.block _ d10.lt) | replace d10 := d10.below hbn)
    (try first | replace s11 := s11.of_eq (hbn.block _ s11.lt) | replace s11 := s11.below hbn)
    (try first | replace r13 := r13.of_eq (hbn.block _ r13.lt) | replace r13 := r13.below hbn)
    (try first | replace rs1 := rs1.of_eq (hbn.block _ rs1.lt) | replace rs1 := rs1.below hbn)
    (try first | replace rs2 := rs2.of_eq (hbn.block _ rs2.lt) | replace rs2 := rs2.below hbn)
    (try first | replace rs3 := rs3.of_eq (hbn.block _ rs3.lt) | replace rs3 := rs3.below hbn)
    refine ⟨_, rfl, ?_⟩
    simp only [Act.put, List.setIfInBounds_toArray, List.set_cons_zero, List.set_cons_succ]
    refine wpList_chunk 7 (by kernel_rfl) ?_
    simp only [List.take_succ_cons, List.take_zero, List.drop_succ_cons, List.drop_zero, Nat.reduceAdd]
    repeat (first | go_big_quiet_skip | (go_big_quiet_want; first | (refine quiet_loadAny (t := 30) rfl _ _ _ rfl (fun w hw => run_load_B (ov_B r8 w hw) Try.isAgg30 (by kernel_rfl)) (by rfl) ?_; simp only [Act.put, List.setIfInBounds_toArray, List.set_cons_zero, List.set_cons_succ]; go_big_quiet_on) | (refine quiet_loadAny (t := 30) rfl _ _ _ rfl (fun w hw => run_load_B (ov_B r9 w hw) Try.isAgg30 (by kernel_rfl)) (by rfl) ?_; simp only [Act.put, List.setIfInBounds_toArray, List.set_cons_zero, List.set_cons_succ]; go_big_quiet_on) | (refine quiet_loadAny (t := 64) rfl _ _ _ rfl (fun w hw => run_load_B (ov_B d10 w hw) Try.isAgg64 (by kernel_rfl)) (by rfl) ?_; simp only [Act.put, List.setIfInBounds_toArray, List.set_cons_zero, List.set_cons_succ]; go_big_quiet_on) | (refine quiet_loadAny (t := 28) rfl _ _ _ rfl (fun w hw => run_load_sl (ov_B r9 w hw).cell0) (by rfl) ?_; simp only [Act.put, List.setIfInBounds_toArray, List.set_cons_zero, List.set_cons_succ]; go_big_quiet_on) | (refine quiet_loadAny (t := 28) rfl _ _ _ rfl (fun w hw => run_load_sl (ov_B r13 w hw).cell0) (by rfl) ?_; simp only [Act.put, List.setIfInBounds_toArray, List.set_cons_zero, List.set_cons_succ]; go_big_quiet_on) | (refine quiet_loadAny (t := 3) rfl _ _ _ rfl (fun w hw => run_load_int ((ov_B d10 w hw).cellL 0 rfl)) (by rfl) ?_; simp only [Act.put, List.setIfInBounds_toArray, List.set_cons_zero, List.set_cons_succ]; go_big_quiet_on) | (refine quiet_loadAny (t := 3) rfl _ _ _ rfl (fun w hw => run_load_int ((ov_B d10 w hw).cellL 1 rfl)) (by rfl) ?_; simp only [Act.put, List.setIfInBounds_toArray, List.set_cons_zero, List.set_cons_succ]; go_big_quiet_on) | (refine quiet_loadAny (t := 3) rfl _ _ _ rfl (fun w hw => run_load_int ((ov_B d10 w hw).cellL 2 rfl)) (by rfl) ?_; simp only [Act.put, List.setIfInBounds_toArray, List.set_cons_zero, List.set_cons_succ]; go_big_quiet_on) | (refine quiet_loadAny (t := 3) rfl _ _ _ rfl (fun w hw => run_load_int ((ov_B d10 w hw).cellL 3 rfl)) (by rfl) ?_; simp only [Act.put, List.setIfInBounds_toArray, List.set_cons_zero, List.set_cons_succ]; go_big_quiet_on) | (go_big_quiet_op; go_big_quiet_on)))
    refine wpQuiet_nil ?_
    refine wpList_skip (by first | rfl | simp [Region.wanted, yielded]) ?_
    simp only [Act.put, List.setIfInBounds_toArray, List.set_cons_zero, List.set_cons_succ]
    refine wpList_chunk 2 (by kernel_rfl) ?_
    simp only [List.take_succ_cons, List.take_zero, List.drop_succ_cons, List.drop_zero, Nat.reduceAdd]
    repeat (first | go_big_quiet_skip | (go_big_quiet_want; first | (refine quiet_loadAny (t := 30) rfl _ _ _ rfl (fun w hw => run_load_B (ov_B r8 w hw) Try.isAgg30 (by kernel_rfl)) (by rfl) ?_; simp only [Act.put, List.setIfInBounds_toArray, List.set_cons_zero, List.set_cons_succ]; go_big_quiet_on) | (refine quiet_loadAny (t := 30) rfl _ _ _ rfl (fun w hw => run_load_B (ov_B r9 w hw) Try.isAgg30 (by kernel_rfl)) (by rfl) ?_; simp only [Act.put, List.setIfInBounds_toArray, List.set_cons_zero, List.set_cons_succ]; go_big_quiet_on) | (refine quiet_loadAny (t := 64) rfl _ _ _ rfl (fun w hw => run_load_B (ov_B d10 w hw) Try.isAgg64 (by kernel_rfl)) (by rfl) ?_; simp only [Act.put, List.setIfInBounds_toArray, List.set_cons_zero, List.set_cons_succ]; go_big_quiet_on) | (refine quiet_loadAny (t := 28) rfl _ _ _ rfl (fun w hw => run_load_sl (ov_B r9 w hw).cell0) (by rfl) ?_; simp only [Act.put, List.setIfInBounds_toArray, List.set_cons_zero, List.set_cons_succ]; go_big_quiet_on) | (refine quiet_loadAny (t := 28) rfl _ _ _ rfl (fun w hw => run_load_sl (ov_B r13 w hw).cell0) (by rfl) ?_; simp only [Act.put, List.setIfInBounds_toArray, List.set_cons_zero, List.set_cons_succ]; go_big_quiet_on) | (refine quiet_loadAny (t := 3) rfl _ _ _ rfl (fun w hw => run_load_int ((ov_B d10 w hw).cellL 0 rfl)) (by rfl) ?_; simp only [Act.put, List.setIfInBounds_toArray, List.set_cons_zero, List.set_cons_succ]; go_big_quiet_on) | (refine quiet_loadAny (t := 3) rfl _ _ _ rfl (fun w hw => run_load_int ((ov_B d10 w hw).cellL 1 rfl)) (by rfl) ?_; simp only [Act.put, List.setIfInBounds_toArray, List.set_cons_zero, List.set_cons_succ]; go_big_quiet_on) | (refine quiet_loadAny (t := 3) rfl _ _ _ rfl (fun w hw => run_load_int ((ov_B d10 w hw).cellL 2 rfl)) (by rfl) ?_; simp only [Act.put, List.setIfInBounds_toArray, List.set_cons_zero, List.set_cons_succ]; go_big_quiet_on) | (refine quiet_loadAny (t := 3) rfl _ _ _ rfl (fun w hw => run_load_int ((ov_B d10 w hw).cellL 3 rfl)) (by rfl) ?_; simp only [Act.put, List.setIfInBounds_toArray, List.set_cons_zero, List.set_cons_succ]; go_big_quiet_on) | (go_big_quiet_op; go_big_quiet_on)))
    refine wpQuiet_nil ?_
    refine wpList_nil ?_
    go_upto_region 9 with fail
    by_cases h0 : ml = 0
    · have e0 := HEM.out h0
      injection e0 with e1 e2 e3 e4
      subst e1; subst e2; subst e3; subst e4; subst h0
      have hq1 := eqls_rc
      have hq2 := eqls_rcA
      have hq3 := eqz_rc
      refine wp_region_lit ?_
      try simp only [List.getElem_toArray, List.getElem_cons_zero, List.getElem_cons_succ]
      refine wpList_chunk 2 (by kernel_rfl) ?_
      simp only [List.take_succ_cons, List.take_zero, List.drop_succ_cons, List.drop_zero, Nat.reduceAdd]
      repeat (first | go_big_quiet_skip | (go_big_quiet_want; first | (refine quiet_loadAny (t := 30) rfl _ _ _ rfl (fun w hw => run_load_B (ov_B r8 w hw) Try.isAgg30 (by kernel_rfl)) (by rfl) ?_; simp only [Act.put, List.setIfInBounds_toArray, List.set_cons_zero, List.set_cons_succ]; go_big_quiet_on) | (refine quiet_loadAny (t := 30) rfl _ _ _ rfl (fun w hw => run_load_B (ov_B r9 w hw) Try.isAgg30 (by kernel_rfl)) (by rfl) ?_; simp only [Act.put, List.setIfInBounds_toArray, List.set_cons_zero, List.set_cons_succ]; go_big_quiet_on) | (refine quiet_loadAny (t := 64) rfl _ _ _ rfl (fun w hw => run_load_B (ov_B d10 w hw) Try.isAgg64 (by kernel_rfl)) (by rfl) ?_; simp only [Act.put, List.setIfInBounds_toArray, List.set_cons_zero, List.set_cons_succ]; go_big_quiet_on) | (refine quiet_loadAny (t := 28) rfl _ _ _ rfl (fun w hw => run_load_sl (ov_B r9 w hw).cell0) (by rfl) ?_; simp only [Act.put, List.setIfInBounds_toArray, List.set_cons_zero, List.set_cons_succ]; go_big_quiet_on) | (refine quiet_loadAny (t := 28) rfl _ _ _ rfl (fun w hw => run_load_sl (ov_B r13 w hw).cell0) (by rfl) ?_; simp only [Act.put, List.setIfInBounds_toArray, List.set_cons_zero, List.set_cons_succ]; go_big_quiet_on) | (refine quiet_loadAny (t := 3) rfl _ _ _ rfl (fun w hw => run_load_int ((ov_B d10 w hw).cellL 0 rfl)) (by rfl) ?_; simp only [Act.put, List.setIfInBounds_toArray, List.set_cons_zero, List.set_cons_succ]; go_big_quiet_on) | (refine quiet_loadAny (t := 3) rfl _ _ _ rfl (fun w hw => run_load_int ((ov_B d10 w hw).cellL 1 rfl)) (by rfl) ?_; simp only [Act.put, List.setIfInBounds_toArray, List.set_cons_zero, List.set_cons_succ]; go_big_quiet_on) | (refine quiet_loadAny (t := 3) rfl _ _ _ rfl (fun w hw => run_load_int ((ov_B d10 w hw).cellL 2 rfl)) (by rfl) ?_; simp only [Act.put, List.setIfInBounds_toArray, List.set_cons_zero, List.set_cons_succ]; go_big_quiet_on) | (refine quiet_loadAny (t := 3) rfl _ _ _ rfl (fun w hw => run_load_int ((ov_B d10 w hw).cellL 3 rfl)) (by rfl) ?_; simp only [Act.put, List.setIfInBounds_toArray, List.set_cons_zero, List.set_cons_succ]; go_big_quiet_on) | (go_big_quiet_op; go_big_quiet_on)))
      refine wpQuiet_nil ?_
      refine wpList_lenS (by first | rfl | simp [Region.wanted, yielded]) rfl Try.underlying28 rfl ?_
      simp only [Act.put, List.setIfInBounds_toArray, List.set_cons_zero, List.set_cons_succ]
      refine wpList_chunk 1 (by kernel_rfl) ?_
      simp only [List.take_succ_cons, List.take_zero, List.drop_succ_cons, List.drop_zero, Nat.reduceAdd]
      repeat (first | go_big_quiet_skip | (go_big_quiet_want; first | (refine quiet_loadAny (t := 30) rfl _ _ _ rfl (fun w hw => run_load_B (ov_B r8 w hw) Try.isAgg30 (by kernel_rfl)) (by rfl) ?_; simp only [Act.put, List.setIfInBounds_toArray, List.set_cons_zero, List.set_cons_succ]; go_big_quiet_on) | (refine quiet_loadAny (t := 30) rfl _ _ _ rfl (fun w hw => run_load_B (ov_B r9 w hw) Try.isAgg30 (by kernel_rfl)) (by rfl) ?_; simp only [Act.put, List.setIfInBounds_toArray, List.set_cons_zero, List.set_cons_succ]; go_big_quiet_on) | (refine quiet_loadAny (t := 64) rfl _ _ _ rfl (fun w hw => run_load_B (ov_B d10 w hw) Try.isAgg64 (by kernel_rfl)) (by rfl) ?_; simp only [Act.put, List.setIfInBounds_toArray, List.set_cons_zero, List.set_cons_succ]; go_big_quiet_on) | (refine quiet_loadAny (t := 28) rfl _ _ _ rfl (fun w hw => run_load_sl (ov_B r9 w hw).cell0) (by rfl) ?_; simp only [Act.put, List.setIfInBounds_toArray, List.set_cons_zero, List.set_cons_succ]; go_big_quiet_on) | (refine quiet_loadAny (t := 28) rfl _ _ _ rfl (fun w hw => run_load_sl (ov_B r13 w hw).cell0) (by rfl) ?_; simp only [Act.put, List.setIfInBounds_toArray, List.set_cons_zero, List.set_cons_succ]; go_big_quiet_on) | (refine quiet_loadAny (t := 3) rfl _ _ _ rfl (fun w hw => run_load_int ((ov_B d10 w hw).cellL 0 rfl)) (by rfl) ?_; simp only [Act.put, List.setIfInBounds_toArray, List.set_cons_zero, List.set_cons_succ]; go_big_quiet_on) | (refine quiet_loadAny (t := 3) rfl _ _ _ rfl (fun w hw => run_load_int ((ov_B d10 w hw).cellL 1 rfl)) (by rfl) ?_; simp only [Act.put, List.setIfInBounds_toArray, List.set_cons_zero, List.set_cons_succ]; go_big_quiet_on) | (refine quiet_loadAny (t := 3) rfl _ _ _ rfl (fun w hw => run_load_int ((ov_B d10 w hw).cellL 2 rfl)) (by rfl) ?_; simp only [Act.put, List.setIfInBounds_toArray, List.set_cons_zero, List.set_cons_succ]; go_big_quiet_on) | (refine quiet_loadAny (t := 3) rfl _ _ _ rfl (fun w hw => run_load_int ((ov_B d10 w hw).cellL 3 rfl)) (by rfl) ?_; simp only [Act.put, List.setIfInBounds_toArray, List.set_cons_zero, List.set_cons_succ]; go_big_quiet_on) | (go_big_quiet_op; go_big_quiet_on)))
      refine wpQuiet_nil ?_
      refine wpList_nil ?_
      go_upto_region 17 with fail
      replace d10 : AtB 64 _ b_d10 (rcA ⟨0, 0, 0, 0⟩) := d10
      try simp only [List.getElem_toArray, List.getElem_cons_zero, List.getElem_cons_succ]
      try have lx_q1 := q1.lt
      try have lx_r8 := r8.lt
      try have lx_r9 := r9.lt
      try have lx_d10 := d10.lt
      try have lx_s11 := s11.lt
      try have lx_r13 := r13.lt
      try have lx_rs1 := rs1.lt
      try have lx_rs2 := rs2.lt
      try have lx_rs3 := rs3.lt
      refine wp_region_RL 26 [(3, detS ?v4_3), (5, detS ?v4_5), (11, detS ?v4_11), (17, detS ?v4_17)] (by kernel_rfl) (by kernel_rfl) (by kernel_rfl) ?_
      rotate_left 4
      simp only [List.take_succ_cons, List.take_zero, List.drop_succ_cons, List.drop_zero, Nat.reduceAdd]
      refine wpRL_chunk 3 (by kernel_rfl) ?_
      simp only [List.take_succ_cons, List.take_zero, List.drop_succ_cons, List.drop_zero, Nat.reduceAdd]
      repeat (first | go_big_quiet_skip | (go_big_quiet_want; first | (refine quiet_loadAny (t := 30) rfl _ _ _ rfl (fun w hw => run_load_B (ov_B r8 w hw) Try.isAgg30 (by kernel_rfl)) (by rfl) ?_; simp only [Act.put, List.setIfInBounds_toArray, List.set_cons_zero, List.set_cons_succ]; go_big_quiet_on) | (refine quiet_loadAny (t := 30) rfl _ _ _ rfl (fun w hw => run_load_B (ov_B r9 w hw) Try.isAgg30 (by kernel_rfl)) (by rfl) ?_; simp only [Act.put, List.setIfInBounds_toArray, List.set_cons_zero, List.set_cons_succ]; go_big_quiet_on) | (refine quiet_loadAny (t := 64) rfl _ _ _ rfl (fun w hw => run_load_B (ov_B d10 w hw) Try.isAgg64 (by kernel_rfl)) (by rfl) ?_; simp only [Act.put, List.setIfInBounds_toArray, List.set_cons_zero, List.set_cons_succ]; go_big_quiet_on) | (refine quiet_loadAny (t := 28) rfl _ _ _ rfl (fun w hw => run_load_sl (ov_B r9 w hw).cell0) (by rfl) ?_; simp only [Act.put, List.setIfInBounds_toArray, List.set_cons_zero, List.set_cons_succ]; go_big_quiet_on) | (refine quiet_loadAny (t := 28) rfl _ _ _ rfl (fun w hw => run_load_sl (ov_B r13 w hw).cell0) (by rfl) ?_; simp only [Act.put, List.setIfInBounds_toArray, List.set_cons_zero, List.set_cons_succ]; go_big_quiet_on) | (refine quiet_loadAny (t := 3) rfl _ _ _ rfl (fun w hw => run_load_int ((ov_B d10 w hw).cellL 0 rfl)) (by rfl) ?_; simp only [Act.put, List.setIfInBounds_toArray, List.set_cons_zero, List.set_cons_succ]; go_big_quiet_on) | (refine quiet_loadAny (t := 3) rfl _ _ _ rfl (fun w hw => run_load_int ((ov_B d10 w hw).cellL 1 rfl)) (by rfl) ?_; simp only [Act.put, List.setIfInBounds_toArray, List.set_cons_zero, List.set_cons_succ]; go_big_quiet_on) | (refine quiet_loadAny (t := 3) rfl _ _ _ rfl (fun w hw => run_load_int ((ov_B d10 w hw).cellL 2 rfl)) (by rfl) ?_; simp only [Act.put, List.setIfInBounds_toArray, List.set_cons_zero, List.set_cons_succ]; go_big_quiet_on) | (refine quiet_loadAny (t := 3) rfl _ _ _ rfl (fun w hw => run_load_int ((ov_B d10 w hw).cellL 3 rfl)) (by rfl) ?_; simp only [Act.put, List.setIfInBounds_toArray, List.set_cons_zero, List.set_cons_succ]; go_big_quiet_on) | (go_big_quiet_op; go_big_quiet_on)))
      refine wpQuiet_nil ?_
      refine wpRL_callB (by rfl) (by first | rfl | simp [Region.wanted, yielded]) ?_ ?_
      · intro wn hbn hE Kx hKx
        have hsz := B.size
        have hzn := hbn.size
        replace B := B.trans (hbn.mono B.size)
        (try first | replace q1 := q1.of_eq (hbn.block _ q1.lt) | replace q1 := q1.below hbn)
        (try first | replace r8 := r8.of_eq (hbn.block _ r8.lt) | replace r8 := r8.below hbn)
        (try first | replace r9 := r9.of_eq (hbn.block _ r9.lt) | replace r9 := r9.below hbn)
        (try first | replace d10 := d10.of_eq (hbn.block _ d10.lt) | replace d10 := d10.below hbn)
        (try first | replace s11 := s11.of_eq (hbn.block _ s11.lt) | replace s11 := s11.below hbn)
        (try first | replace r13 := r13.of_eq (hbn.block _ r13.lt) | replace r13 := r13.below hbn)
        (try first | replace rs1 := rs1.of_eq (hbn.block _ rs1.lt) | replace rs1 := rs1.below hbn)
        (try first | replace rs2 := rs2.of_eq (hbn.block _ rs2.lt) | replace rs2 := rs2.below hbn)
        (try first | replace rs3 := rs3.of_eq (hbn.block _ rs3.lt) | replace rs3 := rs3.below hbn)
        refine wp_callF rfl (enters_of Try.func38 (by kernel_rfl) rfl) (by simp only [List.map_toArray, List.map_cons, List.map_nil, Act.eval, Array.getD_eq_getD_getElem?, List.getElem?_toArray, List.getElem?_cons_succ, List.getElem?_cons_zero, Option.getD_some]; rfl) ?_
        refine (P_BoundsR _ (ofL q L T) wn rs1 (ofL_tok q L T) HN.out).mono ?_
        rintro e wm ⟨rfl, hbm⟩
        refine ⟨_, rfl, ?_⟩
        have hz := hKx () wm trivial hbm
        dsimp only [detS] at hz
        exact hz
      rintro ⟨⟩
      dsimp only [detS]
      simp only [Act.put, List.setIfInBounds_toArray, List.set_cons_zero, List.set_cons_succ]
      refine wpRL_chunk 1 (by kernel_rfl) ?_
      simp only [List.take_succ_cons, List.take_zero, List.drop_succ_cons, List.drop_zero, Nat.reduceAdd]
      repeat (first | go_big_quiet_skip | (go_big_quiet_want; first | (refine quiet_loadAny (t := 30) rfl _ _ _ rfl (fun w hw => run_load_B (ov_B r8 w hw) Try.isAgg30 (by kernel_rfl)) (by rfl) ?_; simp only [Act.put, List.setIfInBounds_toArray, List.set_cons_zero, List.set_cons_succ]; go_big_quiet_on) | (refine quiet_loadAny (t := 30) rfl _ _ _ rfl (fun w hw => run_load_B (ov_B r9 w hw) Try.isAgg30 (by kernel_rfl)) (by rfl) ?_; simp only [Act.put, List.setIfInBounds_toArray, List.set_cons_zero, List.set_cons_succ]; go_big_quiet_on) | (refine quiet_loadAny (t := 64) rfl _ _ _ rfl (fun w hw => run_load_B (ov_B d10 w hw) Try.isAgg64 (by kernel_rfl)) (by rfl) ?_; simp only [Act.put, List.setIfInBounds_toArray, List.set_cons_zero, List.set_cons_succ]; go_big_quiet_on) | (refine quiet_loadAny (t := 28) rfl _ _ _ rfl (fun w hw => run_load_sl (ov_B r9 w hw).cell0) (by rfl) ?_; simp only [Act.put, List.setIfInBounds_toArray, List.set_cons_zero, List.set_cons_succ]; go_big_quiet_on) | (refine quiet_loadAny (t := 28) rfl _ _ _ rfl (fun w hw => run_load_sl (ov_B r13 w hw).cell0) (by rfl) ?_; simp only [Act.put, List.setIfInBounds_toArray, List.set_cons_zero, List.set_cons_succ]; go_big_quiet_on) | (refine quiet_loadAny (t := 3) rfl _ _ _ rfl (fun w hw => run_load_int ((ov_B d10 w hw).cellL 0 rfl)) (by rfl) ?_; simp only [Act.put, List.setIfInBounds_toArray, List.set_cons_zero, List.set_cons_succ]; go_big_quiet_on) | (refine quiet_loadAny (t := 3) rfl _ _ _ rfl (fun w hw => run_load_int ((ov_B d10 w hw).cellL 1 rfl)) (by rfl) ?_; simp only [Act.put, List.setIfInBounds_toArray, List.set_cons_zero, List.set_cons_succ]; go_big_quiet_on) | (refine quiet_loadAny (t := 3) rfl _ _ _ rfl (fun w hw => run_load_int ((ov_B d10 w hw).cellL 2 rfl)) (by rfl) ?_; simp only [Act.put, List.setIfInBounds_toArray, List.set_cons_zero, List.set_cons_succ]; go_big_quiet_on) | (refine quiet_loadAny (t := 3) rfl _ _ _ rfl (fun w hw => run_load_int ((ov_B d10 w hw).cellL 3 rfl)) (by rfl) ?_; simp only [Act.put, List.setIfInBounds_toArray, List.set_cons_zero, List.set_cons_succ]; go_big_quiet_on) | (go_big_quiet_op; go_big_quiet_on)))
      refine wpQuiet_nil ?_
      refine wpRL_callB (by rfl) (by first | rfl | simp [Region.wanted, yielded]) ?_ ?_
      · intro wn hbn hE Kx hKx
        have hsz := B.size
        have hzn := hbn.size
        replace B := B.trans (hbn.mono B.size)
        (try first | replace q1 := q1.of_eq (hbn.block _ q1.lt) | replace q1 := q1.below hbn)
        (try first | replace r8 := r8.of_eq (hbn.block _ r8.lt) | replace r8 := r8.below hbn)
        (try first | replace r9 := r9.of_eq (hbn.block _ r9.lt) | replace r9 := r9.below hbn)
        (try first | replace d10 := d10.of_eq (hbn.block _ d10.lt) | replace d10 := d10.below hbn)
        (try first | replace s11 := s11.of_eq (hbn.block _ s11.lt) | replace s11 := s11.below hbn)
        (try first | replace r13 := r13.of_eq (hbn.block _ r13.lt) | replace r13 := r13.below hbn)
        (try first | replace rs1 := rs1.of_eq (hbn.block _ rs1.lt) | replace rs1 := rs1.below hbn)
        (try first | replace rs2 := rs2.of_eq (hbn.block _ rs2.lt) | replace rs2 := rs2.below hbn)
        (try first | replace rs3 := rs3.of_eq (hbn.block _ rs3.lt) | replace rs3 := rs3.below hbn)
        refine wp_callF rfl (enters_of Try.func41 (by kernel_rfl) rfl) (by simp only [List.map_toArray, List.map_cons, List.map_nil, Act.eval, Array.getD_eq_getD_getElem?, List.getElem?_toArray, List.getElem?_cons_succ, List.getElem?_cons_zero, Option.getD_some]; rfl) ?_
        refine (R_BoundsR _ (ofL q L T) wn rs1 (ofL_tok q L T) HN.out).mono ?_
        rintro e wm ⟨rfl, hbm⟩
        refine ⟨_, rfl, ?_⟩
        have hz := hKx () wm trivial hbm
        dsimp only [detS] at hz
        exact hz
      rintro ⟨⟩
      dsimp only [detS]
      simp only [Act.put, List.setIfInBounds_toArray, List.set_cons_zero, List.set_cons_succ]
      refine wpRL_chunk 5 (by kernel_rfl) ?_
      simp only [List.take_succ_cons, List.take_zero, List.drop_succ_cons, List.drop_zero, Nat.reduceAdd]
      repeat (first | go_big_quiet_skip | (go_big_quiet_want; first | (refine quiet_loadAny (t := 30) rfl _ _ _ rfl (fun w hw => run_load_B (ov_B r8 w hw) Try.isAgg30 (by kernel_rfl)) (by rfl) ?_; simp only [Act.put, List.setIfInBounds_toArray, List.set_cons_zero, List.set_cons_succ]; go_big_quiet_on) | (refine quiet_loadAny (t := 30) rfl _ _ _ rfl (fun w hw => run_load_B (ov_B r9 w hw) Try.isAgg30 (by kernel_rfl)) (by rfl) ?_; simp only [Act.put, List.setIfInBounds_toArray, List.set_cons_zero, List.set_cons_succ]; go_big_quiet_on) | (refine quiet_loadAny (t := 64) rfl _ _ _ rfl (fun w hw => run_load_B (ov_B d10 w hw) Try.isAgg64 (by kernel_rfl)) (by rfl) ?_; simp only [Act.put, List.setIfInBounds_toArray, List.set_cons_zero, List.set_cons_succ]; go_big_quiet_on) | (refine quiet_loadAny (t := 28) rfl _ _ _ rfl (fun w hw => run_load_sl (ov_B r9 w hw).cell0) (by rfl) ?_; simp only [Act.put, List.setIfInBounds_toArray, List.set_cons_zero, List.set_cons_succ]; go_big_quiet_on) | (refine quiet_loadAny (t := 28) rfl _ _ _ rfl (fun w hw => run_load_sl (ov_B r13 w hw).cell0) (by rfl) ?_; simp only [Act.put, List.setIfInBounds_toArray, List.set_cons_zero, List.set_cons_succ]; go_big_quiet_on) | (refine quiet_loadAny (t := 3) rfl _ _ _ rfl (fun w hw => run_load_int ((ov_B d10 w hw).cellL 0 rfl)) (by rfl) ?_; simp only [Act.put, List.setIfInBounds_toArray, List.set_cons_zero, List.set_cons_succ]; go_big_quiet_on) | (refine quiet_loadAny (t := 3) rfl _ _ _ rfl (fun w hw => run_load_int ((ov_B d10 w hw).cellL 1 rfl)) (by rfl) ?_; simp only [Act.put, List.setIfInBounds_toArray, List.set_cons_zero, List.set_cons_succ]; go_big_quiet_on) | (refine quiet_loadAny (t := 3) rfl _ _ _ rfl (fun w hw => run_load_int ((ov_B d10 w hw).cellL 2 rfl)) (by rfl) ?_; simp only [Act.put, List.setIfInBounds_toArray, List.set_cons_zero, List.set_cons_succ]; go_big_quiet_on) | (refine quiet_loadAny (t := 3) rfl _ _ _ rfl (fun w hw => run_load_int ((ov_B d10 w hw).cellL 3 rfl)) (by rfl) ?_; simp only [Act.put, List.setIfInBounds_toArray, List.set_cons_zero, List.set_cons_succ]; go_big_quiet_on) | (go_big_quiet_op; go_big_quiet_on)))
      refine wpQuiet_nil ?_
      refine wpRL_callB (by rfl) (by first | rfl | simp [Region.wanted, yielded]) ?_ ?_
      · intro wn hbn hE Kx hKx
        have hsz := B.size
        have hzn := hbn.size
        replace B := B.trans (hbn.mono B.size)
        (try first | replace q1 := q1.of_eq (hbn.block _ q1.lt) | replace q1 := q1.below hbn)
        (try first | replace r8 := r8.of_eq (hbn.block _ r8.lt) | replace r8 := r8.below hbn)
        (try first | replace r9 := r9.of_eq (hbn.block _ r9.lt) | replace r9 := r9.below hbn)
        (try first | replace d10 := d10.of_eq (hbn.block _ d10.lt) | replace d10 := d10.below hbn)
        (try first | replace s11 := s11.of_eq (hbn.block _ s11.lt) | replace s11 := s11.below hbn)
        (try first | replace r13 := r13.of_eq (hbn.block _ r13.lt) | replace r13 := r13.below hbn)
        (try first | replace rs1 := rs1.of_eq (hbn.block _ rs1.lt) | replace rs1 := rs1.below hbn)
        (try first | replace rs2 := rs2.of_eq (hbn.block _ rs2.lt) | replace rs2 := rs2.below hbn)
        (try first | replace rs3 := rs3.of_eq (hbn.block _ rs3.lt) | replace rs3 := rs3.below hbn)
        refine wp_callF rfl (enters_of Try.func41 (by kernel_rfl) rfl) (by simp only [List.map_toArray, List.map_cons, List.map_nil, Act.eval, Array.getD_eq_getD_getElem?, List.getElem?_toArray, List.getElem?_cons_succ, List.getElem?_cons_zero, Option.getD_some]; rfl) ?_
        refine (R_BoundsA _ (madeL L) ⟨0, 0, 0, 0⟩ wn rs2 (madeL_tok L) HM.out (madeL_valid L) HB.out).mono ?_
        rintro e wm ⟨rfl, hbm⟩
        refine ⟨_, rfl, ?_⟩
        have hz := hKx () wm trivial hbm
        dsimp only [detS] at hz
        exact hz
      rintro ⟨⟩
      dsimp only [detS]
      simp only [Act.put, List.setIfInBounds_toArray, List.set_cons_zero, List.set_cons_succ]
      refine wpRL_chunk 5 (by kernel_rfl) ?_
      simp only [List.take_succ_cons, List.take_zero, List.drop_succ_cons, List.drop_zero, Nat.reduceAdd]
      repeat (first | go_big_quiet_skip | (go_big_quiet_want; first | (refine quiet_loadAny (t := 30) rfl _ _ _ rfl (fun w hw => run_load_B (ov_B r8 w hw) Try.isAgg30 (by kernel_rfl)) (by rfl) ?_; simp only [Act.put, List.setIfInBounds_toArray, List.set_cons_zero, List.set_cons_succ]; go_big_quiet_on) | (refine quiet_loadAny (t := 30) rfl _ _ _ rfl (fun w hw => run_load_B (ov_B r9 w hw) Try.isAgg30 (by kernel_rfl)) (by rfl) ?_; simp only [Act.put, List.setIfInBounds_toArray, List.set_cons_zero, List.set_cons_succ]; go_big_quiet_on) | (refine quiet_loadAny (t := 64) rfl _ _ _ rfl (fun w hw => run_load_B (ov_B d10 w hw) Try.isAgg64 (by kernel_rfl)) (by rfl) ?_; simp only [Act.put, List.setIfInBounds_toArray, List.set_cons_zero, List.set_cons_succ]; go_big_quiet_on) | (refine quiet_loadAny (t := 28) rfl _ _ _ rfl (fun w hw => run_load_sl (ov_B r9 w hw).cell0) (by rfl) ?_; simp only [Act.put, List.setIfInBounds_toArray, List.set_cons_zero, List.set_cons_succ]; go_big_quiet_on) | (refine quiet_loadAny (t := 28) rfl _ _ _ rfl (fun w hw => run_load_sl (ov_B r13 w hw).cell0) (by rfl) ?_; simp only [Act.put, List.setIfInBounds_toArray, List.set_cons_zero, List.set_cons_succ]; go_big_quiet_on) | (refine quiet_loadAny (t := 3) rfl _ _ _ rfl (fun w hw => run_load_int ((ov_B d10 w hw).cellL 0 rfl)) (by rfl) ?_; simp only [Act.put, List.setIfInBounds_toArray, List.set_cons_zero, List.set_cons_succ]; go_big_quiet_on) | (refine quiet_loadAny (t := 3) rfl _ _ _ rfl (fun w hw => run_load_int ((ov_B d10 w hw).cellL 1 rfl)) (by rfl) ?_; simp only [Act.put, List.setIfInBounds_toArray, List.set_cons_zero, List.set_cons_succ]; go_big_quiet_on) | (refine quiet_loadAny (t := 3) rfl _ _ _ rfl (fun w hw => run_load_int ((ov_B d10 w hw).cellL 2 rfl)) (by rfl) ?_; simp only [Act.put, List.setIfInBounds_toArray, List.set_cons_zero, List.set_cons_succ]; go_big_quiet_on) | (refine quiet_loadAny (t := 3) rfl _ _ _ rfl (fun w hw => run_load_int ((ov_B d10 w hw).cellL 3 rfl)) (by rfl) ?_; simp only [Act.put, List.setIfInBounds_toArray, List.set_cons_zero, List.set_cons_succ]; go_big_quiet_on) | (go_big_quiet_op; go_big_quiet_on)))
      refine wpQuiet_nil ?_
      refine wpRL_callB (by rfl) (by first | rfl | simp [Region.wanted, yielded]) ?_ ?_
      · intro wn hbn hE Kx hKx
        have hsz := B.size
        have hzn := hbn.size
        replace B := B.trans (hbn.mono B.size)
        (try first | replace q1 := q1.of_eq (hbn.block _ q1.lt) | replace q1 := q1.below hbn)
        (try first | replace r8 := r8.of_eq (hbn.block _ r8.lt) | replace r8 := r8.below hbn)
        (try first | replace r9 := r9.of_eq (hbn.block _ r9.lt) | replace r9 := r9.below hbn)
        (try first | replace d10 := d10.of_eq (hbn.block _ d10.lt) | replace d10 := d10.below hbn)
        (try first | replace s11 := s11.of_eq (hbn.block _ s11.lt) | replace s11 := s11.below hbn)
        (try first | replace r13 := r13.of_eq (hbn.block _ r13.lt) | replace r13 := r13.below hbn)
        (try first | replace rs1 := rs1.of_eq (hbn.block _ rs1.lt) | replace rs1 := rs1.below hbn)
        (try first | replace rs2 := rs2.of_eq (hbn.block _ rs2.lt) | replace rs2 := rs2.below hbn)
        (try first | replace rs3 := rs3.of_eq (hbn.block _ rs3.lt) | replace rs3 := rs3.below hbn)
        refine wp_lenS rfl Try.underlying28 rfl ?_
        exact hKx () _ trivial (Below.refl _ _)
      rintro ⟨⟩
      dsimp only [detS]
      simp only [Act.put, List.setIfInBounds_toArray, List.set_cons_zero, List.set_cons_succ]
      refine wpRL_chunk 8 (by kernel_rfl) ?_
      simp only [List.take_succ_cons, List.take_zero, List.drop_succ_cons, List.drop_zero, Nat.reduceAdd]
      repeat (first | go_big_quiet_skip | (go_big_quiet_want; first | (refine quiet_loadAny (t := 30) rfl _ _ _ rfl (fun w hw => run_load_B (ov_B r8 w hw) Try.isAgg30 (by kernel_rfl)) (by rfl) ?_; simp only [Act.put, List.setIfInBounds_toArray, List.set_cons_zero, List.set_cons_succ]; go_big_quiet_on) | (refine quiet_loadAny (t := 30) rfl _ _ _ rfl (fun w hw => run_load_B (ov_B r9 w hw) Try.isAgg30 (by kernel_rfl)) (by rfl) ?_; simp only [Act.put, List.setIfInBounds_toArray, List.set_cons_zero, List.set_cons_succ]; go_big_quiet_on) | (refine quiet_loadAny (t := 64) rfl _ _ _ rfl (fun w hw => run_load_B (ov_B d10 w hw) Try.isAgg64 (by kernel_rfl)) (by rfl) ?_; simp only [Act.put, List.setIfInBounds_toArray, List.set_cons_zero, List.set_cons_succ]; go_big_quiet_on) | (refine quiet_loadAny (t := 28) rfl _ _ _ rfl (fun w hw => run_load_sl (ov_B r9 w hw).cell0) (by rfl) ?_; simp only [Act.put, List.setIfInBounds_toArray, List.set_cons_zero, List.set_cons_succ]; go_big_quiet_on) | (refine quiet_loadAny (t := 28) rfl _ _ _ rfl (fun w hw => run_load_sl (ov_B r13 w hw).cell0) (by rfl) ?_; simp only [Act.put, List.setIfInBounds_toArray, List.set_cons_zero, List.set_cons_succ]; go_big_quiet_on) | (refine quiet_loadAny (t := 3) rfl _ _ _ rfl (fun w hw => run_load_int ((ov_B d10 w hw).cellL 0 rfl)) (by rfl) ?_; simp only [Act.put, List.setIfInBounds_toArray, List.set_cons_zero, List.set_cons_succ]; go_big_quiet_on) | (refine quiet_loadAny (t := 3) rfl _ _ _ rfl (fun w hw => run_load_int ((ov_B d10 w hw).cellL 1 rfl)) (by rfl) ?_; simp only [Act.put, List.setIfInBounds_toArray, List.set_cons_zero, List.set_cons_succ]; go_big_quiet_on) | (refine quiet_loadAny (t := 3) rfl _ _ _ rfl (fun w hw => run_load_int ((ov_B d10 w hw).cellL 2 rfl)) (by rfl) ?_; simp only [Act.put, List.setIfInBounds_toArray, List.set_cons_zero, List.set_cons_succ]; go_big_quiet_on) | (refine quiet_loadAny (t := 3) rfl _ _ _ rfl (fun w hw => run_load_int ((ov_B d10 w hw).cellL 3 rfl)) (by rfl) ?_; simp only [Act.put, List.setIfInBounds_toArray, List.set_cons_zero, List.set_cons_succ]; go_big_quiet_on) | (go_big_quiet_op; go_big_quiet_on)))
      refine wpQuiet_nil ?_
      refine wpRL_nil ?_
      intro wn hbn hE
      have hsz := B.size
      have hzn := hbn.size
      replace B := B.trans (hbn.mono B.size)
      (try first | replace q1 := q1.of_eq (hbn.block _ q1.lt) | replace q1 := q1.below hbn)
      (try first | replace r8 := r8.of_eq (hbn.block _ r8.lt) | replace r8 := r8.below hbn)
      (try first | replace r9 := r9.of_eq (hbn.block _ r9.lt) | replace r9 := r9.below hbn)
      (try first | replace d10 := d10.of_eq (hbn.block _ d10.lt) | replace d10 := d10.below hbn)
      (try first | replace s11 := s11.of_eq (hbn.block _ s11.lt) | replace s11 := s11.below hbn)
      (try first | replace r13 := r13.of_eq (hbn.block _ r13.lt) | replace r13 := r13.below hbn)
      (try first | replace rs1 := rs1.of_eq (hbn.block _ rs1.lt) | replace rs1 := rs1.below hbn)
      (try first | replace rs2 := rs2.of_eq (hbn.block _ rs2.lt) | replace rs2 := rs2.below hbn)
      (try first | replace rs3 := rs3.of_eq (hbn.block _ rs3.lt) | replace rs3 := rs3.below hbn)
      clear hE
      try simp only [List.drop_succ_cons, List.drop_zero]
      refine NoPan.normal ?_
      go_wp2
      go_ret
      exact ⟨rfl, B⟩
    · have d0 : decide ((0 : Int) < (ml : Int)) = true := decide_eq_true (by omega)
      have d0' : decide (0 < ml) = true := decide_eq_true (by omega)
      refine wp_region_lit ?_
      try simp only [List.getElem_toArray, List.getElem_cons_zero, List.getElem_cons_succ]
      refine wpList_chunk 2 (by kernel_rfl) ?_
      simp only [List.take_succ_cons, List.take_zero, List.drop_succ_cons, List.drop_zero, Nat.reduceAdd]
      repeat (first | go_big_quiet_skip | (go_big_quiet_want; first | (refine quiet_loadAny (t := 30) rfl _ _ _ rfl (fun w hw => run_load_B (ov_B r8 w hw) Try.isAgg30 (by kernel_rfl)) (by rfl) ?_; simp only [Act.put, List.setIfInBounds_toArray, List.set_cons_zero, List.set_cons_succ]; go_big_quiet_on) | (refine quiet_loadAny (t := 30) rfl _ _ _ rfl (fun w hw => run_load_B (ov_B r9 w hw) Try.isAgg30 (by kernel_rfl)) (by rfl) ?_; simp only [Act.put, List.setIfInBounds_toArray, List.set_cons_zero, List.set_cons_succ]; go_big_quiet_on) | (refine quiet_loadAny (t := 64) rfl _ _ _ rfl (fun w hw => run_load_B (ov_B d10 w hw) Try.isAgg64 (by kernel_rfl)) (by rfl) ?_; simp only [Act.put, List.setIfInBounds_toArray, List.set_cons_zero, List.set_cons_succ]; go_big_quiet_on) | (refine quiet_loadAny (t := 28) rfl _ _ _ rfl (fun w hw => run_load_sl (ov_B r9 w hw).cell0) (by rfl) ?_; simp only [Act.put, List.setIfInBounds_toArray, List.set_cons_zero, List.set_cons_succ]; go_big_quiet_on) | (refine quiet_loadAny (t := 28) rfl _ _ _ rfl (fun w hw => run_load_sl (ov_B r13 w hw).cell0) (by rfl) ?_; simp only [Act.put, List.setIfInBounds_toArray, List.set_cons_zero, List.set_cons_succ]; go_big_quiet_on) | (refine quiet_loadAny (t := 3) rfl _ _ _ rfl (fun w hw => run_load_int ((ov_B d10 w hw).cellL 0 rfl)) (by rfl) ?_; simp only [Act.put, List.setIfInBounds_toArray, List.set_cons_zero, List.set_cons_succ]; go_big_quiet_on) | (refine quiet_loadAny (t := 3) rfl _ _ _ rfl (fun w hw => run_load_int ((ov_B d10 w hw).cellL 1 rfl)) (by rfl) ?_; simp only [Act.put, List.setIfInBounds_toArray, List.set_cons_zero, List.set_cons_succ]; go_big_quiet_on) | (refine quiet_loadAny (t := 3) rfl _ _ _ rfl (fun w hw => run_load_int ((ov_B d10 w hw).cellL 2 rfl)) (by rfl) ?_; simp only [Act.put, List.setIfInBounds_toArray, List.set_cons_zero, List.set_cons_succ]; go_big_quiet_on) | (refine quiet_loadAny (t := 3) rfl _ _ _ rfl (fun w hw => run_load_int ((ov_B d10 w hw).cellL 3 rfl)) (by rfl) ?_; simp only [Act.put, List.setIfInBounds_toArray, List.set_cons_zero, List.set_cons_succ]; go_big_quiet_on) | (go_big_quiet_op; go_big_quiet_on)))
      refine wpQuiet_nil ?_
      refine wpList_lenS (by first | rfl | simp [Region.wanted, yielded]) rfl Try.underlying28 rfl ?_
      simp only [Act.put, List.setIfInBounds_toArray, List.set_cons_zero, List.set_cons_succ]
      refine wpList_chunk 1 (by kernel_rfl) ?_
      simp only [List.take_succ_cons, List.take_zero, List.drop_succ_cons, List.drop_zero, Nat.reduceAdd]
      repeat (first | go_big_quiet_skip | (go_big_quiet_want; first | (refine quiet_loadAny (t := 30) rfl _ _ _ rfl (fun w hw => run_load_B (ov_B r8 w hw) Try.isAgg30 (by kernel_rfl)) (by rfl) ?_; simp only [Act.put, List.setIfInBounds_toArray, List.set_cons_zero, List.set_cons_succ]; go_big_quiet_on) | (refine quiet_loadAny (t := 30) rfl _ _ _ rfl (fun w hw => run_load_B (ov_B r9 w hw) Try.isAgg30 (by kernel_rfl)) (by rfl) ?_; simp only [Act.put, List.setIfInBounds_toArray, List.set_cons_zero, List.set_cons_succ]; go_big_quiet_on) | (refine quiet_loadAny (t := 64) rfl _ _ _ rfl (fun w hw => run_load_B (ov_B d10 w hw) Try.isAgg64 (by kernel_rfl)) (by rfl) ?_; simp only [Act.put, List.setIfInBounds_toArray, List.set_cons_zero, List.set_cons_succ]; go_big_quiet_on) | (refine quiet_loadAny (t := 28) rfl _ _ _ rfl (fun w hw => run_load_sl (ov_B r9 w hw).cell0) (by rfl) ?_; simp only [Act.put, List.setIfInBounds_toArray, List.set_cons_zero, List.set_cons_succ]; go_big_quiet_on) | (refine quiet_loadAny (t := 28) rfl _ _ _ rfl (fun w hw => run_load_sl (ov_B r13 w hw).cell0) (by rfl) ?_; simp only [Act.put, List.setIfInBounds_toArray, List.set_cons_zero, List.set_cons_succ]; go_big_quiet_on) | (refine quiet_loadAny (t := 3) rfl _ _ _ rfl (fun w hw => run_load_int ((ov_B d10 w hw).cellL 0 rfl)) (by rfl) ?_; simp only [Act.put, List.setIfInBounds_toArray, List.set_cons_zero, List.set_cons_succ]; go_big_quiet_on) | (refine quiet_loadAny (t := 3) rfl _ _ _ rfl (fun w hw => run_load_int ((ov_B d10 w hw).cellL 1 rfl)) (by rfl) ?_; simp only [Act.put, List.setIfInBounds_toArray, List.set_cons_zero, List.set_cons_succ]; go_big_quiet_on) | (refine quiet_loadAny (t := 3) rfl _ _ _ rfl (fun w hw => run_load_int ((ov_B d10 w hw).cellL 2 rfl)) (by rfl) ?_; simp only [Act.put, List.setIfInBounds_toArray, List.set_cons_zero, List.set_cons_succ]; go_big_quiet_on) | (refine quiet_loadAny (t := 3) rfl _ _ _ rfl (fun w hw => run_load_int ((ov_B d10 w hw).cellL 3 rfl)) (by rfl) ?_; simp only [Act.put, List.setIfInBounds_toArray, List.set_cons_zero, List.set_cons_succ]; go_big_quiet_on) | (go_big_quiet_op; go_big_quiet_on)))
      refine wpQuiet_nil ?_
      refine wpList_nil ?_
      go_upto_region 10 with fail
      refine wp_region_lit ?_
      try simp only [List.getElem_toArray, List.getElem_cons_zero, List.getElem_cons_succ]
      refine wpList_chunk 41 (by kernel_rfl) ?_
      simp only [List.take_succ_cons, List.take_zero, List.drop_succ_cons, List.drop_zero, Nat.reduceAdd]
      repeat (first | go_big_quiet_skip | (go_big_quiet_want; first | (refine quiet_loadAny (t := 30) rfl _ _ _ rfl (fun w hw => run_load_B (ov_B r8 w hw) Try.isAgg30 (by kernel_rfl)) (by rfl) ?_; simp only [Act.put, List.setIfInBounds_toArray, List.set_cons_zero, List.set_cons_succ]; go_big_quiet_on) | (refine quiet_loadAny (t := 30) rfl _ _ _ rfl (fun w hw => run_load_B (ov_B r9 w hw) Try.isAgg30 (by kernel_rfl)) (by rfl) ?_; simp only [Act.put, List.setIfInBounds_toArray, List.set_cons_zero, List.set_cons_succ]; go_big_quiet_on) | (refine quiet_loadAny (t := 64) rfl _ _ _ rfl (fun w hw => run_load_B (ov_B d10 w hw) Try.isAgg64 (by kernel_rfl)) (by rfl) ?_; simp only [Act.put, List.setIfInBounds_toArray, List.set_cons_zero, List.set_cons_succ]; go_big_quiet_on) | (refine quiet_loadAny (t := 28) rfl _ _ _ rfl (fun w hw => run_load_sl (ov_B r9 w hw).cell0) (by rfl) ?_; simp only [Act.put, List.setIfInBounds_toArray, List.set_cons_zero, List.set_cons_succ]; go_big_quiet_on) | (refine quiet_loadAny (t := 28) rfl _ _ _ rfl (fun w hw => run_load_sl (ov_B r13 w hw).cell0) (by rfl) ?_; simp only [Act.put, List.setIfInBounds_toArray, List.set_cons_zero, List.set_cons_succ]; go_big_quiet_on) | (refine quiet_loadAny (t := 3) rfl _ _ _ rfl (fun w hw => run_load_int ((ov_B d10 w hw).cellL 0 rfl)) (by rfl) ?_; simp only [Act.put, List.setIfInBounds_toArray, List.set_cons_zero, List.set_cons_succ]; go_big_quiet_on) | (refine quiet_loadAny (t := 3) rfl _ _ _ rfl (fun w hw => run_load_int ((ov_B d10 w hw).cellL 1 rfl)) (by rfl) ?_; simp only [Act.put, List.setIfInBounds_toArray, List.set_cons_zero, List.set_cons_succ]; go_big_quiet_on) | (refine quiet_loadAny (t := 3) rfl _ _ _ rfl (fun w hw => run_load_int ((ov_B d10 w hw).cellL 2 rfl)) (by rfl) ?_; simp only [Act.put, List.setIfInBounds_toArray, List.set_cons_zero, List.set_cons_succ]; go_big_quiet_on) | (refine quiet_loadAny (t := 3) rfl _ _ _ rfl (fun w hw => run_load_int ((ov_B d10 w hw).cellL 3 rfl)) (by rfl) ?_; simp only [Act.put, List.setIfInBounds_toArray, List.set_cons_zero, List.set_cons_succ]; go_big_quiet_on) | (go_big_quiet_op; go_big_quiet_on)))
      refine wpQuiet_nil ?_
      (refine wpList_allocBk (t := 84) rfl _ (run_alloc_Rq _ _ rfl) ?_; intro b_s11 wn hle hge ht hbn hzn; have hsz := B.size; replace B := B.trans (hbn.mono (by omega)); have hln := Nat.lt_of_lt_of_eq (Nat.lt_succ_self _) hzn.symm; clear hzn; (try first | (have hlt := q1.lt; replace q1 := q1.of_eq (hbn.block _ (by omega))) | replace q1 := q1.below (hbn.mono hle)); (try first | (have hlt := r8.lt; replace r8 := r8.of_eq (hbn.block _ (by omega))) | replace r8 := r8.below (hbn.mono hle)); (try first | (have hlt := r9.lt; replace r9 := r9.of_eq (hbn.block _ (by omega))) | replace r9 := r9.below (hbn.mono hle)); (try first | (have hlt := d10.lt; replace d10 := d10.of_eq (hbn.block _ (by omega))) | replace d10 := d10.below (hbn.mono hle)); (try first | (have hlt := s11.lt; replace s11 := s11.of_eq (hbn.block _ (by omega))) | replace s11 := s11.below (hbn.mono hle)); (try first | (have hlt := r13.lt; replace r13 := r13.of_eq (hbn.block _ (by omega))) | replace r13 := r13.below (hbn.mono hle)); (try first | (have hlt := rs1.lt; replace rs1 := rs1.of_eq (hbn.block _ (by omega))) | replace rs1 := rs1.below (hbn.mono hle)); (try first | (have hlt := rs2.lt; replace rs2 := rs2.of_eq (hbn.block _ (by omega))) | replace rs2 := rs2.below (hbn.mono hle)); (try first | (have hlt := rs3.lt; replace rs3 := rs3.of_eq (hbn.block _ (by omega))) | replace rs3 := rs3.below (hbn.mono hle)); have s11 := ht; clear ht; simp only [Act.put, List.setIfInBounds_toArray, List.set_cons_zero, List.set_cons_succ])
      (refine wpList_storeB (t := 84) rfl _ _ rfl _ rfl (sidesA ⟨x0, y0, x1, y1⟩) rfl s11 (by kernel_rfl) rfl (by simp [sidesA, Value.oneCell']) ?_; have s11o := s11; clear s11; intro wn ht hcn hzn; (try replace rs1 := rs1.chg s11o (by simp [rcA, sidesA]) hcn); (try replace rs2 := rs2.chg s11o (by simp [rcA, sidesA]) hcn); (try replace rs3 := rs3.chg s11o (by simp [rcA, sidesA]) hcn); have hsz := B.size; replace hzn := Nat.le_of_eq hzn.symm; replace B := Chg.below B hcn (by omega) B.size; (try replace q1 := q1.of_eq (hcn.block _ q1.lt (by omega))); (try replace r8 := r8.of_eq (hcn.block _ r8.lt (by omega))); (try replace r9 := r9.of_eq (hcn.block _ r9.lt (by omega))); (try replace d10 := d10.of_eq (hcn.block _ d10.lt (by omega))); (try replace r13 := r13.of_eq (hcn.block _ r13.lt (by omega))); (try replace rs1 := rs1.of_eq (hcn.block _ rs1.lt (by omega))); (try replace rs2 := rs2.of_eq (hcn.block _ rs2.lt (by omega))); (try replace rs3 := rs3.of_eq (hcn.block _ rs3.lt (by omega))); have s11 := ht; clear ht; simp only [Act.put, List.setIfInBounds_toArray, List.set_cons_zero, List.set_cons_succ])
      refine wpList_nil ?_
      go_wp2
      go_loopw [12, 13] (fun i _ wr => ∃ k : Nat, k ≤ 4 ∧ i = .int .i64 k ∧ Below w.heap.size w wr ∧ AtB 30 wr b_r8 #[.slice a1 (ofL q L T).length c1] ∧ AtB 30 wr b_r9 #[.slice a2 ml c2] ∧ AtB 64 wr b_d10 (rcA ⟨x0, y0, x1, y1⟩) ∧ AtB 84 wr b_s11 (sidesA ⟨x0, y0, x1, y1⟩) ∧ RS (.slice a1 (ofL q L T).length c1) (ofL q L T) wr ∧ RS (.slice a2 ml c2) (madeL L) wr) (fun i _ _ => (4 - intOf i).toNat)
      case atStart => exact ⟨0, by omega, rfl, B, r8, r9, d10, s11, rs1, rs2⟩
      case round =>
        clear B r8 r9 d10 s11 rs1 rs2
        obtain ⟨k, hk4, rfl, B, r8, r9, d10, s11, rs1, rs2⟩ := hrel
        by_cases hk : k < 4
        · have hpos := HBS.out (by omega) k hk
          have dk : decide ((k : Int) < 4) = true := decide_eq_true (by omega)
          have dne : decide (((cropL (sideR ⟨x0, y0, x1, y1⟩ k) (madeL L)).length : Int) = 0) = false := decide_eq_false (by omega)
          go_upto_region 14 with fail
          try simp only [List.getElem_toArray, List.getElem_cons_zero, List.getElem_cons_succ]
          try have lx_q1 := q1.lt
          try have lx_r8 := r8.lt
          try have lx_r9 := r9.lt
          try have lx_d10 := d10.lt
          try have lx_s11 := s11.lt
          try have lx_r13 := r13.lt
          try have lx_rs1 := rs1.lt
          try have lx_rs2 := rs2.lt
          try have lx_rs3 := rs3.lt
          refine wp_region_RL 6 [(4, rasS (cropL (sideR ⟨x0, y0, x1, y1⟩ k) (madeL L))), (5, ptrS (wr.heap.size) 30 #[.slice none 0 0])] (by kernel_rfl) (by kernel_rfl) (by kernel_rfl) ?_
          rotate_left 0
          simp only [List.take_succ_cons, List.take_zero, List.drop_succ_cons, List.drop_zero, Nat.reduceAdd]
          refine wpRL_chunk 4 (by kernel_rfl) ?_
          simp only [List.take_succ_cons, List.take_zero, List.drop_succ_cons, List.drop_zero, Nat.reduceAdd]
          repeat (first | go_big_quiet_skip | (go_big_quiet_want; first | (refine quiet_loadAny (t := 30) rfl _ _ _ rfl (fun w hw => run_load_B (ov_B r8 w hw) Try.isAgg30 (by kernel_rfl)) (by rfl) ?_; simp only [Act.put, List.setIfInBounds_toArray, List.set_cons_zero, List.set_cons_succ]; go_big_quiet_on) | (refine quiet_loadAny (t := 30) rfl _ _ _ rfl (fun w hw => run_load_B (ov_B r9 w hw) Try.isAgg30 (by kernel_rfl)) (by rfl) ?_; simp only [Act.put, List.setIfInBounds_toArray, List.set_cons_zero, List.set_cons_succ]; go_big_quiet_on) | (refine quiet_loadAny (t := 64) rfl _ _ _ rfl (fun w hw => run_load_B (ov_B d10 w hw) Try.isAgg64 (by kernel_rfl)) (by rfl) ?_; simp only [Act.put, List.setIfInBounds_toArray, List.set_cons_zero, List.set_cons_succ]; go_big_quiet_on) | (refine quiet_loadAny (t := 28) rfl _ _ _ rfl (fun w hw => run_load_sl (ov_B r9 w hw).cell0) (by rfl) ?_; simp only [Act.put, List.setIfInBounds_toArray, List.set_cons_zero, List.set_cons_succ]; go_big_quiet_on) | (refine quiet_loadAny (t := 28) rfl _ _ _ rfl (fun w hw => run_load_sl (ov_B r13 w hw).cell0) (by rfl) ?_; simp only [Act.put, List.setIfInBounds_toArray, List.set_cons_zero, List.set_cons_succ]; go_big_quiet_on) | (refine quiet_loadAny (t := 3) rfl _ _ _ rfl (fun w hw => run_load_int ((ov_B d10 w hw).cellL 0 rfl)) (by rfl) ?_; simp only [Act.put, List.setIfInBounds_toArray, List.set_cons_zero, List.set_cons_succ]; go_big_quiet_on) | (refine quiet_loadAny (t := 3) rfl _ _ _ rfl (fun w hw => run_load_int ((ov_B d10 w hw).cellL 1 rfl)) (by rfl) ?_; simp only [Act.put, List.setIfInBounds_toArray, List.set_cons_zero, List.set_cons_succ]; go_big_quiet_on) | (refine quiet_loadAny (t := 3) rfl _ _ _ rfl (fun w hw => run_load_int ((ov_B d10 w hw).cellL 2 rfl)) (by rfl) ?_; simp only [Act.put, List.setIfInBounds_toArray, List.set_cons_zero, List.set_cons_succ]; go_big_quiet_on) | (refine quiet_loadAny (t := 3) rfl _ _ _ rfl (fun w hw => run_load_int ((ov_B d10 w hw).cellL 3 rfl)) (by rfl) ?_; simp only [Act.put, List.setIfInBounds_toArray, List.set_cons_zero, List.set_cons_succ]; go_big_quiet_on) | (refine quiet_loadAny (t := 64) rfl _ _ _ rfl (fun w hw => run_load_side (ov_B s11 w hw) k hk) (by first | rfl | omega) ?_; simp only [Act.put, List.setIfInBounds_toArray, List.set_cons_zero, List.set_cons_succ]; go_big_quiet_on) | (go_big_quiet_op; go_big_quiet_on)))
          refine wpQuiet_nil ?_
          refine wpRL_callB (by rfl) (by first | rfl | simp [Region.wanted, yielded]) ?_ ?_
          · intro wn hbn hE Kx hKx
            have hsz := B.size
            have hzn := hbn.size
            replace B := B.trans (hbn.mono B.size)
            (try first | replace q1 := q1.of_eq (hbn.block _ q1.lt) | replace q1 := q1.below hbn)
            (try first | replace r8 := r8.of_eq (hbn.block _ r8.lt) | replace r8 := r8.below hbn)
            (try first | replace r9 := r9.of_eq (hbn.block _ r9.lt) | replace r9 := r9.below hbn)
            (try first | replace d10 := d10.of_eq (hbn.block _ d10.lt) | replace d10 := d10.below hbn)
            (try first | replace s11 := s11.of_eq (hbn.block _ s11.lt) | replace s11 := s11.below hbn)
            (try first | replace r13 := r13.of_eq (hbn.block _ r13.lt) | replace r13 := r13.below hbn)
            (try first | replace rs1 := rs1.of_eq (hbn.block _ rs1.lt) | replace rs1 := rs1.below hbn)
            (try first | replace rs2 := rs2.of_eq (hbn.block _ rs2.lt) | replace rs2 := rs2.below hbn)
            (try first | replace rs3 := rs3.of_eq (hbn.block _ rs3.lt) | replace rs3 := rs3.below hbn)
            refine wp_callF rfl (enters_of Try.func40 (by kernel_rfl) rfl) (by simp only [List.map_toArray, List.map_cons, List.map_nil, Act.eval, Array.getD_eq_getD_getElem?, List.getElem?_toArray, List.getElem?_cons_succ, List.getElem?_cons_zero, Option.getD_some]; rfl) ?_
            refine (P_CropV _ (madeL L) _ (sideR ⟨x0, y0, x1, y1⟩ k) wn rs2 (madeL_tok L) HM.out (madeL_valid L) rfl).mono ?_
            rintro e wm ⟨v', rfl, hr, hbm⟩
            obtain ⟨a', c', rfl, _⟩ := hr.len
            exact ⟨_, rfl, hKx (a', c') wm hr hbm⟩
          rintro ⟨a95, c95⟩
          dsimp only [detS, rasS]
          simp only [Act.put, List.setIfInBounds_toArray, List.set_cons_zero, List.set_cons_succ]
          refine wpRL_callB (by rfl) (by first | rfl | simp [Region.wanted, yielded]) ?_ ?_
          · intro wn hbn hE Kx hKx
            have hsz := B.size
            have hzn := hbn.size
            replace B := B.trans (hbn.mono B.size)
            (try first | replace q1 := q1.of_eq (hbn.block _ q1.lt) | replace q1 := q1.below hbn)
            (try first | replace r8 := r8.of_eq (hbn.block _ r8.lt) | replace r8 := r8.below hbn)
            (try first | replace r9 := r9.of_eq (hbn.block _ r9.lt) | replace r9 := r9.below hbn)
            (try first | replace d10 := d10.of_eq (hbn.block _ d10.lt) | replace d10 := d10.below hbn)
            (try first | replace s11 := s11.of_eq (hbn.block _ s11.lt) | replace s11 := s11.below hbn)
            (try first | replace r13 := r13.of_eq (hbn.block _ r13.lt) | replace r13 := r13.below hbn)
            (try first | replace rs1 := rs1.of_eq (hbn.block _ rs1.lt) | replace rs1 := rs1.below hbn)
            (try first | replace rs2 := rs2.of_eq (hbn.block _ rs2.lt) | replace rs2 := rs2.below hbn)
            (try first | replace rs3 := rs3.of_eq (hbn.block _ rs3.lt) | replace rs3 := rs3.below hbn)
            refine owp_allocBk (t := 30) _ (run_alloc_R _ _ rfl) ?_
            intro b wm h1 h2 ht hbm hzm
            exact hKx b wm ⟨Nat.le_trans hbn.size h1, ht⟩ (hbm.mono h1)
          rintro b_r13
          dsimp only [detS, ptrS]
          simp only [Act.put, List.setIfInBounds_toArray, List.set_cons_zero, List.set_cons_succ]
          refine wpRL_nil ?_
          intro wn hbn hE
          have hsz := B.size
          have hzn := hbn.size
          replace B := B.trans (hbn.mono B.size)
          (try first | replace q1 := q1.of_eq (hbn.block _ q1.lt) | replace q1 := q1.below hbn)
          (try first | replace r8 := r8.of_eq (hbn.block _ r8.lt) | replace r8 := r8.below hbn)
          (try first | replace r9 := r9.of_eq (hbn.block _ r9.lt) | replace r9 := r9.below hbn)
          (try first | replace d10 := d10.of_eq (hbn.block _ d10.lt) | replace d10 := d10.below hbn)
          (try first | replace s11 := s11.of_eq (hbn.block _ s11.lt) | replace s11 := s11.below hbn)
          (try first | replace r13 := r13.of_eq (hbn.block _ r13.lt) | replace r13 := r13.below hbn)
          (try first | replace rs1 := rs1.of_eq (hbn.block _ rs1.lt) | replace rs1 := rs1.below hbn)
          (try first | replace rs2 := rs2.of_eq (hbn.block _ rs2.lt) | replace rs2 := rs2.below hbn)
          (try first | replace rs3 := rs3.of_eq (hbn.block _ rs3.lt) | replace rs3 := rs3.below hbn)
          have rs3 := hE 4
          change RS _ _ _ at rs3
          obtain ⟨hge_r13, r13⟩ : _ ∧ AtB _ _ _ _ := hE 5
          clear hE
          try simp only [List.drop_succ_cons, List.drop_zero]
          (refine wpList_storeB (t := 30) rfl _ _ rfl _ rfl _ rfl r13 (by kernel_rfl) rfl (by simp [Value.oneCell']) ?_; have r13o := r13; clear r13; intro wn ht hcn hzn; (try replace rs1 := rs1.chg r13o (by simp [rcA, sidesA]) hcn); (try replace rs2 := rs2.chg r13o (by simp [rcA, sidesA]) hcn); (try replace rs3 := rs3.chg r13o (by simp [rcA, sidesA]) hcn); have hsz := B.size; replace hzn := Nat.le_of_eq hzn.symm; replace B := Chg.below B hcn (by omega) B.size; (try replace q1 := q1.of_eq (hcn.block _ q1.lt (by omega))); (try replace r8 := r8.of_eq (hcn.block _ r8.lt (by omega))); (try replace r9 := r9.of_eq (hcn.block _ r9.lt (by omega))); (try replace d10 := d10.of_eq (hcn.block _ d10.lt (by omega))); (try replace s11 := s11.of_eq (hcn.block _ s11.lt (by omega))); (try replace rs1 := rs1.of_eq (hcn.block _ rs1.lt (by omega))); (try replace rs2 := rs2.of_eq (hcn.block _ rs2.lt (by omega))); (try replace rs3 := rs3.of_eq (hcn.block _ rs3.lt (by omega))); have r13 := ht; clear ht; simp only [Act.put, List.setIfInBounds_toArray, List.set_cons_zero, List.set_cons_succ])
          refine NoPan.normal ?_
          go_upto_region 15 with fail
          refine wp_region_lit ?_
          try simp only [List.getElem_toArray, List.getElem_cons_zero, List.getElem_cons_succ]
          refine wpList_chunk 2 (by kernel_rfl) ?_
          simp only [List.take_succ_cons, List.take_zero, List.drop_succ_cons, List.drop_zero, Nat.reduceAdd]
          repeat (first | go_big_quiet_skip | (go_big_quiet_want; first | (refine quiet_loadAny (t := 30) rfl _ _ _ rfl (fun w hw => run_load_B (ov_B r8 w hw) Try.isAgg30 (by kernel_rfl)) (by rfl) ?_; simp only [Act.put, List.setIfInBounds_toArray, List.set_cons_zero, List.set_cons_succ]; go_big_quiet_on) | (refine quiet_loadAny (t := 30) rfl _ _ _ rfl (fun w hw => run_load_B (ov_B r9 w hw) Try.isAgg30 (by kernel_rfl)) (by rfl) ?_; simp only [Act.put, List.setIfInBounds_toArray, List.set_cons_zero, List.set_cons_succ]; go_big_quiet_on) | (refine quiet_loadAny (t := 64) rfl _ _ _ rfl (fun w hw => run_load_B (ov_B d10 w hw) Try.isAgg64 (by kernel_rfl)) (by rfl) ?_; simp only [Act.put, List.setIfInBounds_toArray, List.set_cons_zero, List.set_cons_succ]; go_big_quiet_on) | (refine quiet_loadAny (t := 28) rfl _ _ _ rfl (fun w hw => run_load_sl (ov_B r9 w hw).cell0) (by rfl) ?_; simp only [Act.put, List.setIfInBounds_toArray, List.set_cons_zero, List.set_cons_succ]; go_big_quiet_on) | (refine quiet_loadAny (t := 28) rfl _ _ _ rfl (fun w hw => run_load_sl (ov_B r13 w hw).cell0) (by rfl) ?_; simp only [Act.put, List.setIfInBounds_toArray, List.set_cons_zero, List.set_cons_succ]; go_big_quiet_on) | (refine quiet_loadAny (t := 3) rfl _ _ _ rfl (fun w hw => run_load_int ((ov_B d10 w hw).cellL 0 rfl)) (by rfl) ?_; simp only [Act.put, List.setIfInBounds_toArray, List.set_cons_zero, List.set_cons_succ]; go_big_quiet_on) | (refine quiet_loadAny (t := 3) rfl _ _ _ rfl (fun w hw => run_load_int ((ov_B d10 w hw).cellL 1 rfl)) (by rfl) ?_; simp only [Act.put, List.setIfInBounds_toArray, List.set_cons_zero, List.set_cons_succ]; go_big_quiet_on) | (refine quiet_loadAny (t := 3) rfl _ _ _ rfl (fun w hw => run_load_int ((ov_B d10 w hw).cellL 2 rfl)) (by rfl) ?_; simp only [Act.put, List.setIfInBounds_toArray, List.set_cons_zero, List.set_cons_succ]; go_big_quiet_on) | (refine quiet_loadAny (t := 3) rfl _ _ _ rfl (fun w hw => run_load_int ((ov_B d10 w hw).cellL 3 rfl)) (by rfl) ?_; simp only [Act.put, List.setIfInBounds_toArray, List.set_cons_zero, List.set_cons_succ]; go_big_quiet_on) | (go_big_quiet_op; go_big_quiet_on)))
          refine wpQuiet_nil ?_
          refine wpList_lenS (by first | rfl | simp [Region.wanted, yielded]) rfl Try.underlying28 rfl ?_
          simp only [Act.put, List.setIfInBounds_toArray, List.set_cons_zero, List.set_cons_succ]
          refine wpList_chunk 1 (by kernel_rfl) ?_
          simp only [List.take_succ_cons, List.take_zero, List.drop_succ_cons, List.drop_zero, Nat.reduceAdd]
          repeat (first | go_big_quiet_skip | (go_big_quiet_want; first | (refine quiet_loadAny (t := 30) rfl _ _ _ rfl (fun w hw => run_load_B (ov_B r8 w hw) Try.isAgg30 (by kernel_rfl)) (by rfl) ?_; simp only [Act.put, List.setIfInBounds_toArray, List.set_cons_zero, List.set_cons_succ]; go_big_quiet_on) | (refine quiet_loadAny (t := 30) rfl _ _ _ rfl (fun w hw => run_load_B (ov_B r9 w hw) Try.isAgg30 (by kernel_rfl)) (by rfl) ?_; simp only [Act.put, List.setIfInBounds_toArray, List.set_cons_zero, List.set_cons_succ]; go_big_quiet_on) | (refine quiet_loadAny (t := 64) rfl _ _ _ rfl (fun w hw => run_load_B (ov_B d10 w hw) Try.isAgg64 (by kernel_rfl)) (by rfl) ?_; simp only [Act.put, List.setIfInBounds_toArray, List.set_cons_zero, List.set_cons_succ]; go_big_quiet_on) | (refine quiet_loadAny (t := 28) rfl _ _ _ rfl (fun w hw => run_load_sl (ov_B r9 w hw).cell0) (by rfl) ?_; simp only [Act.put, List.setIfInBounds_toArray, List.set_cons_zero, List.set_cons_succ]; go_big_quiet_on) | (refine quiet_loadAny (t := 28) rfl _ _ _ rfl (fun w hw => run_load_sl (ov_B r13 w hw).cell0) (by rfl) ?_; simp only [Act.put, List.setIfInBounds_toArray, List.set_cons_zero, List.set_cons_succ]; go_big_quiet_on) | (refine quiet_loadAny (t := 3) rfl _ _ _ rfl (fun w hw => run_load_int ((ov_B d10 w hw).cellL 0 rfl)) (by rfl) ?_; simp only [Act.put, List.setIfInBounds_toArray, List.set_cons_zero, List.set_cons_succ]; go_big_quiet_on) | (refine quiet_loadAny (t := 3) rfl _ _ _ rfl (fun w hw => run_load_int ((ov_B d10 w hw).cellL 1 rfl)) (by rfl) ?_; simp only [Act.put, List.setIfInBounds_toArray, List.set_cons_zero, List.set_cons_succ]; go_big_quiet_on) | (refine quiet_loadAny (t := 3) rfl _ _ _ rfl (fun w hw => run_load_int ((ov_B d10 w hw).cellL 2 rfl)) (by rfl) ?_; simp only [Act.put, List.setIfInBounds_toArray, List.set_cons_zero, List.set_cons_succ]; go_big_quiet_on) | (refine quiet_loadAny (t := 3) rfl _ _ _ rfl (fun w hw => run_load_int ((ov_B d10 w hw).cellL 3 rfl)) (by rfl) ?_; simp only [Act.put, List.setIfInBounds_toArray, List.set_cons_zero, List.set_cons_succ]; go_big_quiet_on) | (go_big_quiet_op; go_big_quiet_on)))
          refine wpQuiet_nil ?_
          refine wpList_nil ?_
          go_wp2
          go_roundw
          case rel => exact ⟨k + 1, by omega, by go_num, B, r8, r9, d10, s11, rs1, rs2⟩
          case measure => simp [intOf]; omega
        · obtain rfl : k = 4 := by omega
          have hq1 := eqls_rc
          have hq2 := eqls_rcA
          have dk : decide (((4 : Nat) : Int) < 4) = false := rfl
          have d0 : decide ((0 : Int) < (ml : Int)) = true := decide_eq_true (by omega)
          go_upto_region 17 with fail
          try simp only [List.getElem_toArray, List.getElem_cons_zero, List.getElem_cons_succ]
          try have lx_q1 := q1.lt
          try have lx_r8 := r8.lt
          try have lx_r9 := r9.lt
          try have lx_d10 := d10.lt
          try have lx_s11 := s11.lt
          try have lx_r13 := r13.lt
          try have lx_rs1 := rs1.lt
          try have lx_rs2 := rs2.lt
          try have lx_rs3 := rs3.lt
          refine wp_region_RL 26 [(3, detS ?v6_3), (5, detS ?v6_5), (11, detS ?v6_11), (17, detS ?v6_17)] (by kernel_rfl) (by kernel_rfl) (by kernel_rfl) ?_
          rotate_left 4
          simp only [List.take_succ_cons, List.take_zero, List.drop_succ_cons, List.drop_zero, Nat.reduceAdd]
          refine wpRL_chunk 3 (by kernel_rfl) ?_
          simp only [List.take_succ_cons, List.take_zero, List.drop_succ_cons, List.drop_zero, Nat.reduceAdd]
          repeat (first | go_big_quiet_skip | (go_big_quiet_want; first | (refine quiet_loadAny (t := 30) rfl _ _ _ rfl (fun w hw => run_load_B (ov_B r8 w hw) Try.isAgg30 (by kernel_rfl)) (by rfl) ?_; simp only [Act.put, List.setIfInBounds_toArray, List.set_cons_zero, List.set_cons_succ]; go_big_quiet_on) | (refine quiet_loadAny (t := 30) rfl _ _ _ rfl (fun w hw => run_load_B (ov_B r9 w hw) Try.isAgg30 (by kernel_rfl)) (by rfl) ?_; simp only [Act.put, List.setIfInBounds_toArray, List.set_cons_zero, List.set_cons_succ]; go_big_quiet_on) | (refine quiet_loadAny (t := 64) rfl _ _ _ rfl (fun w hw => run_load_B (ov_B d10 w hw) Try.isAgg64 (by kernel_rfl)) (by rfl) ?_; simp only [Act.put, List.setIfInBounds_toArray, List.set_cons_zero, List.set_cons_succ]; go_big_quiet_on) | (refine quiet_loadAny (t := 28) rfl _ _ _ rfl (fun w hw => run_load_sl (ov_B r9 w hw).cell0) (by rfl) ?_; simp only [Act.put, List.setIfInBounds_toArray, List.set_cons_zero, List.set_cons_succ]; go_big_quiet_on) | (refine quiet_loadAny (t := 28) rfl _ _ _ rfl (fun w hw => run_load_sl (ov_B r13 w hw).cell0) (by rfl) ?_; simp only [Act.put, List.setIfInBounds_toArray, List.set_cons_zero, List.set_cons_succ]; go_big_quiet_on) | (refine quiet_loadAny (t := 3) rfl _ _ _ rfl (fun w hw => run_load_int ((ov_B d10 w hw).cellL 0 rfl)) (by rfl) ?_; simp only [Act.put, List.setIfInBounds_toArray, List.set_cons_zero, List.set_cons_succ]; go_big_quiet_on) | (refine quiet_loadAny (t := 3) rfl _ _ _ rfl (fun w hw => run_load_int ((ov_B d10 w hw).cellL 1 rfl)) (by rfl) ?_; simp only [Act.put, List.setIfInBounds_toArray, List.set_cons_zero, List.set_cons_succ]; go_big_quiet_on) | (refine quiet_loadAny (t := 3) rfl _ _ _ rfl (fun w hw => run_load_int ((ov_B d10 w hw).cellL 2 rfl)) (by rfl) ?_; simp only [Act.put, List.setIfInBounds_toArray, List.set_cons_zero, List.set_cons_succ]; go_big_quiet_on) | (refine quiet_loadAny (t := 3) rfl _ _ _ rfl (fun w hw => run_load_int ((ov_B d10 w hw).cellL 3 rfl)) (by rfl) ?_; simp only [Act.put, List.setIfInBounds_toArray, List.set_cons_zero, List.set_cons_succ]; go_big_quiet_on) | (go_big_quiet_op; go_big_quiet_on)))
          refine wpQuiet_nil ?_
          refine wpRL_callB (by rfl) (by first | rfl | simp [Region.wanted, yielded]) ?_ ?_
          · intro wn hbn hE Kx hKx
            have hsz := B.size
            have hzn := hbn.size
            replace B := B.trans (hbn.mono B.size)
            (try first | replace q1 := q1.of_eq (hbn.block _ q1.lt) | replace q1 := q1.below hbn)
            (try first | replace r8 := r8.of_eq (hbn.block _ r8.lt) | replace r8 := r8.below hbn)
            (try first | replace r9 := r9.of_eq (hbn.block _ r9.lt) | replace r9 := r9.below hbn)
            (try first | replace d10 := d10.of_eq (hbn.block _ d10.lt) | replace d10 := d10.below hbn)
            (try first | replace s11 := s11.of_eq (hbn.block _ s11.lt) | replace s11 := s11.below hbn)
            (try first | replace r13 := r13.of_eq (hbn.block _ r13.lt) | replace r13 := r13.below hbn)
            (try first | replace rs1 := rs1.of_eq (hbn.block _ rs1.lt) | replace rs1 := rs1.below hbn)
            (try first | replace rs2 := rs2.of_eq (hbn.block _ rs2.lt) | replace rs2 := rs2.below hbn)
            (try first | replace rs3 := rs3.of_eq (hbn.block _ rs3.lt) | replace rs3 := rs3.below hbn)
            refine wp_callF rfl (enters_of Try.func38 (by kernel_rfl) rfl) (by simp only [List.map_toArray, List.map_cons, List.map_nil, Act.eval, Array.getD_eq_getD_getElem?, List.getElem?_toArray, List.getElem?_cons_succ, List.getElem?_cons_zero, Option.getD_some]; rfl) ?_
            refine (P_BoundsR _ (ofL q L T) wn rs1 (ofL_tok q L T) HN.out).mono ?_
            rintro e wm ⟨rfl, hbm⟩
            refine ⟨_, rfl, ?_⟩
            have hz := hKx () wm trivial hbm
            dsimp only [detS] at hz
            exact hz
          rintro ⟨⟩
          dsimp only [detS]
          simp only [Act.put, List.setIfInBounds_toArray, List.set_cons_zero, List.set_cons_succ]
          refine wpRL_chunk 1 (by kernel_rfl) ?_
          simp only [List.take_succ_cons, List.take_zero, List.drop_succ_cons, List.drop_zero, Nat.reduceAdd]
          repeat (first | go_big_quiet_skip | (go_big_quiet_want; first | (refine quiet_loadAny (t := 30) rfl _ _ _ rfl (fun w hw => run_load_B (ov_B r8 w hw) Try.isAgg30 (by kernel_rfl)) (by rfl) ?_; simp only [Act.put, List.setIfInBounds_toArray, List.set_cons_zero, List.set_cons_succ]; go_big_quiet_on) | (refine quiet_loadAny (t := 30) rfl _ _ _ rfl (fun w hw => run_load_B (ov_B r9 w hw) Try.isAgg30 (by kernel_rfl)) (by rfl) ?_; simp only [Act.put, List.setIfInBounds_toArray, List.set_cons_zero, List.set_cons_succ]; go_big_quiet_on) | (refine quiet_loadAny (t := 64) rfl _ _ _ rfl (fun w hw => run_load_B (ov_B d10 w hw) Try.isAgg64 (by kernel_rfl)) (by rfl) ?_; simp only [Act.put, List.setIfInBounds_toArray, List.set_cons_zero, List.set_cons_succ]; go_big_quiet_on) | (refine quiet_loadAny (t := 28) rfl _ _ _ rfl (fun w hw => run_load_sl (ov_B r9 w hw).cell0) (by rfl) ?_; simp only [Act.put, List.setIfInBounds_toArray, List.set_cons_zero, List.set_cons_succ]; go_big_quiet_on) | (refine quiet_loadAny (t := 28) rfl _ _ _ rfl (fun w hw => run_load_sl (ov_B r13 w hw).cell0) (by rfl) ?_; simp only [Act.put, List.setIfInBounds_toArray, List.set_cons_zero, List.set_cons_succ]; go_big_quiet_on) | (refine quiet_loadAny (t := 3) rfl _ _ _ rfl (fun w hw => run_load_int ((ov_B d10 w hw).cellL 0 rfl)) (by rfl) ?_; simp only [Act.put, List.setIfInBounds_toArray, List.set_cons_zero, List.set_cons_succ]; go_big_quiet_on) | (refine quiet_loadAny (t := 3) rfl _ _ _ rfl (fun w hw => run_load_int ((ov_B d10 w hw).cellL 1 rfl)) (by rfl) ?_; simp only [Act.put, List.setIfInBounds_toArray, List.set_cons_zero, List.set_cons_succ]; go_big_quiet_on) | (refine quiet_loadAny (t := 3) rfl _ _ _ rfl (fun w hw => run_load_int ((ov_B d10 w hw).cellL 2 rfl)) (by rfl) ?_; simp only [Act.put, List.setIfInBounds_toArray, List.set_cons_zero, List.set_cons_succ]; go_big_quiet_on) | (refine quiet_loadAny (t := 3) rfl _ _ _ rfl (fun w hw => run_load_int ((ov_B d10 w hw).cellL 3 rfl)) (by rfl) ?_; simp only [Act.put, List.setIfInBounds_toArray, List.set_cons_zero, List.set_cons_succ]; go_big_quiet_on) | (go_big_quiet_op; go_big_quiet_on)))
          refine wpQuiet_nil ?_
          refine wpRL_callB (by rfl) (by first | rfl | simp [Region.wanted, yielded]) ?_ ?_
          · intro wn hbn hE Kx hKx
            have hsz := B.size
            have hzn := hbn.size
            replace B := B.trans (hbn.mono B.size)
            (try first | replace q1 := q1.of_eq (hbn.block _ q1.lt) | replace q1 := q1.below hbn)
            (try first | replace r8 := r8.of_eq (hbn.block _ r8.lt) | replace r8 := r8.below hbn)
            (try first | replace r9 := r9.of_eq (hbn.block _ r9.lt) | replace r9 := r9.below hbn)
            (try first | replace d10 := d10.of_eq (hbn.block _ d10.lt) | replace d10 := d10.below hbn)
            (try first | replace s11 := s11.of_eq (hbn.block _ s11.lt) | replace s11 := s11.below hbn)
            (try first | replace r13 := r13.of_eq (hbn.block _ r13.lt) | replace r13 := r13.below hbn)
            (try first | replace rs1 := rs1.of_eq (hbn.block _ rs1.lt) | replace rs1 := rs1.below hbn)
            (try first | replace rs2 := rs2.of_eq (hbn.block _ rs2.lt) | replace rs2 := rs2.below hbn)
            (try first | replace rs3 := rs3.of_eq (hbn.block _ rs3.lt) | replace rs3 := rs3.below hbn)
            refine wp_callF rfl (enters_of Try.func41 (by kernel_rfl) rfl) (by simp only [List.map_toArray, List.map_cons, List.map_nil, Act.eval, Array.getD_eq_getD_getElem?, List.getElem?_toArray, List.getElem?_cons_succ, List.getElem?_cons_zero, Option.getD_some]; rfl) ?_
            refine (R_BoundsR _ (ofL q L T) wn rs1 (ofL_tok q L T) HN.out).mono ?_
            rintro e wm ⟨rfl, hbm⟩
            refine ⟨_, rfl, ?_⟩
            have hz := hKx () wm trivial hbm
            dsimp only [detS] at hz
            exact hz
          rintro ⟨⟩
          dsimp only [detS]
          simp only [Act.put, List.setIfInBounds_toArray, List.set_cons_zero, List.set_cons_succ]
          refine wpRL_chunk 5 (by kernel_rfl) ?_
          simp only [List.take_succ_cons, List.take_zero, List.drop_succ_cons, List.drop_zero, Nat.reduceAdd]
          repeat (first | go_big_quiet_skip | (go_big_quiet_want; first | (refine quiet_loadAny (t := 30) rfl _ _ _ rfl (fun w hw => run_load_B (ov_B r8 w hw) Try.isAgg30 (by kernel_rfl)) (by rfl) ?_; simp only [Act.put, List.setIfInBounds_toArray, List.set_cons_zero, List.set_cons_succ]; go_big_quiet_on) | (refine quiet_loadAny (t := 30) rfl _ _ _ rfl (fun w hw => run_load_B (ov_B r9 w hw) Try.isAgg30 (by kernel_rfl)) (by rfl) ?_; simp only [Act.put, List.setIfInBounds_toArray, List.set_cons_zero, List.set_cons_succ]; go_big_quiet_on) | (refine quiet_loadAny (t := 64) rfl _ _ _ rfl (fun w hw => run_load_B (ov_B d10 w hw) Try.isAgg64 (by kernel_rfl)) (by rfl) ?_; simp only [Act.put, List.setIfInBounds_toArray, List.set_cons_zero, List.set_cons_succ]; go_big_quiet_on) | (refine quiet_loadAny (t := 28) rfl _ _ _ rfl (fun w hw => run_load_sl (ov_B r9 w hw).cell0) (by rfl) ?_; simp only [Act.put, List.setIfInBounds_toArray, List.set_cons_zero, List.set_cons_succ]; go_big_quiet_on) | (refine quiet_loadAny (t := 28) rfl _ _ _ rfl (fun w hw => run_load_sl (ov_B r13 w hw).cell0) (by rfl) ?_; simp only [Act.put, List.setIfInBounds_toArray, List.set_cons_zero, List.set_cons_succ]; go_big_quiet_on) | (refine quiet_loadAny (t := 3) rfl _ _ _ rfl (fun w hw => run_load_int ((ov_B d10 w hw).cellL 0 rfl)) (by rfl) ?_; simp only [Act.put, List.setIfInBounds_toArray, List.set_cons_zero, List.set_cons_succ]; go_big_quiet_on) | (refine quiet_loadAny (t := 3) rfl _ _ _ rfl (fun w hw => run_load_int ((ov_B d10 w hw).cellL 1 rfl)) (by rfl) ?_; simp only [Act.put, List.setIfInBounds_toArray, List.set_cons_zero, List.set_cons_succ]; go_big_quiet_on) | (refine quiet_loadAny (t := 3) rfl _ _ _ rfl (fun w hw => run_load_int ((ov_B d10 w hw).cellL 2 rfl)) (by rfl) ?_; simp only [Act.put, List.setIfInBounds_toArray, List.set_cons_zero, List.set_cons_succ]; go_big_quiet_on) | (refine quiet_loadAny (t := 3) rfl _ _ _ rfl (fun w hw => run_load_int ((ov_B d10 w hw).cellL 3 rfl)) (by rfl) ?_; simp only [Act.put, List.setIfInBounds_toArray, List.set_cons_zero, List.set_cons_succ]; go_big_quiet_on) | (go_big_quiet_op; go_big_quiet_on)))
          refine wpQuiet_nil ?_
          refine wpRL_callB (by rfl) (by first | rfl | simp [Region.wanted, yielded]) ?_ ?_
          · intro wn hbn hE Kx hKx
            have hsz := B.size
            have hzn := hbn.size
            replace B := B.trans (hbn.mono B.size)
            (try first | replace q1 := q1.of_eq (hbn.block _ q1.lt) | replace q1 := q1.below hbn)
            (try first | replace r8 := r8.of_eq (hbn.block _ r8.lt) | replace r8 := r8.below hbn)
            (try first | replace r9 := r9.of_eq (hbn.block _ r9.lt) | replace r9 := r9.below hbn)
            (try first | replace d10 := d10.of_eq (hbn.block _ d10.lt) | replace d10 := d10.below hbn)
            (try first | replace s11 := s11.of_eq (hbn.block _ s11.lt) | replace s11 := s11.below hbn)
            (try first | replace r13 := r13.of_eq (hbn.block _ r13.lt) | replace r13 := r13.below hbn)
            (try first | replace rs1 := rs1.of_eq (hbn.block _ rs1.lt) | replace rs1 := rs1.below hbn)
            (try first | replace rs2 := rs2.of_eq (hbn.block _ rs2.lt) | replace rs2 := rs2.below hbn)
            (try first | replace rs3 := rs3.of_eq (hbn.block _ rs3.lt) | replace rs3 := rs3.below hbn)
            refine wp_callF rfl (enters_of Try.func41 (by kernel_rfl) rfl) (by simp only [List.map_toArray, List.map_cons, List.map_nil, Act.eval, Array.getD_eq_getD_getElem?, List.getElem?_toArray, List.getElem?_cons_succ, List.getElem?_cons_zero, Option.getD_some]; rfl) ?_
            refine (R_BoundsA _ (madeL L) ⟨x0, y0, x1, y1⟩ wn rs2 (madeL_tok L) HM.out (madeL_valid L) HB.out).mono ?_
            rintro e wm ⟨rfl, hbm⟩
            refine ⟨_, rfl, ?_⟩
            have hz := hKx () wm trivial hbm
            dsimp only [detS] at hz
            exact hz
          rintro ⟨⟩
          dsimp only [detS]
          simp only [Act.put, List.setIfInBounds_toArray, List.set_cons_zero, List.set_cons_succ]
          refine wpRL_chunk 5 (by kernel_rfl) ?_
          simp only [List.take_succ_cons, List.take_zero, List.drop_succ_cons, List.drop_zero, Nat.reduceAdd]
          repeat (first | go_big_quiet_skip | (go_big_quiet_want; first | (refine quiet_loadAny (t := 30) rfl _ _ _ rfl (fun w hw => run_load_B (ov_B r8 w hw) Try.isAgg30 (by kernel_rfl)) (by rfl) ?_; simp only [Act.put, List.setIfInBounds_toArray, List.set_cons_zero, List.set_cons_succ]; go_big_quiet_on) | (refine quiet_loadAny (t := 30) rfl _ _ _ rfl (fun w hw => run_load_B (ov_B r9 w hw) Try.isAgg30 (by kernel_rfl)) (by rfl) ?_; simp only [Act.put, List.setIfInBounds_toArray, List.set_cons_zero, List.set_cons_succ]; go_big_quiet_on) | (refine quiet_loadAny (t := 64) rfl _ _ _ rfl (fun w hw => run_load_B (ov_B d10 w hw) Try.isAgg64 (by kernel_rfl)) (by rfl) ?_; simp only [Act.put, List.setIfInBounds_toArray, List.set_cons_zero, List.set_cons_succ]; go_big_quiet_on) | (refine quiet_loadAny (t := 28) rfl _ _ _ rfl (fun w hw => run_load_sl (ov_B r9 w hw).cell0) (by rfl) ?_; simp only [Act.put, List.setIfInBounds_toArray, List.set_cons_zero, List.set_cons_succ]; go_big_quiet_on) | (refine quiet_loadAny (t := 28) rfl _ _ _ rfl (fun w hw => run_load_sl (ov_B r13 w hw).cell0) (by rfl) ?_; simp only [Act.put, List.setIfInBounds_toArray, List.set_cons_zero, List.set_cons_succ]; go_big_quiet_on) | (refine quiet_loadAny (t := 3) rfl _ _ _ rfl (fun w hw => run_load_int ((ov_B d10 w hw).cellL 0 rfl)) (by rfl) ?_; simp only [Act.put, List.setIfInBounds_toArray, List.set_cons_zero, List.set_cons_succ]; go_big_quiet_on) | (refine quiet_loadAny (t := 3) rfl _ _ _ rfl (fun w hw => run_load_int ((ov_B d10 w hw).cellL 1 rfl)) (by rfl) ?_; simp only [Act.put, List.setIfInBounds_toArray, List.set_cons_zero, List.set_cons_succ]; go_big_quiet_on) | (refine quiet_loadAny (t := 3) rfl _ _ _ rfl (fun w hw => run_load_int ((ov_B d10 w hw).cellL 2 rfl)) (by rfl) ?_; simp only [Act.put, List.setIfInBounds_toArray, List.set_cons_zero, List.set_cons_succ]; go_big_quiet_on) | (refine quiet_loadAny (t := 3) rfl _ _ _ rfl (fun w hw => run_load_int ((ov_B d10 w hw).cellL 3 rfl)) (by rfl) ?_; simp only [Act.put, List.setIfInBounds_toArray, List.set_cons_zero, List.set_cons_succ]; go_big_quiet_on) | (go_big_quiet_op; go_big_quiet_on)))
          refine wpQuiet_nil ?_
          refine wpRL_callB (by rfl) (by first | rfl | simp [Region.wanted, yielded]) ?_ ?_
          · intro wn hbn hE Kx hKx
            have hsz := B.size
            have hzn := hbn.size
            replace B := B.trans (hbn.mono B.size)
            (try first | replace q1 := q1.of_eq (hbn.block _ q1.lt) | replace q1 := q1.below hbn)
            (try first | replace r8 := r8.of_eq (hbn.block _ r8.lt) | replace r8 := r8.below hbn)
            (try first | replace r9 := r9.of_eq (hbn.block _ r9.lt) | replace r9 := r9.below hbn)
            (try first | replace d10 := d10.of_eq (hbn.block _ d10.lt) | replace d10 := d10.below hbn)
            (try first | replace s11 := s11.of_eq (hbn.block _ s11.lt) | replace s11 := s11.below hbn)
            (try first | replace r13 := r13.of_eq (hbn.block _ r13.lt) | replace r13 := r13.below hbn)
            (try first | replace rs1 := rs1.of_eq (hbn.block _ rs1.lt) | replace rs1 := rs1.below hbn)
            (try first | replace rs2 := rs2.of_eq (hbn.block _ rs2.lt) | replace rs2 := rs2.below hbn)
            (try first | replace rs3 := rs3.of_eq (hbn.block _ rs3.lt) | replace rs3 := rs3.below hbn)
            refine wp_lenS rfl Try.underlying28 rfl ?_
            exact hKx () _ trivial (Below.refl _ _)
          rintro ⟨⟩
          dsimp only [detS]
          simp only [Act.put, List.setIfInBounds_toArray, List.set_cons_zero, List.set_cons_succ]
          refine wpRL_chunk 8 (by kernel_rfl) ?_
          simp only [List.take_succ_cons, List.take_zero, List.drop_succ_cons, List.drop_zero, Nat.reduceAdd]
          repeat (first | go_big_quiet_skip | (go_big_quiet_want; first | (refine quiet_loadAny (t := 30) rfl _ _ _ rfl (fun w hw => run_load_B (ov_B r8 w hw) Try.isAgg30 (by kernel_rfl)) (by rfl) ?_; simp only [Act.put, List.setIfInBounds_toArray, List.set_cons_zero, List.set_cons_succ]; go_big_quiet_on) | (refine quiet_loadAny (t := 30) rfl _ _ _ rfl (fun w hw => run_load_B (ov_B r9 w hw) Try.isAgg30 (by kernel_rfl)) (by rfl) ?_; simp only [Act.put, List.setIfInBounds_toArray, List.set_cons_zero, List.set_cons_succ]; go_big_quiet_on) | (refine quiet_loadAny (t := 64) rfl _ _ _ rfl (fun w hw => run_load_B (ov_B d10 w hw) Try.isAgg64 (by kernel_rfl)) (by rfl) ?_; simp only [Act.put, List.setIfInBounds_toArray, List.set_cons_zero, List.set_cons_succ]; go_big_quiet_on) | (refine quiet_loadAny (t := 28) rfl _ _ _ rfl (fun w hw => run_load_sl (ov_B r9 w hw).cell0) (by rfl) ?_; simp only [Act.put, List.setIfInBounds_toArray, List.set_cons_zero, List.set_cons_succ]; go_big_quiet_on) | (refine quiet_loadAny (t := 28) rfl _ _ _ rfl (fun w hw => run_load_sl (ov_B r13 w hw).cell0) (by rfl) ?_; simp only [Act.put, List.setIfInBounds_toArray, List.set_cons_zero, List.set_cons_succ]; go_big_quiet_on) | (refine quiet_loadAny (t := 3) rfl _ _ _ rfl (fun w hw => run_load_int ((ov_B d10 w hw).cellL 0 rfl)) (by rfl) ?_; simp only [Act.put, List.setIfInBounds_toArray, List.set_cons_zero, List.set_cons_succ]; go_big_quiet_on) | (refine quiet_loadAny (t := 3) rfl _ _ _ rfl (fun w hw => run_load_int ((ov_B d10 w hw).cellL 1 rfl)) (by rfl) ?_; simp only [Act.put, List.setIfInBounds_toArray, List.set_cons_zero, List.set_cons_succ]; go_big_quiet_on) | (refine quiet_loadAny (t := 3) rfl _ _ _ rfl (fun w hw => run_load_int ((ov_B d10 w hw).cellL 2 rfl)) (by rfl) ?_; simp only [Act.put, List.setIfInBounds_toArray, List.set_cons_zero, List.set_cons_succ]; go_big_quiet_on) | (refine quiet_loadAny (t := 3) rfl _ _ _ rfl (fun w hw => run_load_int ((ov_B d10 w hw).cellL 3 rfl)) (by rfl) ?_; simp only [Act.put, List.setIfInBounds_toArray, List.set_cons_zero, List.set_cons_succ]; go_big_quiet_on) | (go_big_quiet_op; go_big_quiet_on)))
          refine wpQuiet_nil ?_
          refine wpRL_nil ?_
          intro wn hbn hE
          have hsz := B.size
          have hzn := hbn.size
          replace B := B.trans (hbn.mono B.size)
          (try first | replace q1 := q1.of_eq (hbn.block _ q1.lt) | replace q1 := q1.below hbn)
          (try first | replace r8 := r8.of_eq (hbn.block _ r8.lt) | replace r8 := r8.below hbn)
          (try first | replace r9 := r9.of_eq (hbn.block _ r9.lt) | replace r9 := r9.below hbn)
          (try first | replace d10 := d10.of_eq (hbn.block _ d10.lt) | replace d10 := d10.below hbn)
          (try first | replace s11 := s11.of_eq (hbn.block _ s11.lt) | replace s11 := s11.below hbn)
          (try first | replace r13 := r13.of_eq (hbn.block _ r13.lt) | replace r13 := r13.below hbn)
          (try first | replace rs1 := rs1.of_eq (hbn.block _ rs1.lt) | replace rs1 := rs1.below hbn)
          (try first | replace rs2 := rs2.of_eq (hbn.block _ rs2.lt) | replace rs2 := rs2.below hbn)
          (try first | replace rs3 := rs3.of_eq (hbn.block _ rs3.lt) | replace rs3 := rs3.below hbn)
          clear hE
          try simp only [List.drop_succ_cons, List.drop_zero]
          refine NoPan.normal ?_
          go_wp2
          go_ret
          exact ⟨rfl, B⟩
namespace rasterBounds
open Go.ChangeShapes Go.WideShapes Go.ChangeAt Go.RowKit
open Go.ChangeMaps (open_string shut_string)
set_option maxRecDepth 100000 in
theorem lifted (os : Os) (started : os.Started) (H : Type) (enc : TypeId × Value → H) :
    ReturnsInHanded {} Try.checked os 9 .any (Rows.rasterBoundsSpec.pre6 enc Try.prog Try.f9 Rows.rasterBoundsRow.domain false) (Rows.rasterBoundsSpec.post enc Try.prog Try.f9 false true false false) := by
  refine returnsInHanded_of_change_sized (C := Try.checked) own started (by kernel_rfl) Try.func9
    (ChangeSpec.witness6 (enc := enc) (C := Try.checked) false ⟨#[], #[.agg #[.slice none 0 0, .int .i64 0, .int .i64 0, .int .i64 0, .slice none 0 0, .int .i64 0], .int .i64 0, .int .i64 0], []⟩ 8 (by kernel_rfl) (by kernel_rfl) (by kernel_rfl) (by kernel_rfl)) ?_
  intro W base args ds gs before hval0 hW hcnd hsz0 _
  have hval : ∀ (j : Nat) t v, Try.f9.params[j]? = some t → args[j]? = some v → Value.okWide Try.prog W .any base t v := hval0
  have hW' := hW
  obtain ⟨p, q, hA0, hV, rfl, hfz, hnd⟩ := hW
  have hA : DataW.TrodAll enc Try.prog W 0 (fun _ => true) true Try.f9.params.toList args.toList ds p := hA0
  rw [Try.params9] at hA hval hsz0
  obtain ⟨v0, vs0, d0, ds0, p0, q0, hargs, rfl, rfl, h0, r0⟩ := trodAll_cons hA
  obtain ⟨v1, vs1, d1, ds1, p1, q1, rfl, rfl, rfl, h1, r1⟩ := trodAll_cons r0
  obtain ⟨v2, vs2, d2, ds2, p2, q2, rfl, rfl, rfl, h2, r2⟩ := trodAll_cons r1
  obtain ⟨rfl, rfl, rfl⟩ := trodAll_nil r2
  obtain rfl : args = #[v0, v1, v2] := by cases args; simp_all
  obtain ⟨rfl, rfl⟩ := trodVars_none hV
  have hwt0 : ∀ n ∈ DataW.weights Try.prog 26 d0, n ≤ reachBytes := fun n hn => by simpa using List.all_eq_true.1 hsz0 n (DataW.weights_mem_each (j := 0) rfl rfl n hn)
  have k0 := h0
  have lt0 : ∀ x ∈ p0, x.block < W.heap.size := by obtain ⟨m, hm⟩ := k0; exact DataW.trod_lt m _ _ _ hm
  have k1 := h1
  have lt1 : ∀ x ∈ p1, x.block < W.heap.size := by obtain ⟨m, hm⟩ := k1; exact DataW.trod_lt m _ _ _ hm
  have k2 := h2
  have lt2 : ∀ x ∈ p2, x.block < W.heap.size := by obtain ⟨m, hm⟩ := k2; exact DataW.trod_lt m _ _ _ hm
  obtain ⟨a0, vl0, vt0, L0, T0, rfl, hL0, hLn0, hT0, hTn0⟩ := open_raw (hval 0 26 v0 rfl rfl) h0 hwt0
  obtain ⟨a1, rfl, rfl, rfl, w1⟩ := open_int Try.underlying3 (hval 1 3 v1 rfl rfl) h1
  obtain ⟨a2, rfl, rfl, rfl, w2⟩ := open_int Try.underlying3 (hval 2 3 v2 rfl rfl) h2
  clear hA0 hval0
  refine (walk_RasterBounds a0 vl0 vt0 L0 T0 a1 a2  w1 w2 W hL0 hLn0 hT0 hTn0).mono fun e W' ⟨he, bel⟩ => ?_
  subst he
  exact ⟨_, rfl, _, _, _, [], _, [], hW', trodAll_mk1 (shut_bool Try.underlying4 _), (trodAll_cons_mk (Below.trod laidOut (by kernel_rfl) (of_decide_eq_true (by kernel_rfl)) k0 bel lt0) (trodAll_cons_mk (Below.trod laidOut (by kernel_rfl) (of_decide_eq_true (by kernel_rfl)) k1 bel lt1) (trodAll_cons_mk (Below.trod laidOut (by kernel_rfl) (of_decide_eq_true (by kernel_rfl)) k2 bel lt2) trodAll_mk0))), rfl, bel.frame _, fun h => by cases h⟩
theorem over : Rows.rasterBoundsRow.holds Try.pinned (OpenSpec.ofChange Rows.rasterBoundsSpec) :=
  OpenClaim.holds_of_wide 9 Try.f9 rfl rfl rfl rfl rfl rfl rfl ⟨rfl, rfl, rfl, rfl, rfl⟩ rfl rfl rfl rfl rfl (by kernel_rfl) Try.func9 (by kernel_rfl)
    (of_decide_eq_true (by kernel_rfl)) (by unfold Func.isWrapper; first | (rw [if_pos (by decide +kernel)]; kernel_rfl) | (rw [if_neg (by decide +kernel)]; exact ⟨rfl, rfl⟩))
    (fun os started H enc _ => lifted os started H enc)
/-- THE STATEMENT: RasterBounds returns true for every input, and its arguments read as they did. -/
theorem proved : Rows.RasterBoundsSaid := over
end rasterBounds
end Go.Proofs.Ytppccnjckiedlaa
