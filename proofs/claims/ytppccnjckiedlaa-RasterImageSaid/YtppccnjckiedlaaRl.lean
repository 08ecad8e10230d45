/- Contracts of Set and Get of package raster. -/
import Derived.Test.YtppccnjckiedlaaRk
namespace Go.Proofs.Ytppccnjckiedlaa
open Go.RowKit Go.Shelf Pl
set_option linter.unusedVariables false
set_option linter.unusedSimpArgs false
set_option maxRecDepth 20000

theorem putE_fine (ls : List TA) (x y : Int) (t : Nat → Px) : putE (fineL ls) x y t = putE ls x y t := by unfold putE; rw [fineL_fine]
theorem putR_fine (ls : List TA) (x y : Int) (t : Nat → Px) : putR (fineL ls) x y t = putR ls x y t := by unfold putR; rw [fineL_fine]
theorem getT_getL (ls : List TA) (x y : Int) : getT (tileL ls (x / 8) (y / 8)) (x % 8) (y % 8) = getL ls x y := by
  have : insB (x % 8) (y % 8) = true := decide_eq_true (by omega)
  unfold getT getL posI
  rw [if_pos this]
theorem wf_mk {x : Int} (h1 : -9223372036854775808 ≤ x) (h2 : x ≤ 9223372036854775807) : (Lit.int .i64 x).wf = true := by
  have hmin : IntKind.i64.min = -9223372036854775808 := rfl
  have hmax : IntKind.i64.max = 9223372036854775807 := rfl
  simp only [Lit.wf, Bool.and_eq_true, decide_eq_true_eq]
  rw [hmin, hmax]
  exact ⟨h1, h2⟩
theorem wf_bd {x : Int} (h : (Lit.int .i64 x).wf = true) : -9223372036854775808 ≤ x ∧ x ≤ 9223372036854775807 := by
  have hmin : IntKind.i64.min = -9223372036854775808 := rfl
  have hmax : IntKind.i64.max = 9223372036854775807 := rfl
  simp only [Lit.wf, Bool.and_eq_true, decide_eq_true_eq] at h
  rw [hmin, hmax] at h
  exact h
set_option maxHeartbeats 1000000 in
theorem P_GetR (v : Value) (ls : List TA) (x y : Int) (w : World) (h : RS v ls w) (hn : ls.length ≤ maxLen) (hx : (Lit.int .i64 x).wf = true) (hy : (Lit.int .i64 y).wf = true) : Calls Try.prog 20 #[.agg #[v], .int .i64 x, .int .i64 y] w fun e w' => e = .returned (Px.v (getL ls x y)) ∧ Below w.heap.size w w' := by
  have B := Below.refl w.heap.size w
  obtain ⟨a, c, rfl, hc⟩ := h.len
  have HS := Lib.hid h
  clear h
  rw [← getT_getL]
  have b1 := bits_and7 x
  have b2 := bits_and7 y
  go_enter Try.func20, Try.ntmps20
  go_wp2_with (first | (have _ := r1; refine wpList_allocPx' rfl rfl ?_; intro b_q1 wn hle hge ht hbn hzn; have hsz := B.size; replace B := B.trans (hbn.mono (by omega)); have hln := Nat.lt_of_lt_of_eq (Nat.lt_succ_self _) hzn.symm; clear hzn; (try first | (have hlt := r1.lt; replace r1 := r1.of_eq (hbn.block _ (by omega))) | replace r1 := r1.below (hbn.mono hle)); (try first | (have hlt := q1.lt; replace q1 := q1.of_eq (hbn.block _ (by omega))) | replace q1 := q1.below (hbn.mono hle)); have q1 := ht; clear ht; simp only [Act.put, List.setIfInBounds_toArray, List.set_cons_zero, List.set_cons_succ]) | (refine wpList_boxB (t := 30) rfl _ rfl _ rfl ?_; intro b_r1 wn hle hge ht hbn hzn; have hsz := B.size; replace B := B.trans (hbn.mono (by omega)); have hln := Nat.lt_of_lt_of_eq (Nat.lt_succ_self _) hzn.symm; clear hzn; (try first | (have hlt := r1.lt; replace r1 := r1.of_eq (hbn.block _ (by omega))) | replace r1 := r1.below (hbn.mono hle)); (try first | (have hlt := q1.lt; replace q1 := q1.of_eq (hbn.block _ (by omega))) | replace q1 := q1.below (hbn.mono hle)); have r1 := ht; clear ht; simp only [Act.put, List.setIfInBounds_toArray, List.set_cons_zero, List.set_cons_succ]) | fail)
  have rs := HS.out.below B
  refine wp_region_ov_tail 11 (by kernel_rfl) (by kernel_rfl) ?_
  simp only [List.take_succ_cons, List.take_zero, List.drop_succ_cons, List.drop_zero]
  repeat (first | go_big_quiet_skip | (go_big_quiet_want; first | (refine quiet_loadAny (t := 30) rfl _ _ _ rfl (fun w hw => run_load_B (ov_B r1 w hw) Try.isAgg30 (by kernel_rfl)) (by rfl) ?_; simp only [Act.put, List.setIfInBounds_toArray, List.set_cons_zero, List.set_cons_succ]; go_big_quiet_on) | (go_big_quiet_op; first | go_big_quiet_on | go_big_quiet_call ((first | (go_at_call 63; exact calls_ov (P_At _ _ _ hx hy)) | (go_at_call 22; exact calls_ov (P_Tile _ ls _ _ _ (ov_rs rs _ ⟨_, rfl⟩) hn)) | (go_at_call 51; exact calls_ov (P_Get _ _ _ _)))))))
  refine wpQuiet_nil ?_
  intro wn hbn
  have hsz := B.size
  have hzn := hbn.size
  replace B := B.trans (hbn.mono B.size)
  try first | replace r1 := r1.of_eq (hbn.block _ r1.lt) | replace r1 := r1.below hbn
  try first | replace q1 := q1.of_eq (hbn.block _ q1.lt) | replace q1 := q1.below hbn
  go_wp2_with (first | (refine wpList_storePx rfl _ _ rfl _ rfl (_) rfl q1 ?_; clear q1; intro wn ht hcn hzn; have hsz := B.size; replace hzn := Nat.le_of_eq hzn.symm; replace B := Chg.below B hcn (by omega) B.size; (try replace r1 := r1.of_eq (hcn.block _ r1.lt (by omega))); have q1 := ht; clear ht; simp only [Act.put, List.setIfInBounds_toArray, List.set_cons_zero, List.set_cons_succ]) | fail)
  refine bodyPost_ret (results_px rfl _ _ (b_q1) rfl q1) rfl ?_
  exact ⟨rfl, B⟩
set_option maxHeartbeats 1000000 in
theorem P_SetR (v : Value) (ls : List TA) (x y : Int) (p : Px) (w : World) (h : RS v ls w) (tk : TokL ls) (hn : ls.length ≤ maxLen) (hx : (Lit.int .i64 x).wf = true) (hy : (Lit.int .i64 y).wf = true) (hp : p.ok) : Calls Try.prog 26 #[.agg #[v], .int .i64 x, .int .i64 y, Px.v p] w fun e w' => ∃ v', e = .returned (.tuple #[.agg #[v'], .int .i64 (setE ls x y p)]) ∧ RS v' (setR ls x y p) w' ∧ Below w.heap.size w w' := by
  have B := Below.refl w.heap.size w
  obtain ⟨a', c', hT⟩ := P_tiles v ls w h tk hn
  have HT := Lib.hid hT
  clear hT
  obtain ⟨a, c, rfl, hc⟩ := h.len
  have TK := Lib.hid (fineL_tok tk)
  have hfl : (fineL ls).length ≤ maxLen := by have := fineL_le ls; omega
  have KK : Hid (Tok (setT (tileL (fineL ls) (x / 8) (y / 8)) (x % 8) (y % 8) p)) := Lib.hid (setS_tok tk hp)
  have e1 := Lib.hid (show setE ls x y p = putE (fineL ls) (x / 8) (y / 8) (setT (tileL (fineL ls) (x / 8) (y / 8)) (x % 8) (y % 8) p) from (putE_fine ls _ _ _).symm)
  have e2 := Lib.hid (show setR ls x y p = putR (fineL ls) (x / 8) (y / 8) (setT (tileL (fineL ls) (x / 8) (y / 8)) (x % 8) (y % 8) p) from (putR_fine ls _ _ _).symm)
  have b1 := bits_and7 x
  have b2 := bits_and7 y
  clear tk h
  go_enter Try.func26, Try.ntmps26
  go_wp2_with (first | (refine wpList_storeT rfl _ _ rfl _ rfl _ rfl u2 ?_; clear u2; intro wn ht hcn hzn; have hsz := B.size; replace hzn := Nat.le_of_eq hzn.symm; replace B := Chg.below B hcn (by omega) B.size; (try replace r1 := r1.of_eq (hcn.block _ r1.lt (by omega))); (try replace q1 := q1.of_eq (hcn.block _ q1.lt (by omega))); (try replace r2 := r2.of_eq (hcn.block _ r2.lt (by omega))); (try replace p2 := p2.of_eq (hcn.block _ p2.lt (by omega))); have u2 := ht; clear ht; simp only [Act.put, List.setIfInBounds_toArray, List.set_cons_zero, List.set_cons_succ]) | (go_at_call 22; refine (P_Tile _ (fineL ls) (x / 8) (y / 8) _ (HT.out _ B).2 hfl).mono ?_; rintro e wn ⟨rfl, hbn⟩; have hsz := B.size; have hzn := hbn.size; replace B := B.trans (hbn.mono B.size); (try first | replace r1 := r1.of_eq (hbn.block _ r1.lt) | replace r1 := r1.below hbn); (try first | replace q1 := q1.of_eq (hbn.block _ q1.lt) | replace q1 := q1.below hbn); (try first | replace r2 := r2.of_eq (hbn.block _ r2.lt) | replace r2 := r2.below hbn); (try first | replace p2 := p2.of_eq (hbn.block _ p2.lt) | replace p2 := p2.below hbn); (try first | replace u2 := u2.of_eq (hbn.block _ u2.lt) | replace u2 := u2.below hbn)) | (have _ := p2; refine wpList_allocT' rfl rfl ?_; intro b_u2 wn hle hge ht hbn hzn; have hsz := B.size; replace B := B.trans (hbn.mono (by omega)); have hln := Nat.lt_of_lt_of_eq (Nat.lt_succ_self _) hzn.symm; clear hzn; (try first | (have hlt := r1.lt; replace r1 := r1.of_eq (hbn.block _ (by omega))) | replace r1 := r1.below (hbn.mono hle)); (try first | (have hlt := q1.lt; replace q1 := q1.of_eq (hbn.block _ (by omega))) | replace q1 := q1.below (hbn.mono hle)); (try first | (have hlt := r2.lt; replace r2 := r2.of_eq (hbn.block _ (by omega))) | replace r2 := r2.below (hbn.mono hle)); (try first | (have hlt := p2.lt; replace p2 := p2.of_eq (hbn.block _ (by omega))) | replace p2 := p2.below (hbn.mono hle)); (try first | (have hlt := u2.lt; replace u2 := u2.of_eq (hbn.block _ (by omega))) | replace u2 := u2.below (hbn.mono hle)); have u2 := ht; clear ht; simp only [Act.put, List.setIfInBounds_toArray, List.set_cons_zero, List.set_cons_succ]) | (refine wpList_loadAny (t := 24) rfl _ rfl _ _ _ rfl (run_load_B p2 Try.isAgg24 (by kernel_rfl)) (by rfl) ?_; simp only [Act.put, List.setIfInBounds_toArray, List.set_cons_zero, List.set_cons_succ]) | (go_at_call 68; refine (HT.out _ B).1.mono ?_; rintro e wn ⟨rfl, hbn⟩; have hsz := B.size; have hzn := hbn.size; replace B := B.trans (hbn.mono B.size); (try first | replace r1 := r1.of_eq (hbn.block _ r1.lt) | replace r1 := r1.below hbn); (try first | replace q1 := q1.of_eq (hbn.block _ q1.lt) | replace q1 := q1.below hbn); (try first | replace r2 := r2.of_eq (hbn.block _ r2.lt) | replace r2 := r2.below hbn); (try first | replace p2 := p2.of_eq (hbn.block _ p2.lt) | replace p2 := p2.below hbn); (try first | replace u2 := u2.of_eq (hbn.block _ u2.lt) | replace u2 := u2.below hbn)) | (refine wpList_storeB (t := 24) rfl _ _ rfl _ rfl _ rfl p2 (by kernel_rfl) rfl (by simp [Value.oneCell']) ?_; clear p2; intro wn ht hcn hzn; have hsz := B.size; replace hzn := Nat.le_of_eq hzn.symm; replace B := Chg.below B hcn (by omega) B.size; (try replace r1 := r1.of_eq (hcn.block _ r1.lt (by omega))); (try replace q1 := q1.of_eq (hcn.block _ q1.lt (by omega))); (try replace r2 := r2.of_eq (hcn.block _ r2.lt (by omega))); (try replace u2 := u2.of_eq (hcn.block _ u2.lt (by omega))); have p2 := ht; clear ht; simp only [Act.put, List.setIfInBounds_toArray, List.set_cons_zero, List.set_cons_succ]) | (have _ := r2; refine wpList_allocBk (t := 24) rfl _ (run_alloc_Ps _ _ rfl) ?_; intro b_p2 wn hle hge ht hbn hzn; have hsz := B.size; replace B := B.trans (hbn.mono (by omega)); have hln := Nat.lt_of_lt_of_eq (Nat.lt_succ_self _) hzn.symm; clear hzn; (try first | (have hlt := r1.lt; replace r1 := r1.of_eq (hbn.block _ (by omega))) | replace r1 := r1.below (hbn.mono hle)); (try first | (have hlt := q1.lt; replace q1 := q1.of_eq (hbn.block _ (by omega))) | replace q1 := q1.below (hbn.mono hle)); (try first | (have hlt := r2.lt; replace r2 := r2.of_eq (hbn.block _ (by omega))) | replace r2 := r2.below (hbn.mono hle)); (try first | (have hlt := p2.lt; replace p2 := p2.of_eq (hbn.block _ (by omega))) | replace p2 := p2.below (hbn.mono hle)); (try first | (have hlt := u2.lt; replace u2 := u2.of_eq (hbn.block _ (by omega))) | replace u2 := u2.below (hbn.mono hle)); have p2 := ht; clear ht; simp only [Act.put, List.setIfInBounds_toArray, List.set_cons_zero, List.set_cons_succ]) | (go_at_call 63; refine (P_At _ _ _ hx hy).mono ?_; rintro e wn ⟨rfl, hbn⟩; have hsz := B.size; have hzn := hbn.size; replace B := B.trans (hbn.mono B.size); (try first | replace r1 := r1.of_eq (hbn.block _ r1.lt) | replace r1 := r1.below hbn); (try first | replace q1 := q1.of_eq (hbn.block _ q1.lt) | replace q1 := q1.below hbn); (try first | replace r2 := r2.of_eq (hbn.block _ r2.lt) | replace r2 := r2.below hbn); (try first | replace p2 := p2.of_eq (hbn.block _ p2.lt) | replace p2 := p2.below hbn); (try first | replace u2 := u2.of_eq (hbn.block _ u2.lt) | replace u2 := u2.below hbn)) | (have _ := q1; refine wpList_allocBk (t := 30) rfl _ (run_alloc_R _ _ rfl) ?_; intro b_r2 wn hle hge ht hbn hzn; have hsz := B.size; replace B := B.trans (hbn.mono (by omega)); have hln := Nat.lt_of_lt_of_eq (Nat.lt_succ_self _) hzn.symm; clear hzn; (try first | (have hlt := r1.lt; replace r1 := r1.of_eq (hbn.block _ (by omega))) | replace r1 := r1.below (hbn.mono hle)); (try first | (have hlt := q1.lt; replace q1 := q1.of_eq (hbn.block _ (by omega))) | replace q1 := q1.below (hbn.mono hle)); (try first | (have hlt := r2.lt; replace r2 := r2.of_eq (hbn.block _ (by omega))) | replace r2 := r2.below (hbn.mono hle)); (try first | (have hlt := p2.lt; replace p2 := p2.of_eq (hbn.block _ (by omega))) | replace p2 := p2.below (hbn.mono hle)); (try first | (have hlt := u2.lt; replace u2 := u2.of_eq (hbn.block _ (by omega))) | replace u2 := u2.below (hbn.mono hle)); have r2 := ht; clear ht; simp only [Act.put, List.setIfInBounds_toArray, List.set_cons_zero, List.set_cons_succ]) | (have _ := r1; refine wpList_boxPx' rfl _ rfl _ rfl ?_; intro b_q1 wn hle hge ht hbn hzn; have hsz := B.size; replace B := B.trans (hbn.mono (by omega)); have hln := Nat.lt_of_lt_of_eq (Nat.lt_succ_self _) hzn.symm; clear hzn; (try first | (have hlt := r1.lt; replace r1 := r1.of_eq (hbn.block _ (by omega))) | replace r1 := r1.below (hbn.mono hle)); (try first | (have hlt := q1.lt; replace q1 := q1.of_eq (hbn.block _ (by omega))) | replace q1 := q1.below (hbn.mono hle)); (try first | (have hlt := r2.lt; replace r2 := r2.of_eq (hbn.block _ (by omega))) | replace r2 := r2.below (hbn.mono hle)); (try first | (have hlt := p2.lt; replace p2 := p2.of_eq (hbn.block _ (by omega))) | replace p2 := p2.below (hbn.mono hle)); (try first | (have hlt := u2.lt; replace u2 := u2.of_eq (hbn.block _ (by omega))) | replace u2 := u2.below (hbn.mono hle)); have q1 := ht; clear ht; simp only [Act.put, List.setIfInBounds_toArray, List.set_cons_zero, List.set_cons_succ]) | (refine wpList_loadAny (t := 30) rfl _ rfl _ _ _ rfl (run_load_B r1 Try.isAgg30 (by kernel_rfl)) (by rfl) ?_; simp only [Act.put, List.setIfInBounds_toArray, List.set_cons_zero, List.set_cons_succ]) | (refine wpList_boxB (t := 30) rfl _ rfl _ rfl ?_; intro b_r1 wn hle hge ht hbn hzn; have hsz := B.size; replace B := B.trans (hbn.mono (by omega)); have hln := Nat.lt_of_lt_of_eq (Nat.lt_succ_self _) hzn.symm; clear hzn; (try first | (have hlt := r1.lt; replace r1 := r1.of_eq (hbn.block _ (by omega))) | replace r1 := r1.below (hbn.mono hle)); (try first | (have hlt := q1.lt; replace q1 := q1.of_eq (hbn.block _ (by omega))) | replace q1 := q1.below (hbn.mono hle)); (try first | (have hlt := r2.lt; replace r2 := r2.of_eq (hbn.block _ (by omega))) | replace r2 := r2.below (hbn.mono hle)); (try first | (have hlt := p2.lt; replace p2 := p2.of_eq (hbn.block _ (by omega))) | replace p2 := p2.below (hbn.mono hle)); (try first | (have hlt := u2.lt; replace u2 := u2.of_eq (hbn.block _ (by omega))) | replace u2 := u2.below (hbn.mono hle)); have r1 := ht; clear ht; simp only [Act.put, List.setIfInBounds_toArray, List.set_cons_zero, List.set_cons_succ]) | fail)
  refine wp_region_ov_any 10 #[true, true, true, true, true, true, true, true, true, true, false, false, false, false, false] (by kernel_rfl) (by kernel_rfl) ?_
  simp only [List.length_cons, List.length_nil, Nat.reduceAdd, Nat.reduceSub, List.take_succ_cons, List.take_zero]
  repeat (first | go_big_quiet_skip | (go_big_quiet_want; first | (refine quiet_loadAny (t := 24) rfl _ _ _ rfl (fun w hw => run_load_B (ov_B p2 w hw) Try.isAgg24 (by kernel_rfl)) (by rfl) ?_; simp only [Act.put, List.setIfInBounds_toArray, List.set_cons_zero, List.set_cons_succ]; go_big_quiet_on) | (refine quiet_loadT rfl _ rfl (ov_tile u2) ?_; simp only [Act.put, List.setIfInBounds_toArray, List.set_cons_zero, List.set_cons_succ]; go_big_quiet_on) | (refine quiet_loadPx rfl _ rfl (ov_px q1) ?_; simp only [Act.put, List.setIfInBounds_toArray, List.set_cons_zero, List.set_cons_succ]; go_big_quiet_on) | (go_big_quiet_op; first | go_big_quiet_on | go_big_quiet_call ((first | (go_at_call 69; exact calls_ov (P_Set _ _ _ _ _)))))))
  refine wpQuiet_nil ?_
  intro wn hbn
  have hsz := B.size
  have hzn := hbn.size
  replace B := B.trans (hbn.mono B.size)
  try first | replace r1 := r1.of_eq (hbn.block _ r1.lt) | replace r1 := r1.below hbn
  try first | replace q1 := q1.of_eq (hbn.block _ q1.lt) | replace q1 := q1.below hbn
  try first | replace r2 := r2.of_eq (hbn.block _ r2.lt) | replace r2 := r2.below hbn
  try first | replace p2 := p2.of_eq (hbn.block _ p2.lt) | replace p2 := p2.below hbn
  try first | replace u2 := u2.of_eq (hbn.block _ u2.lt) | replace u2 := u2.below hbn
  refine any_next 10 rfl (by kernel_rfl) rfl (fun K hK => ?_)
  try simp only [List.getElem_toArray, List.getElem_cons_zero, List.getElem_cons_succ]
  go_simp
  go_at_call 28
  refine (P_Put _ (fineL ls) (x / 8) (y / 8) _ _ (HT.out _ B).2 TK.out hfl KK.out).mono ?_
  rintro e wn ⟨v1, rfl, rs1, hbn⟩
  obtain ⟨a1, c1, rfl, hc1⟩ := rs1.len
  have hsz := B.size
  have hzn := hbn.size
  replace B := B.trans (hbn.mono B.size)
  try first | replace r1 := r1.of_eq (hbn.block _ r1.lt) | replace r1 := r1.below hbn
  try first | replace q1 := q1.of_eq (hbn.block _ q1.lt) | replace q1 := q1.below hbn
  try first | replace r2 := r2.of_eq (hbn.block _ r2.lt) | replace r2 := r2.below hbn
  try first | replace p2 := p2.of_eq (hbn.block _ p2.lt) | replace p2 := p2.below hbn
  try first | replace u2 := u2.of_eq (hbn.block _ u2.lt) | replace u2 := u2.below hbn
  refine hK _ _ ?_
  clear hK K
  try simp only [List.getElem_toArray, List.getElem_cons_zero, List.getElem_cons_succ]
  simp only [Act.put, List.setIfInBounds_toArray, List.set_cons_zero, List.set_cons_succ]
  refine any_pure 11 rfl (by kernel_rfl) (by kernel_rfl) (by kernel_rfl) rfl (fun w => rfl) ?_
  try simp only [List.getElem_toArray, List.getElem_cons_zero, List.getElem_cons_succ]
  simp only [Act.put, List.setIfInBounds_toArray, List.set_cons_zero, List.set_cons_succ]
  refine any_pure 12 rfl (by kernel_rfl) (by kernel_rfl) (by kernel_rfl) rfl (fun w => rfl) ?_
  try simp only [List.getElem_toArray, List.getElem_cons_zero, List.getElem_cons_succ]
  simp only [Act.put, List.setIfInBounds_toArray, List.set_cons_zero, List.set_cons_succ]
  refine any_next 13 rfl (by kernel_rfl) rfl (fun K hK => ?_)
  try simp only [List.getElem_toArray, List.getElem_cons_zero, List.getElem_cons_succ]
  refine owp_storeB (t := 30) _ _ _ _ rfl rfl rfl r2 (by kernel_rfl) rfl (by simp [Value.oneCell']) ?_
  have r2o := r2
  clear r2
  intro wn r2 hcn hzn
  have hsz := B.size
  replace hzn := Nat.le_of_eq hzn.symm
  replace B := Chg.below B hcn (by omega) B.size
  try replace r1 := r1.of_eq (hcn.block _ r1.lt (by omega))
  try replace q1 := q1.of_eq (hcn.block _ q1.lt (by omega))
  try replace p2 := p2.of_eq (hcn.block _ p2.lt (by omega))
  try replace u2 := u2.of_eq (hcn.block _ u2.lt (by omega))
  replace rs1 := rs1.chg r2o (by simp) hcn
  clear r2o
  refine hK _ _ ?_
  clear hK K
  try simp only [List.getElem_toArray, List.getElem_cons_zero, List.getElem_cons_succ]
  simp only [Act.put, List.setIfInBounds_toArray, List.set_cons_zero, List.set_cons_succ]
  refine any_pure 14 rfl (by kernel_rfl) (by kernel_rfl) (by kernel_rfl) rfl (fun w => rfl) ?_
  try simp only [List.getElem_toArray, List.getElem_cons_zero, List.getElem_cons_succ]
  simp only [Act.put, List.setIfInBounds_toArray, List.set_cons_zero, List.set_cons_succ]
  refine any_end (by kernel_rfl) ?_
  go_wp2
  refine bodyPost_ret (results_B2 (t := 30) rfl _ _ (b_r2) rfl _ rfl r2 Try.isAgg30 (by kernel_rfl)) rfl ?_
  refine ⟨_, by rw [e1.out]; rfl, ?_, B⟩
  rw [e2.out]
  exact rs1
end Go.Proofs.Ytppccnjckiedlaa
