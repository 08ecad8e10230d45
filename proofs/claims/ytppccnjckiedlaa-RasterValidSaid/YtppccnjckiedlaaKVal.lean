import Derived.Test.YtppccnjckiedlaaK3
import Derived.Test.YtppccnjckiedlaaK2

/- RasterValid: for every generated raster with one tile changed, Valid agrees with the reference; the law returns true for every input, and its arguments read as they did. No condition. -/
namespace Go.Proofs.Ytppccnjckiedlaa
open Go.RowKit Go.Shelf Pl
set_option linter.unusedVariables false
set_option linter.unusedSimpArgs false
set_option maxRecDepth 20000
set_option maxHeartbeats 2000000 in
theorem walk_RasterValid (q : RawQ) (vL vT : Value) (L T : List Int) (n : Int) (hnw : (Lit.int .i64 n).wf = true) (w : World) (hL : RSE inE vL L w) (hLn : L.length ≤ 17592186044416) (hT : RSE inE vT T w) (hTn : T.length ≤ 17592186044416) :
    Calls Try.prog 3 #[.agg #[vL, .int .i64 q.at_, .int .i64 q.px, .int .i64 q.py, vT, .int .i64 q.how], .int .i64 n] w fun e w' => e = .returned (.bool true) ∧ Below w.heap.size w w' := by
  have B := Below.refl w.heap.size w
  have HL := Lib.hid hL
  have HT := Lib.hid hT
  clear hL hT
  have HN := Lib.hid (len_maxLen (Nat.le_trans (ofL_len q L T) (by omega)))
  have HM := Lib.hid (len_maxLen (Nat.le_trans (madeL_len L) (by omega)))
  obtain ⟨K, hK⟩ : ∃ K : Nat, 1020 + n % 8 = (K : Int) := ⟨(1020 + n % 8).toNat, by omega⟩
  have hK2 : 1020 ≤ K ∧ K ≤ 1027 := by omega
  have HF := Lib.hid (len_maxLen (n := (fullL K).length) (by rw [fullL_len]; omega))
  have b7 := bits_and7 n
  go_enter Try.func3, Try.ntmps3
  go_upto_region 4 with (first | (refine wpList_storeB (t := 30) rfl _ _ rfl _ rfl _ rfl r6 (by kernel_rfl) rfl (by simp [Value.oneCell']) ?_; have r6o := r6; clear r6; intro wn ht hcn hzn; replace rs1 := rs1.chg r6o (by simp) hcn; have hsz := B.size; replace hzn := Nat.le_of_eq hzn.symm; replace B := Chg.below B hcn (by omega) B.size; (try replace q1 := q1.of_eq (hcn.block _ q1.lt (by omega))); (try replace rs1 := rs1.of_eq (hcn.block _ rs1.lt (by omega))); have r6 := ht; clear ht; simp only [Act.put, List.setIfInBounds_toArray, List.set_cons_zero, List.set_cons_succ]) | (have _ := rs1; refine wpList_allocBk (t := 30) rfl _ (run_alloc_R _ _ rfl) ?_; intro b_r6 wn hle hge ht hbn hzn; have hsz := B.size; replace B := B.trans (hbn.mono (by omega)); have hln := Nat.lt_of_lt_of_eq (Nat.lt_succ_self _) hzn.symm; clear hzn; (try first | (have hlt := q1.lt; replace q1 := q1.of_eq (hbn.block _ (by omega))) | replace q1 := q1.below (hbn.mono hle)); (try first | (have hlt := r6.lt; replace r6 := r6.of_eq (hbn.block _ (by omega))) | replace r6 := r6.below (hbn.mono hle)); (try first | (have hlt := rs1.lt; replace rs1 := rs1.of_eq (hbn.block _ (by omega))) | replace rs1 := rs1.below (hbn.mono hle)); have r6 := ht; clear ht; simp only [Act.put, List.setIfInBounds_toArray, List.set_cons_zero, List.set_cons_succ]) | (go_at_call 15; refine (L_ofO q _ _ L T _ (HL.out.below B) hLn (HT.out.below B) hTn).mono ?_; rintro e wn ⟨a1, c1, rfl, rs1, hbn⟩; have hsz := B.size; have hzn := hbn.size; replace B := B.trans (hbn.mono B.size); try first | replace q1 := q1.of_eq (hbn.block _ q1.lt) | replace q1 := q1.below hbn) | (refine wpList_loadAny (t := 26) rfl _ rfl _ _ _ rfl (run_load_B q1 Try.isAgg26 (by kernel_rfl)) (by rfl) ?_; simp only [Act.put, List.setIfInBounds_toArray, List.set_cons_zero, List.set_cons_succ]) | (go_at_call 14; refine (sanity08 _).mono ?_; rintro e wn ⟨rfl, hbn⟩; have hsz := B.size; have hzn := hbn.size; replace B := B.trans (hbn.mono B.size); (try first | replace q1 := q1.of_eq (hbn.block _ q1.lt) | replace q1 := q1.below hbn)) | (refine wpList_boxB (t := 26) rfl _ rfl _ rfl ?_; intro b_q1 wn hle hge ht hbn hzn; have hsz := B.size; replace B := B.trans (hbn.mono (by omega)); have hln := Nat.lt_of_lt_of_eq (Nat.lt_succ_self _) hzn.symm; clear hzn; (try first | (have hlt := q1.lt; replace q1 := q1.of_eq (hbn.block _ (by omega))) | replace q1 := q1.below (hbn.mono hle)); (try first | (have hlt := r6.lt; replace r6 := r6.of_eq (hbn.block _ (by omega))) | replace r6 := r6.below (hbn.mono hle)); (try first | (have hlt := rs1.lt; replace rs1 := rs1.of_eq (hbn.block _ (by omega))) | replace rs1 := rs1.below (hbn.mono hle)); have q1 := ht; clear ht; simp only [Act.put, List.setIfInBounds_toArray, List.set_cons_zero, List.set_cons_succ]) | fail)
  clear b7 hK
  try have lx_q1 := q1.lt
  try have lx_r6 := r6.lt
  try have lx_rs1 := rs1.lt
  refine wp_region_RL 23 [(3, detS ?v3), (5, detS ?v5), (11, rasS (madeL L)), (12, detS ?v12), (16, rasS (fullL K)), (17, detS ?v17)] (by kernel_rfl) (by kernel_rfl) (by kernel_rfl) ?_
  rotate_left 4
  simp only [List.take_succ_cons, List.take_zero, List.drop_succ_cons, List.drop_zero, Nat.reduceAdd]
  refine wpRL_chunk 3 (by kernel_rfl) ?_
  simp only [List.take_succ_cons, List.take_zero, List.drop_succ_cons, List.drop_zero, Nat.reduceAdd]
  repeat (first | go_big_quiet_skip | (go_big_quiet_want; first | (refine quiet_loadAny (t := 30) rfl _ _ _ rfl (fun w hw => run_load_B (ov_B r6 w hw) Try.isAgg30 (by kernel_rfl)) (by rfl) ?_; simp only [Act.put, List.setIfInBounds_toArray, List.set_cons_zero, List.set_cons_succ]; go_big_quiet_on) | (refine quiet_loadAny (t := 22) rfl _ _ _ rfl (fun w hw => run_load_sli ((ov_B q1 w hw).cell 0 rfl)) (by rfl) ?_; simp only [Act.put, List.setIfInBounds_toArray, List.set_cons_zero, List.set_cons_succ]; go_big_quiet_on) | (go_big_quiet_op; go_big_quiet_on)))
  refine wpQuiet_nil ?_
  refine wpRL_callB (by rfl) (by first | rfl | simp [Region.wanted, yielded]) ?_ ?_
  · intro wn hbn hE Kx hKx
    have hsz := B.size
    have hzn := hbn.size
    replace B := B.trans (hbn.mono B.size)
    try first | replace q1 := q1.of_eq (hbn.block _ q1.lt) | replace q1 := q1.below hbn
    try first | replace r6 := r6.of_eq (hbn.block _ r6.lt) | replace r6 := r6.below hbn
    try first | replace rs1 := rs1.of_eq (hbn.block _ rs1.lt) | replace rs1 := rs1.below hbn
    go_simp
    go_at_call 16
    refine (P_Valid _ (ofL q L T) _ rs1 (ofL_tok q L T) HN.out).mono ?_
    rintro e wm ⟨rfl, hbm⟩
    exact hKx () wm trivial hbm
  rintro ⟨⟩
  dsimp only [detS]
  simp only [Act.put, List.setIfInBounds_toArray, List.set_cons_zero, List.set_cons_succ]
  refine wpRL_chunk 1 (by kernel_rfl) ?_
  simp only [List.take_succ_cons, List.take_zero, List.drop_succ_cons, List.drop_zero, Nat.reduceAdd]
  repeat (first | go_big_quiet_skip | (go_big_quiet_want; first | (refine quiet_loadAny (t := 30) rfl _ _ _ rfl (fun w hw => run_load_B (ov_B r6 w hw) Try.isAgg30 (by kernel_rfl)) (by rfl) ?_; simp only [Act.put, List.setIfInBounds_toArray, List.set_cons_zero, List.set_cons_succ]; go_big_quiet_on) | (refine quiet_loadAny (t := 22) rfl _ _ _ rfl (fun w hw => run_load_sli ((ov_B q1 w hw).cell 0 rfl)) (by rfl) ?_; simp only [Act.put, List.setIfInBounds_toArray, List.set_cons_zero, List.set_cons_succ]; go_big_quiet_on) | (go_big_quiet_op; go_big_quiet_on)))
  refine wpQuiet_nil ?_
  refine wpRL_callB (by rfl) (by first | rfl | simp [Region.wanted, yielded]) ?_ ?_
  · intro wn hbn hE Kx hKx
    have hsz := B.size
    have hzn := hbn.size
    replace B := B.trans (hbn.mono B.size)
    try first | replace q1 := q1.of_eq (hbn.block _ q1.lt) | replace q1 := q1.below hbn
    try first | replace r6 := r6.of_eq (hbn.block _ r6.lt) | replace r6 := r6.below hbn
    try first | replace rs1 := rs1.of_eq (hbn.block _ rs1.lt) | replace rs1 := rs1.below hbn
    go_simp
    go_at_call 17
    refine (R_Valid _ (ofL q L T) _ rs1 (ofL_tok q L T) HN.out).mono ?_
    rintro e wm ⟨rfl, hbm⟩
    exact hKx () wm trivial hbm
  rintro ⟨⟩
  dsimp only [detS]
  simp only [Act.put, List.setIfInBounds_toArray, List.set_cons_zero, List.set_cons_succ]
  refine wpRL_chunk 5 (by kernel_rfl) ?_
  simp only [List.take_succ_cons, List.take_zero, List.drop_succ_cons, List.drop_zero, Nat.reduceAdd]
  repeat (first | go_big_quiet_skip | (go_big_quiet_want; first | (refine quiet_loadAny (t := 30) rfl _ _ _ rfl (fun w hw => run_load_B (ov_B r6 w hw) Try.isAgg30 (by kernel_rfl)) (by rfl) ?_; simp only [Act.put, List.setIfInBounds_toArray, List.set_cons_zero, List.set_cons_succ]; go_big_quiet_on) | (refine quiet_loadAny (t := 22) rfl _ _ _ rfl (fun w hw => run_load_sli ((ov_B q1 w hw).cell 0 rfl)) (by rfl) ?_; simp only [Act.put, List.setIfInBounds_toArray, List.set_cons_zero, List.set_cons_succ]; go_big_quiet_on) | (go_big_quiet_op; go_big_quiet_on)))
  refine wpQuiet_nil ?_
  refine wpRL_callB (by rfl) (by first | rfl | simp [Region.wanted, yielded]) ?_ ?_
  · intro wn hbn hE Kx hKx
    have hsz := B.size
    have hzn := hbn.size
    replace B := B.trans (hbn.mono B.size)
    try first | replace q1 := q1.of_eq (hbn.block _ q1.lt) | replace q1 := q1.below hbn
    try first | replace r6 := r6.of_eq (hbn.block _ r6.lt) | replace r6 := r6.below hbn
    try first | replace rs1 := rs1.of_eq (hbn.block _ rs1.lt) | replace rs1 := rs1.below hbn
    go_simp
    go_at_call 18
    refine (R_Made8 _ L _ (HL.out.below B) hLn).mono ?_
    rintro e wm ⟨v', rfl, hr, hbm⟩
    obtain ⟨a', c', rfl, _⟩ := hr.len
    exact hKx (a', c') wm hr hbm
  rintro ⟨a25, c25⟩
  dsimp only [detS, rasS]
  simp only [Act.put, List.setIfInBounds_toArray, List.set_cons_zero, List.set_cons_succ]
  refine wpRL_callB (by rfl) (by first | rfl | simp [Region.wanted, yielded]) ?_ ?_
  · intro wn hbn hE Kx hKx
    have hsz := B.size
    have hzn := hbn.size
    replace B := B.trans (hbn.mono B.size)
    try first | replace q1 := q1.of_eq (hbn.block _ q1.lt) | replace q1 := q1.below hbn
    try first | replace r6 := r6.of_eq (hbn.block _ r6.lt) | replace r6 := r6.below hbn
    try first | replace rs1 := rs1.of_eq (hbn.block _ rs1.lt) | replace rs1 := rs1.below hbn
    have n25 := hE 11 (by kernel_rfl)
    change RS _ _ _ at n25
    go_simp
    go_at_call 16
    refine (P_ValidB _ (madeL L) _ wn n25 (madeL_tok L) HM.out (madeL_valid L)).mono ?_
    rintro e wm ⟨rfl, hbm⟩
    exact hKx () wm trivial hbm
  rintro ⟨⟩
  dsimp only [detS]
  simp only [Act.put, List.setIfInBounds_toArray, List.set_cons_zero, List.set_cons_succ]
  refine wpRL_chunk 3 (by kernel_rfl) ?_
  simp only [List.take_succ_cons, List.take_zero, List.drop_succ_cons, List.drop_zero, Nat.reduceAdd]
  repeat (first | go_big_quiet_skip | (go_big_quiet_want; first | (refine quiet_loadAny (t := 30) rfl _ _ _ rfl (fun w hw => run_load_B (ov_B r6 w hw) Try.isAgg30 (by kernel_rfl)) (by rfl) ?_; simp only [Act.put, List.setIfInBounds_toArray, List.set_cons_zero, List.set_cons_succ]; go_big_quiet_on) | (refine quiet_loadAny (t := 22) rfl _ _ _ rfl (fun w hw => run_load_sli ((ov_B q1 w hw).cell 0 rfl)) (by rfl) ?_; simp only [Act.put, List.setIfInBounds_toArray, List.set_cons_zero, List.set_cons_succ]; go_big_quiet_on) | (go_big_quiet_op; go_big_quiet_on)))
  refine wpQuiet_nil ?_
  refine wpRL_callB (by rfl) (by first | rfl | simp [Region.wanted, yielded]) ?_ ?_
  · intro wn hbn hE Kx hKx
    have hsz := B.size
    have hzn := hbn.size
    replace B := B.trans (hbn.mono B.size)
    try first | replace q1 := q1.of_eq (hbn.block _ q1.lt) | replace q1 := q1.below hbn
    try first | replace r6 := r6.of_eq (hbn.block _ r6.lt) | replace r6 := r6.below hbn
    try first | replace rs1 := rs1.of_eq (hbn.block _ rs1.lt) | replace rs1 := rs1.below hbn
    go_simp
    go_at_call 19
    refine (R_Full K (by omega) _).mono ?_
    rintro e wm ⟨v', rfl, hr, hbm⟩
    obtain ⟨a', c', rfl, _⟩ := hr.len
    exact hKx (a', c') wm hr hbm
  rintro ⟨a30, c30⟩
  dsimp only [detS, rasS]
  simp only [Act.put, List.setIfInBounds_toArray, List.set_cons_zero, List.set_cons_succ]
  refine wpRL_callB (by rfl) (by first | rfl | simp [Region.wanted, yielded]) ?_ ?_
  · intro wn hbn hE Kx hKx
    have hsz := B.size
    have hzn := hbn.size
    replace B := B.trans (hbn.mono B.size)
    try first | replace q1 := q1.of_eq (hbn.block _ q1.lt) | replace q1 := q1.below hbn
    try first | replace r6 := r6.of_eq (hbn.block _ r6.lt) | replace r6 := r6.below hbn
    try first | replace rs1 := rs1.of_eq (hbn.block _ rs1.lt) | replace rs1 := rs1.below hbn
    have n30 := hE 16 (by kernel_rfl)
    change RS _ _ _ at n30
    go_simp
    go_at_call 16
    refine (P_ValidB _ (fullL K) _ wn n30 (fullL_tok K) HF.out (fullL_valid K)).mono ?_
    rintro e wm ⟨rfl, hbm⟩
    exact hKx () wm trivial hbm
  rintro ⟨⟩
  dsimp only [detS]
  simp only [Act.put, List.setIfInBounds_toArray, List.set_cons_zero, List.set_cons_succ]
  refine wpRL_chunk 5 (by kernel_rfl) ?_
  simp only [List.take_succ_cons, List.take_zero, List.drop_succ_cons, List.drop_zero, Nat.reduceAdd]
  repeat (first | go_big_quiet_skip | (go_big_quiet_want; first | (refine quiet_loadAny (t := 30) rfl _ _ _ rfl (fun w hw => run_load_B (ov_B r6 w hw) Try.isAgg30 (by kernel_rfl)) (by rfl) ?_; simp only [Act.put, List.setIfInBounds_toArray, List.set_cons_zero, List.set_cons_succ]; go_big_quiet_on) | (refine quiet_loadAny (t := 22) rfl _ _ _ rfl (fun w hw => run_load_sli ((ov_B q1 w hw).cell 0 rfl)) (by rfl) ?_; simp only [Act.put, List.setIfInBounds_toArray, List.set_cons_zero, List.set_cons_succ]; go_big_quiet_on) | (go_big_quiet_op; go_big_quiet_on)))
  refine wpQuiet_nil ?_
  refine wpRL_nil ?_
  intro wn hbn hE
  have hsz := B.size
  have hzn := hbn.size
  replace B := B.trans (hbn.mono B.size)
  try first | replace q1 := q1.of_eq (hbn.block _ q1.lt) | replace q1 := q1.below hbn
  try first | replace r6 := r6.of_eq (hbn.block _ r6.lt) | replace r6 := r6.below hbn
  try first | replace rs1 := rs1.of_eq (hbn.block _ rs1.lt) | replace rs1 := rs1.below hbn
  have n25 := hE 11
  change RS _ _ _ at n25
  have n30 := hE 16
  change RS _ _ _ at n30
  clear hE
  try simp only [List.drop_succ_cons, List.drop_zero]
  refine NoPan.normal ?_
  go_wp2
  go_ret
  exact ⟨rfl, B⟩
namespace rasterValid
open Go.ChangeShapes Go.WideShapes Go.ChangeAt Go.RowKit
open Go.ChangeMaps (open_string shut_string)
set_option maxRecDepth 100000 in
theorem lifted (os : Os) (started : os.Started) (H : Type) (enc : TypeId × Value → H) :
    ReturnsInHanded {} Try.checked os 3 .any (Rows.rasterValidSpec.pre6 enc Try.prog Try.f3 Rows.rasterValidRow.domain false) (Rows.rasterValidSpec.post enc Try.prog Try.f3 false true false false) := by
  refine returnsInHanded_of_change_sized (C := Try.checked) own started (by kernel_rfl) Try.func3
    (ChangeSpec.witness6 (enc := enc) (C := Try.checked) false ⟨#[], #[.agg #[.slice none 0 0, .int .i64 0, .int .i64 0, .int .i64 0, .slice none 0 0, .int .i64 0], .int .i64 0], []⟩ 8 (by kernel_rfl) (by kernel_rfl) (by kernel_rfl) (by kernel_rfl)) ?_
  intro W base args ds gs before hval0 hW hcnd hsz0 _
  have hval : ∀ (j : Nat) t v, Try.f3.params[j]? = some t → args[j]? = some v → Value.okWide Try.prog W .any base t v := hval0
  have hW' := hW
  obtain ⟨p, q, hA0, hV, rfl, hfz, hnd⟩ := hW
  have hA : DataW.TrodAll enc Try.prog W 0 (fun _ => true) true Try.f3.params.toList args.toList ds p := hA0
  rw [Try.params3] at hA hval hsz0
  obtain ⟨v0, vs0, d0, ds0, p0, q0, hargs, rfl, rfl, h0, r0⟩ := trodAll_cons hA
  obtain ⟨v1, vs1, d1, ds1, p1, q1, rfl, rfl, rfl, h1, r1⟩ := trodAll_cons r0
  obtain ⟨rfl, rfl, rfl⟩ := trodAll_nil r1
  obtain rfl : args = #[v0, v1] := by cases args; simp_all
  obtain ⟨rfl, rfl⟩ := trodVars_none hV
  have hwt0 : ∀ n ∈ DataW.weights Try.prog 26 d0, n ≤ reachBytes := fun n hn => by simpa using List.all_eq_true.1 hsz0 n (DataW.weights_mem_each (j := 0) rfl rfl n hn)
  have k0 := h0
  have lt0 : ∀ x ∈ p0, x.block < W.heap.size := by obtain ⟨m, hm⟩ := k0; exact DataW.trod_lt m _ _ _ hm
  have k1 := h1
  have lt1 : ∀ x ∈ p1, x.block < W.heap.size := by obtain ⟨m, hm⟩ := k1; exact DataW.trod_lt m _ _ _ hm
  obtain ⟨a0, vl0, vt0, L0, T0, rfl, hL0, hLn0, hT0, hTn0⟩ := open_raw (hval 0 26 v0 rfl rfl) h0 hwt0
  obtain ⟨a1, rfl, rfl, rfl, w1⟩ := open_int Try.underlying3 (hval 1 3 v1 rfl rfl) h1
  clear hA0 hval0
  refine (walk_RasterValid a0 vl0 vt0 L0 T0 a1  w1 W hL0 hLn0 hT0 hTn0).mono fun e W' ⟨he, bel⟩ => ?_
  subst he
  exact ⟨_, rfl, _, _, _, [], _, [], hW', trodAll_mk1 (shut_bool Try.underlying4 _), (trodAll_cons_mk (Below.trod laidOut (by kernel_rfl) (of_decide_eq_true (by kernel_rfl)) k0 bel lt0) (trodAll_cons_mk (Below.trod laidOut (by kernel_rfl) (of_decide_eq_true (by kernel_rfl)) k1 bel lt1) trodAll_mk0)), rfl, bel.frame _, fun h => by cases h⟩
theorem over : Rows.rasterValidRow.holds Try.pinned (OpenSpec.ofChange Rows.rasterValidSpec) :=
  OpenClaim.holds_of_wide 3 Try.f3 rfl rfl rfl rfl rfl rfl rfl ⟨rfl, rfl, rfl, rfl, rfl⟩ rfl rfl rfl rfl rfl (by kernel_rfl) Try.func3 (by kernel_rfl)
    (of_decide_eq_true (by kernel_rfl)) (by unfold Func.isWrapper; first | (rw [if_pos (by decide +kernel)]; kernel_rfl) | (rw [if_neg (by decide +kernel)]; exact ⟨rfl, rfl⟩))
    (fun os started H enc _ => lifted os started H enc)
/-- THE STATEMENT: RasterValid returns true for every input, and its arguments read as they did. -/
theorem proved : Rows.RasterValidSaid := over
end rasterValid
end Go.Proofs.Ytppccnjckiedlaa
