/- Contracts of package rect and of its reference: Floor by 8, At, Valid, Area, Intersect, Union; fits of package raster and of its reference. -/
import Derived.Test.YtppccnjckiedlaaRc
namespace Go.Proofs.Ytppccnjckiedlaa
open Go.RowKit Pl
set_option linter.unusedVariables false
set_option linter.unusedSimpArgs false
set_option maxRecDepth 20000

theorem tdiv_neg8 (x : Int) (h : x < 0) : (x.tmod 8 = 0 → x.tdiv 8 = x / 8) ∧ (x.tmod 8 ≠ 0 → x.tdiv 8 - 1 = x / 8) := by
  obtain ⟨n, rfl⟩ : ∃ n : Nat, x = -(n : Int) := ⟨(-x).toNat, by omega⟩
  have e1 : (-(n : Int)).tdiv 8 = -((n : Int) / 8) := by rw [Int.neg_tdiv]; rfl
  have e2 : (-(n : Int)).tmod 8 = -((n : Int) % 8) := by rw [Int.neg_tmod]; rfl
  rw [e1, e2]
  constructor <;> intro h2 <;> omega
set_option maxHeartbeats 1000000 in
theorem P_Floor8 (x : Int) (w : World) (hx : (Lit.int .i64 x).wf = true) : Calls Try.prog 102 #[.int .i64 x, .int .i64 8] w fun e w' => e = .returned (.int .i64 (x / 8)) ∧ w = w' := by
  have hmin : IntKind.i64.min = -9223372036854775808 := rfl
  have hmax : IntKind.i64.max = 9223372036854775807 := rfl
  simp only [Lit.wf, Bool.and_eq_true, decide_eq_true_eq] at hx
  rw [hmin, hmax] at hx
  obtain ⟨l1, l2⟩ := hx
  clear hmin hmax
  by_cases h0 : 0 ≤ x
  · have h1 : ¬ x < 0 := by omega
    have d1 : decide (x < 0) = false := decide_eq_false h1
    by_cases hm : x % 8 = 0
    · have e1 : (x % 8 == 0) = true := by simpa using hm
      go_enter Try.func102, Try.ntmps102
      go_wp2
      go_ret
      exact ⟨rfl, rfl⟩
    · have e1 : (x % 8 == 0) = false := by simpa using hm
      go_enter Try.func102, Try.ntmps102
      go_wp2
      go_ret
      exact ⟨rfl, rfl⟩
  · have h1 : x < 0 := by omega
    have d1 : decide (x < 0) = true := decide_eq_true h1
    obtain ⟨t1, t2⟩ := tdiv_neg8 x h1
    by_cases hm : x.tmod 8 = 0
    · have E := Lib.hid (t1 hm)
      have e1 : (x.tmod 8 == 0) = true := by simpa using hm
      have hb : -9223372036854775808 ≤ x.tdiv 8 ∧ x.tdiv 8 ≤ 0 := by rw [E.out]; omega
      clear t1 t2 h0
      go_enter Try.func102, Try.ntmps102
      go_wp2
      go_ret
      exact ⟨ret_int E.out, rfl⟩
    · have E := Lib.hid (t2 hm)
      have e1 : (x.tmod 8 == 0) = false := by simpa using hm
      have hb : -9223372036854775807 ≤ x.tdiv 8 ∧ x.tdiv 8 ≤ 0 := by have := E.out; omega
      clear t1 t2 h0
      go_enter Try.func102, Try.ntmps102
      go_wp2
      go_ret
      exact ⟨ret_int E.out, rfl⟩
set_option maxHeartbeats 1000000 in
theorem R_Floor8 (x : Int) (w : World) (hx : (Lit.int .i64 x).wf = true) : Calls Try.prog 103 #[.int .i64 x, .int .i64 8] w fun e w' => e = .returned (.int .i64 (x / 8)) ∧ w = w' := by
  have hmin : IntKind.i64.min = -9223372036854775808 := rfl
  have hmax : IntKind.i64.max = 9223372036854775807 := rfl
  simp only [Lit.wf, Bool.and_eq_true, decide_eq_true_eq] at hx
  rw [hmin, hmax] at hx
  obtain ⟨l1, l2⟩ := hx
  clear hmin hmax
  by_cases h0 : 0 ≤ x
  · have h1 : ¬ x < 0 := by omega
    have d1 : decide (x < 0) = false := decide_eq_false h1
    by_cases hm : x % 8 = 0
    · have e1 : (x % 8 == 0) = true := by simpa using hm
      go_enter Try.func103, Try.ntmps103
      go_wp2
      go_ret
      exact ⟨rfl, rfl⟩
    · have e1 : (x % 8 == 0) = false := by simpa using hm
      go_enter Try.func103, Try.ntmps103
      go_wp2
      go_ret
      exact ⟨rfl, rfl⟩
  · have h1 : x < 0 := by omega
    have d1 : decide (x < 0) = true := decide_eq_true h1
    obtain ⟨t1, t2⟩ := tdiv_neg8 x h1
    by_cases hm : x.tmod 8 = 0
    · have E := Lib.hid (t1 hm)
      have e1 : (x.tmod 8 == 0) = true := by simpa using hm
      have hb : -9223372036854775808 ≤ x.tdiv 8 ∧ x.tdiv 8 ≤ 0 := by rw [E.out]; omega
      clear t1 t2 h0
      go_enter Try.func103, Try.ntmps103
      go_wp2
      go_ret
      exact ⟨ret_int E.out, rfl⟩
    · have E := Lib.hid (t2 hm)
      have e1 : (x.tmod 8 == 0) = false := by simpa using hm
      have hb : -9223372036854775807 ≤ x.tdiv 8 ∧ x.tdiv 8 ≤ 0 := by have := E.out; omega
      clear t1 t2 h0
      go_enter Try.func103, Try.ntmps103
      go_wp2
      go_ret
      exact ⟨ret_int E.out, rfl⟩
theorem P_At (x y : Int) (w : World) (hx : (Lit.int .i64 x).wf = true) (hy : (Lit.int .i64 y).wf = true) : Calls Try.prog 63 #[Ps.v x y] w fun e w' => e = .returned (Ps.v (x / 8) (y / 8)) ∧ Below w.heap.size w w' := by
  have B := Below.refl w.heap.size w
  simp only [Ps.v]
  go_enter Try.func63, Try.ntmps63
  go_wp2_with (first | (have _ := p1; refine wpList_allocBk (t := 24) rfl _ (run_alloc_Ps _ _ rfl) ?_; intro b_p2 wn hle hge ht hbn hzn; have hsz := B.size; replace B := B.trans (hbn.mono (by omega)); have hln := Nat.lt_of_lt_of_eq (Nat.lt_succ_self _) hzn.symm; clear hzn; (try first | (have hlt := p1.lt; replace p1 := p1.of_eq (hbn.block _ (by omega))) | replace p1 := p1.below (hbn.mono hle)); (try first | (have hlt := p2.lt; replace p2 := p2.of_eq (hbn.block _ (by omega))) | replace p2 := p2.below (hbn.mono hle)); have p2 := ht; clear ht; simp only [Act.put, List.setIfInBounds_toArray, List.set_cons_zero, List.set_cons_succ]) | (refine wpList_boxB (t := 83) rfl _ rfl _ rfl ?_; intro b_p1 wn hle hge ht hbn hzn; have hsz := B.size; replace B := B.trans (hbn.mono (by omega)); have hln := Nat.lt_of_lt_of_eq (Nat.lt_succ_self _) hzn.symm; clear hzn; (try first | (have hlt := p1.lt; replace p1 := p1.of_eq (hbn.block _ (by omega))) | replace p1 := p1.below (hbn.mono hle)); (try first | (have hlt := p2.lt; replace p2 := p2.of_eq (hbn.block _ (by omega))) | replace p2 := p2.below (hbn.mono hle)); have p1 := ht; clear ht; simp only [Act.put, List.setIfInBounds_toArray, List.set_cons_zero, List.set_cons_succ]))
  refine wp_region_ov_tail 7 (by kernel_rfl) (by kernel_rfl) ?_
  simp only [List.take_succ_cons, List.take_zero, List.drop_succ_cons, List.drop_zero]
  repeat (first | go_big_quiet_skip | (go_big_quiet_want; first | (refine quiet_loadAny (t := 3) rfl _ _ _ rfl (fun w hw => run_load_int ((ov_B p1 w hw).cell 0 rfl)) (by rfl) ?_; simp only [Act.put, List.setIfInBounds_toArray, List.set_cons_zero, List.set_cons_succ]; go_big_quiet_on) | (refine quiet_loadAny (t := 3) rfl _ _ _ rfl (fun w hw => run_load_int ((ov_B p1 w hw).cell 1 rfl)) (by rfl) ?_; simp only [Act.put, List.setIfInBounds_toArray, List.set_cons_zero, List.set_cons_succ]; go_big_quiet_on) | (go_big_quiet_op; first | go_big_quiet_on | go_big_quiet_call ((first | (go_at_call 102; exact calls_ov_same (P_Floor8 _ _ hx)) | (go_at_call 102; exact calls_ov_same (P_Floor8 _ _ hy)))))))
  refine wpQuiet_nil ?_
  intro wn hbn
  have hsz := B.size
  have hzn := hbn.size
  replace B := B.trans (hbn.mono B.size)
  try first | replace p1 := p1.of_eq (hbn.block _ p1.lt) | replace p1 := p1.below hbn
  try first | replace p2 := p2.of_eq (hbn.block _ p2.lt) | replace p2 := p2.below hbn
  go_wp2_with (first | (refine wpList_storeB (t := 24) rfl _ _ rfl _ rfl _ rfl p2 (by kernel_rfl) rfl (by simp [Value.oneCell']) ?_; clear p2; intro wn ht hcn hzn; have hsz := B.size; replace hzn := Nat.le_of_eq hzn.symm; replace B := Chg.below B hcn (by omega) B.size; (try replace p1 := p1.of_eq (hcn.block _ p1.lt (by omega))); have p2 := ht; clear ht; simp only [Act.put, List.setIfInBounds_toArray, List.set_cons_zero, List.set_cons_succ]))
  refine bodyPost_ret (results_B (t := 24) rfl _ _ (b_p2) rfl p2 Try.isAgg24 (by kernel_rfl)) rfl ?_
  exact ⟨rfl, B⟩
theorem R_At (x y : Int) (w : World) (hx : (Lit.int .i64 x).wf = true) (hy : (Lit.int .i64 y).wf = true) : Calls Try.prog 64 #[.int .i64 x, .int .i64 y] w fun e w' => e = .returned (Ps.v (x / 8) (y / 8)) ∧ Below w.heap.size w w' := by
  have B := Below.refl w.heap.size w
  simp only [Ps.v]
  go_enter Try.func64, Try.ntmps64
  go_wp2_with (first | (refine wpList_storeB (t := 24) rfl _ _ rfl _ rfl _ rfl p2 (by kernel_rfl) rfl (by simp [Value.oneCell']) ?_; clear p2; intro wn ht hcn hzn; have hsz := B.size; replace hzn := Nat.le_of_eq hzn.symm; replace B := Chg.below B hcn (by omega) B.size; (try replace p1 := p1.of_eq (hcn.block _ p1.lt (by omega))); have p2 := ht; clear ht; simp only [Act.put, List.setIfInBounds_toArray, List.set_cons_zero, List.set_cons_succ]) | (go_at_call 103; ((with_reducible refine (R_Floor8 x _ hx).mono ?_)); rintro e w' ⟨rfl, rfl⟩) | (go_at_call 103; ((with_reducible refine (R_Floor8 y _ hy).mono ?_)); rintro e w' ⟨rfl, rfl⟩) | (refine wpList_allocBk (t := 24) rfl _ (run_alloc_Ps _ _ rfl) ?_; intro b_p2 wn hle hge ht hbn hzn; have hsz := B.size; replace B := B.trans (hbn.mono (by omega)); have hln := Nat.lt_of_lt_of_eq (Nat.lt_succ_self _) hzn.symm; clear hzn; (try first | (have hlt := p1.lt; replace p1 := p1.of_eq (hbn.block _ (by omega))) | replace p1 := p1.below (hbn.mono hle)); (try first | (have hlt := p2.lt; replace p2 := p2.of_eq (hbn.block _ (by omega))) | replace p2 := p2.below (hbn.mono hle)); have p2 := ht; clear ht; simp only [Act.put, List.setIfInBounds_toArray, List.set_cons_zero, List.set_cons_succ]))
  refine bodyPost_ret (results_B (t := 24) rfl _ _ (b_p2) rfl p2 Try.isAgg24 (by kernel_rfl)) rfl ?_
  exact ⟨rfl, B⟩
theorem validR_iff (r : Rc) : validR r = true ↔ (r.x0 < r.x1 ∧ r.y0 < r.y1) ∧ (-65536 ≤ r.x0 ∧ -65536 ≤ r.y0 ∧ r.x1 ≤ 65536 ∧ r.y1 ≤ 65536) := by
  unfold validR emptyR limR
  rw [Bool.and_eq_true, Bool.not_eq_true', decide_eq_false_iff_not, decide_eq_true_iff]
  constructor <;> rintro ⟨h1, h2⟩ <;> refine ⟨?_, h2⟩ <;> omega
set_option maxHeartbeats 2000000 in
theorem P_InsideL (r : Rc) (w : World) (hE : emptyR r = false) : Calls Try.prog 107 #[Rc.v r, Rc.v ⟨-65536, -65536, 65536, 65536⟩] w fun e w' => e = .returned (.bool (limR r)) ∧ Below w.heap.size w w' := by
  obtain ⟨a, b, c, d⟩ := r
  have B := Below.refl w.heap.size w
  simp only [Rc.v_mk]
  by_cases h0 : -65536 ≤ a
  · by_cases h1 : c ≤ 65536
    · by_cases h2 : -65536 ≤ b
      · by_cases h3 : d ≤ 65536
        · rw [show limR ⟨a, b, c, d⟩ = true from by unfold limR; exact decide_eq_true (by simp only; omega)]
          have d0 : decide (-65536 ≤ a) = true := decide_eq_true h0
          have d1 : decide (c ≤ 65536) = true := decide_eq_true h1
          have d2 : decide (-65536 ≤ b) = true := decide_eq_true h2
          have d3 : decide (d ≤ 65536) = true := decide_eq_true h3
          go_enter Try.func107, Try.ntmps107
          go_wp2_with (first | (go_at_call 105; refine (P_Empty ⟨a, b, c, d⟩ _).mono ?_; rintro e wn ⟨rfl, hbn⟩; have hsz := B.size; have hzn := hbn.size; replace B := B.trans (hbn.mono B.size); (try first | replace r1 := r1.of_eq (hbn.block _ r1.lt) | replace r1 := r1.below hbn); (try first | replace r2 := r2.of_eq (hbn.block _ r2.lt) | replace r2 := r2.below hbn); have c_r1_0 := r1.cell 0 rfl; have c_r1_1 := r1.cell 1 rfl; have c_r1_2 := r1.cell 2 rfl; have c_r1_3 := r1.cell 3 rfl; have c_r2_0 := r2.cell 0 rfl; have c_r2_1 := r2.cell 1 rfl; have c_r2_2 := r2.cell 2 rfl; have c_r2_3 := r2.cell 3 rfl) | (have _ := r1; refine wpList_boxB (t := 64) rfl _ rfl _ rfl ?_; intro b_r2 wn hle hge ht hbn hzn; have hsz := B.size; replace B := B.trans (hbn.mono (by omega)); have hln := Nat.lt_of_lt_of_eq (Nat.lt_succ_self _) hzn.symm; clear hzn; (try first | (have hlt := r1.lt; replace r1 := r1.of_eq (hbn.block _ (by omega))) | replace r1 := r1.below (hbn.mono hle)); (try first | (have hlt := r2.lt; replace r2 := r2.of_eq (hbn.block _ (by omega))) | replace r2 := r2.below (hbn.mono hle)); have r2 := ht; clear ht; simp only [Act.put, List.setIfInBounds_toArray, List.set_cons_zero, List.set_cons_succ]) | (refine wpList_boxB (t := 64) rfl _ rfl _ rfl ?_; intro b_r1 wn hle hge ht hbn hzn; have hsz := B.size; replace B := B.trans (hbn.mono (by omega)); have hln := Nat.lt_of_lt_of_eq (Nat.lt_succ_self _) hzn.symm; clear hzn; (try first | (have hlt := r1.lt; replace r1 := r1.of_eq (hbn.block _ (by omega))) | replace r1 := r1.below (hbn.mono hle)); (try first | (have hlt := r2.lt; replace r2 := r2.of_eq (hbn.block _ (by omega))) | replace r2 := r2.below (hbn.mono hle)); have r1 := ht; clear ht; simp only [Act.put, List.setIfInBounds_toArray, List.set_cons_zero, List.set_cons_succ]) | (refine wpList_loadAny (t := 64) rfl _ rfl _ _ _ rfl (run_load_B r1 Try.isAgg64 (by kernel_rfl)) (by rfl) ?_; simp only [Act.put, List.setIfInBounds_toArray, List.set_cons_zero, List.set_cons_succ]) | fail)
          go_ret
          exact ⟨rfl, B⟩
        · rw [show limR ⟨a, b, c, d⟩ = false from by unfold limR; exact decide_eq_false (by simp only; omega)]
          have d0 : decide (-65536 ≤ a) = true := decide_eq_true h0
          have d1 : decide (c ≤ 65536) = true := decide_eq_true h1
          have d2 : decide (-65536 ≤ b) = true := decide_eq_true h2
          have d3 : decide (d ≤ 65536) = false := decide_eq_false h3
          go_enter Try.func107, Try.ntmps107
          go_wp2_with (first | (go_at_call 105; refine (P_Empty ⟨a, b, c, d⟩ _).mono ?_; rintro e wn ⟨rfl, hbn⟩; have hsz := B.size; have hzn := hbn.size; replace B := B.trans (hbn.mono B.size); (try first | replace r1 := r1.of_eq (hbn.block _ r1.lt) | replace r1 := r1.below hbn); (try first | replace r2 := r2.of_eq (hbn.block _ r2.lt) | replace r2 := r2.below hbn); have c_r1_0 := r1.cell 0 rfl; have c_r1_1 := r1.cell 1 rfl; have c_r1_2 := r1.cell 2 rfl; have c_r1_3 := r1.cell 3 rfl; have c_r2_0 := r2.cell 0 rfl; have c_r2_1 := r2.cell 1 rfl; have c_r2_2 := r2.cell 2 rfl; have c_r2_3 := r2.cell 3 rfl) | (have _ := r1; refine wpList_boxB (t := 64) rfl _ rfl _ rfl ?_; intro b_r2 wn hle hge ht hbn hzn; have hsz := B.size; replace B := B.trans (hbn.mono (by omega)); have hln := Nat.lt_of_lt_of_eq (Nat.lt_succ_self _) hzn.symm; clear hzn; (try first | (have hlt := r1.lt; replace r1 := r1.of_eq (hbn.block _ (by omega))) | replace r1 := r1.below (hbn.mono hle)); (try first | (have hlt := r2.lt; replace r2 := r2.of_eq (hbn.block _ (by omega))) | replace r2 := r2.below (hbn.mono hle)); have r2 := ht; clear ht; simp only [Act.put, List.setIfInBounds_toArray, List.set_cons_zero, List.set_cons_succ]) | (refine wpList_boxB (t := 64) rfl _ rfl _ rfl ?_; intro b_r1 wn hle hge ht hbn hzn; have hsz := B.size; replace B := B.trans (hbn.mono (by omega)); have hln := Nat.lt_of_lt_of_eq (Nat.lt_succ_self _) hzn.symm; clear hzn; (try first | (have hlt := r1.lt; replace r1 := r1.of_eq (hbn.block _ (by omega))) | replace r1 := r1.below (hbn.mono hle)); (try first | (have hlt := r2.lt; replace r2 := r2.of_eq (hbn.block _ (by omega))) | replace r2 := r2.below (hbn.mono hle)); have r1 := ht; clear ht; simp only [Act.put, List.setIfInBounds_toArray, List.set_cons_zero, List.set_cons_succ]) | (refine wpList_loadAny (t := 64) rfl _ rfl _ _ _ rfl (run_load_B r1 Try.isAgg64 (by kernel_rfl)) (by rfl) ?_; simp only [Act.put, List.setIfInBounds_toArray, List.set_cons_zero, List.set_cons_succ]) | fail)
          go_ret
          exact ⟨rfl, B⟩
      · rw [show limR ⟨a, b, c, d⟩ = false from by unfold limR; exact decide_eq_false (by simp only; omega)]
        have d0 : decide (-65536 ≤ a) = true := decide_eq_true h0
        have d1 : decide (c ≤ 65536) = true := decide_eq_true h1
        have d2 : decide (-65536 ≤ b) = false := decide_eq_false h2
        go_enter Try.func107, Try.ntmps107
        go_wp2_with (first | (go_at_call 105; refine (P_Empty ⟨a, b, c, d⟩ _).mono ?_; rintro e wn ⟨rfl, hbn⟩; have hsz := B.size; have hzn := hbn.size; replace B := B.trans (hbn.mono B.size); (try first | replace r1 := r1.of_eq (hbn.block _ r1.lt) | replace r1 := r1.below hbn); (try first | replace r2 := r2.of_eq (hbn.block _ r2.lt) | replace r2 := r2.below hbn); have c_r1_0 := r1.cell 0 rfl; have c_r1_1 := r1.cell 1 rfl; have c_r1_2 := r1.cell 2 rfl; have c_r1_3 := r1.cell 3 rfl; have c_r2_0 := r2.cell 0 rfl; have c_r2_1 := r2.cell 1 rfl; have c_r2_2 := r2.cell 2 rfl; have c_r2_3 := r2.cell 3 rfl) | (have _ := r1; refine wpList_boxB (t := 64) rfl _ rfl _ rfl ?_; intro b_r2 wn hle hge ht hbn hzn; have hsz := B.size; replace B := B.trans (hbn.mono (by omega)); have hln := Nat.lt_of_lt_of_eq (Nat.lt_succ_self _) hzn.symm; clear hzn; (try first | (have hlt := r1.lt; replace r1 := r1.of_eq (hbn.block _ (by omega))) | replace r1 := r1.below (hbn.mono hle)); (try first | (have hlt := r2.lt; replace r2 := r2.of_eq (hbn.block _ (by omega))) | replace r2 := r2.below (hbn.mono hle)); have r2 := ht; clear ht; simp only [Act.put, List.setIfInBounds_toArray, List.set_cons_zero, List.set_cons_succ]) | (refine wpList_boxB (t := 64) rfl _ rfl _ rfl ?_; intro b_r1 wn hle hge ht hbn hzn; have hsz := B.size; replace B := B.trans (hbn.mono (by omega)); have hln := Nat.lt_of_lt_of_eq (Nat.lt_succ_self _) hzn.symm; clear hzn; (try first | (have hlt := r1.lt; replace r1 := r1.of_eq (hbn.block _ (by omega))) | replace r1 := r1.below (hbn.mono hle)); (try first | (have hlt := r2.lt; replace r2 := r2.of_eq (hbn.block _ (by omega))) | replace r2 := r2.below (hbn.mono hle)); have r1 := ht; clear ht; simp only [Act.put, List.setIfInBounds_toArray, List.set_cons_zero, List.set_cons_succ]) | (refine wpList_loadAny (t := 64) rfl _ rfl _ _ _ rfl (run_load_B r1 Try.isAgg64 (by kernel_rfl)) (by rfl) ?_; simp only [Act.put, List.setIfInBounds_toArray, List.set_cons_zero, List.set_cons_succ]) | fail)
        go_ret
        exact ⟨rfl, B⟩
    · rw [show limR ⟨a, b, c, d⟩ = false from by unfold limR; exact decide_eq_false (by simp only; omega)]
      have d0 : decide (-65536 ≤ a) = true := decide_eq_true h0
      have d1 : decide (c ≤ 65536) = false := decide_eq_false h1
      go_enter Try.func107, Try.ntmps107
      go_wp2_with (first | (go_at_call 105; refine (P_Empty ⟨a, b, c, d⟩ _).mono ?_; rintro e wn ⟨rfl, hbn⟩; have hsz := B.size; have hzn := hbn.size; replace B := B.trans (hbn.mono B.size); (try first | replace r1 := r1.of_eq (hbn.block _ r1.lt) | replace r1 := r1.below hbn); (try first | replace r2 := r2.of_eq (hbn.block _ r2.lt) | replace r2 := r2.below hbn); have c_r1_0 := r1.cell 0 rfl; have c_r1_1 := r1.cell 1 rfl; have c_r1_2 := r1.cell 2 rfl; have c_r1_3 := r1.cell 3 rfl; have c_r2_0 := r2.cell 0 rfl; have c_r2_1 := r2.cell 1 rfl; have c_r2_2 := r2.cell 2 rfl; have c_r2_3 := r2.cell 3 rfl) | (have _ := r1; refine wpList_boxB (t := 64) rfl _ rfl _ rfl ?_; intro b_r2 wn hle hge ht hbn hzn; have hsz := B.size; replace B := B.trans (hbn.mono (by omega)); have hln := Nat.lt_of_lt_of_eq (Nat.lt_succ_self _) hzn.symm; clear hzn; (try first | (have hlt := r1.lt; replace r1 := r1.of_eq (hbn.block _ (by omega))) | replace r1 := r1.below (hbn.mono hle)); (try first | (have hlt := r2.lt; replace r2 := r2.of_eq (hbn.block _ (by omega))) | replace r2 := r2.below (hbn.mono hle)); have r2 := ht; clear ht; simp only [Act.put, List.setIfInBounds_toArray, List.set_cons_zero, List.set_cons_succ]) | (refine wpList_boxB (t := 64) rfl _ rfl _ rfl ?_; intro b_r1 wn hle hge ht hbn hzn; have hsz := B.size; replace B := B.trans (hbn.mono (by omega)); have hln := Nat.lt_of_lt_of_eq (Nat.lt_succ_self _) hzn.symm; clear hzn; (try first | (have hlt := r1.lt; replace r1 := r1.of_eq (hbn.block _ (by omega))) | replace r1 := r1.below (hbn.mono hle)); (try first | (have hlt := r2.lt; replace r2 := r2.of_eq (hbn.block _ (by omega))) | replace r2 := r2.below (hbn.mono hle)); have r1 := ht; clear ht; simp only [Act.put, List.setIfInBounds_toArray, List.set_cons_zero, List.set_cons_succ]) | (refine wpList_loadAny (t := 64) rfl _ rfl _ _ _ rfl (run_load_B r1 Try.isAgg64 (by kernel_rfl)) (by rfl) ?_; simp only [Act.put, List.setIfInBounds_toArray, List.set_cons_zero, List.set_cons_succ]) | fail)
      go_ret
      exact ⟨rfl, B⟩
  · rw [show limR ⟨a, b, c, d⟩ = false from by unfold limR; exact decide_eq_false (by simp only; omega)]
    have d0 : decide (-65536 ≤ a) = false := decide_eq_false h0
    go_enter Try.func107, Try.ntmps107
    go_wp2_with (first | (go_at_call 105; refine (P_Empty ⟨a, b, c, d⟩ _).mono ?_; rintro e wn ⟨rfl, hbn⟩; have hsz := B.size; have hzn := hbn.size; replace B := B.trans (hbn.mono B.size); (try first | replace r1 := r1.of_eq (hbn.block _ r1.lt) | replace r1 := r1.below hbn); (try first | replace r2 := r2.of_eq (hbn.block _ r2.lt) | replace r2 := r2.below hbn); have c_r1_0 := r1.cell 0 rfl; have c_r1_1 := r1.cell 1 rfl; have c_r1_2 := r1.cell 2 rfl; have c_r1_3 := r1.cell 3 rfl; have c_r2_0 := r2.cell 0 rfl; have c_r2_1 := r2.cell 1 rfl; have c_r2_2 := r2.cell 2 rfl; have c_r2_3 := r2.cell 3 rfl) | (have _ := r1; refine wpList_boxB (t := 64) rfl _ rfl _ rfl ?_; intro b_r2 wn hle hge ht hbn hzn; have hsz := B.size; replace B := B.trans (hbn.mono (by omega)); have hln := Nat.lt_of_lt_of_eq (Nat.lt_succ_self _) hzn.symm; clear hzn; (try first | (have hlt := r1.lt; replace r1 := r1.of_eq (hbn.block _ (by omega))) | replace r1 := r1.below (hbn.mono hle)); (try first | (have hlt := r2.lt; replace r2 := r2.of_eq (hbn.block _ (by omega))) | replace r2 := r2.below (hbn.mono hle)); have r2 := ht; clear ht; simp only [Act.put, List.setIfInBounds_toArray, List.set_cons_zero, List.set_cons_succ]) | (refine wpList_boxB (t := 64) rfl _ rfl _ rfl ?_; intro b_r1 wn hle hge ht hbn hzn; have hsz := B.size; replace B := B.trans (hbn.mono (by omega)); have hln := Nat.lt_of_lt_of_eq (Nat.lt_succ_self _) hzn.symm; clear hzn; (try first | (have hlt := r1.lt; replace r1 := r1.of_eq (hbn.block _ (by omega))) | replace r1 := r1.below (hbn.mono hle)); (try first | (have hlt := r2.lt; replace r2 := r2.of_eq (hbn.block _ (by omega))) | replace r2 := r2.below (hbn.mono hle)); have r1 := ht; clear ht; simp only [Act.put, List.setIfInBounds_toArray, List.set_cons_zero, List.set_cons_succ]) | (refine wpList_loadAny (t := 64) rfl _ rfl _ _ _ rfl (run_load_B r1 Try.isAgg64 (by kernel_rfl)) (by rfl) ?_; simp only [Act.put, List.setIfInBounds_toArray, List.set_cons_zero, List.set_cons_succ]) | fail)
    go_ret
    exact ⟨rfl, B⟩
theorem P_ValidR (r : Rc) (w : World) : Calls Try.prog 91 #[Rc.v r] w fun e w' => e = .returned (.bool (validR r)) ∧ Below w.heap.size w w' := by
  obtain ⟨a, b, c, d⟩ := r
  have B := Below.refl w.heap.size w
  simp only [Rc.v_mk]
  by_cases hE : emptyR ⟨a, b, c, d⟩ = true
  · rw [show validR ⟨a, b, c, d⟩ = false from by unfold validR; rw [hE]; rfl]
    go_enter Try.func91, Try.ntmps91
    go_wp2_with (first | (go_at_call 105; refine (P_Empty ⟨a, b, c, d⟩ _).mono ?_; rintro e wn ⟨rfl, hbn⟩; have hsz := B.size; have hzn := hbn.size; replace B := B.trans (hbn.mono B.size); (try first | replace r1 := r1.of_eq (hbn.block _ r1.lt) | replace r1 := r1.below hbn); have c_r1_0 := r1.cell 0 rfl; have c_r1_1 := r1.cell 1 rfl; have c_r1_2 := r1.cell 2 rfl; have c_r1_3 := r1.cell 3 rfl) | (go_at_call 107; refine (P_InsideL ⟨a, b, c, d⟩ _ hE').mono ?_; rintro e wn ⟨rfl, hbn⟩; have hsz := B.size; have hzn := hbn.size; replace B := B.trans (hbn.mono B.size); (try first | replace r1 := r1.of_eq (hbn.block _ r1.lt) | replace r1 := r1.below hbn)) | (refine wpList_boxB (t := 64) rfl _ rfl _ rfl ?_; intro b_r1 wn hle hge ht hbn hzn; have hsz := B.size; replace B := B.trans (hbn.mono (by omega)); have hln := Nat.lt_of_lt_of_eq (Nat.lt_succ_self _) hzn.symm; clear hzn; (try first | (have hlt := r1.lt; replace r1 := r1.of_eq (hbn.block _ (by omega))) | replace r1 := r1.below (hbn.mono hle)); have r1 := ht; clear ht; simp only [Act.put, List.setIfInBounds_toArray, List.set_cons_zero, List.set_cons_succ]) | (refine wpList_loadAny (t := 64) rfl _ rfl _ _ _ rfl (run_load_B r1 Try.isAgg64 (by kernel_rfl)) (by rfl) ?_; simp only [Act.put, List.setIfInBounds_toArray, List.set_cons_zero, List.set_cons_succ]) | fail)
    go_ret
    exact ⟨rfl, B⟩
  · have hE' : emptyR ⟨a, b, c, d⟩ = false := by simpa using hE
    rw [show validR ⟨a, b, c, d⟩ = limR ⟨a, b, c, d⟩ from by unfold validR; rw [hE']; rfl]
    clear hE
    go_enter Try.func91, Try.ntmps91
    go_wp2_with (first | (go_at_call 105; refine (P_Empty ⟨a, b, c, d⟩ _).mono ?_; rintro e wn ⟨rfl, hbn⟩; have hsz := B.size; have hzn := hbn.size; replace B := B.trans (hbn.mono B.size); (try first | replace r1 := r1.of_eq (hbn.block _ r1.lt) | replace r1 := r1.below hbn); have c_r1_0 := r1.cell 0 rfl; have c_r1_1 := r1.cell 1 rfl; have c_r1_2 := r1.cell 2 rfl; have c_r1_3 := r1.cell 3 rfl) | (go_at_call 107; refine (P_InsideL ⟨a, b, c, d⟩ _ hE').mono ?_; rintro e wn ⟨rfl, hbn⟩; have hsz := B.size; have hzn := hbn.size; replace B := B.trans (hbn.mono B.size); (try first | replace r1 := r1.of_eq (hbn.block _ r1.lt) | replace r1 := r1.below hbn)) | (refine wpList_boxB (t := 64) rfl _ rfl _ rfl ?_; intro b_r1 wn hle hge ht hbn hzn; have hsz := B.size; replace B := B.trans (hbn.mono (by omega)); have hln := Nat.lt_of_lt_of_eq (Nat.lt_succ_self _) hzn.symm; clear hzn; (try first | (have hlt := r1.lt; replace r1 := r1.of_eq (hbn.block _ (by omega))) | replace r1 := r1.below (hbn.mono hle)); have r1 := ht; clear ht; simp only [Act.put, List.setIfInBounds_toArray, List.set_cons_zero, List.set_cons_succ]) | (refine wpList_loadAny (t := 64) rfl _ rfl _ _ _ rfl (run_load_B r1 Try.isAgg64 (by kernel_rfl)) (by rfl) ?_; simp only [Act.put, List.setIfInBounds_toArray, List.set_cons_zero, List.set_cons_succ]) | fail)
    go_ret
    exact ⟨rfl, B⟩
set_option maxHeartbeats 2000000 in
theorem R_ValidR (r : Rc) (w : World) : Calls Try.prog 35 #[Rc.v r] w fun e w' => e = .returned (.bool (validR r)) ∧ Below w.heap.size w w' := by
  obtain ⟨a, b, c, d⟩ := r
  have B := Below.refl w.heap.size w
  simp only [Rc.v_mk]
  by_cases hE : emptyR ⟨a, b, c, d⟩ = true
  · rw [show validR ⟨a, b, c, d⟩ = false from by unfold validR; rw [hE]; rfl]
    go_enter Try.func35, Try.ntmps35
    go_wp2_with (first | (go_at_call 82; refine (R_Empty ⟨a, b, c, d⟩ _).mono ?_; rintro e wn ⟨rfl, hbn⟩; have hsz := B.size; have hzn := hbn.size; replace B := B.trans (hbn.mono B.size); (try first | replace r1 := r1.of_eq (hbn.block _ r1.lt) | replace r1 := r1.below hbn); have c_r1_0 := r1.cell 0 rfl; have c_r1_1 := r1.cell 1 rfl; have c_r1_2 := r1.cell 2 rfl; have c_r1_3 := r1.cell 3 rfl) | (refine wpList_boxB (t := 64) rfl _ rfl _ rfl ?_; intro b_r1 wn hle hge ht hbn hzn; have hsz := B.size; replace B := B.trans (hbn.mono (by omega)); have hln := Nat.lt_of_lt_of_eq (Nat.lt_succ_self _) hzn.symm; clear hzn; (try first | (have hlt := r1.lt; replace r1 := r1.of_eq (hbn.block _ (by omega))) | replace r1 := r1.below (hbn.mono hle)); have r1 := ht; clear ht; simp only [Act.put, List.setIfInBounds_toArray, List.set_cons_zero, List.set_cons_succ]) | (refine wpList_loadAny (t := 64) rfl _ rfl _ _ _ rfl (run_load_B r1 Try.isAgg64 (by kernel_rfl)) (by rfl) ?_; simp only [Act.put, List.setIfInBounds_toArray, List.set_cons_zero, List.set_cons_succ]) | fail)
    go_ret
    exact ⟨rfl, B⟩
  · have hE' : emptyR ⟨a, b, c, d⟩ = false := by simpa using hE
    rw [show validR ⟨a, b, c, d⟩ = limR ⟨a, b, c, d⟩ from by unfold validR; rw [hE']; rfl]
    clear hE
    by_cases h0 : -65536 ≤ a
    · by_cases h1 : -65536 ≤ b
      · by_cases h2 : c ≤ 65536
        · by_cases h3 : d ≤ 65536
          · rw [show limR ⟨a, b, c, d⟩ = true from by unfold limR; exact decide_eq_true (by simp only; omega)]
            have d0 : decide (-65536 ≤ a) = true := decide_eq_true h0
            have d1 : decide (-65536 ≤ b) = true := decide_eq_true h1
            have d2 : decide (c ≤ 65536) = true := decide_eq_true h2
            have d3 : decide (d ≤ 65536) = true := decide_eq_true h3
            go_enter Try.func35, Try.ntmps35
            go_wp2_with (first | (go_at_call 82; refine (R_Empty ⟨a, b, c, d⟩ _).mono ?_; rintro e wn ⟨rfl, hbn⟩; have hsz := B.size; have hzn := hbn.size; replace B := B.trans (hbn.mono B.size); (try first | replace r1 := r1.of_eq (hbn.block _ r1.lt) | replace r1 := r1.below hbn); have c_r1_0 := r1.cell 0 rfl; have c_r1_1 := r1.cell 1 rfl; have c_r1_2 := r1.cell 2 rfl; have c_r1_3 := r1.cell 3 rfl) | (refine wpList_boxB (t := 64) rfl _ rfl _ rfl ?_; intro b_r1 wn hle hge ht hbn hzn; have hsz := B.size; replace B := B.trans (hbn.mono (by omega)); have hln := Nat.lt_of_lt_of_eq (Nat.lt_succ_self _) hzn.symm; clear hzn; (try first | (have hlt := r1.lt; replace r1 := r1.of_eq (hbn.block _ (by omega))) | replace r1 := r1.below (hbn.mono hle)); have r1 := ht; clear ht; simp only [Act.put, List.setIfInBounds_toArray, List.set_cons_zero, List.set_cons_succ]) | (refine wpList_loadAny (t := 64) rfl _ rfl _ _ _ rfl (run_load_B r1 Try.isAgg64 (by kernel_rfl)) (by rfl) ?_; simp only [Act.put, List.setIfInBounds_toArray, List.set_cons_zero, List.set_cons_succ]) | fail)
            go_ret
            exact ⟨rfl, B⟩
          · rw [show limR ⟨a, b, c, d⟩ = false from by unfold limR; exact decide_eq_false (by simp only; omega)]
            have d0 : decide (-65536 ≤ a) = true := decide_eq_true h0
            have d1 : decide (-65536 ≤ b) = true := decide_eq_true h1
            have d2 : decide (c ≤ 65536) = true := decide_eq_true h2
            have d3 : decide (d ≤ 65536) = false := decide_eq_false h3
            go_enter Try.func35, Try.ntmps35
            go_wp2_with (first | (go_at_call 82; refine (R_Empty ⟨a, b, c, d⟩ _).mono ?_; rintro e wn ⟨rfl, hbn⟩; have hsz := B.size; have hzn := hbn.size; replace B := B.trans (hbn.mono B.size); (try first | replace r1 := r1.of_eq (hbn.block _ r1.lt) | replace r1 := r1.below hbn); have c_r1_0 := r1.cell 0 rfl; have c_r1_1 := r1.cell 1 rfl; have c_r1_2 := r1.cell 2 rfl; have c_r1_3 := r1.cell 3 rfl) | (refine wpList_boxB (t := 64) rfl _ rfl _ rfl ?_; intro b_r1 wn hle hge ht hbn hzn; have hsz := B.size; replace B := B.trans (hbn.mono (by omega)); have hln := Nat.lt_of_lt_of_eq (Nat.lt_succ_self _) hzn.symm; clear hzn; (try first | (have hlt := r1.lt; replace r1 := r1.of_eq (hbn.block _ (by omega))) | replace r1 := r1.below (hbn.mono hle)); have r1 := ht; clear ht; simp only [Act.put, List.setIfInBounds_toArray, List.set_cons_zero, List.set_cons_succ]) | (refine wpList_loadAny (t := 64) rfl _ rfl _ _ _ rfl (run_load_B r1 Try.isAgg64 (by kernel_rfl)) (by rfl) ?_; simp only [Act.put, List.setIfInBounds_toArray, List.set_cons_zero, List.set_cons_succ]) | fail)
            go_ret
            exact ⟨rfl, B⟩
        · rw [show limR ⟨a, b, c, d⟩ = false from by unfold limR; exact decide_eq_false (by simp only; omega)]
          have d0 : decide (-65536 ≤ a) = true := decide_eq_true h0
          have d1 : decide (-65536 ≤ b) = true := decide_eq_true h1
          have d2 : decide (c ≤ 65536) = false := decide_eq_false h2
          go_enter Try.func35, Try.ntmps35
          go_wp2_with (first | (go_at_call 82; refine (R_Empty ⟨a, b, c, d⟩ _).mono ?_; rintro e wn ⟨rfl, hbn⟩; have hsz := B.size; have hzn := hbn.size; replace B := B.trans (hbn.mono B.size); (try first | replace r1 := r1.of_eq (hbn.block _ r1.lt) | replace r1 := r1.below hbn); have c_r1_0 := r1.cell 0 rfl; have c_r1_1 := r1.cell 1 rfl; have c_r1_2 := r1.cell 2 rfl; have c_r1_3 := r1.cell 3 rfl) | (refine wpList_boxB (t := 64) rfl _ rfl _ rfl ?_; intro b_r1 wn hle hge ht hbn hzn; have hsz := B.size; replace B := B.trans (hbn.mono (by omega)); have hln := Nat.lt_of_lt_of_eq (Nat.lt_succ_self _) hzn.symm; clear hzn; (try first | (have hlt := r1.lt; replace r1 := r1.of_eq (hbn.block _ (by omega))) | replace r1 := r1.below (hbn.mono hle)); have r1 := ht; clear ht; simp only [Act.put, List.setIfInBounds_toArray, List.set_cons_zero, List.set_cons_succ]) | (refine wpList_loadAny (t := 64) rfl _ rfl _ _ _ rfl (run_load_B r1 Try.isAgg64 (by kernel_rfl)) (by rfl) ?_; simp only [Act.put, List.setIfInBounds_toArray, List.set_cons_zero, List.set_cons_succ]) | fail)
          go_ret
          exact ⟨rfl, B⟩
      · rw [show limR ⟨a, b, c, d⟩ = false from by unfold limR; exact decide_eq_false (by simp only; omega)]
        have d0 : decide (-65536 ≤ a) = true := decide_eq_true h0
        have d1 : decide (-65536 ≤ b) = false := decide_eq_false h1
        go_enter Try.func35, Try.ntmps35
        go_wp2_with (first | (go_at_call 82; refine (R_Empty ⟨a, b, c, d⟩ _).mono ?_; rintro e wn ⟨rfl, hbn⟩; have hsz := B.size; have hzn := hbn.size; replace B := B.trans (hbn.mono B.size); (try first | replace r1 := r1.of_eq (hbn.block _ r1.lt) | replace r1 := r1.below hbn); have c_r1_0 := r1.cell 0 rfl; have c_r1_1 := r1.cell 1 rfl; have c_r1_2 := r1.cell 2 rfl; have c_r1_3 := r1.cell 3 rfl) | (refine wpList_boxB (t := 64) rfl _ rfl _ rfl ?_; intro b_r1 wn hle hge ht hbn hzn; have hsz := B.size; replace B := B.trans (hbn.mono (by omega)); have hln := Nat.lt_of_lt_of_eq (Nat.lt_succ_self _) hzn.symm; clear hzn; (try first | (have hlt := r1.lt; replace r1 := r1.of_eq (hbn.block _ (by omega))) | replace r1 := r1.below (hbn.mono hle)); have r1 := ht; clear ht; simp only [Act.put, List.setIfInBounds_toArray, List.set_cons_zero, List.set_cons_succ]) | (refine wpList_loadAny (t := 64) rfl _ rfl _ _ _ rfl (run_load_B r1 Try.isAgg64 (by kernel_rfl)) (by rfl) ?_; simp only [Act.put, List.setIfInBounds_toArray, List.set_cons_zero, List.set_cons_succ]) | fail)
        go_ret
        exact ⟨rfl, B⟩
    · rw [show limR ⟨a, b, c, d⟩ = false from by unfold limR; exact decide_eq_false (by simp only; omega)]
      have d0 : decide (-65536 ≤ a) = false := decide_eq_false h0
      go_enter Try.func35, Try.ntmps35
      go_wp2_with (first | (go_at_call 82; refine (R_Empty ⟨a, b, c, d⟩ _).mono ?_; rintro e wn ⟨rfl, hbn⟩; have hsz := B.size; have hzn := hbn.size; replace B := B.trans (hbn.mono B.size); (try first | replace r1 := r1.of_eq (hbn.block _ r1.lt) | replace r1 := r1.below hbn); have c_r1_0 := r1.cell 0 rfl; have c_r1_1 := r1.cell 1 rfl; have c_r1_2 := r1.cell 2 rfl; have c_r1_3 := r1.cell 3 rfl) | (refine wpList_boxB (t := 64) rfl _ rfl _ rfl ?_; intro b_r1 wn hle hge ht hbn hzn; have hsz := B.size; replace B := B.trans (hbn.mono (by omega)); have hln := Nat.lt_of_lt_of_eq (Nat.lt_succ_self _) hzn.symm; clear hzn; (try first | (have hlt := r1.lt; replace r1 := r1.of_eq (hbn.block _ (by omega))) | replace r1 := r1.below (hbn.mono hle)); have r1 := ht; clear ht; simp only [Act.put, List.setIfInBounds_toArray, List.set_cons_zero, List.set_cons_succ]) | (refine wpList_loadAny (t := 64) rfl _ rfl _ _ _ rfl (run_load_B r1 Try.isAgg64 (by kernel_rfl)) (by rfl) ?_; simp only [Act.put, List.setIfInBounds_toArray, List.set_cons_zero, List.set_cons_succ]) | fail)
      go_ret
      exact ⟨rfl, B⟩
theorem P_Area (r : Rc) (w : World) (hv : validR r = true) : Calls Try.prog 78 #[Rc.v r] w fun e w' => e = .returned (.int .i64 (areaR r)) ∧ Below w.heap.size w w' := by
  have hv2 := (validR_iff r).1 hv
  obtain ⟨a, b, c, d⟩ := r
  simp only at hv2
  obtain ⟨⟨l1, l2⟩, l3, l4, l5, l6⟩ := hv2
  have hE : emptyR ⟨a, b, c, d⟩ = false := by unfold emptyR; exact decide_eq_false (by simp only; omega)
  have hm := mul_bd (a := c - a) (b := d - b) (m := 131072) (k := 131072) (by omega) (by omega) (by omega) (by omega)
  obtain ⟨m1, m2⟩ := hm
  have B := Below.refl w.heap.size w
  rw [show areaR ⟨a, b, c, d⟩ = (c - a) * (d - b) from by unfold areaR; rw [hE]; rfl]
  clear hv
  simp only [Rc.v_mk]
  go_enter Try.func78, Try.ntmps78
  go_wp2_with (first | (go_at_call 105; refine (P_Empty ⟨a, b, c, d⟩ _).mono ?_; rintro e wn ⟨rfl, hbn⟩; have hsz := B.size; have hzn := hbn.size; replace B := B.trans (hbn.mono B.size); (try first | replace r1 := r1.of_eq (hbn.block _ r1.lt) | replace r1 := r1.below hbn); have c_r1_0 := r1.cell 0 rfl; have c_r1_1 := r1.cell 1 rfl; have c_r1_2 := r1.cell 2 rfl; have c_r1_3 := r1.cell 3 rfl) | (refine wpList_boxB (t := 64) rfl _ rfl _ rfl ?_; intro b_r1 wn hle hge ht hbn hzn; have hsz := B.size; replace B := B.trans (hbn.mono (by omega)); have hln := Nat.lt_of_lt_of_eq (Nat.lt_succ_self _) hzn.symm; clear hzn; (try first | (have hlt := r1.lt; replace r1 := r1.of_eq (hbn.block _ (by omega))) | replace r1 := r1.below (hbn.mono hle)); have r1 := ht; clear ht; simp only [Act.put, List.setIfInBounds_toArray, List.set_cons_zero, List.set_cons_succ]) | (refine wpList_loadAny (t := 64) rfl _ rfl _ _ _ rfl (run_load_B r1 Try.isAgg64 (by kernel_rfl)) (by rfl) ?_; simp only [Act.put, List.setIfInBounds_toArray, List.set_cons_zero, List.set_cons_succ]) | fail)
  go_ret
  exact ⟨rfl, B⟩
theorem R_Area (r : Rc) (w : World) (hv : validR r = true) : Calls Try.prog 36 #[Rc.v r] w fun e w' => e = .returned (.int .i64 (areaR r)) ∧ Below w.heap.size w w' := by
  have hv2 := (validR_iff r).1 hv
  obtain ⟨a, b, c, d⟩ := r
  simp only at hv2
  obtain ⟨⟨l1, l2⟩, l3, l4, l5, l6⟩ := hv2
  have hE : emptyR ⟨a, b, c, d⟩ = false := by unfold emptyR; exact decide_eq_false (by simp only; omega)
  have hm := mul_bd (a := c - a) (b := d - b) (m := 131072) (k := 131072) (by omega) (by omega) (by omega) (by omega)
  obtain ⟨m1, m2⟩ := hm
  have B := Below.refl w.heap.size w
  rw [show areaR ⟨a, b, c, d⟩ = (c - a) * (d - b) from by unfold areaR; rw [hE]; rfl]
  clear hv
  simp only [Rc.v_mk]
  go_enter Try.func36, Try.ntmps36
  go_wp2_with (first | (go_at_call 82; refine (R_Empty ⟨a, b, c, d⟩ _).mono ?_; rintro e wn ⟨rfl, hbn⟩; have hsz := B.size; have hzn := hbn.size; replace B := B.trans (hbn.mono B.size); (try first | replace r1 := r1.of_eq (hbn.block _ r1.lt) | replace r1 := r1.below hbn); have c_r1_0 := r1.cell 0 rfl; have c_r1_1 := r1.cell 1 rfl; have c_r1_2 := r1.cell 2 rfl; have c_r1_3 := r1.cell 3 rfl) | (refine wpList_boxB (t := 64) rfl _ rfl _ rfl ?_; intro b_r1 wn hle hge ht hbn hzn; have hsz := B.size; replace B := B.trans (hbn.mono (by omega)); have hln := Nat.lt_of_lt_of_eq (Nat.lt_succ_self _) hzn.symm; clear hzn; (try first | (have hlt := r1.lt; replace r1 := r1.of_eq (hbn.block _ (by omega))) | replace r1 := r1.below (hbn.mono hle)); have r1 := ht; clear ht; simp only [Act.put, List.setIfInBounds_toArray, List.set_cons_zero, List.set_cons_succ]) | (refine wpList_loadAny (t := 64) rfl _ rfl _ _ _ rfl (run_load_B r1 Try.isAgg64 (by kernel_rfl)) (by rfl) ?_; simp only [Act.put, List.setIfInBounds_toArray, List.set_cons_zero, List.set_cons_succ]) | fail)
  go_ret
  exact ⟨rfl, B⟩
/-- The error of a requested rectangle. -/
def fitsE (r : Rc) : Int := if validR r = true then (if 256 < r.x1 - r.x0 ∨ 256 < r.y1 - r.y0 then 45 else 0) else 1
set_option maxHeartbeats 1000000 in
theorem P_fits (r : Rc) (w : World) : Calls Try.prog 77 #[Rc.v r] w fun e w' => e = .returned (.int .i64 (fitsE r)) ∧ Below w.heap.size w w' := by
  have hv2 := (validR_iff r).1
  obtain ⟨a, b, c, d⟩ := r
  have B := Below.refl w.heap.size w
  simp only [Rc.v_mk]
  by_cases hv : validR ⟨a, b, c, d⟩ = true
  · obtain ⟨⟨l1, l2⟩, l3, l4, l5, l6⟩ := hv2 hv
    simp only at l1 l2 l3 l4 l5 l6
    clear hv2
    by_cases h0 : 256 < c - a
    · rw [show fitsE ⟨a, b, c, d⟩ = 45 from by unfold fitsE; rw [if_pos hv, if_pos (by simp only; omega)]]
      have d0 : decide (256 < c - a) = true := decide_eq_true h0
      go_enter Try.func77, Try.ntmps77
      go_wp2_with (first | (go_at_call 91; refine (P_ValidR ⟨a, b, c, d⟩ _).mono ?_; rintro e wn ⟨rfl, hbn⟩; have hsz := B.size; have hzn := hbn.size; replace B := B.trans (hbn.mono B.size); (try first | replace r1 := r1.of_eq (hbn.block _ r1.lt) | replace r1 := r1.below hbn); have c_r1_0 := r1.cell 0 rfl; have c_r1_1 := r1.cell 1 rfl; have c_r1_2 := r1.cell 2 rfl; have c_r1_3 := r1.cell 3 rfl) | (refine wpList_boxB (t := 64) rfl _ rfl _ rfl ?_; intro b_r1 wn hle hge ht hbn hzn; have hsz := B.size; replace B := B.trans (hbn.mono (by omega)); have hln := Nat.lt_of_lt_of_eq (Nat.lt_succ_self _) hzn.symm; clear hzn; (try first | (have hlt := r1.lt; replace r1 := r1.of_eq (hbn.block _ (by omega))) | replace r1 := r1.below (hbn.mono hle)); have r1 := ht; clear ht; simp only [Act.put, List.setIfInBounds_toArray, List.set_cons_zero, List.set_cons_succ]) | (refine wpList_loadAny (t := 64) rfl _ rfl _ _ _ rfl (run_load_B r1 Try.isAgg64 (by kernel_rfl)) (by rfl) ?_; simp only [Act.put, List.setIfInBounds_toArray, List.set_cons_zero, List.set_cons_succ]) | fail)
      go_ret
      exact ⟨rfl, B⟩
    · by_cases h1 : 256 < d - b
      · rw [show fitsE ⟨a, b, c, d⟩ = 45 from by unfold fitsE; rw [if_pos hv, if_pos (by simp only; omega)]]
        have d0 : decide (256 < c - a) = false := decide_eq_false h0
        have d1 : decide (256 < d - b) = true := decide_eq_true h1
        go_enter Try.func77, Try.ntmps77
        go_wp2_with (first | (go_at_call 91; refine (P_ValidR ⟨a, b, c, d⟩ _).mono ?_; rintro e wn ⟨rfl, hbn⟩; have hsz := B.size; have hzn := hbn.size; replace B := B.trans (hbn.mono B.size); (try first | replace r1 := r1.of_eq (hbn.block _ r1.lt) | replace r1 := r1.below hbn); have c_r1_0 := r1.cell 0 rfl; have c_r1_1 := r1.cell 1 rfl; have c_r1_2 := r1.cell 2 rfl; have c_r1_3 := r1.cell 3 rfl) | (refine wpList_boxB (t := 64) rfl _ rfl _ rfl ?_; intro b_r1 wn hle hge ht hbn hzn; have hsz := B.size; replace B := B.trans (hbn.mono (by omega)); have hln := Nat.lt_of_lt_of_eq (Nat.lt_succ_self _) hzn.symm; clear hzn; (try first | (have hlt := r1.lt; replace r1 := r1.of_eq (hbn.block _ (by omega))) | replace r1 := r1.below (hbn.mono hle)); have r1 := ht; clear ht; simp only [Act.put, List.setIfInBounds_toArray, List.set_cons_zero, List.set_cons_succ]) | (refine wpList_loadAny (t := 64) rfl _ rfl _ _ _ rfl (run_load_B r1 Try.isAgg64 (by kernel_rfl)) (by rfl) ?_; simp only [Act.put, List.setIfInBounds_toArray, List.set_cons_zero, List.set_cons_succ]) | fail)
        go_ret
        exact ⟨rfl, B⟩
      · rw [show fitsE ⟨a, b, c, d⟩ = 0 from by unfold fitsE; rw [if_pos hv, if_neg (by simp only; omega)]]
        have d0 : decide (256 < c - a) = false := decide_eq_false h0
        have d1 : decide (256 < d - b) = false := decide_eq_false h1
        go_enter Try.func77, Try.ntmps77
        go_wp2_with (first | (go_at_call 91; refine (P_ValidR ⟨a, b, c, d⟩ _).mono ?_; rintro e wn ⟨rfl, hbn⟩; have hsz := B.size; have hzn := hbn.size; replace B := B.trans (hbn.mono B.size); (try first | replace r1 := r1.of_eq (hbn.block _ r1.lt) | replace r1 := r1.below hbn); have c_r1_0 := r1.cell 0 rfl; have c_r1_1 := r1.cell 1 rfl; have c_r1_2 := r1.cell 2 rfl; have c_r1_3 := r1.cell 3 rfl) | (refine wpList_boxB (t := 64) rfl _ rfl _ rfl ?_; intro b_r1 wn hle hge ht hbn hzn; have hsz := B.size; replace B := B.trans (hbn.mono (by omega)); have hln := Nat.lt_of_lt_of_eq (Nat.lt_succ_self _) hzn.symm; clear hzn; (try first | (have hlt := r1.lt; replace r1 := r1.of_eq (hbn.block _ (by omega))) | replace r1 := r1.below (hbn.mono hle)); have r1 := ht; clear ht; simp only [Act.put, List.setIfInBounds_toArray, List.set_cons_zero, List.set_cons_succ]) | (refine wpList_loadAny (t := 64) rfl _ rfl _ _ _ rfl (run_load_B r1 Try.isAgg64 (by kernel_rfl)) (by rfl) ?_; simp only [Act.put, List.setIfInBounds_toArray, List.set_cons_zero, List.set_cons_succ]) | fail)
        go_ret
        exact ⟨rfl, B⟩
  · rw [show fitsE ⟨a, b, c, d⟩ = 1 from by unfold fitsE; rw [if_neg hv]]
    have hv' : validR ⟨a, b, c, d⟩ = false := by simpa using hv
    clear hv2 hv
    go_enter Try.func77, Try.ntmps77
    go_wp2_with (first | (go_at_call 91; refine (P_ValidR ⟨a, b, c, d⟩ _).mono ?_; rintro e wn ⟨rfl, hbn⟩; have hsz := B.size; have hzn := hbn.size; replace B := B.trans (hbn.mono B.size); (try first | replace r1 := r1.of_eq (hbn.block _ r1.lt) | replace r1 := r1.below hbn); have c_r1_0 := r1.cell 0 rfl; have c_r1_1 := r1.cell 1 rfl; have c_r1_2 := r1.cell 2 rfl; have c_r1_3 := r1.cell 3 rfl) | (refine wpList_boxB (t := 64) rfl _ rfl _ rfl ?_; intro b_r1 wn hle hge ht hbn hzn; have hsz := B.size; replace B := B.trans (hbn.mono (by omega)); have hln := Nat.lt_of_lt_of_eq (Nat.lt_succ_self _) hzn.symm; clear hzn; (try first | (have hlt := r1.lt; replace r1 := r1.of_eq (hbn.block _ (by omega))) | replace r1 := r1.below (hbn.mono hle)); have r1 := ht; clear ht; simp only [Act.put, List.setIfInBounds_toArray, List.set_cons_zero, List.set_cons_succ]) | (refine wpList_loadAny (t := 64) rfl _ rfl _ _ _ rfl (run_load_B r1 Try.isAgg64 (by kernel_rfl)) (by rfl) ?_; simp only [Act.put, List.setIfInBounds_toArray, List.set_cons_zero, List.set_cons_succ]) | fail)
    go_ret
    exact ⟨rfl, B⟩
set_option maxHeartbeats 1000000 in
theorem R_fits (r : Rc) (w : World) : Calls Try.prog 81 #[Rc.v r] w fun e w' => e = .returned (.int .i64 (fitsE r)) ∧ Below w.heap.size w w' := by
  have hv2 := (validR_iff r).1
  obtain ⟨a, b, c, d⟩ := r
  have B := Below.refl w.heap.size w
  simp only [Rc.v_mk]
  by_cases hv : validR ⟨a, b, c, d⟩ = true
  · obtain ⟨⟨l1, l2⟩, l3, l4, l5, l6⟩ := hv2 hv
    simp only at l1 l2 l3 l4 l5 l6
    clear hv2
    by_cases h0 : 256 < c - a
    · rw [show fitsE ⟨a, b, c, d⟩ = 45 from by unfold fitsE; rw [if_pos hv, if_pos (by simp only; omega)]]
      have d0 : decide (256 < c - a) = true := decide_eq_true h0
      go_enter Try.func81, Try.ntmps81
      go_wp2_with (first | (go_at_call 35; refine (R_ValidR ⟨a, b, c, d⟩ _).mono ?_; rintro e wn ⟨rfl, hbn⟩; have hsz := B.size; have hzn := hbn.size; replace B := B.trans (hbn.mono B.size); (try first | replace r1 := r1.of_eq (hbn.block _ r1.lt) | replace r1 := r1.below hbn); have c_r1_0 := r1.cell 0 rfl; have c_r1_1 := r1.cell 1 rfl; have c_r1_2 := r1.cell 2 rfl; have c_r1_3 := r1.cell 3 rfl) | (refine wpList_boxB (t := 64) rfl _ rfl _ rfl ?_; intro b_r1 wn hle hge ht hbn hzn; have hsz := B.size; replace B := B.trans (hbn.mono (by omega)); have hln := Nat.lt_of_lt_of_eq (Nat.lt_succ_self _) hzn.symm; clear hzn; (try first | (have hlt := r1.lt; replace r1 := r1.of_eq (hbn.block _ (by omega))) | replace r1 := r1.below (hbn.mono hle)); have r1 := ht; clear ht; simp only [Act.put, List.setIfInBounds_toArray, List.set_cons_zero, List.set_cons_succ]) | (refine wpList_loadAny (t := 64) rfl _ rfl _ _ _ rfl (run_load_B r1 Try.isAgg64 (by kernel_rfl)) (by rfl) ?_; simp only [Act.put, List.setIfInBounds_toArray, List.set_cons_zero, List.set_cons_succ]) | fail)
      go_ret
      exact ⟨rfl, B⟩
    · by_cases h1 : 256 < d - b
      · rw [show fitsE ⟨a, b, c, d⟩ = 45 from by unfold fitsE; rw [if_pos hv, if_pos (by simp only; omega)]]
        have d0 : decide (256 < c - a) = false := decide_eq_false h0
        have d1 : decide (256 < d - b) = true := decide_eq_true h1
        go_enter Try.func81, Try.ntmps81
        go_wp2_with (first | (go_at_call 35; refine (R_ValidR ⟨a, b, c, d⟩ _).mono ?_; rintro e wn ⟨rfl, hbn⟩; have hsz := B.size; have hzn := hbn.size; replace B := B.trans (hbn.mono B.size); (try first | replace r1 := r1.of_eq (hbn.block _ r1.lt) | replace r1 := r1.below hbn); have c_r1_0 := r1.cell 0 rfl; have c_r1_1 := r1.cell 1 rfl; have c_r1_2 := r1.cell 2 rfl; have c_r1_3 := r1.cell 3 rfl) | (refine wpList_boxB (t := 64) rfl _ rfl _ rfl ?_; intro b_r1 wn hle hge ht hbn hzn; have hsz := B.size; replace B := B.trans (hbn.mono (by omega)); have hln := Nat.lt_of_lt_of_eq (Nat.lt_succ_self _) hzn.symm; clear hzn; (try first | (have hlt := r1.lt; replace r1 := r1.of_eq (hbn.block _ (by omega))) | replace r1 := r1.below (hbn.mono hle)); have r1 := ht; clear ht; simp only [Act.put, List.setIfInBounds_toArray, List.set_cons_zero, List.set_cons_succ]) | (refine wpList_loadAny (t := 64) rfl _ rfl _ _ _ rfl (run_load_B r1 Try.isAgg64 (by kernel_rfl)) (by rfl) ?_; simp only [Act.put, List.setIfInBounds_toArray, List.set_cons_zero, List.set_cons_succ]) | fail)
        go_ret
        exact ⟨rfl, B⟩
      · rw [show fitsE ⟨a, b, c, d⟩ = 0 from by unfold fitsE; rw [if_pos hv, if_neg (by simp only; omega)]]
        have d0 : decide (256 < c - a) = false := decide_eq_false h0
        have d1 : decide (256 < d - b) = false := decide_eq_false h1
        go_enter Try.func81, Try.ntmps81
        go_wp2_with (first | (go_at_call 35; refine (R_ValidR ⟨a, b, c, d⟩ _).mono ?_; rintro e wn ⟨rfl, hbn⟩; have hsz := B.size; have hzn := hbn.size; replace B := B.trans (hbn.mono B.size); (try first | replace r1 := r1.of_eq (hbn.block _ r1.lt) | replace r1 := r1.below hbn); have c_r1_0 := r1.cell 0 rfl; have c_r1_1 := r1.cell 1 rfl; have c_r1_2 := r1.cell 2 rfl; have c_r1_3 := r1.cell 3 rfl) | (refine wpList_boxB (t := 64) rfl _ rfl _ rfl ?_; intro b_r1 wn hle hge ht hbn hzn; have hsz := B.size; replace B := B.trans (hbn.mono (by omega)); have hln := Nat.lt_of_lt_of_eq (Nat.lt_succ_self _) hzn.symm; clear hzn; (try first | (have hlt := r1.lt; replace r1 := r1.of_eq (hbn.block _ (by omega))) | replace r1 := r1.below (hbn.mono hle)); have r1 := ht; clear ht; simp only [Act.put, List.setIfInBounds_toArray, List.set_cons_zero, List.set_cons_succ]) | (refine wpList_loadAny (t := 64) rfl _ rfl _ _ _ rfl (run_load_B r1 Try.isAgg64 (by kernel_rfl)) (by rfl) ?_; simp only [Act.put, List.setIfInBounds_toArray, List.set_cons_zero, List.set_cons_succ]) | fail)
        go_ret
        exact ⟨rfl, B⟩
  · rw [show fitsE ⟨a, b, c, d⟩ = 1 from by unfold fitsE; rw [if_neg hv]]
    have hv' : validR ⟨a, b, c, d⟩ = false := by simpa using hv
    clear hv2 hv
    go_enter Try.func81, Try.ntmps81
    go_wp2_with (first | (go_at_call 35; refine (R_ValidR ⟨a, b, c, d⟩ _).mono ?_; rintro e wn ⟨rfl, hbn⟩; have hsz := B.size; have hzn := hbn.size; replace B := B.trans (hbn.mono B.size); (try first | replace r1 := r1.of_eq (hbn.block _ r1.lt) | replace r1 := r1.below hbn); have c_r1_0 := r1.cell 0 rfl; have c_r1_1 := r1.cell 1 rfl; have c_r1_2 := r1.cell 2 rfl; have c_r1_3 := r1.cell 3 rfl) | (refine wpList_boxB (t := 64) rfl _ rfl _ rfl ?_; intro b_r1 wn hle hge ht hbn hzn; have hsz := B.size; replace B := B.trans (hbn.mono (by omega)); have hln := Nat.lt_of_lt_of_eq (Nat.lt_succ_self _) hzn.symm; clear hzn; (try first | (have hlt := r1.lt; replace r1 := r1.of_eq (hbn.block _ (by omega))) | replace r1 := r1.below (hbn.mono hle)); have r1 := ht; clear ht; simp only [Act.put, List.setIfInBounds_toArray, List.set_cons_zero, List.set_cons_succ]) | (refine wpList_loadAny (t := 64) rfl _ rfl _ _ _ rfl (run_load_B r1 Try.isAgg64 (by kernel_rfl)) (by rfl) ?_; simp only [Act.put, List.setIfInBounds_toArray, List.set_cons_zero, List.set_cons_succ]) | fail)
    go_ret
    exact ⟨rfl, B⟩
end Go.Proofs.Ytppccnjckiedlaa
