/- Contracts of package rect and of its reference, as far as rasters want them. -/
import Derived.Test.YtppccnjckiedlaaRd
namespace Go.Proofs.Ytppccnjckiedlaa
open Go.RowKit Pl
set_option linter.unusedVariables false
set_option linter.unusedSimpArgs false
set_option maxRecDepth 20000

theorem P_Empty (r : Rc) (w : World) : Calls Try.prog 105 #[Rc.v r] w fun e w' => e = .returned (.bool (emptyR r)) ∧ Below w.heap.size w w' := by
  obtain ⟨a, b, c, d⟩ := r
  simp only [Rc.v_mk]
  by_cases h0 : c ≤ a
  · rw [show emptyR ⟨a, b, c, d⟩ = true from by unfold emptyR; exact decide_eq_true (by simp only; omega)]
    have d0 : decide (c ≤ a) = true := decide_eq_true h0
    go_enter Try.func105, Try.ntmps105
    go_wp2
    go_ret
    exact ⟨rfl, by go_grown⟩
  · by_cases h1 : d ≤ b
    · rw [show emptyR ⟨a, b, c, d⟩ = true from by unfold emptyR; exact decide_eq_true (by simp only; omega)]
      have d0 : decide (c ≤ a) = false := decide_eq_false h0
      have d1 : decide (d ≤ b) = true := decide_eq_true h1
      go_enter Try.func105, Try.ntmps105
      go_wp2
      go_ret
      exact ⟨rfl, by go_grown⟩
    · rw [show emptyR ⟨a, b, c, d⟩ = false from by unfold emptyR; exact decide_eq_false (by simp only; omega)]
      have d0 : decide (c ≤ a) = false := decide_eq_false h0
      have d1 : decide (d ≤ b) = false := decide_eq_false h1
      go_enter Try.func105, Try.ntmps105
      go_wp2
      go_ret
      exact ⟨rfl, by go_grown⟩
theorem R_Empty (r : Rc) (w : World) : Calls Try.prog 82 #[Rc.v r] w fun e w' => e = .returned (.bool (emptyR r)) ∧ Below w.heap.size w w' := by
  obtain ⟨a, b, c, d⟩ := r
  simp only [Rc.v_mk]
  by_cases h0 : c ≤ a
  · rw [show emptyR ⟨a, b, c, d⟩ = true from by unfold emptyR; exact decide_eq_true (by simp only; omega)]
    have d0 : decide (c ≤ a) = true := decide_eq_true h0
    go_enter Try.func82, Try.ntmps82
    go_wp2
    go_ret
    exact ⟨rfl, by go_grown⟩
  · by_cases h1 : d ≤ b
    · rw [show emptyR ⟨a, b, c, d⟩ = true from by unfold emptyR; exact decide_eq_true (by simp only; omega)]
      have d0 : decide (c ≤ a) = false := decide_eq_false h0
      have d1 : decide (d ≤ b) = true := decide_eq_true h1
      go_enter Try.func82, Try.ntmps82
      go_wp2
      go_ret
      exact ⟨rfl, by go_grown⟩
    · rw [show emptyR ⟨a, b, c, d⟩ = false from by unfold emptyR; exact decide_eq_false (by simp only; omega)]
      have d0 : decide (c ≤ a) = false := decide_eq_false h0
      have d1 : decide (d ≤ b) = false := decide_eq_false h1
      go_enter Try.func82, Try.ntmps82
      go_wp2
      go_ret
      exact ⟨rfl, by go_grown⟩
theorem P_Has (r : Rc) (x y : Int) (w : World) : Calls Try.prog 39 #[Rc.v r, Ps.v x y] w fun e w' => e = .returned (.bool (hasR r x y)) ∧ Below w.heap.size w w' := by
  obtain ⟨a, b, c, d⟩ := r
  simp only [Rc.v_mk, Ps.v]
  by_cases h0 : a ≤ x
  · by_cases h1 : x < c
    · by_cases h2 : b ≤ y
      · by_cases h3 : y < d
        · rw [show hasR ⟨a, b, c, d⟩ x y = true from by unfold hasR; exact decide_eq_true (by simp only; omega)]
          have d0 : decide (a ≤ x) = true := decide_eq_true h0
          have d1 : decide (x < c) = true := decide_eq_true h1
          have d2 : decide (b ≤ y) = true := decide_eq_true h2
          have d3 : decide (y < d) = true := decide_eq_true h3
          go_enter Try.func39, Try.ntmps39
          go_wp2
          go_ret
          exact ⟨rfl, by go_grown⟩
        · rw [show hasR ⟨a, b, c, d⟩ x y = false from by unfold hasR; exact decide_eq_false (by simp only; omega)]
          have d0 : decide (a ≤ x) = true := decide_eq_true h0
          have d1 : decide (x < c) = true := decide_eq_true h1
          have d2 : decide (b ≤ y) = true := decide_eq_true h2
          have d3 : decide (y < d) = false := decide_eq_false h3
          go_enter Try.func39, Try.ntmps39
          go_wp2
          go_ret
          exact ⟨rfl, by go_grown⟩
      · rw [show hasR ⟨a, b, c, d⟩ x y = false from by unfold hasR; exact decide_eq_false (by simp only; omega)]
        have d0 : decide (a ≤ x) = true := decide_eq_true h0
        have d1 : decide (x < c) = true := decide_eq_true h1
        have d2 : decide (b ≤ y) = false := decide_eq_false h2
        go_enter Try.func39, Try.ntmps39
        go_wp2
        go_ret
        exact ⟨rfl, by go_grown⟩
    · rw [show hasR ⟨a, b, c, d⟩ x y = false from by unfold hasR; exact decide_eq_false (by simp only; omega)]
      have d0 : decide (a ≤ x) = true := decide_eq_true h0
      have d1 : decide (x < c) = false := decide_eq_false h1
      go_enter Try.func39, Try.ntmps39
      go_wp2
      go_ret
      exact ⟨rfl, by go_grown⟩
  · rw [show hasR ⟨a, b, c, d⟩ x y = false from by unfold hasR; exact decide_eq_false (by simp only; omega)]
    have d0 : decide (a ≤ x) = false := decide_eq_false h0
    go_enter Try.func39, Try.ntmps39
    go_wp2
    go_ret
    exact ⟨rfl, by go_grown⟩
theorem R_Has (r : Rc) (x y : Int) (w : World) : Calls Try.prog 88 #[Rc.v r, .int .i64 x, .int .i64 y] w fun e w' => e = .returned (.bool (hasR r x y)) ∧ Below w.heap.size w w' := by
  obtain ⟨a, b, c, d⟩ := r
  simp only [Rc.v_mk]
  by_cases h0 : a ≤ x
  · by_cases h1 : x < c
    · by_cases h2 : b ≤ y
      · by_cases h3 : y < d
        · rw [show hasR ⟨a, b, c, d⟩ x y = true from by unfold hasR; exact decide_eq_true (by simp only; omega)]
          have d0 : decide (a ≤ x) = true := decide_eq_true h0
          have d1 : decide (x < c) = true := decide_eq_true h1
          have d2 : decide (b ≤ y) = true := decide_eq_true h2
          have d3 : decide (y < d) = true := decide_eq_true h3
          go_enter Try.func88, Try.ntmps88
          go_wp2
          go_ret
          exact ⟨rfl, by go_grown⟩
        · rw [show hasR ⟨a, b, c, d⟩ x y = false from by unfold hasR; exact decide_eq_false (by simp only; omega)]
          have d0 : decide (a ≤ x) = true := decide_eq_true h0
          have d1 : decide (x < c) = true := decide_eq_true h1
          have d2 : decide (b ≤ y) = true := decide_eq_true h2
          have d3 : decide (y < d) = false := decide_eq_false h3
          go_enter Try.func88, Try.ntmps88
          go_wp2
          go_ret
          exact ⟨rfl, by go_grown⟩
      · rw [show hasR ⟨a, b, c, d⟩ x y = false from by unfold hasR; exact decide_eq_false (by simp only; omega)]
        have d0 : decide (a ≤ x) = true := decide_eq_true h0
        have d1 : decide (x < c) = true := decide_eq_true h1
        have d2 : decide (b ≤ y) = false := decide_eq_false h2
        go_enter Try.func88, Try.ntmps88
        go_wp2
        go_ret
        exact ⟨rfl, by go_grown⟩
    · rw [show hasR ⟨a, b, c, d⟩ x y = false from by unfold hasR; exact decide_eq_false (by simp only; omega)]
      have d0 : decide (a ≤ x) = true := decide_eq_true h0
      have d1 : decide (x < c) = false := decide_eq_false h1
      go_enter Try.func88, Try.ntmps88
      go_wp2
      go_ret
      exact ⟨rfl, by go_grown⟩
  · rw [show hasR ⟨a, b, c, d⟩ x y = false from by unfold hasR; exact decide_eq_false (by simp only; omega)]
    have d0 : decide (a ≤ x) = false := decide_eq_false h0
    go_enter Try.func88, Try.ntmps88
    go_wp2
    go_ret
    exact ⟨rfl, by go_grown⟩
theorem P_norm (r : Rc) (w : World) : Calls Try.prog 87 #[Rc.v r] w fun e w' => e = .returned (Rc.v (normR r)) ∧ Below w.heap.size w w' := by
  obtain ⟨a, b, c, d⟩ := r
  have B := Below.refl w.heap.size w
  by_cases hE : emptyR ⟨a, b, c, d⟩ = true
  · rw [show normR ⟨a, b, c, d⟩ = Rc.zero from if_pos hE]
    simp only [Rc.v_mk]
    go_enter Try.func87, Try.ntmps87
    go_wp2_with (first | (go_at_call 105; refine (P_Empty ⟨a, b, c, d⟩ _).mono ?_; rintro e wn ⟨rfl, hbn⟩; have hsz := B.size; have hzn := hbn.size; replace B := B.trans (hbn.mono B.size); (try first | replace r1 := r1.of_eq (hbn.block _ r1.lt) | replace r1 := r1.below hbn); (try first | replace r2 := r2.of_eq (hbn.block _ r2.lt) | replace r2 := r2.below hbn)) | (refine wpList_storeB (t := 64) rfl _ _ rfl _ rfl _ rfl r2 (by kernel_rfl) rfl (by simp [Value.oneCell']) ?_; clear r2; intro wn ht hcn hzn; have hsz := B.size; replace hzn := Nat.le_of_eq hzn.symm; replace B := Chg.below B hcn (by omega) B.size; (try replace r1 := r1.of_eq (hcn.block _ r1.lt (by omega))); have r2 := ht; clear ht; simp only [Act.put, List.setIfInBounds_toArray, List.set_cons_zero, List.set_cons_succ]) | (have _ := r1; refine wpList_allocBk (t := 64) rfl _ (run_alloc_Rc _ _ rfl) ?_; intro b_r2 wn hle hge ht hbn hzn; have hsz := B.size; replace B := B.trans (hbn.mono (by omega)); have hln := Nat.lt_of_lt_of_eq (Nat.lt_succ_self _) hzn.symm; clear hzn; (try first | (have hlt := r1.lt; replace r1 := r1.of_eq (hbn.block _ (by omega))) | replace r1 := r1.below (hbn.mono hle)); (try first | (have hlt := r2.lt; replace r2 := r2.of_eq (hbn.block _ (by omega))) | replace r2 := r2.below (hbn.mono hle)); have r2 := ht; clear ht; simp only [Act.put, List.setIfInBounds_toArray, List.set_cons_zero, List.set_cons_succ]) | (refine wpList_boxB (t := 64) rfl _ rfl _ rfl ?_; intro b_r1 wn hle hge ht hbn hzn; have hsz := B.size; replace B := B.trans (hbn.mono (by omega)); have hln := Nat.lt_of_lt_of_eq (Nat.lt_succ_self _) hzn.symm; clear hzn; (try first | (have hlt := r1.lt; replace r1 := r1.of_eq (hbn.block _ (by omega))) | replace r1 := r1.below (hbn.mono hle)); (try first | (have hlt := r2.lt; replace r2 := r2.of_eq (hbn.block _ (by omega))) | replace r2 := r2.below (hbn.mono hle)); have r1 := ht; clear ht; simp only [Act.put, List.setIfInBounds_toArray, List.set_cons_zero, List.set_cons_succ]) | (refine wpList_loadAny (t := 64) rfl _ rfl _ _ _ rfl (run_load_B r1 Try.isAgg64 (by kernel_rfl)) (by rfl) ?_; simp only [Act.put, List.setIfInBounds_toArray, List.set_cons_zero, List.set_cons_succ]))
    refine bodyPost_ret (results_B (t := 64) rfl _ _ (b_r2) rfl r2 Try.isAgg64 (by kernel_rfl)) rfl ?_
    exact ⟨rfl, B⟩
  · rw [show normR ⟨a, b, c, d⟩ = ⟨a, b, c, d⟩ from if_neg hE]
    have hE' : emptyR ⟨a, b, c, d⟩ = false := by simpa using hE
    simp only [Rc.v_mk]
    clear hE
    go_enter Try.func87, Try.ntmps87
    go_wp2_with (first | (go_at_call 105; refine (P_Empty ⟨a, b, c, d⟩ _).mono ?_; rintro e wn ⟨rfl, hbn⟩; have hsz := B.size; have hzn := hbn.size; replace B := B.trans (hbn.mono B.size); (try first | replace r1 := r1.of_eq (hbn.block _ r1.lt) | replace r1 := r1.below hbn); (try first | replace r2 := r2.of_eq (hbn.block _ r2.lt) | replace r2 := r2.below hbn)) | (refine wpList_storeB (t := 64) rfl _ _ rfl _ rfl _ rfl r2 (by kernel_rfl) rfl (by simp [Value.oneCell']) ?_; clear r2; intro wn ht hcn hzn; have hsz := B.size; replace hzn := Nat.le_of_eq hzn.symm; replace B := Chg.below B hcn (by omega) B.size; (try replace r1 := r1.of_eq (hcn.block _ r1.lt (by omega))); have r2 := ht; clear ht; simp only [Act.put, List.setIfInBounds_toArray, List.set_cons_zero, List.set_cons_succ]) | (have _ := r1; refine wpList_allocBk (t := 64) rfl _ (run_alloc_Rc _ _ rfl) ?_; intro b_r2 wn hle hge ht hbn hzn; have hsz := B.size; replace B := B.trans (hbn.mono (by omega)); have hln := Nat.lt_of_lt_of_eq (Nat.lt_succ_self _) hzn.symm; clear hzn; (try first | (have hlt := r1.lt; replace r1 := r1.of_eq (hbn.block _ (by omega))) | replace r1 := r1.below (hbn.mono hle)); (try first | (have hlt := r2.lt; replace r2 := r2.of_eq (hbn.block _ (by omega))) | replace r2 := r2.below (hbn.mono hle)); have r2 := ht; clear ht; simp only [Act.put, List.setIfInBounds_toArray, List.set_cons_zero, List.set_cons_succ]) | (refine wpList_boxB (t := 64) rfl _ rfl _ rfl ?_; intro b_r1 wn hle hge ht hbn hzn; have hsz := B.size; replace B := B.trans (hbn.mono (by omega)); have hln := Nat.lt_of_lt_of_eq (Nat.lt_succ_self _) hzn.symm; clear hzn; (try first | (have hlt := r1.lt; replace r1 := r1.of_eq (hbn.block _ (by omega))) | replace r1 := r1.below (hbn.mono hle)); (try first | (have hlt := r2.lt; replace r2 := r2.of_eq (hbn.block _ (by omega))) | replace r2 := r2.below (hbn.mono hle)); have r1 := ht; clear ht; simp only [Act.put, List.setIfInBounds_toArray, List.set_cons_zero, List.set_cons_succ]) | (refine wpList_loadAny (t := 64) rfl _ rfl _ _ _ rfl (run_load_B r1 Try.isAgg64 (by kernel_rfl)) (by rfl) ?_; simp only [Act.put, List.setIfInBounds_toArray, List.set_cons_zero, List.set_cons_succ]))
    refine bodyPost_ret (results_B (t := 64) rfl _ _ (b_r2) rfl r2 Try.isAgg64 (by kernel_rfl)) rfl ?_
    exact ⟨rfl, B⟩
theorem R_norm (r : Rc) (w : World) : Calls Try.prog 106 #[Rc.v r] w fun e w' => e = .returned (Rc.v (normR r)) ∧ Below w.heap.size w w' := by
  obtain ⟨a, b, c, d⟩ := r
  have B := Below.refl w.heap.size w
  by_cases hE : emptyR ⟨a, b, c, d⟩ = true
  · rw [show normR ⟨a, b, c, d⟩ = Rc.zero from if_pos hE]
    simp only [Rc.v_mk]
    go_enter Try.func106, Try.ntmps106
    go_wp2_with (first | (go_at_call 82; refine (R_Empty ⟨a, b, c, d⟩ _).mono ?_; rintro e wn ⟨rfl, hbn⟩; have hsz := B.size; have hzn := hbn.size; replace B := B.trans (hbn.mono B.size); (try first | replace r1 := r1.of_eq (hbn.block _ r1.lt) | replace r1 := r1.below hbn); (try first | replace r2 := r2.of_eq (hbn.block _ r2.lt) | replace r2 := r2.below hbn)) | (refine wpList_storeB (t := 64) rfl _ _ rfl _ rfl _ rfl r2 (by kernel_rfl) rfl (by simp [Value.oneCell']) ?_; clear r2; intro wn ht hcn hzn; have hsz := B.size; replace hzn := Nat.le_of_eq hzn.symm; replace B := Chg.below B hcn (by omega) B.size; (try replace r1 := r1.of_eq (hcn.block _ r1.lt (by omega))); have r2 := ht; clear ht; simp only [Act.put, List.setIfInBounds_toArray, List.set_cons_zero, List.set_cons_succ]) | (have _ := r1; refine wpList_allocBk (t := 64) rfl _ (run_alloc_Rc _ _ rfl) ?_; intro b_r2 wn hle hge ht hbn hzn; have hsz := B.size; replace B := B.trans (hbn.mono (by omega)); have hln := Nat.lt_of_lt_of_eq (Nat.lt_succ_self _) hzn.symm; clear hzn; (try first | (have hlt := r1.lt; replace r1 := r1.of_eq (hbn.block _ (by omega))) | replace r1 := r1.below (hbn.mono hle)); (try first | (have hlt := r2.lt; replace r2 := r2.of_eq (hbn.block _ (by omega))) | replace r2 := r2.below (hbn.mono hle)); have r2 := ht; clear ht; simp only [Act.put, List.setIfInBounds_toArray, List.set_cons_zero, List.set_cons_succ]) | (refine wpList_boxB (t := 64) rfl _ rfl _ rfl ?_; intro b_r1 wn hle hge ht hbn hzn; have hsz := B.size; replace B := B.trans (hbn.mono (by omega)); have hln := Nat.lt_of_lt_of_eq (Nat.lt_succ_self _) hzn.symm; clear hzn; (try first | (have hlt := r1.lt; replace r1 := r1.of_eq (hbn.block _ (by omega))) | replace r1 := r1.below (hbn.mono hle)); (try first | (have hlt := r2.lt; replace r2 := r2.of_eq (hbn.block _ (by omega))) | replace r2 := r2.below (hbn.mono hle)); have r1 := ht; clear ht; simp only [Act.put, List.setIfInBounds_toArray, List.set_cons_zero, List.set_cons_succ]) | (refine wpList_loadAny (t := 64) rfl _ rfl _ _ _ rfl (run_load_B r1 Try.isAgg64 (by kernel_rfl)) (by rfl) ?_; simp only [Act.put, List.setIfInBounds_toArray, List.set_cons_zero, List.set_cons_succ]))
    refine bodyPost_ret (results_B (t := 64) rfl _ _ (b_r2) rfl r2 Try.isAgg64 (by kernel_rfl)) rfl ?_
    exact ⟨rfl, B⟩
  · rw [show normR ⟨a, b, c, d⟩ = ⟨a, b, c, d⟩ from if_neg hE]
    have hE' : emptyR ⟨a, b, c, d⟩ = false := by simpa using hE
    simp only [Rc.v_mk]
    clear hE
    go_enter Try.func106, Try.ntmps106
    go_wp2_with (first | (go_at_call 82; refine (R_Empty ⟨a, b, c, d⟩ _).mono ?_; rintro e wn ⟨rfl, hbn⟩; have hsz := B.size; have hzn := hbn.size; replace B := B.trans (hbn.mono B.size); (try first | replace r1 := r1.of_eq (hbn.block _ r1.lt) | replace r1 := r1.below hbn); (try first | replace r2 := r2.of_eq (hbn.block _ r2.lt) | replace r2 := r2.below hbn)) | (refine wpList_storeB (t := 64) rfl _ _ rfl _ rfl _ rfl r2 (by kernel_rfl) rfl (by simp [Value.oneCell']) ?_; clear r2; intro wn ht hcn hzn; have hsz := B.size; replace hzn := Nat.le_of_eq hzn.symm; replace B := Chg.below B hcn (by omega) B.size; (try replace r1 := r1.of_eq (hcn.block _ r1.lt (by omega))); have r2 := ht; clear ht; simp only [Act.put, List.setIfInBounds_toArray, List.set_cons_zero, List.set_cons_succ]) | (have _ := r1; refine wpList_allocBk (t := 64) rfl _ (run_alloc_Rc _ _ rfl) ?_; intro b_r2 wn hle hge ht hbn hzn; have hsz := B.size; replace B := B.trans (hbn.mono (by omega)); have hln := Nat.lt_of_lt_of_eq (Nat.lt_succ_self _) hzn.symm; clear hzn; (try first | (have hlt := r1.lt; replace r1 := r1.of_eq (hbn.block _ (by omega))) | replace r1 := r1.below (hbn.mono hle)); (try first | (have hlt := r2.lt; replace r2 := r2.of_eq (hbn.block _ (by omega))) | replace r2 := r2.below (hbn.mono hle)); have r2 := ht; clear ht; simp only [Act.put, List.setIfInBounds_toArray, List.set_cons_zero, List.set_cons_succ]) | (refine wpList_boxB (t := 64) rfl _ rfl _ rfl ?_; intro b_r1 wn hle hge ht hbn hzn; have hsz := B.size; replace B := B.trans (hbn.mono (by omega)); have hln := Nat.lt_of_lt_of_eq (Nat.lt_succ_self _) hzn.symm; clear hzn; (try first | (have hlt := r1.lt; replace r1 := r1.of_eq (hbn.block _ (by omega))) | replace r1 := r1.below (hbn.mono hle)); (try first | (have hlt := r2.lt; replace r2 := r2.of_eq (hbn.block _ (by omega))) | replace r2 := r2.below (hbn.mono hle)); have r1 := ht; clear ht; simp only [Act.put, List.setIfInBounds_toArray, List.set_cons_zero, List.set_cons_succ]) | (refine wpList_loadAny (t := 64) rfl _ rfl _ _ _ rfl (run_load_B r1 Try.isAgg64 (by kernel_rfl)) (by rfl) ?_; simp only [Act.put, List.setIfInBounds_toArray, List.set_cons_zero, List.set_cons_succ]))
    refine bodyPost_ret (results_B (t := 64) rfl _ _ (b_r2) rfl r2 Try.isAgg64 (by kernel_rfl)) rfl ?_
    exact ⟨rfl, B⟩
end Go.Proofs.Ytppccnjckiedlaa
