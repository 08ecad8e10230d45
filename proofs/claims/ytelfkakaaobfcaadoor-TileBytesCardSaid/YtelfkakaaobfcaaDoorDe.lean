/- Contract: compress of the reference. -/
import Derived.Test.YtelfkakaaobfcaaDoorDd
namespace Go.Proofs.YtelfkakaaobfcaaDoor
open Go.RowKit Sha
set_option linter.unusedVariables false
set_option linter.unusedSimpArgs false

set_option maxHeartbeats 4000000 in
set_option maxRecDepth 20000 in
theorem R_compress (h : St) (s : ByteArray) (w : World) (hs : s.size = 64) : Calls Tryd.prog 42 #[Wd.v 8 h.at, .string s, Wd.v 64 kW] w fun e w' => e = .returned (Wd.v 8 (comp h (bytes s)).at) ∧ Below w.heap.size w w' := by
  have B := Below.refl w.heap.size w
  go_enter Tryd.func42, Tryd.ntmps42
  go_wp2_with (first | (have _ := r1; refine wpList_allocW64 rfl rfl ?_; intro b_w1 wn hle hge ht hbn hzn; have hsz := B.size; replace B := B.trans (hbn.mono (by omega)); have hln := Nat.lt_of_lt_of_eq (Nat.lt_succ_self _) hzn.symm; clear hzn; (try first | (have hlt := h1.lt; replace h1 := h1.of_eq (hbn.block _ (by omega))) | replace h1 := h1.below (hbn.mono hle)); (try first | (have hlt := k1.lt; replace k1 := k1.of_eq (hbn.block _ (by omega))) | replace k1 := k1.below (hbn.mono hle)); (try first | (have hlt := r1.lt; replace r1 := r1.of_eq (hbn.block _ (by omega))) | replace r1 := r1.below (hbn.mono hle)); (try first | (have hlt := w1.lt; replace w1 := w1.of_eq (hbn.block _ (by omega))) | replace w1 := w1.below (hbn.mono hle)); (try first | (have hlt := v1.lt; replace v1 := v1.of_eq (hbn.block _ (by omega))) | replace v1 := v1.below (hbn.mono hle)); have w1 := ht; clear ht; simp only [Act.put, List.setIfInBounds_toArray, List.set_cons_zero, List.set_cons_succ]) | (have _ := k1; refine wpList_allocW8 rfl rfl ?_; intro b_r1 wn hle hge ht hbn hzn; have hsz := B.size; replace B := B.trans (hbn.mono (by omega)); have hln := Nat.lt_of_lt_of_eq (Nat.lt_succ_self _) hzn.symm; clear hzn; (try first | (have hlt := h1.lt; replace h1 := h1.of_eq (hbn.block _ (by omega))) | replace h1 := h1.below (hbn.mono hle)); (try first | (have hlt := k1.lt; replace k1 := k1.of_eq (hbn.block _ (by omega))) | replace k1 := k1.below (hbn.mono hle)); (try first | (have hlt := r1.lt; replace r1 := r1.of_eq (hbn.block _ (by omega))) | replace r1 := r1.below (hbn.mono hle)); (try first | (have hlt := w1.lt; replace w1 := w1.of_eq (hbn.block _ (by omega))) | replace w1 := w1.below (hbn.mono hle)); (try first | (have hlt := v1.lt; replace v1 := v1.of_eq (hbn.block _ (by omega))) | replace v1 := v1.below (hbn.mono hle)); have r1 := ht; clear ht; simp only [Act.put, List.setIfInBounds_toArray, List.set_cons_zero, List.set_cons_succ]) | (have _ := h1; refine wpList_boxW wt64 rfl _ rfl _ rfl ?_; intro b_k1 wn hle hge ht hbn hzn; have hsz := B.size; replace B := B.trans (hbn.mono (by omega)); have hln := Nat.lt_of_lt_of_eq (Nat.lt_succ_self _) hzn.symm; clear hzn; (try first | (have hlt := h1.lt; replace h1 := h1.of_eq (hbn.block _ (by omega))) | replace h1 := h1.below (hbn.mono hle)); (try first | (have hlt := k1.lt; replace k1 := k1.of_eq (hbn.block _ (by omega))) | replace k1 := k1.below (hbn.mono hle)); (try first | (have hlt := r1.lt; replace r1 := r1.of_eq (hbn.block _ (by omega))) | replace r1 := r1.below (hbn.mono hle)); (try first | (have hlt := w1.lt; replace w1 := w1.of_eq (hbn.block _ (by omega))) | replace w1 := w1.below (hbn.mono hle)); (try first | (have hlt := v1.lt; replace v1 := v1.of_eq (hbn.block _ (by omega))) | replace v1 := v1.below (hbn.mono hle)); have k1 := ht; clear ht; simp only [Act.put, List.setIfInBounds_toArray, List.set_cons_zero, List.set_cons_succ]) | (refine wpList_boxW wt8 rfl _ rfl _ rfl ?_; intro b_h1 wn hle hge ht hbn hzn; have hsz := B.size; replace B := B.trans (hbn.mono (by omega)); have hln := Nat.lt_of_lt_of_eq (Nat.lt_succ_self _) hzn.symm; clear hzn; (try first | (have hlt := h1.lt; replace h1 := h1.of_eq (hbn.block _ (by omega))) | replace h1 := h1.below (hbn.mono hle)); (try first | (have hlt := k1.lt; replace k1 := k1.of_eq (hbn.block _ (by omega))) | replace k1 := k1.below (hbn.mono hle)); (try first | (have hlt := r1.lt; replace r1 := r1.of_eq (hbn.block _ (by omega))) | replace r1 := r1.below (hbn.mono hle)); (try first | (have hlt := w1.lt; replace w1 := w1.of_eq (hbn.block _ (by omega))) | replace w1 := w1.below (hbn.mono hle)); (try first | (have hlt := v1.lt; replace v1 := v1.of_eq (hbn.block _ (by omega))) | replace v1 := v1.below (hbn.mono hle)); have h1 := ht; clear ht; simp only [Act.put, List.setIfInBounds_toArray, List.set_cons_zero, List.set_cons_succ]))
  go_loopw [8, 9, 10] (fun i _ _ wr => ∃ k : Nat, k ≤ 64 ∧ i = .int .i64 k ∧ Below w.heap.size w wr ∧ WAt 46 8 wr b_h1 h.at ∧ WAt 80 64 wr b_k1 kW ∧ WAt 46 8 wr b_r1 (fun _ => 0) ∧ WAt 80 64 wr b_w1 (fullW (msg (bytes s)) k)) (fun i _ _ _ => (64 - intOf i).toNat)
  case atStart => exact ⟨0, by omega, rfl, B, h1, k1, r1, by rw [fullW_lo _ (by omega), first_zero]; exact w1⟩
  case round =>
    clear B h1 k1 r1 w1
    obtain ⟨k, hk, rfl, B, h1, k1, r1, w1⟩ := hrel
    by_cases hlt : k < 64
    · by_cases h16 : k < 16
      · have d16 : decide ((k : Int) < 16) = true := decide_eq_true (by omega)
        rw [fullW_lo _ (by omega)] at w1
        go_wp2
        refine wp_region_ov_tail 31 (by kernel_rfl) (by kernel_rfl) ?_
        simp only [List.take_succ_cons, List.take_zero, List.drop_succ_cons, List.drop_zero]
        repeat (first | go_big_quiet_skip | (go_big_quiet_want; first | (refine quiet_indexS (t := 9) rfl (s) rfl _ rfl (4 * k) (by omega) (by omega) ?_; simp only [Act.put, List.setIfInBounds_toArray, List.set_cons_zero, List.set_cons_succ]; go_big_quiet_on) | (refine quiet_indexS (t := 9) rfl (s) rfl _ rfl (4 * k + 1) (by omega) (by omega) ?_; simp only [Act.put, List.setIfInBounds_toArray, List.set_cons_zero, List.set_cons_succ]; go_big_quiet_on) | (refine quiet_indexS (t := 9) rfl (s) rfl _ rfl (4 * k + 2) (by omega) (by omega) ?_; simp only [Act.put, List.setIfInBounds_toArray, List.set_cons_zero, List.set_cons_succ]; go_big_quiet_on) | (refine quiet_indexS (t := 9) rfl (s) rfl _ rfl (4 * k + 3) (by omega) (by omega) ?_; simp only [Act.put, List.setIfInBounds_toArray, List.set_cons_zero, List.set_cons_succ]; go_big_quiet_on) | (go_big_quiet_op; first | go_big_quiet_on | go_big_quiet_call ((fail)))))
        refine wpQuiet_nil ?_
        intro wn hbn
        have hsz := B.size
        have hzn := hbn.size
        replace B := B.trans (hbn.mono B.size)
        try replace h1 := h1.of_eq (hbn.block _ h1.lt)
        try replace k1 := k1.of_eq (hbn.block _ k1.lt)
        try replace r1 := r1.of_eq (hbn.block _ r1.lt)
        try replace w1 := w1.of_eq (hbn.block _ w1.lt)
        try replace v1 := v1.of_eq (hbn.block _ v1.lt)
        go_wp2_with (first | (refine wpList_storeWord rfl _ _ rfl _ _ rfl (_) rfl w1 (k) (by omega) (by first | rfl | omega) ?_; clear w1; intro wn ht hcn hzn; have hsz := B.size; replace hzn := Nat.le_of_eq hzn.symm; replace B := Chg.below B hcn (by omega) B.size; (try replace h1 := h1.of_eq (hcn.block _ h1.lt (by omega))); (try replace k1 := k1.of_eq (hcn.block _ k1.lt (by omega))); (try replace r1 := r1.of_eq (hcn.block _ r1.lt (by omega))); (try replace v1 := v1.of_eq (hcn.block _ v1.lt (by omega))); have w1 := ht; clear ht; simp only [Act.put, List.setIfInBounds_toArray, List.set_cons_zero, List.set_cons_succ]))
        rw [be_add, ← msg_at, first_next, ← fullW_lo _ (by omega)] at w1
        go_roundw
        case rel => exact ⟨k + 1, by omega, by go_num, B, h1, k1, r1, w1⟩
        case measure => simp [intOf]; omega
      · have d16 : decide ((k : Int) < 16) = false := decide_eq_false (by omega)
        rw [fullW_hi _ (by omega)] at w1
        go_wp2
        refine wp_region_ov (by kernel_rfl) (by kernel_rfl) ?_
        repeat (first | go_big_quiet_skip | (go_big_quiet_want; first | (refine quiet_loadAny (t := 45) rfl _ _ _ rfl (fun w hw => run_load_word (ov_w w1 w hw) (show k - 15 < 64 by omega)) (by first | rfl | omega) ?_; simp only [Act.put, List.setIfInBounds_toArray, List.set_cons_zero, List.set_cons_succ]; go_big_quiet_on) | (go_big_quiet_op; first | go_big_quiet_on | go_big_quiet_call ((first | (go_at_call 51; exact calls_ov_same (R_turn _ _ 7 (by decide) _)) | (go_at_call 51; exact calls_ov_same (R_turn _ _ 18 (by decide) _)))))))
        refine wpQuiet_nil ?_
        intro wn hbn
        have hsz := B.size
        have hzn := hbn.size
        replace B := B.trans (hbn.mono B.size)
        try replace h1 := h1.of_eq (hbn.block _ h1.lt)
        try replace k1 := k1.of_eq (hbn.block _ k1.lt)
        try replace r1 := r1.of_eq (hbn.block _ r1.lt)
        try replace w1 := w1.of_eq (hbn.block _ w1.lt)
        try replace v1 := v1.of_eq (hbn.block _ v1.lt)
        go_wp2
        refine wp_region_ov (by kernel_rfl) (by kernel_rfl) ?_
        repeat (first | go_big_quiet_skip | (go_big_quiet_want; first | (refine quiet_loadAny (t := 45) rfl _ _ _ rfl (fun w hw => run_load_word (ov_w w1 w hw) (show k - 2 < 64 by omega)) (by first | rfl | omega) ?_; simp only [Act.put, List.setIfInBounds_toArray, List.set_cons_zero, List.set_cons_succ]; go_big_quiet_on) | (go_big_quiet_op; first | go_big_quiet_on | go_big_quiet_call ((first | (go_at_call 51; exact calls_ov_same (R_turn _ _ 17 (by decide) _)) | (go_at_call 51; exact calls_ov_same (R_turn _ _ 19 (by decide) _)))))))
        refine wpQuiet_nil ?_
        intro wn hbn
        have hsz := B.size
        have hzn := hbn.size
        replace B := B.trans (hbn.mono B.size)
        try replace h1 := h1.of_eq (hbn.block _ h1.lt)
        try replace k1 := k1.of_eq (hbn.block _ k1.lt)
        try replace r1 := r1.of_eq (hbn.block _ r1.lt)
        try replace w1 := w1.of_eq (hbn.block _ w1.lt)
        try replace v1 := v1.of_eq (hbn.block _ v1.lt)
        go_wp2
        refine wp_region_ov_tail 15 (by kernel_rfl) (by kernel_rfl) ?_
        simp only [List.take_succ_cons, List.take_zero, List.drop_succ_cons, List.drop_zero]
        repeat (first | go_big_quiet_skip | (go_big_quiet_want; first | (refine quiet_loadAny (t := 45) rfl _ _ _ rfl (fun w hw => run_load_word (ov_w w1 w hw) (show k - 16 < 64 by omega)) (by first | rfl | omega) ?_; simp only [Act.put, List.setIfInBounds_toArray, List.set_cons_zero, List.set_cons_succ]; go_big_quiet_on) | (refine quiet_loadAny (t := 45) rfl _ _ _ rfl (fun w hw => run_load_word (ov_w w1 w hw) (show k - 7 < 64 by omega)) (by first | rfl | omega) ?_; simp only [Act.put, List.setIfInBounds_toArray, List.set_cons_zero, List.set_cons_succ]; go_big_quiet_on) | (go_big_quiet_op; first | go_big_quiet_on | go_big_quiet_call ((fail)))))
        refine wpQuiet_nil ?_
        intro wn hbn
        have hsz := B.size
        have hzn := hbn.size
        replace B := B.trans (hbn.mono B.size)
        try replace h1 := h1.of_eq (hbn.block _ h1.lt)
        try replace k1 := k1.of_eq (hbn.block _ k1.lt)
        try replace r1 := r1.of_eq (hbn.block _ r1.lt)
        try replace w1 := w1.of_eq (hbn.block _ w1.lt)
        try replace v1 := v1.of_eq (hbn.block _ v1.lt)
        go_wp2_with (first | (refine wpList_storeWord rfl _ _ rfl _ _ rfl (_) rfl w1 (k) (by omega) (by first | rfl | omega) ?_; clear w1; intro wn ht hcn hzn; have hsz := B.size; replace hzn := Nat.le_of_eq hzn.symm; replace B := Chg.below B hcn (by omega) B.size; (try replace h1 := h1.of_eq (hcn.block _ h1.lt (by omega))); (try replace k1 := k1.of_eq (hcn.block _ k1.lt (by omega))); (try replace r1 := r1.of_eq (hcn.block _ r1.lt (by omega))); (try replace v1 := v1.of_eq (hcn.block _ v1.lt (by omega))); have w1 := ht; clear ht; simp only [Act.put, List.setIfInBounds_toArray, List.set_cons_zero, List.set_cons_succ]))
        rw [← s0_def, ← s1_def] at w1
        go_roundw
        case rel =>
          obtain ⟨j, rfl⟩ : ∃ j, k = 16 + j := ⟨k - 16, by omega⟩
          rw [show 16 + j - 16 = j by omega, show 16 + j - 15 = j + 1 by omega, show 16 + j - 7 = j + 9 by omega, show 16 + j - 2 = j + 14 by omega, ← sch_next] at w1
          exact ⟨16 + j + 1, by omega, by go_num, B, h1, k1, r1, by rw [fullW_hi _ (by omega), show 16 + j + 1 - 16 = j + 1 by omega]; exact w1⟩
        case measure => simp [intOf]; omega
    · obtain rfl : k = 64 := by omega
      simp only [show ((64 : Nat) : Int) = 64 from rfl]
      rw [fullW_hi _ (by omega)] at w1
      replace w1 := w1.congr (show wC 64 (sch (msg (bytes s)) (64 - 16)) = wC 64 (wrd (msg (bytes s))) from rfl)
      go_wp2_with (first | (refine wpList_storeW wt8 rfl _ _ rfl _ rfl _ rfl v1 ?_; clear v1; intro wn ht hcn hzn; have hsz := B.size; replace hzn := Nat.le_of_eq hzn.symm; replace B := Chg.below B hcn (by omega) B.size; (try replace h1 := h1.of_eq (hcn.block _ h1.lt (by omega))); (try replace k1 := k1.of_eq (hcn.block _ k1.lt (by omega))); (try replace r1 := r1.of_eq (hcn.block _ r1.lt (by omega))); (try replace w1 := w1.of_eq (hcn.block _ w1.lt (by omega))); have v1 := ht; clear ht; simp only [Act.put, List.setIfInBounds_toArray, List.set_cons_zero, List.set_cons_succ]) | (refine wpList_allocW8 rfl rfl ?_; intro b_v1 wn hle hge ht hbn hzn; have hsz := B.size; replace B := B.trans (hbn.mono (by omega)); have hln := Nat.lt_of_lt_of_eq (Nat.lt_succ_self _) hzn.symm; clear hzn; (try first | (have hlt := h1.lt; replace h1 := h1.of_eq (hbn.block _ (by omega))) | replace h1 := h1.below (hbn.mono hle)); (try first | (have hlt := k1.lt; replace k1 := k1.of_eq (hbn.block _ (by omega))) | replace k1 := k1.below (hbn.mono hle)); (try first | (have hlt := r1.lt; replace r1 := r1.of_eq (hbn.block _ (by omega))) | replace r1 := r1.below (hbn.mono hle)); (try first | (have hlt := w1.lt; replace w1 := w1.of_eq (hbn.block _ (by omega))) | replace w1 := w1.below (hbn.mono hle)); (try first | (have hlt := v1.lt; replace v1 := v1.of_eq (hbn.block _ (by omega))) | replace v1 := v1.below (hbn.mono hle)); have v1 := ht; clear ht; simp only [Act.put, List.setIfInBounds_toArray, List.set_cons_zero, List.set_cons_succ]) | (refine wpList_loadAny (t := 46) rfl _ rfl _ _ _ rfl (run_load_w wt8 h1) (by rfl) ?_; simp only [Act.put, List.setIfInBounds_toArray, List.set_cons_zero, List.set_cons_succ]))
      go_loopw [12, 13, 14, 15, 16, 17] (fun i _ _ _ _ _ wr => ∃ k : Nat, k ≤ 64 ∧ i = .int .i64 k ∧ Below w.heap.size w wr ∧ WAt 46 8 wr b_h1 h.at ∧ WAt 80 64 wr b_k1 kW ∧ WAt 46 8 wr b_r1 (fun _ => 0) ∧ WAt 80 64 wr b_w1 (wrd (msg (bytes s))) ∧ WAt 46 8 wr b_v1 (rounds kW (wrd (msg (bytes s))) h k).at) (fun i _ _ _ _ _ _ => (64 - intOf i).toNat)
      case atStart => exact ⟨0, by omega, rfl, B, h1, k1, r1, w1, by rw [rounds_zero]; exact v1⟩
      case round =>
        clear B h1 k1 r1 w1 v1
        obtain ⟨k, hk, rfl, B, h1, k1, r1, w1, v1⟩ := hrel
        by_cases hlt : k < 64
        · go_wp2
          refine wp_region_ov (by kernel_rfl) (by kernel_rfl) ?_
          repeat (first | go_big_quiet_skip | (go_big_quiet_want; first | (refine quiet_loadAny (t := 45) rfl _ _ _ rfl (fun w hw => run_load_word (ov_w v1 w hw) (show 0 < 8 by omega)) (by rfl) ?_; simp only [Act.put, List.setIfInBounds_toArray, List.set_cons_zero, List.set_cons_succ]; go_big_quiet_on) | (refine quiet_loadAny (t := 45) rfl _ _ _ rfl (fun w hw => run_load_word (ov_w v1 w hw) (show 1 < 8 by omega)) (by rfl) ?_; simp only [Act.put, List.setIfInBounds_toArray, List.set_cons_zero, List.set_cons_succ]; go_big_quiet_on) | (refine quiet_loadAny (t := 45) rfl _ _ _ rfl (fun w hw => run_load_word (ov_w v1 w hw) (show 2 < 8 by omega)) (by rfl) ?_; simp only [Act.put, List.setIfInBounds_toArray, List.set_cons_zero, List.set_cons_succ]; go_big_quiet_on) | (refine quiet_loadAny (t := 45) rfl _ _ _ rfl (fun w hw => run_load_word (ov_w v1 w hw) (show 3 < 8 by omega)) (by rfl) ?_; simp only [Act.put, List.setIfInBounds_toArray, List.set_cons_zero, List.set_cons_succ]; go_big_quiet_on) | (refine quiet_loadAny (t := 45) rfl _ _ _ rfl (fun w hw => run_load_word (ov_w v1 w hw) (show 4 < 8 by omega)) (by rfl) ?_; simp only [Act.put, List.setIfInBounds_toArray, List.set_cons_zero, List.set_cons_succ]; go_big_quiet_on) | (refine quiet_loadAny (t := 45) rfl _ _ _ rfl (fun w hw => run_load_word (ov_w v1 w hw) (show 5 < 8 by omega)) (by rfl) ?_; simp only [Act.put, List.setIfInBounds_toArray, List.set_cons_zero, List.set_cons_succ]; go_big_quiet_on) | (refine quiet_loadAny (t := 45) rfl _ _ _ rfl (fun w hw => run_load_word (ov_w v1 w hw) (show 6 < 8 by omega)) (by rfl) ?_; simp only [Act.put, List.setIfInBounds_toArray, List.set_cons_zero, List.set_cons_succ]; go_big_quiet_on) | (refine quiet_loadAny (t := 45) rfl _ _ _ rfl (fun w hw => run_load_word (ov_w v1 w hw) (show 7 < 8 by omega)) (by rfl) ?_; simp only [Act.put, List.setIfInBounds_toArray, List.set_cons_zero, List.set_cons_succ]; go_big_quiet_on) | (go_big_quiet_op; first | go_big_quiet_on | go_big_quiet_call ((first | (go_at_call 51; exact calls_ov_same (R_turn _ _ 6 (by decide) _)) | (go_at_call 51; exact calls_ov_same (R_turn _ _ 11 (by decide) _)) | (go_at_call 51; exact calls_ov_same (R_turn _ _ 25 (by decide) _)))))))
          refine wpQuiet_nil ?_
          intro wn hbn
          have hsz := B.size
          have hzn := hbn.size
          replace B := B.trans (hbn.mono B.size)
          try replace h1 := h1.of_eq (hbn.block _ h1.lt)
          try replace k1 := k1.of_eq (hbn.block _ k1.lt)
          try replace r1 := r1.of_eq (hbn.block _ r1.lt)
          try replace w1 := w1.of_eq (hbn.block _ w1.lt)
          try replace v1 := v1.of_eq (hbn.block _ v1.lt)
          go_wp2_with (first | (refine wpList_loadAny (t := 45) rfl _ rfl _ _ _ rfl (run_load_word v1 (show 0 < 8 by omega)) (by rfl) ?_; simp only [Act.put, List.setIfInBounds_toArray, List.set_cons_zero, List.set_cons_succ]) | (refine wpList_loadAny (t := 45) rfl _ rfl _ _ _ rfl (run_load_word v1 (show 1 < 8 by omega)) (by rfl) ?_; simp only [Act.put, List.setIfInBounds_toArray, List.set_cons_zero, List.set_cons_succ]) | (refine wpList_loadAny (t := 45) rfl _ rfl _ _ _ rfl (run_load_word v1 (show 2 < 8 by omega)) (by rfl) ?_; simp only [Act.put, List.setIfInBounds_toArray, List.set_cons_zero, List.set_cons_succ]) | (refine wpList_loadAny (t := 45) rfl _ rfl _ _ _ rfl (run_load_word v1 (show 3 < 8 by omega)) (by rfl) ?_; simp only [Act.put, List.setIfInBounds_toArray, List.set_cons_zero, List.set_cons_succ]) | (refine wpList_loadAny (t := 45) rfl _ rfl _ _ _ rfl (run_load_word v1 (show 4 < 8 by omega)) (by rfl) ?_; simp only [Act.put, List.setIfInBounds_toArray, List.set_cons_zero, List.set_cons_succ]) | (refine wpList_loadAny (t := 45) rfl _ rfl _ _ _ rfl (run_load_word v1 (show 5 < 8 by omega)) (by rfl) ?_; simp only [Act.put, List.setIfInBounds_toArray, List.set_cons_zero, List.set_cons_succ]) | (refine wpList_loadAny (t := 45) rfl _ rfl _ _ _ rfl (run_load_word v1 (show 6 < 8 by omega)) (by rfl) ?_; simp only [Act.put, List.setIfInBounds_toArray, List.set_cons_zero, List.set_cons_succ]) | (refine wpList_loadAny (t := 45) rfl _ rfl _ _ _ rfl (run_load_word v1 (show 7 < 8 by omega)) (by rfl) ?_; simp only [Act.put, List.setIfInBounds_toArray, List.set_cons_zero, List.set_cons_succ]))
          refine wp_region_ov (by kernel_rfl) (by kernel_rfl) ?_
          repeat (first | go_big_quiet_skip | (go_big_quiet_want; first | (refine quiet_loadAny (t := 45) rfl _ _ _ rfl (fun w hw => run_load_word (ov_w v1 w hw) (show 0 < 8 by omega)) (by rfl) ?_; simp only [Act.put, List.setIfInBounds_toArray, List.set_cons_zero, List.set_cons_succ]; go_big_quiet_on) | (refine quiet_loadAny (t := 45) rfl _ _ _ rfl (fun w hw => run_load_word (ov_w v1 w hw) (show 1 < 8 by omega)) (by rfl) ?_; simp only [Act.put, List.setIfInBounds_toArray, List.set_cons_zero, List.set_cons_succ]; go_big_quiet_on) | (refine quiet_loadAny (t := 45) rfl _ _ _ rfl (fun w hw => run_load_word (ov_w v1 w hw) (show 2 < 8 by omega)) (by rfl) ?_; simp only [Act.put, List.setIfInBounds_toArray, List.set_cons_zero, List.set_cons_succ]; go_big_quiet_on) | (refine quiet_loadAny (t := 45) rfl _ _ _ rfl (fun w hw => run_load_word (ov_w v1 w hw) (show 3 < 8 by omega)) (by rfl) ?_; simp only [Act.put, List.setIfInBounds_toArray, List.set_cons_zero, List.set_cons_succ]; go_big_quiet_on) | (refine quiet_loadAny (t := 45) rfl _ _ _ rfl (fun w hw => run_load_word (ov_w v1 w hw) (show 4 < 8 by omega)) (by rfl) ?_; simp only [Act.put, List.setIfInBounds_toArray, List.set_cons_zero, List.set_cons_succ]; go_big_quiet_on) | (refine quiet_loadAny (t := 45) rfl _ _ _ rfl (fun w hw => run_load_word (ov_w v1 w hw) (show 5 < 8 by omega)) (by rfl) ?_; simp only [Act.put, List.setIfInBounds_toArray, List.set_cons_zero, List.set_cons_succ]; go_big_quiet_on) | (refine quiet_loadAny (t := 45) rfl _ _ _ rfl (fun w hw => run_load_word (ov_w v1 w hw) (show 6 < 8 by omega)) (by rfl) ?_; simp only [Act.put, List.setIfInBounds_toArray, List.set_cons_zero, List.set_cons_succ]; go_big_quiet_on) | (refine quiet_loadAny (t := 45) rfl _ _ _ rfl (fun w hw => run_load_word (ov_w v1 w hw) (show 7 < 8 by omega)) (by rfl) ?_; simp only [Act.put, List.setIfInBounds_toArray, List.set_cons_zero, List.set_cons_succ]; go_big_quiet_on) | (refine quiet_loadAny (t := 45) rfl _ _ _ rfl (fun w hw => run_load_word (ov_w k1 w hw) (hlt)) (by first | rfl | omega) ?_; simp only [Act.put, List.setIfInBounds_toArray, List.set_cons_zero, List.set_cons_succ]; go_big_quiet_on) | (refine quiet_loadAny (t := 45) rfl _ _ _ rfl (fun w hw => run_load_word (ov_w w1 w hw) (hlt)) (by first | rfl | omega) ?_; simp only [Act.put, List.setIfInBounds_toArray, List.set_cons_zero, List.set_cons_succ]; go_big_quiet_on) | (go_big_quiet_op; first | go_big_quiet_on | go_big_quiet_call ((fail)))))
          refine wpQuiet_nil ?_
          intro wn hbn
          have hsz := B.size
          have hzn := hbn.size
          replace B := B.trans (hbn.mono B.size)
          try replace h1 := h1.of_eq (hbn.block _ h1.lt)
          try replace k1 := k1.of_eq (hbn.block _ k1.lt)
          try replace r1 := r1.of_eq (hbn.block _ r1.lt)
          try replace w1 := w1.of_eq (hbn.block _ w1.lt)
          try replace v1 := v1.of_eq (hbn.block _ v1.lt)
          go_wp2
          refine wp_region_ov (by kernel_rfl) (by kernel_rfl) ?_
          repeat (first | go_big_quiet_skip | (go_big_quiet_want; first | (refine quiet_loadAny (t := 45) rfl _ _ _ rfl (fun w hw => run_load_word (ov_w v1 w hw) (show 0 < 8 by omega)) (by rfl) ?_; simp only [Act.put, List.setIfInBounds_toArray, List.set_cons_zero, List.set_cons_succ]; go_big_quiet_on) | (refine quiet_loadAny (t := 45) rfl _ _ _ rfl (fun w hw => run_load_word (ov_w v1 w hw) (show 1 < 8 by omega)) (by rfl) ?_; simp only [Act.put, List.setIfInBounds_toArray, List.set_cons_zero, List.set_cons_succ]; go_big_quiet_on) | (refine quiet_loadAny (t := 45) rfl _ _ _ rfl (fun w hw => run_load_word (ov_w v1 w hw) (show 2 < 8 by omega)) (by rfl) ?_; simp only [Act.put, List.setIfInBounds_toArray, List.set_cons_zero, List.set_cons_succ]; go_big_quiet_on) | (refine quiet_loadAny (t := 45) rfl _ _ _ rfl (fun w hw => run_load_word (ov_w v1 w hw) (show 3 < 8 by omega)) (by rfl) ?_; simp only [Act.put, List.setIfInBounds_toArray, List.set_cons_zero, List.set_cons_succ]; go_big_quiet_on) | (refine quiet_loadAny (t := 45) rfl _ _ _ rfl (fun w hw => run_load_word (ov_w v1 w hw) (show 4 < 8 by omega)) (by rfl) ?_; simp only [Act.put, List.setIfInBounds_toArray, List.set_cons_zero, List.set_cons_succ]; go_big_quiet_on) | (refine quiet_loadAny (t := 45) rfl _ _ _ rfl (fun w hw => run_load_word (ov_w v1 w hw) (show 5 < 8 by omega)) (by rfl) ?_; simp only [Act.put, List.setIfInBounds_toArray, List.set_cons_zero, List.set_cons_succ]; go_big_quiet_on) | (refine quiet_loadAny (t := 45) rfl _ _ _ rfl (fun w hw => run_load_word (ov_w v1 w hw) (show 6 < 8 by omega)) (by rfl) ?_; simp only [Act.put, List.setIfInBounds_toArray, List.set_cons_zero, List.set_cons_succ]; go_big_quiet_on) | (refine quiet_loadAny (t := 45) rfl _ _ _ rfl (fun w hw => run_load_word (ov_w v1 w hw) (show 7 < 8 by omega)) (by rfl) ?_; simp only [Act.put, List.setIfInBounds_toArray, List.set_cons_zero, List.set_cons_succ]; go_big_quiet_on) | (go_big_quiet_op; first | go_big_quiet_on | go_big_quiet_call ((first | (go_at_call 51; exact calls_ov_same (R_turn _ _ 2 (by decide) _)) | (go_at_call 51; exact calls_ov_same (R_turn _ _ 13 (by decide) _)) | (go_at_call 51; exact calls_ov_same (R_turn _ _ 22 (by decide) _)))))))
          refine wpQuiet_nil ?_
          intro wn hbn
          have hsz := B.size
          have hzn := hbn.size
          replace B := B.trans (hbn.mono B.size)
          try replace h1 := h1.of_eq (hbn.block _ h1.lt)
          try replace k1 := k1.of_eq (hbn.block _ k1.lt)
          try replace r1 := r1.of_eq (hbn.block _ r1.lt)
          try replace w1 := w1.of_eq (hbn.block _ w1.lt)
          try replace v1 := v1.of_eq (hbn.block _ v1.lt)
          go_wp2_with (first | (refine wpList_storeW wt8 rfl _ _ rfl _ rfl _ rfl v1 ?_; clear v1; intro wn ht hcn hzn; have hsz := B.size; replace hzn := Nat.le_of_eq hzn.symm; replace B := Chg.below B hcn (by omega) B.size; (try replace h1 := h1.of_eq (hcn.block _ h1.lt (by omega))); (try replace k1 := k1.of_eq (hcn.block _ k1.lt (by omega))); (try replace r1 := r1.of_eq (hcn.block _ r1.lt (by omega))); (try replace w1 := w1.of_eq (hcn.block _ w1.lt (by omega))); have v1 := ht; clear ht; simp only [Act.put, List.setIfInBounds_toArray, List.set_cons_zero, List.set_cons_succ]) | (refine wpList_buildW8 rfl _ _ _ _ _ _ _ _ rfl _ _ _ _ _ _ _ _ rfl rfl rfl rfl rfl rfl rfl rfl ?_; simp only [Act.put, List.setIfInBounds_toArray, List.set_cons_zero, List.set_cons_succ]) | (refine wpList_loadAny (t := 45) rfl _ rfl _ _ _ rfl (run_load_word v1 (show 0 < 8 by omega)) (by rfl) ?_; simp only [Act.put, List.setIfInBounds_toArray, List.set_cons_zero, List.set_cons_succ]) | (refine wpList_loadAny (t := 45) rfl _ rfl _ _ _ rfl (run_load_word v1 (show 1 < 8 by omega)) (by rfl) ?_; simp only [Act.put, List.setIfInBounds_toArray, List.set_cons_zero, List.set_cons_succ]) | (refine wpList_loadAny (t := 45) rfl _ rfl _ _ _ rfl (run_load_word v1 (show 2 < 8 by omega)) (by rfl) ?_; simp only [Act.put, List.setIfInBounds_toArray, List.set_cons_zero, List.set_cons_succ]) | (refine wpList_loadAny (t := 45) rfl _ rfl _ _ _ rfl (run_load_word v1 (show 3 < 8 by omega)) (by rfl) ?_; simp only [Act.put, List.setIfInBounds_toArray, List.set_cons_zero, List.set_cons_succ]) | (refine wpList_loadAny (t := 45) rfl _ rfl _ _ _ rfl (run_load_word v1 (show 4 < 8 by omega)) (by rfl) ?_; simp only [Act.put, List.setIfInBounds_toArray, List.set_cons_zero, List.set_cons_succ]) | (refine wpList_loadAny (t := 45) rfl _ rfl _ _ _ rfl (run_load_word v1 (show 5 < 8 by omega)) (by rfl) ?_; simp only [Act.put, List.setIfInBounds_toArray, List.set_cons_zero, List.set_cons_succ]) | (refine wpList_loadAny (t := 45) rfl _ rfl _ _ _ rfl (run_load_word v1 (show 6 < 8 by omega)) (by rfl) ?_; simp only [Act.put, List.setIfInBounds_toArray, List.set_cons_zero, List.set_cons_succ]) | (refine wpList_loadAny (t := 45) rfl _ rfl _ _ _ rfl (run_load_word v1 (show 7 < 8 by omega)) (by rfl) ?_; simp only [Act.put, List.setIfInBounds_toArray, List.set_cons_zero, List.set_cons_succ]))
          rw [rnd_step', ← rounds_next] at v1
          go_roundw
          case rel => exact ⟨k + 1, by omega, by go_num, B, h1, k1, r1, w1, v1⟩
          case measure => simp [intOf]; omega
        · obtain rfl : k = 64 := by omega
          simp only [show ((64 : Nat) : Int) = 64 from rfl]
          go_wp2
          go_loopw [18] (fun i wr => ∃ k : Nat, k ≤ 8 ∧ i = .int .i64 k ∧ Below w.heap.size w wr ∧ WAt 46 8 wr b_v1 (rounds kW (wrd (msg (bytes s))) h 64).at ∧ WAt 46 8 wr b_r1 (fun _ => 0) ∧ WAt 46 8 wr b_h1 (stepW h.at (comp h (bytes s)).at k)) (fun i _ => (8 - intOf i).toNat)
          case atStart => exact ⟨0, by omega, rfl, B, v1, r1, by rw [stepW_zero]; exact h1⟩
          case round =>
            clear B h1 k1 r1 w1 v1
            obtain ⟨k, hk, rfl, B, v1, r1, h1⟩ := hrel
            by_cases hlt : k < 8
            · go_wp2
              refine wp_region_ov_tail 9 (by kernel_rfl) (by kernel_rfl) ?_
              simp only [List.take_succ_cons, List.take_zero, List.drop_succ_cons, List.drop_zero]
              repeat (first | go_big_quiet_skip | (go_big_quiet_want; first | (refine quiet_loadAny (t := 45) rfl _ _ _ rfl (fun w hw => run_load_word (ov_w h1 w hw) (hlt)) (by first | rfl | omega) ?_; simp only [Act.put, List.setIfInBounds_toArray, List.set_cons_zero, List.set_cons_succ]; go_big_quiet_on) | (refine quiet_loadAny (t := 45) rfl _ _ _ rfl (fun w hw => run_load_word (ov_w v1 w hw) (hlt)) (by first | rfl | omega) ?_; simp only [Act.put, List.setIfInBounds_toArray, List.set_cons_zero, List.set_cons_succ]; go_big_quiet_on) | (go_big_quiet_op; first | go_big_quiet_on | go_big_quiet_call ((fail)))))
              refine wpQuiet_nil ?_
              intro wn hbn
              have hsz := B.size
              have hzn := hbn.size
              replace B := B.trans (hbn.mono B.size)
              try replace h1 := h1.of_eq (hbn.block _ h1.lt)
              try replace k1 := k1.of_eq (hbn.block _ k1.lt)
              try replace r1 := r1.of_eq (hbn.block _ r1.lt)
              try replace w1 := w1.of_eq (hbn.block _ w1.lt)
              try replace v1 := v1.of_eq (hbn.block _ v1.lt)
              go_wp2_with (first | (refine wpList_storeWord rfl _ _ rfl _ _ rfl (_) rfl h1 (k) (by omega) (by first | rfl | omega) ?_; clear h1; intro wn ht hcn hzn; have hsz := B.size; replace hzn := Nat.le_of_eq hzn.symm; replace B := Chg.below B hcn (by omega) B.size; (try replace k1 := k1.of_eq (hcn.block _ k1.lt (by omega))); (try replace r1 := r1.of_eq (hcn.block _ r1.lt (by omega))); (try replace w1 := w1.of_eq (hcn.block _ w1.lt (by omega))); (try replace v1 := v1.of_eq (hcn.block _ v1.lt (by omega))); have h1 := ht; clear ht; simp only [Act.put, List.setIfInBounds_toArray, List.set_cons_zero, List.set_cons_succ]))
              rw [stepW_at, BitVec.add_comm, ← comp_at, stepW_next] at h1
              go_roundw
              case rel => exact ⟨k + 1, by omega, by go_num, B, v1, r1, h1⟩
              case measure => simp [intOf]; omega
            · obtain rfl : k = 8 := by omega
              replace h1 := h1.congr (wC_congr (stepW_all _ _ 8))
              go_wp2_with (first | (refine wpList_storeW wt8 rfl _ _ rfl _ rfl _ rfl r1 ?_; clear r1; intro wn ht hcn hzn; have hsz := B.size; replace hzn := Nat.le_of_eq hzn.symm; replace B := Chg.below B hcn (by omega) B.size; (try replace h1 := h1.of_eq (hcn.block _ h1.lt (by omega))); (try replace k1 := k1.of_eq (hcn.block _ k1.lt (by omega))); (try replace w1 := w1.of_eq (hcn.block _ w1.lt (by omega))); (try replace v1 := v1.of_eq (hcn.block _ v1.lt (by omega))); have r1 := ht; clear ht; simp only [Act.put, List.setIfInBounds_toArray, List.set_cons_zero, List.set_cons_succ]) | (refine wpList_loadAny (t := 46) rfl _ rfl _ _ _ rfl (run_load_w wt8 h1) (by rfl) ?_; simp only [Act.put, List.setIfInBounds_toArray, List.set_cons_zero, List.set_cons_succ]))
              refine bodyPost_ret (results_w wt8 rfl _ _ (b_r1) rfl r1) rfl ?_
              exact ⟨rfl, B⟩
end Go.Proofs.YtelfkakaaobfcaaDoor
