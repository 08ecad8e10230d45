/- Contracts: rotations; the message schedule of package digest. -/
import Derived.Test.YtelfkakaaobfcaaDoorDb
namespace Go.Proofs.YtelfkakaaobfcaaDoor
open Go.RowKit Sha
set_option linter.unusedVariables false
set_option linter.unusedSimpArgs false

theorem rotl_rotr (x : W32) (n : Nat) (h : n < 32) : (x <<< (32 - n)) ||| (x >>> n) = rotr x n := by unfold rotr; rw [BitVec.or_comm]

theorem L_rot7 (x : W32) (w : World) : Calls Tryd.prog 38 #[U x, .int .i64 (-7)] w fun e w' => e = .returned (U (rotr x 7)) ∧ w = w' := by
  have e1 : bits BinOp.and IntKind.u64 (IntKind.u64.wrap (-7)) 31 = 25 := by decide
  rw [← rotl_rotr x 7 (by decide)]
  go_enter Tryd.func38, Tryd.ntmps38
  go_wp2
  go_ret
  exact ⟨rfl, rfl⟩
theorem L_rot18 (x : W32) (w : World) : Calls Tryd.prog 38 #[U x, .int .i64 (-18)] w fun e w' => e = .returned (U (rotr x 18)) ∧ w = w' := by
  have e1 : bits BinOp.and IntKind.u64 (IntKind.u64.wrap (-18)) 31 = 14 := by decide
  rw [← rotl_rotr x 18 (by decide)]
  go_enter Tryd.func38, Tryd.ntmps38
  go_wp2
  go_ret
  exact ⟨rfl, rfl⟩
theorem L_rot17 (x : W32) (w : World) : Calls Tryd.prog 38 #[U x, .int .i64 (-17)] w fun e w' => e = .returned (U (rotr x 17)) ∧ w = w' := by
  have e1 : bits BinOp.and IntKind.u64 (IntKind.u64.wrap (-17)) 31 = 15 := by decide
  rw [← rotl_rotr x 17 (by decide)]
  go_enter Tryd.func38, Tryd.ntmps38
  go_wp2
  go_ret
  exact ⟨rfl, rfl⟩
theorem L_rot19 (x : W32) (w : World) : Calls Tryd.prog 38 #[U x, .int .i64 (-19)] w fun e w' => e = .returned (U (rotr x 19)) ∧ w = w' := by
  have e1 : bits BinOp.and IntKind.u64 (IntKind.u64.wrap (-19)) 31 = 13 := by decide
  rw [← rotl_rotr x 19 (by decide)]
  go_enter Tryd.func38, Tryd.ntmps38
  go_wp2
  go_ret
  exact ⟨rfl, rfl⟩
theorem L_rot6 (x : W32) (w : World) : Calls Tryd.prog 38 #[U x, .int .i64 (-6)] w fun e w' => e = .returned (U (rotr x 6)) ∧ w = w' := by
  have e1 : bits BinOp.and IntKind.u64 (IntKind.u64.wrap (-6)) 31 = 26 := by decide
  rw [← rotl_rotr x 6 (by decide)]
  go_enter Tryd.func38, Tryd.ntmps38
  go_wp2
  go_ret
  exact ⟨rfl, rfl⟩
theorem L_rot11 (x : W32) (w : World) : Calls Tryd.prog 38 #[U x, .int .i64 (-11)] w fun e w' => e = .returned (U (rotr x 11)) ∧ w = w' := by
  have e1 : bits BinOp.and IntKind.u64 (IntKind.u64.wrap (-11)) 31 = 21 := by decide
  rw [← rotl_rotr x 11 (by decide)]
  go_enter Tryd.func38, Tryd.ntmps38
  go_wp2
  go_ret
  exact ⟨rfl, rfl⟩
theorem L_rot25 (x : W32) (w : World) : Calls Tryd.prog 38 #[U x, .int .i64 (-25)] w fun e w' => e = .returned (U (rotr x 25)) ∧ w = w' := by
  have e1 : bits BinOp.and IntKind.u64 (IntKind.u64.wrap (-25)) 31 = 7 := by decide
  rw [← rotl_rotr x 25 (by decide)]
  go_enter Tryd.func38, Tryd.ntmps38
  go_wp2
  go_ret
  exact ⟨rfl, rfl⟩
theorem L_rot2 (x : W32) (w : World) : Calls Tryd.prog 38 #[U x, .int .i64 (-2)] w fun e w' => e = .returned (U (rotr x 2)) ∧ w = w' := by
  have e1 : bits BinOp.and IntKind.u64 (IntKind.u64.wrap (-2)) 31 = 30 := by decide
  rw [← rotl_rotr x 2 (by decide)]
  go_enter Tryd.func38, Tryd.ntmps38
  go_wp2
  go_ret
  exact ⟨rfl, rfl⟩
theorem L_rot13 (x : W32) (w : World) : Calls Tryd.prog 38 #[U x, .int .i64 (-13)] w fun e w' => e = .returned (U (rotr x 13)) ∧ w = w' := by
  have e1 : bits BinOp.and IntKind.u64 (IntKind.u64.wrap (-13)) 31 = 19 := by decide
  rw [← rotl_rotr x 13 (by decide)]
  go_enter Tryd.func38, Tryd.ntmps38
  go_wp2
  go_ret
  exact ⟨rfl, rfl⟩
theorem L_rot22 (x : W32) (w : World) : Calls Tryd.prog 38 #[U x, .int .i64 (-22)] w fun e w' => e = .returned (U (rotr x 22)) ∧ w = w' := by
  have e1 : bits BinOp.and IntKind.u64 (IntKind.u64.wrap (-22)) 31 = 10 := by decide
  rw [← rotl_rotr x 22 (by decide)]
  go_enter Tryd.func38, Tryd.ntmps38
  go_wp2
  go_ret
  exact ⟨rfl, rfl⟩
theorem R_turn7 (x : W32) (w : World) : Calls Tryd.prog 51 #[U x, .int .i64 7] w fun e w' => e = .returned (U (rotr x 7)) ∧ w = w' := by
  rw [rotr_def]
  go_enter Tryd.func51, Tryd.ntmps51
  go_wp2
  go_ret
  exact ⟨rfl, rfl⟩
theorem R_turn18 (x : W32) (w : World) : Calls Tryd.prog 51 #[U x, .int .i64 18] w fun e w' => e = .returned (U (rotr x 18)) ∧ w = w' := by
  rw [rotr_def]
  go_enter Tryd.func51, Tryd.ntmps51
  go_wp2
  go_ret
  exact ⟨rfl, rfl⟩
theorem R_turn17 (x : W32) (w : World) : Calls Tryd.prog 51 #[U x, .int .i64 17] w fun e w' => e = .returned (U (rotr x 17)) ∧ w = w' := by
  rw [rotr_def]
  go_enter Tryd.func51, Tryd.ntmps51
  go_wp2
  go_ret
  exact ⟨rfl, rfl⟩
theorem R_turn19 (x : W32) (w : World) : Calls Tryd.prog 51 #[U x, .int .i64 19] w fun e w' => e = .returned (U (rotr x 19)) ∧ w = w' := by
  rw [rotr_def]
  go_enter Tryd.func51, Tryd.ntmps51
  go_wp2
  go_ret
  exact ⟨rfl, rfl⟩
theorem R_turn6 (x : W32) (w : World) : Calls Tryd.prog 51 #[U x, .int .i64 6] w fun e w' => e = .returned (U (rotr x 6)) ∧ w = w' := by
  rw [rotr_def]
  go_enter Tryd.func51, Tryd.ntmps51
  go_wp2
  go_ret
  exact ⟨rfl, rfl⟩
theorem R_turn11 (x : W32) (w : World) : Calls Tryd.prog 51 #[U x, .int .i64 11] w fun e w' => e = .returned (U (rotr x 11)) ∧ w = w' := by
  rw [rotr_def]
  go_enter Tryd.func51, Tryd.ntmps51
  go_wp2
  go_ret
  exact ⟨rfl, rfl⟩
theorem R_turn25 (x : W32) (w : World) : Calls Tryd.prog 51 #[U x, .int .i64 25] w fun e w' => e = .returned (U (rotr x 25)) ∧ w = w' := by
  rw [rotr_def]
  go_enter Tryd.func51, Tryd.ntmps51
  go_wp2
  go_ret
  exact ⟨rfl, rfl⟩
theorem R_turn2 (x : W32) (w : World) : Calls Tryd.prog 51 #[U x, .int .i64 2] w fun e w' => e = .returned (U (rotr x 2)) ∧ w = w' := by
  rw [rotr_def]
  go_enter Tryd.func51, Tryd.ntmps51
  go_wp2
  go_ret
  exact ⟨rfl, rfl⟩
theorem R_turn13 (x : W32) (w : World) : Calls Tryd.prog 51 #[U x, .int .i64 13] w fun e w' => e = .returned (U (rotr x 13)) ∧ w = w' := by
  rw [rotr_def]
  go_enter Tryd.func51, Tryd.ntmps51
  go_wp2
  go_ret
  exact ⟨rfl, rfl⟩
theorem R_turn22 (x : W32) (w : World) : Calls Tryd.prog 51 #[U x, .int .i64 22] w fun e w' => e = .returned (U (rotr x 22)) ∧ w = w' := by
  rw [rotr_def]
  go_enter Tryd.func51, Tryd.ntmps51
  go_wp2
  go_ret
  exact ⟨rfl, rfl⟩

/-- All of them. -/
theorem L_rot (x : W32) (k : Int) (n : Nat) (hn : k = -(n : Int) ∧ n ∈ [7, 18, 17, 19, 6, 11, 25, 2, 13, 22]) (w : World) : Calls Tryd.prog 38 #[U x, .int .i64 k] w fun e w' => e = .returned (U (rotr x n)) ∧ w = w' := by
  obtain ⟨rfl, hn⟩ := hn
  simp at hn
  rcases hn with rfl | rfl | rfl | rfl | rfl | rfl | rfl | rfl | rfl | rfl
  · exact L_rot7 x w
  · exact L_rot18 x w
  · exact L_rot17 x w
  · exact L_rot19 x w
  · exact L_rot6 x w
  · exact L_rot11 x w
  · exact L_rot25 x w
  · exact L_rot2 x w
  · exact L_rot13 x w
  · exact L_rot22 x w
theorem R_turn (x : W32) (k : Int) (n : Nat) (hn : k = (n : Int) ∧ n ∈ [7, 18, 17, 19, 6, 11, 25, 2, 13, 22]) (w : World) : Calls Tryd.prog 51 #[U x, .int .i64 k] w fun e w' => e = .returned (U (rotr x n)) ∧ w = w' := by
  obtain ⟨rfl, hn⟩ := hn
  simp at hn
  rcases hn with rfl | rfl | rfl | rfl | rfl | rfl | rfl | rfl | rfl | rfl
  · exact R_turn7 x w
  · exact R_turn18 x w
  · exact R_turn17 x w
  · exact R_turn19 x w
  · exact R_turn6 x w
  · exact R_turn11 x w
  · exact R_turn25 x w
  · exact R_turn2 x w
  · exact R_turn13 x w
  · exact R_turn22 x w
theorem run_indexS (t : TypeId) (ht : Tryd.prog.underlying t = some .string) (s : ByteArray) (m : Nat) (hm : m < s.size) (w : World) : (Instr.index t (.string s) (.int .i64 (m : Int))).run Tryd.prog w = .ok (Y (byteAt s m)) w := by
  rw [run_index_string w t s .i64 (m : Int) ht, dif_pos ⟨by omega, by omega⟩]
  simp only [Int.toNat_natCast]
  rw [byteAt_get s m hm]
  rfl
section
variable {C : World → Prop} {a : Act} {o : Oper} {K : Act → Prop}
theorem quiet_indexS {t : TypeId} {x i : Operand} (h : o.op = .index t x i) (s : ByteArray) (hx : a.eval x = .string s) (j : Int) (hi : a.eval i = .int .i64 j) (m : Nat) (hm : m < s.size) (hj : j = m) (hk : K (a.put o.dst (Y (byteAt s m)))) (ht : Tryd.prog.underlying t = some .string := by kernel_rfl) : o.quiet Tryd.prog a C K :=
  ⟨_, fun w hw => by subst hj; unfold Oper.quietAt execOp; simp only [h, hx, hi, run_indexS t ht s m hm w, Sem.run_bind, Sem.run_pure, Result.andThen_ok]; exact ⟨rfl, rfl⟩, hk⟩
end
set_option maxHeartbeats 600000 in
set_option maxRecDepth 20000 in
theorem P_schedule (s : ByteArray) (w : World) (hs : s.size = 64) : Calls Tryd.prog 37 #[.string s] w fun e w' => e = .returned (Wd.v 64 (wrd (msg (bytes s)))) ∧ Below w.heap.size w w' := by
  have B := Below.refl w.heap.size w
  go_enter Tryd.func37, Tryd.ntmps37
  go_wp2_with (first | (refine wpList_allocW64 rfl rfl ?_; intro b_w1 wn hle hge ht hbn hzn; have hsz := B.size; replace B := B.trans (hbn.mono (by omega)); have hln := Nat.lt_of_lt_of_eq (Nat.lt_succ_self _) hzn.symm; clear hzn; (try first | (have hlt := w1.lt; replace w1 := w1.of_eq (hbn.block _ (by omega))) | replace w1 := w1.below (hbn.mono hle)); have w1 := ht; clear ht; simp only [Act.put, List.setIfInBounds_toArray, List.set_cons_zero, List.set_cons_succ]))
  go_loopw [3, 9] (fun _ i wr => ∃ k : Nat, k ≤ 16 ∧ i = .int .i64 k ∧ Below w.heap.size w wr ∧ WAt 80 64 wr b_w1 (first (msg (bytes s)) k)) (fun _ i _ => (16 - intOf i).toNat)
  case atStart => exact ⟨0, by omega, rfl, B, by rw [first_zero]; exact w1⟩
  case round =>
    clear B w1
    obtain ⟨k, hk, rfl, B, w1⟩ := hrel
    by_cases hlt : k < 16
    · go_wp2
      refine wp_region_ov_tail 31 (by kernel_rfl) (by kernel_rfl) ?_
      simp only [List.take_succ_cons, List.take_zero, List.drop_succ_cons, List.drop_zero]
      repeat (first | go_big_quiet_skip | (go_big_quiet_want; first | (refine quiet_indexS (t := 9) rfl (s) rfl _ rfl (4 * k) (by omega) (by omega) ?_; simp only [Act.put, List.setIfInBounds_toArray, List.set_cons_zero, List.set_cons_succ]; go_big_quiet_on) | (refine quiet_indexS (t := 9) rfl (s) rfl _ rfl (4 * k + 1) (by omega) (by omega) ?_; simp only [Act.put, List.setIfInBounds_toArray, List.set_cons_zero, List.set_cons_succ]; go_big_quiet_on) | (refine quiet_indexS (t := 9) rfl (s) rfl _ rfl (4 * k + 2) (by omega) (by omega) ?_; simp only [Act.put, List.setIfInBounds_toArray, List.set_cons_zero, List.set_cons_succ]; go_big_quiet_on) | (refine quiet_indexS (t := 9) rfl (s) rfl _ rfl (4 * k + 3) (by omega) (by omega) ?_; simp only [Act.put, List.setIfInBounds_toArray, List.set_cons_zero, List.set_cons_succ]; go_big_quiet_on) | (go_big_quiet_op; first | go_big_quiet_on | go_big_quiet_call ((fail)))))
      refine wpQuiet_nil ?_
      intro wn hbn
      have hsz := B.size
      have hzn := hbn.size
      replace B := B.trans (hbn.mono B.size)
      try replace w1 := w1.of_eq (hbn.block _ w1.lt)
      go_wp2_with (first | (refine wpList_storeWord rfl _ _ rfl _ _ rfl (_) rfl w1 (k) (by omega) (by first | rfl | omega) ?_; clear w1; intro wn ht hcn hzn; have hsz := B.size; replace hzn := Nat.le_of_eq hzn.symm; replace B := Chg.below B hcn (by omega) B.size; have w1 := ht; clear ht; simp only [Act.put, List.setIfInBounds_toArray, List.set_cons_zero, List.set_cons_succ]))
      rw [be_or, ← msg_at, first_next] at w1
      go_roundw
      case rel => exact ⟨k + 1, by omega, by go_num, B, w1⟩
      case measure => simp [intOf]; omega
    · obtain rfl : k = 16 := by omega
      simp only [show ((16 : Nat) : Int) = 16 from rfl]
      go_wp2
      go_loopw [4, 5, 6, 7, 8] (fun i _ _ _ _ wr => ∃ k : Nat, k ≤ 48 ∧ i = .int .i64 (16 + k) ∧ Below w.heap.size w wr ∧ WAt 80 64 wr b_w1 (sch (msg (bytes s)) k)) (fun i _ _ _ _ _ => (64 - intOf i).toNat)
      case atStart => exact ⟨0, by omega, rfl, B, by rw [sch_zero]; exact w1⟩
      case round =>
        clear B w1
        obtain ⟨k, hk, rfl, B, w1⟩ := hrel
        by_cases hlt : k < 48
        · go_wp2
          refine wp_region_ov (by kernel_rfl) (by kernel_rfl) ?_
          repeat (first | go_big_quiet_skip | (go_big_quiet_want; first | (refine quiet_loadAny (t := 45) rfl _ _ _ rfl (fun w hw => run_load_word (ov_w w1 w hw) (show k + 1 < 64 by omega)) (by first | rfl | omega) ?_; simp only [Act.put, List.setIfInBounds_toArray, List.set_cons_zero, List.set_cons_succ]; go_big_quiet_on) | (refine quiet_loadAny (t := 45) rfl _ _ _ rfl (fun w hw => run_load_word (ov_w w1 w hw) (show k + 14 < 64 by omega)) (by first | rfl | omega) ?_; simp only [Act.put, List.setIfInBounds_toArray, List.set_cons_zero, List.set_cons_succ]; go_big_quiet_on) | (go_big_quiet_op; first | go_big_quiet_on | go_big_quiet_call ((fail)))))
          refine wpQuiet_nil ?_
          intro wn hbn
          have hsz := B.size
          have hzn := hbn.size
          replace B := B.trans (hbn.mono B.size)
          try replace w1 := w1.of_eq (hbn.block _ w1.lt)
          go_wp2_with (first | (go_at_call 38; refine (L_rot _ _ 7 (by decide) _).mono ?_; rintro e wq ⟨rfl, rfl⟩) | (go_at_call 38; refine (L_rot _ _ 18 (by decide) _).mono ?_; rintro e wq ⟨rfl, rfl⟩) | (go_at_call 38; refine (L_rot _ _ 17 (by decide) _).mono ?_; rintro e wq ⟨rfl, rfl⟩) | (go_at_call 38; refine (L_rot _ _ 19 (by decide) _).mono ?_; rintro e wq ⟨rfl, rfl⟩))
          refine wp_region_ov_tail 15 (by kernel_rfl) (by kernel_rfl) ?_
          simp only [List.take_succ_cons, List.take_zero, List.drop_succ_cons, List.drop_zero]
          repeat (first | go_big_quiet_skip | (go_big_quiet_want; first | (refine quiet_loadAny (t := 45) rfl _ _ _ rfl (fun w hw => run_load_word (ov_w w1 w hw) (show k < 64 by omega)) (by first | rfl | omega) ?_; simp only [Act.put, List.setIfInBounds_toArray, List.set_cons_zero, List.set_cons_succ]; go_big_quiet_on) | (refine quiet_loadAny (t := 45) rfl _ _ _ rfl (fun w hw => run_load_word (ov_w w1 w hw) (show k + 9 < 64 by omega)) (by first | rfl | omega) ?_; simp only [Act.put, List.setIfInBounds_toArray, List.set_cons_zero, List.set_cons_succ]; go_big_quiet_on) | (go_big_quiet_op; first | go_big_quiet_on | go_big_quiet_call ((fail)))))
          refine wpQuiet_nil ?_
          intro wn hbn
          have hsz := B.size
          have hzn := hbn.size
          replace B := B.trans (hbn.mono B.size)
          try replace w1 := w1.of_eq (hbn.block _ w1.lt)
          go_wp2_with (first | (refine wpList_storeWord rfl _ _ rfl _ _ rfl (_) rfl w1 (16 + k) (by omega) (by first | rfl | omega) ?_; clear w1; intro wn ht hcn hzn; have hsz := B.size; replace hzn := Nat.le_of_eq hzn.symm; replace B := Chg.below B hcn (by omega) B.size; have w1 := ht; clear ht; simp only [Act.put, List.setIfInBounds_toArray, List.set_cons_zero, List.set_cons_succ]))
          rw [← s0_def, ← s1_def, ← sch_next] at w1
          go_roundw
          case rel => exact ⟨k + 1, by omega, by go_num, B, w1⟩
          case measure => simp [intOf]; omega
        · obtain rfl : k = 48 := by omega
          go_wp2_with (first | (refine wpList_storeW wt64 rfl _ _ rfl _ rfl _ rfl w1 ?_; clear w1; intro wn ht hcn hzn; have hsz := B.size; replace hzn := Nat.le_of_eq hzn.symm; replace B := Chg.below B hcn (by omega) B.size; have w1 := ht; clear ht; simp only [Act.put, List.setIfInBounds_toArray, List.set_cons_zero, List.set_cons_succ]) | (refine wpList_loadAny (t := 80) rfl _ rfl _ _ _ rfl (run_load_w wt64 w1) (by rfl) ?_; simp only [Act.put, List.setIfInBounds_toArray, List.set_cons_zero, List.set_cons_succ]))
          refine bodyPost_ret (results_w wt64 rfl _ _ (b_w1) rfl w1) rfl ?_
          exact ⟨rfl, B⟩
end Go.Proofs.YtelfkakaaobfcaaDoor
