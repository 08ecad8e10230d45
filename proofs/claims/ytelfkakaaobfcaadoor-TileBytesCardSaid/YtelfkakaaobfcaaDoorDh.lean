/- Contract of digest.Of. -/
import Derived.Test.YtelfkakaaobfcaaDoorDp
import Derived.Test.YtelfkakaaobfcaaDoorDs
import Derived.Test.YtelfkakaaobfcaaDoorDg
namespace Go.Proofs.YtelfkakaaobfcaaDoor
open Go.RowKit Sha
set_option linter.unusedVariables false
set_option linter.unusedSimpArgs false

theorem rep0 (c : Nat) : Lib.repeatL [0] c = List.replicate c (0 : UInt8) := by
  induction c with
  | zero => rfl
  | succ c ih => simp [Lib.repeatL, ih, List.replicate_succ]
theorem L_Rep0 (c : Nat) (w : World) (hc : c ≤ 1000) : Calls Tryd.prog 19 #[.string ⟨#[0]⟩, .int .i64 c] w fun e w' => e = .returned (.string (ofL (List.replicate c 0))) ∧ Below w.heap.size w w' := by
  rw [← rep0]
  exact L_Repeat ⟨#[0]⟩ c w (by omega) (by show 1 * c ≤ _; omega)
theorem P_Put4z (n : Nat) (z : Int) (hz : z = (n : Int)) (hn : n < 9223372036854775808) (w : World) : Calls Tryd.prog 20 #[.int .i64 z, .int .i64 4] w fun e w' => e = .returned (.string (ofL (big n 4))) ∧ Below w.heap.size w w' := hz ▸ P_Put4 n hn w
theorem P_Put8z (n : Nat) (z : Int) (hz : z = (n : Int)) (hn : n < 9223372036854775808) (w : World) : Calls Tryd.prog 20 #[.int .i64 z, .int .i64 8] w fun e w' => e = .returned (.string (ofL (big n 8))) ∧ Below w.heap.size w w' := hz ▸ P_Put8 n hn w

set_option maxHeartbeats 2000000 in
set_option maxRecDepth 20000 in
theorem P_Of (l : List UInt8) (w : World) (hl : l.length < 1099511627776) (gs : GAt 0 8 w Sha.start.at) (kt : GAt 1 64 w kW) : Calls Tryd.prog 8 #[.string (ofL l)] w fun e w' => e = .returned (.string (ofL (ofB l))) ∧ Below w.heap.size w w' := by
  have B := Below.refl w.heap.size w
  have hz : (119 - (l.length : Int) % 64) % 64 = (zeros l.length : Nat) := by unfold zeros; omega
  have hz2 : zeros l.length < 64 := by unfold zeros; omega
  go_enter Tryd.func8, Tryd.ntmps8
  go_wp2_with (first | (refine wpList_storeW wt8 rfl _ _ rfl _ rfl _ rfl h1 ?_; clear h1; intro wn ht hcn hzn; have hsz := B.size; replace hzn := Nat.le_of_eq hzn.symm; replace B := Chg.below B hcn (by omega) B.size; (try replace gs := gs.of_eq (hcn.block _ gs.lt (by omega))); (try replace kt := kt.of_eq (hcn.block _ kt.lt (by omega))); have h1 := ht; clear ht; simp only [Act.put, List.setIfInBounds_toArray, List.set_cons_zero, List.set_cons_succ]) | (refine wpList_allocW8 rfl rfl ?_; intro b_h1 wn hle hge ht hbn hzn; have hsz := B.size; replace B := B.trans (hbn.mono (by omega)); have hln := Nat.lt_of_lt_of_eq (Nat.lt_succ_self _) hzn.symm; clear hzn; (try first | (have hlt := gs.lt; replace gs := gs.of_eq (hbn.block _ (by omega))) | replace gs := gs.below (hbn.mono hle)); (try first | (have hlt := kt.lt; replace kt := kt.of_eq (hbn.block _ (by omega))) | replace kt := kt.below (hbn.mono hle)); (try first | (have hlt := h1.lt; replace h1 := h1.of_eq (hbn.block _ (by omega))) | replace h1 := h1.below (hbn.mono hle)); have h1 := ht; clear ht; simp only [Act.put, List.setIfInBounds_toArray, List.set_cons_zero, List.set_cons_succ]) | (refine wpList_loadAny (t := 46) rfl _ rfl _ _ _ rfl (run_load_gw wt8 gs) (by rfl) ?_; simp only [Act.put, List.setIfInBounds_toArray, List.set_cons_zero, List.set_cons_succ]))
  refine wp_region_ov (by kernel_rfl) (by kernel_rfl) ?_
  repeat (first | go_big_quiet_skip | (go_big_quiet_want; first | (go_big_quiet_op; first | go_big_quiet_on | go_big_quiet_call ((first | (go_at_call 19; exact calls_ov (L_Rep0 _ _ (by omega))) | (go_at_call 20; exact calls_ov (P_Put8z (8 * l.length) _ (by omega) (by omega) _)))))))
  refine wpQuiet_nil ?_
  intro wn hbn
  have hsz := B.size
  have hzn := hbn.size
  replace B := B.trans (hbn.mono B.size)
  try replace gs := gs.of_eq (hbn.block _ gs.lt)
  try replace kt := kt.of_eq (hbn.block _ kt.lt)
  try replace h1 := h1.of_eq (hbn.block _ h1.lt)
  have ht : List.take (l.length - l.length / 64 * 64) (List.drop (l.length / 64 * 64) l) ++ 128 :: (List.replicate (zeros l.length) 0 ++ big (8 * l.length) 8) = tailB l := by
    unfold tailB
    rw [show l.length / 64 * 64 = 64 * (l.length / 64) by omega, List.take_of_length_le (by rw [List.length_drop]; omega)]
  simp only [List.append_assoc, List.cons_append, ht]
  go_wp2
  clear ht hz hz2
  generalize (119 - (l.length : Int) % 64) % 64 = z4
  go_loopw [6] (fun i wr => ∃ k : Nat, 64 * k ≤ l.length ∧ i = .int .i64 (64 * k) ∧ Below w.heap.size w wr ∧ GAt 1 64 wr kW ∧ WAt 46 8 wr b_h1 (blocks Sha.start l k).at) (fun i _ => ((l.length : Int) - intOf i).toNat)
  case atStart => exact ⟨0, by omega, rfl, B, kt, h1⟩
  case round =>
    clear B gs kt h1
    obtain ⟨k, hk, rfl, B, kt, h1⟩ := hrel
    by_cases hlt : 64 * k + 64 ≤ l.length
    · go_wp2
      refine wp_region_ov_tail 7 (by kernel_rfl) (by kernel_rfl) ?_
      simp only [List.take_succ_cons, List.take_zero, List.drop_succ_cons, List.drop_zero]
      repeat (first | go_big_quiet_skip | (go_big_quiet_want; first | (refine quiet_loadAny (t := 46) rfl _ _ _ rfl (fun w hw => run_load_w wt8 (ov_w h1 w hw)) (by rfl) ?_; simp only [Act.put, List.setIfInBounds_toArray, List.set_cons_zero, List.set_cons_succ]; go_big_quiet_on) | (go_big_quiet_op; first | go_big_quiet_on | go_big_quiet_call ((first | (go_at_call 21; exact calls_ov (P_compress _ _ _ (by rw [ofL_size, List.length_take, List.length_drop]; omega) (ov_g kt _ ⟨_, rfl⟩))))))))
      refine wpQuiet_nil ?_
      intro wn hbn
      have hsz := B.size
      have hzn := hbn.size
      replace B := B.trans (hbn.mono B.size)
      try replace gs := gs.of_eq (hbn.block _ gs.lt)
      try replace kt := kt.of_eq (hbn.block _ kt.lt)
      try replace h1 := h1.of_eq (hbn.block _ h1.lt)
      go_wp2_with (first | (refine wpList_storeW wt8 rfl _ _ rfl _ rfl _ rfl h1 ?_; clear h1; intro wn ht hcn hzn; have hsz := B.size; replace hzn := Nat.le_of_eq hzn.symm; replace B := Chg.below B hcn (by omega) B.size; (try replace gs := gs.of_eq (hcn.block _ gs.lt (by omega))); (try replace kt := kt.of_eq (hcn.block _ kt.lt (by omega))); have h1 := ht; clear ht; simp only [Act.put, List.setIfInBounds_toArray, List.set_cons_zero, List.set_cons_succ]))
      rw [bytes_ofL, ← blocks_next] at h1
      go_roundw
      case rel => exact ⟨k + 1, by omega, by go_num, B, kt, h1⟩
      case measure => simp [intOf]; omega
    · have hq : k = l.length / 64 := by omega
      have hT := tail_blocks l
      have hT2 : (tailB l).length / 64 ≤ 2 := by rw [tailB_length]; unfold zeros; omega
      go_wp2
      rw [hq] at h1
      clear hq hlt
      generalize (k : Int) = z6
      go_loopw [5] (fun p wr => ∃ j : Nat, j ≤ (tailB l).length / 64 ∧ p = .string (ofL ((tailB l).drop (64 * j))) ∧ Below w.heap.size w wr ∧ GAt 1 64 wr kW ∧ WAt 46 8 wr b_h1 (blocks (blocks Sha.start l (l.length / 64)) (tailB l) j).at) (fun p _ => strLen p)
      case atStart => exact ⟨0, by omega, rfl, B, kt, h1⟩
      case round =>
        clear B kt h1
        obtain ⟨j, hj, rfl, B, kt, h1⟩ := hrel
        by_cases hlt2 : j < (tailB l).length / 64
        · have hlen : 64 ≤ ((tailB l).drop (64 * j)).length := by rw [List.length_drop]; omega
          generalize ht : (tailB l).drop (64 * j) = t at *
          go_wp2
          refine wp_region_ov_tail 4 (by kernel_rfl) (by kernel_rfl) ?_
          simp only [List.take_succ_cons, List.take_zero, List.drop_succ_cons, List.drop_zero]
          repeat (first | go_big_quiet_skip | (go_big_quiet_want; first | (refine quiet_loadAny (t := 46) rfl _ _ _ rfl (fun w hw => run_load_w wt8 (ov_w h1 w hw)) (by rfl) ?_; simp only [Act.put, List.setIfInBounds_toArray, List.set_cons_zero, List.set_cons_succ]; go_big_quiet_on) | (go_big_quiet_op; first | go_big_quiet_on | go_big_quiet_call ((first | (go_at_call 21; exact calls_ov (P_compress _ _ _ (by rw [ofL_size]; simp; omega) (ov_g kt _ ⟨_, rfl⟩))))))))
          refine wpQuiet_nil ?_
          intro wn hbn
          have hsz := B.size
          have hzn := hbn.size
          replace B := B.trans (hbn.mono B.size)
          try replace gs := gs.of_eq (hbn.block _ gs.lt)
          try replace kt := kt.of_eq (hbn.block _ kt.lt)
          try replace h1 := h1.of_eq (hbn.block _ h1.lt)
          go_wp2_with (first | (refine wpList_storeW wt8 rfl _ _ rfl _ rfl _ rfl h1 ?_; clear h1; intro wn ht hcn hzn; have hsz := B.size; replace hzn := Nat.le_of_eq hzn.symm; replace B := Chg.below B hcn (by omega) B.size; (try replace gs := gs.of_eq (hcn.block _ gs.lt (by omega))); (try replace kt := kt.of_eq (hcn.block _ kt.lt (by omega))); have h1 := ht; clear ht; simp only [Act.put, List.setIfInBounds_toArray, List.set_cons_zero, List.set_cons_succ]))
          rw [bytes_ofL, ← ht, ← blocks_next] at h1
          go_roundw
          case rel => exact ⟨j + 1, by omega, by rw [List.take_of_length_le (by simp), ← ht, List.drop_drop, show 64 * j + 64 = 64 * (j + 1) by omega], B, kt, h1⟩
          case measure => simp [strLen, ofL_size]; omega
        · obtain rfl : j = (tailB l).length / 64 := by omega
          have hnil : (tailB l).drop (64 * ((tailB l).length / 64)) = [] := List.drop_eq_nil_of_le (by omega)
          have hres := ofB_eq l
          rw [hnil]
          generalize blocks (blocks Sha.start l (l.length / 64)) (tailB l) ((tailB l).length / 64) = st at *
          go_wp2_with (first | (refine wpList_allocB rfl rfl ?_; intro b_bd wn hle hge ht hbn hzn; have hsz := B.size; replace B := B.trans (hbn.mono (by omega)); have hln := Nat.lt_of_lt_of_eq (Nat.lt_succ_self _) hzn.symm; clear hzn; (try first | (have hlt := gs.lt; replace gs := gs.of_eq (hbn.block _ (by omega))) | replace gs := gs.below (hbn.mono hle)); (try first | (have hlt := kt.lt; replace kt := kt.of_eq (hbn.block _ (by omega))) | replace kt := kt.below (hbn.mono hle)); (try first | (have hlt := h1.lt; replace h1 := h1.of_eq (hbn.block _ (by omega))) | replace h1 := h1.below (hbn.mono hle)); have bd := ht; clear ht; simp only [Act.put, List.setIfInBounds_toArray, List.set_cons_zero, List.set_cons_succ]) | (refine wpList_loadAny (t := 46) rfl _ rfl _ _ _ rfl (run_load_w wt8 h1) (by rfl) ?_; simp only [Act.put, List.setIfInBounds_toArray, List.set_cons_zero, List.set_cons_succ]))
          have hbd : w.heap.size ≤ b_bd := by omega
          go_loopw [9, 55] (fun _ i wr => ∃ k : Nat, k ≤ 8 ∧ i = .int .i64 k ∧ Below w.heap.size w wr ∧ HoldsB b_bd b_bd (outK st k) wr) (fun _ i _ => (8 - intOf i).toNat)
          case atStart => exact ⟨0, by omega, rfl, B, bd⟩
          case round =>
            clear B kt h1 bd
            obtain ⟨k, hk, rfl, B, bd⟩ := hrel
            by_cases hlt3 : k < 8
            · have hix := run_index_w8 st.at k hlt3
              have hxl := (st.at k).isLt
              have hbl := bd.lt
              go_wp2_with (first | (go_at_call 20; refine (P_Put4 _ (by omega) _).mono ?_; rintro e wn ⟨rfl, hbn⟩; have hsz := B.size; have hzn := hbn.size; replace B := B.trans (hbn.mono B.size); replace bd := bd.below hbn) | (go_at_call 22; refine (L_WriteString b_bd b_bd _ _ _ bd (by rw [outK_length, ofL_size, big_length]; omega) (Nat.le_of_lt bd.lt)).mono ?_; rintro e wn ⟨rfl, ht, hbn⟩; have hsz := B.size; have hzn := hbn.size; replace B := B.trans (hbn.mono (by omega)); replace bd := ht; clear ht))
              rw [bytes_ofL, ← outK_next] at bd
              go_roundw
              case rel => exact ⟨k + 1, by omega, by go_num, B, bd⟩
              case measure => simp [intOf]; omega
            · obtain rfl : k = 8 := by omega
              have hbl := bd.lt
              rw [outK_all] at bd
              go_wp2_with ((go_at_call 23; refine (L_String b_bd b_bd _ _ bd (Nat.le_of_lt bd.lt)).mono ?_; rintro e wn ⟨rfl, hbn⟩; replace B := B.trans (hbn.mono hbd)))
              go_ret
              exact ⟨by rw [hres]; rfl, B⟩
end Go.Proofs.YtelfkakaaobfcaaDoor
