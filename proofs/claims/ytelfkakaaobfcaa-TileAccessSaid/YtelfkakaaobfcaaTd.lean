/- Contracts of Over and Mask of tiles, and of turnCoverage. -/
import Derived.Test.YtelfkakaaobfcaaTc
namespace Go.Proofs.Ytelfkakaaobfcaa
open Go.RowKit Pl
set_option linter.unusedVariables false
set_option linter.unusedSimpArgs false

def overT (b s : Nat → Px) (m : Int) (c : Nat → Int) : Nat → Px := fun i => overP (b i) (s i) m (c i)
def maskT (t s : Nat → Px) : Nat → Px := fun i => fadeP (t i) (s i).a

set_option maxHeartbeats 2000000 in
set_option maxRecDepth 20000 in
theorem P_Over_t (b s : Nat → Px) (m : Int) (c : Nat → Int) (w : World) (okb : Tok b) (oks : Tok s) (okc : Cok c) : Calls Try.prog 26 #[Tile.v b, Tile.v s, .int .i64 m, Cov.v c] w fun e w' => e = .returned (Tile.v (overT b s m c)) ∧ Below w.heap.size w w' := by
  go_enter Try.func26, Try.ntmps26
  go_wp2_with (first | (refine wpList_allocT rfl rfl ?_; intro w4 t4 hb4 hz4; have l4 := Nat.lt_of_lt_of_eq (Nat.lt_succ_self _) hz4.symm; clear hz4; replace t1 := t1.of_eq (hb4.block _ t1.lt); replace t2 := t2.of_eq (hb4.block _ t2.lt); replace t3 := t3.of_eq (hb4.block _ t3.lt); simp only [Act.put, List.setIfInBounds_toArray, List.set_cons_zero, List.set_cons_succ]) | (refine wpList_boxC rfl _ rfl _ rfl ?_; intro w3 t3 hb3 hz3; have l3 := Nat.lt_of_lt_of_eq (Nat.lt_succ_self _) hz3.symm; clear hz3; replace t1 := t1.of_eq (hb3.block _ t1.lt); replace t2 := t2.of_eq (hb3.block _ t2.lt); simp only [Act.put, List.setIfInBounds_toArray, List.set_cons_zero, List.set_cons_succ]) | (refine wpList_boxT rfl _ rfl _ rfl ?_; intro w2 t2 hb2 hz2; have l2 := Nat.lt_of_lt_of_eq (Nat.lt_succ_self _) hz2.symm; clear hz2; replace t1 := t1.of_eq (hb2.block _ t1.lt); simp only [Act.put, List.setIfInBounds_toArray, List.set_cons_zero, List.set_cons_succ]) | (refine wpList_boxT rfl _ rfl _ rfl ?_; intro w1 t1 hb1 hz1; have l1 := Nat.lt_of_lt_of_eq (Nat.lt_succ_self _) hz1.symm; clear hz1; simp only [Act.put, List.setIfInBounds_toArray, List.set_cons_zero, List.set_cons_succ]))
  have B2 : Below w.heap.size w w4 := by
    repeat' (first | (with_reducible exact Below.refl _ _) | (with_reducible assumption) | (with_reducible refine Below.trans ?_ (hb1.mono (by omega))) | (with_reducible refine Below.trans ?_ (hb2.mono (by omega))) | (with_reducible refine Below.trans ?_ (hb3.mono (by omega))) | (with_reducible refine Below.trans ?_ (hb4.mono (by omega))))
  go_loopw [9, 10] (fun _ i wr => ∃ k : Nat, k ≤ 64 ∧ i = .int .i64 k ∧ Below w.heap.size w wr ∧ w4.heap.size ≤ wr.heap.size ∧ TileAt wr w.heap.size b ∧ TileAt wr w1.heap.size s ∧ CovAt wr w2.heap.size c ∧ TileAt wr w3.heap.size (stepT zeroT (overT b s m c) k)) (fun _ i _ => (64 - intOf i).toNat)
  case atStart => exact ⟨0, by omega, rfl, B2, Nat.le_refl _, t1, t2, t3, by rw [stepT_zero]; exact t4⟩
  case round =>
    obtain ⟨k, hk, rfl, Br, hr, t5, t6, t7, t8⟩ := hrel
    clear t1 t2 t3 t4
    by_cases hlt : k < 64
    · have hbk := okb k hlt
      have hsk := oks k hlt
      obtain ⟨ck0, ck1⟩ := okc k hlt
      go_wp2
      refine wp_region_ov_tail 14 (by kernel_rfl) (by kernel_rfl) ?_
      simp only [List.take_succ_cons, List.take_zero, List.drop_succ_cons, List.drop_zero]
      repeat (first | go_big_quiet_skip | (go_big_quiet_want; first | (refine quiet_loadTp rfl _ rfl (ov_tile t5) (k) (by omega) (by first | rfl | omega) ?_; simp only [Act.put, List.setIfInBounds_toArray, List.set_cons_zero, List.set_cons_succ]; go_big_quiet_on) | (refine quiet_loadTp rfl _ rfl (ov_tile t6) (k) (by omega) (by first | rfl | omega) ?_; simp only [Act.put, List.setIfInBounds_toArray, List.set_cons_zero, List.set_cons_succ]; go_big_quiet_on) | (refine quiet_loadAny rfl _ _ _ rfl (fun w hw => run_load_u8 ((ov_cov t7 w hw).cell hlt)) (by first | rfl | omega) ?_; simp only [Act.put, List.setIfInBounds_toArray, List.set_cons_zero, List.set_cons_succ]; go_big_quiet_on) | (go_big_quiet_op; first | go_big_quiet_on | go_big_quiet_call ((first | (go_at_call 30; exact calls_ov (P_Over _ _ _ _ _ hbk hsk)))))))
      refine wpQuiet_nil ?_
      intro w7 hb7
      have hz7 := hb7.size
      replace t5 := t5.of_eq (hb7.block _ t5.lt)
      replace t6 := t6.of_eq (hb7.block _ t6.lt)
      replace t7 := t7.of_eq (hb7.block _ t7.lt)
      replace t8 := t8.of_eq (hb7.block _ t8.lt)
      go_wp2_with (first | (refine wpList_storeTp rfl _ _ rfl _ _ rfl _ rfl t8 (k) (by omega) (by first | rfl | omega) ?_; clear t8; intro w8 t8 hc8 hz8; replace hz8 := Nat.le_of_eq hz8.symm; replace t5 := t5.of_eq (hc8.block _ t5.lt (by omega)); replace t6 := t6.of_eq (hc8.block _ t6.lt (by omega)); replace t7 := t7.of_eq (hc8.block _ t7.lt (by omega)); simp only [Act.put, List.setIfInBounds_toArray, List.set_cons_zero, List.set_cons_succ]))
      go_roundw
      case rel => exact ⟨k + 1, by omega, by go_num, by repeat' (first | (with_reducible exact Below.refl _ _) | (with_reducible assumption) | (with_reducible refine Below.trans ?_ (hb7.mono (by omega))) | (with_reducible refine Chg.below ?_ hc8 (by omega) (by omega))), by omega, t5, t6, t7, by rw [← stepT_next]; exact t8⟩
      case measure => simp [intOf]; omega
    · obtain rfl : k = 64 := by omega
      replace t8 := t8.congr (stepT_all _ _)
      go_wp2_with (first | (refine wpList_storeT rfl _ _ rfl _ rfl _ rfl t8 ?_; clear t8; intro w7 t8 hc7 hz7; replace hz7 := Nat.le_of_eq hz7.symm; simp only [Act.put, List.setIfInBounds_toArray, List.set_cons_zero, List.set_cons_succ]) | (refine wpList_loadT rfl _ rfl _ rfl t8 ?_; simp only [Act.put, List.setIfInBounds_toArray, List.set_cons_zero, List.set_cons_succ]))
      refine bodyPost_ret (results_tile rfl _ _ (w3.heap.size) rfl t8) rfl ?_
      refine ⟨rfl, ?_⟩
      repeat' (first | (with_reducible exact Below.refl _ _) | (with_reducible assumption) | (with_reducible refine Chg.below ?_ hc7 (by omega) (by omega)))
set_option maxHeartbeats 2000000 in
set_option maxRecDepth 20000 in
theorem R_Over_t (b s : Nat → Px) (m : Int) (c : Nat → Int) (w : World) (okb : Tok b) (oks : Tok s) (okc : Cok c) : Calls Try.prog 27 #[Tile.v b, Tile.v s, .int .i64 m, Cov.v c] w fun e w' => e = .returned (Tile.v (overT b s m c)) ∧ Below w.heap.size w w' := by
  go_enter Try.func27, Try.ntmps27
  go_wp2_with (first | (refine wpList_storeT rfl _ _ rfl _ rfl _ rfl t9 ?_; clear t9; intro w6 t9 hc6 hz6; replace hz6 := Nat.le_of_eq hz6.symm; replace t1 := t1.of_eq (hc6.block _ t1.lt (by omega)); replace t2 := t2.of_eq (hc6.block _ t2.lt (by omega)); replace t3 := t3.of_eq (hc6.block _ t3.lt (by omega)); replace t4 := t4.of_eq (hc6.block _ t4.lt (by omega)); simp only [Act.put, List.setIfInBounds_toArray, List.set_cons_zero, List.set_cons_succ]) | (refine wpList_buildT rfl rfl ?_; simp only [Act.put, List.setIfInBounds_toArray, List.set_cons_zero, List.set_cons_succ]) | (refine wpList_allocT rfl rfl ?_; intro w5 t9 hb5 hz5; have l5 := Nat.lt_of_lt_of_eq (Nat.lt_succ_self _) hz5.symm; clear hz5; replace t1 := t1.of_eq (hb5.block _ t1.lt); replace t2 := t2.of_eq (hb5.block _ t2.lt); replace t3 := t3.of_eq (hb5.block _ t3.lt); replace t4 := t4.of_eq (hb5.block _ t4.lt); simp only [Act.put, List.setIfInBounds_toArray, List.set_cons_zero, List.set_cons_succ]) | (refine wpList_allocT rfl rfl ?_; intro w4 t4 hb4 hz4; have l4 := Nat.lt_of_lt_of_eq (Nat.lt_succ_self _) hz4.symm; clear hz4; replace t1 := t1.of_eq (hb4.block _ t1.lt); replace t2 := t2.of_eq (hb4.block _ t2.lt); replace t3 := t3.of_eq (hb4.block _ t3.lt); simp only [Act.put, List.setIfInBounds_toArray, List.set_cons_zero, List.set_cons_succ]) | (refine wpList_boxC rfl _ rfl _ rfl ?_; intro w3 t3 hb3 hz3; have l3 := Nat.lt_of_lt_of_eq (Nat.lt_succ_self _) hz3.symm; clear hz3; replace t1 := t1.of_eq (hb3.block _ t1.lt); replace t2 := t2.of_eq (hb3.block _ t2.lt); simp only [Act.put, List.setIfInBounds_toArray, List.set_cons_zero, List.set_cons_succ]) | (refine wpList_boxT rfl _ rfl _ rfl ?_; intro w2 t2 hb2 hz2; have l2 := Nat.lt_of_lt_of_eq (Nat.lt_succ_self _) hz2.symm; clear hz2; replace t1 := t1.of_eq (hb2.block _ t1.lt); simp only [Act.put, List.setIfInBounds_toArray, List.set_cons_zero, List.set_cons_succ]) | (refine wpList_boxT rfl _ rfl _ rfl ?_; intro w1 t1 hb1 hz1; have l1 := Nat.lt_of_lt_of_eq (Nat.lt_succ_self _) hz1.symm; clear hz1; simp only [Act.put, List.setIfInBounds_toArray, List.set_cons_zero, List.set_cons_succ]))
  have B2 : Below w.heap.size w w6 := by
    repeat' (first | (with_reducible exact Below.refl _ _) | (with_reducible assumption) | (with_reducible refine Below.trans ?_ (hb1.mono (by omega))) | (with_reducible refine Below.trans ?_ (hb2.mono (by omega))) | (with_reducible refine Below.trans ?_ (hb3.mono (by omega))) | (with_reducible refine Below.trans ?_ (hb4.mono (by omega))) | (with_reducible refine Below.trans ?_ (hb5.mono (by omega))) | (with_reducible refine Chg.below ?_ hc6 (by omega) (by omega)))
  go_loopw [10] (fun i wr => ∃ k : Nat, k ≤ 64 ∧ i = .int .i64 k ∧ Below w.heap.size w wr ∧ w6.heap.size ≤ wr.heap.size ∧ TileAt wr w.heap.size b ∧ TileAt wr w1.heap.size s ∧ CovAt wr w2.heap.size c ∧ TileAt wr w3.heap.size zeroT ∧ TileAt wr w4.heap.size (stepT zeroT (overT b s m c) k)) (fun i _ => (64 - intOf i).toNat)
  case atStart => exact ⟨0, by omega, rfl, B2, Nat.le_refl _, t1, t2, t3, t4, by rw [stepT_zero]; exact t9⟩
  case round =>
    obtain ⟨k, hk, rfl, Br, hr, t5, t6, t7, t8, t9⟩ := hrel
    clear t1 t2 t3 t4
    by_cases hlt : k < 64
    · have hbk := okb k hlt
      have hsk := oks k hlt
      obtain ⟨ck0, ck1⟩ := okc k hlt
      go_wp2
      refine wp_region_ov_tail 14 (by kernel_rfl) (by kernel_rfl) ?_
      simp only [List.take_succ_cons, List.take_zero, List.drop_succ_cons, List.drop_zero]
      repeat (first | go_big_quiet_skip | (go_big_quiet_want; first | (refine quiet_loadTp rfl _ rfl (ov_tile t5) (k) (by omega) (by first | rfl | omega) ?_; simp only [Act.put, List.setIfInBounds_toArray, List.set_cons_zero, List.set_cons_succ]; go_big_quiet_on) | (refine quiet_loadTp rfl _ rfl (ov_tile t6) (k) (by omega) (by first | rfl | omega) ?_; simp only [Act.put, List.setIfInBounds_toArray, List.set_cons_zero, List.set_cons_succ]; go_big_quiet_on) | (refine quiet_loadAny rfl _ _ _ rfl (fun w hw => run_load_u8 ((ov_cov t7 w hw).cell hlt)) (by first | rfl | omega) ?_; simp only [Act.put, List.setIfInBounds_toArray, List.set_cons_zero, List.set_cons_succ]; go_big_quiet_on) | (go_big_quiet_op; first | go_big_quiet_on | go_big_quiet_call ((first | (go_at_call 42; exact calls_ov (R_Over _ _ _ _ _ hbk hsk)))))))
      refine wpQuiet_nil ?_
      intro w7 hb7
      have hz7 := hb7.size
      replace t5 := t5.of_eq (hb7.block _ t5.lt)
      replace t6 := t6.of_eq (hb7.block _ t6.lt)
      replace t7 := t7.of_eq (hb7.block _ t7.lt)
      replace t8 := t8.of_eq (hb7.block _ t8.lt)
      replace t9 := t9.of_eq (hb7.block _ t9.lt)
      go_wp2_with (first | (refine wpList_storeTp rfl _ _ rfl _ _ rfl _ rfl t9 (k) (by omega) (by first | rfl | omega) ?_; clear t9; intro w8 t9 hc8 hz8; replace hz8 := Nat.le_of_eq hz8.symm; replace t5 := t5.of_eq (hc8.block _ t5.lt (by omega)); replace t6 := t6.of_eq (hc8.block _ t6.lt (by omega)); replace t7 := t7.of_eq (hc8.block _ t7.lt (by omega)); replace t8 := t8.of_eq (hc8.block _ t8.lt (by omega)); simp only [Act.put, List.setIfInBounds_toArray, List.set_cons_zero, List.set_cons_succ]))
      go_roundw
      case rel => exact ⟨k + 1, by omega, by go_num, by repeat' (first | (with_reducible exact Below.refl _ _) | (with_reducible assumption) | (with_reducible refine Below.trans ?_ (hb7.mono (by omega))) | (with_reducible refine Chg.below ?_ hc8 (by omega) (by omega))), by omega, t5, t6, t7, t8, by rw [← stepT_next]; exact t9⟩
      case measure => simp [intOf]; omega
    · obtain rfl : k = 64 := by omega
      replace t9 := t9.congr (stepT_all _ _)
      go_wp2_with (first | (refine wpList_storeT rfl _ _ rfl _ rfl _ rfl t8 ?_; clear t8; intro w7 t8 hc7 hz7; replace hz7 := Nat.le_of_eq hz7.symm; simp only [Act.put, List.setIfInBounds_toArray, List.set_cons_zero, List.set_cons_succ]) | (refine wpList_loadT rfl _ rfl _ rfl t9 ?_; simp only [Act.put, List.setIfInBounds_toArray, List.set_cons_zero, List.set_cons_succ]))
      refine bodyPost_ret (results_tile rfl _ _ (w3.heap.size) rfl t8) rfl ?_
      refine ⟨rfl, ?_⟩
      repeat' (first | (with_reducible exact Below.refl _ _) | (with_reducible assumption) | (with_reducible refine Chg.below ?_ hc7 (by omega) (by omega)))

set_option maxHeartbeats 2000000 in
set_option maxRecDepth 20000 in
theorem P_Mask (t s : Nat → Px) (w : World) (okt : Tok t) (oks : Tok s) : Calls Try.prog 28 #[Tile.v t, Tile.v s] w fun e w' => e = .returned (Tile.v (maskT t s)) ∧ Below w.heap.size w w' := by
  go_enter Try.func28, Try.ntmps28
  go_wp2_with (first | (refine wpList_allocT rfl rfl ?_; intro w3 t3 hb3 hz3; have l3 := Nat.lt_of_lt_of_eq (Nat.lt_succ_self _) hz3.symm; clear hz3; replace t1 := t1.of_eq (hb3.block _ t1.lt); replace t2 := t2.of_eq (hb3.block _ t2.lt); simp only [Act.put, List.setIfInBounds_toArray, List.set_cons_zero, List.set_cons_succ]) | (refine wpList_boxT rfl _ rfl _ rfl ?_; intro w2 t2 hb2 hz2; have l2 := Nat.lt_of_lt_of_eq (Nat.lt_succ_self _) hz2.symm; clear hz2; replace t1 := t1.of_eq (hb2.block _ t1.lt); simp only [Act.put, List.setIfInBounds_toArray, List.set_cons_zero, List.set_cons_succ]) | (refine wpList_boxT rfl _ rfl _ rfl ?_; intro w1 t1 hb1 hz1; have l1 := Nat.lt_of_lt_of_eq (Nat.lt_succ_self _) hz1.symm; clear hz1; simp only [Act.put, List.setIfInBounds_toArray, List.set_cons_zero, List.set_cons_succ]))
  have B2 : Below w.heap.size w w3 := by
    repeat' (first | (with_reducible exact Below.refl _ _) | (with_reducible assumption) | (with_reducible refine Below.trans ?_ (hb1.mono (by omega))) | (with_reducible refine Below.trans ?_ (hb2.mono (by omega))) | (with_reducible refine Below.trans ?_ (hb3.mono (by omega))))
  go_loopw [5, 6] (fun _ i wr => ∃ k : Nat, k ≤ 64 ∧ i = .int .i64 k ∧ Below w.heap.size w wr ∧ w3.heap.size ≤ wr.heap.size ∧ TileAt wr w.heap.size (stepT t (maskT t s) k) ∧ TileAt wr w1.heap.size s ∧ TileAt wr w2.heap.size zeroT) (fun _ i _ => (64 - intOf i).toNat)
  case atStart => exact ⟨0, by omega, rfl, B2, Nat.le_refl _, by rw [stepT_zero]; exact t1, t2, t3⟩
  case round =>
    obtain ⟨k, hk, rfl, Br, hr, t5, t6, t7⟩ := hrel
    clear t1 t2 t3
    by_cases hlt : k < 64
    · have hbk : (stepT t (maskT t s) k k).ok := by rw [stepT_at]; exact okt k hlt
      obtain ⟨ck0, ck1⟩ := (oks k hlt).2.2.2
      go_wp2
      refine wp_region_ov_tail 11 (by kernel_rfl) (by kernel_rfl) ?_
      simp only [List.take_succ_cons, List.take_zero, List.drop_succ_cons, List.drop_zero]
      repeat (first | go_big_quiet_skip | (go_big_quiet_want; first | (refine quiet_loadTp rfl _ rfl (ov_tile t5) (k) (by omega) (by first | rfl | omega) ?_; simp only [Act.put, List.setIfInBounds_toArray, List.set_cons_zero, List.set_cons_succ]; go_big_quiet_on) | (refine quiet_loadAny rfl _ _ _ rfl (fun w hw => run_load_u8 ((ov_tile t6 w hw).alpha hlt)) (by first | rfl | omega) ?_; simp only [Act.put, List.setIfInBounds_toArray, List.set_cons_zero, List.set_cons_succ]; go_big_quiet_on) | (go_big_quiet_op; first | go_big_quiet_on | go_big_quiet_call ((first | (go_at_call 31; exact calls_ov (P_Fade _ _ _ hbk)))))))
      refine wpQuiet_nil ?_
      intro w7 hb7
      have hz7 := hb7.size
      replace t5 := t5.of_eq (hb7.block _ t5.lt)
      replace t6 := t6.of_eq (hb7.block _ t6.lt)
      replace t7 := t7.of_eq (hb7.block _ t7.lt)
      go_wp2_with (first | (refine wpList_storeTp rfl _ _ rfl _ _ rfl _ rfl t5 (k) (by omega) (by first | rfl | omega) ?_; clear t5; intro w8 t5 hc8 hz8; replace hz8 := Nat.le_of_eq hz8.symm; replace t6 := t6.of_eq (hc8.block _ t6.lt (by omega)); replace t7 := t7.of_eq (hc8.block _ t7.lt (by omega)); simp only [Act.put, List.setIfInBounds_toArray, List.set_cons_zero, List.set_cons_succ]))
      rw [stepT_at] at t5
      go_roundw
      case rel => exact ⟨k + 1, by omega, by go_num, by repeat' (first | (with_reducible exact Below.refl _ _) | (with_reducible assumption) | (with_reducible refine Below.trans ?_ (hb7.mono (by omega))) | (with_reducible refine Chg.below ?_ hc8 (by omega) (by omega))), by omega, by rw [← stepT_next]; exact t5, t6, t7⟩
      case measure => simp [intOf]; omega
    · obtain rfl : k = 64 := by omega
      replace t5 := t5.congr (stepT_all _ _)
      go_wp2_with (first | (refine wpList_storeT rfl _ _ rfl _ rfl _ rfl t7 ?_; clear t7; intro w7 t7 hc7 hz7; replace hz7 := Nat.le_of_eq hz7.symm; simp only [Act.put, List.setIfInBounds_toArray, List.set_cons_zero, List.set_cons_succ]) | (refine wpList_loadT rfl _ rfl _ rfl t5 ?_; simp only [Act.put, List.setIfInBounds_toArray, List.set_cons_zero, List.set_cons_succ]))
      refine bodyPost_ret (results_tile rfl _ _ (w2.heap.size) rfl t7) rfl ?_
      refine ⟨rfl, ?_⟩
      repeat' (first | (with_reducible exact Below.refl _ _) | (with_reducible assumption) | (with_reducible refine Chg.below ?_ hc7 (by omega) (by omega)))
set_option maxHeartbeats 2000000 in
set_option maxRecDepth 20000 in
theorem R_Mask (t s : Nat → Px) (w : World) (okt : Tok t) (oks : Tok s) : Calls Try.prog 29 #[Tile.v t, Tile.v s] w fun e w' => e = .returned (Tile.v (maskT t s)) ∧ Below w.heap.size w w' := by
  go_enter Try.func29, Try.ntmps29
  go_wp2_with (first | (refine wpList_allocT rfl rfl ?_; intro w3 t3 hb3 hz3; have l3 := Nat.lt_of_lt_of_eq (Nat.lt_succ_self _) hz3.symm; clear hz3; replace t1 := t1.of_eq (hb3.block _ t1.lt); replace t2 := t2.of_eq (hb3.block _ t2.lt); simp only [Act.put, List.setIfInBounds_toArray, List.set_cons_zero, List.set_cons_succ]) | (refine wpList_boxT rfl _ rfl _ rfl ?_; intro w2 t2 hb2 hz2; have l2 := Nat.lt_of_lt_of_eq (Nat.lt_succ_self _) hz2.symm; clear hz2; replace t1 := t1.of_eq (hb2.block _ t1.lt); simp only [Act.put, List.setIfInBounds_toArray, List.set_cons_zero, List.set_cons_succ]) | (refine wpList_boxT rfl _ rfl _ rfl ?_; intro w1 t1 hb1 hz1; have l1 := Nat.lt_of_lt_of_eq (Nat.lt_succ_self _) hz1.symm; clear hz1; simp only [Act.put, List.setIfInBounds_toArray, List.set_cons_zero, List.set_cons_succ]))
  have B2 : Below w.heap.size w w3 := by
    repeat' (first | (with_reducible exact Below.refl _ _) | (with_reducible assumption) | (with_reducible refine Below.trans ?_ (hb1.mono (by omega))) | (with_reducible refine Below.trans ?_ (hb2.mono (by omega))) | (with_reducible refine Below.trans ?_ (hb3.mono (by omega))))
  go_loopw [5] (fun i wr => ∃ k : Nat, k ≤ 64 ∧ i = .int .i64 k ∧ Below w.heap.size w wr ∧ w3.heap.size ≤ wr.heap.size ∧ TileAt wr w.heap.size (stepT t (maskT t s) k) ∧ TileAt wr w1.heap.size s ∧ TileAt wr w2.heap.size zeroT) (fun i _ => (64 - intOf i).toNat)
  case atStart => exact ⟨0, by omega, rfl, B2, Nat.le_refl _, by rw [stepT_zero]; exact t1, t2, t3⟩
  case round =>
    obtain ⟨k, hk, rfl, Br, hr, t5, t6, t7⟩ := hrel
    clear t1 t2 t3
    by_cases hlt : k < 64
    · have hbk : (stepT t (maskT t s) k k).ok := by rw [stepT_at]; exact okt k hlt
      obtain ⟨ck0, ck1⟩ := (oks k hlt).2.2.2
      go_wp2
      refine wp_region_ov_tail 11 (by kernel_rfl) (by kernel_rfl) ?_
      simp only [List.take_succ_cons, List.take_zero, List.drop_succ_cons, List.drop_zero]
      repeat (first | go_big_quiet_skip | (go_big_quiet_want; first | (refine quiet_loadTp rfl _ rfl (ov_tile t5) (k) (by omega) (by first | rfl | omega) ?_; simp only [Act.put, List.setIfInBounds_toArray, List.set_cons_zero, List.set_cons_succ]; go_big_quiet_on) | (refine quiet_loadAny rfl _ _ _ rfl (fun w hw => run_load_u8 ((ov_tile t6 w hw).alpha hlt)) (by first | rfl | omega) ?_; simp only [Act.put, List.setIfInBounds_toArray, List.set_cons_zero, List.set_cons_succ]; go_big_quiet_on) | (go_big_quiet_op; first | go_big_quiet_on | go_big_quiet_call ((first | (go_at_call 43; exact calls_ov (R_Fade _ _ _ hbk)))))))
      refine wpQuiet_nil ?_
      intro w7 hb7
      have hz7 := hb7.size
      replace t5 := t5.of_eq (hb7.block _ t5.lt)
      replace t6 := t6.of_eq (hb7.block _ t6.lt)
      replace t7 := t7.of_eq (hb7.block _ t7.lt)
      go_wp2_with (first | (refine wpList_storeTp rfl _ _ rfl _ _ rfl _ rfl t5 (k) (by omega) (by first | rfl | omega) ?_; clear t5; intro w8 t5 hc8 hz8; replace hz8 := Nat.le_of_eq hz8.symm; replace t6 := t6.of_eq (hc8.block _ t6.lt (by omega)); replace t7 := t7.of_eq (hc8.block _ t7.lt (by omega)); simp only [Act.put, List.setIfInBounds_toArray, List.set_cons_zero, List.set_cons_succ]))
      rw [stepT_at] at t5
      go_roundw
      case rel => exact ⟨k + 1, by omega, by go_num, by repeat' (first | (with_reducible exact Below.refl _ _) | (with_reducible assumption) | (with_reducible refine Below.trans ?_ (hb7.mono (by omega))) | (with_reducible refine Chg.below ?_ hc8 (by omega) (by omega))), by omega, by rw [← stepT_next]; exact t5, t6, t7⟩
      case measure => simp [intOf]; omega
    · obtain rfl : k = 64 := by omega
      replace t5 := t5.congr (stepT_all _ _)
      go_wp2_with (first | (refine wpList_storeT rfl _ _ rfl _ rfl _ rfl t7 ?_; clear t7; intro w7 t7 hc7 hz7; replace hz7 := Nat.le_of_eq hz7.symm; simp only [Act.put, List.setIfInBounds_toArray, List.set_cons_zero, List.set_cons_succ]) | (refine wpList_loadT rfl _ rfl _ rfl t5 ?_; simp only [Act.put, List.setIfInBounds_toArray, List.set_cons_zero, List.set_cons_succ]))
      refine bodyPost_ret (results_tile rfl _ _ (w2.heap.size) rfl t7) rfl ?_
      refine ⟨rfl, ?_⟩
      repeat' (first | (with_reducible exact Below.refl _ _) | (with_reducible assumption) | (with_reducible refine Chg.below ?_ hc7 (by omega) (by omega)))
end Go.Proofs.Ytelfkakaaobfcaa
