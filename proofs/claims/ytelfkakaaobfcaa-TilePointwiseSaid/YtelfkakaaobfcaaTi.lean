/- Contract of turnCoverage. -/
import Derived.Test.YtelfkakaaobfcaaTe
namespace Go.Proofs.Ytelfkakaaobfcaa
open Go.RowKit Pl
set_option linter.unusedVariables false
set_option linter.unusedSimpArgs false

/-- A coverage turned clockwise. -/
def turnC (c : Nat → Int) : Nat → Int := fun j => c (8 * (7 - j % 8) + j / 8)
/-- The tile whose alphas are c. -/
def alphaT (c : Nat → Int) : Nat → Px := fun i => { Px.zero with a := c i }
theorem turnC_ok {c : Nat → Int} (h : Cok c) : Cok (turnC c) := fun i hi => h _ (by omega)

set_option maxHeartbeats 2000000 in
set_option maxRecDepth 20000 in
theorem L_turnC (c : Nat → Int) (w : World) (okc : Cok c) : Calls Try.prog 32 #[Cov.v c] w fun e w' => e = .returned (Cov.v (turnC c)) ∧ Below w.heap.size w w' := by
  go_enter Try.func32, Try.ntmps32
  go_wp2_with (first | (refine wpList_storeT rfl _ _ rfl _ rfl _ rfl t3 ?_; clear t3; intro w4 t3 hc4 hz4; replace hz4 := Nat.le_of_eq hz4.symm; replace t1 := t1.of_eq (hc4.block _ t1.lt (by omega)); replace t2 := t2.of_eq (hc4.block _ t2.lt (by omega)); simp only [Act.put, List.setIfInBounds_toArray, List.set_cons_zero, List.set_cons_succ]) | (refine wpList_buildT rfl rfl ?_; simp only [Act.put, List.setIfInBounds_toArray, List.set_cons_zero, List.set_cons_succ]) | (refine wpList_allocT rfl rfl ?_; intro w3 t3 hb3 hz3; have l3 := Nat.lt_of_lt_of_eq (Nat.lt_succ_self _) hz3.symm; clear hz3; replace t1 := t1.of_eq (hb3.block _ t1.lt); replace t2 := t2.of_eq (hb3.block _ t2.lt); simp only [Act.put, List.setIfInBounds_toArray, List.set_cons_zero, List.set_cons_succ]) | (refine wpList_allocC rfl rfl ?_; intro w2 t2 hb2 hz2; have l2 := Nat.lt_of_lt_of_eq (Nat.lt_succ_self _) hz2.symm; clear hz2; replace t1 := t1.of_eq (hb2.block _ t1.lt); simp only [Act.put, List.setIfInBounds_toArray, List.set_cons_zero, List.set_cons_succ]) | (refine wpList_boxC rfl _ rfl _ rfl ?_; intro w1 t1 hb1 hz1; have l1 := Nat.lt_of_lt_of_eq (Nat.lt_succ_self _) hz1.symm; clear hz1; simp only [Act.put, List.setIfInBounds_toArray, List.set_cons_zero, List.set_cons_succ]))
  have B4 : Below w.heap.size w w4 := by
    repeat' (first | (with_reducible exact Below.refl _ _) | (with_reducible assumption) | (with_reducible refine Below.trans ?_ (hb1.mono (by omega))) | (with_reducible refine Below.trans ?_ (hb2.mono (by omega))) | (with_reducible refine Below.trans ?_ (hb3.mono (by omega))) | (with_reducible refine Chg.below ?_ hc4 (by omega) (by omega)))
  go_loopw [4] (fun i wr => ∃ k : Nat, k ≤ 64 ∧ i = .int .i64 k ∧ Below w.heap.size w wr ∧ w4.heap.size ≤ wr.heap.size ∧ CovAt wr w.heap.size c ∧ CovAt wr w1.heap.size (fun _ => 0) ∧ TileAt wr w2.heap.size (stepT zeroT (alphaT c) k)) (fun i _ => (64 - intOf i).toNat)
  case atStart => exact ⟨0, by omega, rfl, B4, Nat.le_refl _, t1, t2, by rw [stepT_zero]; exact t3⟩
  case round =>
    obtain ⟨k, hk, rfl, Br, hr, t4, t5, t6⟩ := hrel
    clear t1 t2 t3
    by_cases hlt : k < 64
    · obtain ⟨ck0, ck1⟩ := okc k hlt
      go_wp2_with (first | (refine wpList_storeTa rfl _ _ rfl _ _ rfl _ rfl t6 (k) (by omega) (by first | rfl | omega) ?_; clear t6; intro w5 t6 hc5 hz5; replace hz5 := Nat.le_of_eq hz5.symm; replace t4 := t4.of_eq (hc5.block _ t4.lt (by omega)); replace t5 := t5.of_eq (hc5.block _ t5.lt (by omega)); simp only [Act.put, List.setIfInBounds_toArray, List.set_cons_zero, List.set_cons_succ]) | (refine wpList_loadAny rfl _ rfl _ _ _ rfl (run_load_u8 (t4.cell hlt)) (by first | rfl | omega) ?_; simp only [Act.put, List.setIfInBounds_toArray, List.set_cons_zero, List.set_cons_succ]))
      go_roundw
      case rel => exact ⟨k + 1, by omega, by go_num, by repeat' (first | (with_reducible exact Below.refl _ _) | (with_reducible assumption) | (with_reducible refine Chg.below ?_ hc5 (by omega) (by omega))), by omega, t4, t5, by
        rw [← stepT_next]
        rw [stepT_at] at t6
        exact t6⟩
      case measure => simp [intOf]; omega
    · obtain rfl : k = 64 := by omega
      replace t6 := t6.congr (stepT_all _ _)
      go_wp2_with (first | (refine wpList_storeT rfl _ _ rfl _ rfl _ rfl t6 ?_; clear t6; intro w7 t6 hc7 hz7; replace hz7 := Nat.le_of_eq hz7.symm; replace t4 := t4.of_eq (hc7.block _ t4.lt (by omega)); replace t5 := t5.of_eq (hc7.block _ t5.lt (by omega)); simp only [Act.put, List.setIfInBounds_toArray, List.set_cons_zero, List.set_cons_succ]) | (go_at_call 12; refine (P_Turn _ _).mono ?_; rintro e w6 ⟨rfl, hb6⟩; have hz6 := hb6.size; replace t4 := t4.of_eq (hb6.block _ t4.lt); replace t5 := t5.of_eq (hb6.block _ t5.lt); replace t6 := t6.of_eq (hb6.block _ t6.lt)) | (refine wpList_loadT rfl _ rfl _ rfl t6 ?_; simp only [Act.put, List.setIfInBounds_toArray, List.set_cons_zero, List.set_cons_succ]))
      have B7 : Below w.heap.size w w7 := by
        repeat' (first | (with_reducible exact Below.refl _ _) | (with_reducible assumption) | (with_reducible refine Below.trans ?_ (hb6.mono (by omega))) | (with_reducible refine Chg.below ?_ hc7 (by omega) (by omega)))
      go_loopw [5] (fun i wr => ∃ k : Nat, k ≤ 64 ∧ i = .int .i64 k ∧ Below w.heap.size w wr ∧ w4.heap.size ≤ wr.heap.size ∧ CovAt wr w.heap.size (stepC c (turnC c) k) ∧ CovAt wr w1.heap.size (fun _ => 0) ∧ TileAt wr w2.heap.size (turnT (alphaT c))) (fun i _ => (64 - intOf i).toNat)
      case atStart => exact ⟨0, by omega, rfl, B7, by omega, by rw [stepC_zero]; exact t4, t5, t6⟩
      case round =>
        obtain ⟨k, hk, rfl, Br, hr, t7, t8, t9⟩ := hrel
        clear t4 t5 t6
        by_cases hlt : k < 64
        · go_wp2_with (first | (refine wpList_storeCb rfl _ _ rfl _ _ rfl _ rfl t7 (k) (by omega) (by first | rfl | omega) ?_; clear t7; intro w8 t7 hc8 hz8; replace hz8 := Nat.le_of_eq hz8.symm; replace t8 := t8.of_eq (hc8.block _ t8.lt (by omega)); replace t9 := t9.of_eq (hc8.block _ t9.lt (by omega)); simp only [Act.put, List.setIfInBounds_toArray, List.set_cons_zero, List.set_cons_succ]) | (refine wpList_loadAny rfl _ rfl _ _ _ rfl (run_load_u8 (t9.alpha hlt)) (by first | rfl | omega) ?_; simp only [Act.put, List.setIfInBounds_toArray, List.set_cons_zero, List.set_cons_succ]))
          go_roundw
          case rel => exact ⟨k + 1, by omega, by go_num, by repeat' (first | (with_reducible exact Below.refl _ _) | (with_reducible assumption) | (with_reducible refine Chg.below ?_ hc8 (by omega) (by omega))), by omega, by rw [← stepC_next]; exact t7, t8, t9⟩
          case measure => simp [intOf]; omega
        · obtain rfl : k = 64 := by omega
          replace t7 := t7.congr (stepC_all _ _)
          go_wp2_with (first | (refine wpList_storeC rfl _ _ rfl _ rfl _ rfl t8 ?_; clear t8; intro w8 t8 hc8 hz8; replace hz8 := Nat.le_of_eq hz8.symm; simp only [Act.put, List.setIfInBounds_toArray, List.set_cons_zero, List.set_cons_succ]) | (refine wpList_loadAny rfl _ rfl _ _ _ rfl (run_load_cov t7) (rfl) ?_; simp only [Act.put, List.setIfInBounds_toArray, List.set_cons_zero, List.set_cons_succ]))
          refine bodyPost_ret (results_cov rfl _ _ (w1.heap.size) rfl t8) rfl ?_
          refine ⟨rfl, ?_⟩
          repeat' (first | (with_reducible exact Below.refl _ _) | (with_reducible assumption) | (with_reducible refine Chg.below ?_ hc8 (by omega) (by omega)))
end Go.Proofs.Ytelfkakaaobfcaa
