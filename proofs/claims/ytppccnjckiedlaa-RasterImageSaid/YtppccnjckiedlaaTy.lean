/- Contracts of Fill (reference), Clean, Same, Zero, Solid. -/
import Derived.Test.YtppccnjckiedlaaTq
namespace Go.Proofs.Ytppccnjckiedlaa
open Go.RowKit Pl
set_option linter.unusedVariables false
set_option linter.unusedSimpArgs false
set_option maxRecDepth 20000

set_option maxHeartbeats 1000000 in
set_option maxRecDepth 20000 in
theorem R_Fill (p : Px) (w : World) : Calls Try.prog 62 #[Px.v p] w fun e w' => e = .returned (Tile.v (fillT p)) ∧ Below w.heap.size w w' := by
  go_enter Try.func62, Try.ntmps62
  go_wp2_with (first | (refine wpList_storeT rfl _ _ rfl _ rfl _ rfl t3 ?_; clear t3; intro w4 t3 hc4 hz4; replace hz4 := Nat.le_of_eq hz4.symm; replace t1 := t1.of_eq (hc4.block _ t1.lt (by omega)); replace t2 := t2.of_eq (hc4.block _ t2.lt (by omega)); simp only [Act.put, List.setIfInBounds_toArray, List.set_cons_zero, List.set_cons_succ]) | (refine wpList_buildT rfl rfl ?_; simp only [Act.put, List.setIfInBounds_toArray, List.set_cons_zero, List.set_cons_succ]) | (refine wpList_allocT rfl rfl ?_; intro w3 t3 hb3 hz3; have l3 := Nat.lt_of_lt_of_eq (Nat.lt_succ_self _) hz3.symm; clear hz3; replace t1 := t1.of_eq (hb3.block _ t1.lt); replace t2 := t2.of_eq (hb3.block _ t2.lt); simp only [Act.put, List.setIfInBounds_toArray, List.set_cons_zero, List.set_cons_succ]) | (refine wpList_allocT rfl rfl ?_; intro w2 t2 hb2 hz2; have l2 := Nat.lt_of_lt_of_eq (Nat.lt_succ_self _) hz2.symm; clear hz2; replace t1 := t1.of_eq (hb2.block _ t1.lt); simp only [Act.put, List.setIfInBounds_toArray, List.set_cons_zero, List.set_cons_succ]) | (refine wpList_boxPx rfl _ rfl _ rfl ?_; intro w1 t1 hb1 hz1; have l1 := Nat.lt_of_lt_of_eq (Nat.lt_succ_self _) hz1.symm; clear hz1; simp only [Act.put, List.setIfInBounds_toArray, List.set_cons_zero, List.set_cons_succ]))
  have B2 : Below w.heap.size w w4 := by
    repeat' (first | (with_reducible exact Below.refl _ _) | (with_reducible assumption) | (with_reducible refine Below.trans ?_ (hb1.mono (by omega))) | (with_reducible refine Below.trans ?_ (hb2.mono (by omega))) | (with_reducible refine Below.trans ?_ (hb3.mono (by omega))) | (with_reducible refine Chg.below ?_ hc4 (by omega) (by omega)))
  go_loopw [4] (fun i wr => ∃ k : Nat, k ≤ 64 ∧ i = .int .i64 k ∧ Below w.heap.size w wr ∧ w4.heap.size ≤ wr.heap.size ∧ PixAt wr w.heap.size p ∧ TileAt wr w1.heap.size zeroT ∧ TileAt wr w2.heap.size (stepT zeroT (fillT p) k)) (fun i _ => (64 - intOf i).toNat)
  case atStart => exact ⟨0, by omega, rfl, B2, Nat.le_refl _, t1, t2, by rw [stepT_zero]; exact t3⟩
  case round =>
    obtain ⟨k, hk, rfl, Br, hr, t4, t5, t6⟩ := hrel
    clear t1 t2 t3
    by_cases hlt : k < 64
    · go_wp2_with (first | (refine wpList_storeTp rfl _ _ rfl _ _ rfl _ rfl t6 (k) (by omega) (by first | rfl | omega) ?_; clear t6; intro w5 t6 hc5 hz5; replace hz5 := Nat.le_of_eq hz5.symm; replace t4 := t4.of_eq (hc5.block _ t4.lt (by omega)); replace t5 := t5.of_eq (hc5.block _ t5.lt (by omega)); simp only [Act.put, List.setIfInBounds_toArray, List.set_cons_zero, List.set_cons_succ]) | (refine wpList_loadPx rfl _ rfl _ rfl t4 ?_; simp only [Act.put, List.setIfInBounds_toArray, List.set_cons_zero, List.set_cons_succ]))
      go_roundw
      case rel => exact ⟨k + 1, by omega, by go_num, by repeat' (first | (with_reducible exact Below.refl _ _) | (with_reducible assumption) | (with_reducible refine Chg.below ?_ hc5 (by omega) (by omega))), by omega, t4, t5, by rw [← stepT_next]; exact t6⟩
      case measure => simp [intOf]; omega
    · obtain rfl : k = 64 := by omega
      replace t6 := t6.congr (stepT_all _ _)
      go_wp2_with (first | (refine wpList_storeT rfl _ _ rfl _ rfl _ rfl t5 ?_; clear t5; intro w5 t5 hc5 hz5; replace hz5 := Nat.le_of_eq hz5.symm; simp only [Act.put, List.setIfInBounds_toArray, List.set_cons_zero, List.set_cons_succ]) | (refine wpList_loadT rfl _ rfl _ rfl t6 ?_; simp only [Act.put, List.setIfInBounds_toArray, List.set_cons_zero, List.set_cons_succ]))
      refine bodyPost_ret (results_tile rfl _ _ (w1.heap.size) rfl t5) rfl ?_
      refine ⟨rfl, ?_⟩
      repeat' (first | (with_reducible exact Below.refl _ _) | (with_reducible assumption) | (with_reducible refine Chg.below ?_ hc5 (by omega) (by omega)))

set_option maxHeartbeats 1000000 in
set_option maxRecDepth 20000 in
theorem P_Clean_t (t : Nat → Px) (w : World) (ht : Tok t) : Calls Try.prog 54 #[Tile.v t] w fun e w' => e = .returned (Tile.v (cleanT t)) ∧ Below w.heap.size w w' := by
  go_enter Try.func54, Try.ntmps54
  go_wp2_with (first | (refine wpList_loadT rfl _ rfl _ rfl t1 ?_; simp only [Act.put, List.setIfInBounds_toArray, List.set_cons_zero, List.set_cons_succ]) | (refine wpList_allocT rfl rfl ?_; intro w2 t2 hb2 hz2; have l2 := Nat.lt_of_lt_of_eq (Nat.lt_succ_self _) hz2.symm; clear hz2; replace t1 := t1.of_eq (hb2.block _ t1.lt); simp only [Act.put, List.setIfInBounds_toArray, List.set_cons_zero, List.set_cons_succ]) | (refine wpList_boxT rfl _ rfl _ rfl ?_; intro w1 t1 hb1 hz1; have l1 := Nat.lt_of_lt_of_eq (Nat.lt_succ_self _) hz1.symm; clear hz1; simp only [Act.put, List.setIfInBounds_toArray, List.set_cons_zero, List.set_cons_succ]))
  have B2 : Below w.heap.size w w2 := by
    repeat' (first | (with_reducible exact Below.refl _ _) | (with_reducible assumption) | (with_reducible refine Below.trans ?_ (hb1.mono (by omega))) | (with_reducible refine Below.trans ?_ (hb2.mono (by omega))))
  go_loopw [3, 4, 6] (fun _ _ i wr => ∃ k : Nat, k ≤ 64 ∧ i = .int .i64 k ∧ Below w.heap.size w wr ∧ w2.heap.size ≤ wr.heap.size ∧ TileAt wr w.heap.size (stepT t (cleanT t) k) ∧ TileAt wr w1.heap.size zeroT) (fun _ _ i _ => (64 - intOf i).toNat)
  case atStart => exact ⟨0, by omega, rfl, B2, Nat.le_refl _, by rw [stepT_zero]; exact t1, t2⟩
  case round =>
    obtain ⟨k, hk, rfl, Br, hr, t4, t5⟩ := hrel
    clear t1 t2
    by_cases hlt : k < 64
    · have hix := index_tile t k hlt
      have hok := ht k hlt
      go_wp2_with (first | (go_at_call 95; refine (P_Clean _ _ hok).mono ?_; rintro e w5 ⟨rfl, hb5⟩; have hz5 := hb5.size; replace t4 := t4.of_eq (hb5.block _ t4.lt); replace t5 := t5.of_eq (hb5.block _ t5.lt); replace t3 := t3.of_eq (hb5.block _ t3.lt)) | (refine wpList_storeTp rfl _ _ rfl _ _ rfl _ rfl t4 (k) (by omega) (by first | rfl | omega) ?_; clear t4; intro w6 t4 hc6 hz6; replace hz6 := Nat.le_of_eq hz6.symm; replace t5 := t5.of_eq (hc6.block _ t5.lt (by omega)); simp only [Act.put, List.setIfInBounds_toArray, List.set_cons_zero, List.set_cons_succ]) | (refine wpList_loadPx rfl _ rfl _ rfl t3 ?_; simp only [Act.put, List.setIfInBounds_toArray, List.set_cons_zero, List.set_cons_succ]) | (refine wpList_storePx rfl _ _ rfl _ rfl _ rfl t3 ?_; clear t3; intro w4 t3 hc4 hz4; replace hz4 := Nat.le_of_eq hz4.symm; replace t4 := t4.of_eq (hc4.block _ t4.lt (by omega)); replace t5 := t5.of_eq (hc4.block _ t5.lt (by omega)); simp only [Act.put, List.setIfInBounds_toArray, List.set_cons_zero, List.set_cons_succ]) | (refine wpList_allocPx rfl rfl ?_; intro w3 t3 hb3 hz3; have l3 := Nat.lt_of_lt_of_eq (Nat.lt_succ_self _) hz3.symm; clear hz3; replace t4 := t4.of_eq (hb3.block _ t4.lt); replace t5 := t5.of_eq (hb3.block _ t5.lt); simp only [Act.put, List.setIfInBounds_toArray, List.set_cons_zero, List.set_cons_succ]))
      go_roundw
      case rel => exact ⟨k + 1, by omega, by go_num, by repeat' (first | (with_reducible exact Below.refl _ _) | (with_reducible assumption) | (with_reducible refine Below.trans ?_ (hb3.mono (by omega))) | (with_reducible refine Below.trans ?_ (hb5.mono (by omega))) | (with_reducible refine Chg.below ?_ hc4 (by omega) (by omega)) | (with_reducible refine Chg.below ?_ hc6 (by omega) (by omega))), by omega, by rw [← stepT_next]; exact t4, t5⟩
      case measure => simp [intOf]; omega
    · obtain rfl : k = 64 := by omega
      replace t4 := t4.congr (stepT_all _ _)
      go_wp2_with (first | (refine wpList_storeT rfl _ _ rfl _ rfl _ rfl t5 ?_; clear t5; intro w3 t5 hc3 hz3; replace hz3 := Nat.le_of_eq hz3.symm; simp only [Act.put, List.setIfInBounds_toArray, List.set_cons_zero, List.set_cons_succ]) | (refine wpList_loadT rfl _ rfl _ rfl t4 ?_; simp only [Act.put, List.setIfInBounds_toArray, List.set_cons_zero, List.set_cons_succ]))
      refine bodyPost_ret (results_tile rfl _ _ (w1.heap.size) rfl t5) rfl ?_
      refine ⟨rfl, ?_⟩
      repeat' (first | (with_reducible exact Below.refl _ _) | (with_reducible assumption) | (with_reducible refine Chg.below ?_ hc3 (by omega) (by omega)))

set_option maxHeartbeats 1000000 in
set_option maxRecDepth 20000 in
theorem R_Clean_t (t : Nat → Px) (w : World) (ht : Tok t) : Calls Try.prog 58 #[Tile.v t] w fun e w' => e = .returned (Tile.v (cleanT t)) ∧ Below w.heap.size w w' := by
  go_enter Try.func58, Try.ntmps58
  go_wp2_with (first | (refine wpList_allocT rfl rfl ?_; intro w2 t2 hb2 hz2; have l2 := Nat.lt_of_lt_of_eq (Nat.lt_succ_self _) hz2.symm; clear hz2; replace t1 := t1.of_eq (hb2.block _ t1.lt); simp only [Act.put, List.setIfInBounds_toArray, List.set_cons_zero, List.set_cons_succ]) | (refine wpList_boxT rfl _ rfl _ rfl ?_; intro w1 t1 hb1 hz1; have l1 := Nat.lt_of_lt_of_eq (Nat.lt_succ_self _) hz1.symm; clear hz1; simp only [Act.put, List.setIfInBounds_toArray, List.set_cons_zero, List.set_cons_succ]))
  have B2 : Below w.heap.size w w2 := by
    repeat' (first | (with_reducible exact Below.refl _ _) | (with_reducible assumption) | (with_reducible refine Below.trans ?_ (hb1.mono (by omega))) | (with_reducible refine Below.trans ?_ (hb2.mono (by omega))))
  go_loopw [3] (fun i wr => ∃ k : Nat, k ≤ 64 ∧ i = .int .i64 k ∧ Below w.heap.size w wr ∧ w2.heap.size ≤ wr.heap.size ∧ TileAt wr w.heap.size (stepT t (cleanT t) k) ∧ TileAt wr w1.heap.size zeroT) (fun i _ => (64 - intOf i).toNat)
  case atStart => exact ⟨0, by omega, rfl, B2, Nat.le_refl _, by rw [stepT_zero]; exact t1, t2⟩
  case round =>
    obtain ⟨k, hk, rfl, Br, hr, t4, t5⟩ := hrel
    clear t1 t2
    by_cases hlt : k < 64
    · have hok : (stepT t (cleanT t) k k).ok := by rw [stepT_at]; exact ht k hlt
      go_wp2_with (first | (go_at_call 31; go_loud (refine (R_Clean _ _ hok).mono ?_; rintro e w5 ⟨rfl, hb5⟩; have hz5 := hb5.size; replace t4 := t4.of_eq (hb5.block _ t4.lt); replace t5 := t5.of_eq (hb5.block _ t5.lt))) | (refine wpList_storeTp rfl _ _ rfl _ _ rfl _ rfl t4 (k) (by omega) (by first | rfl | omega) ?_; clear t4; intro w6 t4 hc6 hz6; replace hz6 := Nat.le_of_eq hz6.symm; replace t5 := t5.of_eq (hc6.block _ t5.lt (by omega)); simp only [Act.put, List.setIfInBounds_toArray, List.set_cons_zero, List.set_cons_succ]) | (refine wpList_loadTp rfl _ rfl _ _ rfl t4 (k) (by omega) (by first | rfl | omega) ?_; simp only [Act.put, List.setIfInBounds_toArray, List.set_cons_zero, List.set_cons_succ]))
      rw [stepT_at] at t4
      go_roundw
      case rel => exact ⟨k + 1, by omega, by go_num, by repeat' (first | (with_reducible exact Below.refl _ _) | (with_reducible assumption) | (with_reducible refine Below.trans ?_ (hb5.mono (by omega))) | (with_reducible refine Chg.below ?_ hc6 (by omega) (by omega))), by omega, by rw [← stepT_next]; exact t4, t5⟩
      case measure => simp [intOf]; omega
    · obtain rfl : k = 64 := by omega
      replace t4 := t4.congr (stepT_all _ _)
      go_wp2_with (first | (refine wpList_storeT rfl _ _ rfl _ rfl _ rfl t5 ?_; clear t5; intro w3 t5 hc3 hz3; replace hz3 := Nat.le_of_eq hz3.symm; simp only [Act.put, List.setIfInBounds_toArray, List.set_cons_zero, List.set_cons_succ]) | (refine wpList_loadT rfl _ rfl _ rfl t4 ?_; simp only [Act.put, List.setIfInBounds_toArray, List.set_cons_zero, List.set_cons_succ]))
      refine bodyPost_ret (results_tile rfl _ _ (w1.heap.size) rfl t5) rfl ?_
      refine ⟨rfl, ?_⟩
      repeat' (first | (with_reducible exact Below.refl _ _) | (with_reducible assumption) | (with_reducible refine Chg.below ?_ hc3 (by omega) (by omega)))

theorem eqT_true {a b : Nat → Px} (h : ∀ j, j < 64 → a j = b j) : eqT a b = true := by unfold eqT; exact decide_eq_true fun i hi => h i (List.mem_range.1 hi)
theorem eqT_false {a b : Nat → Px} {k : Nat} (hk : k < 64) (h : a k ≠ b k) : eqT a b = false := by unfold eqT; exact decide_eq_false fun e => h (e k (List.mem_range.2 hk))
set_option maxHeartbeats 1000000 in
set_option maxRecDepth 20000 in
theorem R_Same (a b : Nat → Px) (w : World) : Calls Try.prog 57 #[Tile.v a, Tile.v b] w fun e w' => e = .returned (.bool (eqT a b)) ∧ Below w.heap.size w w' := by
  go_enter Try.func57, Try.ntmps57
  go_wp2_with (first | (refine wpList_boxT rfl _ rfl _ rfl ?_; intro w2 t2 hb2 hz2; have l2 := Nat.lt_of_lt_of_eq (Nat.lt_succ_self _) hz2.symm; clear hz2; replace t1 := t1.of_eq (hb2.block _ t1.lt); simp only [Act.put, List.setIfInBounds_toArray, List.set_cons_zero, List.set_cons_succ]) | (refine wpList_boxT rfl _ rfl _ rfl ?_; intro w1 t1 hb1 hz1; have l1 := Nat.lt_of_lt_of_eq (Nat.lt_succ_self _) hz1.symm; clear hz1; simp only [Act.put, List.setIfInBounds_toArray, List.set_cons_zero, List.set_cons_succ]))
  have B2 : Below w.heap.size w w2 := by
    repeat' (first | (with_reducible exact Below.refl _ _) | (with_reducible assumption) | (with_reducible refine Below.trans ?_ (hb1.mono (by omega))) | (with_reducible refine Below.trans ?_ (hb2.mono (by omega))))
  go_loopw [5] (fun i wr => ∃ k : Nat, k ≤ 64 ∧ i = .int .i64 k ∧ Below w.heap.size w wr ∧ w2.heap.size ≤ wr.heap.size ∧ TileAt wr w.heap.size a ∧ TileAt wr w1.heap.size b ∧ ∀ j, j < k → a j = b j) (fun i _ => (64 - intOf i).toNat)
  case atStart => exact ⟨0, by omega, rfl, B2, Nat.le_refl _, t1, t2, fun j hj => by omega⟩
  case round =>
    obtain ⟨k, hk, rfl, Br, hr, t4, t5, heq⟩ := hrel
    have Heq := Lib.hid heq
    clear t1 t2 heq
    by_cases hlt : k < 64
    · by_cases hne : a k = b k
      · have hcmp : ∀ w, (binOp .neq 37 (Px.v (a k)) (Px.v (b k))).run Try.prog w = .ok (.bool false) w := fun w => by rw [neq_px]; simp [hne]
        have Hne := Lib.hid hne
        clear hne
        go_wp2
        refine wp_region_ov (by kernel_rfl) (by kernel_rfl) ?_
        repeat (first | go_big_quiet_skip | (go_big_quiet_want; first | (refine quiet_loadTp rfl _ rfl (ov_tile t4) (k) (by omega) (by first | rfl | omega) ?_; simp only [Act.put, List.setIfInBounds_toArray, List.set_cons_zero, List.set_cons_succ]; go_big_quiet_on) | (refine quiet_loadTp rfl _ rfl (ov_tile t5) (k) (by omega) (by first | rfl | omega) ?_; simp only [Act.put, List.setIfInBounds_toArray, List.set_cons_zero, List.set_cons_succ]; go_big_quiet_on) | (go_big_quiet_op; first | go_big_quiet_on | go_big_quiet_call ((fail)))))
        refine wpQuiet_nil ?_
        intro w3 hb3
        have hz3 := hb3.size
        replace t4 := t4.of_eq (hb3.block _ t4.lt)
        replace t5 := t5.of_eq (hb3.block _ t5.lt)
        go_wp2
        go_roundw
        case rel => exact ⟨k + 1, by omega, by go_num, by repeat' (first | (with_reducible exact Below.refl _ _) | (with_reducible assumption) | (with_reducible refine Below.trans ?_ (hb3.mono (by omega)))), by omega, t4, t5, fun j hj => by
          by_cases e : j = k
          · rw [e]; exact Hne.out
          · exact Heq.out j (by omega)⟩
        case measure => simp [intOf]; omega
      · have hcmp : ∀ w, (binOp .neq 37 (Px.v (a k)) (Px.v (b k))).run Try.prog w = .ok (.bool true) w := fun w => by rw [neq_px]; simp [hne]
        have e1 := Lib.hid (eqT_false hlt hne)
        clear hne
        go_wp2
        refine wp_region_ov (by kernel_rfl) (by kernel_rfl) ?_
        repeat (first | go_big_quiet_skip | (go_big_quiet_want; first | (refine quiet_loadTp rfl _ rfl (ov_tile t4) (k) (by omega) (by first | rfl | omega) ?_; simp only [Act.put, List.setIfInBounds_toArray, List.set_cons_zero, List.set_cons_succ]; go_big_quiet_on) | (refine quiet_loadTp rfl _ rfl (ov_tile t5) (k) (by omega) (by first | rfl | omega) ?_; simp only [Act.put, List.setIfInBounds_toArray, List.set_cons_zero, List.set_cons_succ]; go_big_quiet_on) | (go_big_quiet_op; first | go_big_quiet_on | go_big_quiet_call ((fail)))))
        refine wpQuiet_nil ?_
        intro w3 hb3
        have hz3 := hb3.size
        replace t4 := t4.of_eq (hb3.block _ t4.lt)
        replace t5 := t5.of_eq (hb3.block _ t5.lt)
        go_wp2
        go_ret
        refine ⟨by rw [e1.out]; rfl, ?_⟩
        repeat' (first | (with_reducible exact Below.refl _ _) | (with_reducible assumption) | (with_reducible refine Below.trans ?_ (hb3.mono (by omega))))
    · obtain rfl : k = 64 := by omega
      have e1 := Lib.hid (eqT_true Heq.out)
      go_wp2
      go_ret
      refine ⟨by rw [e1.out]; rfl, ?_⟩
      repeat' (first | (with_reducible exact Below.refl _ _) | (with_reducible assumption))
end Go.Proofs.Ytppccnjckiedlaa
