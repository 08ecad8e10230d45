/- TileGroup: flipping twice, turning four times, and flip, turn, flip, turn restore every tile; the symmetries keep the number of pixels of each colour and commute with Clean: the law returns true for every input, and its arguments read as they did. No condition. -/
import Derived.Test.YtelfkakaaobfcaaTk
namespace Go.Proofs.Ytelfkakaaobfcaa
open Go.RowKit Pl
set_option linter.unusedVariables false
set_option linter.unusedSimpArgs false

def cntT (t : Nat → Px) (p : Px) : Nat → Int
  | 0 => 0
  | k + 1 => cntT t p k + if t k = p then 1 else 0
theorem cnt_bounds (t : Nat → Px) (p : Px) : ∀ k : Nat, 0 ≤ cntT t p k ∧ cntT t p k ≤ k
  | 0 => by simp [cntT]
  | k + 1 => by
    have := cnt_bounds t p k
    unfold cntT
    split <;> omega
theorem cnt_count (t : Nat → Px) (p : Px) : ∀ k : Nat, cntT t p k = (((List.range k).countP fun j => decide (t j = p) : Nat) : Int)
  | 0 => by simp [cntT]
  | k + 1 => by
    unfold cntT
    rw [List.range_succ, List.countP_append, cnt_count t p k]
    by_cases h : t k = p <;> simp [h]
def sig (j : Nat) : Nat := 8 * (7 - j % 8) + j / 8
theorem sig_perm : ((List.range 64).map sig).Perm (List.range 64) := List.isPerm_iff.1 (by decide +kernel)
theorem cnt_turn (t : Nat → Px) (p : Px) : cntT (turnT t) p 64 = cntT t p 64 := by
  rw [cnt_count, cnt_count]
  congr 1
  rw [← sig_perm.countP_eq (fun j => decide (t j = p)), List.countP_map]
  rfl
theorem tile_same {f g : Nat → Px} (h : ∀ j, j < 64 → f j = g j) (w : World) : (binOp .eql 25 (Tile.v f) (Tile.v g)).run Try.prog w = .ok (.bool true) w := by
  rw [eql_tile, (eqT_iff f g).2 (tileC_congr h)]
theorem flip_flip (t : Nat → Px) (j : Nat) (hj : j < 64) : flipT (flipT t) j = t j := by
  unfold flipT
  exact congrArg t (by omega)
theorem turn_turn (t : Nat → Px) (j : Nat) (hj : j < 64) : turnT (turnT t) j = t (63 - j) := by
  unfold turnT
  exact congrArg t (by omega)
theorem turn_four (t : Nat → Px) (j : Nat) (hj : j < 64) : turnT (turnT (turnT (turnT t))) j = t j := by
  rw [turn_turn _ j hj, turn_turn t (63 - j) (by omega)]
  exact congrArg t (by omega)
theorem mixed_all (t : Nat → Px) (j : Nat) (hj : j < 64) : turnT (flipT (turnT (flipT t))) j = t j := by
  have h : ∀ f : Nat → Px, ∀ i, i < 64 → turnT (flipT f) i = f (8 * (7 - i % 8) + (7 - i / 8)) := fun f i hi => by
    unfold turnT flipT
    exact congrArg f (by omega)
  rw [h _ j hj, h t _ (by omega)]
  exact congrArg t (by omega)
theorem turn_ok {t : Nat → Px} (h : Tok t) : Tok (turnT t) := fun i hi => h _ (by omega)
theorem flip_ok {t : Nat → Px} (h : Tok t) : Tok (flipT t) := fun i hi => h _ (by omega)

set_option maxHeartbeats 4000000 in
set_option maxRecDepth 20000 in
theorem walk_TileGroup (t : Nat → Px) (p : Px) (ht : Tok t) (hp : p.ok) (w : World) : Calls Try.prog 5 #[Tile.v t, Px.v p] w fun e w' => e = .returned (.bool true) ∧ Below w.heap.size w w' := by
  have c1 := tile_same (flip_flip t)
  have c2 := tile_same (turn_four t)
  have c3 := tile_same (mixed_all t)
  have c4 : ∀ w, (binOp .eql 25 (Tile.v (cleanT (turnT t))) (Tile.v (turnT (cleanT t)))).run Try.prog w = .ok (.bool true) w := tile_same (fun j hj => rfl)
  have c5 : ∀ w, (binOp .eql 25 (Tile.v (cleanT (flipT t))) (Tile.v (flipT (cleanT t)))).run Try.prog w = .ok (.bool true) w := tile_same (fun j hj => rfl)
  have hk := Lib.hid ht
  clear ht hp
  have B := Below.refl w.heap.size w
  go_enter Try.func5, Try.ntmps5
  go_wp2_with (first | (refine wpList_storeT rfl _ _ rfl _ rfl _ rfl t8 ?_; clear t8; intro wn ht hcn hzn; have hsz := B.size; replace hzn := Nat.le_of_eq hzn.symm; replace B := Chg.below B hcn (by omega) B.size; (try replace t1 := t1.of_eq (hcn.block _ t1.lt (by omega))); (try replace p1 := p1.of_eq (hcn.block _ p1.lt (by omega))); (try replace t6 := t6.of_eq (hcn.block _ t6.lt (by omega))); (try replace t7 := t7.of_eq (hcn.block _ t7.lt (by omega))); have t8 := ht; clear ht; simp only [Act.put, List.setIfInBounds_toArray, List.set_cons_zero, List.set_cons_succ]) | (have _ := t7; refine wpList_allocT' rfl rfl ?_; intro b_t8 wn hle hge ht hbn hzn; have hsz := B.size; replace B := B.trans (hbn.mono (by omega)); have hln := Nat.lt_of_lt_of_eq (Nat.lt_succ_self _) hzn.symm; clear hzn; (try (have hlt := t1.lt; replace t1 := t1.of_eq (hbn.block _ (by omega)))); (try (have hlt := p1.lt; replace p1 := p1.of_eq (hbn.block _ (by omega)))); (try (have hlt := t6.lt; replace t6 := t6.of_eq (hbn.block _ (by omega)))); (try (have hlt := t7.lt; replace t7 := t7.of_eq (hbn.block _ (by omega)))); (try (have hlt := t8.lt; replace t8 := t8.of_eq (hbn.block _ (by omega)))); have t8 := ht; clear ht; simp only [Act.put, List.setIfInBounds_toArray, List.set_cons_zero, List.set_cons_succ]) | (refine wpList_storeT rfl _ _ rfl _ rfl _ rfl t7 ?_; clear t7; intro wn ht hcn hzn; have hsz := B.size; replace hzn := Nat.le_of_eq hzn.symm; replace B := Chg.below B hcn (by omega) B.size; (try replace t1 := t1.of_eq (hcn.block _ t1.lt (by omega))); (try replace p1 := p1.of_eq (hcn.block _ p1.lt (by omega))); (try replace t6 := t6.of_eq (hcn.block _ t6.lt (by omega))); (try replace t8 := t8.of_eq (hcn.block _ t8.lt (by omega))); have t7 := ht; clear ht; simp only [Act.put, List.setIfInBounds_toArray, List.set_cons_zero, List.set_cons_succ]) | (have _ := t6; refine wpList_allocT' rfl rfl ?_; intro b_t7 wn hle hge ht hbn hzn; have hsz := B.size; replace B := B.trans (hbn.mono (by omega)); have hln := Nat.lt_of_lt_of_eq (Nat.lt_succ_self _) hzn.symm; clear hzn; (try (have hlt := t1.lt; replace t1 := t1.of_eq (hbn.block _ (by omega)))); (try (have hlt := p1.lt; replace p1 := p1.of_eq (hbn.block _ (by omega)))); (try (have hlt := t6.lt; replace t6 := t6.of_eq (hbn.block _ (by omega)))); (try (have hlt := t7.lt; replace t7 := t7.of_eq (hbn.block _ (by omega)))); (try (have hlt := t8.lt; replace t8 := t8.of_eq (hbn.block _ (by omega)))); have t7 := ht; clear ht; simp only [Act.put, List.setIfInBounds_toArray, List.set_cons_zero, List.set_cons_succ]) | (refine wpList_storeT rfl _ _ rfl _ rfl _ rfl t6 ?_; clear t6; intro wn ht hcn hzn; have hsz := B.size; replace hzn := Nat.le_of_eq hzn.symm; replace B := Chg.below B hcn (by omega) B.size; (try replace t1 := t1.of_eq (hcn.block _ t1.lt (by omega))); (try replace p1 := p1.of_eq (hcn.block _ p1.lt (by omega))); (try replace t7 := t7.of_eq (hcn.block _ t7.lt (by omega))); (try replace t8 := t8.of_eq (hcn.block _ t8.lt (by omega))); have t6 := ht; clear ht; simp only [Act.put, List.setIfInBounds_toArray, List.set_cons_zero, List.set_cons_succ]) | (have _ := p1; refine wpList_allocT' rfl rfl ?_; intro b_t6 wn hle hge ht hbn hzn; have hsz := B.size; replace B := B.trans (hbn.mono (by omega)); have hln := Nat.lt_of_lt_of_eq (Nat.lt_succ_self _) hzn.symm; clear hzn; (try (have hlt := t1.lt; replace t1 := t1.of_eq (hbn.block _ (by omega)))); (try (have hlt := p1.lt; replace p1 := p1.of_eq (hbn.block _ (by omega)))); (try (have hlt := t6.lt; replace t6 := t6.of_eq (hbn.block _ (by omega)))); (try (have hlt := t7.lt; replace t7 := t7.of_eq (hbn.block _ (by omega)))); (try (have hlt := t8.lt; replace t8 := t8.of_eq (hbn.block _ (by omega)))); have t6 := ht; clear ht; simp only [Act.put, List.setIfInBounds_toArray, List.set_cons_zero, List.set_cons_succ]) | (go_at_call 12; refine (P_Turn _ _).mono ?_; rintro e wn ⟨rfl, hbn⟩; have hsz := B.size; have hzn := hbn.size; replace B := B.trans (hbn.mono B.size); (try replace t1 := t1.of_eq (hbn.block _ t1.lt)); (try replace p1 := p1.of_eq (hbn.block _ p1.lt)); (try replace t6 := t6.of_eq (hbn.block _ t6.lt)); (try replace t7 := t7.of_eq (hbn.block _ t7.lt)); (try replace t8 := t8.of_eq (hbn.block _ t8.lt))) | (go_at_call 10; refine (P_Flip _ _).mono ?_; rintro e wn ⟨rfl, hbn⟩; have hsz := B.size; have hzn := hbn.size; replace B := B.trans (hbn.mono B.size); (try replace t1 := t1.of_eq (hbn.block _ t1.lt)); (try replace p1 := p1.of_eq (hbn.block _ p1.lt)); (try replace t6 := t6.of_eq (hbn.block _ t6.lt)); (try replace t7 := t7.of_eq (hbn.block _ t7.lt)); (try replace t8 := t8.of_eq (hbn.block _ t8.lt))) | (refine wpList_loadT rfl _ rfl _ rfl t8 ?_; simp only [Act.put, List.setIfInBounds_toArray, List.set_cons_zero, List.set_cons_succ]) | (refine wpList_loadT rfl _ rfl _ rfl t7 ?_; simp only [Act.put, List.setIfInBounds_toArray, List.set_cons_zero, List.set_cons_succ]) | (refine wpList_loadT rfl _ rfl _ rfl t6 ?_; simp only [Act.put, List.setIfInBounds_toArray, List.set_cons_zero, List.set_cons_succ]) | (refine wpList_loadT rfl _ rfl _ rfl t1 ?_; simp only [Act.put, List.setIfInBounds_toArray, List.set_cons_zero, List.set_cons_succ]) | (go_at_call 9; refine (sanity _).mono ?_; rintro e wn ⟨rfl, hbn⟩; have hsz := B.size; have hzn := hbn.size; replace B := B.trans (hbn.mono B.size); (try replace t1 := t1.of_eq (hbn.block _ t1.lt)); (try replace p1 := p1.of_eq (hbn.block _ p1.lt)); (try replace t6 := t6.of_eq (hbn.block _ t6.lt)); (try replace t7 := t7.of_eq (hbn.block _ t7.lt)); (try replace t8 := t8.of_eq (hbn.block _ t8.lt))) | (have _ := t1; refine wpList_boxPx' rfl _ rfl _ rfl ?_; intro b_p1 wn hle hge ht hbn hzn; have hsz := B.size; replace B := B.trans (hbn.mono (by omega)); have hln := Nat.lt_of_lt_of_eq (Nat.lt_succ_self _) hzn.symm; clear hzn; (try (have hlt := t1.lt; replace t1 := t1.of_eq (hbn.block _ (by omega)))); (try (have hlt := p1.lt; replace p1 := p1.of_eq (hbn.block _ (by omega)))); (try (have hlt := t6.lt; replace t6 := t6.of_eq (hbn.block _ (by omega)))); (try (have hlt := t7.lt; replace t7 := t7.of_eq (hbn.block _ (by omega)))); (try (have hlt := t8.lt; replace t8 := t8.of_eq (hbn.block _ (by omega)))); have p1 := ht; clear ht; simp only [Act.put, List.setIfInBounds_toArray, List.set_cons_zero, List.set_cons_succ]) | (refine wpList_boxT' rfl _ rfl _ rfl ?_; intro b_t1 wn hle hge ht hbn hzn; have hsz := B.size; replace B := B.trans (hbn.mono (by omega)); have hln := Nat.lt_of_lt_of_eq (Nat.lt_succ_self _) hzn.symm; clear hzn; (try (have hlt := t1.lt; replace t1 := t1.of_eq (hbn.block _ (by omega)))); (try (have hlt := p1.lt; replace p1 := p1.of_eq (hbn.block _ (by omega)))); (try (have hlt := t6.lt; replace t6 := t6.of_eq (hbn.block _ (by omega)))); (try (have hlt := t7.lt; replace t7 := t7.of_eq (hbn.block _ (by omega)))); (try (have hlt := t8.lt; replace t8 := t8.of_eq (hbn.block _ (by omega)))); have t1 := ht; clear ht; simp only [Act.put, List.setIfInBounds_toArray, List.set_cons_zero, List.set_cons_succ]))
  go_loopw [9, 10] (fun n i wr => ∃ k : Nat, k ≤ 64 ∧ i = .int .i64 k ∧ n = .int .i64 (cntT t p k - cntT (turnT t) p k) ∧ Below w.heap.size w wr ∧ TileAt wr b_t1 (t) ∧ PixAt wr b_p1 (p) ∧ TileAt wr b_t6 (turnT t) ∧ TileAt wr b_t7 (turnT (turnT (turnT (turnT t)))) ∧ TileAt wr b_t8 (turnT (flipT (turnT (flipT t))))) (fun _ i _ => (64 - intOf i).toNat)
  case atStart => exact ⟨0, by omega, rfl, by simp [cntT], B, t1, p1, t6, t7, t8⟩
  case round =>
    clear B t1 p1 t6 t7 t8
    obtain ⟨k, hk64, rfl, rfl, B, t1, p1, t6, t7, t8⟩ := hrel
    by_cases hlt : k < 64
    · have e1 := cnt_bounds t p k
      have e2 := cnt_bounds (turnT t) p k
      have s1 : Hid (cntT t p (k + 1) = cntT t p k + if t k = p then 1 else 0) := Lib.hid rfl
      have s2 : Hid (cntT (turnT t) p (k + 1) = cntT (turnT t) p k + if turnT t k = p then 1 else 0) := Lib.hid rfl
      by_cases q1 : t k = p
      · have d1 : ∀ w, (binOp .eql 23 (Px.v (t k)) (Px.v p)).run Try.prog w = .ok (.bool true) w := fun w => by rw [eql_px, decide_eq_true q1]
        by_cases q2 : turnT t k = p
        · have d2 : ∀ w, (binOp .eql 23 (Px.v (turnT t k)) (Px.v p)).run Try.prog w = .ok (.bool true) w := fun w => by rw [eql_px, decide_eq_true q2]
          rw [if_pos q1] at s1; rw [if_pos q2] at s2; clear q1 q2
          go_wp2
          refine wp_region_ov (by kernel_rfl) (by kernel_rfl) ?_
          repeat (first | go_big_quiet_skip | (go_big_quiet_want; first | (refine quiet_loadTp rfl _ rfl (ov_tile t1) (k) (by omega) (by first | rfl | omega) ?_; simp only [Act.put, List.setIfInBounds_toArray, List.set_cons_zero, List.set_cons_succ]; go_big_quiet_on) | (refine quiet_loadTp rfl _ rfl (ov_tile t6) (k) (by omega) (by first | rfl | omega) ?_; simp only [Act.put, List.setIfInBounds_toArray, List.set_cons_zero, List.set_cons_succ]; go_big_quiet_on) | (refine quiet_loadPx rfl _ rfl (ov_px p1) ?_; simp only [Act.put, List.setIfInBounds_toArray, List.set_cons_zero, List.set_cons_succ]; go_big_quiet_on) | (go_big_quiet_op; first | go_big_quiet_on | go_big_quiet_call ((fail)))))
          refine wpQuiet_nil ?_
          intro wn hbn
          have hsz := B.size
          have hzn := hbn.size
          replace B := B.trans (hbn.mono B.size)
          try replace t1 := t1.of_eq (hbn.block _ t1.lt)
          try replace p1 := p1.of_eq (hbn.block _ p1.lt)
          try replace t6 := t6.of_eq (hbn.block _ t6.lt)
          try replace t7 := t7.of_eq (hbn.block _ t7.lt)
          try replace t8 := t8.of_eq (hbn.block _ t8.lt)
          go_wp2
          refine wp_region_ov (by kernel_rfl) (by kernel_rfl) ?_
          repeat (first | go_big_quiet_skip | (go_big_quiet_want; first | (refine quiet_loadTp rfl _ rfl (ov_tile t1) (k) (by omega) (by first | rfl | omega) ?_; simp only [Act.put, List.setIfInBounds_toArray, List.set_cons_zero, List.set_cons_succ]; go_big_quiet_on) | (refine quiet_loadTp rfl _ rfl (ov_tile t6) (k) (by omega) (by first | rfl | omega) ?_; simp only [Act.put, List.setIfInBounds_toArray, List.set_cons_zero, List.set_cons_succ]; go_big_quiet_on) | (refine quiet_loadPx rfl _ rfl (ov_px p1) ?_; simp only [Act.put, List.setIfInBounds_toArray, List.set_cons_zero, List.set_cons_succ]; go_big_quiet_on) | (go_big_quiet_op; first | go_big_quiet_on | go_big_quiet_call ((fail)))))
          refine wpQuiet_nil ?_
          intro wn hbn
          have hsz := B.size
          have hzn := hbn.size
          replace B := B.trans (hbn.mono B.size)
          try replace t1 := t1.of_eq (hbn.block _ t1.lt)
          try replace p1 := p1.of_eq (hbn.block _ p1.lt)
          try replace t6 := t6.of_eq (hbn.block _ t6.lt)
          try replace t7 := t7.of_eq (hbn.block _ t7.lt)
          try replace t8 := t8.of_eq (hbn.block _ t8.lt)
          go_wp2
          go_roundw
          case rel => exact ⟨k + 1, by omega, by go_num, by rw [s1.out, s2.out]; first | rfl | (congr 1; omega), B, t1, p1, t6, t7, t8⟩
          case measure => simp [intOf]; omega
        · have d2 : ∀ w, (binOp .eql 23 (Px.v (turnT t k)) (Px.v p)).run Try.prog w = .ok (.bool false) w := fun w => by rw [eql_px, decide_eq_false q2]
          rw [if_pos q1] at s1; rw [if_neg q2] at s2; clear q1 q2
          go_wp2
          refine wp_region_ov (by kernel_rfl) (by kernel_rfl) ?_
          repeat (first | go_big_quiet_skip | (go_big_quiet_want; first | (refine quiet_loadTp rfl _ rfl (ov_tile t1) (k) (by omega) (by first | rfl | omega) ?_; simp only [Act.put, List.setIfInBounds_toArray, List.set_cons_zero, List.set_cons_succ]; go_big_quiet_on) | (refine quiet_loadTp rfl _ rfl (ov_tile t6) (k) (by omega) (by first | rfl | omega) ?_; simp only [Act.put, List.setIfInBounds_toArray, List.set_cons_zero, List.set_cons_succ]; go_big_quiet_on) | (refine quiet_loadPx rfl _ rfl (ov_px p1) ?_; simp only [Act.put, List.setIfInBounds_toArray, List.set_cons_zero, List.set_cons_succ]; go_big_quiet_on) | (go_big_quiet_op; first | go_big_quiet_on | go_big_quiet_call ((fail)))))
          refine wpQuiet_nil ?_
          intro wn hbn
          have hsz := B.size
          have hzn := hbn.size
          replace B := B.trans (hbn.mono B.size)
          try replace t1 := t1.of_eq (hbn.block _ t1.lt)
          try replace p1 := p1.of_eq (hbn.block _ p1.lt)
          try replace t6 := t6.of_eq (hbn.block _ t6.lt)
          try replace t7 := t7.of_eq (hbn.block _ t7.lt)
          try replace t8 := t8.of_eq (hbn.block _ t8.lt)
          go_wp2
          refine wp_region_ov (by kernel_rfl) (by kernel_rfl) ?_
          repeat (first | go_big_quiet_skip | (go_big_quiet_want; first | (refine quiet_loadTp rfl _ rfl (ov_tile t1) (k) (by omega) (by first | rfl | omega) ?_; simp only [Act.put, List.setIfInBounds_toArray, List.set_cons_zero, List.set_cons_succ]; go_big_quiet_on) | (refine quiet_loadTp rfl _ rfl (ov_tile t6) (k) (by omega) (by first | rfl | omega) ?_; simp only [Act.put, List.setIfInBounds_toArray, List.set_cons_zero, List.set_cons_succ]; go_big_quiet_on) | (refine quiet_loadPx rfl _ rfl (ov_px p1) ?_; simp only [Act.put, List.setIfInBounds_toArray, List.set_cons_zero, List.set_cons_succ]; go_big_quiet_on) | (go_big_quiet_op; first | go_big_quiet_on | go_big_quiet_call ((fail)))))
          refine wpQuiet_nil ?_
          intro wn hbn
          have hsz := B.size
          have hzn := hbn.size
          replace B := B.trans (hbn.mono B.size)
          try replace t1 := t1.of_eq (hbn.block _ t1.lt)
          try replace p1 := p1.of_eq (hbn.block _ p1.lt)
          try replace t6 := t6.of_eq (hbn.block _ t6.lt)
          try replace t7 := t7.of_eq (hbn.block _ t7.lt)
          try replace t8 := t8.of_eq (hbn.block _ t8.lt)
          go_wp2
          go_roundw
          case rel => exact ⟨k + 1, by omega, by go_num, by rw [s1.out, s2.out]; first | rfl | (congr 1; omega), B, t1, p1, t6, t7, t8⟩
          case measure => simp [intOf]; omega
      · have d1 : ∀ w, (binOp .eql 23 (Px.v (t k)) (Px.v p)).run Try.prog w = .ok (.bool false) w := fun w => by rw [eql_px, decide_eq_false q1]
        by_cases q2 : turnT t k = p
        · have d2 : ∀ w, (binOp .eql 23 (Px.v (turnT t k)) (Px.v p)).run Try.prog w = .ok (.bool true) w := fun w => by rw [eql_px, decide_eq_true q2]
          rw [if_neg q1] at s1; rw [if_pos q2] at s2; clear q1 q2
          go_wp2
          refine wp_region_ov (by kernel_rfl) (by kernel_rfl) ?_
          repeat (first | go_big_quiet_skip | (go_big_quiet_want; first | (refine quiet_loadTp rfl _ rfl (ov_tile t1) (k) (by omega) (by first | rfl | omega) ?_; simp only [Act.put, List.setIfInBounds_toArray, List.set_cons_zero, List.set_cons_succ]; go_big_quiet_on) | (refine quiet_loadTp rfl _ rfl (ov_tile t6) (k) (by omega) (by first | rfl | omega) ?_; simp only [Act.put, List.setIfInBounds_toArray, List.set_cons_zero, List.set_cons_succ]; go_big_quiet_on) | (refine quiet_loadPx rfl _ rfl (ov_px p1) ?_; simp only [Act.put, List.setIfInBounds_toArray, List.set_cons_zero, List.set_cons_succ]; go_big_quiet_on) | (go_big_quiet_op; first | go_big_quiet_on | go_big_quiet_call ((fail)))))
          refine wpQuiet_nil ?_
          intro wn hbn
          have hsz := B.size
          have hzn := hbn.size
          replace B := B.trans (hbn.mono B.size)
          try replace t1 := t1.of_eq (hbn.block _ t1.lt)
          try replace p1 := p1.of_eq (hbn.block _ p1.lt)
          try replace t6 := t6.of_eq (hbn.block _ t6.lt)
          try replace t7 := t7.of_eq (hbn.block _ t7.lt)
          try replace t8 := t8.of_eq (hbn.block _ t8.lt)
          go_wp2
          refine wp_region_ov (by kernel_rfl) (by kernel_rfl) ?_
          repeat (first | go_big_quiet_skip | (go_big_quiet_want; first | (refine quiet_loadTp rfl _ rfl (ov_tile t1) (k) (by omega) (by first | rfl | omega) ?_; simp only [Act.put, List.setIfInBounds_toArray, List.set_cons_zero, List.set_cons_succ]; go_big_quiet_on) | (refine quiet_loadTp rfl _ rfl (ov_tile t6) (k) (by omega) (by first | rfl | omega) ?_; simp only [Act.put, List.setIfInBounds_toArray, List.set_cons_zero, List.set_cons_succ]; go_big_quiet_on) | (refine quiet_loadPx rfl _ rfl (ov_px p1) ?_; simp only [Act.put, List.setIfInBounds_toArray, List.set_cons_zero, List.set_cons_succ]; go_big_quiet_on) | (go_big_quiet_op; first | go_big_quiet_on | go_big_quiet_call ((fail)))))
          refine wpQuiet_nil ?_
          intro wn hbn
          have hsz := B.size
          have hzn := hbn.size
          replace B := B.trans (hbn.mono B.size)
          try replace t1 := t1.of_eq (hbn.block _ t1.lt)
          try replace p1 := p1.of_eq (hbn.block _ p1.lt)
          try replace t6 := t6.of_eq (hbn.block _ t6.lt)
          try replace t7 := t7.of_eq (hbn.block _ t7.lt)
          try replace t8 := t8.of_eq (hbn.block _ t8.lt)
          go_wp2
          go_roundw
          case rel => exact ⟨k + 1, by omega, by go_num, by rw [s1.out, s2.out]; first | rfl | (congr 1; omega), B, t1, p1, t6, t7, t8⟩
          case measure => simp [intOf]; omega
        · have d2 : ∀ w, (binOp .eql 23 (Px.v (turnT t k)) (Px.v p)).run Try.prog w = .ok (.bool false) w := fun w => by rw [eql_px, decide_eq_false q2]
          rw [if_neg q1] at s1; rw [if_neg q2] at s2; clear q1 q2
          go_wp2
          refine wp_region_ov (by kernel_rfl) (by kernel_rfl) ?_
          repeat (first | go_big_quiet_skip | (go_big_quiet_want; first | (refine quiet_loadTp rfl _ rfl (ov_tile t1) (k) (by omega) (by first | rfl | omega) ?_; simp only [Act.put, List.setIfInBounds_toArray, List.set_cons_zero, List.set_cons_succ]; go_big_quiet_on) | (refine quiet_loadTp rfl _ rfl (ov_tile t6) (k) (by omega) (by first | rfl | omega) ?_; simp only [Act.put, List.setIfInBounds_toArray, List.set_cons_zero, List.set_cons_succ]; go_big_quiet_on) | (refine quiet_loadPx rfl _ rfl (ov_px p1) ?_; simp only [Act.put, List.setIfInBounds_toArray, List.set_cons_zero, List.set_cons_succ]; go_big_quiet_on) | (go_big_quiet_op; first | go_big_quiet_on | go_big_quiet_call ((fail)))))
          refine wpQuiet_nil ?_
          intro wn hbn
          have hsz := B.size
          have hzn := hbn.size
          replace B := B.trans (hbn.mono B.size)
          try replace t1 := t1.of_eq (hbn.block _ t1.lt)
          try replace p1 := p1.of_eq (hbn.block _ p1.lt)
          try replace t6 := t6.of_eq (hbn.block _ t6.lt)
          try replace t7 := t7.of_eq (hbn.block _ t7.lt)
          try replace t8 := t8.of_eq (hbn.block _ t8.lt)
          go_wp2
          refine wp_region_ov (by kernel_rfl) (by kernel_rfl) ?_
          repeat (first | go_big_quiet_skip | (go_big_quiet_want; first | (refine quiet_loadTp rfl _ rfl (ov_tile t1) (k) (by omega) (by first | rfl | omega) ?_; simp only [Act.put, List.setIfInBounds_toArray, List.set_cons_zero, List.set_cons_succ]; go_big_quiet_on) | (refine quiet_loadTp rfl _ rfl (ov_tile t6) (k) (by omega) (by first | rfl | omega) ?_; simp only [Act.put, List.setIfInBounds_toArray, List.set_cons_zero, List.set_cons_succ]; go_big_quiet_on) | (refine quiet_loadPx rfl _ rfl (ov_px p1) ?_; simp only [Act.put, List.setIfInBounds_toArray, List.set_cons_zero, List.set_cons_succ]; go_big_quiet_on) | (go_big_quiet_op; first | go_big_quiet_on | go_big_quiet_call ((fail)))))
          refine wpQuiet_nil ?_
          intro wn hbn
          have hsz := B.size
          have hzn := hbn.size
          replace B := B.trans (hbn.mono B.size)
          try replace t1 := t1.of_eq (hbn.block _ t1.lt)
          try replace p1 := p1.of_eq (hbn.block _ p1.lt)
          try replace t6 := t6.of_eq (hbn.block _ t6.lt)
          try replace t7 := t7.of_eq (hbn.block _ t7.lt)
          try replace t8 := t8.of_eq (hbn.block _ t8.lt)
          go_wp2
          go_roundw
          case rel => exact ⟨k + 1, by omega, by go_num, by rw [s1.out, s2.out]; first | rfl | (congr 1; omega), B, t1, p1, t6, t7, t8⟩
          case measure => simp [intOf]; omega
    · obtain rfl : k = 64 := by omega
      have e1 : cntT t p 64 - cntT (turnT t) p 64 = 0 := by rw [cnt_turn]; omega
      have hk2 := Lib.hid (turn_ok hk.out)
      have hk3 := Lib.hid (flip_ok hk.out)
      go_wp2
      refine wp_region_ov (by kernel_rfl) (by kernel_rfl) ?_
      repeat (first | go_big_quiet_skip | (go_big_quiet_want; first | (refine quiet_loadT rfl _ rfl (ov_tile t1) ?_; simp only [Act.put, List.setIfInBounds_toArray, List.set_cons_zero, List.set_cons_succ]; go_big_quiet_on) | (refine quiet_loadT rfl _ rfl (ov_tile t6) ?_; simp only [Act.put, List.setIfInBounds_toArray, List.set_cons_zero, List.set_cons_succ]; go_big_quiet_on) | (refine quiet_loadT rfl _ rfl (ov_tile t7) ?_; simp only [Act.put, List.setIfInBounds_toArray, List.set_cons_zero, List.set_cons_succ]; go_big_quiet_on) | (refine quiet_loadT rfl _ rfl (ov_tile t8) ?_; simp only [Act.put, List.setIfInBounds_toArray, List.set_cons_zero, List.set_cons_succ]; go_big_quiet_on) | (go_big_quiet_op; first | go_big_quiet_on | go_big_quiet_call ((first | (go_at_call 10; exact calls_ov (P_Flip _ _)) | (go_at_call 12; exact calls_ov (P_Turn _ _)) | (go_at_call 17; exact calls_ov (P_Clean_t _ _ (by first | exact hk.out | exact hk2.out | exact hk3.out))))))))
      refine wpQuiet_nil ?_
      intro wn hbn
      have hsz := B.size
      have hzn := hbn.size
      replace B := B.trans (hbn.mono B.size)
      try replace t1 := t1.of_eq (hbn.block _ t1.lt)
      try replace p1 := p1.of_eq (hbn.block _ p1.lt)
      try replace t6 := t6.of_eq (hbn.block _ t6.lt)
      try replace t7 := t7.of_eq (hbn.block _ t7.lt)
      try replace t8 := t8.of_eq (hbn.block _ t8.lt)
      go_wp2
      go_ret
      exact ⟨rfl, B⟩

namespace tileGroup
open Go.ChangeShapes Go.WideShapes Go.ChangeAt Go.RowKit
open Go.ChangeMaps (open_string shut_string)
set_option maxRecDepth 100000 in
theorem lifted (os : Os) (started : os.Started) (H : Type) (enc : TypeId × Value → H) :
    ReturnsInHanded {} Try.checked os 5 .any (Rows.tileGroupSpec.pre6 enc Try.prog Try.f5 Rows.tileGroupRow.domain false) (Rows.tileGroupSpec.post enc Try.prog Try.f5 false true false false) := by
  refine returnsInHanded_of_change (C := Try.checked) own started (by kernel_rfl) Try.func5
    (ChangeSpec.witness6 (enc := enc) (C := Try.checked) false ⟨#[], #[.agg (Array.replicate 256 (.int .u8 0)), .agg #[.int .u8 0, .int .u8 0, .int .u8 0, .int .u8 0]], []⟩ 8 (by kernel_rfl) (by kernel_rfl) (by kernel_rfl) (by kernel_rfl)) ?_
  intro W base args ds gs before hval0 hW hcnd _
  have hval : ∀ (j : Nat) t v, Try.f5.params[j]? = some t → args[j]? = some v → Value.okWide Try.prog W .any base t v := hval0
  have hW' := hW
  obtain ⟨p, q, hA0, hV, rfl, hfz, hnd⟩ := hW
  have hA : DataW.TrodAll enc Try.prog W 0 (fun _ => true) true Try.f5.params.toList args.toList ds p := hA0
  rw [Try.params5] at hA hval
  obtain ⟨v0, vs0, d0, ds0, p0, q0, hargs, rfl, rfl, h0, r0⟩ := trodAll_cons hA
  obtain ⟨v1, vs1, d1, ds1, p1, q1, rfl, rfl, rfl, h1, r1⟩ := trodAll_cons r0
  obtain ⟨rfl, rfl, rfl⟩ := trodAll_nil r1
  obtain rfl : args = #[v0, v1] := by cases args; simp_all
  obtain ⟨rfl, rfl⟩ := trodVars_none hV
  have k0 := h0
  have lt0 : ∀ x ∈ p0, x.block < W.heap.size := by obtain ⟨m, hm⟩ := k0; exact DataW.trod_lt m _ _ _ hm
  have k1 := h1
  have lt1 : ∀ x ∈ p1, x.block < W.heap.size := by obtain ⟨m, hm⟩ := k1; exact DataW.trod_lt m _ _ _ hm
  obtain ⟨a0, rfl, w0⟩ := open_tile (hval 0 25 v0 rfl rfl) h0
  obtain ⟨a1, rfl, w1⟩ := open_px (hval 1 23 v1 rfl rfl) h1
  clear hA0 hval0
  refine (walk_TileGroup a0 a1 w0 w1 W ).mono fun e W' ⟨he, bel⟩ => ?_
  subst he
  exact ⟨_, rfl, _, _, _, [], _, [], hW', trodAll_mk1 (shut_bool Try.underlying4 _), (trodAll_cons_mk (Below.trod laidOut (by kernel_rfl) (of_decide_eq_true (by kernel_rfl)) k0 bel lt0) (trodAll_cons_mk (Below.trod laidOut (by kernel_rfl) (of_decide_eq_true (by kernel_rfl)) k1 bel lt1) trodAll_mk0)), rfl, bel.frame _, fun h => by cases h⟩
theorem over : Rows.tileGroupRow.holds Try.pinned (OpenSpec.ofChange Rows.tileGroupSpec) :=
  OpenClaim.holds_of_wide 5 Try.f5 rfl rfl rfl rfl rfl rfl rfl ⟨rfl, rfl, rfl, rfl, rfl⟩ rfl rfl rfl rfl rfl (by kernel_rfl) Try.func5 (by kernel_rfl)
    (of_decide_eq_true (by kernel_rfl)) (by unfold Func.isWrapper; first | (rw [if_pos (by decide +kernel)]; kernel_rfl) | (rw [if_neg (by decide +kernel)]; exact ⟨rfl, rfl⟩))
    (fun os started H enc _ => lifted os started H enc)
/-- THE STATEMENT: TileGroup returns true for every input, and its arguments read as they did. -/
theorem proved : Rows.TileGroupSaid := over
end tileGroup

end Go.Proofs.Ytelfkakaaobfcaa
