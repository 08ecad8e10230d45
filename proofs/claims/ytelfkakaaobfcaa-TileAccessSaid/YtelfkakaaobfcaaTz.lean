/- Contracts of Zero, Solid, and of the reference's Flip and Turn. -/
import Derived.Test.YtelfkakaaobfcaaTy
namespace Go.Proofs.Ytelfkakaaobfcaa
open Go.RowKit Pl
set_option linter.unusedVariables false
set_option linter.unusedSimpArgs false

/-- The pixels in d are those of g, the others those of f. -/
def mixT (d : Nat → Bool) (f g : Nat → Px) : Nat → Px := fun j => if d j = true then g j else f j
theorem mixT_next {d d' : Nat → Bool} {f g : Nat → Px} {i : Nat} {p : Px} (hp : p = g i) (h : ∀ j, j < 64 → d' j = (d j || decide (j = i))) : tileC (upd (mixT d f g) i p) = tileC (mixT d' f g) :=
  tileC_congr fun j hj => by
    unfold upd mixT
    rw [h j hj]
    by_cases e : j = i
    · subst e; simp [hp]
    · simp [e]
theorem mixT_all {d : Nat → Bool} {f g : Nat → Px} (h : ∀ j, j < 64 → d j = true) : tileC (mixT d f g) = tileC g := tileC_congr fun j hj => by unfold mixT; rw [if_pos (h j hj)]
theorem mixT_none {d : Nat → Bool} {f g : Nat → Px} (h : ∀ j, j < 64 → d j = false) : tileC f = tileC (mixT d f g) := tileC_congr fun j hj => by unfold mixT; rw [if_neg (by rw [h j hj]; simp)]
theorem mixT_same {d d' : Nat → Bool} {f g : Nat → Px} (h : ∀ j, j < 64 → d j = d' j) : tileC (mixT d f g) = tileC (mixT d' f g) := tileC_congr fun j hj => by unfold mixT; rw [h j hj]
def doneFlip (y x j : Nat) : Bool := decide (j < 8 * y + x)
def doneTurn (y x j : Nat) : Bool := decide (7 - j % 8 < y ∨ (7 - j % 8 = y ∧ j / 8 < x))

set_option maxHeartbeats 2000000 in
set_option maxRecDepth 20000 in
theorem R_Flip (t : Nat → Px) (w : World) : Calls Try.prog 11 #[Tile.v t] w fun e w' => e = .returned (Tile.v (flipT t)) ∧ Below w.heap.size w w' := by
  go_enter Try.func11, Try.ntmps11
  go_wp2_with (first | (refine wpList_storeT rfl _ _ rfl _ rfl _ rfl t3 ?_; clear t3; intro w4 t3 hc4 hz4; replace hz4 := Nat.le_of_eq hz4.symm; replace t1 := t1.of_eq (hc4.block _ t1.lt (by omega)); replace t2 := t2.of_eq (hc4.block _ t2.lt (by omega)); simp only [Act.put, List.setIfInBounds_toArray, List.set_cons_zero, List.set_cons_succ]) | (refine wpList_buildT rfl rfl ?_; simp only [Act.put, List.setIfInBounds_toArray, List.set_cons_zero, List.set_cons_succ]) | (refine wpList_allocT rfl rfl ?_; intro w3 t3 hb3 hz3; have l3 := Nat.lt_of_lt_of_eq (Nat.lt_succ_self _) hz3.symm; clear hz3; replace t1 := t1.of_eq (hb3.block _ t1.lt); replace t2 := t2.of_eq (hb3.block _ t2.lt); simp only [Act.put, List.setIfInBounds_toArray, List.set_cons_zero, List.set_cons_succ]) | (refine wpList_allocT rfl rfl ?_; intro w2 t2 hb2 hz2; have l2 := Nat.lt_of_lt_of_eq (Nat.lt_succ_self _) hz2.symm; clear hz2; replace t1 := t1.of_eq (hb2.block _ t1.lt); simp only [Act.put, List.setIfInBounds_toArray, List.set_cons_zero, List.set_cons_succ]) | (refine wpList_boxT rfl _ rfl _ rfl ?_; intro w1 t1 hb1 hz1; have l1 := Nat.lt_of_lt_of_eq (Nat.lt_succ_self _) hz1.symm; clear hz1; simp only [Act.put, List.setIfInBounds_toArray, List.set_cons_zero, List.set_cons_succ]))
  have B2 : Below w.heap.size w w4 := by
    repeat' (first | (with_reducible exact Below.refl _ _) | (with_reducible assumption) | (with_reducible refine Below.trans ?_ (hb1.mono (by omega))) | (with_reducible refine Below.trans ?_ (hb2.mono (by omega))) | (with_reducible refine Below.trans ?_ (hb3.mono (by omega))) | (with_reducible refine Chg.below ?_ hc4 (by omega) (by omega)))
  go_loopw [4, 5] (fun i _ wr => ∃ y : Nat, y ≤ 8 ∧ i = .int .i64 y ∧ Below w.heap.size w wr ∧ w4.heap.size ≤ wr.heap.size ∧ TileAt wr w.heap.size t ∧ TileAt wr w1.heap.size zeroT ∧ TileAt wr w2.heap.size (mixT (doneFlip y 0) zeroT (flipT t))) (fun i _ _ => (8 - intOf i).toNat)
  case atStart => exact ⟨0, by omega, rfl, B2, Nat.le_refl _, t1, t2, t3.congr (mixT_none fun j hj => by unfold doneFlip; exact decide_eq_false (by omega))⟩
  case round =>
    obtain ⟨y, hy, rfl, Br, hr, t4, t5, t6⟩ := hrel
    clear t1 t2 t3
    by_cases hlt : y < 8
    · go_wp2
      go_loopw [5] (fun i wq => ∃ x : Nat, x ≤ 8 ∧ i = .int .i64 x ∧ Below w.heap.size w wq ∧ w4.heap.size ≤ wq.heap.size ∧ TileAt wq w.heap.size t ∧ TileAt wq w1.heap.size zeroT ∧ TileAt wq w2.heap.size (mixT (doneFlip y x) zeroT (flipT t))) (fun i _ => (8 - intOf i).toNat)
      case atStart => exact ⟨0, by omega, rfl, Br, hr, t4, t5, t6⟩
      case round =>
        obtain ⟨x, hx, rfl, Bq, hq, t7, t8, t9⟩ := hrel
        clear t4 t5 t6
        by_cases hlx : x < 8
        · go_wp2_with (first | (refine wpList_storeTp rfl _ _ rfl _ _ rfl _ rfl t9 (8 * y + x) (by omega) (by first | rfl | omega) ?_; clear t9; intro w5 t9 hc5 hz5; replace hz5 := Nat.le_of_eq hz5.symm; replace t7 := t7.of_eq (hc5.block _ t7.lt (by omega)); replace t8 := t8.of_eq (hc5.block _ t8.lt (by omega)); simp only [Act.put, List.setIfInBounds_toArray, List.set_cons_zero, List.set_cons_succ]) | (refine wpList_loadTp rfl _ rfl _ _ rfl t7 (8 * y + 7 - x) (by omega) (by first | rfl | omega) ?_; simp only [Act.put, List.setIfInBounds_toArray, List.set_cons_zero, List.set_cons_succ]))
          replace t9 := t9.congr (mixT_next (d' := doneFlip y (x + 1)) (by unfold flipT; exact congrArg t (by omega)) (fun j hj => by unfold doneFlip; rw [Bool.eq_iff_iff]; simp only [Bool.or_eq_true, decide_eq_true_eq]; omega))
          go_roundw
          case rel => exact ⟨x + 1, by omega, by go_num, by repeat' (first | (with_reducible exact Below.refl _ _) | (with_reducible assumption) | (with_reducible refine Chg.below ?_ hc5 (by omega) (by omega))), by omega, t7, t8, t9⟩
          case measure => simp [intOf]; omega
        · obtain rfl : x = 8 := by omega
          replace t9 := t9.congr (mixT_same (d' := doneFlip (y + 1) 0) (fun j hj => by unfold doneFlip; rw [Bool.eq_iff_iff]; simp only [decide_eq_true_eq]; omega))
          go_wp2
          go_roundw
          case rel => exact ⟨y + 1, by omega, by go_num, Bq, hq, t7, t8, t9⟩
          case measure => simp [intOf]; omega
    · obtain rfl : y = 8 := by omega
      replace t6 := t6.congr (mixT_all fun j hj => by unfold doneFlip; exact decide_eq_true (by omega))
      go_wp2_with (first | (refine wpList_storeT rfl _ _ rfl _ rfl _ rfl t5 ?_; clear t5; intro w5 t5 hc5 hz5; replace hz5 := Nat.le_of_eq hz5.symm; simp only [Act.put, List.setIfInBounds_toArray, List.set_cons_zero, List.set_cons_succ]) | (refine wpList_loadT rfl _ rfl _ rfl t6 ?_; simp only [Act.put, List.setIfInBounds_toArray, List.set_cons_zero, List.set_cons_succ]))
      refine bodyPost_ret (results_tile rfl _ _ (w1.heap.size) rfl t5) rfl ?_
      refine ⟨rfl, ?_⟩
      repeat' (first | (with_reducible exact Below.refl _ _) | (with_reducible assumption) | (with_reducible refine Chg.below ?_ hc5 (by omega) (by omega)))
set_option maxHeartbeats 2000000 in
set_option maxRecDepth 20000 in
theorem R_Turn (t : Nat → Px) (w : World) : Calls Try.prog 13 #[Tile.v t] w fun e w' => e = .returned (Tile.v (turnT t)) ∧ Below w.heap.size w w' := by
  go_enter Try.func13, Try.ntmps13
  go_wp2_with (first | (refine wpList_storeT rfl _ _ rfl _ rfl _ rfl t3 ?_; clear t3; intro w4 t3 hc4 hz4; replace hz4 := Nat.le_of_eq hz4.symm; replace t1 := t1.of_eq (hc4.block _ t1.lt (by omega)); replace t2 := t2.of_eq (hc4.block _ t2.lt (by omega)); simp only [Act.put, List.setIfInBounds_toArray, List.set_cons_zero, List.set_cons_succ]) | (refine wpList_buildT rfl rfl ?_; simp only [Act.put, List.setIfInBounds_toArray, List.set_cons_zero, List.set_cons_succ]) | (refine wpList_allocT rfl rfl ?_; intro w3 t3 hb3 hz3; have l3 := Nat.lt_of_lt_of_eq (Nat.lt_succ_self _) hz3.symm; clear hz3; replace t1 := t1.of_eq (hb3.block _ t1.lt); replace t2 := t2.of_eq (hb3.block _ t2.lt); simp only [Act.put, List.setIfInBounds_toArray, List.set_cons_zero, List.set_cons_succ]) | (refine wpList_allocT rfl rfl ?_; intro w2 t2 hb2 hz2; have l2 := Nat.lt_of_lt_of_eq (Nat.lt_succ_self _) hz2.symm; clear hz2; replace t1 := t1.of_eq (hb2.block _ t1.lt); simp only [Act.put, List.setIfInBounds_toArray, List.set_cons_zero, List.set_cons_succ]) | (refine wpList_boxT rfl _ rfl _ rfl ?_; intro w1 t1 hb1 hz1; have l1 := Nat.lt_of_lt_of_eq (Nat.lt_succ_self _) hz1.symm; clear hz1; simp only [Act.put, List.setIfInBounds_toArray, List.set_cons_zero, List.set_cons_succ]))
  have B2 : Below w.heap.size w w4 := by
    repeat' (first | (with_reducible exact Below.refl _ _) | (with_reducible assumption) | (with_reducible refine Below.trans ?_ (hb1.mono (by omega))) | (with_reducible refine Below.trans ?_ (hb2.mono (by omega))) | (with_reducible refine Below.trans ?_ (hb3.mono (by omega))) | (with_reducible refine Chg.below ?_ hc4 (by omega) (by omega)))
  go_loopw [4, 5] (fun i _ wr => ∃ y : Nat, y ≤ 8 ∧ i = .int .i64 y ∧ Below w.heap.size w wr ∧ w4.heap.size ≤ wr.heap.size ∧ TileAt wr w.heap.size t ∧ TileAt wr w1.heap.size zeroT ∧ TileAt wr w2.heap.size (mixT (doneTurn y 0) zeroT (turnT t))) (fun i _ _ => (8 - intOf i).toNat)
  case atStart => exact ⟨0, by omega, rfl, B2, Nat.le_refl _, t1, t2, t3.congr (mixT_none fun j hj => by unfold doneTurn; exact decide_eq_false (by omega))⟩
  case round =>
    obtain ⟨y, hy, rfl, Br, hr, t4, t5, t6⟩ := hrel
    clear t1 t2 t3
    by_cases hlt : y < 8
    · go_wp2
      go_loopw [5] (fun i wq => ∃ x : Nat, x ≤ 8 ∧ i = .int .i64 x ∧ Below w.heap.size w wq ∧ w4.heap.size ≤ wq.heap.size ∧ TileAt wq w.heap.size t ∧ TileAt wq w1.heap.size zeroT ∧ TileAt wq w2.heap.size (mixT (doneTurn y x) zeroT (turnT t))) (fun i _ => (8 - intOf i).toNat)
      case atStart => exact ⟨0, by omega, rfl, Br, hr, t4, t5, t6⟩
      case round =>
        obtain ⟨x, hx, rfl, Bq, hq, t7, t8, t9⟩ := hrel
        clear t4 t5 t6
        by_cases hlx : x < 8
        · go_wp2_with (first | (refine wpList_storeTp rfl _ _ rfl _ _ rfl _ rfl t9 (8 * x + 7 - y) (by omega) (by first | rfl | omega) ?_; clear t9; intro w5 t9 hc5 hz5; replace hz5 := Nat.le_of_eq hz5.symm; replace t7 := t7.of_eq (hc5.block _ t7.lt (by omega)); replace t8 := t8.of_eq (hc5.block _ t8.lt (by omega)); simp only [Act.put, List.setIfInBounds_toArray, List.set_cons_zero, List.set_cons_succ]) | (refine wpList_loadTp rfl _ rfl _ _ rfl t7 (8 * y + x) (by omega) (by first | rfl | omega) ?_; simp only [Act.put, List.setIfInBounds_toArray, List.set_cons_zero, List.set_cons_succ]))
          replace t9 := t9.congr (mixT_next (d' := doneTurn y (x + 1)) (by unfold turnT; exact congrArg t (by omega)) (fun j hj => by unfold doneTurn; rw [Bool.eq_iff_iff]; simp only [Bool.or_eq_true, decide_eq_true_eq]; omega))
          go_roundw
          case rel => exact ⟨x + 1, by omega, by go_num, by repeat' (first | (with_reducible exact Below.refl _ _) | (with_reducible assumption) | (with_reducible refine Chg.below ?_ hc5 (by omega) (by omega))), by omega, t7, t8, t9⟩
          case measure => simp [intOf]; omega
        · obtain rfl : x = 8 := by omega
          replace t9 := t9.congr (mixT_same (d' := doneTurn (y + 1) 0) (fun j hj => by unfold doneTurn; rw [Bool.eq_iff_iff]; simp only [decide_eq_true_eq]; omega))
          go_wp2
          go_roundw
          case rel => exact ⟨y + 1, by omega, by go_num, Bq, hq, t7, t8, t9⟩
          case measure => simp [intOf]; omega
    · obtain rfl : y = 8 := by omega
      replace t6 := t6.congr (mixT_all fun j hj => by unfold doneTurn; exact decide_eq_true (by omega))
      go_wp2_with (first | (refine wpList_storeT rfl _ _ rfl _ rfl _ rfl t5 ?_; clear t5; intro w5 t5 hc5 hz5; replace hz5 := Nat.le_of_eq hz5.symm; simp only [Act.put, List.setIfInBounds_toArray, List.set_cons_zero, List.set_cons_succ]) | (refine wpList_loadT rfl _ rfl _ rfl t6 ?_; simp only [Act.put, List.setIfInBounds_toArray, List.set_cons_zero, List.set_cons_succ]))
      refine bodyPost_ret (results_tile rfl _ _ (w1.heap.size) rfl t5) rfl ?_
      refine ⟨rfl, ?_⟩
      repeat' (first | (with_reducible exact Below.refl _ _) | (with_reducible assumption) | (with_reducible refine Chg.below ?_ hc5 (by omega) (by omega)))

def zeroB (t : Nat → Px) : Bool := decide (∀ i ∈ List.range 64, (t i).a = 0)
theorem zero_eq (t : Nat → Px) : eqT (cleanT t) (fun _ => Px.zero) = zeroB t := by
  unfold eqT zeroB
  rw [Bool.eq_iff_iff]
  simp only [decide_eq_true_eq]
  refine ⟨fun h i hi => ?_, fun h i hi => ?_⟩
  · have := h i hi
    unfold cleanT cleanP at this
    split at this
    · assumption
    · rw [this]; rfl
  · unfold cleanT cleanP
    rw [if_pos (h i hi)]
theorem eql_clean (t : Nat → Px) (w : World) : (binOp .eql 25 (Tile.v (cleanT t)) (Tile.v fun _ => Px.zero)).run Try.prog w = .ok (.bool (zeroB t)) w := by
  rw [eql_tile, zero_eq]

set_option maxHeartbeats 1000000 in
set_option maxRecDepth 20000 in
theorem P_Zero (t : Nat → Px) (w : World) (ht : Tok t) : Calls Try.prog 21 #[Tile.v t] w fun e w' => e = .returned (.bool (zeroB t)) ∧ Below w.heap.size w w' := by
  have hcmp := eql_clean t
  go_enter Try.func21, Try.ntmps21
  go_wp2_with (first | (go_at_call 17; refine (P_Clean_t _ _ ht).mono ?_; rintro e w2 ⟨rfl, hb2⟩; have hz2 := hb2.size; replace t1 := t1.of_eq (hb2.block _ t1.lt)) | (refine wpList_loadT rfl _ rfl _ rfl t1 ?_; simp only [Act.put, List.setIfInBounds_toArray, List.set_cons_zero, List.set_cons_succ]) | (refine wpList_buildT rfl rfl ?_; simp only [Act.put, List.setIfInBounds_toArray, List.set_cons_zero, List.set_cons_succ]) | (refine wpList_boxT rfl _ rfl _ rfl ?_; intro w1 t1 hb1 hz1; have l1 := Nat.lt_of_lt_of_eq (Nat.lt_succ_self _) hz1.symm; clear hz1; simp only [Act.put, List.setIfInBounds_toArray, List.set_cons_zero, List.set_cons_succ]))
  go_ret
  refine ⟨rfl, ?_⟩
  repeat' (first | (with_reducible exact Below.refl _ _) | (with_reducible assumption) | (with_reducible refine Below.trans ?_ (hb1.mono (by omega))) | (with_reducible refine Below.trans ?_ (hb2.mono (by omega))))

set_option maxHeartbeats 1000000 in
set_option maxRecDepth 20000 in
theorem R_Zero (t : Nat → Px) (w : World) : Calls Try.prog 22 #[Tile.v t] w fun e w' => e = .returned (.bool (zeroB t)) ∧ Below w.heap.size w w' := by
  go_enter Try.func22, Try.ntmps22
  go_wp2_with (first | (refine wpList_boxT rfl _ rfl _ rfl ?_; intro w1 t1 hb1 hz1; have l1 := Nat.lt_of_lt_of_eq (Nat.lt_succ_self _) hz1.symm; clear hz1; simp only [Act.put, List.setIfInBounds_toArray, List.set_cons_zero, List.set_cons_succ]))
  go_loopw [3] (fun i wr => ∃ k : Nat, k ≤ 64 ∧ i = .int .i64 k ∧ Below w.heap.size w wr ∧ w1.heap.size ≤ wr.heap.size ∧ TileAt wr w.heap.size t ∧ ∀ j, j < k → (t j).a = 0) (fun i _ => (64 - intOf i).toNat)
  case atStart => exact ⟨0, by omega, rfl, hb1, Nat.le_refl _, t1, fun j hj => by omega⟩
  case round =>
    obtain ⟨k, hk, rfl, Br, hr, t4, heq⟩ := hrel
    have Heq := Lib.hid heq
    clear t1 heq
    by_cases hlt : k < 64
    · obtain ⟨c0, c1, c2, c3⟩ := t4.cells hlt
      cases hne : ((t k).a == 0) with
      | true =>
        have Hne : Hid ((t k).a = 0) := Lib.hid (by simpa using hne)
        go_wp2
        go_roundw
        case rel => exact ⟨k + 1, by omega, by go_num, Br, hr, t4, fun j hj => by
          by_cases e : j = k
          · rw [e]; exact Hne.out
          · exact Heq.out j (by omega)⟩
        case measure => simp [intOf]; omega
      | false =>
        have e1 : Hid (zeroB t = false) := Lib.hid (by unfold zeroB; exact decide_eq_false fun e => by simp [e k (List.mem_range.2 hlt)] at hne)
        go_wp2
        go_ret
        exact ⟨by rw [e1.out]; rfl, Br⟩
    · obtain rfl : k = 64 := by omega
      have e1 : Hid (zeroB t = true) := Lib.hid (by unfold zeroB; exact decide_eq_true fun i hi => Heq.out i (List.mem_range.1 hi))
      go_wp2
      go_ret
      exact ⟨by rw [e1.out]; rfl, Br⟩

def solidB (t : Nat → Px) : Bool := eqT t (fillT (t 0))
def solidP (t : Nat → Px) : Px := if solidB t = true then t 0 else Px.zero
theorem PixAt.cells {w : World} {b : Nat} {p : Px} (h : PixAt w b p) : w.cell? ⟨b, 0, none⟩ = some (.int .u8 p.r) ∧ w.cell? ⟨b, 1, none⟩ = some (.int .u8 p.g) ∧ w.cell? ⟨b, 2, none⟩ = some (.int .u8 p.b) ∧ w.cell? ⟨b, 3, none⟩ = some (.int .u8 p.a) := by
  obtain ⟨hc, _⟩ := cells_of_block h
  exact ⟨hc 0, hc 1, hc 2, hc 3⟩
set_option maxHeartbeats 1000000 in
set_option maxRecDepth 20000 in
theorem P_Solid (t : Nat → Px) (w : World) : Calls Try.prog 19 #[Tile.v t] w fun e w' => e = .returned (.tuple #[Px.v (solidP t), .bool (solidB t)]) ∧ Below w.heap.size w w' := by
  cases hs : solidB t with
  | true =>
    have e1 : solidP t = t 0 := by unfold solidP; rw [if_pos hs]
    have e2 : eqT t (fillT (t 0)) = true := hs
    have hcmp : ∀ w, (binOp .neq 25 (Tile.v t) (Tile.v (fillT (t 0)))).run Try.prog w = .ok (.bool false) w := fun w => by rw [neq_tile, e2]; rfl
    rw [e1]; clear e1 e2 hs
    go_enter Try.func19, Try.ntmps19
    go_wp2_with (first | (refine wpList_allocPx rfl rfl ?_; intro w2 t2 hb2 hz2; have l2 := Nat.lt_of_lt_of_eq (Nat.lt_succ_self _) hz2.symm; clear hz2; replace t1 := t1.of_eq (hb2.block _ t1.lt); simp only [Act.put, List.setIfInBounds_toArray, List.set_cons_zero, List.set_cons_succ]) | (refine wpList_boxT rfl _ rfl _ rfl ?_; intro w1 t1 hb1 hz1; have l1 := Nat.lt_of_lt_of_eq (Nat.lt_succ_self _) hz1.symm; clear hz1; simp only [Act.put, List.setIfInBounds_toArray, List.set_cons_zero, List.set_cons_succ]))
    refine wp_region_ov (by kernel_rfl) (by kernel_rfl) ?_
    repeat (first | go_big_quiet_skip | (go_big_quiet_want; first | (refine quiet_loadT rfl _ rfl (ov_tile t1) ?_; simp only [Act.put, List.setIfInBounds_toArray, List.set_cons_zero, List.set_cons_succ]; go_big_quiet_on) | (refine quiet_loadTp rfl _ rfl (ov_tile t1) (0) (by omega) (by first | rfl | omega) ?_; simp only [Act.put, List.setIfInBounds_toArray, List.set_cons_zero, List.set_cons_succ]; go_big_quiet_on) | (go_big_quiet_op; first | go_big_quiet_on | go_big_quiet_call ((first | (go_at_call 15; exact calls_ov (P_Fill _ _)))))))
    refine wpQuiet_nil ?_
    intro w3 hb3
    have hz3 := hb3.size
    replace t1 := t1.of_eq (hb3.block _ t1.lt)
    replace t2 := t2.of_eq (hb3.block _ t2.lt)
    go_wp2_with (first | (refine wpList_storePx rfl _ _ rfl _ rfl _ rfl t2 ?_; clear t2; intro w4 t2 hc4 hz4; replace hz4 := Nat.le_of_eq hz4.symm; replace t1 := t1.of_eq (hc4.block _ t1.lt (by omega)); simp only [Act.put, List.setIfInBounds_toArray, List.set_cons_zero, List.set_cons_succ]) | (refine wpList_loadTp rfl _ rfl _ _ rfl t1 (0) (by omega) (by first | rfl | omega) ?_; simp only [Act.put, List.setIfInBounds_toArray, List.set_cons_zero, List.set_cons_succ]))
    obtain ⟨k0, k1, k2, k3⟩ := t2.cells
    refine bodyPost_ret (by simp [results, Try.results19, go_sem, k0, k1, k2, k3]; try rfl) rfl ?_
    refine ⟨rfl, ?_⟩
    repeat' (first | (with_reducible exact Below.refl _ _) | (with_reducible assumption) | (with_reducible refine Below.trans ?_ (hb1.mono (by omega))) | (with_reducible refine Below.trans ?_ (hb2.mono (by omega))) | (with_reducible refine Below.trans ?_ (hb3.mono (by omega))) | (with_reducible refine Chg.below ?_ hc4 (by omega) (by omega)))
  | false =>
    have e1 : solidP t = Px.zero := by unfold solidP; rw [if_neg (by rw [hs]; simp)]
    have e2 : eqT t (fillT (t 0)) = false := hs
    have hcmp : ∀ w, (binOp .neq 25 (Tile.v t) (Tile.v (fillT (t 0)))).run Try.prog w = .ok (.bool true) w := fun w => by rw [neq_tile, e2]; rfl
    rw [e1]; clear e1 e2 hs
    go_enter Try.func19, Try.ntmps19
    go_wp2_with (first | (refine wpList_allocPx rfl rfl ?_; intro w2 t2 hb2 hz2; have l2 := Nat.lt_of_lt_of_eq (Nat.lt_succ_self _) hz2.symm; clear hz2; replace t1 := t1.of_eq (hb2.block _ t1.lt); simp only [Act.put, List.setIfInBounds_toArray, List.set_cons_zero, List.set_cons_succ]) | (refine wpList_boxT rfl _ rfl _ rfl ?_; intro w1 t1 hb1 hz1; have l1 := Nat.lt_of_lt_of_eq (Nat.lt_succ_self _) hz1.symm; clear hz1; simp only [Act.put, List.setIfInBounds_toArray, List.set_cons_zero, List.set_cons_succ]))
    refine wp_region_ov (by kernel_rfl) (by kernel_rfl) ?_
    repeat (first | go_big_quiet_skip | (go_big_quiet_want; first | (refine quiet_loadT rfl _ rfl (ov_tile t1) ?_; simp only [Act.put, List.setIfInBounds_toArray, List.set_cons_zero, List.set_cons_succ]; go_big_quiet_on) | (refine quiet_loadTp rfl _ rfl (ov_tile t1) (0) (by omega) (by first | rfl | omega) ?_; simp only [Act.put, List.setIfInBounds_toArray, List.set_cons_zero, List.set_cons_succ]; go_big_quiet_on) | (go_big_quiet_op; first | go_big_quiet_on | go_big_quiet_call ((first | (go_at_call 15; exact calls_ov (P_Fill _ _)))))))
    refine wpQuiet_nil ?_
    intro w3 hb3
    have hz3 := hb3.size
    replace t1 := t1.of_eq (hb3.block _ t1.lt)
    replace t2 := t2.of_eq (hb3.block _ t2.lt)
    go_wp2_with (first | (refine wpList_storePx rfl _ _ rfl _ rfl _ rfl t2 ?_; clear t2; intro w4 t2 hc4 hz4; replace hz4 := Nat.le_of_eq hz4.symm; replace t1 := t1.of_eq (hc4.block _ t1.lt (by omega)); simp only [Act.put, List.setIfInBounds_toArray, List.set_cons_zero, List.set_cons_succ]) | (refine wpList_buildPx rfl rfl ?_; simp only [Act.put, List.setIfInBounds_toArray, List.set_cons_zero, List.set_cons_succ]))
    obtain ⟨k0, k1, k2, k3⟩ := t2.cells
    refine bodyPost_ret (by simp [results, Try.results19, go_sem, k0, k1, k2, k3]; try rfl) rfl ?_
    refine ⟨rfl, ?_⟩
    repeat' (first | (with_reducible exact Below.refl _ _) | (with_reducible assumption) | (with_reducible refine Below.trans ?_ (hb1.mono (by omega))) | (with_reducible refine Below.trans ?_ (hb2.mono (by omega))) | (with_reducible refine Below.trans ?_ (hb3.mono (by omega))) | (with_reducible refine Chg.below ?_ hc4 (by omega) (by omega)))
set_option maxHeartbeats 1000000 in
set_option maxRecDepth 20000 in
theorem R_Solid (t : Nat → Px) (w : World) : Calls Try.prog 20 #[Tile.v t] w fun e w' => e = .returned (.tuple #[Px.v (solidP t), .bool (solidB t)]) ∧ Below w.heap.size w w' := by
  cases hs : solidB t with
  | true =>
    have e1 : solidP t = t 0 := by unfold solidP; rw [if_pos hs]
    have e2 : eqT t (fillT (t 0)) = true := hs
    have hS := Lib.hid (show ∀ w, Calls Try.prog 39 #[Tile.v t, Tile.v (fillT (t 0))] w fun e w' => e = .returned (.bool true) ∧ Below w.heap.size w w' from fun w => e2 ▸ R_Same t (fillT (t 0)) w)
    have hcmp : ∀ w, (binOp .neq 25 (Tile.v t) (Tile.v (fillT (t 0)))).run Try.prog w = .ok (.bool false) w := fun w => by rw [neq_tile, e2]; rfl
    rw [e1]; clear e1 e2 hs
    go_enter Try.func20, Try.ntmps20
    go_wp2_with (first | (refine wpList_allocPx rfl rfl ?_; intro w2 t2 hb2 hz2; have l2 := Nat.lt_of_lt_of_eq (Nat.lt_succ_self _) hz2.symm; clear hz2; replace t1 := t1.of_eq (hb2.block _ t1.lt); simp only [Act.put, List.setIfInBounds_toArray, List.set_cons_zero, List.set_cons_succ]) | (refine wpList_boxT rfl _ rfl _ rfl ?_; intro w1 t1 hb1 hz1; have l1 := Nat.lt_of_lt_of_eq (Nat.lt_succ_self _) hz1.symm; clear hz1; simp only [Act.put, List.setIfInBounds_toArray, List.set_cons_zero, List.set_cons_succ]))
    refine wp_region_ov (by kernel_rfl) (by kernel_rfl) ?_
    repeat (first | go_big_quiet_skip | (go_big_quiet_want; first | (refine quiet_loadT rfl _ rfl (ov_tile t1) ?_; simp only [Act.put, List.setIfInBounds_toArray, List.set_cons_zero, List.set_cons_succ]; go_big_quiet_on) | (refine quiet_loadTp rfl _ rfl (ov_tile t1) (0) (by omega) (by first | rfl | omega) ?_; simp only [Act.put, List.setIfInBounds_toArray, List.set_cons_zero, List.set_cons_succ]; go_big_quiet_on) | (go_big_quiet_op; first | go_big_quiet_on | go_big_quiet_call ((first | (go_at_call 18; exact calls_ov (R_Fill _ _)) | (go_at_call 39; exact calls_ov (hS.out _)))))))
    refine wpQuiet_nil ?_
    intro w3 hb3
    have hz3 := hb3.size
    replace t1 := t1.of_eq (hb3.block _ t1.lt)
    replace t2 := t2.of_eq (hb3.block _ t2.lt)
    go_wp2_with (first | (refine wpList_storePx rfl _ _ rfl _ rfl _ rfl t2 ?_; clear t2; intro w4 t2 hc4 hz4; replace hz4 := Nat.le_of_eq hz4.symm; replace t1 := t1.of_eq (hc4.block _ t1.lt (by omega)); simp only [Act.put, List.setIfInBounds_toArray, List.set_cons_zero, List.set_cons_succ]) | (refine wpList_loadTp rfl _ rfl _ _ rfl t1 (0) (by omega) (by first | rfl | omega) ?_; simp only [Act.put, List.setIfInBounds_toArray, List.set_cons_zero, List.set_cons_succ]))
    obtain ⟨k0, k1, k2, k3⟩ := t2.cells
    refine bodyPost_ret (by simp [results, Try.results20, go_sem, k0, k1, k2, k3]; try rfl) rfl ?_
    refine ⟨rfl, ?_⟩
    repeat' (first | (with_reducible exact Below.refl _ _) | (with_reducible assumption) | (with_reducible refine Below.trans ?_ (hb1.mono (by omega))) | (with_reducible refine Below.trans ?_ (hb2.mono (by omega))) | (with_reducible refine Below.trans ?_ (hb3.mono (by omega))) | (with_reducible refine Chg.below ?_ hc4 (by omega) (by omega)))
  | false =>
    have e1 : solidP t = Px.zero := by unfold solidP; rw [if_neg (by rw [hs]; simp)]
    have e2 : eqT t (fillT (t 0)) = false := hs
    have hS := Lib.hid (show ∀ w, Calls Try.prog 39 #[Tile.v t, Tile.v (fillT (t 0))] w fun e w' => e = .returned (.bool false) ∧ Below w.heap.size w w' from fun w => e2 ▸ R_Same t (fillT (t 0)) w)
    have hcmp : ∀ w, (binOp .neq 25 (Tile.v t) (Tile.v (fillT (t 0)))).run Try.prog w = .ok (.bool true) w := fun w => by rw [neq_tile, e2]; rfl
    rw [e1]; clear e1 e2 hs
    go_enter Try.func20, Try.ntmps20
    go_wp2_with (first | (refine wpList_allocPx rfl rfl ?_; intro w2 t2 hb2 hz2; have l2 := Nat.lt_of_lt_of_eq (Nat.lt_succ_self _) hz2.symm; clear hz2; replace t1 := t1.of_eq (hb2.block _ t1.lt); simp only [Act.put, List.setIfInBounds_toArray, List.set_cons_zero, List.set_cons_succ]) | (refine wpList_boxT rfl _ rfl _ rfl ?_; intro w1 t1 hb1 hz1; have l1 := Nat.lt_of_lt_of_eq (Nat.lt_succ_self _) hz1.symm; clear hz1; simp only [Act.put, List.setIfInBounds_toArray, List.set_cons_zero, List.set_cons_succ]))
    refine wp_region_ov (by kernel_rfl) (by kernel_rfl) ?_
    repeat (first | go_big_quiet_skip | (go_big_quiet_want; first | (refine quiet_loadT rfl _ rfl (ov_tile t1) ?_; simp only [Act.put, List.setIfInBounds_toArray, List.set_cons_zero, List.set_cons_succ]; go_big_quiet_on) | (refine quiet_loadTp rfl _ rfl (ov_tile t1) (0) (by omega) (by first | rfl | omega) ?_; simp only [Act.put, List.setIfInBounds_toArray, List.set_cons_zero, List.set_cons_succ]; go_big_quiet_on) | (go_big_quiet_op; first | go_big_quiet_on | go_big_quiet_call ((first | (go_at_call 18; exact calls_ov (R_Fill _ _)) | (go_at_call 39; exact calls_ov (hS.out _)))))))
    refine wpQuiet_nil ?_
    intro w3 hb3
    have hz3 := hb3.size
    replace t1 := t1.of_eq (hb3.block _ t1.lt)
    replace t2 := t2.of_eq (hb3.block _ t2.lt)
    go_wp2_with (first | (refine wpList_storePx rfl _ _ rfl _ rfl _ rfl t2 ?_; clear t2; intro w4 t2 hc4 hz4; replace hz4 := Nat.le_of_eq hz4.symm; replace t1 := t1.of_eq (hc4.block _ t1.lt (by omega)); simp only [Act.put, List.setIfInBounds_toArray, List.set_cons_zero, List.set_cons_succ]) | (refine wpList_buildPx rfl rfl ?_; simp only [Act.put, List.setIfInBounds_toArray, List.set_cons_zero, List.set_cons_succ]))
    obtain ⟨k0, k1, k2, k3⟩ := t2.cells
    refine bodyPost_ret (by simp [results, Try.results20, go_sem, k0, k1, k2, k3]; try rfl) rfl ?_
    refine ⟨rfl, ?_⟩
    repeat' (first | (with_reducible exact Below.refl _ _) | (with_reducible assumption) | (with_reducible refine Below.trans ?_ (hb1.mono (by omega))) | (with_reducible refine Below.trans ?_ (hb2.mono (by omega))) | (with_reducible refine Below.trans ?_ (hb3.mono (by omega))) | (with_reducible refine Chg.below ?_ hc4 (by omega) (by omega)))
end Go.Proofs.Ytelfkakaaobfcaa
