/- Contracts of inside, Get, Set, Fill of package tile and of the reference. -/
import Derived.Test.YtppccnjckiedlaaTp
namespace Go.Proofs.Ytppccnjckiedlaa
open Go.RowKit Pl
set_option linter.unusedVariables false
set_option linter.unusedSimpArgs false
set_option maxRecDepth 20000

def insB (x y : Int) : Bool := decide (0 ≤ x ∧ x < 8 ∧ 0 ≤ y ∧ y < 8)
def posI (x y : Int) : Nat := (8 * y + x).toNat
def getT (t : Nat → Px) (x y : Int) : Px := if insB x y = true then t (posI x y) else Px.zero
def setT (t : Nat → Px) (x y : Int) (p : Px) : Nat → Px := if insB x y = true then upd t (posI x y) p else t
theorem insB_true {x y : Int} (h : insB x y = true) : 0 ≤ x ∧ x < 8 ∧ 0 ≤ y ∧ y < 8 ∧ posI x y < 64 ∧ ((posI x y : Nat) : Int) = 8 * y + x := by
  unfold insB at h
  have h := of_decide_eq_true h
  unfold posI
  omega

theorem P_inside (x y : Int) (w : World) : Calls Try.prog 99 #[.int .i64 x, .int .i64 y] w fun e w' => e = .returned (.bool (insB x y)) ∧ w = w' := by
  by_cases h0 : 0 ≤ x
  rotate_left
  · have e1 : insB x y = false := by unfold insB; exact decide_eq_false (by omega)
    have d1 : decide (0 ≤ x) = false := decide_eq_false (by omega)
    rw [e1]; clear e1
    go_enter Try.func99, Try.ntmps99
    go_wp2
    go_ret
    exact ⟨rfl, rfl⟩
  by_cases h1 : x < 8
  rotate_left
  · have e1 : insB x y = false := by unfold insB; exact decide_eq_false (by omega)
    have d1 : decide (x < 8) = false := decide_eq_false (by omega)
    rw [e1]; clear e1
    go_enter Try.func99, Try.ntmps99
    go_wp2
    go_ret
    exact ⟨rfl, rfl⟩
  by_cases h2 : 0 ≤ y
  rotate_left
  · have e1 : insB x y = false := by unfold insB; exact decide_eq_false (by omega)
    have d1 : decide (0 ≤ y) = false := decide_eq_false (by omega)
    rw [e1]; clear e1
    go_enter Try.func99, Try.ntmps99
    go_wp2
    go_ret
    exact ⟨rfl, rfl⟩
  by_cases h3 : y < 8
  rotate_left
  · have e1 : insB x y = false := by unfold insB; exact decide_eq_false (by omega)
    have d1 : decide (y < 8) = false := decide_eq_false (by omega)
    rw [e1]; clear e1
    go_enter Try.func99, Try.ntmps99
    go_wp2
    go_ret
    exact ⟨rfl, rfl⟩
  have e1 : insB x y = true := by unfold insB; exact decide_eq_true (by omega)
  rw [e1]; clear e1
  go_enter Try.func99, Try.ntmps99
  go_wp2
  go_ret
  exact ⟨rfl, rfl⟩
theorem R_inside (x y : Int) (w : World) : Calls Try.prog 104 #[.int .i64 x, .int .i64 y] w fun e w' => e = .returned (.bool (insB x y)) ∧ w = w' := by
  by_cases h0 : 0 ≤ x
  rotate_left
  · have e1 : insB x y = false := by unfold insB; exact decide_eq_false (by omega)
    have d1 : decide (0 ≤ x) = false := decide_eq_false (by omega)
    rw [e1]; clear e1
    go_enter Try.func104, Try.ntmps104
    go_wp2
    go_ret
    exact ⟨rfl, rfl⟩
  by_cases h1 : x < 8
  rotate_left
  · have e1 : insB x y = false := by unfold insB; exact decide_eq_false (by omega)
    have d1 : decide (x < 8) = false := decide_eq_false (by omega)
    rw [e1]; clear e1
    go_enter Try.func104, Try.ntmps104
    go_wp2
    go_ret
    exact ⟨rfl, rfl⟩
  by_cases h2 : 0 ≤ y
  rotate_left
  · have e1 : insB x y = false := by unfold insB; exact decide_eq_false (by omega)
    have d1 : decide (0 ≤ y) = false := decide_eq_false (by omega)
    rw [e1]; clear e1
    go_enter Try.func104, Try.ntmps104
    go_wp2
    go_ret
    exact ⟨rfl, rfl⟩
  by_cases h3 : y < 8
  rotate_left
  · have e1 : insB x y = false := by unfold insB; exact decide_eq_false (by omega)
    have d1 : decide (y < 8) = false := decide_eq_false (by omega)
    rw [e1]; clear e1
    go_enter Try.func104, Try.ntmps104
    go_wp2
    go_ret
    exact ⟨rfl, rfl⟩
  have e1 : insB x y = true := by unfold insB; exact decide_eq_true (by omega)
  rw [e1]; clear e1
  go_enter Try.func104, Try.ntmps104
  go_wp2
  go_ret
  exact ⟨rfl, rfl⟩

set_option maxHeartbeats 1000000 in
set_option maxRecDepth 20000 in
theorem P_Get (t : Nat → Px) (x y : Int) (w : World) : Calls Try.prog 51 #[Tile.v t, .int .i64 x, .int .i64 y] w fun e w' => e = .returned (Px.v (getT t x y)) ∧ Below w.heap.size w w' := by
  cases hi : insB x y with
  | false =>
    have e1 : getT t x y = Px.zero := by unfold getT; rw [hi]; rfl
    rw [e1]; clear e1
    go_enter Try.func51, Try.ntmps51
    go_wp2_with (first | (refine wpList_storePx rfl _ _ rfl _ rfl _ rfl h2 ?_; clear h2; intro w3 h2 hc3 hz3; replace hz3 := Nat.le_of_eq hz3.symm; replace h1 := h1.of_eq (hc3.block _ h1.lt (by omega)); simp only [Act.put, List.setIfInBounds_toArray, List.set_cons_zero, List.set_cons_succ]) | (refine wpList_buildPx rfl rfl ?_; simp only [Act.put, List.setIfInBounds_toArray, List.set_cons_zero, List.set_cons_succ]) | (refine wpList_allocPx rfl rfl ?_; intro w2 h2 hb2 hz2; have l2 := Nat.lt_of_lt_of_eq (Nat.lt_succ_self _) hz2.symm; clear hz2; replace h1 := h1.of_eq (hb2.block _ h1.lt); simp only [Act.put, List.setIfInBounds_toArray, List.set_cons_zero, List.set_cons_succ]) | (refine wpList_boxT rfl _ rfl _ rfl ?_; intro w1 h1 hb1 hz1; have l1 := Nat.lt_of_lt_of_eq (Nat.lt_succ_self _) hz1.symm; clear hz1; simp only [Act.put, List.setIfInBounds_toArray, List.set_cons_zero, List.set_cons_succ]) | (go_at_call 99; refine (P_inside _ _ _).mono ?_; rintro e w' ⟨rfl, rfl⟩))
    refine bodyPost_ret (results_px rfl _ _ (w1.heap.size) rfl h2) rfl ?_
    refine ⟨rfl, ?_⟩
    repeat' (first | (with_reducible exact Below.refl _ _) | (with_reducible assumption) | (with_reducible refine Below.trans ?_ (hb1.mono (by omega))) | (with_reducible refine Below.trans ?_ (hb2.mono (by omega))) | (with_reducible refine Chg.below ?_ hc3 (by omega) (by omega)))
  | true =>
    have e1 : getT t x y = t (posI x y) := by unfold getT; rw [hi]; rfl
    rw [e1]; clear e1
    obtain ⟨h1, h2, h3, h4, h5, h6⟩ := insB_true hi
    have n1 : 0 ≤ 8 * y + x := by omega
    have n2 : 8 * y + x < 64 := by omega
    have e7 : (8 * y + x).toNat = posI x y := rfl
    go_enter Try.func51, Try.ntmps51
    go_wp2_with (first | (refine wpList_storePx rfl _ _ rfl _ rfl _ rfl t2 ?_; clear t2; intro w3 t2 hc3 hz3; replace hz3 := Nat.le_of_eq hz3.symm; replace t1 := t1.of_eq (hc3.block _ t1.lt (by omega)); simp only [Act.put, List.setIfInBounds_toArray, List.set_cons_zero, List.set_cons_succ]) | (refine wpList_loadTp rfl _ rfl _ _ rfl t1 (posI x y) (by assumption) (by first | rfl | omega) ?_; simp only [Act.put, List.setIfInBounds_toArray, List.set_cons_zero, List.set_cons_succ]) | (refine wpList_allocPx rfl rfl ?_; intro w2 t2 hb2 hz2; have l2 := Nat.lt_of_lt_of_eq (Nat.lt_succ_self _) hz2.symm; clear hz2; replace t1 := t1.of_eq (hb2.block _ t1.lt); simp only [Act.put, List.setIfInBounds_toArray, List.set_cons_zero, List.set_cons_succ]) | (refine wpList_boxT rfl _ rfl _ rfl ?_; intro w1 t1 hb1 hz1; have l1 := Nat.lt_of_lt_of_eq (Nat.lt_succ_self _) hz1.symm; clear hz1; simp only [Act.put, List.setIfInBounds_toArray, List.set_cons_zero, List.set_cons_succ]) | (go_at_call 99; refine (P_inside _ _ _).mono ?_; rintro e w' ⟨rfl, rfl⟩))
    refine bodyPost_ret (results_px rfl _ _ (w1.heap.size) rfl t2) rfl ?_
    refine ⟨rfl, ?_⟩
    repeat' (first | (with_reducible exact Below.refl _ _) | (with_reducible assumption) | (with_reducible refine Below.trans ?_ (hb1.mono (by omega))) | (with_reducible refine Below.trans ?_ (hb2.mono (by omega))) | (with_reducible refine Chg.below ?_ hc3 (by omega) (by omega)))
set_option maxHeartbeats 1000000 in
set_option maxRecDepth 20000 in
theorem P_Set (t : Nat → Px) (x y : Int) (p : Px) (w : World) : Calls Try.prog 69 #[Tile.v t, .int .i64 x, .int .i64 y, Px.v p] w fun e w' => e = .returned (Tile.v (setT t x y p)) ∧ Below w.heap.size w w' := by
  cases hi : insB x y with
  | false =>
    have e1 : setT t x y p = t := by unfold setT; rw [hi]; rfl
    rw [e1]; clear e1
    go_enter Try.func69, Try.ntmps69
    go_wp2_with (first | (refine wpList_storeT rfl _ _ rfl _ rfl _ rfl t3 ?_; clear t3; intro w4 t3 hc4 hz4; replace hz4 := Nat.le_of_eq hz4.symm; replace t1 := t1.of_eq (hc4.block _ t1.lt (by omega)); simp only [Act.put, List.setIfInBounds_toArray, List.set_cons_zero, List.set_cons_succ]) | (refine wpList_loadT rfl _ rfl _ rfl t1 ?_; simp only [Act.put, List.setIfInBounds_toArray, List.set_cons_zero, List.set_cons_succ]) | (refine wpList_allocT rfl rfl ?_; intro w3 t3 hb3 hz3; have l3 := Nat.lt_of_lt_of_eq (Nat.lt_succ_self _) hz3.symm; clear hz3; replace t1 := t1.of_eq (hb3.block _ t1.lt); replace t2 := t2.of_eq (hb3.block _ t2.lt); simp only [Act.put, List.setIfInBounds_toArray, List.set_cons_zero, List.set_cons_succ]) | (refine wpList_boxPx rfl _ rfl _ rfl ?_; intro w2 t2 hb2 hz2; have l2 := Nat.lt_of_lt_of_eq (Nat.lt_succ_self _) hz2.symm; clear hz2; replace t1 := t1.of_eq (hb2.block _ t1.lt); simp only [Act.put, List.setIfInBounds_toArray, List.set_cons_zero, List.set_cons_succ]) | (refine wpList_boxT rfl _ rfl _ rfl ?_; intro w1 t1 hb1 hz1; have l1 := Nat.lt_of_lt_of_eq (Nat.lt_succ_self _) hz1.symm; clear hz1; simp only [Act.put, List.setIfInBounds_toArray, List.set_cons_zero, List.set_cons_succ]) | (go_at_call 99; refine (P_inside _ _ _).mono ?_; rintro e w' ⟨rfl, rfl⟩))
    refine bodyPost_ret (results_tile rfl _ _ (w2.heap.size) rfl t3) rfl ?_
    refine ⟨rfl, ?_⟩
    repeat' (first | (with_reducible exact Below.refl _ _) | (with_reducible assumption) | (with_reducible refine Below.trans ?_ (hb1.mono (by omega))) | (with_reducible refine Below.trans ?_ (hb2.mono (by omega))) | (with_reducible refine Below.trans ?_ (hb3.mono (by omega))) | (with_reducible refine Chg.below ?_ hc4 (by omega) (by omega)))
  | true =>
    have e1 : setT t x y p = upd t (posI x y) p := by unfold setT; rw [hi]; rfl
    rw [e1]; clear e1
    obtain ⟨h1, h2, h3, h4, h5, h6⟩ := insB_true hi
    have n1 : 0 ≤ 8 * y + x := by omega
    have n2 : 8 * y + x < 64 := by omega
    have e7 : (8 * y + x).toNat = posI x y := rfl
    go_enter Try.func69, Try.ntmps69
    go_wp2_with (first | (refine wpList_storeT rfl _ _ rfl _ rfl _ rfl t3 ?_; clear t3; intro w5 t3 hc5 hz5; replace hz5 := Nat.le_of_eq hz5.symm; replace t1 := t1.of_eq (hc5.block _ t1.lt (by omega)); simp only [Act.put, List.setIfInBounds_toArray, List.set_cons_zero, List.set_cons_succ]) | (refine wpList_loadT rfl _ rfl _ rfl t1 ?_; simp only [Act.put, List.setIfInBounds_toArray, List.set_cons_zero, List.set_cons_succ]) | (refine wpList_storeTp rfl _ _ rfl _ _ rfl _ rfl t1 (posI x y) (by assumption) (by first | rfl | omega) ?_; clear t1; intro w4 t1 hc4 hz4; replace hz4 := Nat.le_of_eq hz4.symm; replace t2 := t2.of_eq (hc4.block _ t2.lt (by omega)); replace t3 := t3.of_eq (hc4.block _ t3.lt (by omega)); simp only [Act.put, List.setIfInBounds_toArray, List.set_cons_zero, List.set_cons_succ]) | (refine wpList_loadPx rfl _ rfl _ rfl t2 ?_; simp only [Act.put, List.setIfInBounds_toArray, List.set_cons_zero, List.set_cons_succ]) | (refine wpList_allocT rfl rfl ?_; intro w3 t3 hb3 hz3; have l3 := Nat.lt_of_lt_of_eq (Nat.lt_succ_self _) hz3.symm; clear hz3; replace t1 := t1.of_eq (hb3.block _ t1.lt); replace t2 := t2.of_eq (hb3.block _ t2.lt); simp only [Act.put, List.setIfInBounds_toArray, List.set_cons_zero, List.set_cons_succ]) | (refine wpList_boxPx rfl _ rfl _ rfl ?_; intro w2 t2 hb2 hz2; have l2 := Nat.lt_of_lt_of_eq (Nat.lt_succ_self _) hz2.symm; clear hz2; replace t1 := t1.of_eq (hb2.block _ t1.lt); simp only [Act.put, List.setIfInBounds_toArray, List.set_cons_zero, List.set_cons_succ]) | (refine wpList_boxT rfl _ rfl _ rfl ?_; intro w1 t1 hb1 hz1; have l1 := Nat.lt_of_lt_of_eq (Nat.lt_succ_self _) hz1.symm; clear hz1; simp only [Act.put, List.setIfInBounds_toArray, List.set_cons_zero, List.set_cons_succ]) | (go_at_call 99; refine (P_inside _ _ _).mono ?_; rintro e w' ⟨rfl, rfl⟩))
    refine bodyPost_ret (results_tile rfl _ _ (w2.heap.size) rfl t3) rfl ?_
    refine ⟨rfl, ?_⟩
    repeat' (first | (with_reducible exact Below.refl _ _) | (with_reducible assumption) | (with_reducible refine Below.trans ?_ (hb1.mono (by omega))) | (with_reducible refine Below.trans ?_ (hb2.mono (by omega))) | (with_reducible refine Below.trans ?_ (hb3.mono (by omega))) | (with_reducible refine Chg.below ?_ hc4 (by omega) (by omega)) | (with_reducible refine Chg.below ?_ hc5 (by omega) (by omega)))
set_option maxHeartbeats 1000000 in
set_option maxRecDepth 20000 in
theorem R_Get (t : Nat → Px) (x y : Int) (w : World) : Calls Try.prog 65 #[Tile.v t, .int .i64 x, .int .i64 y] w fun e w' => e = .returned (Px.v (getT t x y)) ∧ Below w.heap.size w w' := by
  cases hi : insB x y with
  | false =>
    have e1 : getT t x y = Px.zero := by unfold getT; rw [hi]; rfl
    rw [e1]; clear e1
    go_enter Try.func65, Try.ntmps65
    go_wp2_with (first | (refine wpList_storePx rfl _ _ rfl _ rfl _ rfl h2 ?_; clear h2; intro w3 h2 hc3 hz3; replace hz3 := Nat.le_of_eq hz3.symm; replace h1 := h1.of_eq (hc3.block _ h1.lt (by omega)); simp only [Act.put, List.setIfInBounds_toArray, List.set_cons_zero, List.set_cons_succ]) | (refine wpList_buildPx rfl rfl ?_; simp only [Act.put, List.setIfInBounds_toArray, List.set_cons_zero, List.set_cons_succ]) | (refine wpList_allocPx rfl rfl ?_; intro w2 h2 hb2 hz2; have l2 := Nat.lt_of_lt_of_eq (Nat.lt_succ_self _) hz2.symm; clear hz2; replace h1 := h1.of_eq (hb2.block _ h1.lt); simp only [Act.put, List.setIfInBounds_toArray, List.set_cons_zero, List.set_cons_succ]) | (refine wpList_boxT rfl _ rfl _ rfl ?_; intro w1 h1 hb1 hz1; have l1 := Nat.lt_of_lt_of_eq (Nat.lt_succ_self _) hz1.symm; clear hz1; simp only [Act.put, List.setIfInBounds_toArray, List.set_cons_zero, List.set_cons_succ]) | (go_at_call 104; refine (R_inside _ _ _).mono ?_; rintro e w' ⟨rfl, rfl⟩))
    refine bodyPost_ret (results_px rfl _ _ (w1.heap.size) rfl h2) rfl ?_
    refine ⟨rfl, ?_⟩
    repeat' (first | (with_reducible exact Below.refl _ _) | (with_reducible assumption) | (with_reducible refine Below.trans ?_ (hb1.mono (by omega))) | (with_reducible refine Below.trans ?_ (hb2.mono (by omega))) | (with_reducible refine Chg.below ?_ hc3 (by omega) (by omega)))
  | true =>
    have e1 : getT t x y = t (posI x y) := by unfold getT; rw [hi]; rfl
    rw [e1]; clear e1
    obtain ⟨h1, h2, h3, h4, h5, h6⟩ := insB_true hi
    have n1 : 0 ≤ 8 * y + x := by omega
    have n2 : 8 * y + x < 64 := by omega
    have e7 : (8 * y + x).toNat = posI x y := rfl
    go_enter Try.func65, Try.ntmps65
    go_wp2_with (first | (refine wpList_storePx rfl _ _ rfl _ rfl _ rfl t2 ?_; clear t2; intro w3 t2 hc3 hz3; replace hz3 := Nat.le_of_eq hz3.symm; replace t1 := t1.of_eq (hc3.block _ t1.lt (by omega)); simp only [Act.put, List.setIfInBounds_toArray, List.set_cons_zero, List.set_cons_succ]) | (refine wpList_loadTp rfl _ rfl _ _ rfl t1 (posI x y) (by assumption) (by first | rfl | omega) ?_; simp only [Act.put, List.setIfInBounds_toArray, List.set_cons_zero, List.set_cons_succ]) | (refine wpList_allocPx rfl rfl ?_; intro w2 t2 hb2 hz2; have l2 := Nat.lt_of_lt_of_eq (Nat.lt_succ_self _) hz2.symm; clear hz2; replace t1 := t1.of_eq (hb2.block _ t1.lt); simp only [Act.put, List.setIfInBounds_toArray, List.set_cons_zero, List.set_cons_succ]) | (refine wpList_boxT rfl _ rfl _ rfl ?_; intro w1 t1 hb1 hz1; have l1 := Nat.lt_of_lt_of_eq (Nat.lt_succ_self _) hz1.symm; clear hz1; simp only [Act.put, List.setIfInBounds_toArray, List.set_cons_zero, List.set_cons_succ]) | (go_at_call 104; refine (R_inside _ _ _).mono ?_; rintro e w' ⟨rfl, rfl⟩))
    refine bodyPost_ret (results_px rfl _ _ (w1.heap.size) rfl t2) rfl ?_
    refine ⟨rfl, ?_⟩
    repeat' (first | (with_reducible exact Below.refl _ _) | (with_reducible assumption) | (with_reducible refine Below.trans ?_ (hb1.mono (by omega))) | (with_reducible refine Below.trans ?_ (hb2.mono (by omega))) | (with_reducible refine Chg.below ?_ hc3 (by omega) (by omega)))
set_option maxHeartbeats 1000000 in
set_option maxRecDepth 20000 in
theorem R_Set (t : Nat → Px) (x y : Int) (p : Px) (w : World) : Calls Try.prog 71 #[Tile.v t, .int .i64 x, .int .i64 y, Px.v p] w fun e w' => e = .returned (Tile.v (setT t x y p)) ∧ Below w.heap.size w w' := by
  cases hi : insB x y with
  | false =>
    have e1 : setT t x y p = t := by unfold setT; rw [hi]; rfl
    rw [e1]; clear e1
    go_enter Try.func71, Try.ntmps71
    go_wp2_with (first | (refine wpList_storeT rfl _ _ rfl _ rfl _ rfl t3 ?_; clear t3; intro w4 t3 hc4 hz4; replace hz4 := Nat.le_of_eq hz4.symm; replace t1 := t1.of_eq (hc4.block _ t1.lt (by omega)); simp only [Act.put, List.setIfInBounds_toArray, List.set_cons_zero, List.set_cons_succ]) | (refine wpList_loadT rfl _ rfl _ rfl t1 ?_; simp only [Act.put, List.setIfInBounds_toArray, List.set_cons_zero, List.set_cons_succ]) | (refine wpList_allocT rfl rfl ?_; intro w3 t3 hb3 hz3; have l3 := Nat.lt_of_lt_of_eq (Nat.lt_succ_self _) hz3.symm; clear hz3; replace t1 := t1.of_eq (hb3.block _ t1.lt); replace t2 := t2.of_eq (hb3.block _ t2.lt); simp only [Act.put, List.setIfInBounds_toArray, List.set_cons_zero, List.set_cons_succ]) | (refine wpList_boxPx rfl _ rfl _ rfl ?_; intro w2 t2 hb2 hz2; have l2 := Nat.lt_of_lt_of_eq (Nat.lt_succ_self _) hz2.symm; clear hz2; replace t1 := t1.of_eq (hb2.block _ t1.lt); simp only [Act.put, List.setIfInBounds_toArray, List.set_cons_zero, List.set_cons_succ]) | (refine wpList_boxT rfl _ rfl _ rfl ?_; intro w1 t1 hb1 hz1; have l1 := Nat.lt_of_lt_of_eq (Nat.lt_succ_self _) hz1.symm; clear hz1; simp only [Act.put, List.setIfInBounds_toArray, List.set_cons_zero, List.set_cons_succ]) | (go_at_call 104; refine (R_inside _ _ _).mono ?_; rintro e w' ⟨rfl, rfl⟩))
    refine bodyPost_ret (results_tile rfl _ _ (w2.heap.size) rfl t3) rfl ?_
    refine ⟨rfl, ?_⟩
    repeat' (first | (with_reducible exact Below.refl _ _) | (with_reducible assumption) | (with_reducible refine Below.trans ?_ (hb1.mono (by omega))) | (with_reducible refine Below.trans ?_ (hb2.mono (by omega))) | (with_reducible refine Below.trans ?_ (hb3.mono (by omega))) | (with_reducible refine Chg.below ?_ hc4 (by omega) (by omega)))
  | true =>
    have e1 : setT t x y p = upd t (posI x y) p := by unfold setT; rw [hi]; rfl
    rw [e1]; clear e1
    obtain ⟨h1, h2, h3, h4, h5, h6⟩ := insB_true hi
    have n1 : 0 ≤ 8 * y + x := by omega
    have n2 : 8 * y + x < 64 := by omega
    have e7 : (8 * y + x).toNat = posI x y := rfl
    go_enter Try.func71, Try.ntmps71
    go_wp2_with (first | (refine wpList_storeT rfl _ _ rfl _ rfl _ rfl t3 ?_; clear t3; intro w5 t3 hc5 hz5; replace hz5 := Nat.le_of_eq hz5.symm; replace t1 := t1.of_eq (hc5.block _ t1.lt (by omega)); simp only [Act.put, List.setIfInBounds_toArray, List.set_cons_zero, List.set_cons_succ]) | (refine wpList_loadT rfl _ rfl _ rfl t1 ?_; simp only [Act.put, List.setIfInBounds_toArray, List.set_cons_zero, List.set_cons_succ]) | (refine wpList_storeTp rfl _ _ rfl _ _ rfl _ rfl t1 (posI x y) (by assumption) (by first | rfl | omega) ?_; clear t1; intro w4 t1 hc4 hz4; replace hz4 := Nat.le_of_eq hz4.symm; replace t2 := t2.of_eq (hc4.block _ t2.lt (by omega)); replace t3 := t3.of_eq (hc4.block _ t3.lt (by omega)); simp only [Act.put, List.setIfInBounds_toArray, List.set_cons_zero, List.set_cons_succ]) | (refine wpList_loadPx rfl _ rfl _ rfl t2 ?_; simp only [Act.put, List.setIfInBounds_toArray, List.set_cons_zero, List.set_cons_succ]) | (refine wpList_allocT rfl rfl ?_; intro w3 t3 hb3 hz3; have l3 := Nat.lt_of_lt_of_eq (Nat.lt_succ_self _) hz3.symm; clear hz3; replace t1 := t1.of_eq (hb3.block _ t1.lt); replace t2 := t2.of_eq (hb3.block _ t2.lt); simp only [Act.put, List.setIfInBounds_toArray, List.set_cons_zero, List.set_cons_succ]) | (refine wpList_boxPx rfl _ rfl _ rfl ?_; intro w2 t2 hb2 hz2; have l2 := Nat.lt_of_lt_of_eq (Nat.lt_succ_self _) hz2.symm; clear hz2; replace t1 := t1.of_eq (hb2.block _ t1.lt); simp only [Act.put, List.setIfInBounds_toArray, List.set_cons_zero, List.set_cons_succ]) | (refine wpList_boxT rfl _ rfl _ rfl ?_; intro w1 t1 hb1 hz1; have l1 := Nat.lt_of_lt_of_eq (Nat.lt_succ_self _) hz1.symm; clear hz1; simp only [Act.put, List.setIfInBounds_toArray, List.set_cons_zero, List.set_cons_succ]) | (go_at_call 104; refine (R_inside _ _ _).mono ?_; rintro e w' ⟨rfl, rfl⟩))
    refine bodyPost_ret (results_tile rfl _ _ (w2.heap.size) rfl t3) rfl ?_
    refine ⟨rfl, ?_⟩
    repeat' (first | (with_reducible exact Below.refl _ _) | (with_reducible assumption) | (with_reducible refine Below.trans ?_ (hb1.mono (by omega))) | (with_reducible refine Below.trans ?_ (hb2.mono (by omega))) | (with_reducible refine Below.trans ?_ (hb3.mono (by omega))) | (with_reducible refine Chg.below ?_ hc4 (by omega) (by omega)) | (with_reducible refine Chg.below ?_ hc5 (by omega) (by omega)))

end Go.Proofs.Ytppccnjckiedlaa
