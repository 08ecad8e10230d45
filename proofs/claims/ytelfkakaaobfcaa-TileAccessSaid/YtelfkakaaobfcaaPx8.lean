/- Contracts of the reference's Blend, channel, Over, Mix. -/
import Derived.Test.YtelfkakaaobfcaaPx7
namespace Go.Proofs.Ytelfkakaaobfcaa
open Go.RowKit Pl
set_option linter.unusedVariables false
set_option linter.unusedSimpArgs false

set_option maxHeartbeats 400000 in
theorem R_Blend1 (b s : Int) (w : World) :
    Calls Try.prog 61 #[.int .i64 1, .int .i64 b, .int .i64 s] w fun e w' => e = .returned (.int .i64 (blendI 1 b s)) ∧ w = w' := by
  have h1 := clampI_bd b
  have h2 := clampI_bd s
  have e1 : blendI 1 b s = modeI 1 (clampI b) (clampI s) := rfl
  rw [e1]; clear e1
  obtain ⟨x, hx⟩ : ∃ x, x = clampI b := ⟨_, rfl⟩
  obtain ⟨y, hy⟩ : ∃ y, y = clampI s := ⟨_, rfl⟩
  have Hx := Lib.hid hx
  have Hy := Lib.hid hy
  have c1 : ∀ wx, Calls Try.prog 60 #[.int .i64 b] wx fun e w' => e = .returned (.int .i64 x) ∧ wx = w' := fun wx => hx ▸ R_clamp b wx
  have c2 : ∀ wx, Calls Try.prog 60 #[.int .i64 s] wx fun e w' => e = .returned (.int .i64 y) ∧ wx = w' := fun wx => hy ▸ R_clamp s wx
  rw [← hx, ← hy]
  rw [← hx] at h1
  rw [← hy] at h2
  have C1 := Lib.hid c1
  have C2 := Lib.hid c2
  have m1 := mulI_bd x y
  clear hx hy c1 c2
  go_enter Try.func61, Try.ntmps61
  go_wp2_with fail
  refine (C1.out _).mono ?_; rintro e w' ⟨rfl, rfl⟩
  go_wp2_with fail
  refine (C2.out _).mono ?_; rintro e w' ⟨rfl, rfl⟩
  go_wp2_with (first | (go_at_call 60; refine (R_clamp _ _).mono ?_; rintro e w' ⟨rfl, rfl⟩) | (go_at_call 52; refine (R_Mul _ _ _).mono ?_; rintro e w' ⟨rfl, rfl⟩) | (go_at_call 77; refine (R_scr _ _ _ (by omega) (by omega) (by omega) (by omega)).mono ?_; rintro e w' ⟨rfl, rfl⟩) | (go_at_call 78; refine (R_hard _ _ _ (by omega) (by omega) (by omega) (by omega)).mono ?_; rintro e w' ⟨rfl, rfl⟩) | (go_at_call 79; refine (R_dodge _ _ _ (by omega) (by omega) (by omega) (by omega)).mono ?_; rintro e w' ⟨rfl, rfl⟩) | (go_at_call 80; refine (R_burn _ _ _ (by omega) (by omega) (by omega) (by omega)).mono ?_; rintro e w' ⟨rfl, rfl⟩) | (go_at_call 81; refine (R_abs _ _ (by omega) (by omega)).mono ?_; rintro e w' ⟨rfl, rfl⟩) | (go_at_call 54; refine (R_round _ _ _ (by omega) (by omega) (by omega) (by omega)).mono ?_; rintro e w' ⟨rfl, rfl⟩))
  all_goals (go_ret; exact ⟨ret_int (by simp only [modeI, softI, absI, roundI, reduceIte, Int.reduceEq]; try omega), rfl⟩)

set_option maxHeartbeats 400000 in
theorem R_Blend2 (b s : Int) (w : World) :
    Calls Try.prog 61 #[.int .i64 2, .int .i64 b, .int .i64 s] w fun e w' => e = .returned (.int .i64 (blendI 2 b s)) ∧ w = w' := by
  have h1 := clampI_bd b
  have h2 := clampI_bd s
  have e1 : blendI 2 b s = modeI 2 (clampI b) (clampI s) := rfl
  rw [e1]; clear e1
  obtain ⟨x, hx⟩ : ∃ x, x = clampI b := ⟨_, rfl⟩
  obtain ⟨y, hy⟩ : ∃ y, y = clampI s := ⟨_, rfl⟩
  have Hx := Lib.hid hx
  have Hy := Lib.hid hy
  have c1 : ∀ wx, Calls Try.prog 60 #[.int .i64 b] wx fun e w' => e = .returned (.int .i64 x) ∧ wx = w' := fun wx => hx ▸ R_clamp b wx
  have c2 : ∀ wx, Calls Try.prog 60 #[.int .i64 s] wx fun e w' => e = .returned (.int .i64 y) ∧ wx = w' := fun wx => hy ▸ R_clamp s wx
  rw [← hx, ← hy]
  rw [← hx] at h1
  rw [← hy] at h2
  have C1 := Lib.hid c1
  have C2 := Lib.hid c2
  have m1 := mulI_bd x y
  clear hx hy c1 c2
  go_enter Try.func61, Try.ntmps61
  go_wp2_with fail
  refine (C1.out _).mono ?_; rintro e w' ⟨rfl, rfl⟩
  go_wp2_with fail
  refine (C2.out _).mono ?_; rintro e w' ⟨rfl, rfl⟩
  go_wp2_with (first | (go_at_call 60; refine (R_clamp _ _).mono ?_; rintro e w' ⟨rfl, rfl⟩) | (go_at_call 52; refine (R_Mul _ _ _).mono ?_; rintro e w' ⟨rfl, rfl⟩) | (go_at_call 77; refine (R_scr _ _ _ (by omega) (by omega) (by omega) (by omega)).mono ?_; rintro e w' ⟨rfl, rfl⟩) | (go_at_call 78; refine (R_hard _ _ _ (by omega) (by omega) (by omega) (by omega)).mono ?_; rintro e w' ⟨rfl, rfl⟩) | (go_at_call 79; refine (R_dodge _ _ _ (by omega) (by omega) (by omega) (by omega)).mono ?_; rintro e w' ⟨rfl, rfl⟩) | (go_at_call 80; refine (R_burn _ _ _ (by omega) (by omega) (by omega) (by omega)).mono ?_; rintro e w' ⟨rfl, rfl⟩) | (go_at_call 81; refine (R_abs _ _ (by omega) (by omega)).mono ?_; rintro e w' ⟨rfl, rfl⟩) | (go_at_call 54; refine (R_round _ _ _ (by omega) (by omega) (by omega) (by omega)).mono ?_; rintro e w' ⟨rfl, rfl⟩))
  all_goals (go_ret; exact ⟨ret_int (by simp only [modeI, softI, absI, roundI, reduceIte, Int.reduceEq]; try omega), rfl⟩)

set_option maxHeartbeats 400000 in
theorem R_Blend3 (b s : Int) (w : World) :
    Calls Try.prog 61 #[.int .i64 3, .int .i64 b, .int .i64 s] w fun e w' => e = .returned (.int .i64 (blendI 3 b s)) ∧ w = w' := by
  have h1 := clampI_bd b
  have h2 := clampI_bd s
  have e1 : blendI 3 b s = modeI 3 (clampI b) (clampI s) := rfl
  rw [e1]; clear e1
  obtain ⟨x, hx⟩ : ∃ x, x = clampI b := ⟨_, rfl⟩
  obtain ⟨y, hy⟩ : ∃ y, y = clampI s := ⟨_, rfl⟩
  have Hx := Lib.hid hx
  have Hy := Lib.hid hy
  have c1 : ∀ wx, Calls Try.prog 60 #[.int .i64 b] wx fun e w' => e = .returned (.int .i64 x) ∧ wx = w' := fun wx => hx ▸ R_clamp b wx
  have c2 : ∀ wx, Calls Try.prog 60 #[.int .i64 s] wx fun e w' => e = .returned (.int .i64 y) ∧ wx = w' := fun wx => hy ▸ R_clamp s wx
  rw [← hx, ← hy]
  rw [← hx] at h1
  rw [← hy] at h2
  have C1 := Lib.hid c1
  have C2 := Lib.hid c2
  have m1 := mulI_bd x y
  clear hx hy c1 c2
  go_enter Try.func61, Try.ntmps61
  go_wp2_with fail
  refine (C1.out _).mono ?_; rintro e w' ⟨rfl, rfl⟩
  go_wp2_with fail
  refine (C2.out _).mono ?_; rintro e w' ⟨rfl, rfl⟩
  go_wp2_with (first | (go_at_call 60; refine (R_clamp _ _).mono ?_; rintro e w' ⟨rfl, rfl⟩) | (go_at_call 52; refine (R_Mul _ _ _).mono ?_; rintro e w' ⟨rfl, rfl⟩) | (go_at_call 77; refine (R_scr _ _ _ (by omega) (by omega) (by omega) (by omega)).mono ?_; rintro e w' ⟨rfl, rfl⟩) | (go_at_call 78; refine (R_hard _ _ _ (by omega) (by omega) (by omega) (by omega)).mono ?_; rintro e w' ⟨rfl, rfl⟩) | (go_at_call 79; refine (R_dodge _ _ _ (by omega) (by omega) (by omega) (by omega)).mono ?_; rintro e w' ⟨rfl, rfl⟩) | (go_at_call 80; refine (R_burn _ _ _ (by omega) (by omega) (by omega) (by omega)).mono ?_; rintro e w' ⟨rfl, rfl⟩) | (go_at_call 81; refine (R_abs _ _ (by omega) (by omega)).mono ?_; rintro e w' ⟨rfl, rfl⟩) | (go_at_call 54; refine (R_round _ _ _ (by omega) (by omega) (by omega) (by omega)).mono ?_; rintro e w' ⟨rfl, rfl⟩))
  all_goals (go_ret; exact ⟨ret_int (by simp only [modeI, softI, absI, roundI, reduceIte, Int.reduceEq]; try omega), rfl⟩)

set_option maxHeartbeats 400000 in
theorem R_Blend4 (b s : Int) (w : World) :
    Calls Try.prog 61 #[.int .i64 4, .int .i64 b, .int .i64 s] w fun e w' => e = .returned (.int .i64 (blendI 4 b s)) ∧ w = w' := by
  have h1 := clampI_bd b
  have h2 := clampI_bd s
  have e1 : blendI 4 b s = modeI 4 (clampI b) (clampI s) := rfl
  rw [e1]; clear e1
  obtain ⟨x, hx⟩ : ∃ x, x = clampI b := ⟨_, rfl⟩
  obtain ⟨y, hy⟩ : ∃ y, y = clampI s := ⟨_, rfl⟩
  have Hx := Lib.hid hx
  have Hy := Lib.hid hy
  have c1 : ∀ wx, Calls Try.prog 60 #[.int .i64 b] wx fun e w' => e = .returned (.int .i64 x) ∧ wx = w' := fun wx => hx ▸ R_clamp b wx
  have c2 : ∀ wx, Calls Try.prog 60 #[.int .i64 s] wx fun e w' => e = .returned (.int .i64 y) ∧ wx = w' := fun wx => hy ▸ R_clamp s wx
  rw [← hx, ← hy]
  rw [← hx] at h1
  rw [← hy] at h2
  have C1 := Lib.hid c1
  have C2 := Lib.hid c2
  have m1 := mulI_bd x y
  clear hx hy c1 c2
  go_enter Try.func61, Try.ntmps61
  go_wp2_with fail
  refine (C1.out _).mono ?_; rintro e w' ⟨rfl, rfl⟩
  go_wp2_with fail
  refine (C2.out _).mono ?_; rintro e w' ⟨rfl, rfl⟩
  go_wp2_with (first | (go_at_call 60; refine (R_clamp _ _).mono ?_; rintro e w' ⟨rfl, rfl⟩) | (go_at_call 52; refine (R_Mul _ _ _).mono ?_; rintro e w' ⟨rfl, rfl⟩) | (go_at_call 77; refine (R_scr _ _ _ (by omega) (by omega) (by omega) (by omega)).mono ?_; rintro e w' ⟨rfl, rfl⟩) | (go_at_call 78; refine (R_hard _ _ _ (by omega) (by omega) (by omega) (by omega)).mono ?_; rintro e w' ⟨rfl, rfl⟩) | (go_at_call 79; refine (R_dodge _ _ _ (by omega) (by omega) (by omega) (by omega)).mono ?_; rintro e w' ⟨rfl, rfl⟩) | (go_at_call 80; refine (R_burn _ _ _ (by omega) (by omega) (by omega) (by omega)).mono ?_; rintro e w' ⟨rfl, rfl⟩) | (go_at_call 81; refine (R_abs _ _ (by omega) (by omega)).mono ?_; rintro e w' ⟨rfl, rfl⟩) | (go_at_call 54; refine (R_round _ _ _ (by omega) (by omega) (by omega) (by omega)).mono ?_; rintro e w' ⟨rfl, rfl⟩))
  all_goals (go_ret; exact ⟨ret_int (by simp only [modeI, softI, absI, roundI, reduceIte, Int.reduceEq]; try omega), rfl⟩)

set_option maxHeartbeats 400000 in
theorem R_Blend5 (b s : Int) (w : World) :
    Calls Try.prog 61 #[.int .i64 5, .int .i64 b, .int .i64 s] w fun e w' => e = .returned (.int .i64 (blendI 5 b s)) ∧ w = w' := by
  have h1 := clampI_bd b
  have h2 := clampI_bd s
  have e1 : blendI 5 b s = modeI 5 (clampI b) (clampI s) := rfl
  rw [e1]; clear e1
  obtain ⟨x, hx⟩ : ∃ x, x = clampI b := ⟨_, rfl⟩
  obtain ⟨y, hy⟩ : ∃ y, y = clampI s := ⟨_, rfl⟩
  have Hx := Lib.hid hx
  have Hy := Lib.hid hy
  have c1 : ∀ wx, Calls Try.prog 60 #[.int .i64 b] wx fun e w' => e = .returned (.int .i64 x) ∧ wx = w' := fun wx => hx ▸ R_clamp b wx
  have c2 : ∀ wx, Calls Try.prog 60 #[.int .i64 s] wx fun e w' => e = .returned (.int .i64 y) ∧ wx = w' := fun wx => hy ▸ R_clamp s wx
  rw [← hx, ← hy]
  rw [← hx] at h1
  rw [← hy] at h2
  have C1 := Lib.hid c1
  have C2 := Lib.hid c2
  have m1 := mulI_bd x y
  clear hx hy c1 c2
  go_enter Try.func61, Try.ntmps61
  go_wp2_with fail
  refine (C1.out _).mono ?_; rintro e w' ⟨rfl, rfl⟩
  go_wp2_with fail
  refine (C2.out _).mono ?_; rintro e w' ⟨rfl, rfl⟩
  go_wp2_with (first | (go_at_call 60; refine (R_clamp _ _).mono ?_; rintro e w' ⟨rfl, rfl⟩) | (go_at_call 52; refine (R_Mul _ _ _).mono ?_; rintro e w' ⟨rfl, rfl⟩) | (go_at_call 77; refine (R_scr _ _ _ (by omega) (by omega) (by omega) (by omega)).mono ?_; rintro e w' ⟨rfl, rfl⟩) | (go_at_call 78; refine (R_hard _ _ _ (by omega) (by omega) (by omega) (by omega)).mono ?_; rintro e w' ⟨rfl, rfl⟩) | (go_at_call 79; refine (R_dodge _ _ _ (by omega) (by omega) (by omega) (by omega)).mono ?_; rintro e w' ⟨rfl, rfl⟩) | (go_at_call 80; refine (R_burn _ _ _ (by omega) (by omega) (by omega) (by omega)).mono ?_; rintro e w' ⟨rfl, rfl⟩) | (go_at_call 81; refine (R_abs _ _ (by omega) (by omega)).mono ?_; rintro e w' ⟨rfl, rfl⟩) | (go_at_call 54; refine (R_round _ _ _ (by omega) (by omega) (by omega) (by omega)).mono ?_; rintro e w' ⟨rfl, rfl⟩))
  all_goals (go_ret; exact ⟨ret_int (by simp only [modeI, softI, absI, roundI, reduceIte, Int.reduceEq]; try omega), rfl⟩)

set_option maxHeartbeats 400000 in
theorem R_Blend6 (b s : Int) (w : World) :
    Calls Try.prog 61 #[.int .i64 6, .int .i64 b, .int .i64 s] w fun e w' => e = .returned (.int .i64 (blendI 6 b s)) ∧ w = w' := by
  have h1 := clampI_bd b
  have h2 := clampI_bd s
  have e1 : blendI 6 b s = modeI 6 (clampI b) (clampI s) := rfl
  rw [e1]; clear e1
  obtain ⟨x, hx⟩ : ∃ x, x = clampI b := ⟨_, rfl⟩
  obtain ⟨y, hy⟩ : ∃ y, y = clampI s := ⟨_, rfl⟩
  have Hx := Lib.hid hx
  have Hy := Lib.hid hy
  have c1 : ∀ wx, Calls Try.prog 60 #[.int .i64 b] wx fun e w' => e = .returned (.int .i64 x) ∧ wx = w' := fun wx => hx ▸ R_clamp b wx
  have c2 : ∀ wx, Calls Try.prog 60 #[.int .i64 s] wx fun e w' => e = .returned (.int .i64 y) ∧ wx = w' := fun wx => hy ▸ R_clamp s wx
  rw [← hx, ← hy]
  rw [← hx] at h1
  rw [← hy] at h2
  have C1 := Lib.hid c1
  have C2 := Lib.hid c2
  have m1 := mulI_bd x y
  clear hx hy c1 c2
  go_enter Try.func61, Try.ntmps61
  go_wp2_with fail
  refine (C1.out _).mono ?_; rintro e w' ⟨rfl, rfl⟩
  go_wp2_with fail
  refine (C2.out _).mono ?_; rintro e w' ⟨rfl, rfl⟩
  go_wp2_with (first | (go_at_call 60; refine (R_clamp _ _).mono ?_; rintro e w' ⟨rfl, rfl⟩) | (go_at_call 52; refine (R_Mul _ _ _).mono ?_; rintro e w' ⟨rfl, rfl⟩) | (go_at_call 77; refine (R_scr _ _ _ (by omega) (by omega) (by omega) (by omega)).mono ?_; rintro e w' ⟨rfl, rfl⟩) | (go_at_call 78; refine (R_hard _ _ _ (by omega) (by omega) (by omega) (by omega)).mono ?_; rintro e w' ⟨rfl, rfl⟩) | (go_at_call 79; refine (R_dodge _ _ _ (by omega) (by omega) (by omega) (by omega)).mono ?_; rintro e w' ⟨rfl, rfl⟩) | (go_at_call 80; refine (R_burn _ _ _ (by omega) (by omega) (by omega) (by omega)).mono ?_; rintro e w' ⟨rfl, rfl⟩) | (go_at_call 81; refine (R_abs _ _ (by omega) (by omega)).mono ?_; rintro e w' ⟨rfl, rfl⟩) | (go_at_call 54; refine (R_round _ _ _ (by omega) (by omega) (by omega) (by omega)).mono ?_; rintro e w' ⟨rfl, rfl⟩))
  all_goals (go_ret; exact ⟨ret_int (by simp only [modeI, softI, absI, roundI, reduceIte, Int.reduceEq]; try omega), rfl⟩)

set_option maxHeartbeats 400000 in
theorem R_Blend7 (b s : Int) (w : World) :
    Calls Try.prog 61 #[.int .i64 7, .int .i64 b, .int .i64 s] w fun e w' => e = .returned (.int .i64 (blendI 7 b s)) ∧ w = w' := by
  have h1 := clampI_bd b
  have h2 := clampI_bd s
  have e1 : blendI 7 b s = modeI 7 (clampI b) (clampI s) := rfl
  rw [e1]; clear e1
  obtain ⟨x, hx⟩ : ∃ x, x = clampI b := ⟨_, rfl⟩
  obtain ⟨y, hy⟩ : ∃ y, y = clampI s := ⟨_, rfl⟩
  have Hx := Lib.hid hx
  have Hy := Lib.hid hy
  have c1 : ∀ wx, Calls Try.prog 60 #[.int .i64 b] wx fun e w' => e = .returned (.int .i64 x) ∧ wx = w' := fun wx => hx ▸ R_clamp b wx
  have c2 : ∀ wx, Calls Try.prog 60 #[.int .i64 s] wx fun e w' => e = .returned (.int .i64 y) ∧ wx = w' := fun wx => hy ▸ R_clamp s wx
  rw [← hx, ← hy]
  rw [← hx] at h1
  rw [← hy] at h2
  have C1 := Lib.hid c1
  have C2 := Lib.hid c2
  have m1 := mulI_bd x y
  clear hx hy c1 c2
  go_enter Try.func61, Try.ntmps61
  go_wp2_with fail
  refine (C1.out _).mono ?_; rintro e w' ⟨rfl, rfl⟩
  go_wp2_with fail
  refine (C2.out _).mono ?_; rintro e w' ⟨rfl, rfl⟩
  go_wp2_with (first | (go_at_call 60; refine (R_clamp _ _).mono ?_; rintro e w' ⟨rfl, rfl⟩) | (go_at_call 52; refine (R_Mul _ _ _).mono ?_; rintro e w' ⟨rfl, rfl⟩) | (go_at_call 77; refine (R_scr _ _ _ (by omega) (by omega) (by omega) (by omega)).mono ?_; rintro e w' ⟨rfl, rfl⟩) | (go_at_call 78; refine (R_hard _ _ _ (by omega) (by omega) (by omega) (by omega)).mono ?_; rintro e w' ⟨rfl, rfl⟩) | (go_at_call 79; refine (R_dodge _ _ _ (by omega) (by omega) (by omega) (by omega)).mono ?_; rintro e w' ⟨rfl, rfl⟩) | (go_at_call 80; refine (R_burn _ _ _ (by omega) (by omega) (by omega) (by omega)).mono ?_; rintro e w' ⟨rfl, rfl⟩) | (go_at_call 81; refine (R_abs _ _ (by omega) (by omega)).mono ?_; rintro e w' ⟨rfl, rfl⟩) | (go_at_call 54; refine (R_round _ _ _ (by omega) (by omega) (by omega) (by omega)).mono ?_; rintro e w' ⟨rfl, rfl⟩))
  all_goals (go_ret; exact ⟨ret_int (by simp only [modeI, softI, absI, roundI, reduceIte, Int.reduceEq]; try omega), rfl⟩)

set_option maxHeartbeats 400000 in
theorem R_Blend8 (b s : Int) (w : World) :
    Calls Try.prog 61 #[.int .i64 8, .int .i64 b, .int .i64 s] w fun e w' => e = .returned (.int .i64 (blendI 8 b s)) ∧ w = w' := by
  have h1 := clampI_bd b
  have h2 := clampI_bd s
  have e1 : blendI 8 b s = modeI 8 (clampI b) (clampI s) := rfl
  rw [e1]; clear e1
  obtain ⟨x, hx⟩ : ∃ x, x = clampI b := ⟨_, rfl⟩
  obtain ⟨y, hy⟩ : ∃ y, y = clampI s := ⟨_, rfl⟩
  have Hx := Lib.hid hx
  have Hy := Lib.hid hy
  have c1 : ∀ wx, Calls Try.prog 60 #[.int .i64 b] wx fun e w' => e = .returned (.int .i64 x) ∧ wx = w' := fun wx => hx ▸ R_clamp b wx
  have c2 : ∀ wx, Calls Try.prog 60 #[.int .i64 s] wx fun e w' => e = .returned (.int .i64 y) ∧ wx = w' := fun wx => hy ▸ R_clamp s wx
  rw [← hx, ← hy]
  rw [← hx] at h1
  rw [← hy] at h2
  have C1 := Lib.hid c1
  have C2 := Lib.hid c2
  have m1 := mulI_bd x y
  clear hx hy c1 c2
  go_enter Try.func61, Try.ntmps61
  go_wp2_with fail
  refine (C1.out _).mono ?_; rintro e w' ⟨rfl, rfl⟩
  go_wp2_with fail
  refine (C2.out _).mono ?_; rintro e w' ⟨rfl, rfl⟩
  go_wp2_with (first | (go_at_call 60; refine (R_clamp _ _).mono ?_; rintro e w' ⟨rfl, rfl⟩) | (go_at_call 52; refine (R_Mul _ _ _).mono ?_; rintro e w' ⟨rfl, rfl⟩) | (go_at_call 77; refine (R_scr _ _ _ (by omega) (by omega) (by omega) (by omega)).mono ?_; rintro e w' ⟨rfl, rfl⟩) | (go_at_call 78; refine (R_hard _ _ _ (by omega) (by omega) (by omega) (by omega)).mono ?_; rintro e w' ⟨rfl, rfl⟩) | (go_at_call 79; refine (R_dodge _ _ _ (by omega) (by omega) (by omega) (by omega)).mono ?_; rintro e w' ⟨rfl, rfl⟩) | (go_at_call 80; refine (R_burn _ _ _ (by omega) (by omega) (by omega) (by omega)).mono ?_; rintro e w' ⟨rfl, rfl⟩) | (go_at_call 81; refine (R_abs _ _ (by omega) (by omega)).mono ?_; rintro e w' ⟨rfl, rfl⟩) | (go_at_call 54; refine (R_round _ _ _ (by omega) (by omega) (by omega) (by omega)).mono ?_; rintro e w' ⟨rfl, rfl⟩))
  all_goals (go_ret; exact ⟨ret_int (by simp only [modeI, softI, absI, roundI, reduceIte, Int.reduceEq]; try omega), rfl⟩)

set_option maxHeartbeats 400000 in
theorem R_Blend9 (b s : Int) (w : World) :
    Calls Try.prog 61 #[.int .i64 9, .int .i64 b, .int .i64 s] w fun e w' => e = .returned (.int .i64 (blendI 9 b s)) ∧ w = w' := by
  have h1 := clampI_bd b
  have h2 := clampI_bd s
  have e1 : blendI 9 b s = modeI 9 (clampI b) (clampI s) := rfl
  rw [e1]; clear e1
  obtain ⟨x, hx⟩ : ∃ x, x = clampI b := ⟨_, rfl⟩
  obtain ⟨y, hy⟩ : ∃ y, y = clampI s := ⟨_, rfl⟩
  have Hx := Lib.hid hx
  have Hy := Lib.hid hy
  have c1 : ∀ wx, Calls Try.prog 60 #[.int .i64 b] wx fun e w' => e = .returned (.int .i64 x) ∧ wx = w' := fun wx => hx ▸ R_clamp b wx
  have c2 : ∀ wx, Calls Try.prog 60 #[.int .i64 s] wx fun e w' => e = .returned (.int .i64 y) ∧ wx = w' := fun wx => hy ▸ R_clamp s wx
  rw [← hx, ← hy]
  rw [← hx] at h1
  rw [← hy] at h2
  have C1 := Lib.hid c1
  have C2 := Lib.hid c2
  have m1 := mulI_bd x y
  have m2 := mulI_bd (255 - x) (mulI x y)
  have m3 := scrI_bd h1.1 h1.2 h2.1 h2.2
  have m4 := mulI_bd x (scrI x y)
  clear hx hy c1 c2
  go_enter Try.func61, Try.ntmps61
  go_wp2_with fail
  refine (C1.out _).mono ?_; rintro e w' ⟨rfl, rfl⟩
  go_wp2_with fail
  refine (C2.out _).mono ?_; rintro e w' ⟨rfl, rfl⟩
  go_wp2_with (first | (go_at_call 60; refine (R_clamp _ _).mono ?_; rintro e w' ⟨rfl, rfl⟩) | (go_at_call 52; refine (R_Mul _ _ _).mono ?_; rintro e w' ⟨rfl, rfl⟩) | (go_at_call 77; refine (R_scr _ _ _ (by omega) (by omega) (by omega) (by omega)).mono ?_; rintro e w' ⟨rfl, rfl⟩) | (go_at_call 78; refine (R_hard _ _ _ (by omega) (by omega) (by omega) (by omega)).mono ?_; rintro e w' ⟨rfl, rfl⟩) | (go_at_call 79; refine (R_dodge _ _ _ (by omega) (by omega) (by omega) (by omega)).mono ?_; rintro e w' ⟨rfl, rfl⟩) | (go_at_call 80; refine (R_burn _ _ _ (by omega) (by omega) (by omega) (by omega)).mono ?_; rintro e w' ⟨rfl, rfl⟩) | (go_at_call 81; refine (R_abs _ _ (by omega) (by omega)).mono ?_; rintro e w' ⟨rfl, rfl⟩) | (go_at_call 54; refine (R_round _ _ _ (by omega) (by omega) (by omega) (by omega)).mono ?_; rintro e w' ⟨rfl, rfl⟩))
  all_goals (go_ret; exact ⟨ret_int (by simp only [modeI, softI, absI, roundI, reduceIte, Int.reduceEq]; try omega), rfl⟩)

set_option maxHeartbeats 400000 in
theorem R_Blend10 (b s : Int) (w : World) :
    Calls Try.prog 61 #[.int .i64 10, .int .i64 b, .int .i64 s] w fun e w' => e = .returned (.int .i64 (blendI 10 b s)) ∧ w = w' := by
  have h1 := clampI_bd b
  have h2 := clampI_bd s
  have e1 : blendI 10 b s = modeI 10 (clampI b) (clampI s) := rfl
  rw [e1]; clear e1
  obtain ⟨x, hx⟩ : ∃ x, x = clampI b := ⟨_, rfl⟩
  obtain ⟨y, hy⟩ : ∃ y, y = clampI s := ⟨_, rfl⟩
  have Hx := Lib.hid hx
  have Hy := Lib.hid hy
  have c1 : ∀ wx, Calls Try.prog 60 #[.int .i64 b] wx fun e w' => e = .returned (.int .i64 x) ∧ wx = w' := fun wx => hx ▸ R_clamp b wx
  have c2 : ∀ wx, Calls Try.prog 60 #[.int .i64 s] wx fun e w' => e = .returned (.int .i64 y) ∧ wx = w' := fun wx => hy ▸ R_clamp s wx
  rw [← hx, ← hy]
  rw [← hx] at h1
  rw [← hy] at h2
  have C1 := Lib.hid c1
  have C2 := Lib.hid c2
  have m1 := mulI_bd x y
  clear hx hy c1 c2
  go_enter Try.func61, Try.ntmps61
  go_wp2_with fail
  refine (C1.out _).mono ?_; rintro e w' ⟨rfl, rfl⟩
  go_wp2_with fail
  refine (C2.out _).mono ?_; rintro e w' ⟨rfl, rfl⟩
  go_wp2_with (first | (go_at_call 60; refine (R_clamp _ _).mono ?_; rintro e w' ⟨rfl, rfl⟩) | (go_at_call 52; refine (R_Mul _ _ _).mono ?_; rintro e w' ⟨rfl, rfl⟩) | (go_at_call 77; refine (R_scr _ _ _ (by omega) (by omega) (by omega) (by omega)).mono ?_; rintro e w' ⟨rfl, rfl⟩) | (go_at_call 78; refine (R_hard _ _ _ (by omega) (by omega) (by omega) (by omega)).mono ?_; rintro e w' ⟨rfl, rfl⟩) | (go_at_call 79; refine (R_dodge _ _ _ (by omega) (by omega) (by omega) (by omega)).mono ?_; rintro e w' ⟨rfl, rfl⟩) | (go_at_call 80; refine (R_burn _ _ _ (by omega) (by omega) (by omega) (by omega)).mono ?_; rintro e w' ⟨rfl, rfl⟩) | (go_at_call 81; refine (R_abs _ _ (by omega) (by omega)).mono ?_; rintro e w' ⟨rfl, rfl⟩) | (go_at_call 54; refine (R_round _ _ _ (by omega) (by omega) (by omega) (by omega)).mono ?_; rintro e w' ⟨rfl, rfl⟩))
  all_goals (go_ret; exact ⟨ret_int (by simp only [modeI, softI, absI, roundI, reduceIte, Int.reduceEq]; try omega), rfl⟩)

set_option maxHeartbeats 400000 in
theorem R_Blend11 (b s : Int) (w : World) :
    Calls Try.prog 61 #[.int .i64 11, .int .i64 b, .int .i64 s] w fun e w' => e = .returned (.int .i64 (blendI 11 b s)) ∧ w = w' := by
  have h1 := clampI_bd b
  have h2 := clampI_bd s
  have e1 : blendI 11 b s = modeI 11 (clampI b) (clampI s) := rfl
  rw [e1]; clear e1
  obtain ⟨x, hx⟩ : ∃ x, x = clampI b := ⟨_, rfl⟩
  obtain ⟨y, hy⟩ : ∃ y, y = clampI s := ⟨_, rfl⟩
  have Hx := Lib.hid hx
  have Hy := Lib.hid hy
  have c1 : ∀ wx, Calls Try.prog 60 #[.int .i64 b] wx fun e w' => e = .returned (.int .i64 x) ∧ wx = w' := fun wx => hx ▸ R_clamp b wx
  have c2 : ∀ wx, Calls Try.prog 60 #[.int .i64 s] wx fun e w' => e = .returned (.int .i64 y) ∧ wx = w' := fun wx => hy ▸ R_clamp s wx
  rw [← hx, ← hy]
  rw [← hx] at h1
  rw [← hy] at h2
  have C1 := Lib.hid c1
  have C2 := Lib.hid c2
  have m1 := mulI_bd x y
  clear hx hy c1 c2
  go_enter Try.func61, Try.ntmps61
  go_wp2_with fail
  refine (C1.out _).mono ?_; rintro e w' ⟨rfl, rfl⟩
  go_wp2_with fail
  refine (C2.out _).mono ?_; rintro e w' ⟨rfl, rfl⟩
  go_wp2_with (first | (go_at_call 60; refine (R_clamp _ _).mono ?_; rintro e w' ⟨rfl, rfl⟩) | (go_at_call 52; refine (R_Mul _ _ _).mono ?_; rintro e w' ⟨rfl, rfl⟩) | (go_at_call 77; refine (R_scr _ _ _ (by omega) (by omega) (by omega) (by omega)).mono ?_; rintro e w' ⟨rfl, rfl⟩) | (go_at_call 78; refine (R_hard _ _ _ (by omega) (by omega) (by omega) (by omega)).mono ?_; rintro e w' ⟨rfl, rfl⟩) | (go_at_call 79; refine (R_dodge _ _ _ (by omega) (by omega) (by omega) (by omega)).mono ?_; rintro e w' ⟨rfl, rfl⟩) | (go_at_call 80; refine (R_burn _ _ _ (by omega) (by omega) (by omega) (by omega)).mono ?_; rintro e w' ⟨rfl, rfl⟩) | (go_at_call 81; refine (R_abs _ _ (by omega) (by omega)).mono ?_; rintro e w' ⟨rfl, rfl⟩) | (go_at_call 54; refine (R_round _ _ _ (by omega) (by omega) (by omega) (by omega)).mono ?_; rintro e w' ⟨rfl, rfl⟩))
  all_goals (go_ret; exact ⟨ret_int (by simp only [modeI, softI, absI, roundI, reduceIte, Int.reduceEq]; try omega), rfl⟩)

set_option maxHeartbeats 400000 in
theorem R_Blend12 (b s : Int) (w : World) :
    Calls Try.prog 61 #[.int .i64 12, .int .i64 b, .int .i64 s] w fun e w' => e = .returned (.int .i64 (blendI 12 b s)) ∧ w = w' := by
  have h1 := clampI_bd b
  have h2 := clampI_bd s
  have e1 : blendI 12 b s = modeI 12 (clampI b) (clampI s) := rfl
  rw [e1]; clear e1
  obtain ⟨x, hx⟩ : ∃ x, x = clampI b := ⟨_, rfl⟩
  obtain ⟨y, hy⟩ : ∃ y, y = clampI s := ⟨_, rfl⟩
  have Hx := Lib.hid hx
  have Hy := Lib.hid hy
  have c1 : ∀ wx, Calls Try.prog 60 #[.int .i64 b] wx fun e w' => e = .returned (.int .i64 x) ∧ wx = w' := fun wx => hx ▸ R_clamp b wx
  have c2 : ∀ wx, Calls Try.prog 60 #[.int .i64 s] wx fun e w' => e = .returned (.int .i64 y) ∧ wx = w' := fun wx => hy ▸ R_clamp s wx
  rw [← hx, ← hy]
  rw [← hx] at h1
  rw [← hy] at h2
  have C1 := Lib.hid c1
  have C2 := Lib.hid c2
  have m1 := mulI_bd x y
  clear hx hy c1 c2
  go_enter Try.func61, Try.ntmps61
  go_wp2_with fail
  refine (C1.out _).mono ?_; rintro e w' ⟨rfl, rfl⟩
  go_wp2_with fail
  refine (C2.out _).mono ?_; rintro e w' ⟨rfl, rfl⟩
  go_wp2_with (first | (go_at_call 60; refine (R_clamp _ _).mono ?_; rintro e w' ⟨rfl, rfl⟩) | (go_at_call 52; refine (R_Mul _ _ _).mono ?_; rintro e w' ⟨rfl, rfl⟩) | (go_at_call 77; refine (R_scr _ _ _ (by omega) (by omega) (by omega) (by omega)).mono ?_; rintro e w' ⟨rfl, rfl⟩) | (go_at_call 78; refine (R_hard _ _ _ (by omega) (by omega) (by omega) (by omega)).mono ?_; rintro e w' ⟨rfl, rfl⟩) | (go_at_call 79; refine (R_dodge _ _ _ (by omega) (by omega) (by omega) (by omega)).mono ?_; rintro e w' ⟨rfl, rfl⟩) | (go_at_call 80; refine (R_burn _ _ _ (by omega) (by omega) (by omega) (by omega)).mono ?_; rintro e w' ⟨rfl, rfl⟩) | (go_at_call 81; refine (R_abs _ _ (by omega) (by omega)).mono ?_; rintro e w' ⟨rfl, rfl⟩) | (go_at_call 54; refine (R_round _ _ _ (by omega) (by omega) (by omega) (by omega)).mono ?_; rintro e w' ⟨rfl, rfl⟩))
  all_goals (go_ret; exact ⟨ret_int (by simp only [modeI, softI, absI, roundI, reduceIte, Int.reduceEq]; try omega), rfl⟩)

set_option maxHeartbeats 400000 in
theorem R_Blend13 (b s : Int) (w : World) :
    Calls Try.prog 61 #[.int .i64 13, .int .i64 b, .int .i64 s] w fun e w' => e = .returned (.int .i64 (blendI 13 b s)) ∧ w = w' := by
  have h1 := clampI_bd b
  have h2 := clampI_bd s
  have e1 : blendI 13 b s = modeI 13 (clampI b) (clampI s) := rfl
  rw [e1]; clear e1
  obtain ⟨x, hx⟩ : ∃ x, x = clampI b := ⟨_, rfl⟩
  obtain ⟨y, hy⟩ : ∃ y, y = clampI s := ⟨_, rfl⟩
  have Hx := Lib.hid hx
  have Hy := Lib.hid hy
  have c1 : ∀ wx, Calls Try.prog 60 #[.int .i64 b] wx fun e w' => e = .returned (.int .i64 x) ∧ wx = w' := fun wx => hx ▸ R_clamp b wx
  have c2 : ∀ wx, Calls Try.prog 60 #[.int .i64 s] wx fun e w' => e = .returned (.int .i64 y) ∧ wx = w' := fun wx => hy ▸ R_clamp s wx
  rw [← hx, ← hy]
  rw [← hx] at h1
  rw [← hy] at h2
  have C1 := Lib.hid c1
  have C2 := Lib.hid c2
  have m1 := mulI_bd x y
  clear hx hy c1 c2
  go_enter Try.func61, Try.ntmps61
  go_wp2_with fail
  refine (C1.out _).mono ?_; rintro e w' ⟨rfl, rfl⟩
  go_wp2_with fail
  refine (C2.out _).mono ?_; rintro e w' ⟨rfl, rfl⟩
  go_wp2_with (first | (go_at_call 60; refine (R_clamp _ _).mono ?_; rintro e w' ⟨rfl, rfl⟩) | (go_at_call 52; refine (R_Mul _ _ _).mono ?_; rintro e w' ⟨rfl, rfl⟩) | (go_at_call 77; refine (R_scr _ _ _ (by omega) (by omega) (by omega) (by omega)).mono ?_; rintro e w' ⟨rfl, rfl⟩) | (go_at_call 78; refine (R_hard _ _ _ (by omega) (by omega) (by omega) (by omega)).mono ?_; rintro e w' ⟨rfl, rfl⟩) | (go_at_call 79; refine (R_dodge _ _ _ (by omega) (by omega) (by omega) (by omega)).mono ?_; rintro e w' ⟨rfl, rfl⟩) | (go_at_call 80; refine (R_burn _ _ _ (by omega) (by omega) (by omega) (by omega)).mono ?_; rintro e w' ⟨rfl, rfl⟩) | (go_at_call 81; refine (R_abs _ _ (by omega) (by omega)).mono ?_; rintro e w' ⟨rfl, rfl⟩) | (go_at_call 54; refine (R_round _ _ _ (by omega) (by omega) (by omega) (by omega)).mono ?_; rintro e w' ⟨rfl, rfl⟩))
  all_goals (go_ret; exact ⟨ret_int (by simp only [modeI, softI, absI, roundI, reduceIte, Int.reduceEq]; try omega), rfl⟩)

set_option maxHeartbeats 400000 in
theorem R_Blend14 (b s : Int) (w : World) :
    Calls Try.prog 61 #[.int .i64 14, .int .i64 b, .int .i64 s] w fun e w' => e = .returned (.int .i64 (blendI 14 b s)) ∧ w = w' := by
  have h1 := clampI_bd b
  have h2 := clampI_bd s
  have e1 : blendI 14 b s = modeI 14 (clampI b) (clampI s) := rfl
  rw [e1]; clear e1
  obtain ⟨x, hx⟩ : ∃ x, x = clampI b := ⟨_, rfl⟩
  obtain ⟨y, hy⟩ : ∃ y, y = clampI s := ⟨_, rfl⟩
  have Hx := Lib.hid hx
  have Hy := Lib.hid hy
  have c1 : ∀ wx, Calls Try.prog 60 #[.int .i64 b] wx fun e w' => e = .returned (.int .i64 x) ∧ wx = w' := fun wx => hx ▸ R_clamp b wx
  have c2 : ∀ wx, Calls Try.prog 60 #[.int .i64 s] wx fun e w' => e = .returned (.int .i64 y) ∧ wx = w' := fun wx => hy ▸ R_clamp s wx
  rw [← hx, ← hy]
  rw [← hx] at h1
  rw [← hy] at h2
  have C1 := Lib.hid c1
  have C2 := Lib.hid c2
  have m1 := mulI_bd x y
  clear hx hy c1 c2
  go_enter Try.func61, Try.ntmps61
  go_wp2_with fail
  refine (C1.out _).mono ?_; rintro e w' ⟨rfl, rfl⟩
  go_wp2_with fail
  refine (C2.out _).mono ?_; rintro e w' ⟨rfl, rfl⟩
  go_wp2_with (first | (go_at_call 60; refine (R_clamp _ _).mono ?_; rintro e w' ⟨rfl, rfl⟩) | (go_at_call 52; refine (R_Mul _ _ _).mono ?_; rintro e w' ⟨rfl, rfl⟩) | (go_at_call 77; refine (R_scr _ _ _ (by omega) (by omega) (by omega) (by omega)).mono ?_; rintro e w' ⟨rfl, rfl⟩) | (go_at_call 78; refine (R_hard _ _ _ (by omega) (by omega) (by omega) (by omega)).mono ?_; rintro e w' ⟨rfl, rfl⟩) | (go_at_call 79; refine (R_dodge _ _ _ (by omega) (by omega) (by omega) (by omega)).mono ?_; rintro e w' ⟨rfl, rfl⟩) | (go_at_call 80; refine (R_burn _ _ _ (by omega) (by omega) (by omega) (by omega)).mono ?_; rintro e w' ⟨rfl, rfl⟩) | (go_at_call 81; refine (R_abs _ _ (by omega) (by omega)).mono ?_; rintro e w' ⟨rfl, rfl⟩) | (go_at_call 54; refine (R_round _ _ _ (by omega) (by omega) (by omega) (by omega)).mono ?_; rintro e w' ⟨rfl, rfl⟩))
  all_goals (go_ret; exact ⟨ret_int (by simp only [modeI, softI, absI, roundI, reduceIte, Int.reduceEq]; try omega), rfl⟩)

set_option maxHeartbeats 400000 in
theorem R_Blend15 (b s : Int) (w : World) :
    Calls Try.prog 61 #[.int .i64 15, .int .i64 b, .int .i64 s] w fun e w' => e = .returned (.int .i64 (blendI 15 b s)) ∧ w = w' := by
  have h1 := clampI_bd b
  have h2 := clampI_bd s
  have e1 : blendI 15 b s = modeI 15 (clampI b) (clampI s) := rfl
  rw [e1]; clear e1
  obtain ⟨x, hx⟩ : ∃ x, x = clampI b := ⟨_, rfl⟩
  obtain ⟨y, hy⟩ : ∃ y, y = clampI s := ⟨_, rfl⟩
  have Hx := Lib.hid hx
  have Hy := Lib.hid hy
  have c1 : ∀ wx, Calls Try.prog 60 #[.int .i64 b] wx fun e w' => e = .returned (.int .i64 x) ∧ wx = w' := fun wx => hx ▸ R_clamp b wx
  have c2 : ∀ wx, Calls Try.prog 60 #[.int .i64 s] wx fun e w' => e = .returned (.int .i64 y) ∧ wx = w' := fun wx => hy ▸ R_clamp s wx
  rw [← hx, ← hy]
  rw [← hx] at h1
  rw [← hy] at h2
  have C1 := Lib.hid c1
  have C2 := Lib.hid c2
  have m1 := mulI_bd x y
  have m5 : 0 ≤ absI (255 - x - y) ∧ absI (255 - x - y) ≤ 255 := by unfold absI; omega
  clear hx hy c1 c2
  go_enter Try.func61, Try.ntmps61
  go_wp2_with fail
  refine (C1.out _).mono ?_; rintro e w' ⟨rfl, rfl⟩
  go_wp2_with fail
  refine (C2.out _).mono ?_; rintro e w' ⟨rfl, rfl⟩
  go_wp2_with (first | (go_at_call 60; refine (R_clamp _ _).mono ?_; rintro e w' ⟨rfl, rfl⟩) | (go_at_call 52; refine (R_Mul _ _ _).mono ?_; rintro e w' ⟨rfl, rfl⟩) | (go_at_call 77; refine (R_scr _ _ _ (by omega) (by omega) (by omega) (by omega)).mono ?_; rintro e w' ⟨rfl, rfl⟩) | (go_at_call 78; refine (R_hard _ _ _ (by omega) (by omega) (by omega) (by omega)).mono ?_; rintro e w' ⟨rfl, rfl⟩) | (go_at_call 79; refine (R_dodge _ _ _ (by omega) (by omega) (by omega) (by omega)).mono ?_; rintro e w' ⟨rfl, rfl⟩) | (go_at_call 80; refine (R_burn _ _ _ (by omega) (by omega) (by omega) (by omega)).mono ?_; rintro e w' ⟨rfl, rfl⟩) | (go_at_call 81; refine (R_abs _ _ (by omega) (by omega)).mono ?_; rintro e w' ⟨rfl, rfl⟩) | (go_at_call 54; refine (R_round _ _ _ (by omega) (by omega) (by omega) (by omega)).mono ?_; rintro e w' ⟨rfl, rfl⟩))
  all_goals (go_ret; exact ⟨ret_int (by simp only [modeI, softI, absI, roundI, reduceIte, Int.reduceEq]; try omega), rfl⟩)

set_option maxHeartbeats 400000 in
theorem R_Blend_out (m b s : Int) (w : World) (n1 : (m == 1) = false) (n2 : (m == 2) = false) (n3 : (m == 3) = false) (n4 : (m == 4) = false) (n5 : (m == 5) = false) (n6 : (m == 6) = false) (n7 : (m == 7) = false) (n8 : (m == 8) = false) (n9 : (m == 9) = false) (n10 : (m == 10) = false) (n11 : (m == 11) = false) (n12 : (m == 12) = false) (n13 : (m == 13) = false) (n14 : (m == 14) = false) (n15 : (m == 15) = false) :
    Calls Try.prog 61 #[.int .i64 m, .int .i64 b, .int .i64 s] w fun e w' => e = .returned (.int .i64 (blendI m b s)) ∧ w = w' := by
  have e1 : blendI m b s = clampI s := by
    unfold blendI modeI
    simp only [beq_eq_false_iff_ne] at n1 n2 n3 n4 n5 n6 n7 n8 n9 n10 n11 n12 n13 n14 n15
    simp only [n1, n2, n3, n4, n5, n6, n7, n8, n9, n10, n11, n12, n13, n14, n15, if_false]
  rw [e1]; clear e1
  go_enter Try.func61, Try.ntmps61
  go_wp2_with (first | (go_at_call 60; refine (R_clamp _ _).mono ?_; rintro e w' ⟨rfl, rfl⟩) | (go_at_call 52; refine (R_Mul _ _ _).mono ?_; rintro e w' ⟨rfl, rfl⟩) | (go_at_call 77; refine (R_scr _ _ _ (by omega) (by omega) (by omega) (by omega)).mono ?_; rintro e w' ⟨rfl, rfl⟩) | (go_at_call 78; refine (R_hard _ _ _ (by omega) (by omega) (by omega) (by omega)).mono ?_; rintro e w' ⟨rfl, rfl⟩) | (go_at_call 79; refine (R_dodge _ _ _ (by omega) (by omega) (by omega) (by omega)).mono ?_; rintro e w' ⟨rfl, rfl⟩) | (go_at_call 80; refine (R_burn _ _ _ (by omega) (by omega) (by omega) (by omega)).mono ?_; rintro e w' ⟨rfl, rfl⟩) | (go_at_call 81; refine (R_abs _ _ (by omega) (by omega)).mono ?_; rintro e w' ⟨rfl, rfl⟩) | (go_at_call 54; refine (R_round _ _ _ (by omega) (by omega) (by omega) (by omega)).mono ?_; rintro e w' ⟨rfl, rfl⟩))
  go_ret
  exact ⟨rfl, rfl⟩

theorem R_Blend (m b s : Int) (w : World) :
    Calls Try.prog 61 #[.int .i64 m, .int .i64 b, .int .i64 s] w fun e w' => e = .returned (.int .i64 (blendI m b s)) ∧ w = w' := by
  by_cases h : 1 ≤ m ∧ m ≤ 15
  · have hc : m = 1 ∨ m = 2 ∨ m = 3 ∨ m = 4 ∨ m = 5 ∨ m = 6 ∨ m = 7 ∨ m = 8 ∨ m = 9 ∨ m = 10 ∨ m = 11 ∨ m = 12 ∨ m = 13 ∨ m = 14 ∨ m = 15 := by omega
    rcases hc with rfl | rfl | rfl | rfl | rfl | rfl | rfl | rfl | rfl | rfl | rfl | rfl | rfl | rfl | rfl
    · exact R_Blend1 b s w
    · exact R_Blend2 b s w
    · exact R_Blend3 b s w
    · exact R_Blend4 b s w
    · exact R_Blend5 b s w
    · exact R_Blend6 b s w
    · exact R_Blend7 b s w
    · exact R_Blend8 b s w
    · exact R_Blend9 b s w
    · exact R_Blend10 b s w
    · exact R_Blend11 b s w
    · exact R_Blend12 b s w
    · exact R_Blend13 b s w
    · exact R_Blend14 b s w
    · exact R_Blend15 b s w
  · apply R_Blend_out <;> (rw [beq_eq_false_iff_ne]; omega)

end Go.Proofs.Ytelfkakaaobfcaa
