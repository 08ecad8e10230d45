/- Contracts of the blend functions of package pixel (each closure and function of 'functions') and of the reference's: each returns what the plain function says, and leaves the world alone. -/
import Derived.Test.YtelfkakaaobfcaaPx1
namespace Go.Proofs.Ytelfkakaaobfcaa
open Go.RowKit Pl
set_option linter.unusedVariables false
set_option linter.unusedSimpArgs false

set_option maxHeartbeats 400000 in
theorem P_scr (b s : Int) (w : World) (hb0 : 0 ≤ b) (hb1 : b ≤ 255) (hs0 : 0 ≤ s) (hs1 : s ≤ 255) :
    Calls Try.prog 64 #[.int .i64 b, .int .i64 s] w fun e w' => e = .returned (.int .i64 (scrI b s)) ∧ w = w' := by
  have m1 := mulI_bd b s
  go_enter Try.func64, Try.ntmps64
  go_wp2_with (first | (go_at_call 44; refine (P_Mul _ _ _).mono ?_; rintro e w' ⟨rfl, rfl⟩))
  go_ret
  exact ⟨rfl, rfl⟩
set_option maxHeartbeats 400000 in
theorem R_scr (b s : Int) (w : World) (hb0 : 0 ≤ b) (hb1 : b ≤ 255) (hs0 : 0 ≤ s) (hs1 : s ≤ 255) :
    Calls Try.prog 77 #[.int .i64 b, .int .i64 s] w fun e w' => e = .returned (.int .i64 (scrI b s)) ∧ w = w' := by
  have m1 := mulI_bd b s
  go_enter Try.func77, Try.ntmps77
  go_wp2_with (first | (go_at_call 52; refine (R_Mul _ _ _).mono ?_; rintro e w' ⟨rfl, rfl⟩))
  go_ret
  exact ⟨rfl, rfl⟩
set_option maxHeartbeats 400000 in
theorem P_hard (b s : Int) (w : World) (hb0 : 0 ≤ b) (hb1 : b ≤ 255) (hs0 : 0 ≤ s) (hs1 : s ≤ 255) :
    Calls Try.prog 66 #[.int .i64 b, .int .i64 s] w fun e w' => e = .returned (.int .i64 (hardI b s)) ∧ w = w' := by
  by_cases h : s < 128
  · have e1 : hardI b s = mulI b (2 * s) := if_pos h
    rw [e1]; clear e1
    go_enter Try.func66, Try.ntmps66
    go_wp2_with (first | (go_at_call 44; refine (P_Mul _ _ _).mono ?_; rintro e w' ⟨rfl, rfl⟩) | (go_at_call 64; refine (P_scr _ _ _ (by omega) (by omega) (by omega) (by omega)).mono ?_; rintro e w' ⟨rfl, rfl⟩))
    go_ret
    exact ⟨rfl, rfl⟩
  · have e1 : hardI b s = scrI b (2 * s - 255) := if_neg h
    rw [e1]; clear e1
    go_enter Try.func66, Try.ntmps66
    go_wp2_with (first | (go_at_call 44; refine (P_Mul _ _ _).mono ?_; rintro e w' ⟨rfl, rfl⟩) | (go_at_call 64; refine (P_scr _ _ _ (by omega) (by omega) (by omega) (by omega)).mono ?_; rintro e w' ⟨rfl, rfl⟩))
    go_ret
    exact ⟨rfl, rfl⟩
set_option maxHeartbeats 400000 in
theorem R_hard (b s : Int) (w : World) (hb0 : 0 ≤ b) (hb1 : b ≤ 255) (hs0 : 0 ≤ s) (hs1 : s ≤ 255) :
    Calls Try.prog 78 #[.int .i64 b, .int .i64 s] w fun e w' => e = .returned (.int .i64 (hardI b s)) ∧ w = w' := by
  by_cases h : s < 128
  · have e1 : hardI b s = mulI b (2 * s) := if_pos h
    rw [e1]; clear e1
    go_enter Try.func78, Try.ntmps78
    go_wp2_with (first | (go_at_call 52; refine (R_Mul _ _ _).mono ?_; rintro e w' ⟨rfl, rfl⟩) | (go_at_call 77; refine (R_scr _ _ _ (by omega) (by omega) (by omega) (by omega)).mono ?_; rintro e w' ⟨rfl, rfl⟩))
    go_ret
    exact ⟨rfl, rfl⟩
  · have e1 : hardI b s = scrI b (2 * s - 255) := if_neg h
    rw [e1]; clear e1
    go_enter Try.func78, Try.ntmps78
    go_wp2_with (first | (go_at_call 52; refine (R_Mul _ _ _).mono ?_; rintro e w' ⟨rfl, rfl⟩) | (go_at_call 77; refine (R_scr _ _ _ (by omega) (by omega) (by omega) (by omega)).mono ?_; rintro e w' ⟨rfl, rfl⟩))
    go_ret
    exact ⟨rfl, rfl⟩
set_option maxHeartbeats 400000 in
theorem P_dodge (b s : Int) (w : World) (hb0 : 0 ≤ b) (hb1 : b ≤ 255) (hs0 : 0 ≤ s) (hs1 : s ≤ 255) :
    Calls Try.prog 69 #[.int .i64 b, .int .i64 s] w fun e w' => e = .returned (.int .i64 (dodgeI b s)) ∧ w = w' := by
  by_cases h : b = 0
  · subst h
    go_enter Try.func69, Try.ntmps69
    go_wp2
    go_ret
    exact ⟨rfl, rfl⟩
  · have h' : (b == 0) = false := by simpa using h
    by_cases k : s = 255
    · subst k
      have e1 : dodgeI b 255 = 255 := by unfold dodgeI; rw [if_neg h]; rfl
      rw [e1]; clear e1 h
      go_enter Try.func69, Try.ntmps69
      go_wp2
      go_ret
      exact ⟨rfl, rfl⟩
    · have k' : (s == 255) = false := by simpa using k
      have e1 : dodgeI b s = min 255 (255 * b / (255 - s)) := by unfold dodgeI; rw [if_neg h, if_neg k]
      have k2 : ¬ (255 - s = 0) := by omega
      have k3 : 0 ≤ 255 * b / (255 - s) ∧ 255 * b / (255 - s) ≤ 65025 := ⟨Int.ediv_nonneg (by omega) (by omega), Int.le_trans (Int.ediv_le_self _ (by omega)) (by omega)⟩
      rw [e1]; clear e1 h k
      go_enter Try.func69, Try.ntmps69
      go_wp2
      all_goals (go_ret; exact ⟨ret_int (by omega), rfl⟩)
set_option maxHeartbeats 400000 in
theorem R_dodge (b s : Int) (w : World) (hb0 : 0 ≤ b) (hb1 : b ≤ 255) (hs0 : 0 ≤ s) (hs1 : s ≤ 255) :
    Calls Try.prog 79 #[.int .i64 b, .int .i64 s] w fun e w' => e = .returned (.int .i64 (dodgeI b s)) ∧ w = w' := by
  by_cases h : b = 0
  · subst h
    go_enter Try.func79, Try.ntmps79
    go_wp2
    go_ret
    exact ⟨rfl, rfl⟩
  · have h' : (b == 0) = false := by simpa using h
    by_cases k : s = 255
    · subst k
      have e1 : dodgeI b 255 = 255 := by unfold dodgeI; rw [if_neg h]; rfl
      rw [e1]; clear e1 h
      go_enter Try.func79, Try.ntmps79
      go_wp2
      go_ret
      exact ⟨rfl, rfl⟩
    · have k' : (s == 255) = false := by simpa using k
      have e1 : dodgeI b s = min 255 (255 * b / (255 - s)) := by unfold dodgeI; rw [if_neg h, if_neg k]
      have k2 : ¬ (255 - s = 0) := by omega
      have k3 : 0 ≤ 255 * b / (255 - s) ∧ 255 * b / (255 - s) ≤ 65025 := ⟨Int.ediv_nonneg (by omega) (by omega), Int.le_trans (Int.ediv_le_self _ (by omega)) (by omega)⟩
      rw [e1]; clear e1 h k
      go_enter Try.func79, Try.ntmps79
      go_wp2
      all_goals (go_ret; exact ⟨ret_int (by omega), rfl⟩)
set_option maxHeartbeats 400000 in
theorem P_burn (b s : Int) (w : World) (hb0 : 0 ≤ b) (hb1 : b ≤ 255) (hs0 : 0 ≤ s) (hs1 : s ≤ 255) :
    Calls Try.prog 70 #[.int .i64 b, .int .i64 s] w fun e w' => e = .returned (.int .i64 (burnI b s)) ∧ w = w' := by
  by_cases h : b = 255
  · subst h
    go_enter Try.func70, Try.ntmps70
    go_wp2
    go_ret
    exact ⟨rfl, rfl⟩
  · have h' : (b == 255) = false := by simpa using h
    by_cases k : s = 0
    · subst k
      have e1 : burnI b 0 = 0 := by unfold burnI; rw [if_neg h]; rfl
      rw [e1]; clear e1 h
      go_enter Try.func70, Try.ntmps70
      go_wp2
      go_ret
      exact ⟨rfl, rfl⟩
    · have k' : (s == 0) = false := by simpa using k
      have e1 : burnI b s = 255 - min 255 (255 * (255 - b) / s) := by unfold burnI; rw [if_neg h, if_neg k]
      have k3 : 0 ≤ 255 * (255 - b) / s ∧ 255 * (255 - b) / s ≤ 65025 := ⟨Int.ediv_nonneg (by omega) (by omega), Int.le_trans (Int.ediv_le_self _ (by omega)) (by omega)⟩
      rw [e1]; clear e1 h
      go_enter Try.func70, Try.ntmps70
      go_wp2
      all_goals (go_ret; exact ⟨ret_int (by omega), rfl⟩)
set_option maxHeartbeats 400000 in
theorem R_burn (b s : Int) (w : World) (hb0 : 0 ≤ b) (hb1 : b ≤ 255) (hs0 : 0 ≤ s) (hs1 : s ≤ 255) :
    Calls Try.prog 80 #[.int .i64 b, .int .i64 s] w fun e w' => e = .returned (.int .i64 (burnI b s)) ∧ w = w' := by
  by_cases h : b = 255
  · subst h
    go_enter Try.func80, Try.ntmps80
    go_wp2
    go_ret
    exact ⟨rfl, rfl⟩
  · have h' : (b == 255) = false := by simpa using h
    by_cases k : s = 0
    · subst k
      have e1 : burnI b 0 = 0 := by unfold burnI; rw [if_neg h]; rfl
      rw [e1]; clear e1 h
      go_enter Try.func80, Try.ntmps80
      go_wp2
      go_ret
      exact ⟨rfl, rfl⟩
    · have k' : (s == 0) = false := by simpa using k
      have e1 : burnI b s = 255 - min 255 (255 * (255 - b) / s) := by unfold burnI; rw [if_neg h, if_neg k]
      have k3 : 0 ≤ 255 * (255 - b) / s ∧ 255 * (255 - b) / s ≤ 65025 := ⟨Int.ediv_nonneg (by omega) (by omega), Int.le_trans (Int.ediv_le_self _ (by omega)) (by omega)⟩
      rw [e1]; clear e1 h
      go_enter Try.func80, Try.ntmps80
      go_wp2
      all_goals (go_ret; exact ⟨ret_int (by omega), rfl⟩)

set_option maxHeartbeats 400000 in
theorem P_dist (b s : Int) (w : World) (hb0 : -255 ≤ b) (hb1 : b ≤ 255) (hs0 : -255 ≤ s) (hs1 : s ≤ 255) :
    Calls Try.prog 62 #[.int .i64 b, .int .i64 s] w fun e w' => e = .returned (.int .i64 (max (b - s) (s - b))) ∧ w = w' := by
  go_enter Try.func62, Try.ntmps62
  go_wp2
  all_goals (go_ret; exact ⟨ret_int (by omega), rfl⟩)

set_option maxHeartbeats 400000 in
theorem R_abs (x : Int) (w : World) (hb0 : -1000 ≤ x) (hb1 : x ≤ 1000) :
    Calls Try.prog 81 #[.int .i64 x] w fun e w' => e = .returned (.int .i64 (absI x)) ∧ w = w' := by
  go_enter Try.func81, Try.ntmps81
  go_wp2
  all_goals (go_ret; exact ⟨ret_int (by unfold absI; omega), rfl⟩)

set_option maxHeartbeats 400000 in
theorem P_mode0 (b s : Int) (w : World) (hb0 : 0 ≤ b) (hb1 : b ≤ 255) (hs0 : 0 ≤ s) (hs1 : s ≤ 255) :
    Calls Try.prog 63 #[.int .i64 b, .int .i64 s] w fun e w' => e = .returned (.int .i64 (s)) ∧ w = w' := by
  go_enter Try.func63, Try.ntmps63
  go_wp2_with (first | (go_at_call 44; refine (P_Mul _ _ _).mono ?_; rintro e w' ⟨rfl, rfl⟩) | (go_at_call 64; refine (P_scr _ _ _ (by omega) (by omega) (by omega) (by omega)).mono ?_; rintro e w' ⟨rfl, rfl⟩) | (go_at_call 66; refine (P_hard _ _ _ (by omega) (by omega) (by omega) (by omega)).mono ?_; rintro e w' ⟨rfl, rfl⟩))
  all_goals (go_ret; exact ⟨ret_int (by omega), rfl⟩)
set_option maxHeartbeats 400000 in
theorem P_mode3 (b s : Int) (w : World) (hb0 : 0 ≤ b) (hb1 : b ≤ 255) (hs0 : 0 ≤ s) (hs1 : s ≤ 255) :
    Calls Try.prog 65 #[.int .i64 b, .int .i64 s] w fun e w' => e = .returned (.int .i64 (hardI s b)) ∧ w = w' := by
  go_enter Try.func65, Try.ntmps65
  go_wp2_with (first | (go_at_call 44; refine (P_Mul _ _ _).mono ?_; rintro e w' ⟨rfl, rfl⟩) | (go_at_call 64; refine (P_scr _ _ _ (by omega) (by omega) (by omega) (by omega)).mono ?_; rintro e w' ⟨rfl, rfl⟩) | (go_at_call 66; refine (P_hard _ _ _ (by omega) (by omega) (by omega) (by omega)).mono ?_; rintro e w' ⟨rfl, rfl⟩))
  all_goals (go_ret; exact ⟨ret_int (by omega), rfl⟩)
set_option maxHeartbeats 400000 in
theorem P_mode4 (b s : Int) (w : World) (hb0 : 0 ≤ b) (hb1 : b ≤ 255) (hs0 : 0 ≤ s) (hs1 : s ≤ 255) :
    Calls Try.prog 67 #[.int .i64 b, .int .i64 s] w fun e w' => e = .returned (.int .i64 (min b s)) ∧ w = w' := by
  go_enter Try.func67, Try.ntmps67
  go_wp2_with (first | (go_at_call 44; refine (P_Mul _ _ _).mono ?_; rintro e w' ⟨rfl, rfl⟩) | (go_at_call 64; refine (P_scr _ _ _ (by omega) (by omega) (by omega) (by omega)).mono ?_; rintro e w' ⟨rfl, rfl⟩) | (go_at_call 66; refine (P_hard _ _ _ (by omega) (by omega) (by omega) (by omega)).mono ?_; rintro e w' ⟨rfl, rfl⟩))
  all_goals (go_ret; exact ⟨ret_int (by omega), rfl⟩)
set_option maxHeartbeats 400000 in
theorem P_mode5 (b s : Int) (w : World) (hb0 : 0 ≤ b) (hb1 : b ≤ 255) (hs0 : 0 ≤ s) (hs1 : s ≤ 255) :
    Calls Try.prog 68 #[.int .i64 b, .int .i64 s] w fun e w' => e = .returned (.int .i64 (max b s)) ∧ w = w' := by
  go_enter Try.func68, Try.ntmps68
  go_wp2_with (first | (go_at_call 44; refine (P_Mul _ _ _).mono ?_; rintro e w' ⟨rfl, rfl⟩) | (go_at_call 64; refine (P_scr _ _ _ (by omega) (by omega) (by omega) (by omega)).mono ?_; rintro e w' ⟨rfl, rfl⟩) | (go_at_call 66; refine (P_hard _ _ _ (by omega) (by omega) (by omega) (by omega)).mono ?_; rintro e w' ⟨rfl, rfl⟩))
  all_goals (go_ret; exact ⟨ret_int (by omega), rfl⟩)
set_option maxHeartbeats 400000 in
theorem P_mode9 (b s : Int) (w : World) (hb0 : 0 ≤ b) (hb1 : b ≤ 255) (hs0 : 0 ≤ s) (hs1 : s ≤ 255) :
    Calls Try.prog 71 #[.int .i64 b, .int .i64 s] w fun e w' => e = .returned (.int .i64 (softI b s)) ∧ w = w' := by
  have m2 := mulI_bd (255 - b) (mulI b s)
  have m3 := scrI_bd hb0 hb1 hs0 hs1
  have m4 := mulI_bd b (scrI b s)
  go_enter Try.func71, Try.ntmps71
  go_wp2_with (first | (go_at_call 44; refine (P_Mul _ _ _).mono ?_; rintro e w' ⟨rfl, rfl⟩) | (go_at_call 64; refine (P_scr _ _ _ (by omega) (by omega) (by omega) (by omega)).mono ?_; rintro e w' ⟨rfl, rfl⟩) | (go_at_call 66; refine (P_hard _ _ _ (by omega) (by omega) (by omega) (by omega)).mono ?_; rintro e w' ⟨rfl, rfl⟩))
  all_goals (go_ret; exact ⟨ret_int (by unfold softI; omega), rfl⟩)
set_option maxHeartbeats 400000 in
theorem P_mode11 (b s : Int) (w : World) (hb0 : 0 ≤ b) (hb1 : b ≤ 255) (hs0 : 0 ≤ s) (hs1 : s ≤ 255) :
    Calls Try.prog 72 #[.int .i64 b, .int .i64 s] w fun e w' => e = .returned (.int .i64 (max 0 (b + s - 2 * mulI b s))) ∧ w = w' := by
  have m2 := mulI_bd b s
  go_enter Try.func72, Try.ntmps72
  go_wp2_with (first | (go_at_call 44; refine (P_Mul _ _ _).mono ?_; rintro e w' ⟨rfl, rfl⟩) | (go_at_call 64; refine (P_scr _ _ _ (by omega) (by omega) (by omega) (by omega)).mono ?_; rintro e w' ⟨rfl, rfl⟩) | (go_at_call 66; refine (P_hard _ _ _ (by omega) (by omega) (by omega) (by omega)).mono ?_; rintro e w' ⟨rfl, rfl⟩))
  all_goals (go_ret; exact ⟨ret_int (by omega), rfl⟩)
set_option maxHeartbeats 400000 in
theorem P_mode12 (b s : Int) (w : World) (hb0 : 0 ≤ b) (hb1 : b ≤ 255) (hs0 : 0 ≤ s) (hs1 : s ≤ 255) :
    Calls Try.prog 73 #[.int .i64 b, .int .i64 s] w fun e w' => e = .returned (.int .i64 (min 255 (b + s))) ∧ w = w' := by
  go_enter Try.func73, Try.ntmps73
  go_wp2_with (first | (go_at_call 44; refine (P_Mul _ _ _).mono ?_; rintro e w' ⟨rfl, rfl⟩) | (go_at_call 64; refine (P_scr _ _ _ (by omega) (by omega) (by omega) (by omega)).mono ?_; rintro e w' ⟨rfl, rfl⟩) | (go_at_call 66; refine (P_hard _ _ _ (by omega) (by omega) (by omega) (by omega)).mono ?_; rintro e w' ⟨rfl, rfl⟩))
  all_goals (go_ret; exact ⟨ret_int (by omega), rfl⟩)
set_option maxHeartbeats 400000 in
theorem P_mode13 (b s : Int) (w : World) (hb0 : 0 ≤ b) (hb1 : b ≤ 255) (hs0 : 0 ≤ s) (hs1 : s ≤ 255) :
    Calls Try.prog 74 #[.int .i64 b, .int .i64 s] w fun e w' => e = .returned (.int .i64 (max 0 (b - s))) ∧ w = w' := by
  go_enter Try.func74, Try.ntmps74
  go_wp2_with (first | (go_at_call 44; refine (P_Mul _ _ _).mono ?_; rintro e w' ⟨rfl, rfl⟩) | (go_at_call 64; refine (P_scr _ _ _ (by omega) (by omega) (by omega) (by omega)).mono ?_; rintro e w' ⟨rfl, rfl⟩) | (go_at_call 66; refine (P_hard _ _ _ (by omega) (by omega) (by omega) (by omega)).mono ?_; rintro e w' ⟨rfl, rfl⟩))
  all_goals (go_ret; exact ⟨ret_int (by omega), rfl⟩)
set_option maxHeartbeats 400000 in
theorem P_mode14 (b s : Int) (w : World) (hb0 : 0 ≤ b) (hb1 : b ≤ 255) (hs0 : 0 ≤ s) (hs1 : s ≤ 255) :
    Calls Try.prog 75 #[.int .i64 b, .int .i64 s] w fun e w' => e = .returned (.int .i64 ((b + s + 1) / 2)) ∧ w = w' := by
  go_enter Try.func75, Try.ntmps75
  go_wp2_with (first | (go_at_call 44; refine (P_Mul _ _ _).mono ?_; rintro e w' ⟨rfl, rfl⟩) | (go_at_call 64; refine (P_scr _ _ _ (by omega) (by omega) (by omega) (by omega)).mono ?_; rintro e w' ⟨rfl, rfl⟩) | (go_at_call 66; refine (P_hard _ _ _ (by omega) (by omega) (by omega) (by omega)).mono ?_; rintro e w' ⟨rfl, rfl⟩))
  all_goals (go_ret; exact ⟨ret_int (by omega), rfl⟩)

set_option maxHeartbeats 400000 in
theorem P_mode15 (b s : Int) (a : Addr) (w : World) (hb0 : 0 ≤ b) (hb1 : b ≤ 255) (hs0 : 0 ≤ s) (hs1 : s ≤ 255) (hc : w.cell? a = some (.func (.func 62) #[] #[])) :
    Calls Try.prog 76 #[.int .i64 b, .int .i64 s, .pointer (some a)] w fun e w' => e = .returned (.int .i64 (255 - max (255 - b - s) (s - (255 - b)))) ∧ w = w' := by
  go_enter Try.func76, Try.ntmps76
  go_wp2_with (first | (go_at_call 62; refine (P_dist _ _ _ (by omega) (by omega) (by omega) (by omega)).mono ?_; rintro e w' ⟨rfl, rfl⟩))
  all_goals (go_ret; exact ⟨ret_int (by omega), rfl⟩)

end Go.Proofs.Ytelfkakaaobfcaa
