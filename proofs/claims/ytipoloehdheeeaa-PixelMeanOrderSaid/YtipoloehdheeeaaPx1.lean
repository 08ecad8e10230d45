/- Contracts of the arithmetic functions of package pixel and of its reference: each returns what the plain function of the same name says, and leaves the world alone. -/
import Derived.Test.YtipoloehdheeeaaRows
import Derived.Test.YtipoloehdheeeaaPa
import Derived.Test.YtipoloehdheeeaaAa
namespace Go.Proofs.Ytipoloehdheeeaa
open Go.RowKit Pl
set_option linter.unusedVariables false
set_option linter.unusedSimpArgs false

theorem ret_int {k : IntKind} {a b : Int} (h : a = b) : Ending.returned (.int k a) = .returned (.int k b) := by rw [h]

set_option maxHeartbeats 400000 in
theorem P_round (n d : Int) (w : World) (h0 : 0 ≤ n) (h1 : n ≤ 1000000000000000) (h2 : 1 ≤ d) (h3 : d ≤ 1000000000000000) :
    Calls Try.prog 43 #[.int .i64 n, .int .i64 d] w fun e w' => e = .returned (.int .i64 (roundI n d)) ∧ w = w' := by
  have h4 : ¬ (2 * d = 0) := by omega
  go_enter Try.func43, Try.ntmps43
  go_wp2
  go_ret
  exact ⟨rfl, rfl⟩

set_option maxHeartbeats 400000 in
theorem P_clamp (n : Int) (w : World) :
    Calls Try.prog 35 #[.int .i64 n] w fun e w' => e = .returned (.int .i64 (clampI n)) ∧ w = w' := by
  go_enter Try.func35, Try.ntmps35
  go_wp2
  all_goals (go_ret; exact ⟨ret_int (by unfold clampI; omega), rfl⟩)

set_option maxHeartbeats 400000 in
theorem P_Mul (a b : Int) (w : World) :
    Calls Try.prog 16 #[.int .i64 a, .int .i64 b] w fun e w' => e = .returned (.int .i64 (mulI a b)) ∧ w = w' := by
  have h1 := clampI_bd a
  have h2 := clampI_bd b
  have h3 := mul_bd h1.1 h1.2 h2.1 h2.2
  go_enter Try.func16, Try.ntmps16
  go_wp2_with (first | (go_at_call 35; refine (P_clamp _ _).mono ?_; rintro e w' ⟨rfl, rfl⟩) | (go_at_call 43; refine (P_round _ _ _ (by omega) (by omega) (by omega) (by omega)).mono ?_; rintro e w' ⟨rfl, rfl⟩))
  go_ret
  exact ⟨rfl, rfl⟩

set_option maxHeartbeats 400000 in
theorem R_round (n d : Int) (w : World) (h0 : 0 ≤ n) (h1 : n ≤ 1000000000000000) (h2 : 1 ≤ d) (h3 : d ≤ 1000000000000000) :
    Calls Try.prog 42 #[.int .i64 n, .int .i64 d] w fun e w' => e = .returned (.int .i64 (roundI n d)) ∧ w = w' := by
  have h4 : ¬ (2 * d = 0) := by omega
  go_enter Try.func42, Try.ntmps42
  go_wp2
  go_ret
  exact ⟨rfl, rfl⟩

set_option maxHeartbeats 400000 in
theorem R_clamp (n : Int) (w : World) :
    Calls Try.prog 36 #[.int .i64 n] w fun e w' => e = .returned (.int .i64 (clampI n)) ∧ w = w' := by
  go_enter Try.func36, Try.ntmps36
  go_wp2
  all_goals (go_ret; exact ⟨ret_int (by unfold clampI; omega), rfl⟩)

set_option maxHeartbeats 400000 in
theorem R_Mul (a b : Int) (w : World) :
    Calls Try.prog 17 #[.int .i64 a, .int .i64 b] w fun e w' => e = .returned (.int .i64 (mulI a b)) ∧ w = w' := by
  have h1 := clampI_bd a
  have h2 := clampI_bd b
  have h3 := mul_bd h1.1 h1.2 h2.1 h2.2
  go_enter Try.func17, Try.ntmps17
  go_wp2_with (first | (go_at_call 36; refine (R_clamp _ _).mono ?_; rintro e w' ⟨rfl, rfl⟩) | (go_at_call 42; refine (R_round _ _ _ (by omega) (by omega) (by omega) (by omega)).mono ?_; rintro e w' ⟨rfl, rfl⟩))
  go_ret
  exact ⟨rfl, rfl⟩

end Go.Proofs.Ytipoloehdheeeaa
