/- Contracts of the arithmetic functions of package pixel and of its reference: each returns what the plain function of the same name says, and leaves the world alone. -/
import Derived.Test.YtelfkakaaobfcaaRows
import Derived.Test.YtelfkakaaobfcaaPa
import Derived.Test.YtelfkakaaobfcaaAa
namespace Go.Proofs.Ytelfkakaaobfcaa
open Go.RowKit Pl
set_option linter.unusedVariables false
set_option linter.unusedSimpArgs false

theorem ret_int {k : IntKind} {a b : Int} (h : a = b) : Ending.returned (.int k a) = .returned (.int k b) := by rw [h]

set_option maxHeartbeats 400000 in
theorem P_round (n d : Int) (w : World) (h0 : 0 ≤ n) (h1 : n ≤ 1000000000000000) (h2 : 1 ≤ d) (h3 : d ≤ 1000000000000000) :
    Calls Try.prog 46 #[.int .i64 n, .int .i64 d] w fun e w' => e = .returned (.int .i64 (roundI n d)) ∧ w = w' := by
  have h4 : ¬ (2 * d = 0) := by omega
  go_enter Try.func46, Try.ntmps46
  go_wp2
  go_ret
  exact ⟨rfl, rfl⟩

set_option maxHeartbeats 400000 in
theorem P_clamp (n : Int) (w : World) :
    Calls Try.prog 55 #[.int .i64 n] w fun e w' => e = .returned (.int .i64 (clampI n)) ∧ w = w' := by
  go_enter Try.func55, Try.ntmps55
  go_wp2
  all_goals (go_ret; exact ⟨ret_int (by unfold clampI; omega), rfl⟩)

set_option maxHeartbeats 400000 in
theorem P_Mul (a b : Int) (w : World) :
    Calls Try.prog 44 #[.int .i64 a, .int .i64 b] w fun e w' => e = .returned (.int .i64 (mulI a b)) ∧ w = w' := by
  have h1 := clampI_bd a
  have h2 := clampI_bd b
  have h3 := mul_bd h1.1 h1.2 h2.1 h2.2
  go_enter Try.func44, Try.ntmps44
  go_wp2_with (first | (go_at_call 55; refine (P_clamp _ _).mono ?_; rintro e w' ⟨rfl, rfl⟩) | (go_at_call 46; refine (P_round _ _ _ (by omega) (by omega) (by omega) (by omega)).mono ?_; rintro e w' ⟨rfl, rfl⟩))
  go_ret
  exact ⟨rfl, rfl⟩

set_option maxHeartbeats 400000 in
theorem R_round (n d : Int) (w : World) (h0 : 0 ≤ n) (h1 : n ≤ 1000000000000000) (h2 : 1 ≤ d) (h3 : d ≤ 1000000000000000) :
    Calls Try.prog 54 #[.int .i64 n, .int .i64 d] w fun e w' => e = .returned (.int .i64 (roundI n d)) ∧ w = w' := by
  have h4 : ¬ (2 * d = 0) := by omega
  go_enter Try.func54, Try.ntmps54
  go_wp2
  go_ret
  exact ⟨rfl, rfl⟩

set_option maxHeartbeats 400000 in
theorem R_clamp (n : Int) (w : World) :
    Calls Try.prog 60 #[.int .i64 n] w fun e w' => e = .returned (.int .i64 (clampI n)) ∧ w = w' := by
  go_enter Try.func60, Try.ntmps60
  go_wp2
  all_goals (go_ret; exact ⟨ret_int (by unfold clampI; omega), rfl⟩)

set_option maxHeartbeats 400000 in
theorem R_Mul (a b : Int) (w : World) :
    Calls Try.prog 52 #[.int .i64 a, .int .i64 b] w fun e w' => e = .returned (.int .i64 (mulI a b)) ∧ w = w' := by
  have h1 := clampI_bd a
  have h2 := clampI_bd b
  have h3 := mul_bd h1.1 h1.2 h2.1 h2.2
  go_enter Try.func52, Try.ntmps52
  go_wp2_with (first | (go_at_call 60; refine (R_clamp _ _).mono ?_; rintro e w' ⟨rfl, rfl⟩) | (go_at_call 54; refine (R_round _ _ _ (by omega) (by omega) (by omega) (by omega)).mono ?_; rintro e w' ⟨rfl, rfl⟩))
  go_ret
  exact ⟨rfl, rfl⟩

end Go.Proofs.Ytelfkakaaobfcaa
