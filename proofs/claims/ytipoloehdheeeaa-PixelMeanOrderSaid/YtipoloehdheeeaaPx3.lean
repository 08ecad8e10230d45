/- Contracts of 'functions' and 'Blend' of package pixel and of the reference's Blend. -/
import Derived.Test.YtipoloehdheeeaaPx2
import Derived.Handy
import Derived.Laws.EntriesVeiled
namespace Go.Proofs.Ytipoloehdheeeaa
open Go.RowKit Pl
set_option linter.unusedVariables false
set_option linter.unusedSimpArgs false

/-- What 'functions' hands back: the function values, the sixteenth one holding a pointer to the closure 'distance'. -/
def fnsV (b : Nat) : Value := .agg #[.func (.func 52) #[] #[], .func (.func 16) #[] #[], .func (.func 53) #[] #[], .func (.func 54) #[] #[],
  .func (.func 56) #[] #[], .func (.func 57) #[] #[], .func (.func 58) #[] #[], .func (.func 59) #[] #[],
  .func (.func 55) #[] #[], .func (.func 60) #[] #[], .func (.func 51) #[] #[], .func (.func 61) #[] #[],
  .func (.func 62) #[] #[], .func (.func 63) #[] #[], .func (.func 64) #[] #[], .func (.func 65) #[] #[.pointer (some ⟨b, 0, none⟩)]]

set_option maxHeartbeats 400000 in
theorem P_functions (w : World) :
    Calls Try.prog 34 #[] w fun e w' => e = .returned (fnsV (w.heap.size + 1)) ∧ w'.cell? ⟨w.heap.size + 1, 0, none⟩ = some (.func (.func 51) #[] #[]) ∧ Below w.heap.size w w' := by
  go_enter Try.func34, Try.ntmps34
  go_wp2
  go_returns
  exact ⟨rfl, by simp [go_sem], by go_grown⟩

end Go.Proofs.Ytipoloehdheeeaa
