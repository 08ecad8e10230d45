/- Contracts of 'functions' and 'Blend' of package pixel and of the reference's Blend. -/
import Derived.Test.YtelfkakaaobfcaaPx2
import Derived.Handy
import Derived.Laws.EntriesVeiled
namespace Go.Proofs.Ytelfkakaaobfcaa
open Go.RowKit Pl
set_option linter.unusedVariables false
set_option linter.unusedSimpArgs false

/-- What 'functions' hands back: the function values, the sixteenth one holding a pointer to the closure 'distance'. -/
def fnsV (b : Nat) : Value := .agg #[.func (.func 63) #[] #[], .func (.func 44) #[] #[], .func (.func 64) #[] #[], .func (.func 65) #[] #[],
  .func (.func 67) #[] #[], .func (.func 68) #[] #[], .func (.func 69) #[] #[], .func (.func 70) #[] #[],
  .func (.func 66) #[] #[], .func (.func 71) #[] #[], .func (.func 62) #[] #[], .func (.func 72) #[] #[],
  .func (.func 73) #[] #[], .func (.func 74) #[] #[], .func (.func 75) #[] #[], .func (.func 76) #[] #[.pointer (some ⟨b, 0, none⟩)]]

set_option maxHeartbeats 400000 in
theorem P_functions (w : World) :
    Calls Try.prog 57 #[] w fun e w' => e = .returned (fnsV (w.heap.size + 1)) ∧ w'.cell? ⟨w.heap.size + 1, 0, none⟩ = some (.func (.func 62) #[] #[]) ∧ Below w.heap.size w w' := by
  go_enter Try.func57, Try.ntmps57
  go_wp2
  go_returns
  exact ⟨rfl, by simp [go_sem], by go_grown⟩

end Go.Proofs.Ytelfkakaaobfcaa
