/- Contracts of names, Name and Mode, of package pixel and of the reference. -/
import Derived.Test.YtipoloehdheeeaaRows
import Derived.Test.YtipoloehdheeeaaAb
namespace Go.Proofs.Ytipoloehdheeeaa
open Go.RowKit
set_option linter.unusedVariables false
set_option linter.unusedSimpArgs false

/-- The name of mode number k. -/
def nm : Nat → ByteArray
  | 0 => ⟨#[110, 111, 114, 109, 97, 108]⟩
  | 1 => ⟨#[109, 117, 108, 116, 105, 112, 108, 121]⟩
  | 2 => ⟨#[115, 99, 114, 101, 101, 110]⟩
  | 3 => ⟨#[111, 118, 101, 114, 108, 97, 121]⟩
  | 4 => ⟨#[100, 97, 114, 107, 101, 110]⟩
  | 5 => ⟨#[108, 105, 103, 104, 116, 101, 110]⟩
  | 6 => ⟨#[100, 111, 100, 103, 101]⟩
  | 7 => ⟨#[98, 117, 114, 110]⟩
  | 8 => ⟨#[104, 97, 114, 100, 108, 105, 103, 104, 116]⟩
  | 9 => ⟨#[115, 111, 102, 116, 108, 105, 103, 104, 116]⟩
  | 10 => ⟨#[100, 105, 102, 102, 101, 114, 101, 110, 99, 101]⟩
  | 11 => ⟨#[101, 120, 99, 108, 117, 115, 105, 111, 110]⟩
  | 12 => ⟨#[97, 100, 100]⟩
  | 13 => ⟨#[115, 117, 98, 116, 114, 97, 99, 116]⟩
  | 14 => ⟨#[97, 118, 101, 114, 97, 103, 101]⟩
  | 15 => ⟨#[110, 101, 103, 97, 116, 105, 111, 110]⟩
  | _ => ⟨#[]⟩
def namesV : Value := .agg #[.string ⟨#[110, 111, 114, 109, 97, 108]⟩, .string ⟨#[109, 117, 108, 116, 105, 112, 108, 121]⟩, .string ⟨#[115, 99, 114, 101, 101, 110]⟩, .string ⟨#[111, 118, 101, 114, 108, 97, 121]⟩, .string ⟨#[100, 97, 114, 107, 101, 110]⟩, .string ⟨#[108, 105, 103, 104, 116, 101, 110]⟩, .string ⟨#[100, 111, 100, 103, 101]⟩, .string ⟨#[98, 117, 114, 110]⟩, .string ⟨#[104, 97, 114, 100, 108, 105, 103, 104, 116]⟩, .string ⟨#[115, 111, 102, 116, 108, 105, 103, 104, 116]⟩, .string ⟨#[100, 105, 102, 102, 101, 114, 101, 110, 99, 101]⟩, .string ⟨#[101, 120, 99, 108, 117, 115, 105, 111, 110]⟩, .string ⟨#[97, 100, 100]⟩, .string ⟨#[115, 117, 98, 116, 114, 97, 99, 116]⟩, .string ⟨#[97, 118, 101, 114, 97, 103, 101]⟩, .string ⟨#[110, 101, 103, 97, 116, 105, 111, 110]⟩]
theorem names_index (k : Nat) (hk : k < 16) : ∀ w : World, (Instr.index 64 namesV (.int .i64 k)).run Try.prog w = .ok (.string (nm k)) w := by
  have h : k = 0 ∨ k = 1 ∨ k = 2 ∨ k = 3 ∨ k = 4 ∨ k = 5 ∨ k = 6 ∨ k = 7 ∨ k = 8 ∨ k = 9 ∨ k = 10 ∨ k = 11 ∨ k = 12 ∨ k = 13 ∨ k = 14 ∨ k = 15 := by omega
  rcases h with rfl | rfl | rfl | rfl | rfl | rfl | rfl | rfl | rfl | rfl | rfl | rfl | rfl | rfl | rfl | rfl <;> intro w <;> kernel_rfl

set_option maxHeartbeats 1000000 in
theorem P_names (w : World) : Calls Try.prog 48 #[] w fun e w' => e = .returned namesV ∧ Below w.heap.size w w' := by
  go_enter Try.func48, Try.ntmps48
  go_wp2
  go_returns
  refine ⟨rfl, ?_⟩
  repeat' (first | (with_reducible exact Below.refl _ _) | (with_reducible assumption) | (with_reducible refine Below.setCell ?_ (by dsimp only; omega) _) | (with_reducible refine Below.alloc ?_ (by first | omega | (simp only [World.size_alloc, World.size_setCell, World.size_drew]; omega)) _) | (with_reducible refine Below.drew ?_))
set_option maxHeartbeats 1000000 in
theorem R_names (w : World) : Calls Try.prog 49 #[] w fun e w' => e = .returned namesV ∧ Below w.heap.size w w' := by
  go_enter Try.func49, Try.ntmps49
  go_wp2
  go_returns
  refine ⟨rfl, ?_⟩
  repeat' (first | (with_reducible exact Below.refl _ _) | (with_reducible assumption) | (with_reducible refine Below.setCell ?_ (by dsimp only; omega) _) | (with_reducible refine Below.alloc ?_ (by first | omega | (simp only [World.size_alloc, World.size_setCell, World.size_drew]; omega)) _) | (with_reducible refine Below.drew ?_))

/-- 'Name' -/
def nameI (m : Int) : ByteArray := if 0 ≤ m ∧ m < 16 then nm m.toNat else ⟨#[]⟩
set_option maxHeartbeats 1000000 in
theorem P_Name (m : Int) (w : World) : Calls Try.prog 27 #[.int .i64 m] w fun e w' => e = .returned (.string (nameI m)) ∧ Below w.heap.size w w' := by
  by_cases h : 0 ≤ m ∧ m < 16
  · obtain ⟨k, rfl⟩ := Int.eq_ofNat_of_zero_le h.1
    have e1 : nameI (k : Int) = nm k := by unfold nameI; rw [if_pos h, Int.toNat_natCast]
    have hix := names_index k (by omega)
    rw [e1]; clear e1
    have n1 : ¬ ((k : Int) < 0) := by omega
    have n2 : ¬ (16 ≤ (k : Int)) := by omega
    go_enter Try.func27, Try.ntmps27
    go_wp2_with fail
    refine (P_names _).mono ?_
    rintro e w1 ⟨rfl, hb1⟩
    go_wp2_with fail
    go_ret
    exact ⟨rfl, hb1⟩
  · have e1 : nameI m = ⟨#[]⟩ := if_neg h
    rw [e1]; clear e1
    by_cases h0 : m < 0
    · clear h
      go_enter Try.func27, Try.ntmps27
      go_wp2
      go_ret
      exact ⟨rfl, Below.refl _ _⟩
    · have h1 : 16 ≤ m := by omega
      clear h
      go_enter Try.func27, Try.ntmps27
      go_wp2
      go_ret
      exact ⟨rfl, Below.refl _ _⟩

theorem nm_cell (k : Nat) (hk : k < 16) : (match namesV with | .agg cs => cs | _ => #[])[k]? = some (.string (nm k)) := by
  have h : k = 0 ∨ k = 1 ∨ k = 2 ∨ k = 3 ∨ k = 4 ∨ k = 5 ∨ k = 6 ∨ k = 7 ∨ k = 8 ∨ k = 9 ∨ k = 10 ∨ k = 11 ∨ k = 12 ∨ k = 13 ∨ k = 14 ∨ k = 15 := by omega
  rcases h with rfl | rfl | rfl | rfl | rfl | rfl | rfl | rfl | rfl | rfl | rfl | rfl | rfl | rfl | rfl | rfl <;> rfl

end Go.Proofs.Ytipoloehdheeeaa
