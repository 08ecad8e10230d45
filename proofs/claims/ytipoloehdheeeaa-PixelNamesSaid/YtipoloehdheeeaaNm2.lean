/- Contracts of Mode of package pixel, of Name and Mode of the reference. -/
import Derived.Test.YtipoloehdheeeaaNm
namespace Go.Proofs.Ytipoloehdheeeaa
open Go.RowKit
set_option linter.unusedVariables false
set_option linter.unusedSimpArgs false

/-- The search through the names: n names from number k on are left. -/
def modeFrom (s : ByteArray) : Nat → Nat → Int × Bool
  | 0, _ => (0, false)
  | n + 1, k => if ((nm k).toList == s.toList) = true then ((k : Int), true) else modeFrom s n (k + 1)
def modeOf (s : ByteArray) : Int × Bool := modeFrom s 16 0

set_option maxHeartbeats 1000000 in
theorem P_Mode (s : ByteArray) (w : World) : Calls Try.prog 26 #[.string s] w fun e w' => e = .returned (.tuple #[.int .i64 (modeOf s).1, .bool (modeOf s).2]) ∧ Below w.heap.size w w' := by
  go_enter Try.func26, Try.ntmps26
  go_wp2_with fail
  refine (P_names _).mono ?_
  rintro e w1 ⟨rfl, hb1⟩
  go_wp2_with fail
  go_loop [4, 5, 7] (fun _ _ i => ∃ k : Nat, k ≤ 16 ∧ i = .int .i64 k ∧ modeOf s = modeFrom s (16 - k) k) (fun _ _ i => (16 - intOf i).toNat)
  case atStart => exact ⟨0, by omega, rfl, rfl⟩
  case round =>
    obtain ⟨k, hk, rfl, hm⟩ := hrel
    by_cases hlt : k < 16
    · have hix := names_index k hlt
      have e2 : 16 - k = (16 - (k + 1)) + 1 := by omega
      cases he : ((nm k).toList == s.toList) with
      | true =>
        have e3 : modeOf s = ((k : Int), true) := by
          rw [hm, e2]
          exact if_pos he
        have E3 := Lib.hid e3
        clear hm e2 e3
        go_wp2
        go_ret2
        rw [E3.out]
        exact ⟨rfl, hb1⟩
      | false =>
        have e3 : modeOf s = modeFrom s (16 - (k + 1)) (k + 1) := by
          rw [hm, e2]
          exact if_neg (by rw [he]; simp)
        have E3 := Lib.hid e3
        clear hm e2 e3
        go_wp2
        go_round
        case rel => exact ⟨k + 1, by omega, by go_num, E3.out⟩
        case measure => simp [intOf]; omega
    · obtain rfl : k = 16 := by omega
      have E3 := Lib.hid hm
      clear hm
      go_wp2
      go_ret2
      rw [E3.out]
      exact ⟨rfl, hb1⟩

/-- The sixteen names in a new array, read at number k. -/
theorem names_cell (k : Nat) (hk : k < 16) (w : World) (cs : Array Value) (hcs : namesV = .agg cs) : (w.alloc (.cells cs 64)).cell? ⟨w.heap.size, k, none⟩ = some (.string (nm k)) := by
  rw [cell_of_row _ _ _ cs 64 (0, 0) (by rw [heap_get_alloc, if_pos rfl])]
  have := nm_cell k hk
  rw [hcs] at this
  exact this

set_option maxHeartbeats 1000000 in
theorem R_Name (m : Int) (w : World) : Calls Try.prog 28 #[.int .i64 m] w fun e w' => e = .returned (.string (nameI m)) ∧ Below w.heap.size w w' := by
  by_cases h : 0 ≤ m ∧ m < 16
  · obtain ⟨k, rfl⟩ := Int.eq_ofNat_of_zero_le h.1
    have e1 : nameI (k : Int) = nm k := by unfold nameI; rw [if_pos h, Int.toNat_natCast]
    rw [e1]; clear e1
    have n1 : ¬ ((k : Int) < 0) := by omega
    have n2 : ¬ (15 < (k : Int)) := by omega
    have n3 : (0 : Int) ≤ (k : Int) := by omega
    have n4 : (k : Int) < 16 := by omega
    have hcell := fun w => names_cell k (by omega) w _ rfl
    go_enter Try.func28, Try.ntmps28
    go_wp2_with fail
    refine (R_names _).mono ?_
    rintro e w1 ⟨rfl, hb1⟩
    simp only [namesV]
    go_wp2_with fail
    go_ret
    refine ⟨rfl, ?_⟩
    exact hb1.alloc hb1.size _
  · have e1 : nameI m = ⟨#[]⟩ := if_neg h
    rw [e1]; clear e1
    by_cases h0 : m < 0
    · clear h
      go_enter Try.func28, Try.ntmps28
      go_wp2
      go_ret
      exact ⟨rfl, Below.refl _ _⟩
    · have h1 : 15 < m := by omega
      clear h
      go_enter Try.func28, Try.ntmps28
      go_wp2
      go_ret
      exact ⟨rfl, Below.refl _ _⟩

set_option maxHeartbeats 1000000 in
theorem R_Mode (s : ByteArray) (w : World) : Calls Try.prog 29 #[.string s] w fun e w' => e = .returned (.tuple #[.int .i64 (modeOf s).1, .bool (modeOf s).2]) ∧ Below w.heap.size w w' := by
  have hcell := fun (k : Nat) (hk : k < 16) (w : World) => names_cell k hk w _ rfl
  have Hcell := Lib.hid hcell
  clear hcell
  go_enter Try.func29, Try.ntmps29
  go_wp2_with fail
  refine (R_names _).mono ?_
  rintro e w1 ⟨rfl, hb1⟩
  simp only [namesV]
  go_wp2_with fail
  go_loop [5] (fun i => ∃ k : Nat, k ≤ 16 ∧ i = .int .i64 k ∧ modeOf s = modeFrom s (16 - k) k) (fun i => (16 - intOf i).toNat)
  case atStart => exact ⟨0, by omega, rfl, rfl⟩
  case round =>
    obtain ⟨k, hk, rfl, hm⟩ := hrel
    by_cases hlt : k < 16
    · have hc := Hcell.out k hlt w1
      have n3 : (0 : Int) ≤ (k : Int) := by omega
      have n4 : (k : Int) < 16 := by omega
      have e2 : 16 - k = (16 - (k + 1)) + 1 := by omega
      cases he : ((nm k).toList == s.toList) with
      | true =>
        have e3 : modeOf s = ((k : Int), true) := by
          rw [hm, e2]
          exact if_pos he
        have E3 := Lib.hid e3
        clear hm e2 e3
        go_wp2
        go_ret2
        rw [E3.out]
        exact ⟨rfl, hb1.alloc hb1.size _⟩
      | false =>
        have e3 : modeOf s = modeFrom s (16 - (k + 1)) (k + 1) := by
          rw [hm, e2]
          exact if_neg (by rw [he]; simp)
        have E3 := Lib.hid e3
        clear hm e2 e3
        go_wp2
        go_round
        case rel => exact ⟨k + 1, by omega, by go_num, E3.out⟩
        case measure => simp [intOf]; omega
    · obtain rfl : k = 16 := by omega
      have E3 := Lib.hid hm
      clear hm
      go_wp2
      go_ret2
      rw [E3.out]
      exact ⟨rfl, hb1.alloc hb1.size _⟩

theorem modeOf_name (k : Nat) (hk : k < 16) : modeOf (nameI k) = ((k : Int), true) := by
  have h : k = 0 ∨ k = 1 ∨ k = 2 ∨ k = 3 ∨ k = 4 ∨ k = 5 ∨ k = 6 ∨ k = 7 ∨ k = 8 ∨ k = 9 ∨ k = 10 ∨ k = 11 ∨ k = 12 ∨ k = 13 ∨ k = 14 ∨ k = 15 := by omega
  rcases h with rfl | rfl | rfl | rfl | rfl | rfl | rfl | rfl | rfl | rfl | rfl | rfl | rfl | rfl | rfl | rfl <;> decide +kernel

end Go.Proofs.Ytipoloehdheeeaa
