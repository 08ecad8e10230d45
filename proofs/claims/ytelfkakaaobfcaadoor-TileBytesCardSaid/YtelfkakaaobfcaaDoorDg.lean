/- The contracts of octet.Put and of the reference's Big. -/
import Derived.Test.YtelfkakaaobfcaaDoorDf
namespace Go.Proofs.YtelfkakaaobfcaaDoor
open Go.RowKit Sha
set_option linter.unusedVariables false
set_option linter.unusedSimpArgs false

/-- The bytes from the k-th on (of m) are those of n. -/
def fromB (n m k : Nat) : Nat → UInt8 := fun j => if k ≤ j then UInt8.ofNat (n / 256 ^ (m - 1 - j)) else 0
theorem fromB_prev (n m k : Nat) : updB (fromB n m (k + 1)) k (UInt8.ofNat (n / 256 ^ (m - 1 - k))) = fromB n m k := by
  funext j
  unfold updB fromB
  by_cases h : j = k
  · subst h; simp
  · rw [if_neg h]
    by_cases h2 : k ≤ j
    · rw [if_pos h2, if_pos (by omega)]
    · rw [if_neg h2, if_neg (by omega)]
theorem fromB_none (n m k : Nat) (h : m ≤ k) (f : Nat → UInt8) (hf : ∀ j, j < m → f j = 0) : bC m f = bC m (fromB n m k) := by
  apply Array.ext_getElem?
  intro j
  rw [get_bC, get_bC]
  split
  · rw [hf j (by omega)]; unfold fromB; rw [if_neg (by omega)]
  · rfl
theorem BAt.congr {t n : Nat} {w : World} {b : Nat} {f g : Nat → UInt8} (h : BAt t n w b f) (e : bC n f = bC n g) : BAt t n w b g := by unfold BAt at h ⊢; rw [← e]; exact h

set_option maxHeartbeats 1000000 in
set_option maxRecDepth 20000 in
theorem R_Big4 (n : Nat) (hn : n < 18446744073709551616) (w : World) : Calls Tryd.prog 41 #[.int .u64 (n : Int), .int .i64 4] w fun e w' => e = .returned (.string (ofL (big n 4))) ∧ Below w.heap.size w w' := by
  have B := Below.refl w.heap.size w
  go_enter Tryd.func41, Tryd.ntmps41
  go_wp2_with (first | (refine wpList_makeB4 rfl _ rfl rfl ?_; intro b_b1 wn hle hge ht hbn hzn; have hsz := B.size; replace B := B.trans (hbn.mono (by omega)); have hln := Nat.lt_of_lt_of_eq (Nat.lt_succ_self _) hzn.symm; clear hzn; (try first | (have hlt := b1.lt; replace b1 := b1.of_eq (hbn.block _ (by omega))) | replace b1 := b1.below (hbn.mono hle)); have b1 := ht; clear ht; simp only [Act.put, List.setIfInBounds_toArray, List.set_cons_zero, List.set_cons_succ]))
  go_loopw [0, 6] (fun v i wr => ∃ k : Nat, k ≤ 4 ∧ i = .int .i64 (k - 1) ∧ v = .int .u64 ((n / 256 ^ (4 - k) : Nat) : Int) ∧ Below w.heap.size w wr ∧ BAt 5 4 wr b_b1 (fromB n 4 k)) (fun _ i _ => (intOf i + 1).toNat)
  case atStart => exact ⟨4, by omega, rfl, by simp, B, b1.congr (fromB_none _ _ _ (by omega) _ (fun _ _ => rfl))⟩
  case round =>
    clear B b1
    obtain ⟨k, hk, rfl, rfl, B, b1⟩ := hrel
    have hq : n / 256 ^ (4 - k) < 18446744073709551616 := Nat.lt_of_le_of_lt (Nat.div_le_self _ _) hn
    by_cases hlt : 0 < k
    · obtain ⟨j, rfl⟩ : ∃ j, k = j + 1 := ⟨k - 1, by omega⟩
      have e1 : 4 - (j + 1) = 4 - 1 - j := by omega
      have e2 : n / 256 ^ (4 - 1 - j) / 256 = n / 256 ^ (4 - j) := by rw [Nat.div_div_eq_div_mul, ← Nat.pow_succ, show (4 - 1 - j).succ = 4 - j by omega]
      rw [e1] at hq ⊢
      generalize hqq : n / 256 ^ (4 - 1 - j) = q at *
      go_wp2_with (first | (refine wpList_storeByte rfl _ _ rfl _ _ rfl _ rfl (UInt8.ofNat q) (by simp) b1 (j) (by omega) (by first | rfl | omega) ?_; clear b1; intro wn ht hcn hzn; have hsz := B.size; replace hzn := Nat.le_of_eq hzn.symm; replace B := Chg.below B hcn (by omega) B.size; have b1 := ht; clear ht; simp only [Act.put, List.setIfInBounds_toArray, List.set_cons_zero, List.set_cons_succ]))
      rw [← hqq, fromB_prev] at b1
      go_roundw
      case rel => exact ⟨j, by omega, by go_num, by rw [← e2]; simp, B, b1⟩
      case measure => simp [intOf]
    · obtain rfl : k = 0 := by omega
      go_wp2_with (first | (refine wpList_convAny (s := 44) (d := 9) rfl _ rfl rfl (run_conv_bytes b1 (big n 4) (0) _ (by simp [big_length]) (fun i hi => by rw [big_length] at hi; rw [big_get _ _ _ hi]; unfold fromB; rw [if_pos (by omega), Nat.zero_add])) ?_; simp only [Act.put, List.setIfInBounds_toArray, List.set_cons_zero, List.set_cons_succ]))
      go_ret
      exact ⟨rfl, B⟩
set_option maxHeartbeats 1000000 in
set_option maxRecDepth 20000 in
theorem R_Big8 (n : Nat) (hn : n < 18446744073709551616) (w : World) : Calls Tryd.prog 41 #[.int .u64 (n : Int), .int .i64 8] w fun e w' => e = .returned (.string (ofL (big n 8))) ∧ Below w.heap.size w w' := by
  have B := Below.refl w.heap.size w
  go_enter Tryd.func41, Tryd.ntmps41
  go_wp2_with (first | (refine wpList_makeB8 rfl _ rfl rfl ?_; intro b_b1 wn hle hge ht hbn hzn; have hsz := B.size; replace B := B.trans (hbn.mono (by omega)); have hln := Nat.lt_of_lt_of_eq (Nat.lt_succ_self _) hzn.symm; clear hzn; (try first | (have hlt := b1.lt; replace b1 := b1.of_eq (hbn.block _ (by omega))) | replace b1 := b1.below (hbn.mono hle)); have b1 := ht; clear ht; simp only [Act.put, List.setIfInBounds_toArray, List.set_cons_zero, List.set_cons_succ]))
  go_loopw [0, 6] (fun v i wr => ∃ k : Nat, k ≤ 8 ∧ i = .int .i64 (k - 1) ∧ v = .int .u64 ((n / 256 ^ (8 - k) : Nat) : Int) ∧ Below w.heap.size w wr ∧ BAt 5 8 wr b_b1 (fromB n 8 k)) (fun _ i _ => (intOf i + 1).toNat)
  case atStart => exact ⟨8, by omega, rfl, by simp, B, b1.congr (fromB_none _ _ _ (by omega) _ (fun _ _ => rfl))⟩
  case round =>
    clear B b1
    obtain ⟨k, hk, rfl, rfl, B, b1⟩ := hrel
    have hq : n / 256 ^ (8 - k) < 18446744073709551616 := Nat.lt_of_le_of_lt (Nat.div_le_self _ _) hn
    by_cases hlt : 0 < k
    · obtain ⟨j, rfl⟩ : ∃ j, k = j + 1 := ⟨k - 1, by omega⟩
      have e1 : 8 - (j + 1) = 8 - 1 - j := by omega
      have e2 : n / 256 ^ (8 - 1 - j) / 256 = n / 256 ^ (8 - j) := by rw [Nat.div_div_eq_div_mul, ← Nat.pow_succ, show (8 - 1 - j).succ = 8 - j by omega]
      rw [e1] at hq ⊢
      generalize hqq : n / 256 ^ (8 - 1 - j) = q at *
      go_wp2_with (first | (refine wpList_storeByte rfl _ _ rfl _ _ rfl _ rfl (UInt8.ofNat q) (by simp) b1 (j) (by omega) (by first | rfl | omega) ?_; clear b1; intro wn ht hcn hzn; have hsz := B.size; replace hzn := Nat.le_of_eq hzn.symm; replace B := Chg.below B hcn (by omega) B.size; have b1 := ht; clear ht; simp only [Act.put, List.setIfInBounds_toArray, List.set_cons_zero, List.set_cons_succ]))
      rw [← hqq, fromB_prev] at b1
      go_roundw
      case rel => exact ⟨j, by omega, by go_num, by rw [← e2]; simp, B, b1⟩
      case measure => simp [intOf]
    · obtain rfl : k = 0 := by omega
      go_wp2_with (first | (refine wpList_convAny (s := 44) (d := 9) rfl _ rfl rfl (run_conv_bytes b1 (big n 8) (0) _ (by simp [big_length]) (fun i hi => by rw [big_length] at hi; rw [big_get _ _ _ hi]; unfold fromB; rw [if_pos (by omega), Nat.zero_add])) ?_; simp only [Act.put, List.setIfInBounds_toArray, List.set_cons_zero, List.set_cons_succ]))
      go_ret
      exact ⟨rfl, B⟩

/-- The first k bytes (of m) are those of n. -/
def tillB (n m k : Nat) : Nat → UInt8 := fun j => if j < k then UInt8.ofNat (n / 256 ^ (m - 1 - j)) else 0
theorem tillB_next (n m k : Nat) : updB (tillB n m k) k (UInt8.ofNat (n / 256 ^ (m - 1 - k))) = tillB n m (k + 1) := by
  funext j
  unfold updB tillB
  by_cases h : j = k
  · subst h; simp
  · rw [if_neg h]
    by_cases h2 : j < k
    · rw [if_pos h2, if_pos (by omega)]
    · rw [if_neg h2, if_neg (by omega)]
theorem tillB_none (n m : Nat) : bC m (fun _ => 0) = bC m (tillB n m 0) := by
  congr 1
set_option maxHeartbeats 1000000 in
set_option maxRecDepth 20000 in
theorem P_Put4 (n : Nat) (hn : n < 9223372036854775808) (w : World) : Calls Tryd.prog 20 #[.int .i64 (n : Int), .int .i64 4] w fun e w' => e = .returned (.string (ofL (big n 4))) ∧ Below w.heap.size w w' := by
  have B := Below.refl w.heap.size w
  go_enter Tryd.func20, Tryd.ntmps20
  go_wp2_with (first | (refine wpList_allocB8 rfl rfl ?_; intro b_b1 wn hle hge ht hbn hzn; have hsz := B.size; replace B := B.trans (hbn.mono (by omega)); have hln := Nat.lt_of_lt_of_eq (Nat.lt_succ_self _) hzn.symm; clear hzn; (try first | (have hlt := b1.lt; replace b1 := b1.of_eq (hbn.block _ (by omega))) | replace b1 := b1.below (hbn.mono hle)); have b1 := ht; clear ht; simp only [Act.put, List.setIfInBounds_toArray, List.set_cons_zero, List.set_cons_succ]))
  go_loopw [6, 7] (fun _ i wr => ∃ k : Nat, k ≤ 8 ∧ i = .int .i64 k ∧ Below w.heap.size w wr ∧ BAt 77 8 wr b_b1 (tillB n 8 k)) (fun _ i _ => (8 - intOf i).toNat)
  case atStart => exact ⟨0, by omega, rfl, B, b1.congr (tillB_none _ _)⟩
  case round =>
    clear B b1
    obtain ⟨k, hk, rfl, B, b1⟩ := hrel
    by_cases hlt : k < 8
    · have hp : (2 : Int) ^ ((56 : Int) - 8 * k).toNat = ((256 ^ (8 - 1 - k) : Nat) : Int) := by
        have hc : k = 0 ∨ k = 1 ∨ k = 2 ∨ k = 3 ∨ k = 4 ∨ k = 5 ∨ k = 6 ∨ k = 7 := by omega
        rcases hc with rfl | rfl | rfl | rfl | rfl | rfl | rfl | rfl <;> rfl
      go_wp2_with (first | (refine wpList_storeByte rfl _ _ rfl _ _ rfl _ rfl (UInt8.ofNat (n / 256 ^ (8 - 1 - k))) (by rw [show 8 - 1 - k = 7 - k by omega]; simp) b1 (k) (by omega) (by first | rfl | omega) ?_; clear b1; intro wn ht hcn hzn; have hsz := B.size; replace hzn := Nat.le_of_eq hzn.symm; replace B := Chg.below B hcn (by omega) B.size; have b1 := ht; clear ht; simp only [Act.put, List.setIfInBounds_toArray, List.set_cons_zero, List.set_cons_succ]))
      rw [tillB_next] at b1
      go_roundw
      case rel => exact ⟨k + 1, by omega, by go_num, B, b1⟩
      case measure => simp [intOf]; omega
    · obtain rfl : k = 8 := by omega
      simp only [show ((8 : Nat) : Int) = 8 from rfl]
      go_wp2_with (first | (refine wpList_convAny (s := 44) (d := 9) rfl _ rfl rfl (run_conv_bytes b1 (big n 4) (4) _ (by simp [big_length]) (fun i hi => by rw [big_length] at hi; rw [big_get _ _ _ hi]; unfold tillB; rw [if_pos (by omega)]; congr 4; omega)) ?_; simp only [Act.put, List.setIfInBounds_toArray, List.set_cons_zero, List.set_cons_succ]) | (go_at_call 36; refine (P_size4 _).mono ?_; rintro e wq ⟨rfl, rfl⟩))
      go_ret
      exact ⟨rfl, B⟩
set_option maxHeartbeats 1000000 in
set_option maxRecDepth 20000 in
theorem P_Put8 (n : Nat) (hn : n < 9223372036854775808) (w : World) : Calls Tryd.prog 20 #[.int .i64 (n : Int), .int .i64 8] w fun e w' => e = .returned (.string (ofL (big n 8))) ∧ Below w.heap.size w w' := by
  have B := Below.refl w.heap.size w
  go_enter Tryd.func20, Tryd.ntmps20
  go_wp2_with (first | (refine wpList_allocB8 rfl rfl ?_; intro b_b1 wn hle hge ht hbn hzn; have hsz := B.size; replace B := B.trans (hbn.mono (by omega)); have hln := Nat.lt_of_lt_of_eq (Nat.lt_succ_self _) hzn.symm; clear hzn; (try first | (have hlt := b1.lt; replace b1 := b1.of_eq (hbn.block _ (by omega))) | replace b1 := b1.below (hbn.mono hle)); have b1 := ht; clear ht; simp only [Act.put, List.setIfInBounds_toArray, List.set_cons_zero, List.set_cons_succ]))
  go_loopw [6, 7] (fun _ i wr => ∃ k : Nat, k ≤ 8 ∧ i = .int .i64 k ∧ Below w.heap.size w wr ∧ BAt 77 8 wr b_b1 (tillB n 8 k)) (fun _ i _ => (8 - intOf i).toNat)
  case atStart => exact ⟨0, by omega, rfl, B, b1.congr (tillB_none _ _)⟩
  case round =>
    clear B b1
    obtain ⟨k, hk, rfl, B, b1⟩ := hrel
    by_cases hlt : k < 8
    · have hp : (2 : Int) ^ ((56 : Int) - 8 * k).toNat = ((256 ^ (8 - 1 - k) : Nat) : Int) := by
        have hc : k = 0 ∨ k = 1 ∨ k = 2 ∨ k = 3 ∨ k = 4 ∨ k = 5 ∨ k = 6 ∨ k = 7 := by omega
        rcases hc with rfl | rfl | rfl | rfl | rfl | rfl | rfl | rfl <;> rfl
      go_wp2_with (first | (refine wpList_storeByte rfl _ _ rfl _ _ rfl _ rfl (UInt8.ofNat (n / 256 ^ (8 - 1 - k))) (by rw [show 8 - 1 - k = 7 - k by omega]; simp) b1 (k) (by omega) (by first | rfl | omega) ?_; clear b1; intro wn ht hcn hzn; have hsz := B.size; replace hzn := Nat.le_of_eq hzn.symm; replace B := Chg.below B hcn (by omega) B.size; have b1 := ht; clear ht; simp only [Act.put, List.setIfInBounds_toArray, List.set_cons_zero, List.set_cons_succ]))
      rw [tillB_next] at b1
      go_roundw
      case rel => exact ⟨k + 1, by omega, by go_num, B, b1⟩
      case measure => simp [intOf]; omega
    · obtain rfl : k = 8 := by omega
      simp only [show ((8 : Nat) : Int) = 8 from rfl]
      go_wp2_with (first | (refine wpList_convAny (s := 44) (d := 9) rfl _ rfl rfl (run_conv_bytes b1 (big n 8) (0) _ (by simp [big_length]) (fun i hi => by rw [big_length] at hi; rw [big_get _ _ _ hi]; unfold tillB; rw [if_pos (by omega)]; congr 4; omega)) ?_; simp only [Act.put, List.setIfInBounds_toArray, List.set_cons_zero, List.set_cons_succ]) | (go_at_call 36; refine (P_size8 _).mono ?_; rintro e wq ⟨rfl, rfl⟩))
      go_ret
      exact ⟨rfl, B⟩
end Go.Proofs.YtelfkakaaobfcaaDoor
