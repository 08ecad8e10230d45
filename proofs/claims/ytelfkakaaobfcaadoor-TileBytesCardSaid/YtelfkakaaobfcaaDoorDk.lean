/- Plain: the digest reckoned at closed texts: the schedule as a list. -/
import Derived.Test.YtelfkakaaobfcaaDoorDp
namespace Go.Proofs.YtelfkakaaobfcaaDoor
namespace Sha
set_option linter.unusedVariables false
set_option linter.unusedSimpArgs false

/-- The schedule as a list, the newest word first. -/
def schL (m : Nat → W32) : Nat → List W32
  | 0 => [m 15, m 14, m 13, m 12, m 11, m 10, m 9, m 8, m 7, m 6, m 5, m 4, m 3, m 2, m 1, m 0]
  | k + 1 => ((schL m k).getD 15 0 + s0 ((schL m k).getD 14 0) + (schL m k).getD 6 0 + s1 ((schL m k).getD 1 0)) :: schL m k
theorem first_val (m : Nat → W32) {j : Nat} (h : j < 16) : first m 16 j = m j := by unfold first; rw [if_pos h]
theorem schL_eq (m : Nat → W32) : ∀ k j, j < 16 + k → sch m k j = (schL m k).getD (15 + k - j) 0
  | 0, j, h => by
    rw [sch_zero, first_val m (by omega)]
    have hc : j = 0 ∨ j = 1 ∨ j = 2 ∨ j = 3 ∨ j = 4 ∨ j = 5 ∨ j = 6 ∨ j = 7 ∨ j = 8 ∨ j = 9 ∨ j = 10 ∨ j = 11 ∨ j = 12 ∨ j = 13 ∨ j = 14 ∨ j = 15 := by omega
    rcases hc with rfl | rfl | rfl | rfl | rfl | rfl | rfl | rfl | rfl | rfl | rfl | rfl | rfl | rfl | rfl | rfl <;> rfl
  | k + 1, j, h => by
    rw [sch_next]
    unfold updW
    by_cases e : j = 16 + k
    · rw [if_pos e, e, show 15 + (k + 1) - (16 + k) = 0 by omega, schL_eq m k k (by omega), schL_eq m k (k + 1) (by omega), schL_eq m k (k + 9) (by omega), schL_eq m k (k + 14) (by omega),
        show 15 + k - k = 15 by omega, show 15 + k - (k + 1) = 14 by omega, show 15 + k - (k + 9) = 6 by omega, show 15 + k - (k + 14) = 1 by omega]
      rfl
    · rw [if_neg e, schL_eq m k j (by omega), show 15 + (k + 1) - j = (15 + k - j) + 1 by omega]
      rfl
/-- The rounds over lists: constants and words, first ones first. -/
def roundsL (s : St) : List W32 → List W32 → St
  | k :: ks, w :: ws => roundsL (rnd k w s) ks ws
  | _, _ => s
theorem roundsL_eq (K W : Nat → W32) (s : St) (n : Nat) : ∀ i, i ≤ n → roundsL (rounds K W s i) ((List.range' i (n - i)).map K) ((List.range' i (n - i)).map W) = rounds K W s n := by
  intro i hi
  obtain ⟨d, rfl⟩ : ∃ d, n = i + d := ⟨n - i, by omega⟩
  clear hi
  rw [show i + d - i = d by omega]
  induction d generalizing i with
  | zero => rfl
  | succ d ih =>
    rw [List.range'_succ, List.map_cons, List.map_cons]
    show roundsL (rnd (K i) (W i) (rounds K W s i)) _ _ = _
    rw [← rounds_next, ih (i + 1), show i + 1 + d = i + (d + 1) by omega]
def compL (s : St) (p : List UInt8) : St := addSt (roundsL s (kList.map (BitVec.ofNat 32)) (schL (msg p) 48).reverse) s
theorem kList_map : (List.range' 0 64).map kW = kList.map (BitVec.ofNat 32) := by decide +kernel
theorem schL_length (m : Nat → W32) (k : Nat) : (schL m k).length = 16 + k := by
  induction k with
  | zero => rfl
  | succ k ih => simp [schL, ih]; omega
theorem schL_map (m : Nat → W32) : (List.range' 0 64).map (wrd m) = (schL m 48).reverse := by
  apply List.ext_getElem?
  intro i
  rw [List.getElem?_map]
  by_cases hi : i < 64
  · rw [List.getElem?_range' hi, List.getElem?_reverse (by rw [schL_length]; exact hi), schL_length]
    simp only [Option.map_some]
    have e : wrd m (0 + 1 * i) = (schL m 48).getD (15 + 48 - i) 0 := by
      rw [Nat.zero_add, Nat.one_mul]; exact schL_eq m 48 i (by omega)
    rw [e, List.getD_eq_getElem?_getD, show 16 + 48 - 1 - i = 15 + 48 - i by omega]
    have hl : 15 + 48 - i < (schL m 48).length := by rw [schL_length]; omega
    rw [List.getElem?_eq_getElem hl]
    rfl
  · rw [List.getElem?_eq_none (by rw [List.length_range']; omega), List.getElem?_eq_none (by rw [List.length_reverse, schL_length]; omega)]
    rfl
theorem compL_eq (s : St) (p : List UInt8) : comp s p = compL s p := by
  have h := roundsL_eq kW (wrd (msg p)) s 64 0 (by omega)
  rw [rounds_zero, Nat.sub_zero, kList_map, schL_map] at h
  unfold comp compL
  rw [h]
def blocksL (s : St) (p : List UInt8) : Nat → St
  | 0 => s
  | n + 1 => compL (blocksL s p n) ((p.drop (64 * n)).take 64)
theorem blocksL_eq (s : St) (p : List UInt8) (n : Nat) : blocks s p n = blocksL s p n := by
  induction n with
  | zero => rfl
  | succ n ih => rw [blocks_next, ih, compL_eq]; rfl
def ofBL (l : List UInt8) : List UInt8 := outB (blocksL start (pad l) ((pad l).length / 64))
theorem ofBL_eq (l : List UInt8) : ofB l = ofBL l := by unfold ofB ofBL; rw [blocksL_eq]
theorem of_empty : ofBL [] = [227, 176, 196, 66, 152, 252, 28, 20, 154, 251, 244, 200, 153, 111, 185, 36, 39, 174, 65, 228, 100, 155, 147, 76, 164, 149, 153, 27, 120, 82, 184, 85] := by decide +kernel
end Sha
end Go.Proofs.YtelfkakaaobfcaaDoor
