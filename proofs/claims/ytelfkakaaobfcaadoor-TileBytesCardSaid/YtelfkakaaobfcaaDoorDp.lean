/- Plain: the digest by whole blocks of the text, then the blocks of what is left and padded. -/
import Derived.Test.YtelfkakaaobfcaaDoorDf
namespace Go.Proofs.YtelfkakaaobfcaaDoor
namespace Sha
set_option linter.unusedVariables false
set_option linter.unusedSimpArgs false

theorem blocks_zero (s : St) (p : List UInt8) : blocks s p 0 = s := rfl
theorem blocks_next (s : St) (p : List UInt8) (n : Nat) : blocks s p (n + 1) = comp (blocks s p n) ((p.drop (64 * n)).take 64) := rfl
theorem blocks_congr {s : St} {p p' : List UInt8} : ∀ (n : Nat), (∀ i, i < n → (p.drop (64 * i)).take 64 = (p'.drop (64 * i)).take 64) → blocks s p n = blocks s p' n
  | 0, _ => rfl
  | n + 1, h => by
    rw [blocks_next, blocks_next, blocks_congr n (fun i hi => h i (by omega)), h n (by omega)]
theorem blocks_after {s : St} {p1 p2 : List UInt8} {q : Nat} (h : p1.length = 64 * q) : ∀ n, blocks s (p1 ++ p2) (q + n) = blocks (blocks s (p1 ++ p2) q) p2 n
  | 0 => rfl
  | n + 1 => by
    have e : (p1 ++ p2).drop (64 * (q + n)) = p2.drop (64 * n) := by
      rw [List.drop_append, h, show 64 * (q + n) - 64 * q = 64 * n by omega, List.drop_eq_nil_of_le (by omega), List.nil_append]
    show comp (blocks s (p1 ++ p2) (q + n)) (((p1 ++ p2).drop (64 * (q + n))).take 64) = _
    rw [blocks_after h n, e]
    rfl
theorem win_append {p1 p2 : List UInt8} {i q : Nat} (h : p1.length = 64 * q) (hi : i < q) : ((p1 ++ p2).drop (64 * i)).take 64 = (p1.drop (64 * i)).take 64 := by
  rw [List.drop_append, List.take_append, List.length_drop, h, show 64 - (64 * q - 64 * i) = 0 by omega]
  simp
def tailB (l : List UInt8) : List UInt8 := l.drop (64 * (l.length / 64)) ++ 128 :: (List.replicate (zeros l.length) 0 ++ big (8 * l.length) 8)
theorem tailB_length (l : List UInt8) : (tailB l).length = l.length % 64 + 9 + zeros l.length := by
  unfold tailB
  simp [big_length]
  omega
theorem tail_blocks (l : List UInt8) : (tailB l).length = 64 * ((tailB l).length / 64) := by
  rw [tailB_length]
  unfold zeros
  omega
theorem pad_eq (l : List UInt8) : pad l = l.take (64 * (l.length / 64)) ++ tailB l := by
  unfold pad tailB
  rw [← List.append_assoc, List.take_append_drop]
theorem ofB_eq (l : List UInt8) : ofB l = outB (blocks (blocks start l (l.length / 64)) (tailB l) ((tailB l).length / 64)) := by
  unfold ofB
  have hq : (l.take (64 * (l.length / 64))).length = 64 * (l.length / 64) := by rw [List.length_take]; omega
  have hl : (pad l).length / 64 = l.length / 64 + (tailB l).length / 64 := by
    rw [pad_eq, List.length_append, hq]
    have := tail_blocks l
    omega
  rw [hl, pad_eq, blocks_after hq]
  have e : blocks start (l.take (64 * (l.length / 64)) ++ tailB l) (l.length / 64) = blocks start l (l.length / 64) := by
    refine blocks_congr _ fun i hi => ?_
    rw [win_append hq hi]
    conv => rhs; rw [← List.take_append_drop (64 * (l.length / 64)) l]
    rw [win_append hq hi]
  rw [e]
/-- The first k words of the result. -/
def outK (s : St) : Nat → List UInt8
  | 0 => []
  | k + 1 => outK s k ++ big (s.at k).toNat 4
theorem outK_next (s : St) (k : Nat) : outK s (k + 1) = outK s k ++ big (s.at k).toNat 4 := rfl
theorem outK_all (s : St) : outK s 8 = outB s := by
  unfold outB
  simp only [outK, at0, at1, at2, at3, at4, at5, at6, at7, List.nil_append]
theorem outK_length (s : St) (k : Nat) : (outK s k).length = 4 * k := by
  induction k with
  | zero => rfl
  | succ k ih => rw [outK_next, List.length_append, ih, big_length]; omega
end Sha
open Sha
/- Strings told by the list of their bytes. -/
@[go_sem] theorem ofL_append (a b : List UInt8) : ofL a ++ ofL b = ofL (a ++ b) := by
  apply ByteArray.ext
  apply Array.toList_inj.1
  rw [ByteArray.data_append]
  simp [ofL]
@[go_sem] theorem ofL_append_mk (a : List UInt8) (b : Array UInt8) : ofL a ++ ByteArray.mk b = ofL (a ++ b.toList) := by
  apply ByteArray.ext
  apply Array.toList_inj.1
  rw [ByteArray.data_append]
  simp [ofL]
@[go_sem] theorem big_len (n k : Nat) : (big n k).length = k := big_length n k
@[go_sem] theorem ofL_size' (a : List UInt8) : (ofL a).size = a.length := ofL_size a
@[go_sem] theorem ofL_extract (l : List UInt8) (a b : Nat) : (ofL l).extract a b = ofL ((l.drop a).take (b - a)) := by
  apply ByteArray.ext
  apply Array.toList_inj.1
  rw [ByteArray.data_extract]
  simp [ofL, List.extract]
end Go.Proofs.YtelfkakaaobfcaaDoor
