/- Plain: what a Mean holds, and its mean; words on worlds in which one block may have been written. -/
import Derived.Test.YtppccnjckiedlaaPb
import Derived.Test.YtppccnjckiedlaaGn
namespace Go.Proofs.Ytppccnjckiedlaa
open Go.RowKit
set_option linter.unusedVariables false
set_option linter.unusedSimpArgs false

theorem set_blk {w : World} {b i : Nat} {cs cs' : Array Value} {t : TypeId} {v : Value} (h : w.heap[b]? = some (.cells cs t (0, 0))) (e : cs.setIfInBounds i v = cs') :
    (w.setCell ⟨b, i, none⟩ v).heap[b]? = some (.cells cs' t (0, 0)) := e ▸ heap_setCell_same w b i cs t v h
theorem alloc_blk {w : World} {b : Nat} {o o' : Obj} (h : w.heap[b]? = some o) : (w.alloc o').heap[b]? = some o := by
  rw [heap_get_alloc, if_neg (by have := (Array.getElem?_eq_some_iff.1 h).1; omega)]; exact h

namespace Pl
/-- The sums of A, of A times each channel, and the number of pixels. -/
structure Acc where
  a : Int
  r : Int
  g : Int
  b : Int
  n : Int
def Acc.zero : Acc := ⟨0, 0, 0, 0, 0⟩
def addAcc (s : Acc) (p : Px) (n : Int) : Acc :=
  if n < 1 then s else ⟨s.a + min n 65536 * p.a, s.r + min n 65536 * p.a * p.r, s.g + min n 65536 * p.a * p.g, s.b + min n 65536 * p.a * p.b, s.n + min n 65536⟩
/-- What holds of the sums: M bounds the number of pixels. -/
def Acc.ok (s : Acc) (M : Int) : Prop := (0 ≤ s.n ∧ s.n ≤ M) ∧ (0 ≤ s.a ∧ s.a ≤ 255 * s.n) ∧ (0 ≤ s.r ∧ s.r ≤ 255 * s.a) ∧ (0 ≤ s.g ∧ s.g ≤ 255 * s.a) ∧ (0 ≤ s.b ∧ s.b ≤ 255 * s.a)
theorem Acc.zero_ok : Acc.zero.ok 0 := by unfold Acc.ok Acc.zero; simp
theorem Acc.ok_mono {s : Acc} {M N : Int} (h : s.ok M) (hMN : M ≤ N) : s.ok N := ⟨⟨h.1.1, Int.le_trans h.1.2 hMN⟩, h.2⟩
theorem addAcc_ok {s : Acc} {p : Px} {n M : Int} (h : s.ok M) (hp : p.ok) : (addAcc s p n).ok (M + 65536) := by
  obtain ⟨⟨n0, n1⟩, ⟨a0, a1⟩, ⟨r0, r1⟩, ⟨g0, g1⟩, ⟨b0, b1⟩⟩ := h
  obtain ⟨hr, hg, hb, ha⟩ := hp
  unfold addAcc
  split
  · exact ⟨⟨n0, by omega⟩, ⟨a0, a1⟩, ⟨r0, r1⟩, ⟨g0, g1⟩, ⟨b0, b1⟩⟩
  · have k0 : 1 ≤ min n 65536 := by omega
    have k1 : min n 65536 ≤ 65536 := by omega
    generalize min n 65536 = k at *
    have x0 := Int.mul_nonneg (show 0 ≤ k by omega) ha.1
    have x1 := Int.mul_le_mul_of_nonneg_left ha.2 (show 0 ≤ k by omega)
    have y1 := Int.mul_nonneg x0 hr.1
    have y2 := Int.mul_le_mul_of_nonneg_left hr.2 x0
    have y3 := Int.mul_nonneg x0 hg.1
    have y4 := Int.mul_le_mul_of_nonneg_left hg.2 x0
    have y5 := Int.mul_nonneg x0 hb.1
    have y6 := Int.mul_le_mul_of_nonneg_left hb.2 x0
    refine ⟨⟨?_, ?_⟩, ⟨?_, ?_⟩, ⟨?_, ?_⟩, ⟨?_, ?_⟩, ⟨?_, ?_⟩⟩ <;> simp only <;> omega
def meanP (s : Acc) : Px :=
  if s.n = 0 then Px.zero else if roundI s.a s.n = 0 then Px.zero else ⟨roundI s.r s.a, roundI s.g s.a, roundI s.b s.a, roundI s.a s.n⟩
/-- Of a mean that is not the zero pixel: the bounds that its arithmetic wants. -/
theorem mean_facts {s : Acc} {M : Int} (h : s.ok M) (hn : s.n ≠ 0) : 1 ≤ s.n ∧ 0 ≤ roundI s.a s.n ∧ roundI s.a s.n ≤ 255 ∧ (roundI s.a s.n ≠ 0 → 1 ≤ s.a ∧ (0 ≤ roundI s.r s.a ∧ roundI s.r s.a ≤ 255) ∧ (0 ≤ roundI s.g s.a ∧ roundI s.g s.a ≤ 255) ∧ (0 ≤ roundI s.b s.a ∧ roundI s.b s.a ≤ 255)) := by
  obtain ⟨⟨n0, n1⟩, ⟨a0, a1⟩, ⟨r0, r1⟩, ⟨g0, g1⟩, ⟨b0, b1⟩⟩ := h
  have hn1 : 1 ≤ s.n := by omega
  have k := roundI_bd a0 a1 hn1
  refine ⟨hn1, k.1, k.2, fun hne => ?_⟩
  have ha := round_ne hn1 a0 hne
  exact ⟨ha, roundI_bd r0 r1 ha, roundI_bd g0 g1 ha, roundI_bd b0 b1 ha⟩
theorem meanP_ok {s : Acc} {M : Int} (h : s.ok M) : (meanP s).ok := by
  unfold meanP
  split
  · exact Px.zero_ok
  · rename_i hn
    have k := mean_facts h hn
    split
    · exact Px.zero_ok
    · rename_i hne
      have k2 := k.2.2.2 hne
      exact ⟨k2.2.1, k2.2.2.1, k2.2.2.2, k.2.1, k.2.2.1⟩
end Pl

end Go.Proofs.Ytppccnjckiedlaa
