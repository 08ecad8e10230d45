/- Contracts of (*Mean).Add, of package pixel and of the reference. -/
import Derived.Test.YtipoloehdheeeaaMa
import Derived.Test.YtipoloehdheeeaaPx7
import Derived.Lib.MinMax
namespace Go.Proofs.Ytipoloehdheeeaa
open Go.RowKit Pl
set_option linter.unusedVariables false
set_option linter.unusedSimpArgs false

/-- The block b holds a Mean of package pixel. -/
def PMean (w : World) (b : Nat) (s : Acc) : Prop := w.heap[b]? = some (.cells #[.int .i64 s.r, .int .i64 s.g, .int .i64 s.b, .int .i64 s.a, .int .i64 s.n] 48 (0, 0))
/-- The block b holds a Mean of the reference. -/
def RMean (w : World) (b : Nat) (s : Acc) : Prop := w.heap[b]? = some (.cells #[.int .i64 s.a, .int .i64 s.r, .int .i64 s.g, .int .i64 s.b, .int .i64 s.n] 51 (0, 0))
theorem index4 (x0 x1 x2 x3 : Value) (w : World) :
    (Instr.index 46 (.agg #[x0, x1, x2, x3]) (.int .i64 0)).run Try.prog w = .ok x0 w ∧ (Instr.index 46 (.agg #[x0, x1, x2, x3]) (.int .i64 1)).run Try.prog w = .ok x1 w ∧
    (Instr.index 46 (.agg #[x0, x1, x2, x3]) (.int .i64 2)).run Try.prog w = .ok x2 w ∧ (Instr.index 46 (.agg #[x0, x1, x2, x3]) (.int .i64 3)).run Try.prog w = .ok x3 w := by
  refine ⟨?_, ?_, ?_, ?_⟩ <;> kernel_rfl

set_option maxHeartbeats 1000000 in
theorem R_Add (b : Nat) (s : Acc) (p : Px) (n M : Int) (w : World) (hs : s.ok M) (hM : M ≤ 1000000000) (hp : p.ok) (hm : RMean w b s) :
    Calls Try.prog 31 #[.pointer (some ⟨b, 0, none⟩), Px.v p, .int .i64 n] w fun e w' => e = .returned (.tuple #[]) ∧ RMean w' b (addAcc s p n) ∧ Chg b w w' := by
  obtain ⟨pr, pg, pb, pa⟩ := p
  have lb : b < w.heap.size := (Array.getElem?_eq_some_iff.1 hm).1
  by_cases hn : n < 1
  · have e1 : addAcc s ⟨pr, pg, pb, pa⟩ n = s := if_pos hn
    rw [e1]; clear e1
    have Hm := Lib.hid hm
    clear hm hp
    simp only [Px.v]
    go_enter Try.func31, Try.ntmps31
    go_wp2
    go_returns
    exact ⟨rfl, alloc_blk Hm.out, (Chg.refl b w).alloc _⟩
  · have hn' : ¬ n < 1 := hn
    obtain ⟨sa, sr, sg, sb, sn⟩ := s
    have e1 : addAcc ⟨sa, sr, sg, sb, sn⟩ ⟨pr, pg, pb, pa⟩ n = ⟨sa + min n 65536 * pa, sr + min n 65536 * pa * pr, sg + min n 65536 * pa * pg, sb + min n 65536 * pa * pb, sn + min n 65536⟩ := if_neg hn
    rw [e1]; clear e1
    obtain ⟨⟨n0, n1⟩, ⟨a0, a1⟩, ⟨r0, r1⟩, ⟨g0, g1⟩, ⟨b0, b1⟩⟩ := hs
    obtain ⟨hr, hg, hb, ha⟩ := hp
    simp only at n0 n1 a0 a1 r0 r1 g0 g1 b0 b1 hr hg hb ha
    have k0 : 1 ≤ min n 65536 := by omega
    have k1 : min n 65536 ≤ 65536 := by omega
    have x0 := Int.mul_nonneg (show 0 ≤ min n 65536 by omega) ha.1
    have x1 := Int.mul_le_mul_of_nonneg_left ha.2 (show 0 ≤ min n 65536 by omega)
    have y1 := Int.mul_nonneg x0 hr.1
    have y2 := Int.mul_le_mul_of_nonneg_left hr.2 x0
    have y3 := Int.mul_nonneg x0 hg.1
    have y4 := Int.mul_le_mul_of_nonneg_left hg.2 x0
    have y5 := Int.mul_nonneg x0 hb.1
    have y6 := Int.mul_le_mul_of_nonneg_left hb.2 x0
    have z1 : min n 65536 * pa = pa * min n 65536 := Int.mul_comm _ _
    rw [z1] at x0 x1 y1 y2 y3 y4 y5 y6 ⊢
    have Hm := Lib.hid hm
    obtain ⟨hc, hf⟩ := cells_of_block (show w.heap[b]? = some (.cells #[.int .i64 sa, .int .i64 sr, .int .i64 sg, .int .i64 sb, .int .i64 sn] 51 (0, 0)) from hm)
    have hne : ¬ (b = w.heap.size) := by omega
    clear hm z1 hn
    simp only [Px.v]
    go_enter Try.func31, Try.ntmps31
    go_wp2
    have lb0 : b < w.heap.size + 1 := by omega
    refine wp_region_ov_tail 13 (by kernel_rfl) (by kernel_rfl) ?_
    simp only [List.take_succ_cons, List.take_zero, List.drop_succ_cons, List.drop_zero]
    repeat (go_big_quiet_step ((fail)))
    refine wpQuiet_nil ?_
    intro w1 hb1
    obtain ⟨hc1, hf1⟩ := bcell hb1
    have hs1 := hb1.size
    try simp only [World.size_alloc, World.size_setCell, World.size_drew] at hs1
    have hbb1 := hb1.mono (B' := w.heap.size) (by first | omega | (simp only [World.size_alloc, World.size_setCell, World.size_drew]; omega))
    have l1_0 : w.heap.size < w1.heap.size := by omega
    have lb1 : b < w1.heap.size := by omega
    go_wp2
    refine wp_region_ov_tail 13 (by kernel_rfl) (by kernel_rfl) ?_
    simp only [List.take_succ_cons, List.take_zero, List.drop_succ_cons, List.drop_zero]
    repeat (go_big_quiet_step ((fail)))
    refine wpQuiet_nil ?_
    intro w2 hb2
    obtain ⟨hc2, hf2⟩ := bcell hb2
    have hs2 := hb2.size
    try simp only [World.size_alloc, World.size_setCell, World.size_drew] at hs2
    have hbb2 := hb2.mono (B' := w.heap.size) (by first | omega | (simp only [World.size_alloc, World.size_setCell, World.size_drew]; omega))
    have l2_0 : w.heap.size < w2.heap.size := by omega
    have lb2 : b < w2.heap.size := by omega
    go_wp2
    refine wp_region_ov_tail 13 (by kernel_rfl) (by kernel_rfl) ?_
    simp only [List.take_succ_cons, List.take_zero, List.drop_succ_cons, List.drop_zero]
    repeat (go_big_quiet_step ((fail)))
    refine wpQuiet_nil ?_
    intro w3 hb3
    obtain ⟨hc3, hf3⟩ := bcell hb3
    have hs3 := hb3.size
    try simp only [World.size_alloc, World.size_setCell, World.size_drew] at hs3
    have hbb3 := hb3.mono (B' := w.heap.size) (by first | omega | (simp only [World.size_alloc, World.size_setCell, World.size_drew]; omega))
    have l3_0 : w.heap.size < w3.heap.size := by omega
    have lb3 : b < w3.heap.size := by omega
    go_wp2
    go_returns
    refine ⟨rfl, ?_, ?_⟩
    · exact set_blk ((hb3.block b (by simp; omega)).trans (set_blk ((hb2.block b (by simp; omega)).trans (set_blk ((hb1.block b (by simp; omega)).trans (alloc_blk (set_blk (set_blk Hm.out (by rfl)) (by rfl)))) (by rfl))) (by rfl))) (by rfl)
    · exact ((((((((((Chg.refl b w).setCell _).setCell _).alloc _).trans (Chg.of_below hb1)).setCell _).trans (Chg.of_below hb2)).setCell _).trans (Chg.of_below hb3)).setCell _)

end Go.Proofs.Ytipoloehdheeeaa
