/- The sanity check of the pixel laws returns true. -/
import Derived.Test.YtipoloehdheeeaaPxC
namespace Go.Proofs.Ytipoloehdheeeaa
open Go.RowKit Pl
set_option linter.unusedVariables false
set_option linter.unusedSimpArgs false

/-- '==' of two pixels. -/
theorem eql_px (p q : Px) (w : World) : (binOp .eql 27 (Px.v p) (Px.v q)).run Try.prog w = .ok (.bool (p.r == q.r && (p.g == q.g && (p.b == q.b && p.a == q.a)))) w := by
  obtain ⟨r, g, b, a⟩ := p
  obtain ⟨r', g', b', a'⟩ := q
  simp only [Px.v]
  by_cases h1 : r = r' <;> by_cases h2 : g = g' <;> by_cases h3 : b = b' <;> by_cases h4 : a = a' <;> simp [go_sem, h1, h2, h3, h4]
theorem eql_px_same (p : Px) (w : World) : (binOp .eql 27 (Px.v p) (Px.v p)).run Try.prog w = .ok (.bool true) w := by
  rw [eql_px]; simp

theorem s_Over (w : World) : Calls Try.prog 18 #[.agg #[.int .u8 0, .int .u8 0, .int .u8 255, .int .u8 255], .agg #[.int .u8 255, .int .u8 0, .int .u8 0, .int .u8 255], .int .i64 0, .int .i64 51] w
    fun e w' => e = .returned (.agg #[.int .u8 51, .int .u8 0, .int .u8 204, .int .u8 255]) ∧ Below w.heap.size w w' :=
  P_Over ⟨0, 0, 255, 255⟩ ⟨255, 0, 0, 255⟩ 0 51 w (by unfold Px.ok; simp) (by unfold Px.ok; simp)
theorem s_Mix (w : World) : Calls Try.prog 20 #[.agg #[.int .u8 255, .int .u8 0, .int .u8 0, .int .u8 255], .agg #[.int .u8 0, .int .u8 0, .int .u8 0, .int .u8 0], .int .i64 51] w
    fun e w' => e = .returned (.agg #[.int .u8 255, .int .u8 0, .int .u8 0, .int .u8 204]) ∧ Below w.heap.size w w' :=
  P_Mix ⟨255, 0, 0, 255⟩ ⟨0, 0, 0, 0⟩ 51 w (by unfold Px.ok; simp) (by unfold Px.ok; simp)
theorem s_Mul (w : World) : Calls Try.prog 16 #[.int .i64 128, .int .i64 128] w fun e w' => e = .returned (.int .i64 64) ∧ w = w' := P_Mul 128 128 w
theorem s_Blend (w : World) : Calls Try.prog 14 #[.int .i64 2, .int .i64 100, .int .i64 200] w fun e w' => e = .returned (.int .i64 222) ∧ Below w.heap.size w w' := P_Blend 2 100 200 w

set_option maxHeartbeats 1000000 in
theorem sanity (w : World) : Calls Try.prog 13 #[] w fun e w' => e = .returned (.bool true) ∧ Below w.heap.size w w' := by
  go_enter Try.func13, Try.ntmps13
  go_wp2_with fail
  refine (s_Over _).mono ?_
  rintro e w1 ⟨rfl, hb1⟩
  obtain ⟨hc1, hf1⟩ := bcell hb1
  have hs1 := hb1.size
  try simp only [World.size_alloc, World.size_setCell, World.size_drew] at hs1
  have hbb1 := hb1.mono (B' := w.heap.size) (by first | omega | (simp only [World.size_alloc, World.size_setCell, World.size_drew]; omega))
  have l1_0 : w.heap.size < w1.heap.size := by omega
  have l1_1 : w.heap.size + 1 < w1.heap.size := by omega
  go_wp2_with fail
  refine (s_Mix _).mono ?_
  rintro e w2 ⟨rfl, hb2⟩
  obtain ⟨hc2, hf2⟩ := bcell hb2
  have hs2 := hb2.size
  try simp only [World.size_alloc, World.size_setCell, World.size_drew] at hs2
  have hbb2 := hb2.mono (B' := w.heap.size) (by first | omega | (simp only [World.size_alloc, World.size_setCell, World.size_drew]; omega))
  have l2_0 : w.heap.size < w2.heap.size := by omega
  have l2_1 : w.heap.size + 1 < w2.heap.size := by omega
  have l2_3 : w1.heap.size < w2.heap.size := by omega
  go_wp2_with fail
  refine (s_Mul _).mono ?_
  rintro e w3 ⟨rfl, rfl⟩
  go_wp2_with fail
  refine (s_Blend _).mono ?_
  rintro e w3 ⟨rfl, hb3⟩
  obtain ⟨hc3, hf3⟩ := bcell hb3
  have hs3 := hb3.size
  try simp only [World.size_alloc, World.size_setCell, World.size_drew] at hs3
  have hbb3 := hb3.mono (B' := w.heap.size) (by first | omega | (simp only [World.size_alloc, World.size_setCell, World.size_drew]; omega))
  have l3_0 : w.heap.size < w3.heap.size := by omega
  have l3_1 : w.heap.size + 1 < w3.heap.size := by omega
  have l3_3 : w1.heap.size < w3.heap.size := by omega
  have l3_4 : w2.heap.size < w3.heap.size := by omega
  go_wp2_with fail
  go_ret
  refine ⟨rfl, ?_⟩
  repeat' (first | (with_reducible exact Below.refl _ _) | (with_reducible assumption) | (with_reducible refine Below.setCell ?_ (by dsimp only; omega) _) | (with_reducible refine Below.alloc ?_ (by first | omega | (simp only [World.size_alloc, World.size_setCell, World.size_drew]; omega)) _) | (with_reducible refine Below.drew ?_) | (with_reducible refine Below.trans ?_ hbb1) | (with_reducible refine Below.trans ?_ hbb2) | (with_reducible refine Below.trans ?_ hbb3))

end Go.Proofs.Ytipoloehdheeeaa
