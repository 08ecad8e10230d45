/- Contracts of the reference's channel, Over, Mix. -/
import Derived.Test.YtelfkakaaobfcaaPx8
namespace Go.Proofs.Ytelfkakaaobfcaa
open Go.RowKit Pl
set_option linter.unusedVariables false
set_option linter.unusedSimpArgs false

theorem overW_def (u v : Int) : 255 * u + 255 * v - u * v = overW u v := rfl

set_option maxHeartbeats 400000 in
theorem R_channel (m u v b s W : Int) (w : World) (hu0 : 0 ≤ u) (hu1 : u ≤ 255) (hv0 : 0 ≤ v) (hv1 : v ≤ 255) (hb0 : 0 ≤ b) (hb1 : b ≤ 255) (hs0 : 0 ≤ s) (hs1 : s ≤ 255)
    (hW0 : W = overW u v) (hW1 : 1 ≤ W) :
    Calls Try.prog 53 #[.int .i64 m, .int .i64 u, .int .i64 v, .int .i64 b, .int .i64 s, .int .i64 W] w
      fun e w' => e = .returned (.int .u8 (overC m u v b s)) ∧ w = w' := by
  have hx := blendI_bd m b s
  have w1 : 0 ≤ u * (255 - v) := Int.mul_nonneg hu0 (by omega)
  have w2 : 0 ≤ u * v := Int.mul_nonneg hu0 hv0
  have w3 : 0 ≤ (255 - u) * v := Int.mul_nonneg (by omega) hv0
  have a1 := Int.mul_nonneg w1 hs0
  have a2 := Int.mul_nonneg w2 hx.1
  have a3 := Int.mul_nonneg w3 hb0
  have d1 := Int.mul_le_mul_of_nonneg_left hs1 w1
  have d2 := Int.mul_le_mul_of_nonneg_left hx.2 w2
  have d3 := Int.mul_le_mul_of_nonneg_left hb1 w3
  have e := overW_eq u v
  have k := overW_bd hu0 hu1 hv0 hv1
  have hcb := overC_bd (m := m) hu0 hu1 hv0 hv1 hb0 hb1 hs0 hs1 (by omega)
  have hfin : roundI (u * (255 - v) * s + u * v * blendI m b s + (255 - u) * v * b) W = overC m u v b s := by rw [hW0]; rfl
  have hrb : 0 ≤ roundI (u * (255 - v) * s + u * v * blendI m b s + (255 - u) * v * b) W ∧ roundI (u * (255 - v) * s + u * v * blendI m b s + (255 - u) * v * b) W ≤ 255 := by rw [hfin]; exact hcb
  have Hfin := Lib.hid hfin
  have k2 : W ≤ 65025 := by omega
  have k3 : u * (255 - v) ≤ 65025 := by omega
  have k4 : u * v ≤ 65025 := by omega
  have k5 : (255 - u) * v ≤ 65025 := by omega
  clear hfin e hW0 hcb
  go_enter Try.func53, Try.ntmps53
  go_wp2_with (first | (go_at_call 61; refine (R_Blend _ _ _ _).mono ?_; rintro e w' ⟨rfl, rfl⟩) | (go_at_call 54; refine (R_round _ _ _ (by omega) (by omega) (by omega) (by omega)).mono ?_; rintro e w' ⟨rfl, rfl⟩))
  go_ret
  exact ⟨ret_int Hfin.out, rfl⟩

set_option maxHeartbeats 1000000 in
theorem R_Over (q p : Px) (m c : Int) (w : World) (hq : q.ok) (hp : p.ok) :
    Calls Try.prog 42 #[Px.v q, Px.v p, .int .i64 m, .int .i64 c] w fun e w' => e = .returned (Px.v (overP q p m c)) ∧ Below w.heap.size w w' := by
  obtain ⟨qr, qg, qb, qa⟩ := q
  obtain ⟨pr, pg, pb, pa⟩ := p
  obtain ⟨⟨q1, q2⟩, ⟨q3, q4⟩, ⟨q5, q6⟩, ⟨q7, q8⟩⟩ := hq
  obtain ⟨⟨p1, p2⟩, ⟨p3, p4⟩, ⟨p5, p6⟩, ⟨p7, p8⟩⟩ := hp
  simp only at p1 p2 p3 p4 p5 p6 p7 p8 q1 q2 q3 q4 q5 q6 q7 q8
  have m1 := mulI_bd pa c
  have k := overW_bd m1.1 m1.2 q7 q8
  have kk : 0 ≤ 255 * mulI pa c + 255 * qa - mulI pa c * qa ∧ 255 * mulI pa c + 255 * qa - mulI pa c * qa ≤ 65025 := k
  have k1 : 0 ≤ mulI pa c * qa ∧ mulI pa c * qa ≤ 255 * 255 := mul_bd m1.1 m1.2 q7 q8
  by_cases h : overW (mulI pa c) qa = 0
  · have e1 : overP ⟨qr, qg, qb, qa⟩ ⟨pr, pg, pb, pa⟩ m c = ⟨0, 0, 0, 0⟩ := if_pos h
    have h' : (255 * mulI pa c + 255 * qa - mulI pa c * qa == 0) = true := by simpa [overW] using h
    rw [e1]; clear e1 h k
    simp only [Px.v]
    go_enter Try.func42, Try.ntmps42
    go_wp2_with (first | (go_at_call 52; refine (R_Mul _ _ _).mono ?_; rintro e w' ⟨rfl, rfl⟩) | (go_at_call 54; refine (R_round _ _ _ (by omega) (by omega) (by omega) (by omega)).mono ?_; rintro e w' ⟨rfl, rfl⟩) | (go_at_call 53; refine (R_channel _ _ _ _ _ _ _ (by omega) (by omega) (by omega) (by omega) (by omega) (by omega) (by omega) (by omega) (overW_def _ _) (by omega)).mono ?_; rintro e w' ⟨rfl, rfl⟩))
    go_returns
    refine ⟨rfl, ?_⟩
    repeat' (first | (with_reducible exact Below.refl _ _) | (with_reducible assumption) | (with_reducible refine Below.setCell ?_ (by dsimp only; omega) _) | (with_reducible refine Below.alloc ?_ (by first | omega | (simp only [World.size_alloc, World.size_setCell, World.size_drew]; omega)) _) | (with_reducible refine Below.drew ?_))
  · have e1 : overP ⟨qr, qg, qb, qa⟩ ⟨pr, pg, pb, pa⟩ m c = ⟨overC m (mulI pa c) qa qr pr, overC m (mulI pa c) qa qg pg, overC m (mulI pa c) qa qb pb, roundI (overW (mulI pa c) qa) 255⟩ := if_neg h
    have h' : (255 * mulI pa c + 255 * qa - mulI pa c * qa == 0) = false := by simpa [overW] using h
    have k0 : roundI (overW (mulI pa c) qa) 255 = roundI (255 * mulI pa c + 255 * qa - mulI pa c * qa) 255 := rfl
    have k2 : 0 ≤ roundI (255 * mulI pa c + 255 * qa - mulI pa c * qa) 255 ∧ roundI (255 * mulI pa c + 255 * qa - mulI pa c * qa) 255 ≤ 255 := roundI_bd kk.1 (by omega) (by omega)
    have k3 : 1 ≤ 255 * mulI pa c + 255 * qa - mulI pa c * qa := by unfold overW at h k; omega
    have k4 : 255 * mulI pa c + 255 * qa - mulI pa c * qa ≤ 65025 := k.2
    rw [e1, k0]; clear e1 h k k0
    simp only [Px.v]
    go_enter Try.func42, Try.ntmps42
    go_wp2_with (first | (go_at_call 52; refine (R_Mul _ _ _).mono ?_; rintro e w' ⟨rfl, rfl⟩) | (go_at_call 54; refine (R_round _ _ _ (by omega) (by omega) (by omega) (by omega)).mono ?_; rintro e w' ⟨rfl, rfl⟩) | (go_at_call 53; refine (R_channel _ _ _ _ _ _ _ (by omega) (by omega) (by omega) (by omega) (by omega) (by omega) (by omega) (by omega) (overW_def _ _) (by omega)).mono ?_; rintro e w' ⟨rfl, rfl⟩))
    go_returns
    refine ⟨rfl, ?_⟩
    repeat' (first | (with_reducible exact Below.refl _ _) | (with_reducible assumption) | (with_reducible refine Below.setCell ?_ (by dsimp only; omega) _) | (with_reducible refine Below.alloc ?_ (by first | omega | (simp only [World.size_alloc, World.size_setCell, World.size_drew]; omega)) _) | (with_reducible refine Below.drew ?_))

end Go.Proofs.Ytelfkakaaobfcaa
