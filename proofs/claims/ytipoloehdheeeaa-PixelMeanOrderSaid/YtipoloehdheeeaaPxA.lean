/- Contracts of the reference's Mix and of Over and Mix of package pixel. -/
import Derived.Test.YtipoloehdheeeaaPx9
import Derived.Deep.RegionHeld3
namespace Go.Proofs.Ytipoloehdheeeaa
open Go.RowKit Pl
set_option linter.unusedVariables false
set_option linter.unusedSimpArgs false

set_option maxHeartbeats 1000000 in
theorem R_Mix (a b : Px) (t : Int) (w : World) (ha : a.ok) (hb : b.ok) :
    Calls Try.prog 22 #[Px.v a, Px.v b, .int .i64 t] w fun e w' => e = .returned (Px.v (mixP a b t)) ∧ Below w.heap.size w w' := by
  obtain ⟨qr, qg, qb, qa⟩ := a
  obtain ⟨pr, pg, pb, pa⟩ := b
  obtain ⟨⟨q1, q2⟩, ⟨q3, q4⟩, ⟨q5, q6⟩, ⟨q7, q8⟩⟩ := ha
  obtain ⟨⟨p1, p2⟩, ⟨p3, p4⟩, ⟨p5, p6⟩, ⟨p7, p8⟩⟩ := hb
  simp only at p1 p2 p3 p4 p5 p6 p7 p8 q1 q2 q3 q4 q5 q6 q7 q8
  have m1 := clampI_bd t
  have k := mixW_bd ⟨q7, q8⟩ ⟨p7, p8⟩ m1
  have kp : qa * (255 - clampI t) ≤ 65025 := by omega
  have kq : pa * clampI t ≤ 65025 := by omega
  have n1 := mixN_bd k.1 k.2.1 ⟨q1, q2⟩ ⟨p1, p2⟩
  have n2 := mixN_bd k.1 k.2.1 ⟨q3, q4⟩ ⟨p3, p4⟩
  have n3 := mixN_bd k.1 k.2.1 ⟨q5, q6⟩ ⟨p5, p6⟩
  by_cases h : roundI (qa * (255 - clampI t) + pa * clampI t) 255 = 0
  · have e1 : mixP ⟨qr, qg, qb, qa⟩ ⟨pr, pg, pb, pa⟩ t = ⟨0, 0, 0, 0⟩ := if_pos h
    have h' : (roundI (qa * (255 - clampI t) + pa * clampI t) 255 == 0) = true := by simpa using h
    rw [e1]; clear e1 h
    simp only [Px.v]
    go_enter Try.func22, Try.ntmps22
    go_wp2
    refine wp_region_ov (by kernel_rfl) (by kernel_rfl) ?_
    repeat (go_big_quiet_step ((first | (go_at_call 36; exact calls_ov_same (R_clamp _ _)))))
    refine wpQuiet_nil ?_
    intro w1 hb1
    obtain ⟨hc1, hf1⟩ := bcell hb1
    have hs1 := hb1.size
    try simp only [World.size_alloc, World.size_setCell, World.size_drew] at hs1
    have hbb1 := hb1.mono (B' := w.heap.size) (by first | omega | (simp only [World.size_alloc, World.size_setCell, World.size_drew]; omega))
    have l1_0 : w.heap.size < w1.heap.size := by omega
    have l1_1 : w.heap.size + 1 < w1.heap.size := by omega
    have l1_2 : w.heap.size + 1 + 1 < w1.heap.size := by omega
    go_wp2
    refine wp_region_ov (by kernel_rfl) (by kernel_rfl) ?_
    repeat (go_big_quiet_step ((first | (go_at_call 36; exact calls_ov_same (R_clamp _ _)))))
    refine wpQuiet_nil ?_
    intro w2 hb2
    obtain ⟨hc2, hf2⟩ := bcell hb2
    have hs2 := hb2.size
    try simp only [World.size_alloc, World.size_setCell, World.size_drew] at hs2
    have hbb2 := hb2.mono (B' := w.heap.size) (by first | omega | (simp only [World.size_alloc, World.size_setCell, World.size_drew]; omega))
    have l2_0 : w.heap.size < w2.heap.size := by omega
    have l2_1 : w.heap.size + 1 < w2.heap.size := by omega
    have l2_2 : w.heap.size + 1 + 1 < w2.heap.size := by omega
    go_wp2_with (first | (go_at_call 36; refine (R_clamp _ _).mono ?_; rintro e w' ⟨rfl, rfl⟩) | (go_at_call 42; refine (R_round _ _ _ (by omega) (by omega) (by omega) (by omega)).mono ?_; rintro e w' ⟨rfl, rfl⟩))
    refine bodyPost_ret (by simp [results, Try.results22, go_sem, hc1, hc2, l1_0, l1_1, l1_2, l2_0, l2_1, l2_2]; try rfl) rfl ?_
    refine ⟨rfl, ?_⟩
    repeat' (first | (with_reducible exact Below.refl _ _) | (with_reducible assumption) | (with_reducible refine Below.setCell ?_ (by dsimp only; omega) _) | (with_reducible refine Below.alloc ?_ (by first | omega | (simp only [World.size_alloc, World.size_setCell, World.size_drew]; omega)) _) | (with_reducible refine Below.drew ?_) | (with_reducible refine Below.trans ?_ hbb1) | (with_reducible refine Below.trans ?_ hbb2))
  · have e1 : mixP ⟨qr, qg, qb, qa⟩ ⟨pr, pg, pb, pa⟩ t = ⟨mixC (qa * (255 - clampI t)) (pa * clampI t) qr pr, mixC (qa * (255 - clampI t)) (pa * clampI t) qg pg, mixC (qa * (255 - clampI t)) (pa * clampI t) qb pb, roundI (qa * (255 - clampI t) + pa * clampI t) 255⟩ := if_neg h
    have h' : (roundI (qa * (255 - clampI t) + pa * clampI t) 255 == 0) = false := by simpa using h
    have hne := round_ne (by omega) (by omega) h
    have kr : 0 ≤ roundI (qa * (255 - clampI t) + pa * clampI t) 255 ∧ roundI (qa * (255 - clampI t) + pa * clampI t) 255 ≤ 255 := roundI_bd (by omega) (by omega) (by omega)
    have r1 := mixC_bd k.1 k.2.1 ⟨q1, q2⟩ ⟨p1, p2⟩ hne
    have r2 := mixC_bd k.1 k.2.1 ⟨q3, q4⟩ ⟨p3, p4⟩ hne
    have r3 := mixC_bd k.1 k.2.1 ⟨q5, q6⟩ ⟨p5, p6⟩ hne
    rw [e1]; clear e1 h
    unfold mixC at r1 r2 r3
    simp only [Px.v, mixC]
    have u1 := Int.mul_nonneg k.1 q1
    have u2 := Int.mul_nonneg k.2.1 p1
    have u3 := Int.mul_nonneg k.1 q3
    have u4 := Int.mul_nonneg k.2.1 p3
    have u5 := Int.mul_nonneg k.1 q5
    have u6 := Int.mul_nonneg k.2.1 p5
    go_enter Try.func22, Try.ntmps22
    go_wp2
    refine wp_region_ov (by kernel_rfl) (by kernel_rfl) ?_
    repeat (go_big_quiet_step ((first | (go_at_call 36; exact calls_ov_same (R_clamp _ _)))))
    refine wpQuiet_nil ?_
    intro w1 hb1
    obtain ⟨hc1, hf1⟩ := bcell hb1
    have hs1 := hb1.size
    try simp only [World.size_alloc, World.size_setCell, World.size_drew] at hs1
    have hbb1 := hb1.mono (B' := w.heap.size) (by first | omega | (simp only [World.size_alloc, World.size_setCell, World.size_drew]; omega))
    have l1_0 : w.heap.size < w1.heap.size := by omega
    have l1_1 : w.heap.size + 1 < w1.heap.size := by omega
    have l1_2 : w.heap.size + 1 + 1 < w1.heap.size := by omega
    go_wp2
    refine wp_region_ov (by kernel_rfl) (by kernel_rfl) ?_
    repeat (go_big_quiet_step ((first | (go_at_call 36; exact calls_ov_same (R_clamp _ _)))))
    refine wpQuiet_nil ?_
    intro w2 hb2
    obtain ⟨hc2, hf2⟩ := bcell hb2
    have hs2 := hb2.size
    try simp only [World.size_alloc, World.size_setCell, World.size_drew] at hs2
    have hbb2 := hb2.mono (B' := w.heap.size) (by first | omega | (simp only [World.size_alloc, World.size_setCell, World.size_drew]; omega))
    have l2_0 : w.heap.size < w2.heap.size := by omega
    have l2_1 : w.heap.size + 1 < w2.heap.size := by omega
    have l2_2 : w.heap.size + 1 + 1 < w2.heap.size := by omega
    go_wp2_with (first | (go_at_call 36; refine (R_clamp _ _).mono ?_; rintro e w' ⟨rfl, rfl⟩) | (go_at_call 42; refine (R_round _ _ _ (by omega) (by omega) (by omega) (by omega)).mono ?_; rintro e w' ⟨rfl, rfl⟩))
    refine bodyPost_ret (by simp [results, Try.results22, go_sem, hc1, hc2, l1_0, l1_1, l1_2, l2_0, l2_1, l2_2]; try rfl) rfl ?_
    refine ⟨rfl, ?_⟩
    repeat' (first | (with_reducible exact Below.refl _ _) | (with_reducible assumption) | (with_reducible refine Below.setCell ?_ (by dsimp only; omega) _) | (with_reducible refine Below.alloc ?_ (by first | omega | (simp only [World.size_alloc, World.size_setCell, World.size_drew]; omega)) _) | (with_reducible refine Below.drew ?_) | (with_reducible refine Below.trans ?_ hbb1) | (with_reducible refine Below.trans ?_ hbb2))

end Go.Proofs.Ytipoloehdheeeaa
