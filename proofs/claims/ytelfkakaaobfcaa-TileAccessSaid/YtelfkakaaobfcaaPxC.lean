/- The contract of Over of package pixel. -/
import Derived.Test.YtelfkakaaobfcaaPxB
namespace Go.Proofs.Ytelfkakaaobfcaa
open Go.RowKit Pl
set_option linter.unusedVariables false
set_option linter.unusedSimpArgs false

set_option maxHeartbeats 1000000 in
theorem P_Over (q p : Px) (m c : Int) (w : World) (hq : q.ok) (hp : p.ok) :
    Calls Try.prog 30 #[Px.v q, Px.v p, .int .i64 m, .int .i64 c] w fun e w' => e = .returned (Px.v (overP q p m c)) ∧ Below w.heap.size w w' := by
  obtain ⟨qr, qg, qb, qa⟩ := q
  obtain ⟨pr, pg, pb, pa⟩ := p
  have hka := Lib.hid hq
  have hkb := Lib.hid hp
  obtain ⟨⟨q1, q2⟩, ⟨q3, q4⟩, ⟨q5, q6⟩, ⟨q7, q8⟩⟩ := hq
  obtain ⟨⟨p1, p2⟩, ⟨p3, p4⟩, ⟨p5, p6⟩, ⟨p7, p8⟩⟩ := hp
  simp only at p1 p2 p3 p4 p5 p6 p7 p8 q1 q2 q3 q4 q5 q6 q7 q8
  have m1 := mulI_bd pa c
  have k := overW_bd m1.1 m1.2 q7 q8
  have kk : 0 ≤ 255 * mulI pa c + 255 * qa - mulI pa c * qa ∧ 255 * mulI pa c + 255 * qa - mulI pa c * qa ≤ 65025 := k
  have k1 : 0 ≤ mulI pa c * qa ∧ mulI pa c * qa ≤ 255 * 255 := mul_bd m1.1 m1.2 q7 q8
  by_cases h : overW (mulI pa c) qa = 0
  · have e1 : overP ⟨qr, qg, qb, qa⟩ ⟨pr, pg, pb, pa⟩ m c = ⟨0, 0, 0, 0⟩ := if_pos h
    have h' : (255 * mulI pa c + 255 * qa - mulI pa c * qa == 0) = true := by simpa [overW] using h
    rw [e1]; clear e1 h k
    simp only [Px.v]
    go_enter Try.func30, Try.ntmps30
    go_wp2
    go_region_held3 (fun wx => wx.cell? ⟨w.heap.size, 3, none⟩ = some (.int .u8 qa) ∧ wx.cell? ⟨w.heap.size + 1, 3, none⟩ = some (.int .u8 pa)) (simp [go_sem]) (first | (go_at_call 44; refine (P_Mul _ _ _).mono ?_; rintro e w' ⟨rfl, rfl⟩))
    all_goals (
      go_wp2_with (first | (go_at_call 46; refine (P_round _ _ _ (by omega) (by omega) (by omega) (by omega)).mono ?_; rintro e w' ⟨rfl, rfl⟩))
      go_returns
      refine ⟨rfl, ?_⟩
      repeat' (first | (with_reducible exact Below.refl _ _) | (with_reducible assumption) | (with_reducible refine Below.setCell ?_ (by dsimp only; omega) _) | (with_reducible refine Below.alloc ?_ (by first | omega | (simp only [World.size_alloc, World.size_setCell, World.size_drew]; omega)) _) | (with_reducible refine Below.drew ?_)))
  · have e1 : overP ⟨qr, qg, qb, qa⟩ ⟨pr, pg, pb, pa⟩ m c = ⟨overC m (mulI pa c) qa qr pr, overC m (mulI pa c) qa qg pg, overC m (mulI pa c) qa qb pb, roundI (255 * mulI pa c + 255 * qa - mulI pa c * qa) 255⟩ := if_neg h
    have h' : (255 * mulI pa c + 255 * qa - mulI pa c * qa == 0) = false := by simpa [overW] using h
    have k3 : 1 ≤ 255 * mulI pa c + 255 * qa - mulI pa c * qa := by unfold overW at h k; omega
    have kr : 0 ≤ roundI (255 * mulI pa c + 255 * qa - mulI pa c * qa) 255 ∧ roundI (255 * mulI pa c + 255 * qa - mulI pa c * qa) 255 ≤ 255 := roundI_bd kk.1 (by omega) (by omega)
    have hφ : ∀ x y, 0 ≤ x → x ≤ 255 → 0 ≤ y → y ≤ 255 → 0 ≤ overC m (mulI pa c) qa x y ∧ overC m (mulI pa c) qa x y ≤ 255 :=
      fun x y h1 h2 h3 h4 => overC_bd m1.1 m1.2 q7 q8 h1 h2 h3 h4 h
    have Hφ := Lib.hid hφ
    rw [e1]; clear e1 h hφ k
    simp only [Px.v]
    go_enter Try.func30, Try.ntmps30
    go_wp2
    go_region_held3 (fun wx => wx.cell? ⟨w.heap.size, 3, none⟩ = some (.int .u8 qa) ∧ wx.cell? ⟨w.heap.size + 1, 3, none⟩ = some (.int .u8 pa)) (simp [go_sem]) (first | (go_at_call 44; refine (P_Mul _ _ _).mono ?_; rintro e w' ⟨rfl, rfl⟩))
    all_goals (
      go_wp2
      refine wp_region_ov_tail 6 (by kernel_rfl) (by kernel_rfl) ?_
      simp only [List.take_succ_cons, List.take_zero, List.drop_succ_cons, List.drop_zero]
      repeat (go_big_quiet_step ((first | (go_at_call 46; exact calls_ov_same (P_round _ _ _ (by omega) (by omega) (by omega) (by omega))) | (go_at_call 45; exact calls_ov (P_channels ⟨_, _, _, _⟩ ⟨_, _, _, _⟩ _ 47 _ (overC m (mulI pa c) qa) _ hka.out hkb.out (by omega) (by omega) Hφ.out cf_Over1 (Clo_Over _ _ _ _ _ _ _ _ _ (by omega) (by omega) (by omega) (by omega) (overW_def _ _) (by omega) (by simp [go_sem]) (by simp [go_sem]) (by simp [go_sem]) (by simp [go_sem])))))))
      refine wpQuiet_nil ?_
      intro w1 hb1
      obtain ⟨hc1, hf1⟩ := bcell hb1
      have hs1 := hb1.size
      try simp only [World.size_alloc, World.size_setCell, World.size_drew] at hs1
      have hbb1 := hb1.mono (B' := w.heap.size) (by first | omega | (simp only [World.size_alloc, World.size_setCell, World.size_drew]; omega))
      have l1_0 : w.heap.size < w1.heap.size := by omega
      have l1_1 : w.heap.size + 1 < w1.heap.size := by omega
      have l1_2 : w.heap.size + 1 + 1 < w1.heap.size := by omega
      have l1_3 : w.heap.size + 1 + 1 + 1 < w1.heap.size := by omega
      have l1_4 : w.heap.size + 1 + 1 + 1 + 1 < w1.heap.size := by omega
      have l1_5 : w.heap.size + 1 + 1 + 1 + 1 + 1 < w1.heap.size := by omega
      have l1_6 : w.heap.size + 1 + 1 + 1 + 1 + 1 + 1 < w1.heap.size := by omega
      simp only [Px.v]
      go_wp2
      refine bodyPost_ret (by simp [results, Try.results30, go_sem, hc1, l1_0, l1_1, l1_2, l1_3, l1_4, l1_5, l1_6]; try rfl) rfl ?_
      refine ⟨rfl, ?_⟩
      repeat' (first | (with_reducible exact Below.refl _ _) | (with_reducible assumption) | (with_reducible refine Below.setCell ?_ (by dsimp only; omega) _) | (with_reducible refine Below.alloc ?_ (by first | omega | (simp only [World.size_alloc, World.size_setCell, World.size_drew]; omega)) _) | (with_reducible refine Below.drew ?_) | (with_reducible refine Below.trans ?_ hbb1)))

end Go.Proofs.Ytelfkakaaobfcaa
