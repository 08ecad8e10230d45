/- Contracts of Over and Mix of package pixel. -/
import Derived.Test.YtipoloehdheeeaaPxA
namespace Go.Proofs.Ytipoloehdheeeaa
open Go.RowKit Pl
set_option linter.unusedVariables false
set_option linter.unusedSimpArgs false

theorem cf_Mix1 (args : Array Value) (w : World) : (callFunc 47 args).run Try.prog w = .ok (.enter 47 args) w := by kernel_rfl
theorem cf_Over1 (args : Array Value) (w : World) : (callFunc 45 args).run Try.prog w = .ok (.enter 45 args) w := by kernel_rfl

theorem Clo_Mix (p q : Int) (ap aq : Nat) (w : World) (hp : 0 ≤ p) (hq : 0 ≤ q) (hpq : p + q ≤ 65025) (hpq1 : 1 ≤ p + q)
    (cp : w.cell? ⟨ap, 0, none⟩ = some (.int .i64 p)) (cq : w.cell? ⟨aq, 0, none⟩ = some (.int .i64 q)) :
    Clo 47 #[.pointer (some ⟨ap, 0, none⟩), .pointer (some ⟨aq, 0, none⟩)] (mixC p q) w := by
  intro x y wx hb hx0 hx1 hy0 hy1
  have lp := World.block_lt_of_cell? w _ cp
  have lq := World.block_lt_of_cell? w _ cq
  refine (P_Mix1 p q x y ap aq wx hp hq hpq hpq1 hx0 hx1 hy0 hy1 (Nat.lt_of_lt_of_le lp hb.size) (Nat.lt_of_lt_of_le lq hb.size) ((hb.cell lp).trans cp) ((hb.cell lq).trans cq)).mono ?_
  rintro e w' ⟨he, rfl⟩
  exact ⟨he, Below.refl _ _⟩

theorem Clo_Over (m u v W : Int) (au av am aw : Nat) (w : World) (hu0 : 0 ≤ u) (hu1 : u ≤ 255) (hv0 : 0 ≤ v) (hv1 : v ≤ 255) (hW0 : W = overW u v) (hW1 : 1 ≤ W)
    (cu : w.cell? ⟨au, 0, none⟩ = some (.int .i64 u)) (cv : w.cell? ⟨av, 0, none⟩ = some (.int .i64 v)) (cm : w.cell? ⟨am, 0, none⟩ = some (.int .i64 m)) (cw : w.cell? ⟨aw, 0, none⟩ = some (.int .i64 W)) :
    Clo 45 #[.pointer (some ⟨au, 0, none⟩), .pointer (some ⟨av, 0, none⟩), .pointer (some ⟨am, 0, none⟩), .pointer (some ⟨aw, 0, none⟩)] (overC m u v) w := by
  intro x y wx hb hx0 hx1 hy0 hy1
  have lu := World.block_lt_of_cell? w _ cu
  have lv := World.block_lt_of_cell? w _ cv
  have lm := World.block_lt_of_cell? w _ cm
  have lw := World.block_lt_of_cell? w _ cw
  exact P_Over1 m u v W x y au av am aw wx hu0 hu1 hv0 hv1 hx0 hx1 hy0 hy1 hW0 hW1 (Nat.lt_of_lt_of_le lu hb.size) (Nat.lt_of_lt_of_le lv hb.size) (Nat.lt_of_lt_of_le lm hb.size) (Nat.lt_of_lt_of_le lw hb.size)
    ((hb.cell lu).trans cu) ((hb.cell lv).trans cv) ((hb.cell lm).trans cm) ((hb.cell lw).trans cw)

set_option maxHeartbeats 1000000 in
theorem P_Mix (a b : Px) (t : Int) (w : World) (ha : a.ok) (hb : b.ok) :
    Calls Try.prog 20 #[Px.v a, Px.v b, .int .i64 t] w fun e w' => e = .returned (Px.v (mixP a b t)) ∧ Below w.heap.size w w' := by
  obtain ⟨qr, qg, qb, qa⟩ := a
  obtain ⟨pr, pg, pb, pa⟩ := b
  have hka := ha
  have hkb := hb
  obtain ⟨⟨q1, q2⟩, ⟨q3, q4⟩, ⟨q5, q6⟩, ⟨q7, q8⟩⟩ := ha
  obtain ⟨⟨p1, p2⟩, ⟨p3, p4⟩, ⟨p5, p6⟩, ⟨p7, p8⟩⟩ := hb
  simp only at p1 p2 p3 p4 p5 p6 p7 p8 q1 q2 q3 q4 q5 q6 q7 q8
  have m1 := clampI_bd t
  have k := mixW_bd ⟨q7, q8⟩ ⟨p7, p8⟩ m1
  have kp : qa * (255 - clampI t) ≤ 65025 := by omega
  have kq : pa * clampI t ≤ 65025 := by omega
  have kr : 0 ≤ roundI (qa * (255 - clampI t) + pa * clampI t) 255 ∧ roundI (qa * (255 - clampI t) + pa * clampI t) 255 ≤ 255 := roundI_bd (by omega) (by omega) (by omega)
  have hka' := Lib.hid hka
  have hkb' := Lib.hid hkb
  clear hka hkb
  by_cases h : roundI (qa * (255 - clampI t) + pa * clampI t) 255 = 0
  · have e1 : mixP ⟨qr, qg, qb, qa⟩ ⟨pr, pg, pb, pa⟩ t = ⟨0, 0, 0, 0⟩ := if_pos h
    have h' : (roundI (qa * (255 - clampI t) + pa * clampI t) 255 == 0) = true := by simpa using h
    rw [e1]; clear e1 h
    simp only [Px.v]
    go_enter Try.func20, Try.ntmps20
    go_wp2_with (first | (go_at_call 35; refine (P_clamp _ _).mono ?_; rintro e w' ⟨rfl, rfl⟩) | (go_at_call 43; refine (P_round _ _ _ (by omega) (by omega) (by omega) (by omega)).mono ?_; rintro e w' ⟨rfl, rfl⟩))
    go_region
    all_goals (
      go_wp2_with (first | (go_at_call 35; refine (P_clamp _ _).mono ?_; rintro e w' ⟨rfl, rfl⟩) | (go_at_call 43; refine (P_round _ _ _ (by omega) (by omega) (by omega) (by omega)).mono ?_; rintro e w' ⟨rfl, rfl⟩))
      go_returns
      refine ⟨rfl, ?_⟩
      repeat' (first | (with_reducible exact Below.refl _ _) | (with_reducible assumption) | (with_reducible refine Below.setCell ?_ (by dsimp only; omega) _) | (with_reducible refine Below.alloc ?_ (by first | omega | (simp only [World.size_alloc, World.size_setCell, World.size_drew]; omega)) _) | (with_reducible refine Below.drew ?_)))
  · have e1 : mixP ⟨qr, qg, qb, qa⟩ ⟨pr, pg, pb, pa⟩ t = ⟨mixC (qa * (255 - clampI t)) (pa * clampI t) qr pr, mixC (qa * (255 - clampI t)) (pa * clampI t) qg pg, mixC (qa * (255 - clampI t)) (pa * clampI t) qb pb, roundI (qa * (255 - clampI t) + pa * clampI t) 255⟩ := if_neg h
    have h' : (roundI (qa * (255 - clampI t) + pa * clampI t) 255 == 0) = false := by simpa using h
    have hne := round_ne (by omega) (by omega) h
    have hφ : ∀ x y, 0 ≤ x → x ≤ 255 → 0 ≤ y → y ≤ 255 → 0 ≤ mixC (qa * (255 - clampI t)) (pa * clampI t) x y ∧ mixC (qa * (255 - clampI t)) (pa * clampI t) x y ≤ 255 :=
      fun x y h1 h2 h3 h4 => mixC_bd k.1 k.2.1 ⟨h1, h2⟩ ⟨h3, h4⟩ hne
    have Hφ := Lib.hid hφ
    rw [e1]; clear e1 h hφ
    simp only [Px.v]
    go_enter Try.func20, Try.ntmps20
    go_wp2_with (first | (go_at_call 35; refine (P_clamp _ _).mono ?_; rintro e w' ⟨rfl, rfl⟩) | (go_at_call 43; refine (P_round _ _ _ (by omega) (by omega) (by omega) (by omega)).mono ?_; rintro e w' ⟨rfl, rfl⟩))
    go_region
    all_goals (
      go_wp2_with (first | (go_at_call 35; refine (P_clamp _ _).mono ?_; rintro e w' ⟨rfl, rfl⟩) | (go_at_call 43; refine (P_round _ _ _ (by omega) (by omega) (by omega) (by omega)).mono ?_; rintro e w' ⟨rfl, rfl⟩))
      refine (P_channels ⟨_, _, _, _⟩ ⟨_, _, _, _⟩ _ 47 _ (mixC (qa * (255 - clampI t)) (pa * clampI t)) _ hka'.out hkb'.out (by omega) (by omega) Hφ.out cf_Mix1 (Clo_Mix _ _ _ _ _ (by omega) (by omega) (by omega) (by omega) (by simp [go_sem]) (by simp [go_sem]))).mono ?_
      rintro e w1 ⟨rfl, hb1⟩
      obtain ⟨hc1, hf1⟩ := bcell hb1
      have hs1 := hb1.size
      try simp only [World.size_alloc, World.size_setCell, World.size_drew] at hs1
      have hbb1 := hb1.mono (B' := w.heap.size) (by first | omega | (simp only [World.size_alloc, World.size_setCell, World.size_drew]; omega))
      have l1_0 : w.heap.size < w1.heap.size := by omega
      have l1_1 : w.heap.size + 1 < w1.heap.size := by omega
      have l1_2 : w.heap.size + 1 + 1 < w1.heap.size := by omega
      have l1_3 : w.heap.size + 1 + 1 + 1 < w1.heap.size := by omega
      have l1_4 : w.heap.size + 1 + 1 + 1 + 1 < w1.heap.size := by omega
      simp only [Px.v]
      go_wp2
      refine bodyPost_ret (by simp [results, Try.results20, go_sem, hc1, l1_0, l1_1, l1_2, l1_3, l1_4]; try rfl) rfl ?_
      refine ⟨rfl, ?_⟩
      repeat' (first | (with_reducible exact Below.refl _ _) | (with_reducible assumption) | (with_reducible refine Below.setCell ?_ (by dsimp only; omega) _) | (with_reducible refine Below.alloc ?_ (by first | omega | (simp only [World.size_alloc, World.size_setCell, World.size_drew]; omega)) _) | (with_reducible refine Below.drew ?_) | (with_reducible refine Below.trans ?_ hbb1)))

end Go.Proofs.Ytipoloehdheeeaa
