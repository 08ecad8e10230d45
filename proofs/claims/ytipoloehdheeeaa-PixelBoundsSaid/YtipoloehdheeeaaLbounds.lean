/- PixelBounds: each channel of a composited pixel lies between the least and the greatest of the backdrop, the source and the blended value, and its alpha is at least that of the backdrop and of the faded source: the law returns true for every input, and its arguments read as they did. No condition. -/
import Derived.Test.YtipoloehdheeeaaPs
import Derived.Test.YtipoloehdheeeaaPb
import Derived.Test.YtipoloehdheeeaaFr
namespace Go.Proofs.Ytipoloehdheeeaa
open Go.RowKit Pl
set_option linter.unusedVariables false
set_option linter.unusedSimpArgs false

/-- What PixelBounds asks of one channel, as the walk spells it. -/
theorem chan_lo {m u v b s W : Int} (h : min b (min s (blendI m b s)) ≤ W) : ¬ W < (if blendI m b s < (if s < b then s else b) then blendI m b s else (if s < b then s else b)) := by
  generalize blendI m b s = x at *
  split <;> split at * <;> omega
theorem chan_hi {m u v b s W : Int} (h : W ≤ max b (max s (blendI m b s))) : ¬ (if (if b < s then s else b) < blendI m b s then blendI m b s else (if b < s then s else b)) < W := by
  generalize blendI m b s = x at *
  split <;> split at * <;> omega

/-- A composited pixel: what the law asks of it. -/
theorem over_facts {q p : Px} (hq : q.ok) (hp : p.ok) (m c : Int) : ∃ r g b a : Int, overP q p m c = ⟨r, g, b, a⟩ ∧ Px.ok ⟨r, g, b, a⟩ ∧ q.a ≤ a ∧ (fadeP p c).a ≤ a ∧ (a = 0 → r = 0 ∧ g = 0 ∧ b = 0) ∧
    (a ≠ 0 → (min q.r (min p.r (blendI m q.r p.r)) ≤ r ∧ r ≤ max q.r (max p.r (blendI m q.r p.r))) ∧ (min q.g (min p.g (blendI m q.g p.g)) ≤ g ∧ g ≤ max q.g (max p.g (blendI m q.g p.g))) ∧ (min q.b (min p.b (blendI m q.b p.b)) ≤ b ∧ b ≤ max q.b (max p.b (blendI m q.b p.b)))) := by
  have h1 := overP_alpha hq hp m c
  have h2 := overP_zero hq hp (m := m) (c := c)
  have h3 := overP_ok hq hp m c
  refine ⟨(overP q p m c).r, (overP q p m c).g, (overP q p m c).b, (overP q p m c).a, rfl, h3, h1.1, h1.2, ?_, ?_⟩
  · intro h
    rw [h2 h]
    exact ⟨rfl, rfl, rfl⟩
  · intro h
    have hu := mulI_bd p.a c
    have hv := hq.2.2.2
    have k := overW_bd hu.1 hu.2 hv.1 hv.2
    unfold overP at h ⊢
    split
    · rename_i hw
      rw [if_pos hw] at h
      exact absurd rfl h
    · rename_i hw
      exact ⟨overC_between (W := 0) hu.1 hu.2 hv.1 hv.2 (by omega), overC_between (W := 0) hu.1 hu.2 hv.1 hv.2 (by omega), overC_between (W := 0) hu.1 hu.2 hv.1 hv.2 (by omega)⟩

theorem field_a (c0 c1 c2 c3 : Value) (w : World) : (Instr.field 27 (.agg #[c0, c1, c2, c3]) 3).run Try.prog w = .ok c3 w := by kernel_rfl
theorem P_Fade_lit (q : Px) (c : Int) (w : World) (hq : q.ok) : Calls Try.prog 23 #[Px.v q, .int .i64 c] w
    fun e w' => e = .returned (.agg #[.int .u8 (fadeP q c).r, .int .u8 (fadeP q c).g, .int .u8 (fadeP q c).b, .int .u8 (fadeP q c).a]) ∧ Below w.heap.size w w' := P_Fade q c w hq
set_option maxHeartbeats 4000000 in
theorem walk_PixelBounds (q p : Px) (x y : Int) (hq : q.ok) (hp : p.ok) (hxy : (Lit.int .i64 x).wf = true ∧ (Lit.int .i64 y).wf = true) (w : World) :
    Calls Try.prog 9 #[Px.v q, Px.v p, .agg #[.int .i64 x, .int .i64 y]] w fun e w' => e = .returned (.bool true) ∧ Below w.heap.size w w' := by
  obtain ⟨qr, qg, qb, qa⟩ := q
  obtain ⟨pr, pg, pb, pa⟩ := p
  clear hxy
  obtain ⟨r, g, b, a, hP, hok, ha1, ha2, hz, hnz⟩ := over_facts hq hp (bits .and .i64 x 15) y
  have c1 : ∀ w, Calls Try.prog 18 #[Px.v ⟨qr, qg, qb, qa⟩, Px.v ⟨pr, pg, pb, pa⟩, .int .i64 (bits .and .i64 x 15), .int .i64 y] w fun e w' => e = .returned (.agg #[.int .u8 r, .int .u8 g, .int .u8 b, .int .u8 a]) ∧ Below w.heap.size w w' :=
    fun w => by have := P_Over ⟨qr, qg, qb, qa⟩ ⟨pr, pg, pb, pa⟩ (bits .and .i64 x 15) y w hq hp; rw [hP] at this; exact this
  have C1 := Lib.hid c1
  have hka := Lib.hid hq
  have hkb := Lib.hid hp
  obtain ⟨⟨q1, q2⟩, ⟨q3, q4⟩, ⟨q5, q6⟩, ⟨q7, q8⟩⟩ := hq
  obtain ⟨⟨p1, p2⟩, ⟨p3, p4⟩, ⟨p5, p6⟩, ⟨p7, p8⟩⟩ := hp
  obtain ⟨⟨o1, o2⟩, ⟨o3, o4⟩, ⟨o5, o6⟩, ⟨o7, o8⟩⟩ := hok
  simp only at p1 p2 p3 p4 p5 p6 p7 p8 q1 q2 q3 q4 q5 q6 q7 q8 ha1 hnz o1 o2 o3 o4 o5 o6 o7 o8
  have HP := Lib.hid hP
  clear c1 hP
  have hv : ∀ p : Px, Px.v p = .agg #[.int .u8 p.r, .int .u8 p.g, .int .u8 p.b, .int .u8 p.a] := fun _ => rfl
  have hfd := field_a
  have t1 : decide (a < qa) = false := decide_eq_false (by omega)
  have t2 : decide (a < (fadeP ⟨pr, pg, pb, pa⟩ y).a) = false := decide_eq_false (by omega)
  clear ha1 ha2
  simp only [Px.v]
  by_cases h0 : a = 0
  · obtain ⟨rfl, rfl, rfl⟩ := hz h0
    subst h0
    clear hz hnz
    go_enter Try.func9, Try.ntmps9
    go_wp2_with fail
    refine (sanity _).mono ?_
    rintro e w1 ⟨rfl, hb1⟩
    obtain ⟨hc1, hf1⟩ := bcell hb1
    have hs1 := hb1.size
    try simp only [World.size_alloc, World.size_setCell, World.size_drew] at hs1
    have hbb1 := hb1.mono (B' := w.heap.size) (by first | omega | (simp only [World.size_alloc, World.size_setCell, World.size_drew]; omega))
    have l1_0 : w.heap.size < w1.heap.size := by omega
    have l1_1 : w.heap.size + 1 < w1.heap.size := by omega
    have l1_2 : w.heap.size + 1 + 1 < w1.heap.size := by omega
    go_wp2_with fail
    refine (C1.out _).mono ?_
    rintro e w2 ⟨rfl, hb2⟩
    obtain ⟨hc2, hf2⟩ := bcell hb2
    have hs2 := hb2.size
    try simp only [World.size_alloc, World.size_setCell, World.size_drew] at hs2
    have hbb2 := hb2.mono (B' := w.heap.size) (by first | omega | (simp only [World.size_alloc, World.size_setCell, World.size_drew]; omega))
    have l2_0 : w.heap.size < w2.heap.size := by omega
    have l2_1 : w.heap.size + 1 < w2.heap.size := by omega
    have l2_2 : w.heap.size + 1 + 1 < w2.heap.size := by omega
    go_wp2
    refine wp_region_ov (by kernel_rfl) (by kernel_rfl) ?_
    repeat (go_big_quiet_step ((first | (go_at_call 23; exact calls_ov (P_Fade_lit ⟨_, _, _, _⟩ _ _ hkb.out)))))
    refine wpQuiet_nil ?_
    intro w3 hb3
    obtain ⟨hc3, hf3⟩ := bcell hb3
    have hs3 := hb3.size
    try simp only [World.size_alloc, World.size_setCell, World.size_drew] at hs3
    have hbb3 := hb3.mono (B' := w.heap.size) (by first | omega | (simp only [World.size_alloc, World.size_setCell, World.size_drew]; omega))
    have l3_0 : w.heap.size < w3.heap.size := by omega
    have l3_1 : w.heap.size + 1 < w3.heap.size := by omega
    have l3_2 : w.heap.size + 1 + 1 < w3.heap.size := by omega
    have l3_3 : w2.heap.size < w3.heap.size := by omega
    go_wp2
    go_ret
    refine ⟨rfl, ?_⟩
    repeat' (first | (with_reducible exact Below.refl _ _) | (with_reducible assumption) | (with_reducible refine Below.setCell ?_ (by dsimp only; omega) _) | (with_reducible refine Below.alloc ?_ (by first | omega | (simp only [World.size_alloc, World.size_setCell, World.size_drew]; omega)) _) | (with_reducible refine Below.drew ?_) | (with_reducible refine Below.trans ?_ hbb1) | (with_reducible refine Below.trans ?_ hbb2) | (with_reducible refine Below.trans ?_ hbb3))
  · have h0' : (a == 0) = false := by simpa using h0
    obtain ⟨⟨r1, r2⟩, ⟨r3, r4⟩, ⟨r5, r6⟩⟩ := hnz h0
    have f1 := decide_eq_false (chan_lo (u := 0) (v := 0) r1)
    have f2 := decide_eq_false (chan_hi (u := 0) (v := 0) r2)
    have f3 := decide_eq_false (chan_lo (u := 0) (v := 0) r3)
    have f4 := decide_eq_false (chan_hi (u := 0) (v := 0) r4)
    have f5 := decide_eq_false (chan_lo (u := 0) (v := 0) r5)
    have f6 := decide_eq_false (chan_hi (u := 0) (v := 0) r6)
    clear hz hnz h0 r1 r2 r3 r4 r5 r6
    go_enter Try.func9, Try.ntmps9
    go_wp2_with fail
    refine (sanity _).mono ?_
    rintro e w1 ⟨rfl, hb1⟩
    obtain ⟨hc1, hf1⟩ := bcell hb1
    have hs1 := hb1.size
    try simp only [World.size_alloc, World.size_setCell, World.size_drew] at hs1
    have hbb1 := hb1.mono (B' := w.heap.size) (by first | omega | (simp only [World.size_alloc, World.size_setCell, World.size_drew]; omega))
    have l1_0 : w.heap.size < w1.heap.size := by omega
    have l1_1 : w.heap.size + 1 < w1.heap.size := by omega
    have l1_2 : w.heap.size + 1 + 1 < w1.heap.size := by omega
    go_wp2_with fail
    refine (C1.out _).mono ?_
    rintro e w2 ⟨rfl, hb2⟩
    obtain ⟨hc2, hf2⟩ := bcell hb2
    have hs2 := hb2.size
    try simp only [World.size_alloc, World.size_setCell, World.size_drew] at hs2
    have hbb2 := hb2.mono (B' := w.heap.size) (by first | omega | (simp only [World.size_alloc, World.size_setCell, World.size_drew]; omega))
    have l2_0 : w.heap.size < w2.heap.size := by omega
    have l2_1 : w.heap.size + 1 < w2.heap.size := by omega
    have l2_2 : w.heap.size + 1 + 1 < w2.heap.size := by omega
    go_wp2
    refine wp_region_ov (by kernel_rfl) (by kernel_rfl) ?_
    repeat (go_big_quiet_step ((first | (go_at_call 23; exact calls_ov (P_Fade_lit ⟨_, _, _, _⟩ _ _ hkb.out)))))
    refine wpQuiet_nil ?_
    intro w3 hb3
    obtain ⟨hc3, hf3⟩ := bcell hb3
    have hs3 := hb3.size
    try simp only [World.size_alloc, World.size_setCell, World.size_drew] at hs3
    have hbb3 := hb3.mono (B' := w.heap.size) (by first | omega | (simp only [World.size_alloc, World.size_setCell, World.size_drew]; omega))
    have l3_0 : w.heap.size < w3.heap.size := by omega
    have l3_1 : w.heap.size + 1 < w3.heap.size := by omega
    have l3_2 : w.heap.size + 1 + 1 < w3.heap.size := by omega
    have l3_3 : w2.heap.size < w3.heap.size := by omega
    go_wp2
    go_loopw [11, 12] (fun i _ wr => ∃ k : Nat, k ≤ 3 ∧ i = .int .i64 k ∧ Below w.heap.size w wr ∧ w3.heap.size < wr.heap.size ∧
      wr.heap[w3.heap.size]? = some (.cells #[.int .i64 qr, .int .i64 pr, .int .i64 r, .int .i64 qg, .int .i64 pg, .int .i64 g, .int .i64 qb, .int .i64 pb, .int .i64 b] 39 (0, 0))) (fun i _ _ => (3 - intOf i).toNat)
    case atStart =>
      refine ⟨0, by omega, rfl, ?_, by simp, by rw [heap_get_alloc, if_pos rfl]⟩
      repeat' (first | (with_reducible exact Below.refl _ _) | (with_reducible assumption) | (with_reducible refine Below.setCell ?_ (by dsimp only; omega) _) | (with_reducible refine Below.alloc ?_ (by first | omega | (simp only [World.size_alloc, World.size_setCell, World.size_drew]; omega)) _) | (with_reducible refine Below.drew ?_) | (with_reducible refine Below.trans ?_ hbb1) | (with_reducible refine Below.trans ?_ hbb2) | (with_reducible refine Below.trans ?_ hbb3))
    case round =>
      obtain ⟨k, hk, rfl, hbr, hlr, hblk⟩ := hrel
      have hck := (cells_of_block hblk).1
      have Hblk := Lib.hid hblk
      clear hblk
      by_cases hlt : k < 3
      · have hc : k = 0 ∨ k = 1 ∨ k = 2 := by omega
        rcases hc with rfl | rfl | rfl
        all_goals (
          go_wp2
          refine wp_region_ov (by kernel_rfl) (by kernel_rfl) ?_
          repeat (go_big_quiet_step ((first | (go_at_call 14; exact calls_ov (P_Blend _ _ _ _)))))
          refine wpQuiet_nil ?_
          intro w4 hb4
          obtain ⟨hc4, hf4⟩ := bcell hb4
          have hs4 := hb4.size
          try simp only [World.size_alloc, World.size_setCell, World.size_drew] at hs4
          have hbb4 := hb4.mono (B' := w.heap.size) (by first | omega | (simp only [World.size_alloc, World.size_setCell, World.size_drew]; omega))
          have l4 : w3.heap.size < w4.heap.size := by omega
          go_wp2
          refine wp_region_ov (by kernel_rfl) (by kernel_rfl) ?_
          repeat (go_big_quiet_step ((fail)))
          refine wpQuiet_nil ?_
          intro w5 hb5
          obtain ⟨hc5, hf5⟩ := bcell hb5
          have hs5 := hb5.size
          try simp only [World.size_alloc, World.size_setCell, World.size_drew] at hs5
          have hbb5 := hb5.mono (B' := w.heap.size) (by first | omega | (simp only [World.size_alloc, World.size_setCell, World.size_drew]; omega))
          have l5 : w3.heap.size < w5.heap.size := by omega
          have hblk2 := (hb5.block w3.heap.size l4).trans ((hb4.block w3.heap.size hlr).trans Hblk.out)
          have Hb := Lib.hid hblk2
          clear hblk2
          go_wp2
          go_roundw
          case rel => first | exact ⟨1, by omega, rfl, hbr.trans (hbb4.trans hbb5), l5, Hb.out⟩ | exact ⟨2, by omega, rfl, hbr.trans (hbb4.trans hbb5), l5, Hb.out⟩ | exact ⟨3, by omega, rfl, hbr.trans (hbb4.trans hbb5), l5, Hb.out⟩
          case measure => simp [intOf])
      · obtain rfl : k = 3 := by omega
        go_wp2
        go_ret
        exact ⟨rfl, hbr⟩

namespace pixelBounds
open Go.ChangeShapes Go.WideShapes Go.ChangeAt Go.RowKit
open Go.ChangeMaps (open_string shut_string)
set_option maxRecDepth 100000 in
theorem lifted (os : Os) (started : os.Started) (H : Type) (enc : TypeId × Value → H) :
    ReturnsInHanded {} Try.checked os 9 .any (Rows.pixelBoundsSpec.pre6 enc Try.prog Try.f9 Rows.pixelBoundsRow.domain false) (Rows.pixelBoundsSpec.post enc Try.prog Try.f9 false true false false) := by
  refine returnsInHanded_of_change (C := Try.checked) own started (by kernel_rfl) Try.func9
    (ChangeSpec.witness6 (enc := enc) (C := Try.checked) false ⟨#[], #[.agg #[.int .u8 0, .int .u8 0, .int .u8 0, .int .u8 0], .agg #[.int .u8 0, .int .u8 0, .int .u8 0, .int .u8 0], .agg #[.int .i64 0, .int .i64 0]], []⟩ 8 (by kernel_rfl) (by kernel_rfl) (by kernel_rfl) (by kernel_rfl)) ?_
  intro W base args ds gs before hval0 hW hcnd _
  have hval : ∀ (j : Nat) t v, Try.f9.params[j]? = some t → args[j]? = some v → Value.okWide Try.prog W .any base t v := hval0
  have hW' := hW
  obtain ⟨p, q, hA0, hV, rfl, hfz, hnd⟩ := hW
  have hA : DataW.TrodAll enc Try.prog W 0 (fun _ => true) true Try.f9.params.toList args.toList ds p := hA0
  rw [Try.params9] at hA hval
  obtain ⟨v0, vs0, d0, ds0, p0, q0, hargs, rfl, rfl, h0, r0⟩ := trodAll_cons hA
  obtain ⟨v1, vs1, d1, ds1, p1, q1, rfl, rfl, rfl, h1, r1⟩ := trodAll_cons r0
  obtain ⟨v2, vs2, d2, ds2, p2, q2, rfl, rfl, rfl, h2, r2⟩ := trodAll_cons r1
  obtain ⟨rfl, rfl, rfl⟩ := trodAll_nil r2
  obtain rfl : args = #[v0, v1, v2] := by cases args; simp_all
  obtain ⟨rfl, rfl⟩ := trodVars_none hV
  have k0 := h0
  have lt0 : ∀ x ∈ p0, x.block < W.heap.size := by obtain ⟨m, hm⟩ := k0; exact DataW.trod_lt m _ _ _ hm
  have k1 := h1
  have lt1 : ∀ x ∈ p1, x.block < W.heap.size := by obtain ⟨m, hm⟩ := k1; exact DataW.trod_lt m _ _ _ hm
  have k2 := h2
  have lt2 : ∀ x ∈ p2, x.block < W.heap.size := by obtain ⟨m, hm⟩ := k2; exact DataW.trod_lt m _ _ _ hm
  obtain ⟨a0, rfl, w0⟩ := open_px (hval 0 27 v0 rfl rfl) h0
  obtain ⟨a1, rfl, w1⟩ := open_px (hval 1 27 v1 rfl rfl) h1
  obtain ⟨a2, b2, rfl, w2⟩ := open_int2 (hval 2 28 v2 rfl rfl) h2
  clear hA0 hval0
  refine (walk_PixelBounds a0 a1 a2 b2 w0 w1 w2 W).mono fun e W' ⟨he, bel⟩ => ?_
  subst he
  exact ⟨_, rfl, _, _, _, [], _, [], hW', trodAll_mk1 (shut_bool Try.underlying4 _), (trodAll_cons_mk (Below.trod laidOut (by kernel_rfl) (of_decide_eq_true (by kernel_rfl)) k0 bel lt0) (trodAll_cons_mk (Below.trod laidOut (by kernel_rfl) (of_decide_eq_true (by kernel_rfl)) k1 bel lt1) (trodAll_cons_mk (Below.trod laidOut (by kernel_rfl) (of_decide_eq_true (by kernel_rfl)) k2 bel lt2) trodAll_mk0))), rfl, bel.frame _, fun h => by cases h⟩
theorem over : Rows.pixelBoundsRow.holds Try.pinned (OpenSpec.ofChange Rows.pixelBoundsSpec) :=
  OpenClaim.holds_of_wide 9 Try.f9 rfl rfl rfl rfl rfl rfl rfl ⟨rfl, rfl, rfl, rfl, rfl⟩ rfl rfl rfl rfl rfl (by kernel_rfl) Try.func9 (by kernel_rfl)
    (of_decide_eq_true (by kernel_rfl)) (by unfold Func.isWrapper; first | (rw [if_pos (by decide +kernel)]; kernel_rfl) | (rw [if_neg (by decide +kernel)]; exact ⟨rfl, rfl⟩))
    (fun os started H enc _ => lifted os started H enc)
/-- THE STATEMENT: PixelBounds returns true for every input, and its arguments read as they did. -/
theorem proved : Rows.PixelBoundsSaid := over
end pixelBounds

end Go.Proofs.Ytipoloehdheeeaa
