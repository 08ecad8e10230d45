/- PixelIdentities: an opaque source in mode Normal with full coverage replaces the backdrop; coverage 0 and a transparent source leave it; a transparent backdrop yields the faded source: the law returns true for every input, and its arguments read as they did. No condition. -/
import Derived.Test.YtipoloehdheeeaaPs
import Derived.Test.YtipoloehdheeeaaPb
import Derived.Test.YtipoloehdheeeaaFr
namespace Go.Proofs.Ytipoloehdheeeaa
open Go.RowKit Pl
set_option linter.unusedVariables false
set_option linter.unusedSimpArgs false

set_option maxHeartbeats 2000000 in
theorem walk_PixelIdentities (q p : Px) (x y : Int) (hq : q.ok) (hp : p.ok) (hxy : (Lit.int .i64 x).wf = true ∧ (Lit.int .i64 y).wf = true) (w : World) :
    Calls Try.prog 8 #[Px.v q, Px.v p, .agg #[.int .i64 x, .int .i64 y]] w fun e w' => e = .returned (.bool true) ∧ Below w.heap.size w w' := by
  obtain ⟨qr, qg, qb, qa⟩ := q
  obtain ⟨pr, pg, pb, pa⟩ := p
  have e1 := over_solid (q := ⟨qr, qg, qb, qa⟩) hp.1 hp.2.1 hp.2.2.1
  have e2 : ∀ m, overP ⟨qr, qg, qb, qa⟩ ⟨pr, pg, pb, pa⟩ m 0 = cleanP ⟨qr, qg, qb, qa⟩ := fun m => over_none hq (mulI_zero _)
  have e3 : ∀ m c, overP ⟨qr, qg, qb, qa⟩ ⟨pr, pg, pb, 0⟩ m c = cleanP ⟨qr, qg, qb, qa⟩ := fun m c => over_none hq (zero_mulI _)
  have e4 : ∀ m c, overP ⟨qr, qg, qb, 0⟩ ⟨pr, pg, pb, pa⟩ m c = fadeP ⟨pr, pg, pb, pa⟩ c := fun m c => over_clear hp m c
  have hkc : Px.ok ⟨pr, pg, pb, 255⟩ := ⟨hp.1, hp.2.1, hp.2.2.1, by simp⟩
  have hkd : Px.ok ⟨pr, pg, pb, 0⟩ := ⟨hp.1, hp.2.1, hp.2.2.1, by simp⟩
  have hke : Px.ok ⟨qr, qg, qb, 0⟩ := ⟨hq.1, hq.2.1, hq.2.2.1, by simp⟩
  replace hkc := Lib.hid hkc
  replace hkd := Lib.hid hkd
  replace hke := Lib.hid hke
  have hka := Lib.hid hq
  have hkb := Lib.hid hp
  clear hq hp hxy
  have hv : ∀ p : Px, Px.v p = .agg #[.int .u8 p.r, .int .u8 p.g, .int .u8 p.b, .int .u8 p.a] := fun _ => rfl
  simp only [Px.v]
  go_enter Try.func8, Try.ntmps8
  go_wp2_with fail
  refine (sanity _).mono ?_
  rintro e w1 ⟨rfl, hb1⟩
  obtain ⟨hc1, hf1⟩ := bcell hb1
  have hs1 := hb1.size
  try simp only [World.size_alloc, World.size_setCell, World.size_drew] at hs1
  have hbb1 := hb1.mono (B' := w.heap.size) (by first | omega | (simp only [World.size_alloc, World.size_setCell, World.size_drew]; omega))
  have l1_0 : w.heap.size < w1.heap.size := by omega
  have l1_1 : w.heap.size + 1 < w1.heap.size := by omega
  have l1_2 : w.heap.size + 1 + 1 < w1.heap.size := by omega
  have m0_1 : w.heap.size < w1.heap.size + 1 := by omega
  have m0_2 : w.heap.size < w1.heap.size + 1 + 1 := by omega
  have m0_3 : w.heap.size < w1.heap.size + 1 + 1 + 1 := by omega
  have m1_1 : w.heap.size + 1 < w1.heap.size + 1 := by omega
  have m1_2 : w.heap.size + 1 < w1.heap.size + 1 + 1 := by omega
  have m1_3 : w.heap.size + 1 < w1.heap.size + 1 + 1 + 1 := by omega
  have m2_1 : w.heap.size + 1 + 1 < w1.heap.size + 1 := by omega
  have m2_2 : w.heap.size + 1 + 1 < w1.heap.size + 1 + 1 := by omega
  have m2_3 : w.heap.size + 1 + 1 < w1.heap.size + 1 + 1 + 1 := by omega
  go_wp2
  refine wp_region_ov (by kernel_rfl) (by kernel_rfl) ?_
  repeat (go_big_quiet_step ((first | (go_at_call 18; exact calls_ov (P_Over ⟨_, _, _, _⟩ ⟨_, _, _, _⟩ _ _ _ (by first | exact hka.out | exact hkb.out | exact hkc.out | exact hkd.out | exact hke.out) (by first | exact hka.out | exact hkb.out | exact hkc.out | exact hkd.out | exact hke.out))) | (go_at_call 21; exact calls_ov (P_Clean ⟨_, _, _, _⟩ _ (by first | exact hka.out | exact hkb.out | exact hkc.out | exact hkd.out | exact hke.out))) | (go_at_call 23; exact calls_ov (P_Fade ⟨_, _, _, _⟩ _ _ (by first | exact hka.out | exact hkb.out | exact hkc.out | exact hkd.out | exact hke.out))))))
  refine wpQuiet_nil ?_
  intro w2 hb2
  obtain ⟨hc2, hf2⟩ := bcell hb2
  have hs2 := hb2.size
  try simp only [World.size_alloc, World.size_setCell, World.size_drew] at hs2
  have hbb2 := hb2.mono (B' := w.heap.size) (by first | omega | (simp only [World.size_alloc, World.size_setCell, World.size_drew]; omega))
  have l2_0 : w.heap.size < w2.heap.size := by omega
  have l2_1 : w.heap.size + 1 < w2.heap.size := by omega
  have l2_2 : w.heap.size + 1 + 1 < w2.heap.size := by omega
  go_wp2
  go_ret
  refine ⟨rfl, ?_⟩
  repeat' (first | (with_reducible exact Below.refl _ _) | (with_reducible assumption) | (with_reducible refine Below.setCell ?_ (by dsimp only; omega) _) | (with_reducible refine Below.alloc ?_ (by first | omega | (simp only [World.size_alloc, World.size_setCell, World.size_drew]; omega)) _) | (with_reducible refine Below.drew ?_) | (with_reducible refine Below.trans ?_ hbb1) | (with_reducible refine Below.trans ?_ hbb2))

namespace pixelIdentities
open Go.ChangeShapes Go.WideShapes Go.ChangeAt Go.RowKit
open Go.ChangeMaps (open_string shut_string)
set_option maxRecDepth 100000 in
theorem lifted (os : Os) (started : os.Started) (H : Type) (enc : TypeId × Value → H) :
    ReturnsInHanded {} Try.checked os 8 .any (Rows.pixelIdentitiesSpec.pre6 enc Try.prog Try.f8 Rows.pixelIdentitiesRow.domain false) (Rows.pixelIdentitiesSpec.post enc Try.prog Try.f8 false true false false) := by
  refine returnsInHanded_of_change (C := Try.checked) own started (by kernel_rfl) Try.func8
    (ChangeSpec.witness6 (enc := enc) (C := Try.checked) false ⟨#[], #[.agg #[.int .u8 0, .int .u8 0, .int .u8 0, .int .u8 0], .agg #[.int .u8 0, .int .u8 0, .int .u8 0, .int .u8 0], .agg #[.int .i64 0, .int .i64 0]], []⟩ 8 (by kernel_rfl) (by kernel_rfl) (by kernel_rfl) (by kernel_rfl)) ?_
  intro W base args ds gs before hval0 hW hcnd _
  have hval : ∀ (j : Nat) t v, Try.f8.params[j]? = some t → args[j]? = some v → Value.okWide Try.prog W .any base t v := hval0
  have hW' := hW
  obtain ⟨p, q, hA0, hV, rfl, hfz, hnd⟩ := hW
  have hA : DataW.TrodAll enc Try.prog W 0 (fun _ => true) true Try.f8.params.toList args.toList ds p := hA0
  rw [Try.params8] at hA hval
  obtain ⟨v0, vs0, d0, ds0, p0, q0, hargs, rfl, rfl, h0, r0⟩ := trodAll_cons hA
  obtain ⟨v1, vs1, d1, ds1, p1, q1, rfl, rfl, rfl, h1, r1⟩ := trodAll_cons r0
  obtain ⟨v2, vs2, d2, ds2, p2, q2, rfl, rfl, rfl, h2, r2⟩ := trodAll_cons r1
  obtain ⟨rfl, rfl, rfl⟩ := trodAll_nil r2
  obtain rfl : args = #[v0, v1, v2] := by cases args; simp_all
  obtain ⟨rfl, rfl⟩ := trodVars_none hV
  have k0 := h0
  have lt0 : ∀ x ∈ p0, x.block < W.heap.size := by obtain ⟨m, hm⟩ := k0; exact DataW.trod_lt m _ _ _ hm
  have k1 := h1
  have lt1 : ∀ x ∈ p1, x.block < W.heap.size := by obtain ⟨m, hm⟩ := k1; exact DataW.trod_lt m _ _ _ hm
  have k2 := h2
  have lt2 : ∀ x ∈ p2, x.block < W.heap.size := by obtain ⟨m, hm⟩ := k2; exact DataW.trod_lt m _ _ _ hm
  obtain ⟨a0, rfl, w0⟩ := open_px (hval 0 27 v0 rfl rfl) h0
  obtain ⟨a1, rfl, w1⟩ := open_px (hval 1 27 v1 rfl rfl) h1
  obtain ⟨a2, b2, rfl, w2⟩ := open_int2 (hval 2 28 v2 rfl rfl) h2
  clear hA0 hval0
  refine (walk_PixelIdentities a0 a1 a2 b2 w0 w1 w2 W).mono fun e W' ⟨he, bel⟩ => ?_
  subst he
  exact ⟨_, rfl, _, _, _, [], _, [], hW', trodAll_mk1 (shut_bool Try.underlying4 _), (trodAll_cons_mk (Below.trod laidOut (by kernel_rfl) (of_decide_eq_true (by kernel_rfl)) k0 bel lt0) (trodAll_cons_mk (Below.trod laidOut (by kernel_rfl) (of_decide_eq_true (by kernel_rfl)) k1 bel lt1) (trodAll_cons_mk (Below.trod laidOut (by kernel_rfl) (of_decide_eq_true (by kernel_rfl)) k2 bel lt2) trodAll_mk0))), rfl, bel.frame _, fun h => by cases h⟩
theorem over : Rows.pixelIdentitiesRow.holds Try.pinned (OpenSpec.ofChange Rows.pixelIdentitiesSpec) :=
  OpenClaim.holds_of_wide 8 Try.f8 rfl rfl rfl rfl rfl rfl rfl ⟨rfl, rfl, rfl, rfl, rfl⟩ rfl rfl rfl rfl rfl (by kernel_rfl) Try.func8 (by kernel_rfl)
    (of_decide_eq_true (by kernel_rfl)) (by unfold Func.isWrapper; first | (rw [if_pos (by decide +kernel)]; kernel_rfl) | (rw [if_neg (by decide +kernel)]; exact ⟨rfl, rfl⟩))
    (fun os started H enc _ => lifted os started H enc)
/-- THE STATEMENT: PixelIdentities returns true for every input, and its arguments read as they did. -/
theorem proved : Rows.PixelIdentitiesSaid := over
end pixelIdentities

end Go.Proofs.Ytipoloehdheeeaa
