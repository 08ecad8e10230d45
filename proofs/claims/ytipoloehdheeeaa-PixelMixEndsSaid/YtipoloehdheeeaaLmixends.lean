/- PixelMixEnds: Mix returns its first argument for t = 0 and its second one for t = 255, is symmetric, and mixing equal pixels changes nothing: the law returns true for every input, and its arguments read as they did. No condition. -/
import Derived.Test.YtipoloehdheeeaaPs
import Derived.Test.YtipoloehdheeeaaPb
import Derived.Test.YtipoloehdheeeaaFr
namespace Go.Proofs.Ytipoloehdheeeaa
open Go.RowKit Pl
set_option linter.unusedVariables false
set_option linter.unusedSimpArgs false

set_option maxHeartbeats 2000000 in
theorem walk_PixelMixEnds (q p : Px) (t : Int) (hq : q.ok) (hp : p.ok) (ht : (Lit.int .u8 t).wf = true) (w : World) :
    Calls Try.prog 6 #[Px.v q, Px.v p, .int .u8 t] w fun e w' => e = .returned (.bool true) ∧ Below w.heap.size w w' := by
  have hbd := wf_u8 ht
  obtain ⟨qr, qg, qb, qa⟩ := q
  obtain ⟨pr, pg, pb, pa⟩ := p
  have e1 := mixP_zero (b := ⟨pr, pg, pb, pa⟩) hq
  have e2 := mixP_full (a := ⟨qr, qg, qb, qa⟩) hp
  have e3 := mixP_comm (a := ⟨qr, qg, qb, qa⟩) (b := ⟨pr, pg, pb, pa⟩) hbd.1 hbd.2
  have e4 := mixP_same hq hbd.1 hbd.2
  have hka := Lib.hid hq
  have hkb := Lib.hid hp
  clear hq hp ht
  have hv : ∀ p : Px, Px.v p = .agg #[.int .u8 p.r, .int .u8 p.g, .int .u8 p.b, .int .u8 p.a] := fun _ => rfl
  simp only [Px.v]
  go_enter Try.func6, Try.ntmps6
  go_wp2_with fail
  refine (sanity _).mono ?_
  rintro e w1 ⟨rfl, hb1⟩
  obtain ⟨hc1, hf1⟩ := bcell hb1
  have hs1 := hb1.size
  try simp only [World.size_alloc, World.size_setCell, World.size_drew] at hs1
  have hbb1 := hb1.mono (B' := w.heap.size) (by first | omega | (simp only [World.size_alloc, World.size_setCell, World.size_drew]; omega))
  have l1_0 : w.heap.size < w1.heap.size := by omega
  have l1_1 : w.heap.size + 1 < w1.heap.size := by omega
  go_wp2
  refine wp_region_ov (by kernel_rfl) (by kernel_rfl) ?_
  repeat (go_big_quiet_step ((first | (go_at_call 20; exact calls_ov (P_Mix ⟨_, _, _, _⟩ ⟨_, _, _, _⟩ _ _ (by first | exact hka.out | exact hkb.out) (by first | exact hka.out | exact hkb.out))) | (go_at_call 21; exact calls_ov (P_Clean ⟨_, _, _, _⟩ _ (by first | exact hka.out | exact hkb.out))))))
  refine wpQuiet_nil ?_
  intro w2 hb2
  obtain ⟨hc2, hf2⟩ := bcell hb2
  have hs2 := hb2.size
  try simp only [World.size_alloc, World.size_setCell, World.size_drew] at hs2
  have hbb2 := hb2.mono (B' := w.heap.size) (by first | omega | (simp only [World.size_alloc, World.size_setCell, World.size_drew]; omega))
  have l2_0 : w.heap.size < w2.heap.size := by omega
  have l2_1 : w.heap.size + 1 < w2.heap.size := by omega
  go_wp2
  go_ret
  refine ⟨rfl, ?_⟩
  repeat' (first | (with_reducible exact Below.refl _ _) | (with_reducible assumption) | (with_reducible refine Below.setCell ?_ (by dsimp only; omega) _) | (with_reducible refine Below.alloc ?_ (by first | omega | (simp only [World.size_alloc, World.size_setCell, World.size_drew]; omega)) _) | (with_reducible refine Below.drew ?_) | (with_reducible refine Below.trans ?_ hbb1) | (with_reducible refine Below.trans ?_ hbb2))

namespace pixelMixEnds
open Go.ChangeShapes Go.WideShapes Go.ChangeAt Go.RowKit
open Go.ChangeMaps (open_string shut_string)
set_option maxRecDepth 100000 in
theorem lifted (os : Os) (started : os.Started) (H : Type) (enc : TypeId × Value → H) :
    ReturnsInHanded {} Try.checked os 6 .any (Rows.pixelMixEndsSpec.pre6 enc Try.prog Try.f6 Rows.pixelMixEndsRow.domain false) (Rows.pixelMixEndsSpec.post enc Try.prog Try.f6 false true false false) := by
  refine returnsInHanded_of_change (C := Try.checked) own started (by kernel_rfl) Try.func6
    (ChangeSpec.witness6 (enc := enc) (C := Try.checked) false ⟨#[], #[.agg #[.int .u8 0, .int .u8 0, .int .u8 0, .int .u8 0], .agg #[.int .u8 0, .int .u8 0, .int .u8 0, .int .u8 0], .int .u8 0], []⟩ 8 (by kernel_rfl) (by kernel_rfl) (by kernel_rfl) (by kernel_rfl)) ?_
  intro W base args ds gs before hval0 hW hcnd _
  have hval : ∀ (j : Nat) t v, Try.f6.params[j]? = some t → args[j]? = some v → Value.okWide Try.prog W .any base t v := hval0
  have hW' := hW
  obtain ⟨p, q, hA0, hV, rfl, hfz, hnd⟩ := hW
  have hA : DataW.TrodAll enc Try.prog W 0 (fun _ => true) true Try.f6.params.toList args.toList ds p := hA0
  rw [Try.params6] at hA hval
  obtain ⟨v0, vs0, d0, ds0, p0, q0, hargs, rfl, rfl, h0, r0⟩ := trodAll_cons hA
  obtain ⟨v1, vs1, d1, ds1, p1, q1, rfl, rfl, rfl, h1, r1⟩ := trodAll_cons r0
  obtain ⟨v2, vs2, d2, ds2, p2, q2, rfl, rfl, rfl, h2, r2⟩ := trodAll_cons r1
  obtain ⟨rfl, rfl, rfl⟩ := trodAll_nil r2
  obtain rfl : args = #[v0, v1, v2] := by cases args; simp_all
  obtain ⟨rfl, rfl⟩ := trodVars_none hV
  have k0 := h0
  have lt0 : ∀ x ∈ p0, x.block < W.heap.size := by obtain ⟨m, hm⟩ := k0; exact DataW.trod_lt m _ _ _ hm
  have k1 := h1
  have lt1 : ∀ x ∈ p1, x.block < W.heap.size := by obtain ⟨m, hm⟩ := k1; exact DataW.trod_lt m _ _ _ hm
  have k2 := h2
  have lt2 : ∀ x ∈ p2, x.block < W.heap.size := by obtain ⟨m, hm⟩ := k2; exact DataW.trod_lt m _ _ _ hm
  obtain ⟨a0, rfl, w0⟩ := open_px (hval 0 27 v0 rfl rfl) h0
  obtain ⟨a1, rfl, w1⟩ := open_px (hval 1 27 v1 rfl rfl) h1
  obtain ⟨a2, rfl, rfl, rfl, w2⟩ := open_int Try.underlying5 (hval 2 5 v2 rfl rfl) h2
  clear hA0 hval0
  refine (walk_PixelMixEnds a0 a1 a2 w0 w1 w2 W).mono fun e W' ⟨he, bel⟩ => ?_
  subst he
  exact ⟨_, rfl, _, _, _, [], _, [], hW', trodAll_mk1 (shut_bool Try.underlying4 _), (trodAll_cons_mk (Below.trod laidOut (by kernel_rfl) (of_decide_eq_true (by kernel_rfl)) k0 bel lt0) (trodAll_cons_mk (Below.trod laidOut (by kernel_rfl) (of_decide_eq_true (by kernel_rfl)) k1 bel lt1) (trodAll_cons_mk (Below.trod laidOut (by kernel_rfl) (of_decide_eq_true (by kernel_rfl)) k2 bel lt2) trodAll_mk0))), rfl, bel.frame _, fun h => by cases h⟩
theorem over : Rows.pixelMixEndsRow.holds Try.pinned (OpenSpec.ofChange Rows.pixelMixEndsSpec) :=
  OpenClaim.holds_of_wide 6 Try.f6 rfl rfl rfl rfl rfl rfl rfl ⟨rfl, rfl, rfl, rfl, rfl⟩ rfl rfl rfl rfl rfl (by kernel_rfl) Try.func6 (by kernel_rfl)
    (of_decide_eq_true (by kernel_rfl)) (by unfold Func.isWrapper; first | (rw [if_pos (by decide +kernel)]; kernel_rfl) | (rw [if_neg (by decide +kernel)]; exact ⟨rfl, rfl⟩))
    (fun os started H enc _ => lifted os started H enc)
/-- THE STATEMENT: PixelMixEnds returns true for every input, and its arguments read as they did. -/
theorem proved : Rows.PixelMixEndsSaid := over
end pixelMixEnds

end Go.Proofs.Ytipoloehdheeeaa
