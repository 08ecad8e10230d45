/- TileOver: for all tiles, modes and coverages, Over and Mask return what the reference returns: the law returns true for every input, and its arguments read as they did. No condition. -/
import Derived.Test.YtelfkakaaobfcaaTe
namespace Go.Proofs.Ytelfkakaaobfcaa
open Go.RowKit Pl
set_option linter.unusedVariables false
set_option linter.unusedSimpArgs false

set_option maxHeartbeats 4000000 in
set_option maxRecDepth 20000 in
theorem walk_TileOver (L : Lay) (hb : Tok L.back) (hs : Tok L.src) (hc : Cok L.cov) (hm : (Lit.int .i64 L.mode).wf = true) (w : World) : Calls Try.prog 7 #[Lay.v L] w fun e w' => e = .returned (.bool true) ∧ Below w.heap.size w w' := by
  have hcmp := eql_tile_same
  have kb := Lib.hid hb
  have ks := Lib.hid hs
  have kc := Lib.hid hc
  clear hb hs hc hm
  have B := Below.refl w.heap.size w
  go_enter Try.func7, Try.ntmps7
  go_wp2_with (first | (go_at_call 9; refine (sanity _).mono ?_; rintro e wn ⟨rfl, hbn⟩; have hsz := B.size; have hzn := hbn.size; replace B := B.trans (hbn.mono B.size); (try replace l1 := l1.of_eq (hbn.block _ l1.lt))) | (refine wpList_boxL' rfl _ rfl _ rfl ?_; intro b_l1 wn hle hge ht hbn hzn; have hsz := B.size; replace B := B.trans (hbn.mono (by omega)); have hln := Nat.lt_of_lt_of_eq (Nat.lt_succ_self _) hzn.symm; clear hzn; (try (have hlt := l1.lt; replace l1 := l1.of_eq (hbn.block _ (by omega)))); have l1 := ht; clear ht; simp only [Act.put, List.setIfInBounds_toArray, List.set_cons_zero, List.set_cons_succ]))
  refine wp_region_ov (by kernel_rfl) (by kernel_rfl) ?_
  repeat (first | go_big_quiet_skip | (go_big_quiet_want; first | (refine quiet_loadAny (t := 25) rfl _ _ _ rfl (fun w hw => run_lay_back (ov_lay l1 w hw)) (by rfl) ?_; simp only [Act.put, List.setIfInBounds_toArray, List.set_cons_zero, List.set_cons_succ]; go_big_quiet_on) | (refine quiet_loadAny (t := 25) rfl _ _ _ rfl (fun w hw => run_lay_src (ov_lay l1 w hw)) (by rfl) ?_; simp only [Act.put, List.setIfInBounds_toArray, List.set_cons_zero, List.set_cons_succ]; go_big_quiet_on) | (refine quiet_loadAny (t := 39) rfl _ _ _ rfl (fun w hw => run_lay_cov (ov_lay l1 w hw)) (by rfl) ?_; simp only [Act.put, List.setIfInBounds_toArray, List.set_cons_zero, List.set_cons_succ]; go_big_quiet_on) | (refine quiet_loadAny (t := 3) rfl _ _ _ rfl (fun w hw => run_lay_mode (ov_lay l1 w hw)) (by rfl) ?_; simp only [Act.put, List.setIfInBounds_toArray, List.set_cons_zero, List.set_cons_succ]; go_big_quiet_on) | (go_big_quiet_op; first | go_big_quiet_on | go_big_quiet_call ((first | (go_at_call 26; exact calls_ov (P_Over_t _ _ _ _ _ kb.out ks.out kc.out)) | (go_at_call 27; exact calls_ov (R_Over_t _ _ _ _ _ kb.out ks.out kc.out)) | (go_at_call 28; exact calls_ov (P_Mask _ _ _ kb.out ks.out)) | (go_at_call 29; exact calls_ov (R_Mask _ _ _ kb.out ks.out)))))))
  refine wpQuiet_nil ?_
  intro wn hbn
  have hsz := B.size
  have hzn := hbn.size
  replace B := B.trans (hbn.mono B.size)
  try replace l1 := l1.of_eq (hbn.block _ l1.lt)
  go_wp2
  go_ret
  exact ⟨rfl, B⟩

namespace tileOver
open Go.ChangeShapes Go.WideShapes Go.ChangeAt Go.RowKit
open Go.ChangeMaps (open_string shut_string)
set_option maxRecDepth 100000 in
theorem lifted (os : Os) (started : os.Started) (H : Type) (enc : TypeId × Value → H) :
    ReturnsInHanded {} Try.checked os 7 .any (Rows.tileOverSpec.pre6 enc Try.prog Try.f7 Rows.tileOverRow.domain false) (Rows.tileOverSpec.post enc Try.prog Try.f7 false true false false) := by
  refine returnsInHanded_of_change (C := Try.checked) own started (by kernel_rfl) Try.func7
    (ChangeSpec.witness6 (enc := enc) (C := Try.checked) false ⟨#[], #[.agg ((((Array.replicate 512 (.int .u8 0)).push (.int .i64 0))) ++ Array.replicate 64 (.int .u8 0))], []⟩ 8 (by kernel_rfl) (by kernel_rfl) (by kernel_rfl) (by kernel_rfl)) ?_
  intro W base args ds gs before hval0 hW hcnd _
  have hval : ∀ (j : Nat) t v, Try.f7.params[j]? = some t → args[j]? = some v → Value.okWide Try.prog W .any base t v := hval0
  have hW' := hW
  obtain ⟨p, q, hA0, hV, rfl, hfz, hnd⟩ := hW
  have hA : DataW.TrodAll enc Try.prog W 0 (fun _ => true) true Try.f7.params.toList args.toList ds p := hA0
  rw [Try.params7] at hA hval
  obtain ⟨v0, vs0, d0, ds0, p0, q0, hargs, rfl, rfl, h0, r0⟩ := trodAll_cons hA
  obtain ⟨rfl, rfl, rfl⟩ := trodAll_nil r0
  obtain rfl : args = #[v0] := by cases args; simp_all
  obtain ⟨rfl, rfl⟩ := trodVars_none hV
  have k0 := h0
  have lt0 : ∀ x ∈ p0, x.block < W.heap.size := by obtain ⟨m, hm⟩ := k0; exact DataW.trod_lt m _ _ _ hm
  obtain ⟨a0, rfl, wb0, ws0, wc0, wm0⟩ := open_layers (hval 0 41 v0 rfl rfl) h0
  clear hA0 hval0
  refine (walk_TileOver a0 wb0 ws0 wc0 wm0 W ).mono fun e W' ⟨he, bel⟩ => ?_
  subst he
  exact ⟨_, rfl, _, _, _, [], _, [], hW', trodAll_mk1 (shut_bool Try.underlying4 _), (trodAll_cons_mk (Below.trod laidOut (by kernel_rfl) (of_decide_eq_true (by kernel_rfl)) k0 bel lt0) trodAll_mk0), rfl, bel.frame _, fun h => by cases h⟩
theorem over : Rows.tileOverRow.holds Try.pinned (OpenSpec.ofChange Rows.tileOverSpec) :=
  OpenClaim.holds_of_wide 7 Try.f7 rfl rfl rfl rfl rfl rfl rfl ⟨rfl, rfl, rfl, rfl, rfl⟩ rfl rfl rfl rfl rfl (by kernel_rfl) Try.func7 (by kernel_rfl)
    (of_decide_eq_true (by kernel_rfl)) (by unfold Func.isWrapper; first | (rw [if_pos (by decide +kernel)]; kernel_rfl) | (rw [if_neg (by decide +kernel)]; exact ⟨rfl, rfl⟩))
    (fun os started H enc _ => lifted os started H enc)
/-- THE STATEMENT: TileOver returns true for every input, and its arguments read as they did. -/
theorem proved : Rows.TileOverSaid := over
end tileOver

end Go.Proofs.Ytelfkakaaobfcaa
