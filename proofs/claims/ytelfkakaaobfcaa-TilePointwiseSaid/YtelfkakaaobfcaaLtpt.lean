/- TilePointwise: compositing and masking commute with turning all arguments, and each pixel of the result depends only on the pixels at the same index: the law returns true for every input, and its argument reads as it did. No condition. -/
import Derived.Test.YtelfkakaaobfcaaTi
import Derived.Test.YtelfkakaaobfcaaLtgrp
namespace Go.Proofs.Ytelfkakaaobfcaa
open Go.RowKit Pl
set_option linter.unusedVariables false
set_option linter.unusedSimpArgs false

set_option maxHeartbeats 8000000 in
set_option maxRecDepth 20000 in
theorem walk_TilePointwise (L : Lay) (hb : Tok L.back) (hs : Tok L.src) (hc : Cok L.cov) (hm : (Lit.int .i64 L.mode).wf = true) (w : World) : Calls Try.prog 8 #[Lay.v L] w fun e w' => e = .returned (.bool true) ∧ Below w.heap.size w w' := by
  have c1 : ∀ w, (binOp .eql 25 (Tile.v (turnT (overT L.back L.src L.mode L.cov))) (Tile.v (overT (turnT L.back) (turnT L.src) L.mode (turnC L.cov)))).run Try.prog w = .ok (.bool true) w := tile_same (fun j hj => rfl)
  have c2 : ∀ w, (binOp .eql 25 (Tile.v (turnT (maskT L.back L.src))) (Tile.v (maskT (turnT L.back) (turnT L.src)))).run Try.prog w = .ok (.bool true) w := tile_same (fun j hj => rfl)
  have c3 : ∀ w, (binOp .eql 25 (Tile.v (flipT (maskT L.back L.src))) (Tile.v (maskT (flipT L.back) (flipT L.src)))).run Try.prog w = .ok (.bool true) w := tile_same (fun j hj => rfl)
  have kb := Lib.hid hb
  have ks := Lib.hid hs
  have kc := Lib.hid hc
  clear hb hs hc hm
  have B := Below.refl w.heap.size w
  go_enter Try.func8, Try.ntmps8
  go_wp2_with (first | (refine wpList_storeT rfl _ _ rfl _ rfl _ rfl t5 ?_; clear t5; intro wn ht hcn hzn; have hsz := B.size; replace hzn := Nat.le_of_eq hzn.symm; replace B := Chg.below B hcn (by omega) B.size; (try replace l1 := l1.of_eq (hcn.block _ l1.lt (by omega))); (try replace t4 := t4.of_eq (hcn.block _ t4.lt (by omega))); have t5 := ht; clear ht; simp only [Act.put, List.setIfInBounds_toArray, List.set_cons_zero, List.set_cons_succ]) | (have _ := t4; refine wpList_allocT' rfl rfl ?_; intro b_t5 wn hle hge ht hbn hzn; have hsz := B.size; replace B := B.trans (hbn.mono (by omega)); have hln := Nat.lt_of_lt_of_eq (Nat.lt_succ_self _) hzn.symm; clear hzn; (try (have hlt := l1.lt; replace l1 := l1.of_eq (hbn.block _ (by omega)))); (try (have hlt := t4.lt; replace t4 := t4.of_eq (hbn.block _ (by omega)))); (try (have hlt := t5.lt; replace t5 := t5.of_eq (hbn.block _ (by omega)))); have t5 := ht; clear ht; simp only [Act.put, List.setIfInBounds_toArray, List.set_cons_zero, List.set_cons_succ]) | (refine wpList_storeT rfl _ _ rfl _ rfl _ rfl t4 ?_; clear t4; intro wn ht hcn hzn; have hsz := B.size; replace hzn := Nat.le_of_eq hzn.symm; replace B := Chg.below B hcn (by omega) B.size; (try replace l1 := l1.of_eq (hcn.block _ l1.lt (by omega))); (try replace t5 := t5.of_eq (hcn.block _ t5.lt (by omega))); have t4 := ht; clear ht; simp only [Act.put, List.setIfInBounds_toArray, List.set_cons_zero, List.set_cons_succ]) | (have _ := l1; refine wpList_allocT' rfl rfl ?_; intro b_t4 wn hle hge ht hbn hzn; have hsz := B.size; replace B := B.trans (hbn.mono (by omega)); have hln := Nat.lt_of_lt_of_eq (Nat.lt_succ_self _) hzn.symm; clear hzn; (try (have hlt := l1.lt; replace l1 := l1.of_eq (hbn.block _ (by omega)))); (try (have hlt := t4.lt; replace t4 := t4.of_eq (hbn.block _ (by omega)))); (try (have hlt := t5.lt; replace t5 := t5.of_eq (hbn.block _ (by omega)))); have t4 := ht; clear ht; simp only [Act.put, List.setIfInBounds_toArray, List.set_cons_zero, List.set_cons_succ]) | (refine wpList_loadAny (t := 25) rfl _ rfl _ _ _ rfl (run_lay_back l1) (by rfl) ?_; simp only [Act.put, List.setIfInBounds_toArray, List.set_cons_zero, List.set_cons_succ]) | (refine wpList_loadAny (t := 25) rfl _ rfl _ _ _ rfl (run_lay_src l1) (by rfl) ?_; simp only [Act.put, List.setIfInBounds_toArray, List.set_cons_zero, List.set_cons_succ]) | (refine wpList_loadAny (t := 39) rfl _ rfl _ _ _ rfl (run_lay_cov l1) (by rfl) ?_; simp only [Act.put, List.setIfInBounds_toArray, List.set_cons_zero, List.set_cons_succ]) | (refine wpList_loadAny (t := 3) rfl _ rfl _ _ _ rfl (run_lay_mode l1) (by rfl) ?_; simp only [Act.put, List.setIfInBounds_toArray, List.set_cons_zero, List.set_cons_succ]) | (go_at_call 26; refine (P_Over_t _ _ _ _ _ kb.out ks.out kc.out).mono ?_; rintro e wn ⟨rfl, hbn⟩; have hsz := B.size; have hzn := hbn.size; replace B := B.trans (hbn.mono B.size); (try replace l1 := l1.of_eq (hbn.block _ l1.lt)); (try replace t4 := t4.of_eq (hbn.block _ t4.lt)); (try replace t5 := t5.of_eq (hbn.block _ t5.lt))) | (go_at_call 28; refine (P_Mask _ _ _ kb.out ks.out).mono ?_; rintro e wn ⟨rfl, hbn⟩; have hsz := B.size; have hzn := hbn.size; replace B := B.trans (hbn.mono B.size); (try replace l1 := l1.of_eq (hbn.block _ l1.lt)); (try replace t4 := t4.of_eq (hbn.block _ t4.lt)); (try replace t5 := t5.of_eq (hbn.block _ t5.lt))) | (go_at_call 9; refine (sanity _).mono ?_; rintro e wn ⟨rfl, hbn⟩; have hsz := B.size; have hzn := hbn.size; replace B := B.trans (hbn.mono B.size); (try replace l1 := l1.of_eq (hbn.block _ l1.lt)); (try replace t4 := t4.of_eq (hbn.block _ t4.lt)); (try replace t5 := t5.of_eq (hbn.block _ t5.lt))) | (refine wpList_boxL' rfl _ rfl _ rfl ?_; intro b_l1 wn hle hge ht hbn hzn; have hsz := B.size; replace B := B.trans (hbn.mono (by omega)); have hln := Nat.lt_of_lt_of_eq (Nat.lt_succ_self _) hzn.symm; clear hzn; (try (have hlt := l1.lt; replace l1 := l1.of_eq (hbn.block _ (by omega)))); (try (have hlt := t4.lt; replace t4 := t4.of_eq (hbn.block _ (by omega)))); (try (have hlt := t5.lt; replace t5 := t5.of_eq (hbn.block _ (by omega)))); have l1 := ht; clear ht; simp only [Act.put, List.setIfInBounds_toArray, List.set_cons_zero, List.set_cons_succ]))
  go_loopw [6] (fun i wr => ∃ k : Nat, k ≤ 64 ∧ i = .int .i64 k ∧ Below w.heap.size w wr ∧ LayAt wr b_l1 (L) ∧ TileAt wr b_t4 (overT L.back L.src L.mode L.cov) ∧ TileAt wr b_t5 (maskT L.back L.src)) (fun i _ => (64 - intOf i).toNat)
  case atStart => exact ⟨0, by omega, rfl, B, l1, t4, t5⟩
  case round =>
    clear B l1 t4 t5
    obtain ⟨k, hk64, rfl, B, l1, t4, t5⟩ := hrel
    by_cases hlt : k < 64
    · have hbk := kb.out k hlt
      have hsk := ks.out k hlt
      obtain ⟨ck0, ck1⟩ := kc.out k hlt
      obtain ⟨sk0, sk1⟩ := hsk.2.2.2
      have d1 : ∀ w, (binOp .neq 23 (Px.v (overT L.back L.src L.mode L.cov k)) (Px.v (overP (L.back k) (L.src k) L.mode (L.cov k)))).run Try.prog w = .ok (.bool false) w := fun w => by rw [neq_px, decide_eq_true (show overT L.back L.src L.mode L.cov k = overP (L.back k) (L.src k) L.mode (L.cov k) from rfl)]; rfl
      have d2 : ∀ w, (binOp .neq 23 (Px.v (maskT L.back L.src k)) (Px.v (fadeP (L.back k) (L.src k).a))).run Try.prog w = .ok (.bool false) w := fun w => by rw [neq_px, decide_eq_true (show maskT L.back L.src k = fadeP (L.back k) (L.src k).a from rfl)]; rfl
      go_wp2
      refine wp_region_ov (by kernel_rfl) (by kernel_rfl) ?_
      repeat (first | go_big_quiet_skip | (go_big_quiet_want; first | (refine quiet_loadTp rfl _ rfl (ov_tile t4) (k) (by omega) (by first | rfl | omega) ?_; simp only [Act.put, List.setIfInBounds_toArray, List.set_cons_zero, List.set_cons_succ]; go_big_quiet_on) | (refine quiet_loadTp rfl _ rfl (ov_tile t5) (k) (by omega) (by first | rfl | omega) ?_; simp only [Act.put, List.setIfInBounds_toArray, List.set_cons_zero, List.set_cons_succ]; go_big_quiet_on) | (refine quiet_loadAny (t := 23) rfl _ _ _ rfl (fun w hw => run_lay_backP (ov_lay l1 w hw) hlt) (by first | rfl | omega) ?_; simp only [Act.put, List.setIfInBounds_toArray, List.set_cons_zero, List.set_cons_succ]; go_big_quiet_on) | (refine quiet_loadAny (t := 23) rfl _ _ _ rfl (fun w hw => run_lay_srcP (ov_lay l1 w hw) hlt) (by first | rfl | omega) ?_; simp only [Act.put, List.setIfInBounds_toArray, List.set_cons_zero, List.set_cons_succ]; go_big_quiet_on) | (refine quiet_loadAny (t := 5) rfl _ _ _ rfl (fun w hw => run_lay_srcA (ov_lay l1 w hw) hlt) (by first | rfl | omega) ?_; simp only [Act.put, List.setIfInBounds_toArray, List.set_cons_zero, List.set_cons_succ]; go_big_quiet_on) | (refine quiet_loadAny (t := 5) rfl _ _ _ rfl (fun w hw => run_lay_covB (ov_lay l1 w hw) hlt) (by first | rfl | omega) ?_; simp only [Act.put, List.setIfInBounds_toArray, List.set_cons_zero, List.set_cons_succ]; go_big_quiet_on) | (refine quiet_loadAny (t := 3) rfl _ _ _ rfl (fun w hw => run_lay_mode (ov_lay l1 w hw)) (by rfl) ?_; simp only [Act.put, List.setIfInBounds_toArray, List.set_cons_zero, List.set_cons_succ]; go_big_quiet_on) | (go_big_quiet_op; first | go_big_quiet_on | go_big_quiet_call ((first | (go_at_call 30; exact calls_ov (P_Over _ _ _ _ _ hbk hsk)) | (go_at_call 31; exact calls_ov (P_Fade _ _ _ hbk)))))))
      refine wpQuiet_nil ?_
      intro wn hbn
      have hsz := B.size
      have hzn := hbn.size
      replace B := B.trans (hbn.mono B.size)
      try replace l1 := l1.of_eq (hbn.block _ l1.lt)
      try replace t4 := t4.of_eq (hbn.block _ t4.lt)
      try replace t5 := t5.of_eq (hbn.block _ t5.lt)
      go_wp2
      go_roundw
      case rel => exact ⟨k + 1, by omega, by go_num, B, l1, t4, t5⟩
      case measure => simp [intOf]; omega
    · obtain rfl : k = 64 := by omega
      have kb2 := Lib.hid (turn_ok kb.out)
      have ks2 := Lib.hid (turn_ok ks.out)
      have kb3 := Lib.hid (flip_ok kb.out)
      have ks3 := Lib.hid (flip_ok ks.out)
      have kc2 := Lib.hid (turnC_ok kc.out)
      go_wp2
      refine wp_region_ov (by kernel_rfl) (by kernel_rfl) ?_
      repeat (first | go_big_quiet_skip | (go_big_quiet_want; first | (refine quiet_loadT rfl _ rfl (ov_tile t4) ?_; simp only [Act.put, List.setIfInBounds_toArray, List.set_cons_zero, List.set_cons_succ]; go_big_quiet_on) | (refine quiet_loadT rfl _ rfl (ov_tile t5) ?_; simp only [Act.put, List.setIfInBounds_toArray, List.set_cons_zero, List.set_cons_succ]; go_big_quiet_on) | (refine quiet_loadAny (t := 25) rfl _ _ _ rfl (fun w hw => run_lay_back (ov_lay l1 w hw)) (by rfl) ?_; simp only [Act.put, List.setIfInBounds_toArray, List.set_cons_zero, List.set_cons_succ]; go_big_quiet_on) | (refine quiet_loadAny (t := 25) rfl _ _ _ rfl (fun w hw => run_lay_src (ov_lay l1 w hw)) (by rfl) ?_; simp only [Act.put, List.setIfInBounds_toArray, List.set_cons_zero, List.set_cons_succ]; go_big_quiet_on) | (refine quiet_loadAny (t := 39) rfl _ _ _ rfl (fun w hw => run_lay_cov (ov_lay l1 w hw)) (by rfl) ?_; simp only [Act.put, List.setIfInBounds_toArray, List.set_cons_zero, List.set_cons_succ]; go_big_quiet_on) | (refine quiet_loadAny (t := 3) rfl _ _ _ rfl (fun w hw => run_lay_mode (ov_lay l1 w hw)) (by rfl) ?_; simp only [Act.put, List.setIfInBounds_toArray, List.set_cons_zero, List.set_cons_succ]; go_big_quiet_on) | (go_big_quiet_op; first | go_big_quiet_on | go_big_quiet_call ((first | (go_at_call 12; exact calls_ov (P_Turn _ _)) | (go_at_call 10; exact calls_ov (P_Flip _ _)) | (go_at_call 32; exact calls_ov (L_turnC _ _ kc.out)) | (go_at_call 26; exact calls_ov (P_Over_t _ _ _ _ _ kb2.out ks2.out kc2.out)) | (go_at_call 28; exact calls_ov (P_Mask _ _ _ (by first | exact kb2.out | exact kb3.out) (by first | exact ks2.out | exact ks3.out))))))))
      refine wpQuiet_nil ?_
      intro wn hbn
      have hsz := B.size
      have hzn := hbn.size
      replace B := B.trans (hbn.mono B.size)
      try replace l1 := l1.of_eq (hbn.block _ l1.lt)
      try replace t4 := t4.of_eq (hbn.block _ t4.lt)
      try replace t5 := t5.of_eq (hbn.block _ t5.lt)
      go_wp2
      go_ret
      exact ⟨rfl, B⟩

namespace tilePointwise
open Go.ChangeShapes Go.WideShapes Go.ChangeAt Go.RowKit
open Go.ChangeMaps (open_string shut_string)
set_option maxRecDepth 100000 in
theorem lifted (os : Os) (started : os.Started) (H : Type) (enc : TypeId × Value → H) :
    ReturnsInHanded {} Try.checked os 8 .any (Rows.tilePointwiseSpec.pre6 enc Try.prog Try.f8 Rows.tilePointwiseRow.domain false) (Rows.tilePointwiseSpec.post enc Try.prog Try.f8 false true false false) := by
  refine returnsInHanded_of_change (C := Try.checked) own started (by kernel_rfl) Try.func8
    (ChangeSpec.witness6 (enc := enc) (C := Try.checked) false ⟨#[], #[.agg ((((Array.replicate 512 (.int .u8 0)).push (.int .i64 0))) ++ Array.replicate 64 (.int .u8 0))], []⟩ 8 (by kernel_rfl) (by kernel_rfl) (by kernel_rfl) (by kernel_rfl)) ?_
  intro W base args ds gs before hval0 hW hcnd _
  have hval : ∀ (j : Nat) t v, Try.f8.params[j]? = some t → args[j]? = some v → Value.okWide Try.prog W .any base t v := hval0
  have hW' := hW
  obtain ⟨p, q, hA0, hV, rfl, hfz, hnd⟩ := hW
  have hA : DataW.TrodAll enc Try.prog W 0 (fun _ => true) true Try.f8.params.toList args.toList ds p := hA0
  rw [Try.params8] at hA hval
  obtain ⟨v0, vs0, d0, ds0, p0, q0, hargs, rfl, rfl, h0, r0⟩ := trodAll_cons hA
  obtain ⟨rfl, rfl, rfl⟩ := trodAll_nil r0
  obtain rfl : args = #[v0] := by cases args; simp_all
  obtain ⟨rfl, rfl⟩ := trodVars_none hV
  have k0 := h0
  have lt0 : ∀ x ∈ p0, x.block < W.heap.size := by obtain ⟨m, hm⟩ := k0; exact DataW.trod_lt m _ _ _ hm
  obtain ⟨a0, rfl, wb0, ws0, wc0, wm0⟩ := open_layers (hval 0 41 v0 rfl rfl) h0
  clear hA0 hval0
  refine (walk_TilePointwise a0 wb0 ws0 wc0 wm0 W ).mono fun e W' ⟨he, bel⟩ => ?_
  subst he
  exact ⟨_, rfl, _, _, _, [], _, [], hW', trodAll_mk1 (shut_bool Try.underlying4 _), (trodAll_cons_mk (Below.trod laidOut (by kernel_rfl) (of_decide_eq_true (by kernel_rfl)) k0 bel lt0) trodAll_mk0), rfl, bel.frame _, fun h => by cases h⟩
theorem over : Rows.tilePointwiseRow.holds Try.pinned (OpenSpec.ofChange Rows.tilePointwiseSpec) :=
  OpenClaim.holds_of_wide 8 Try.f8 rfl rfl rfl rfl rfl rfl rfl ⟨rfl, rfl, rfl, rfl, rfl⟩ rfl rfl rfl rfl rfl (by kernel_rfl) Try.func8 (by kernel_rfl)
    (of_decide_eq_true (by kernel_rfl)) (by unfold Func.isWrapper; first | (rw [if_pos (by decide +kernel)]; kernel_rfl) | (rw [if_neg (by decide +kernel)]; exact ⟨rfl, rfl⟩))
    (fun os started H enc _ => lifted os started H enc)
/-- THE STATEMENT: TilePointwise returns true for every input, and its arguments read as they did. -/
theorem proved : Rows.TilePointwiseSaid := over
end tilePointwise

end Go.Proofs.Ytelfkakaaobfcaa
