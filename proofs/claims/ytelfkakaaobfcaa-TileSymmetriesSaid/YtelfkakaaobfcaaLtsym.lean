/- TileSymmetries: Flip and Turn return what the reference returns: the law returns true for every input, and its argument reads as it did. No condition. -/
import Derived.Test.YtelfkakaaobfcaaTsan
namespace Go.Proofs.Ytelfkakaaobfcaa
open Go.RowKit Pl
set_option linter.unusedVariables false
set_option linter.unusedSimpArgs false

set_option maxHeartbeats 2000000 in
set_option maxRecDepth 20000 in
theorem walk_TileSymmetries (t : Nat → Px) (ht : Tok t) (w : World) : Calls Try.prog 3 #[Tile.v t] w fun e w' => e = .returned (.bool true) ∧ Below w.heap.size w w' := by
  have hcmp := eql_tile_same
  clear ht
  go_enter Try.func3, Try.ntmps3
  go_wp2_with (first | (go_at_call 9; refine (sanity _).mono ?_; rintro e w2 ⟨rfl, hb2⟩; have hz2 := hb2.size; replace t1 := t1.of_eq (hb2.block _ t1.lt)) | (refine wpList_boxT rfl _ rfl _ rfl ?_; intro w1 t1 hb1 hz1; have l1 := Nat.lt_of_lt_of_eq (Nat.lt_succ_self _) hz1.symm; clear hz1; simp only [Act.put, List.setIfInBounds_toArray, List.set_cons_zero, List.set_cons_succ]))
  refine wp_region_ov (by kernel_rfl) (by kernel_rfl) ?_
  repeat (first | go_big_quiet_skip | (go_big_quiet_want; first | (refine quiet_loadT rfl _ rfl (ov_tile t1) ?_; simp only [Act.put, List.setIfInBounds_toArray, List.set_cons_zero, List.set_cons_succ]; go_big_quiet_on) | (go_big_quiet_op; first | go_big_quiet_on | go_big_quiet_call ((first | (go_at_call 10; exact calls_ov (P_Flip _ _)) | (go_at_call 12; exact calls_ov (P_Turn _ _)) | (go_at_call 11; exact calls_ov (R_Flip _ _)) | (go_at_call 13; exact calls_ov (R_Turn _ _)))))))
  refine wpQuiet_nil ?_
  intro w3 hb3
  have hz3 := hb3.size
  go_wp2
  go_ret
  refine ⟨rfl, ?_⟩
  repeat' (first | (with_reducible exact Below.refl _ _) | (with_reducible assumption) | (with_reducible refine Below.trans ?_ (hb1.mono (by omega))) | (with_reducible refine Below.trans ?_ (hb2.mono (by omega))) | (with_reducible refine Below.trans ?_ (hb3.mono (by omega))))

namespace tileSymmetries
open Go.ChangeShapes Go.WideShapes Go.ChangeAt Go.RowKit
open Go.ChangeMaps (open_string shut_string)
set_option maxRecDepth 100000 in
theorem lifted (os : Os) (started : os.Started) (H : Type) (enc : TypeId × Value → H) :
    ReturnsInHanded {} Try.checked os 3 .any (Rows.tileSymmetriesSpec.pre6 enc Try.prog Try.f3 Rows.tileSymmetriesRow.domain false) (Rows.tileSymmetriesSpec.post enc Try.prog Try.f3 false true false false) := by
  refine returnsInHanded_of_change (C := Try.checked) own started (by kernel_rfl) Try.func3
    (ChangeSpec.witness6 (enc := enc) (C := Try.checked) false ⟨#[], #[.agg (Array.replicate 256 (.int .u8 0))], []⟩ 8 (by kernel_rfl) (by kernel_rfl) (by kernel_rfl) (by kernel_rfl)) ?_
  intro W base args ds gs before hval0 hW hcnd _
  have hval : ∀ (j : Nat) t v, Try.f3.params[j]? = some t → args[j]? = some v → Value.okWide Try.prog W .any base t v := hval0
  have hW' := hW
  obtain ⟨p, q, hA0, hV, rfl, hfz, hnd⟩ := hW
  have hA : DataW.TrodAll enc Try.prog W 0 (fun _ => true) true Try.f3.params.toList args.toList ds p := hA0
  rw [Try.params3] at hA hval
  obtain ⟨v0, vs0, d0, ds0, p0, q0, hargs, rfl, rfl, h0, r0⟩ := trodAll_cons hA
  obtain ⟨rfl, rfl, rfl⟩ := trodAll_nil r0
  obtain rfl : args = #[v0] := by cases args; simp_all
  obtain ⟨rfl, rfl⟩ := trodVars_none hV
  have k0 := h0
  have lt0 : ∀ x ∈ p0, x.block < W.heap.size := by obtain ⟨m, hm⟩ := k0; exact DataW.trod_lt m _ _ _ hm
  obtain ⟨a0, rfl, w0⟩ := open_tile (hval 0 25 v0 rfl rfl) h0
  clear hA0 hval0
  refine (walk_TileSymmetries a0 w0 W ).mono fun e W' ⟨he, bel⟩ => ?_
  subst he
  exact ⟨_, rfl, _, _, _, [], _, [], hW', trodAll_mk1 (shut_bool Try.underlying4 _), (trodAll_cons_mk (Below.trod laidOut (by kernel_rfl) (of_decide_eq_true (by kernel_rfl)) k0 bel lt0) trodAll_mk0), rfl, bel.frame _, fun h => by cases h⟩
theorem over : Rows.tileSymmetriesRow.holds Try.pinned (OpenSpec.ofChange Rows.tileSymmetriesSpec) :=
  OpenClaim.holds_of_wide 3 Try.f3 rfl rfl rfl rfl rfl rfl rfl ⟨rfl, rfl, rfl, rfl, rfl⟩ rfl rfl rfl rfl rfl (by kernel_rfl) Try.func3 (by kernel_rfl)
    (of_decide_eq_true (by kernel_rfl)) (by unfold Func.isWrapper; first | (rw [if_pos (by decide +kernel)]; kernel_rfl) | (rw [if_neg (by decide +kernel)]; exact ⟨rfl, rfl⟩))
    (fun os started H enc _ => lifted os started H enc)
/-- THE STATEMENT: TileSymmetries returns true for every input, and its arguments read as they did. -/
theorem proved : Rows.TileSymmetriesSaid := over
end tileSymmetries

end Go.Proofs.Ytelfkakaaobfcaa
