/- PixelNames: Name and Mode are inverse to each other on the 16 modes and reject everything else: the law returns true for every input, and its arguments read as they did. No condition. -/
import Derived.Test.YtipoloehdheeeaaPs
import Derived.Test.YtipoloehdheeeaaNm2
import Derived.Test.YtipoloehdheeeaaFr
namespace Go.Proofs.Ytipoloehdheeeaa
open Go.RowKit Pl
set_option linter.unusedVariables false
set_option linter.unusedSimpArgs false

set_option maxHeartbeats 2000000 in
theorem walk_PixelNames (m : Int) (s : ByteArray) (w0 : (Lit.int .i64 m).wf = true) (w1 : s.size ≤ maxLen) (w : World) :
    Calls Try.prog 10 #[.int .i64 m, .string s] w fun e w' => e = .returned (.bool true) ∧ Below w.heap.size w w' := by
  clear w0 w1
  go_enter Try.func10, Try.ntmps10
  go_wp2_with fail
  refine (sanity _).mono ?_
  rintro e w1 ⟨rfl, hb1⟩
  go_wp2_with fail
  go_loopw [6, 7, 8] (fun i _ _ wr => ∃ k : Nat, k ≤ 16 ∧ i = .int .i64 k ∧ Below w.heap.size w wr) (fun i _ _ _ => (16 - intOf i).toNat)
  case atStart => exact ⟨0, by omega, rfl, hb1⟩
  case round =>
    obtain ⟨k, hk, rfl, hbr⟩ := hrel
    by_cases hlt : k < 16
    · have hmo := modeOf_name k hlt
      go_wp2_with fail
      refine (P_Name _ _).mono ?_
      rintro e w2 ⟨rfl, hb2⟩
      go_wp2_with fail
      refine (P_Mode _ _).mono ?_
      rintro e w3 ⟨rfl, hb3⟩
      rw [hmo]
      go_wp2_with fail
      refine (P_Name _ _).mono ?_
      rintro e w4 ⟨rfl, hb4⟩
      go_wp2_with fail
      refine (R_Name _ _).mono ?_
      rintro e w5 ⟨rfl, hb5⟩
      go_wp2_with fail
      have z1 := hbr.size
      have z2 := hb2.size
      have z3 := hb3.size
      have z4 := hb4.size
      go_roundw
      case rel => first | exact ⟨k + 1, by omega, by go_num, (((hbr.trans (hb2.mono z1)).trans (hb3.mono (by omega))).trans (hb4.mono (by omega))).trans (hb5.mono (by omega))⟩ | ((repeat apply Exists.intro); exact ⟨⟨k + 1, by omega, by go_num, (((hbr.trans (hb2.mono z1)).trans (hb3.mono (by omega))).trans (hb4.mono (by omega))).trans (hb5.mono (by omega))⟩, rfl⟩)
      case measure => simp [intOf]; omega
    · go_wp2_with fail
      refine (P_Mode _ _).mono ?_
      rintro e w2 ⟨rfl, hb2⟩
      go_wp2_with fail
      refine (R_Mode _ _).mono ?_
      rintro e w3 ⟨rfl, hb3⟩
      go_wp2_with fail
      refine (P_Name _ _).mono ?_
      rintro e w4 ⟨rfl, hb4⟩
      go_wp2_with fail
      refine (R_Name _ _).mono ?_
      rintro e w5 ⟨rfl, hb5⟩
      go_wp2_with fail
      have z1 := hbr.size
      have z2 := hb2.size
      have z3 := hb3.size
      have z4 := hb4.size
      go_ret
      refine ⟨rfl, ?_⟩
      exact (((hbr.trans (hb2.mono z1)).trans (hb3.mono (by omega))).trans (hb4.mono (by omega))).trans (hb5.mono (by omega))

namespace pixelNames
open Go.ChangeShapes Go.WideShapes Go.ChangeAt Go.RowKit
open Go.ChangeMaps (open_string shut_string)
set_option maxRecDepth 100000 in
theorem lifted (os : Os) (started : os.Started) (H : Type) (enc : TypeId × Value → H) :
    ReturnsInHanded {} Try.checked os 10 .any (Rows.pixelNamesSpec.pre6 enc Try.prog Try.f10 Rows.pixelNamesRow.domain false) (Rows.pixelNamesSpec.post enc Try.prog Try.f10 false true false false) := by
  refine returnsInHanded_of_change (C := Try.checked) own started (by kernel_rfl) Try.func10
    (ChangeSpec.witness6 (enc := enc) (C := Try.checked) false ⟨#[], #[.int .i64 0, .string ⟨#[]⟩], []⟩ 8 (by kernel_rfl) (by kernel_rfl) (by kernel_rfl) (by kernel_rfl)) ?_
  intro W base args ds gs before hval0 hW hcnd _
  have hval : ∀ (j : Nat) t v, Try.f10.params[j]? = some t → args[j]? = some v → Value.okWide Try.prog W .any base t v := hval0
  have hW' := hW
  obtain ⟨p, q, hA0, hV, rfl, hfz, hnd⟩ := hW
  have hA : DataW.TrodAll enc Try.prog W 0 (fun _ => true) true Try.f10.params.toList args.toList ds p := hA0
  rw [Try.params10] at hA hval
  obtain ⟨v0, vs0, d0, ds0, p0, q0, hargs, rfl, rfl, h0, r0⟩ := trodAll_cons hA
  obtain ⟨v1, vs1, d1, ds1, p1, q1, rfl, rfl, rfl, h1, r1⟩ := trodAll_cons r0
  obtain ⟨rfl, rfl, rfl⟩ := trodAll_nil r1
  obtain rfl : args = #[v0, v1] := by cases args; simp_all
  obtain ⟨rfl, rfl⟩ := trodVars_none hV
  have k0 := h0
  have lt0 : ∀ x ∈ p0, x.block < W.heap.size := by obtain ⟨m, hm⟩ := k0; exact DataW.trod_lt m _ _ _ hm
  have k1 := h1
  have lt1 : ∀ x ∈ p1, x.block < W.heap.size := by obtain ⟨m, hm⟩ := k1; exact DataW.trod_lt m _ _ _ hm
  obtain ⟨a0, rfl, rfl, rfl, w0⟩ := open_int Try.underlying3 (hval 0 3 v0 rfl rfl) h0
  obtain ⟨a1, rfl, rfl, rfl, w1⟩ := open_string Try.underlying9 (hval 1 9 v1 rfl rfl) h1
  clear hA0 hval0
  refine (walk_PixelNames a0 a1 w0 w1 W).mono fun e W' ⟨he, bel⟩ => ?_
  subst he
  exact ⟨_, rfl, _, _, _, [], _, [], hW', trodAll_mk1 (shut_bool Try.underlying4 _), (trodAll_cons_mk (Below.trod laidOut (by kernel_rfl) (of_decide_eq_true (by kernel_rfl)) k0 bel lt0) (trodAll_cons_mk (Below.trod laidOut (by kernel_rfl) (of_decide_eq_true (by kernel_rfl)) k1 bel lt1) trodAll_mk0)), rfl, bel.frame _, fun h => by cases h⟩
theorem over : Rows.pixelNamesRow.holds Try.pinned (OpenSpec.ofChange Rows.pixelNamesSpec) :=
  OpenClaim.holds_of_wide 10 Try.f10 rfl rfl rfl rfl rfl rfl rfl ⟨rfl, rfl, rfl, rfl, rfl⟩ rfl rfl rfl rfl rfl (by kernel_rfl) Try.func10 (by kernel_rfl)
    (of_decide_eq_true (by kernel_rfl)) (by unfold Func.isWrapper; first | (rw [if_pos (by decide +kernel)]; kernel_rfl) | (rw [if_neg (by decide +kernel)]; exact ⟨rfl, rfl⟩))
    (fun os started H enc _ => lifted os started H enc)
/-- THE STATEMENT: PixelNames returns true for every input, and its arguments read as they did. -/
theorem proved : Rows.PixelNamesSaid := over
end pixelNames

end Go.Proofs.Ytipoloehdheeeaa
