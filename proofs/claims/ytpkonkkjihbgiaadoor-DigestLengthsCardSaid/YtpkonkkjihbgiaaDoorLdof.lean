/- DigestOf: for every string, Of agrees with the reference implementation: the law returns true for every input, and its argument reads as it did. The two tables of package digest hold what the program's text lays. No other condition. -/
import Derived.Test.YtpkonkkjihbgiaaDoorDw
namespace Go.Proofs.YtpkonkkjihbgiaaDoor
open Go.RowKit Sha
set_option linter.unusedVariables false
set_option linter.unusedSimpArgs false

theorem ext_size (s : ByteArray) (n : Nat) : (s.extract 0 (min s.size n)).size = min s.size n := by
  rw [ByteArray.size_extract]; omega
set_option maxHeartbeats 1000000 in
set_option maxRecDepth 20000 in
theorem walk_DigestOf (s : ByteArray) (hs : s.size ≤ maxLen) (w : World) (gs : GAt 0 8 w Sha.start.at) (kt : GAt 1 64 w kW) : Calls Tryd.prog 3 #[.string s] w fun e w' => e = .returned (.bool true) ∧ Below w.heap.size w w' := by
  have B := Below.refl w.heap.size w
  go_enter Tryd.func3, Tryd.ntmps3
  go_wp2_with (first | (go_at_call 15; refine (S_Of _ _ (by rw [ext_size]; omega) gs kt).mono ?_; rintro e wn ⟨rfl, hbn⟩; have hsz := B.size; have hzn := hbn.size; replace B := B.trans (hbn.mono B.size); (try first | replace gs := gs.of_eq (hbn.block _ gs.lt) | replace gs := gs.below hbn); (try first | replace kt := kt.of_eq (hbn.block _ kt.lt) | replace kt := kt.below hbn)) | (go_at_call 16; refine (S_OfR _ _ (by rw [ext_size]; omega)).mono ?_; rintro e wn ⟨rfl, hbn⟩; have hsz := B.size; have hzn := hbn.size; replace B := B.trans (hbn.mono B.size); (try first | replace gs := gs.of_eq (hbn.block _ gs.lt) | replace gs := gs.below hbn); (try first | replace kt := kt.of_eq (hbn.block _ kt.lt) | replace kt := kt.below hbn)) | (go_at_call 13; refine (sanity _ gs kt).mono ?_; rintro e wn ⟨rfl, hbn⟩; have hsz := B.size; have hzn := hbn.size; replace B := B.trans (hbn.mono B.size); (try first | replace gs := gs.of_eq (hbn.block _ gs.lt) | replace gs := gs.below hbn); (try first | replace kt := kt.of_eq (hbn.block _ kt.lt) | replace kt := kt.below hbn)) | (go_at_call 14; refine (L_some _ 400 _ hs (by omega)).mono ?_; rintro e wq ⟨rfl, rfl⟩))
  go_ret
  exact ⟨rfl, B⟩

namespace digestOf
open Go.ChangeShapes Go.WideShapes Go.ChangeAt Go.RowKit
open Go.ChangeMaps (open_string shut_string)
set_option maxRecDepth 100000 in
theorem lifted (os : Os) (started : os.Started) (H : Type) (enc : TypeId × Value → H) :
    ReturnsInHanded {} Tryd.checked os 3 .any (fun w args => (Rows.digestOfSpec.pre enc Tryd.prog Tryd.f3 [] false w args ∧ laidMetH Tryd.prog laidD w) ∧ sizedMet enc Tryd.prog Tryd.f3 (OpenSpec.ofChange Rows.digestOfSpec) false w args) (Rows.digestOfSpec.post enc Tryd.prog Tryd.f3 false true false false) := by
  refine returnsInHanded_of_change_and (C := Tryd.checked) (X := fun w _ => laidMetH Tryd.prog laidD w) (fun _ _ _ hh h => h.of_heap hh) own started (by kernel_rfl) Tryd.func3
    (ChangeSpec.witness_shaped (enc := enc) (C := Tryd.checked) (os := os) (X := fun w _ => laidMetH Tryd.prog laidD w) false (World.doorLaid Tryd.prog 400 os) #[.string ⟨#[]⟩] 8 rfl (World.shaped_of_RefB (by kernel_rfl) (by kernel_rfl)) (by kernel_rfl) (by kernel_rfl) (by kernel_rfl) (door_met os _)) ?_
  intro W base args ds gs before hval0 hW _ _ hL _
  obtain ⟨hgs, hkt⟩ := of_laid hL
  have hval : ∀ (j : Nat) t v, Tryd.f3.params[j]? = some t → args[j]? = some v → Value.okWide Tryd.prog W .any base t v := hval0
  have hW' := hW
  obtain ⟨p, q, hA0, hV, rfl, hfz, hnd⟩ := hW
  have hA : DataW.TrodAll enc Tryd.prog W 0 (fun _ => true) true Tryd.f3.params.toList args.toList ds p := hA0
  rw [Tryd.params3] at hA hval
  obtain ⟨v0, vs0, d0, ds0, p0, q0, hargs, rfl, rfl, h0, r0⟩ := trodAll_cons hA
  obtain ⟨rfl, rfl, rfl⟩ := trodAll_nil r0
  obtain rfl : args = #[v0] := by cases args; simp_all
  obtain ⟨rfl, rfl⟩ := trodVars_none hV
  have k0 := h0
  have lt0 : ∀ x ∈ p0, x.block < W.heap.size := by obtain ⟨m, hm⟩ := k0; exact DataW.trod_lt m _ _ _ hm
  obtain ⟨a0, rfl, rfl, rfl, w0⟩ := open_string Tryd.underlying9 (hval 0 9 v0 rfl rfl) h0
  clear hA0 hval0
  refine (walk_DigestOf a0 w0 W hgs hkt).mono fun e W' ⟨he, bel⟩ => ?_
  subst he
  exact ⟨_, rfl, _, _, _, [], _, [], hW', trodAll_mk1 (shut_bool Tryd.underlying4 _), (trodAll_cons_mk (Below.trod laidOut (by kernel_rfl) (of_decide_eq_true (by kernel_rfl)) k0 bel lt0) trodAll_mk0), rfl, bel.frame _, fun h => by cases h⟩
theorem over : Rows.digestOfRow.holds Tryd.pinned (OpenSpec.ofChange Rows.digestOfSpec) :=
  OpenClaim.holds_of_wide 3 Tryd.f3 rfl rfl rfl rfl rfl rfl rfl ⟨rfl, rfl, rfl, rfl, rfl⟩ rfl rfl rfl rfl rfl (by kernel_rfl) Tryd.func3 (by kernel_rfl)
    (of_decide_eq_true (by kernel_rfl)) (by unfold Func.isWrapper; first | (rw [if_pos (by decide +kernel)]; kernel_rfl) | (rw [if_neg (by decide +kernel)]; exact ⟨rfl, rfl⟩))
    (fun os started H enc _ => lifted os started H enc)
/-- THE STATEMENT: DigestOf returns true for every input, and its arguments read as they did; what the two tables hold is tied to the program's text. -/
theorem proved : Rows.DigestOfCardSaid := by
  unfold Rows.DigestOfCardSaid Rows.digestOfCard
  exact Claim7.holds_tied_plain_at .later [] [.data, .data] true _ false over (fun _ h => by cases h) (by kernel_rfl) (fun _ h => by cases h) digestOf_row_tie rfl ⟨rfl, rfl⟩ (by kernel_rfl) rfl
    (fun f fn hf hfn => by
      obtain rfl : f = 3 := Option.some.inj ((show Tryd.prog.funcNamed "gouache/gouachelaw02.DigestOf" = some 3 by kernel_rfl).symm.trans hf) |>.symm
      obtain rfl : fn = Tryd.f3 := (Option.some.inj (Tryd.func3.symm.trans hfn)).symm
      exact ⟨by kernel_rfl, fun j t ht => by
        rw [Tryd.params3] at ht
        have hm : t ∈ [9] := by simpa using Array.mem_of_getElem? ht
        have hall : ([9].all fun u => !Tryd.prog.wantsStandIn u) = true := by kernel_rfl
        exact (show Tryd.prog.wantsStandIn t = false by simpa using List.all_eq_true.1 hall t hm)⟩)
    (by kernel_rfl)
end digestOf

end Go.Proofs.YtpkonkkjihbgiaaDoor
