/- DigestNested: for every two lists, their digests can be joined in turn, and order and grouping are part of the preimage: the law returns true for every input, and its arguments read as they did. The two tables of package digest hold what the program's text lays. No other condition. -/
import Derived.Test.YtpkonkkjihbgiaaDoorDn
namespace Go.Proofs.YtpkonkkjihbgiaaDoor
open Go.RowKit Sha
set_option linter.unusedVariables false
set_option linter.unusedSimpArgs false

theorem big32 : big 32 8 = [0, 0, 0, 0, 0, 0, 0, 32] := by decide
theorem nest_two (X Y : ByteArray) (h1 : X.size = 32) (h2 : Y.size = 32) : JL [X, Y] = DS (⟨#[0, 0, 0, 0, 0, 0, 0, 32]⟩ ++ X ++ ⟨#[0, 0, 0, 0, 0, 0, 0, 32]⟩ ++ Y) := by
  unfold JL
  congr 1
  have e : joinP [X, Y] [X, Y].length = [0, 0, 0, 0, 0, 0, 0, 32] ++ bytes X ++ [0, 0, 0, 0, 0, 0, 0, 32] ++ bytes Y := by
    show ([] ++ big X.size 8 ++ bytes X) ++ big Y.size 8 ++ bytes Y = _
    rw [h1, h2, big32, List.nil_append]
  rw [e, ← ofL_append, ← ofL_append, ← ofL_append]
  rfl
theorem nest_one (X : ByteArray) (h1 : X.size = 32) : JL [X] = DS (⟨#[0, 0, 0, 0, 0, 0, 0, 32]⟩ ++ X) := by
  unfold JL
  congr 1
  have e : joinP [X] [X].length = [0, 0, 0, 0, 0, 0, 0, 32] ++ bytes X := by
    show [] ++ big X.size 8 ++ bytes X = _
    rw [h1, big32, List.nil_append]
  rw [e, ← ofL_append]
  rfl
theorem nest_none : JL [⟨#[]⟩] = DS ⟨#[0, 0, 0, 0, 0, 0, 0, 0]⟩ := by
  unfold JL
  congr 1
theorem nlt2 (xs ys : List ByteArray) : (⟨#[0, 0, 0, 0, 0, 0, 0, 32]⟩ ++ JL xs ++ ⟨#[0, 0, 0, 0, 0, 0, 0, 32]⟩ ++ JL ys : ByteArray).size < 1099511627776 := by
  simp only [ByteArray.size_append, JL_size]
  decide
theorem nlt1 (xs : List ByteArray) : (⟨#[0, 0, 0, 0, 0, 0, 0, 32]⟩ ++ JL xs : ByteArray).size < 1099511627776 := by
  simp only [ByteArray.size_append, JL_size]
  decide
theorem nlt0 : (⟨#[0, 0, 0, 0, 0, 0, 0, 0]⟩ : ByteArray).size < 1099511627776 := by decide
set_option maxHeartbeats 2000000 in
set_option maxRecDepth 20000 in
theorem walk_DigestNested (v0 v1 : Value) (w : World) (ha : StrsAt v0 w) (hb : StrsAt v1 w) (gs : GAt 0 8 w Sha.start.at) (kt : GAt 1 64 w kW) : Calls Tryd.prog 7 #[v0, v1] w fun e w' => e = .returned (.bool true) ∧ Below w.heap.size w w' := by
  have B := Below.refl w.heap.size w
  go_enter Tryd.func7, Tryd.ntmps7
  have e1 : ∀ xs ys : List ByteArray, JL [JL xs, JL ys] = DS (⟨#[0, 0, 0, 0, 0, 0, 0, 32]⟩ ++ JL xs ++ ⟨#[0, 0, 0, 0, 0, 0, 0, 32]⟩ ++ JL ys) := fun xs ys => nest_two _ _ (JL_size _) (JL_size _)
  have e2 : ∀ xs : List ByteArray, JL [JL xs] = DS (⟨#[0, 0, 0, 0, 0, 0, 0, 32]⟩ ++ JL xs) := fun xs => nest_one _ (JL_size _)
  have e3 := nest_none
  have hj := JL_size
  go_wp2_with (first | (go_at_call 15; refine (S_Of _ _ (by first | exact nlt2 _ _ | exact nlt1 _ | exact nlt0) gs kt).mono ?_; rintro e wn ⟨rfl, hbn⟩; have hsz := B.size; have hzn := hbn.size; replace B := B.trans (hbn.mono B.size); (try first | replace gs := gs.of_eq (hbn.block _ gs.lt) | replace gs := gs.below hbn); (try first | replace kt := kt.of_eq (hbn.block _ kt.lt) | replace kt := kt.below hbn); (try first | replace ha := ha.of_eq (hbn.block _ ha.lt) | replace ha := ha.below hbn); (try first | replace hb := hb.of_eq (hbn.block _ hb.lt) | replace hb := hb.below hbn); (try first | replace la := la.of_eq (hbn.block _ la.lt) | replace la := la.below hbn); (try first | replace lb := lb.of_eq (hbn.block _ lb.lt) | replace lb := lb.below hbn); (try first | replace l1 := l1.of_eq (hbn.block _ l1.lt) | replace l1 := l1.below hbn); (try first | replace l2 := l2.of_eq (hbn.block _ l2.lt) | replace l2 := l2.below hbn); (try first | replace l3 := l3.of_eq (hbn.block _ l3.lt) | replace l3 := l3.below hbn)) | (have hk_ := lb; go_at_call 18; refine (P_JoinL lb (by first | omega | decide | exact Nat.le_trans hna (by omega)) (hMb) gs kt).mono ?_; clear hk_ lb; rintro e wn ⟨rfl, hbn⟩; have hsz := B.size; have hzn := hbn.size; replace B := B.trans (hbn.mono B.size); (try first | replace gs := gs.of_eq (hbn.block _ gs.lt) | replace gs := gs.below hbn); (try first | replace kt := kt.of_eq (hbn.block _ kt.lt) | replace kt := kt.below hbn); (try first | replace ha := ha.of_eq (hbn.block _ ha.lt) | replace ha := ha.below hbn); (try first | replace hb := hb.of_eq (hbn.block _ hb.lt) | replace hb := hb.below hbn); (try first | replace la := la.of_eq (hbn.block _ la.lt) | replace la := la.below hbn); (try first | replace lb := lb.of_eq (hbn.block _ lb.lt) | replace lb := lb.below hbn); (try first | replace l1 := l1.of_eq (hbn.block _ l1.lt) | replace l1 := l1.below hbn); (try first | replace l2 := l2.of_eq (hbn.block _ l2.lt) | replace l2 := l2.below hbn); (try first | replace l3 := l3.of_eq (hbn.block _ l3.lt) | replace l3 := l3.below hbn)) | (have hk_ := la; go_at_call 18; refine (P_JoinL la (by first | omega | decide | exact Nat.le_trans hna (by omega)) (hMa) gs kt).mono ?_; clear hk_ la; rintro e wn ⟨rfl, hbn⟩; have hsz := B.size; have hzn := hbn.size; replace B := B.trans (hbn.mono B.size); (try first | replace gs := gs.of_eq (hbn.block _ gs.lt) | replace gs := gs.below hbn); (try first | replace kt := kt.of_eq (hbn.block _ kt.lt) | replace kt := kt.below hbn); (try first | replace ha := ha.of_eq (hbn.block _ ha.lt) | replace ha := ha.below hbn); (try first | replace hb := hb.of_eq (hbn.block _ hb.lt) | replace hb := hb.below hbn); (try first | replace la := la.of_eq (hbn.block _ la.lt) | replace la := la.below hbn); (try first | replace lb := lb.of_eq (hbn.block _ lb.lt) | replace lb := lb.below hbn); (try first | replace l1 := l1.of_eq (hbn.block _ l1.lt) | replace l1 := l1.below hbn); (try first | replace l2 := l2.of_eq (hbn.block _ l2.lt) | replace l2 := l2.below hbn); (try first | replace l3 := l3.of_eq (hbn.block _ l3.lt) | replace l3 := l3.below hbn)) | (go_at_call 18; (with_reducible refine (P_Join2 _ _ _ (by rw [JL_size]; omega) (by rw [JL_size]; omega) gs kt).mono ?_); rintro e wn ⟨rfl, hbn⟩; have hsz := B.size; have hzn := hbn.size; replace B := B.trans (hbn.mono B.size); (try first | replace gs := gs.of_eq (hbn.block _ gs.lt) | replace gs := gs.below hbn); (try first | replace kt := kt.of_eq (hbn.block _ kt.lt) | replace kt := kt.below hbn); (try first | replace ha := ha.of_eq (hbn.block _ ha.lt) | replace ha := ha.below hbn); (try first | replace hb := hb.of_eq (hbn.block _ hb.lt) | replace hb := hb.below hbn); (try first | replace la := la.of_eq (hbn.block _ la.lt) | replace la := la.below hbn); (try first | replace lb := lb.of_eq (hbn.block _ lb.lt) | replace lb := lb.below hbn); (try first | replace l1 := l1.of_eq (hbn.block _ l1.lt) | replace l1 := l1.below hbn); (try first | replace l2 := l2.of_eq (hbn.block _ l2.lt) | replace l2 := l2.below hbn); (try first | replace l3 := l3.of_eq (hbn.block _ l3.lt) | replace l3 := l3.below hbn)) | (go_at_call 18; (with_reducible refine (P_Join1 _ _ (by first | (rw [JL_size]; omega) | decide) gs kt).mono ?_); rintro e wn ⟨rfl, hbn⟩; have hsz := B.size; have hzn := hbn.size; replace B := B.trans (hbn.mono B.size); (try first | replace gs := gs.of_eq (hbn.block _ gs.lt) | replace gs := gs.below hbn); (try first | replace kt := kt.of_eq (hbn.block _ kt.lt) | replace kt := kt.below hbn); (try first | replace ha := ha.of_eq (hbn.block _ ha.lt) | replace ha := ha.below hbn); (try first | replace hb := hb.of_eq (hbn.block _ hb.lt) | replace hb := hb.below hbn); (try first | replace la := la.of_eq (hbn.block _ la.lt) | replace la := la.below hbn); (try first | replace lb := lb.of_eq (hbn.block _ lb.lt) | replace lb := lb.below hbn); (try first | replace l1 := l1.of_eq (hbn.block _ l1.lt) | replace l1 := l1.below hbn); (try first | replace l2 := l2.of_eq (hbn.block _ l2.lt) | replace l2 := l2.below hbn); (try first | replace l3 := l3.of_eq (hbn.block _ l3.lt) | replace l3 := l3.below hbn)) | (go_at_call 13; refine (sanity _ gs kt).mono ?_; rintro e wn ⟨rfl, hbn⟩; have hsz := B.size; have hzn := hbn.size; replace B := B.trans (hbn.mono B.size); (try first | replace gs := gs.of_eq (hbn.block _ gs.lt) | replace gs := gs.below hbn); (try first | replace kt := kt.of_eq (hbn.block _ kt.lt) | replace kt := kt.below hbn); (try first | replace ha := ha.of_eq (hbn.block _ ha.lt) | replace ha := ha.below hbn); (try first | replace hb := hb.of_eq (hbn.block _ hb.lt) | replace hb := hb.below hbn); (try first | replace la := la.of_eq (hbn.block _ la.lt) | replace la := la.below hbn); (try first | replace lb := lb.of_eq (hbn.block _ lb.lt) | replace lb := lb.below hbn); (try first | replace l1 := l1.of_eq (hbn.block _ l1.lt) | replace l1 := l1.below hbn); (try first | replace l2 := l2.of_eq (hbn.block _ l2.lt) | replace l2 := l2.below hbn); (try first | replace l3 := l3.of_eq (hbn.block _ l3.lt) | replace l3 := l3.below hbn)) | (have hk_ := ha; go_at_call 17; refine (L_list_any _ _ ha).mono ?_; clear ha hk_; rintro e wn ⟨u, xs, rfl, od, hna, hMa, hbn⟩; have hsz := B.size; have hzn := hbn.size; replace B := B.trans (hbn.mono B.size); (try first | replace gs := gs.of_eq (hbn.block _ gs.lt) | replace gs := gs.below hbn); (try first | replace kt := kt.of_eq (hbn.block _ kt.lt) | replace kt := kt.below hbn); (try first | replace ha := ha.of_eq (hbn.block _ ha.lt) | replace ha := ha.below hbn); (try first | replace hb := hb.of_eq (hbn.block _ hb.lt) | replace hb := hb.below hbn); (try first | replace la := la.of_eq (hbn.block _ la.lt) | replace la := la.below hbn); (try first | replace lb := lb.of_eq (hbn.block _ lb.lt) | replace lb := lb.below hbn); (try first | replace l1 := l1.of_eq (hbn.block _ l1.lt) | replace l1 := l1.below hbn); (try first | replace l2 := l2.of_eq (hbn.block _ l2.lt) | replace l2 := l2.below hbn); (try first | replace l3 := l3.of_eq (hbn.block _ l3.lt) | replace l3 := l3.below hbn); have la := od.ls; clear od) | (have hk_ := hb; go_at_call 17; refine (L_list_any _ _ hb).mono ?_; clear hb hk_; rintro e wn ⟨u, ys, rfl, od, hnb, hMb, hbn⟩; have hsz := B.size; have hzn := hbn.size; replace B := B.trans (hbn.mono B.size); (try first | replace gs := gs.of_eq (hbn.block _ gs.lt) | replace gs := gs.below hbn); (try first | replace kt := kt.of_eq (hbn.block _ kt.lt) | replace kt := kt.below hbn); (try first | replace ha := ha.of_eq (hbn.block _ ha.lt) | replace ha := ha.below hbn); (try first | replace hb := hb.of_eq (hbn.block _ hb.lt) | replace hb := hb.below hbn); (try first | replace la := la.of_eq (hbn.block _ la.lt) | replace la := la.below hbn); (try first | replace lb := lb.of_eq (hbn.block _ lb.lt) | replace lb := lb.below hbn); (try first | replace l1 := l1.of_eq (hbn.block _ l1.lt) | replace l1 := l1.below hbn); (try first | replace l2 := l2.of_eq (hbn.block _ l2.lt) | replace l2 := l2.below hbn); (try first | replace l3 := l3.of_eq (hbn.block _ l3.lt) | replace l3 := l3.below hbn); have lb := od.ls; clear od))
  go_ret
  exact ⟨rfl, B⟩

namespace digestNested
open Go.ChangeShapes Go.WideShapes Go.ChangeAt Go.RowKit
open Go.ChangeMaps (open_string shut_string)
set_option maxRecDepth 100000 in
theorem lifted (os : Os) (started : os.Started) (H : Type) (enc : TypeId × Value → H) :
    ReturnsInHanded {} Tryd.checked os 7 .any (fun w args => (Rows.digestNestedSpec.pre enc Tryd.prog Tryd.f7 [] false w args ∧ laidMetH Tryd.prog laidD w) ∧ sizedMet enc Tryd.prog Tryd.f7 (OpenSpec.ofChange Rows.digestNestedSpec) false w args) (Rows.digestNestedSpec.post enc Tryd.prog Tryd.f7 false true false false) := by
  refine returnsInHanded_of_change_and (C := Tryd.checked) (X := fun w _ => laidMetH Tryd.prog laidD w) (fun _ _ _ hh h => h.of_heap hh) own started (by kernel_rfl) Tryd.func7
    (ChangeSpec.witness_shaped (enc := enc) (C := Tryd.checked) (os := os) (X := fun w _ => laidMetH Tryd.prog laidD w) false (World.doorLaid Tryd.prog 400 os) #[.slice none 0 0, .slice none 0 0] 8 rfl (World.shaped_of_RefB (by kernel_rfl) (by kernel_rfl)) (by kernel_rfl) (by kernel_rfl) (by kernel_rfl) (door_met os _)) ?_
  intro W base args ds gs before hval0 hW _ _ hL _
  obtain ⟨hgs, hkt⟩ := of_laid hL
  have hval : ∀ (j : Nat) t v, Tryd.f7.params[j]? = some t → args[j]? = some v → Value.okWide Tryd.prog W .any base t v := hval0
  have hW' := hW
  obtain ⟨p, q, hA0, hV, rfl, hfz, hnd⟩ := hW
  have hA : DataW.TrodAll enc Tryd.prog W 0 (fun _ => true) true Tryd.f7.params.toList args.toList ds p := hA0
  rw [Tryd.params7] at hA hval
  obtain ⟨v0, vs0, d0, ds0, p0, q0, hargs, rfl, rfl, h0, r0⟩ := trodAll_cons hA
  obtain ⟨v1, vs1, d1, ds1, p1, q1, rfl, rfl, rfl, h1, r1⟩ := trodAll_cons r0
  obtain ⟨rfl, rfl, rfl⟩ := trodAll_nil r1
  obtain rfl : args = #[v0, v1] := by cases args; simp_all
  obtain ⟨rfl, rfl⟩ := trodVars_none hV
  have k0 := h0
  have lt0 : ∀ x ∈ p0, x.block < W.heap.size := by obtain ⟨m, hm⟩ := k0; exact DataW.trod_lt m _ _ _ hm
  have k1 := h1
  have lt1 : ∀ x ∈ p1, x.block < W.heap.size := by obtain ⟨m, hm⟩ := k1; exact DataW.trod_lt m _ _ _ hm
  have w0 := open_strl (hval 0 28 v0 rfl rfl) h0
  have w1 := open_strl (hval 1 28 v1 rfl rfl) h1
  clear hA0 hval0
  refine (walk_DigestNested v0 v1 W w0 w1 hgs hkt).mono fun e W' ⟨he, bel⟩ => ?_
  subst he
  exact ⟨_, rfl, _, _, _, [], _, [], hW', trodAll_mk1 (shut_bool Tryd.underlying4 _), (trodAll_cons_mk (Below.trod laidOut (by kernel_rfl) (of_decide_eq_true (by kernel_rfl)) k0 bel lt0) (trodAll_cons_mk (Below.trod laidOut (by kernel_rfl) (of_decide_eq_true (by kernel_rfl)) k1 bel lt1) trodAll_mk0)), rfl, bel.frame _, fun h => by cases h⟩
theorem over : Rows.digestNestedRow.holds Tryd.pinned (OpenSpec.ofChange Rows.digestNestedSpec) :=
  OpenClaim.holds_of_wide 7 Tryd.f7 rfl rfl rfl rfl rfl rfl rfl ⟨rfl, rfl, rfl, rfl, rfl⟩ rfl rfl rfl rfl rfl (by kernel_rfl) Tryd.func7 (by kernel_rfl)
    (of_decide_eq_true (by kernel_rfl)) (by unfold Func.isWrapper; first | (rw [if_pos (by decide +kernel)]; kernel_rfl) | (rw [if_neg (by decide +kernel)]; exact ⟨rfl, rfl⟩))
    (fun os started H enc _ => lifted os started H enc)
/-- THE STATEMENT: DigestNested returns true for every input, and its arguments read as they did; what the two tables hold is tied to the program's text. -/
theorem proved : Rows.DigestNestedCardSaid := by
  unfold Rows.DigestNestedCardSaid Rows.digestNestedCard
  exact Claim7.holds_tied_plain_at .later [] [.data, .data] true _ false over (fun _ h => by cases h) (by kernel_rfl) (fun _ h => by cases h) digestNested_row_tie rfl ⟨rfl, rfl⟩ (by kernel_rfl) rfl
    (fun f fn hf hfn => by
      obtain rfl : f = 7 := Option.some.inj ((show Tryd.prog.funcNamed "gouache/gouachelaw02.DigestNested" = some 7 by kernel_rfl).symm.trans hf) |>.symm
      obtain rfl : fn = Tryd.f7 := (Option.some.inj (Tryd.func7.symm.trans hfn)).symm
      exact ⟨by kernel_rfl, fun j t ht => by
        rw [Tryd.params7] at ht
        have hm : t ∈ [28, 28] := by simpa using Array.mem_of_getElem? ht
        have hall : ([28, 28].all fun u => !Tryd.prog.wantsStandIn u) = true := by kernel_rfl
        exact (show Tryd.prog.wantsStandIn t = false by simpa using List.all_eq_true.1 hall t hm)⟩)
    (by kernel_rfl)
end digestNested

end Go.Proofs.YtpkonkkjihbgiaaDoor
