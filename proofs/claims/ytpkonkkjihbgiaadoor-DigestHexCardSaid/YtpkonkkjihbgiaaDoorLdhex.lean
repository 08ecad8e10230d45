/- DigestHex: for every digest value and every string, Hex, Valid and Parse agree with the reference implementation: the law returns true for every input, and its arguments read as they did. The two tables of package digest hold what the program's text lays. No other condition. -/
import Derived.Test.YtpkonkkjihbgiaaDoorDj
import Derived.Test.YtpkonkkjihbgiaaDoorLdof
namespace Go.Proofs.YtpkonkkjihbgiaaDoor
open Go.RowKit Sha
set_option linter.unusedVariables false
set_option linter.unusedSimpArgs false
set_option maxRecDepth 20000

theorem S_HexR (s : ByteArray) (w : World) (h : s.size < 1099511627776) : Calls Tryd.prog 25 #[.string s] w fun e w' => e = .returned (.string (HS s)) ∧ Below w.heap.size w w' := by
  unfold HS; exact R_Hex (bytes s) w (bytes_lt h)
theorem S_ParseR (s : ByteArray) (w : World) (h : s.size < 1099511627776) : Calls Tryd.prog 23 #[.string s] w fun e w' => e = .returned (.agg #[.string (PS s), .int .i64 (ES s)]) ∧ Below w.heap.size w w' := by
  unfold PS ES; exact R_Parse (bytes s) w (bytes_lt h)
theorem VS_def (s : ByteArray) : VS s = ((s.size : Int) == 32) := by
  unfold VS
  rw [bytes_length, Bool.eq_iff_iff, decide_eq_true_iff, beq_iff_eq]
  omega
set_option maxHeartbeats 4000000 in
theorem walk_DigestHex (d s : ByteArray) (hd : d.size ≤ maxLen) (hs : s.size ≤ maxLen) (w : World) (gs : GAt 0 8 w Sha.start.at) (kt : GAt 1 64 w kW) : Calls Tryd.prog 8 #[.string d, .string s] w fun e w' => e = .returned (.bool true) ∧ Below w.heap.size w w' := by
  have B := Below.refl w.heap.size w
  have x1 := ext_size d 40
  have x2 := ext_size s 80
  have hl1 : (d.extract 0 (min d.size 40)).size ≤ 40 := by omega
  have hl2 : (s.extract 0 (min s.size 80)).size ≤ 80 := by omega
  have hv := VS_def (d.extract 0 (min d.size 40))
  clear x1 x2
  go_enter Tryd.func8, Tryd.ntmps8
  go_wp2_with (first | (go_at_call 13; refine (sanity _ gs kt).mono ?_; rintro e wn ⟨rfl, hbn⟩; have hsz := B.size; have hzn := hbn.size; replace B := B.trans (hbn.mono B.size); (try first | replace gs := gs.of_eq (hbn.block _ gs.lt) | replace gs := gs.below hbn); (try first | replace kt := kt.of_eq (hbn.block _ kt.lt) | replace kt := kt.below hbn)) | (go_at_call 14; refine (L_some d 40 _ hd (by omega)).mono ?_; rintro e wq ⟨rfl, rfl⟩) | (go_at_call 14; refine (L_some s 80 _ hs (by omega)).mono ?_; rintro e wq ⟨rfl, rfl⟩) | fail)
  generalize d.extract 0 (min d.size 40) = D at *
  generalize s.extract 0 (min s.size 80) = S at *
  go_wp2_with (first | (go_at_call 22; refine (S_Parse _ _ (by omega)).mono ?_; rintro e wn ⟨rfl, hbn⟩; have hsz := B.size; have hzn := hbn.size; replace B := B.trans (hbn.mono B.size); (try first | replace gs := gs.of_eq (hbn.block _ gs.lt) | replace gs := gs.below hbn); (try first | replace kt := kt.of_eq (hbn.block _ kt.lt) | replace kt := kt.below hbn); (try first | replace g1 := g1.of_eq (hbn.block _ g1.lt) | replace g1 := g1.below hbn)) | (go_at_call 24; refine (S_Hex _ _ (by omega)).mono ?_; rintro e wn ⟨rfl, hbn⟩; have hsz := B.size; have hzn := hbn.size; replace B := B.trans (hbn.mono B.size); (try first | replace gs := gs.of_eq (hbn.block _ gs.lt) | replace gs := gs.below hbn); (try first | replace kt := kt.of_eq (hbn.block _ kt.lt) | replace kt := kt.below hbn); (try first | replace g1 := g1.of_eq (hbn.block _ g1.lt) | replace g1 := g1.below hbn)) | (go_at_call 25; refine (S_HexR _ _ (by omega)).mono ?_; rintro e wn ⟨rfl, hbn⟩; have hsz := B.size; have hzn := hbn.size; replace B := B.trans (hbn.mono B.size); (try first | replace gs := gs.of_eq (hbn.block _ gs.lt) | replace gs := gs.below hbn); (try first | replace kt := kt.of_eq (hbn.block _ kt.lt) | replace kt := kt.below hbn); (try first | replace g1 := g1.of_eq (hbn.block _ g1.lt) | replace g1 := g1.below hbn); have c_g1_0 := g1.cell 0 rfl; have c_g1_1 := g1.cell 1 rfl) | (refine wpList_storeB (t := 40) rfl _ _ rfl _ rfl _ rfl g1 (by kernel_rfl) rfl (by simp [Value.oneCell']) ?_; clear g1; intro wn ht hcn hzn; have hsz := B.size; replace hzn := Nat.le_of_eq hzn.symm; replace B := Chg.below B hcn (by omega) B.size; (try replace gs := gs.of_eq (hcn.block _ gs.lt (by omega))); (try replace kt := kt.of_eq (hcn.block _ kt.lt (by omega))); have g1 := ht; clear ht; simp only [Act.put, List.setIfInBounds_toArray, List.set_cons_zero, List.set_cons_succ]) | (refine wpList_allocBk (t := 40) rfl _ (run_alloc_Got _ _ rfl) ?_; intro b_g1 wn hle hge ht hbn hzn; have hsz := B.size; replace B := B.trans (hbn.mono (by omega)); have hln := Nat.lt_of_lt_of_eq (Nat.lt_succ_self _) hzn.symm; clear hzn; (try first | (have hlt := gs.lt; replace gs := gs.of_eq (hbn.block _ (by omega))) | replace gs := gs.below (hbn.mono hle)); (try first | (have hlt := kt.lt; replace kt := kt.of_eq (hbn.block _ (by omega))) | replace kt := kt.below (hbn.mono hle)); (try first | (have hlt := g1.lt; replace g1 := g1.of_eq (hbn.block _ (by omega))) | replace g1 := g1.below (hbn.mono hle)); have g1 := ht; clear ht; simp only [Act.put, List.setIfInBounds_toArray, List.set_cons_zero, List.set_cons_succ]) | (go_at_call 23; refine (S_ParseR _ _ (by omega)).mono ?_; rintro e wn ⟨rfl, hbn⟩; have hsz := B.size; have hzn := hbn.size; replace B := B.trans (hbn.mono B.size); (try first | replace gs := gs.of_eq (hbn.block _ gs.lt) | replace gs := gs.below hbn); (try first | replace kt := kt.of_eq (hbn.block _ kt.lt) | replace kt := kt.below hbn); (try first | replace g1 := g1.of_eq (hbn.block _ g1.lt) | replace g1 := g1.below hbn)) | (go_at_call 26; refine (S_Valid _ _ (by omega)).mono ?_; rintro e wq ⟨rfl, rfl⟩) | fail)
  go_ret
  exact ⟨rfl, B⟩

namespace digestHex
open Go.ChangeShapes Go.WideShapes Go.ChangeAt Go.RowKit
open Go.ChangeMaps (open_string shut_string)
set_option maxRecDepth 100000 in
theorem lifted (os : Os) (started : os.Started) (H : Type) (enc : TypeId × Value → H) :
    ReturnsInHanded {} Tryd.checked os 8 .any (fun w args => (Rows.digestHexSpec.pre enc Tryd.prog Tryd.f8 [] false w args ∧ laidMetH Tryd.prog laidD w) ∧ sizedMet enc Tryd.prog Tryd.f8 (OpenSpec.ofChange Rows.digestHexSpec) false w args) (Rows.digestHexSpec.post enc Tryd.prog Tryd.f8 false true false false) := by
  refine returnsInHanded_of_change_and (C := Tryd.checked) (X := fun w _ => laidMetH Tryd.prog laidD w) (fun _ _ _ hh h => h.of_heap hh) own started (by kernel_rfl) Tryd.func8
    (ChangeSpec.witness_shaped (enc := enc) (C := Tryd.checked) (os := os) (X := fun w _ => laidMetH Tryd.prog laidD w) false (World.doorLaid Tryd.prog 400 os) #[.string ⟨#[]⟩, .string ⟨#[]⟩] 8 rfl (World.shaped_of_RefB (by kernel_rfl) (by kernel_rfl)) (by kernel_rfl) (by kernel_rfl) (by kernel_rfl) (door_met os _)) ?_
  intro W base args ds gs before hval0 hW _ _ hL _
  obtain ⟨hgs, hkt⟩ := of_laid hL
  have hval : ∀ (j : Nat) t v, Tryd.f8.params[j]? = some t → args[j]? = some v → Value.okWide Tryd.prog W .any base t v := hval0
  have hW' := hW
  obtain ⟨p, q, hA0, hV, rfl, hfz, hnd⟩ := hW
  have hA : DataW.TrodAll enc Tryd.prog W 0 (fun _ => true) true Tryd.f8.params.toList args.toList ds p := hA0
  rw [Tryd.params8] at hA hval
  obtain ⟨v0, vs0, d0, ds0, p0, q0, hargs, rfl, rfl, h0, r0⟩ := trodAll_cons hA
  obtain ⟨v1, vs1, d1, ds1, p1, q1, rfl, rfl, rfl, h1, r1⟩ := trodAll_cons r0
  obtain ⟨rfl, rfl, rfl⟩ := trodAll_nil r1
  obtain rfl : args = #[v0, v1] := by cases args; simp_all
  obtain ⟨rfl, rfl⟩ := trodVars_none hV
  have k0 := h0
  have lt0 : ∀ x ∈ p0, x.block < W.heap.size := by obtain ⟨m, hm⟩ := k0; exact DataW.trod_lt m _ _ _ hm
  have k1 := h1
  have lt1 : ∀ x ∈ p1, x.block < W.heap.size := by obtain ⟨m, hm⟩ := k1; exact DataW.trod_lt m _ _ _ hm
  obtain ⟨a0, rfl, rfl, rfl, w0⟩ := open_string Tryd.underlying9 (hval 0 9 v0 rfl rfl) h0
  obtain ⟨a1, rfl, rfl, rfl, w1⟩ := open_string Tryd.underlying9 (hval 1 9 v1 rfl rfl) h1
  clear hA0 hval0
  refine (walk_DigestHex a0 a1 w0 w1 W hgs hkt).mono fun e W' ⟨he, bel⟩ => ?_
  subst he
  exact ⟨_, rfl, _, _, _, [], _, [], hW', trodAll_mk1 (shut_bool Tryd.underlying4 _), (trodAll_cons_mk (Below.trod laidOut (by kernel_rfl) (of_decide_eq_true (by kernel_rfl)) k0 bel lt0) (trodAll_cons_mk (Below.trod laidOut (by kernel_rfl) (of_decide_eq_true (by kernel_rfl)) k1 bel lt1) trodAll_mk0)), rfl, bel.frame _, fun h => by cases h⟩
theorem over : Rows.digestHexRow.holds Tryd.pinned (OpenSpec.ofChange Rows.digestHexSpec) :=
  OpenClaim.holds_of_wide 8 Tryd.f8 rfl rfl rfl rfl rfl rfl rfl ⟨rfl, rfl, rfl, rfl, rfl⟩ rfl rfl rfl rfl rfl (by kernel_rfl) Tryd.func8 (by kernel_rfl)
    (of_decide_eq_true (by kernel_rfl)) (by unfold Func.isWrapper; first | (rw [if_pos (by decide +kernel)]; kernel_rfl) | (rw [if_neg (by decide +kernel)]; exact ⟨rfl, rfl⟩))
    (fun os started H enc _ => lifted os started H enc)
/-- THE STATEMENT: DigestHex returns true for every input, and its arguments read as they did; what the two tables hold is tied to the program's text. -/
theorem proved : Rows.DigestHexCardSaid := by
  unfold Rows.DigestHexCardSaid Rows.digestHexCard
  exact Claim7.holds_tied_plain_at .later [] [.data, .data] true _ false over (fun _ h => by cases h) (by kernel_rfl) (fun _ h => by cases h) digestHex_row_tie rfl ⟨rfl, rfl⟩ (by kernel_rfl) rfl
    (fun f fn hf hfn => by
      obtain rfl : f = 8 := Option.some.inj ((show Tryd.prog.funcNamed "gouache/gouachelaw02.DigestHex" = some 8 by kernel_rfl).symm.trans hf) |>.symm
      obtain rfl : fn = Tryd.f8 := (Option.some.inj (Tryd.func8.symm.trans hfn)).symm
      exact ⟨by kernel_rfl, fun j t ht => by
        rw [Tryd.params8] at ht
        have hm : t ∈ [9, 9] := by simpa using Array.mem_of_getElem? ht
        have hall : ([9, 9].all fun u => !Tryd.prog.wantsStandIn u) = true := by kernel_rfl
        exact (show Tryd.prog.wantsStandIn t = false by simpa using List.all_eq_true.1 hall t hm)⟩)
    (by kernel_rfl)
end digestHex

end Go.Proofs.YtpkonkkjihbgiaaDoor
