/- DigestPreimage: for every list of strings, Join is Of of the parts preceded by their lengths, and two lists have equal preimages only if they are equal: the law returns true for every input, and its arguments read as they did. The two tables of package digest hold what the program's text lays. No other condition. -/
import Derived.Test.YtpkonkkjihbgiaaDoorDn
namespace Go.Proofs.YtpkonkkjihbgiaaDoor
open Go.RowKit Sha
set_option linter.unusedVariables false
set_option linter.unusedSimpArgs false

theorem JL_def (xs : List ByteArray) : JL xs = DS (ofL (joinP xs xs.length)) := rfl
theorem str_beq (s t : ByteArray) : (s.toList == t.toList) = decide (s = t) := by
  rw [ByteArray.toList_eq, ByteArray.toList_eq]
  by_cases h : s = t
  · rw [decide_eq_true h, h]; simp
  · rw [decide_eq_false h, beq_eq_false_iff_ne]
    exact fun e => h (bytes_inj e)
theorem pre_ne {xs ys : List ByteArray} (hx : ∀ k, (sAt xs k).size ≤ 100000) (hy : ∀ k, (sAt ys k).size ≤ 100000) (h : xs ≠ ys) : ofL (joinP xs xs.length) ≠ ofL (joinP ys ys.length) := fun e => h (joinP_inj xs ys hx hy (by
  have := congrArg bytes e
  rwa [bytes_ofL, bytes_ofL] at this))
set_option maxHeartbeats 4000000 in
set_option maxRecDepth 20000 in
theorem walk_DigestPreimage (v0 v1 : Value) (w : World) (ha : StrsAt v0 w) (hb : StrsAt v1 w) (gs : GAt 0 8 w Sha.start.at) (kt : GAt 1 64 w kW) : Calls Tryd.prog 6 #[v0, v1] w fun e w' => e = .returned (.bool true) ∧ Below w.heap.size w w' := by
  have B := Below.refl w.heap.size w
  have hbq := str_beq
  go_enter Tryd.func6, Tryd.ntmps6
  go_wp2_with (first | (go_at_call 13; refine (sanity _ gs kt).mono ?_; rintro e wn ⟨rfl, hbn⟩; have hsz := B.size; have hzn := hbn.size; replace B := B.trans (hbn.mono B.size); (try first | replace gs := gs.of_eq (hbn.block _ gs.lt) | replace gs := gs.below hbn); (try first | replace kt := kt.of_eq (hbn.block _ kt.lt) | replace kt := kt.below hbn); (try first | replace ha := ha.of_eq (hbn.block _ ha.lt) | replace ha := ha.below hbn); (try first | replace hb := hb.of_eq (hbn.block _ hb.lt) | replace hb := hb.below hbn); (try first | replace lx := lx.of_eq (hbn.block _ lx.lt) | replace lx := lx.below hbn); (try first | replace ly := ly.of_eq (hbn.block _ ly.lt) | replace ly := ly.below hbn)) | (have hk_ := ha; go_at_call 17; refine (L_list_any _ _ ha).mono ?_; clear ha hk_; rintro e wn ⟨ux, xs, rfl, od, hna, hMa, hbn⟩; have hsz := B.size; have hzn := hbn.size; replace B := B.trans (hbn.mono B.size); (try first | replace gs := gs.of_eq (hbn.block _ gs.lt) | replace gs := gs.below hbn); (try first | replace kt := kt.of_eq (hbn.block _ kt.lt) | replace kt := kt.below hbn); (try first | replace ha := ha.of_eq (hbn.block _ ha.lt) | replace ha := ha.below hbn); (try first | replace hb := hb.of_eq (hbn.block _ hb.lt) | replace hb := hb.below hbn); (try first | replace lx := lx.of_eq (hbn.block _ lx.lt) | replace lx := lx.below hbn); (try first | replace ly := ly.of_eq (hbn.block _ ly.lt) | replace ly := ly.below hbn); have lx := od.ls; clear od) | (have hk_ := hb; go_at_call 17; refine (L_list_any _ _ hb).mono ?_; clear hb hk_; rintro e wn ⟨uy, ys, rfl, od, hnb, hMb, hbn⟩; have hsz := B.size; have hzn := hbn.size; replace B := B.trans (hbn.mono B.size); (try first | replace gs := gs.of_eq (hbn.block _ gs.lt) | replace gs := gs.below hbn); (try first | replace kt := kt.of_eq (hbn.block _ kt.lt) | replace kt := kt.below hbn); (try first | replace ha := ha.of_eq (hbn.block _ ha.lt) | replace ha := ha.below hbn); (try first | replace hb := hb.of_eq (hbn.block _ hb.lt) | replace hb := hb.below hbn); (try first | replace lx := lx.of_eq (hbn.block _ lx.lt) | replace lx := lx.below hbn); (try first | replace ly := ly.of_eq (hbn.block _ ly.lt) | replace ly := ly.below hbn); have ly := od.ls; clear od))
  obtain ⟨xa, xc, rfl⟩ := lx.len
  obtain ⟨ya, yc, rfl⟩ := ly.len
  go_wp2
  go_loopw [8, 9] (fun s i wr => ∃ k : Nat, k ≤ xs.length ∧ s = .string (ofL (joinP xs k)) ∧ i = .int .i64 k ∧ Below w.heap.size w wr ∧ LS (.slice xa xs.length xc) xs wr ∧ LS (.slice ya ys.length yc) ys wr ∧ GAt 0 8 wr Sha.start.at ∧ GAt 1 64 wr kW) (fun _ i _ => ((xs.length : Int) - intOf i).toNat)
  case atStart => exact ⟨0, by omega, rfl, rfl, B, lx, ly, gs, kt⟩
  case round =>
    clear B gs kt lx ly
    obtain ⟨k, hk, rfl, rfl, B, lx, ly, gs, kt⟩ := hrel
    have hjl := joinP_length xs 100000 hMa k
    have hjl2 : (joinP xs k).length ≤ 108000000 := by omega
    clear hjl
    by_cases hlt : k < xs.length
    · have hmk := hMa k
      obtain ⟨g, rfl, sc⟩ := lx.at (by omega)
      go_wp2
      refine wp_region_ov (by kernel_rfl) (by kernel_rfl) ?_
      repeat (first | go_big_quiet_skip | (go_big_quiet_want; first | (refine quiet_loadAny (t := 9) rfl _ _ _ rfl (fun w hw => run_load_str (ov_s sc w hw) hlt) (by first | rfl | omega) ?_; simp only [Act.put, List.setIfInBounds_toArray, List.set_cons_zero, List.set_cons_succ]; go_big_quiet_on) | (go_big_quiet_op; first | go_big_quiet_on | go_big_quiet_call ((first | (go_at_call 20; exact calls_ov (P_Put8 _ (by omega) _)))))))
      refine wpQuiet_nil ?_
      intro wn hbn
      have hsz := B.size
      have hzn := hbn.size
      replace B := B.trans (hbn.mono B.size)
      try replace gs := gs.of_eq (hbn.block _ gs.lt)
      try replace kt := kt.of_eq (hbn.block _ kt.lt)
      try replace ly := ly.of_eq (hbn.block _ ly.lt)
      try replace lx := lx.of_eq (hbn.block _ lx.lt)
      try replace lx := lx.below hbn
      try replace ly := ly.below hbn
      go_wp2
      go_roundw
      case rel => exact ⟨k + 1, by omega, by rw [joinP_next, List.append_assoc], by go_num, B, lx, ly, gs, kt⟩
      case measure => simp [intOf]; omega
    · obtain rfl : k = xs.length := by omega
      have e1 := JL_def xs
      go_wp2
      go_loopw [10, 11] (fun s i wr => ∃ k : Nat, k ≤ xs.length ∧ s = .bool (sameK xs ys k) ∧ i = .int .i64 k ∧ Below w.heap.size w wr ∧ LS (.slice xa xs.length xc) xs wr ∧ LS (.slice ya ys.length yc) ys wr ∧ GAt 0 8 wr Sha.start.at ∧ GAt 1 64 wr kW) (fun _ i _ => ((xs.length : Int) - intOf i).toNat)
      case atStart => exact ⟨0, by omega, by congr 1; unfold sameK; rw [Bool.eq_iff_iff]; simp; omega, rfl, B, lx, ly, gs, kt⟩
      case round =>
        clear B gs kt lx ly
        obtain ⟨k, hk, rfl, rfl, B, lx, ly, gs, kt⟩ := hrel
        by_cases hs : sameK xs ys k = true
        · by_cases hlt2 : k < xs.length
          · have hyl := sameK_len hs
            have hlt3 : k < ys.length := by omega
            have hnx := Lib.hid (sameK_next xs ys k hs)
            obtain ⟨g, rfl, sc⟩ := lx.at (by omega)
            obtain ⟨gy, rfl, sy⟩ := ly.at (by omega)
            clear hyl
            go_wp2
            refine wp_region_ov (by kernel_rfl) (by kernel_rfl) ?_
            repeat (first | go_big_quiet_skip | (go_big_quiet_want; first | (refine quiet_loadAny (t := 9) rfl _ _ _ rfl (fun w hw => run_load_str (ov_s sc w hw) hlt2) (by first | rfl | omega) ?_; simp only [Act.put, List.setIfInBounds_toArray, List.set_cons_zero, List.set_cons_succ]; go_big_quiet_on) | (refine quiet_loadAny (t := 9) rfl _ _ _ rfl (fun w hw => run_load_str (ov_s sy w hw) hlt3) (by first | rfl | omega) ?_; simp only [Act.put, List.setIfInBounds_toArray, List.set_cons_zero, List.set_cons_succ]; go_big_quiet_on) | (go_big_quiet_op; first | go_big_quiet_on | go_big_quiet_call ((fail)))))
            refine wpQuiet_nil ?_
            intro wn hbn
            have hsz := B.size
            have hzn := hbn.size
            replace B := B.trans (hbn.mono B.size)
            try replace gs := gs.of_eq (hbn.block _ gs.lt)
            try replace kt := kt.of_eq (hbn.block _ kt.lt)
            try replace lx := lx.below hbn
            try replace ly := ly.below hbn
            go_wp2
            go_roundw
            case rel => exact ⟨k + 1, by omega, by rw [hnx.out], by go_num, B, lx, ly, gs, kt⟩
            case measure => simp [intOf]; omega
          · obtain rfl : k = xs.length := by omega
            obtain rfl : xs = ys := same_yes hs
            go_wp2_with (first | (go_at_call 15; refine (S_Of _ _ (by rw [ofL_size]; omega) gs kt).mono ?_; rintro e wn ⟨rfl, hbn⟩; have hsz := B.size; have hzn := hbn.size; replace B := B.trans (hbn.mono B.size); (try first | replace gs := gs.of_eq (hbn.block _ gs.lt) | replace gs := gs.below hbn); (try first | replace kt := kt.of_eq (hbn.block _ kt.lt) | replace kt := kt.below hbn); (try first | replace ha := ha.of_eq (hbn.block _ ha.lt) | replace ha := ha.below hbn); (try first | replace hb := hb.of_eq (hbn.block _ hb.lt) | replace hb := hb.below hbn); (try first | replace lx := lx.of_eq (hbn.block _ lx.lt) | replace lx := lx.below hbn); (try first | replace ly := ly.of_eq (hbn.block _ ly.lt) | replace ly := ly.below hbn)) | (go_at_call 18; ((with_reducible refine (P_JoinL lx (by omega) hMa gs kt).mono ?_)); rintro e wn ⟨rfl, hbn⟩; have hsz := B.size; have hzn := hbn.size; replace B := B.trans (hbn.mono B.size); (try first | replace gs := gs.of_eq (hbn.block _ gs.lt) | replace gs := gs.below hbn); (try first | replace kt := kt.of_eq (hbn.block _ kt.lt) | replace kt := kt.below hbn); (try first | replace ha := ha.of_eq (hbn.block _ ha.lt) | replace ha := ha.below hbn); (try first | replace hb := hb.of_eq (hbn.block _ hb.lt) | replace hb := hb.below hbn); (try first | replace lx := lx.of_eq (hbn.block _ lx.lt) | replace lx := lx.below hbn); (try first | replace ly := ly.of_eq (hbn.block _ ly.lt) | replace ly := ly.below hbn)) | (go_at_call 18; ((with_reducible refine (P_JoinL ly (by omega) hMa gs kt).mono ?_)); rintro e wn ⟨rfl, hbn⟩; have hsz := B.size; have hzn := hbn.size; replace B := B.trans (hbn.mono B.size); (try first | replace gs := gs.of_eq (hbn.block _ gs.lt) | replace gs := gs.below hbn); (try first | replace kt := kt.of_eq (hbn.block _ kt.lt) | replace kt := kt.below hbn); (try first | replace ha := ha.of_eq (hbn.block _ ha.lt) | replace ha := ha.below hbn); (try first | replace hb := hb.of_eq (hbn.block _ hb.lt) | replace hb := hb.below hbn); (try first | replace lx := lx.of_eq (hbn.block _ lx.lt) | replace lx := lx.below hbn); (try first | replace ly := ly.of_eq (hbn.block _ ly.lt) | replace ly := ly.below hbn)) | (go_at_call 21; ((with_reducible refine (R_PreimageL lx (by omega) hMa).mono ?_)); rintro e wn ⟨rfl, hbn⟩; have hsz := B.size; have hzn := hbn.size; replace B := B.trans (hbn.mono B.size); (try first | replace gs := gs.of_eq (hbn.block _ gs.lt) | replace gs := gs.below hbn); (try first | replace kt := kt.of_eq (hbn.block _ kt.lt) | replace kt := kt.below hbn); (try first | replace ha := ha.of_eq (hbn.block _ ha.lt) | replace ha := ha.below hbn); (try first | replace hb := hb.of_eq (hbn.block _ hb.lt) | replace hb := hb.below hbn); (try first | replace lx := lx.of_eq (hbn.block _ lx.lt) | replace lx := lx.below hbn); (try first | replace ly := ly.of_eq (hbn.block _ ly.lt) | replace ly := ly.below hbn)) | (go_at_call 21; ((with_reducible refine (R_PreimageL ly (by omega) hMa).mono ?_)); rintro e wn ⟨rfl, hbn⟩; have hsz := B.size; have hzn := hbn.size; replace B := B.trans (hbn.mono B.size); (try first | replace gs := gs.of_eq (hbn.block _ gs.lt) | replace gs := gs.below hbn); (try first | replace kt := kt.of_eq (hbn.block _ kt.lt) | replace kt := kt.below hbn); (try first | replace ha := ha.of_eq (hbn.block _ ha.lt) | replace ha := ha.below hbn); (try first | replace hb := hb.of_eq (hbn.block _ hb.lt) | replace hb := hb.below hbn); (try first | replace lx := lx.of_eq (hbn.block _ lx.lt) | replace lx := lx.below hbn); (try first | replace ly := ly.of_eq (hbn.block _ ly.lt) | replace ly := ly.below hbn)))
            go_ret
            exact ⟨rfl, B⟩
        · have hs' : sameK xs ys k = false := by simpa using hs
          have hne := decide_eq_false (pre_ne hMa hMb (same_no hs'))
          clear hs
          go_wp2_with (first | (go_at_call 15; refine (S_Of _ _ (by rw [ofL_size]; omega) gs kt).mono ?_; rintro e wn ⟨rfl, hbn⟩; have hsz := B.size; have hzn := hbn.size; replace B := B.trans (hbn.mono B.size); (try first | replace gs := gs.of_eq (hbn.block _ gs.lt) | replace gs := gs.below hbn); (try first | replace kt := kt.of_eq (hbn.block _ kt.lt) | replace kt := kt.below hbn); (try first | replace ha := ha.of_eq (hbn.block _ ha.lt) | replace ha := ha.below hbn); (try first | replace hb := hb.of_eq (hbn.block _ hb.lt) | replace hb := hb.below hbn); (try first | replace lx := lx.of_eq (hbn.block _ lx.lt) | replace lx := lx.below hbn); (try first | replace ly := ly.of_eq (hbn.block _ ly.lt) | replace ly := ly.below hbn)) | (go_at_call 18; ((with_reducible refine (P_JoinL lx (by omega) hMa gs kt).mono ?_)); rintro e wn ⟨rfl, hbn⟩; have hsz := B.size; have hzn := hbn.size; replace B := B.trans (hbn.mono B.size); (try first | replace gs := gs.of_eq (hbn.block _ gs.lt) | replace gs := gs.below hbn); (try first | replace kt := kt.of_eq (hbn.block _ kt.lt) | replace kt := kt.below hbn); (try first | replace ha := ha.of_eq (hbn.block _ ha.lt) | replace ha := ha.below hbn); (try first | replace hb := hb.of_eq (hbn.block _ hb.lt) | replace hb := hb.below hbn); (try first | replace lx := lx.of_eq (hbn.block _ lx.lt) | replace lx := lx.below hbn); (try first | replace ly := ly.of_eq (hbn.block _ ly.lt) | replace ly := ly.below hbn)) | (go_at_call 21; ((with_reducible refine (R_PreimageL lx (by omega) hMa).mono ?_)); rintro e wn ⟨rfl, hbn⟩; have hsz := B.size; have hzn := hbn.size; replace B := B.trans (hbn.mono B.size); (try first | replace gs := gs.of_eq (hbn.block _ gs.lt) | replace gs := gs.below hbn); (try first | replace kt := kt.of_eq (hbn.block _ kt.lt) | replace kt := kt.below hbn); (try first | replace ha := ha.of_eq (hbn.block _ ha.lt) | replace ha := ha.below hbn); (try first | replace hb := hb.of_eq (hbn.block _ hb.lt) | replace hb := hb.below hbn); (try first | replace lx := lx.of_eq (hbn.block _ lx.lt) | replace lx := lx.below hbn); (try first | replace ly := ly.of_eq (hbn.block _ ly.lt) | replace ly := ly.below hbn)) | (go_at_call 21; ((with_reducible refine (R_PreimageL ly (by omega) hMb).mono ?_)); rintro e wn ⟨rfl, hbn⟩; have hsz := B.size; have hzn := hbn.size; replace B := B.trans (hbn.mono B.size); (try first | replace gs := gs.of_eq (hbn.block _ gs.lt) | replace gs := gs.below hbn); (try first | replace kt := kt.of_eq (hbn.block _ kt.lt) | replace kt := kt.below hbn); (try first | replace ha := ha.of_eq (hbn.block _ ha.lt) | replace ha := ha.below hbn); (try first | replace hb := hb.of_eq (hbn.block _ hb.lt) | replace hb := hb.below hbn); (try first | replace lx := lx.of_eq (hbn.block _ lx.lt) | replace lx := lx.below hbn); (try first | replace ly := ly.of_eq (hbn.block _ ly.lt) | replace ly := ly.below hbn)))
          all_goals
            go_ret
            exact ⟨rfl, B⟩

namespace digestPreimage
open Go.ChangeShapes Go.WideShapes Go.ChangeAt Go.RowKit
open Go.ChangeMaps (open_string shut_string)
set_option maxRecDepth 100000 in
theorem lifted (os : Os) (started : os.Started) (H : Type) (enc : TypeId × Value → H) :
    ReturnsInHanded {} Tryd.checked os 6 .any (fun w args => (Rows.digestPreimageSpec.pre enc Tryd.prog Tryd.f6 [] false w args ∧ laidMetH Tryd.prog laidD w) ∧ sizedMet enc Tryd.prog Tryd.f6 (OpenSpec.ofChange Rows.digestPreimageSpec) false w args) (Rows.digestPreimageSpec.post enc Tryd.prog Tryd.f6 false true false false) := by
  refine returnsInHanded_of_change_and (C := Tryd.checked) (X := fun w _ => laidMetH Tryd.prog laidD w) (fun _ _ _ hh h => h.of_heap hh) own started (by kernel_rfl) Tryd.func6
    (ChangeSpec.witness_shaped (enc := enc) (C := Tryd.checked) (os := os) (X := fun w _ => laidMetH Tryd.prog laidD w) false (World.doorLaid Tryd.prog 400 os) #[.slice none 0 0, .slice none 0 0] 8 rfl (World.shaped_of_RefB (by kernel_rfl) (by kernel_rfl)) (by kernel_rfl) (by kernel_rfl) (by kernel_rfl) (door_met os _)) ?_
  intro W base args ds gs before hval0 hW _ _ hL _
  obtain ⟨hgs, hkt⟩ := of_laid hL
  have hval : ∀ (j : Nat) t v, Tryd.f6.params[j]? = some t → args[j]? = some v → Value.okWide Tryd.prog W .any base t v := hval0
  have hW' := hW
  obtain ⟨p, q, hA0, hV, rfl, hfz, hnd⟩ := hW
  have hA : DataW.TrodAll enc Tryd.prog W 0 (fun _ => true) true Tryd.f6.params.toList args.toList ds p := hA0
  rw [Tryd.params6] at hA hval
  obtain ⟨v0, vs0, d0, ds0, p0, q0, hargs, rfl, rfl, h0, r0⟩ := trodAll_cons hA
  obtain ⟨v1, vs1, d1, ds1, p1, q1, rfl, rfl, rfl, h1, r1⟩ := trodAll_cons r0
  obtain ⟨rfl, rfl, rfl⟩ := trodAll_nil r1
  obtain rfl : args = #[v0, v1] := by cases args; simp_all
  obtain ⟨rfl, rfl⟩ := trodVars_none hV
  have k0 := h0
  have lt0 : ∀ x ∈ p0, x.block < W.heap.size := by obtain ⟨m, hm⟩ := k0; exact DataW.trod_lt m _ _ _ hm
  have k1 := h1
  have lt1 : ∀ x ∈ p1, x.block < W.heap.size := by obtain ⟨m, hm⟩ := k1; exact DataW.trod_lt m _ _ _ hm
  have w0 := open_strl (hval 0 28 v0 rfl rfl) h0
  have w1 := open_strl (hval 1 28 v1 rfl rfl) h1
  clear hA0 hval0
  refine (walk_DigestPreimage v0 v1 W w0 w1 hgs hkt).mono fun e W' ⟨he, bel⟩ => ?_
  subst he
  exact ⟨_, rfl, _, _, _, [], _, [], hW', trodAll_mk1 (shut_bool Tryd.underlying4 _), (trodAll_cons_mk (Below.trod laidOut (by kernel_rfl) (of_decide_eq_true (by kernel_rfl)) k0 bel lt0) (trodAll_cons_mk (Below.trod laidOut (by kernel_rfl) (of_decide_eq_true (by kernel_rfl)) k1 bel lt1) trodAll_mk0)), rfl, bel.frame _, fun h => by cases h⟩
theorem over : Rows.digestPreimageRow.holds Tryd.pinned (OpenSpec.ofChange Rows.digestPreimageSpec) :=
  OpenClaim.holds_of_wide 6 Tryd.f6 rfl rfl rfl rfl rfl rfl rfl ⟨rfl, rfl, rfl, rfl, rfl⟩ rfl rfl rfl rfl rfl (by kernel_rfl) Tryd.func6 (by kernel_rfl)
    (of_decide_eq_true (by kernel_rfl)) (by unfold Func.isWrapper; first | (rw [if_pos (by decide +kernel)]; kernel_rfl) | (rw [if_neg (by decide +kernel)]; exact ⟨rfl, rfl⟩))
    (fun os started H enc _ => lifted os started H enc)
/-- THE STATEMENT: DigestPreimage returns true for every input, and its arguments read as they did; what the two tables hold is tied to the program's text. -/
theorem proved : Rows.DigestPreimageCardSaid := by
  unfold Rows.DigestPreimageCardSaid Rows.digestPreimageCard
  exact Claim7.holds_tied_plain_at .later [] [.data, .data] true _ false over (fun _ h => by cases h) (by kernel_rfl) (fun _ h => by cases h) digestPreimage_row_tie rfl ⟨rfl, rfl⟩ (by kernel_rfl) rfl
    (fun f fn hf hfn => by
      obtain rfl : f = 6 := Option.some.inj ((show Tryd.prog.funcNamed "gouache/gouachelaw02.DigestPreimage" = some 6 by kernel_rfl).symm.trans hf) |>.symm
      obtain rfl : fn = Tryd.f6 := (Option.some.inj (Tryd.func6.symm.trans hfn)).symm
      exact ⟨by kernel_rfl, fun j t ht => by
        rw [Tryd.params6] at ht
        have hm : t ∈ [28, 28] := by simpa using Array.mem_of_getElem? ht
        have hall : ([28, 28].all fun u => !Tryd.prog.wantsStandIn u) = true := by kernel_rfl
        exact (show Tryd.prog.wantsStandIn t = false by simpa using List.all_eq_true.1 hall t hm)⟩)
    (by kernel_rfl)
end digestPreimage

end Go.Proofs.YtpkonkkjihbgiaaDoor
