/- DigestJoin: for every list of strings, Join agrees with the reference implementation: the law returns true for every input, and its argument reads as it did. The two tables of package digest hold what the program's text lays. No other condition. -/
import Derived.Test.YtpkonkkjihbgiaaDoorDz
import Derived.Deep.Strs
namespace Go.Proofs.YtpkonkkjihbgiaaDoor
open Go.RowKit Sha Go.ChangeShapes Go.WideShapes Go.ChangeAt
set_option linter.unusedVariables false
set_option linter.unusedSimpArgs false

/-- How a list of strings lies at the call. -/
def StrsAt (v : Value) (w : World) : Prop := (∃ a c, v = .slice a 0 c) ∨ ∃ g o c ps, v = .slice (some ⟨g, o, none⟩) ps.length c ∧ SCells g o ps w ∧ (∀ k, (sAt ps k).size ≤ maxLen) ∧ ps.length ≤ maxLen
section
variable {H : Type} {enc : TypeId × Value → H} {w : World} {base : Nat} {spare : Nat → Bool} {held : Bool}
theorem open_strl {r : Reach} {b0 : Nat} {v : Value} {d : DataW H} {p : List MemPlace} (hv : Value.okWide Tryd.prog w r b0 28 v)
    (h : DataW.Trod enc Tryd.prog w base spare held 28 v d p) : StrsAt v w := by
  obtain ⟨a0, len, cap, rfl⟩ := okWide_slice Tryd.underlying28 hv
  obtain ⟨fuel, hf⟩ := h
  have hC : Tryd.prog.cellsOf 9 = 1 := by kernel_rfl
  rcases Deep.open_strs Tryd.underlying28 Tryd.underlying9 hC hf with ⟨hcs, _⟩ | ⟨a, len', cap', m, Sx, hcs, hb, hl, hcap, hm, _, hel⟩
  · simp [Value.cells] at hcs
    obtain ⟨rfl, rfl, rfl⟩ := hcs
    exact .inl ⟨_, _, rfl⟩
  · simp [Value.cells] at hcs
    obtain ⟨rfl, rfl, rfl⟩ := hcs
    by_cases h0 : len = 0
    · subst h0
      exact .inl ⟨_, _, rfl⟩
    · right
      have hml : len ≤ m := by rw [hm]; split <;> omega
      have hspot : a.spot = none := by
        have := (hel 0 (by omega)).1
        have e : a.add 0 = a := rfl
        rw [e] at this
        exact World.cell?_spot this
      obtain ⟨b, off, spot⟩ := a
      simp only at hspot
      subst hspot
      have hadd : ∀ i, (⟨b, off, none⟩ : Addr).add i = ⟨b, off + i, none⟩ := fun i => by unfold Addr.add; split <;> simp_all
      refine ⟨b, off, cap, (List.range len).map Sx, by simp, ⟨?_, fun i hi => ?_⟩, fun k => ?_, by simp; exact Nat.le_trans hl hcap⟩
      · have := (hel 0 (by omega)).1
        rw [hadd] at this
        exact World.block_lt_of_cell? w _ this
      · simp at hi
        have := (hel i (by omega)).1
        rw [hadd] at this
        rw [this]
        unfold sAt
        rw [List.getD_eq_getElem?_getD, List.getElem?_map, List.getElem?_range hi]
        rfl
      · unfold sAt
        rw [List.getD_eq_getElem?_getD, List.getElem?_map]
        by_cases hk : k < len
        · rw [List.getElem?_range hk]
          exact (hel k (by omega)).2
        · rw [List.getElem?_eq_none (by simp; omega)]
          exact Nat.zero_le _
end
set_option maxHeartbeats 1000000 in
theorem L_list0 (a : Option Addr) (c : Nat) (w : World) : Calls Tryd.prog 17 #[.slice a 0 c] w fun e w' => ∃ v, e = .returned v ∧ OwnS w.heap.size v [] w' ∧ Below w.heap.size w w' := by
  have B := Below.refl w.heap.size w
  go_enter Tryd.func17, Tryd.ntmps17
  go_wp2_with ((refine wpList_bsE rfl rfl ?_; intro b_od wn hle hge ht hbn hzn; have hsz := B.size; replace B := B.trans (hbn.mono (by omega)); have od := ht; clear ht; simp only [Act.put, List.setIfInBounds_toArray, List.set_cons_zero, List.set_cons_succ]))
  have hbase : w.heap.size ≤ b_od := by omega
  go_loopw [3, 4] (fun v i wr => i = .int .i64 0 ∧ OwnS b_od v [] wr ∧ Below w.heap.size w wr) (fun _ i _ => 0)
  case atStart => exact ⟨rfl, od, B⟩
  case round =>
    clear B od
    obtain ⟨rfl, od, B⟩ := hrel
    go_wp2
    go_ret
    exact ⟨_, rfl, ownS_mono od hbase, B⟩
/-- What 'list' makes, whatever list came in. -/
theorem L_list_any (v : Value) (w : World) (h : StrsAt v w) : Calls Tryd.prog 17 #[v] w fun e w' => ∃ u ls, e = .returned u ∧ OwnS w.heap.size u ls w' ∧ ls.length ≤ 8 ∧ (∀ k, (sAt ls k).size ≤ 100000) ∧ Below w.heap.size w w' := by
  rcases h with ⟨a, c, rfl⟩ | ⟨g, o, c, ps, rfl, sc, hM, hn⟩
  · exact (L_list0 a c w).mono fun e w' ⟨u, h1, h2, h3⟩ => ⟨u, [], h1, h2, by simp, fun k => Nat.zero_le _, h3⟩
  · exact (L_list g o c ps w sc hM hn).mono fun e w' ⟨u, h1, h2, h3⟩ => ⟨u, _, h1, h2, by rw [cutP_length]; omega, cutP_sAt ps _, h3⟩
set_option maxHeartbeats 1000000 in
theorem R_Preimage_nil (w : World) : Calls Tryd.prog 21 #[.slice none 0 0] w fun e w' => e = .returned (.string ⟨#[]⟩) ∧ Below w.heap.size w w' := by
  have B := Below.refl w.heap.size w
  go_enter Tryd.func21, Tryd.ntmps21
  go_wp2
  go_loopw [3, 4] (fun d i wr => d = .string ⟨#[]⟩ ∧ i = .int .i64 0 ∧ Below w.heap.size w wr) (fun _ i _ => 0)
  case atStart => exact ⟨rfl, rfl, B⟩
  case round =>
    clear B
    obtain ⟨rfl, rfl, B⟩ := hrel
    go_wp2
    go_ret
    exact ⟨rfl, B⟩
set_option maxHeartbeats 1000000 in
theorem R_Join_nil (w : World) : Calls Tryd.prog 19 #[.slice none 0 0] w fun e w' => e = .returned (.string (DS ⟨#[]⟩)) ∧ Below w.heap.size w w' := by
  have B := Below.refl w.heap.size w
  go_enter Tryd.func19, Tryd.ntmps19
  go_wp2_with (first | (go_at_call 21; refine (R_Preimage_nil _).mono ?_; rintro e wn ⟨rfl, hbn⟩; have hsz := B.size; have hzn := hbn.size; replace B := B.trans (hbn.mono B.size)) | (go_at_call 16; refine (S_OfR _ _ (by decide)).mono ?_; rintro e wn ⟨rfl, hbn⟩; have hsz := B.size; have hzn := hbn.size; replace B := B.trans (hbn.mono B.size)))
  go_ret
  exact ⟨rfl, B⟩
theorem StrsAt.below {v : Value} {w w' : World} (h : StrsAt v w) (hb : Below w.heap.size w w') : StrsAt v w' := by
  rcases h with h | ⟨g, o, c, ps, e, sc, hM, hn⟩
  · exact .inl h
  · exact .inr ⟨g, o, c, ps, e, sc.of_eq (hb.block _ sc.lt), hM, hn⟩
set_option maxHeartbeats 2000000 in
set_option maxRecDepth 20000 in
theorem walk_DigestJoin (v : Value) (w : World) (hv : StrsAt v w) (gs : GAt 0 8 w Sha.start.at) (kt : GAt 1 64 w kW) : Calls Tryd.prog 5 #[v] w fun e w' => e = .returned (.bool true) ∧ Below w.heap.size w w' := by
  have B := Below.refl w.heap.size w
  go_enter Tryd.func5, Tryd.ntmps5
  go_wp2_with (first | (go_at_call 13; refine (sanity _ gs kt).mono ?_; rintro e wn ⟨rfl, hbn⟩; have hsz := B.size; have hzn := hbn.size; replace B := B.trans (hbn.mono B.size); replace hv := hv.below hbn; replace gs := gs.of_eq (hbn.block _ gs.lt); replace kt := kt.of_eq (hbn.block _ kt.lt)) | (go_at_call 17; refine (L_list_any _ _ hv).mono ?_; rintro e wn ⟨u, ls, rfl, od, hn8, hM, hbn⟩; have hsz := B.size; have hzn := hbn.size; replace B := B.trans (hbn.mono B.size); replace gs := gs.of_eq (hbn.block _ gs.lt); replace kt := kt.of_eq (hbn.block _ kt.lt); rcases od.scells with ⟨rfl, rfl⟩ | ⟨g, c, rfl, hgb, sc⟩))
  · go_wp2_with (first | (go_at_call 18; refine (P_Join_nil _ gs kt).mono ?_; rintro e wn ⟨rfl, hbn⟩; have hsz := B.size; have hzn := hbn.size; replace B := B.trans (hbn.mono B.size); (try first | replace gs := gs.of_eq (hbn.block _ gs.lt) | replace gs := gs.below hbn); (try first | replace kt := kt.of_eq (hbn.block _ kt.lt) | replace kt := kt.below hbn)) | (go_at_call 19; refine (R_Join_nil _).mono ?_; rintro e wn ⟨rfl, hbn⟩; have hsz := B.size; have hzn := hbn.size; replace B := B.trans (hbn.mono B.size); (try first | replace gs := gs.of_eq (hbn.block _ gs.lt) | replace gs := gs.below hbn); (try first | replace kt := kt.of_eq (hbn.block _ kt.lt) | replace kt := kt.below hbn)))
    go_ret
    exact ⟨rfl, B⟩
  · go_wp2_with (first | (go_at_call 18; refine (P_Join _ _ _ _ _ sc (by omega) hM gs kt).mono ?_; rintro e wn ⟨rfl, hbn⟩; have hsz := B.size; have hzn := hbn.size; replace B := B.trans (hbn.mono B.size); (try first | replace gs := gs.of_eq (hbn.block _ gs.lt) | replace gs := gs.below hbn); (try first | replace kt := kt.of_eq (hbn.block _ kt.lt) | replace kt := kt.below hbn); (try first | replace sc := sc.of_eq (hbn.block _ sc.lt) | replace sc := sc.below hbn)) | (go_at_call 19; refine (R_Join _ _ _ _ _ sc (by omega) hM).mono ?_; rintro e wn ⟨rfl, hbn⟩; have hsz := B.size; have hzn := hbn.size; replace B := B.trans (hbn.mono B.size); (try first | replace gs := gs.of_eq (hbn.block _ gs.lt) | replace gs := gs.below hbn); (try first | replace kt := kt.of_eq (hbn.block _ kt.lt) | replace kt := kt.below hbn); (try first | replace sc := sc.of_eq (hbn.block _ sc.lt) | replace sc := sc.below hbn)))
    go_ret
    exact ⟨rfl, B⟩

namespace digestJoin
open Go.ChangeShapes Go.WideShapes Go.ChangeAt Go.RowKit
open Go.ChangeMaps (open_string shut_string)
set_option maxRecDepth 100000 in
theorem lifted (os : Os) (started : os.Started) (H : Type) (enc : TypeId × Value → H) :
    ReturnsInHanded {} Tryd.checked os 5 .any (fun w args => (Rows.digestJoinSpec.pre enc Tryd.prog Tryd.f5 [] false w args ∧ laidMetH Tryd.prog laidD w) ∧ sizedMet enc Tryd.prog Tryd.f5 (OpenSpec.ofChange Rows.digestJoinSpec) false w args) (Rows.digestJoinSpec.post enc Tryd.prog Tryd.f5 false true false false) := by
  refine returnsInHanded_of_change_and (C := Tryd.checked) (X := fun w _ => laidMetH Tryd.prog laidD w) (fun _ _ _ hh h => h.of_heap hh) own started (by kernel_rfl) Tryd.func5
    (ChangeSpec.witness_shaped (enc := enc) (C := Tryd.checked) (os := os) (X := fun w _ => laidMetH Tryd.prog laidD w) false (World.doorLaid Tryd.prog 400 os) #[.slice none 0 0] 8 rfl (World.shaped_of_RefB (by kernel_rfl) (by kernel_rfl)) (by kernel_rfl) (by kernel_rfl) (by kernel_rfl) (door_met os _)) ?_
  intro W base args ds gs before hval0 hW _ _ hL _
  obtain ⟨hgs, hkt⟩ := of_laid hL
  have hval : ∀ (j : Nat) t v, Tryd.f5.params[j]? = some t → args[j]? = some v → Value.okWide Tryd.prog W .any base t v := hval0
  have hW' := hW
  obtain ⟨p, q, hA0, hV, rfl, hfz, hnd⟩ := hW
  have hA : DataW.TrodAll enc Tryd.prog W 0 (fun _ => true) true Tryd.f5.params.toList args.toList ds p := hA0
  rw [Tryd.params5] at hA hval
  obtain ⟨v0, vs0, d0, ds0, p0, q0, hargs, rfl, rfl, h0, r0⟩ := trodAll_cons hA
  obtain ⟨rfl, rfl, rfl⟩ := trodAll_nil r0
  obtain rfl : args = #[v0] := by cases args; simp_all
  obtain ⟨rfl, rfl⟩ := trodVars_none hV
  have k0 := h0
  have lt0 : ∀ x ∈ p0, x.block < W.heap.size := by obtain ⟨m, hm⟩ := k0; exact DataW.trod_lt m _ _ _ hm
  have w0 := open_strl (hval 0 28 v0 rfl rfl) h0
  clear hA0 hval0
  refine (walk_DigestJoin v0 W w0 hgs hkt).mono fun e W' ⟨he, bel⟩ => ?_
  subst he
  exact ⟨_, rfl, _, _, _, [], _, [], hW', trodAll_mk1 (shut_bool Tryd.underlying4 _), (trodAll_cons_mk (Below.trod laidOut (by kernel_rfl) (of_decide_eq_true (by kernel_rfl)) k0 bel lt0) trodAll_mk0), rfl, bel.frame _, fun h => by cases h⟩
theorem over : Rows.digestJoinRow.holds Tryd.pinned (OpenSpec.ofChange Rows.digestJoinSpec) :=
  OpenClaim.holds_of_wide 5 Tryd.f5 rfl rfl rfl rfl rfl rfl rfl ⟨rfl, rfl, rfl, rfl, rfl⟩ rfl rfl rfl rfl rfl (by kernel_rfl) Tryd.func5 (by kernel_rfl)
    (of_decide_eq_true (by kernel_rfl)) (by unfold Func.isWrapper; first | (rw [if_pos (by decide +kernel)]; kernel_rfl) | (rw [if_neg (by decide +kernel)]; exact ⟨rfl, rfl⟩))
    (fun os started H enc _ => lifted os started H enc)
/-- THE STATEMENT: DigestJoin returns true for every input, and its arguments read as they did; what the two tables hold is tied to the program's text. -/
theorem proved : Rows.DigestJoinCardSaid := by
  unfold Rows.DigestJoinCardSaid Rows.digestJoinCard
  exact Claim7.holds_tied_plain_at .later [] [.data, .data] true _ false over (fun _ h => by cases h) (by kernel_rfl) (fun _ h => by cases h) digestJoin_row_tie rfl ⟨rfl, rfl⟩ (by kernel_rfl) rfl
    (fun f fn hf hfn => by
      obtain rfl : f = 5 := Option.some.inj ((show Tryd.prog.funcNamed "gouache/gouachelaw02.DigestJoin" = some 5 by kernel_rfl).symm.trans hf) |>.symm
      obtain rfl : fn = Tryd.f5 := (Option.some.inj (Tryd.func5.symm.trans hfn)).symm
      exact ⟨by kernel_rfl, fun j t ht => by
        rw [Tryd.params5] at ht
        have hm : t ∈ [28] := by simpa using Array.mem_of_getElem? ht
        have hall : ([28].all fun u => !Tryd.prog.wantsStandIn u) = true := by kernel_rfl
        exact (show Tryd.prog.wantsStandIn t = false by simpa using List.all_eq_true.1 hall t hm)⟩)
    (by kernel_rfl)
end digestJoin

end Go.Proofs.YtpkonkkjihbgiaaDoor
