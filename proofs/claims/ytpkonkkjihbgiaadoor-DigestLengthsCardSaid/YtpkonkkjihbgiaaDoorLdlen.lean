/- DigestLengths: for every string and every list, Of and Join return valid digests whose hexadecimal forms parse to themselves: the law returns true for every input, and its arguments read as they did. The two tables of package digest hold what the program's text lays. No other condition. -/
import Derived.Test.YtpkonkkjihbgiaaDoorDn
import Derived.Test.YtpkonkkjihbgiaaDoorBk
import Derived.Test.YtpkonkkjihbgiaaDoorLdof
import Derived.Test.YtpkonkkjihbgiaaDoorLdback
namespace Go.Proofs.YtpkonkkjihbgiaaDoor
open Go.RowKit Sha
set_option linter.unusedVariables false
set_option linter.unusedSimpArgs false
set_option maxRecDepth 20000

/-- What holds of a digest: 32 bytes; its hexadecimal form parses to it. -/
def Dig (X : ByteArray) : Prop := X.size = 32 ∧ PS (HS X) = X ∧ ES (HS X) = 0 ∧ VS X = true ∧ (HS X).size = 64
theorem dig_of (X : ByteArray) (h : X.size = 32) : Dig X := by
  have hl : (bytes X).length = 32 := by rw [bytes_length]; exact h
  have h1 := back_ps (bytes X) hl
  have h2 := back_es (bytes X) hl
  have h3 := hs_size (bytes X) hl
  rw [ofL_bytes] at h1 h2 h3
  refine ⟨h, h1, h2, ?_, h3⟩
  unfold VS
  exact decide_eq_true hl
theorem sAt_snoc {xs : List ByteArray} {S : ByteArray} (h : ∀ k, (sAt xs k).size ≤ 100000) (hS : S.size ≤ 400) : ∀ k, (sAt (xs ++ [S]) k).size ≤ 100000 := fun k => by
  unfold sAt
  rw [List.getD_eq_getElem?_getD]
  by_cases hk : k < xs.length
  · rw [List.getElem?_append_left hk, ← List.getD_eq_getElem?_getD]
    exact h k
  · rw [List.getElem?_append_right (by omega)]
    by_cases e : k - xs.length = 0
    · rw [e]
      show S.size ≤ 100000
      omega
    · rw [List.getElem?_eq_none (by simp; omega)]
      exact Nat.zero_le _
theorem run_alloc_D2 (w : World) (o : Oper) (ho : o.op = .alloc 47) (ev : Operand → Value) : (execOp ev o).run Tryd.prog w = .ok (.value (.pointer (some ⟨w.heap.size, 0, none⟩))) (w.alloc (.cells #[.string ⟨#[]⟩, .string ⟨#[]⟩] 47)) := by
  obtain ⟨d, p, t, ps, af, gd⟩ := o
  simp only at ho
  subst ho
  kernel_rfl
set_option maxHeartbeats 4000000 in
theorem walk_DigestLengths (s : ByteArray) (v1 : Value) (hs : s.size ≤ maxLen) (w : World) (ha : StrsAt v1 w) (gs : GAt 0 8 w Sha.start.at) (kt : GAt 1 64 w kW) : Calls Tryd.prog 11 #[.string s, v1] w fun e w' => e = .returned (.bool true) ∧ Below w.heap.size w w' := by
  have B := Below.refl w.heap.size w
  have hg0 := gs.lt
  have hk0 := kt.lt
  have x2 := ext_size s 400
  have hl2 : (s.extract 0 (min s.size 400)).size ≤ 400 := by omega
  clear x2
  go_enter Tryd.func11, Tryd.ntmps11
  go_wp2_with (first | (at_builtin; refine wpList_append1s rfl _ _ rfl _ rfl _ _ rfl od s1 (by omega) (B.size) ?_; intro vn wn ht hbn; have hsz := B.size; have hzn := hbn.size; replace B := B.trans hbn; clear od s1; have od := ht; clear ht; replace gs := gs.of_eq (hbn.block _ (by have := hg0; omega)); replace kt := kt.of_eq (hbn.block _ (by have := hk0; omega)); have ls := od.ls; simp only [Act.put, List.setIfInBounds_toArray, List.set_cons_zero, List.set_cons_succ]) | (refine wpList_bs1 rfl _ rfl _ rfl ?_; intro b_s1 wn hle hge s1 hbn hzn; have hsz := B.size; replace B := B.trans (hbn.mono (by omega)); replace od := od.below (hbn.mono hle); (try first | (have hlt := gs.lt; replace gs := gs.of_eq (hbn.block _ (by omega))) | replace gs := gs.below (hbn.mono hle)); (try first | (have hlt := kt.lt; replace kt := kt.of_eq (hbn.block _ (by omega))) | replace kt := kt.below (hbn.mono hle)); simp only [Act.put, List.setIfInBounds_toArray, List.set_cons_zero, List.set_cons_succ]) | (go_at_call 18; refine (P_JoinL ls (by simp; omega) (sAt_snoc hMa hl2) gs kt).mono ?_; clear ls; rintro e wn ⟨rfl, hbn⟩; have hsz := B.size; have hzn := hbn.size; replace B := B.trans (hbn.mono B.size); (try first | replace gs := gs.of_eq (hbn.block _ gs.lt) | replace gs := gs.below hbn); (try first | replace kt := kt.of_eq (hbn.block _ kt.lt) | replace kt := kt.below hbn)) | (refine wpList_storeB (t := 47) rfl _ _ rfl _ rfl _ rfl ds (by kernel_rfl) rfl (by simp [Value.oneCell']) ?_; clear ds; intro wn ht hcn hzn; have hsz := B.size; replace hzn := Nat.le_of_eq hzn.symm; replace B := Chg.below B hcn (by omega) B.size; (try replace gs := gs.of_eq (hcn.block _ gs.lt (by omega))); (try replace kt := kt.of_eq (hcn.block _ kt.lt (by omega))); have ds := ht; clear ht; simp only [Act.put, List.setIfInBounds_toArray, List.set_cons_zero, List.set_cons_succ]) | (refine wpList_allocBk (t := 47) rfl _ (run_alloc_D2 _ _ rfl) ?_; intro b_ds wn hle hge ht hbn hzn; have hsz := B.size; replace B := B.trans (hbn.mono (by omega)); have hln := Nat.lt_of_lt_of_eq (Nat.lt_succ_self _) hzn.symm; clear hzn; (try first | (have hlt := gs.lt; replace gs := gs.of_eq (hbn.block _ (by omega))) | replace gs := gs.below (hbn.mono hle)); (try first | (have hlt := kt.lt; replace kt := kt.of_eq (hbn.block _ (by omega))) | replace kt := kt.below (hbn.mono hle)); have ds := ht; clear ht; simp only [Act.put, List.setIfInBounds_toArray, List.set_cons_zero, List.set_cons_succ]) | (go_at_call 15; refine (S_Of _ _ (by omega) gs kt).mono ?_; rintro e wn ⟨rfl, hbn⟩; have hsz := B.size; have hzn := hbn.size; (try replace ls := ls.below hbn); replace B := B.trans (hbn.mono B.size); (try first | replace gs := gs.of_eq (hbn.block _ gs.lt) | replace gs := gs.below hbn); (try first | replace kt := kt.of_eq (hbn.block _ kt.lt) | replace kt := kt.below hbn)) | (go_at_call 14; refine (L_some s 400 _ hs (by omega)).mono ?_; rintro e wq ⟨rfl, rfl⟩) | (go_at_call 13; refine (sanity _ gs kt).mono ?_; rintro e wn ⟨rfl, hbn⟩; have hsz := B.size; have hzn := hbn.size; replace B := B.trans (hbn.mono B.size); replace ha := ha.below hbn; (try first | replace gs := gs.of_eq (hbn.block _ gs.lt) | replace gs := gs.below hbn); (try first | replace kt := kt.of_eq (hbn.block _ kt.lt) | replace kt := kt.below hbn); (try first | replace ha := ha.of_eq (hbn.block _ ha.lt) | replace ha := ha.below hbn)) | (have hk_ := ha; go_at_call 17; refine (L_list_any _ _ ha).mono ?_; clear ha hk_; rintro e wn ⟨u, xs, rfl, od, hna, hMa, hbn⟩; have hsz := B.size; have hzn := hbn.size; replace od := ownS_mono od B.size; replace B := B.trans (hbn.mono B.size); (try first | replace gs := gs.of_eq (hbn.block _ gs.lt) | replace gs := gs.below hbn); (try first | replace kt := kt.of_eq (hbn.block _ kt.lt) | replace kt := kt.below hbn)) | fail)
  have dA := dig_of (DS (s.extract 0 (min s.size 400))) (DS_size _)
  have dB := dig_of (JL (xs ++ [s.extract 0 (min s.size 400)])) (JL_size _)
  have DA := Lib.hid dA
  have DB := Lib.hid dB
  clear dA dB
  generalize DS (s.extract 0 (min s.size 400)) = A at *
  generalize JL (xs ++ [s.extract 0 (min s.size 400)]) = J at *
  go_loopw [8, 9, 10] (fun i _ _ wr => ∃ k : Nat, k ≤ 2 ∧ i = .int .i64 k ∧ Below w.heap.size w wr ∧ AtB 47 wr b_ds #[.string A, .string J]) (fun i _ _ _ => (2 - intOf i).toNat)
  case atStart => exact ⟨0, by omega, rfl, B, ds⟩
  case round =>
    clear B gs kt ds
    obtain ⟨k, hk, rfl, B, ds⟩ := hrel
    by_cases hlt : k < 2
    · obtain ⟨X, hx0, q1, q2, q3, q4, q5⟩ : ∃ X, (#[.string A, .string J] : Array Value)[k]? = some (.string X) ∧ Dig X := by
        have hc : k = 0 ∨ k = 1 := by omega
        rcases hc with rfl | rfl
        · exact ⟨A, rfl, DA.out⟩
        · exact ⟨J, rfl, DB.out⟩
      have Hx0 := Lib.hid hx0
      have c_ds := ds.cell k hx0
      clear hx0
      go_wp2_with (first | (go_at_call 24; refine (S_Hex _ _ (by omega)).mono ?_; rintro e wn ⟨rfl, hbn⟩; have hsz := B.size; have hzn := hbn.size; replace B := B.trans (hbn.mono B.size); (try first | replace ds := ds.of_eq (hbn.block _ ds.lt) | replace ds := ds.below hbn); have c_ds := ds.cell k Hx0.out) | (go_at_call 22; refine (S_Parse _ _ (by omega)).mono ?_; rintro e wn ⟨rfl, hbn⟩; have hsz := B.size; have hzn := hbn.size; replace B := B.trans (hbn.mono B.size); (try first | replace ds := ds.of_eq (hbn.block _ ds.lt) | replace ds := ds.below hbn); have c_ds := ds.cell k Hx0.out) | (go_at_call 26; refine (S_Valid _ _ (by omega)).mono ?_; rintro e wq ⟨rfl, rfl⟩) | fail)
      go_roundw
      case rel => exact ⟨k + 1, by omega, by go_num, B, ds⟩
      case measure => simp [intOf]; omega
    · obtain rfl : k = 2 := by omega
      go_wp2
      go_ret
      exact ⟨rfl, B⟩

namespace digestLengths
open Go.ChangeShapes Go.WideShapes Go.ChangeAt Go.RowKit
open Go.ChangeMaps (open_string shut_string)
set_option maxRecDepth 100000 in
theorem lifted (os : Os) (started : os.Started) (H : Type) (enc : TypeId × Value → H) :
    ReturnsInHanded {} Tryd.checked os 11 .any (fun w args => (Rows.digestLengthsSpec.pre enc Tryd.prog Tryd.f11 [] false w args ∧ laidMetH Tryd.prog laidD w) ∧ sizedMet enc Tryd.prog Tryd.f11 (OpenSpec.ofChange Rows.digestLengthsSpec) false w args) (Rows.digestLengthsSpec.post enc Tryd.prog Tryd.f11 false true false false) := by
  refine returnsInHanded_of_change_and (C := Tryd.checked) (X := fun w _ => laidMetH Tryd.prog laidD w) (fun _ _ _ hh h => h.of_heap hh) own started (by kernel_rfl) Tryd.func11
    (ChangeSpec.witness_shaped (enc := enc) (C := Tryd.checked) (os := os) (X := fun w _ => laidMetH Tryd.prog laidD w) false (World.doorLaid Tryd.prog 400 os) #[.string ⟨#[]⟩, .slice none 0 0] 8 rfl (World.shaped_of_RefB (by kernel_rfl) (by kernel_rfl)) (by kernel_rfl) (by kernel_rfl) (by kernel_rfl) (door_met os _)) ?_
  intro W base args ds gs before hval0 hW _ _ hL _
  obtain ⟨hgs, hkt⟩ := of_laid hL
  have hval : ∀ (j : Nat) t v, Tryd.f11.params[j]? = some t → args[j]? = some v → Value.okWide Tryd.prog W .any base t v := hval0
  have hW' := hW
  obtain ⟨p, q, hA0, hV, rfl, hfz, hnd⟩ := hW
  have hA : DataW.TrodAll enc Tryd.prog W 0 (fun _ => true) true Tryd.f11.params.toList args.toList ds p := hA0
  rw [Tryd.params11] at hA hval
  obtain ⟨v0, vs0, d0, ds0, p0, q0, hargs, rfl, rfl, h0, r0⟩ := trodAll_cons hA
  obtain ⟨v1, vs1, d1, ds1, p1, q1, rfl, rfl, rfl, h1, r1⟩ := trodAll_cons r0
  obtain ⟨rfl, rfl, rfl⟩ := trodAll_nil r1
  obtain rfl : args = #[v0, v1] := by cases args; simp_all
  obtain ⟨rfl, rfl⟩ := trodVars_none hV
  have k0 := h0
  have lt0 : ∀ x ∈ p0, x.block < W.heap.size := by obtain ⟨m, hm⟩ := k0; exact DataW.trod_lt m _ _ _ hm
  have k1 := h1
  have lt1 : ∀ x ∈ p1, x.block < W.heap.size := by obtain ⟨m, hm⟩ := k1; exact DataW.trod_lt m _ _ _ hm
  obtain ⟨a0, rfl, rfl, rfl, w0⟩ := open_string Tryd.underlying9 (hval 0 9 v0 rfl rfl) h0
  have w1 := open_strl (hval 1 28 v1 rfl rfl) h1
  clear hA0 hval0
  refine (walk_DigestLengths a0 v1 w0 W w1 hgs hkt).mono fun e W' ⟨he, bel⟩ => ?_
  subst he
  exact ⟨_, rfl, _, _, _, [], _, [], hW', trodAll_mk1 (shut_bool Tryd.underlying4 _), (trodAll_cons_mk (Below.trod laidOut (by kernel_rfl) (of_decide_eq_true (by kernel_rfl)) k0 bel lt0) (trodAll_cons_mk (Below.trod laidOut (by kernel_rfl) (of_decide_eq_true (by kernel_rfl)) k1 bel lt1) trodAll_mk0)), rfl, bel.frame _, fun h => by cases h⟩
theorem over : Rows.digestLengthsRow.holds Tryd.pinned (OpenSpec.ofChange Rows.digestLengthsSpec) :=
  OpenClaim.holds_of_wide 11 Tryd.f11 rfl rfl rfl rfl rfl rfl rfl ⟨rfl, rfl, rfl, rfl, rfl⟩ rfl rfl rfl rfl rfl (by kernel_rfl) Tryd.func11 (by kernel_rfl)
    (of_decide_eq_true (by kernel_rfl)) (by unfold Func.isWrapper; first | (rw [if_pos (by decide +kernel)]; kernel_rfl) | (rw [if_neg (by decide +kernel)]; exact ⟨rfl, rfl⟩))
    (fun os started H enc _ => lifted os started H enc)
/-- THE STATEMENT: DigestLengths returns true for every input, and its arguments read as they did; what the two tables hold is tied to the program's text. -/
theorem proved : Rows.DigestLengthsCardSaid := by
  unfold Rows.DigestLengthsCardSaid Rows.digestLengthsCard
  exact Claim7.holds_tied_plain_at .later [] [.data, .data] true _ false over (fun _ h => by cases h) (by kernel_rfl) (fun _ h => by cases h) digestLengths_row_tie rfl ⟨rfl, rfl⟩ (by kernel_rfl) rfl
    (fun f fn hf hfn => by
      obtain rfl : f = 11 := Option.some.inj ((show Tryd.prog.funcNamed "gouache/gouachelaw02.DigestLengths" = some 11 by kernel_rfl).symm.trans hf) |>.symm
      obtain rfl : fn = Tryd.f11 := (Option.some.inj (Tryd.func11.symm.trans hfn)).symm
      exact ⟨by kernel_rfl, fun j t ht => by
        rw [Tryd.params11] at ht
        have hm : t ∈ [9, 28] := by simpa using Array.mem_of_getElem? ht
        have hall : ([9, 28].all fun u => !Tryd.prog.wantsStandIn u) = true := by kernel_rfl
        exact (show Tryd.prog.wantsStandIn t = false by simpa using List.all_eq_true.1 hall t hm)⟩)
    (by kernel_rfl)
end digestLengths

end Go.Proofs.YtpkonkkjihbgiaaDoor
