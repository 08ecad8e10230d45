/- DigestVectors: for every byte and string, Of returns a published digest of two blocks, and the digests of 64 and 65 equal bytes and of a digest agree with the reference implementation: the law returns true for every input, and its arguments read as they did. The two tables of package digest hold what the program's text lays. No other condition. -/
import Derived.Test.YtpkonkkjihbgiaaDoorLdbl
namespace Go.Proofs.YtpkonkkjihbgiaaDoor
open Go.RowKit Sha
set_option linter.unusedVariables false
set_option linter.unusedSimpArgs false

set_option maxRecDepth 100000 in
theorem of_two : ofBL [97, 98, 99, 100, 98, 99, 100, 101, 99, 100, 101, 102, 100, 101, 102, 103, 101, 102, 103, 104, 102, 103, 104, 105, 103, 104, 105, 106, 104, 105, 106, 107, 105, 106, 107, 108, 106, 107, 108, 109, 107, 108, 109, 110, 108, 109, 110, 111, 109, 110, 111, 112, 110, 111, 112, 113] = [36, 141, 106, 97, 210, 6, 56, 184, 229, 192, 38, 147, 12, 62, 96, 57, 163, 60, 228, 89, 100, 255, 33, 103, 246, 236, 237, 212, 25, 219, 6, 193] := by decide +kernel
theorem ext_lt (s : ByteArray) : (s.extract 0 (min s.size 100)).size < 1099511627776 := by rw [ext_size]; omega
theorem two_lt : (⟨#[97, 98, 99, 100, 98, 99, 100, 101, 99, 100, 101, 102, 100, 101, 102, 103, 101, 102, 103, 104, 102, 103, 104, 105, 103, 104, 105, 106, 104, 105, 106, 107, 105, 106, 107, 108, 106, 107, 108, 109, 107, 108, 109, 110, 108, 109, 110, 111, 109, 110, 111, 112, 110, 111, 112, 113]⟩ : ByteArray).size < 1099511627776 := by decide
set_option maxRecDepth 100000 in
theorem hs_two : HS (DS ⟨#[97, 98, 99, 100, 98, 99, 100, 101, 99, 100, 101, 102, 100, 101, 102, 103, 101, 102, 103, 104, 102, 103, 104, 105, 103, 104, 105, 106, 104, 105, 106, 107, 105, 106, 107, 108, 106, 107, 108, 109, 107, 108, 109, 110, 108, 109, 110, 111, 109, 110, 111, 112, 110, 111, 112, 113]⟩) = ⟨#[50, 52, 56, 100, 54, 97, 54, 49, 100, 50, 48, 54, 51, 56, 98, 56, 101, 53, 99, 48, 50, 54, 57, 51, 48, 99, 51, 101, 54, 48, 51, 57, 97, 51, 51, 99, 101, 52, 53, 57, 54, 52, 102, 102, 50, 49, 54, 55, 102, 54, 101, 99, 101, 100, 100, 52, 49, 57, 100, 98, 48, 54, 99, 49]⟩ := by
  rw [HS_DS]
  show ofL (hexL (ofB [97, 98, 99, 100, 98, 99, 100, 101, 99, 100, 101, 102, 100, 101, 102, 103, 101, 102, 103, 104, 102, 103, 104, 105, 103, 104, 105, 106, 104, 105, 106, 107, 105, 106, 107, 108, 106, 107, 108, 109, 107, 108, 109, 110, 108, 109, 110, 111, 109, 110, 111, 112, 110, 111, 112, 113])) = _
  rw [ofBL_eq, of_two]
  exact congrArg ofL (show hexL _ = [50, 52, 56, 100, 54, 97, 54, 49, 100, 50, 48, 54, 51, 56, 98, 56, 101, 53, 99, 48, 50, 54, 57, 51, 48, 99, 51, 101, 54, 48, 51, 57, 97, 51, 51, 99, 101, 52, 53, 57, 54, 52, 102, 102, 50, 49, 54, 55, 102, 54, 101, 99, 101, 100, 100, 52, 49, 57, 100, 98, 48, 54, 99, 49] by decide +kernel)

theorem run_make_b65 (w : World) (o : Oper) (ho : o.op = .makeSlice 45 (.const (.int .i64 65)) (.const (.int .i64 65))) (a : Act) : (execOp a.eval o).run Tryd.prog w = .ok (.value (.slice (some ⟨w.heap.size, 0, none⟩) 65 65)) (w.alloc (.cells (bC 65 fun _ => 0) 5)) := by
  obtain ⟨d, p, t, ps, af, gd⟩ := o
  simp only at ho
  subst ho
  kernel_rfl
theorem wpList_makeB65 {ops : Array Oper} {rest : List Oper} {o : Oper} {a : Act} {w : World} {Q : Exit → Act → World → Prop} (hg : o.guard = none) (ho : o.op = .makeSlice 45 (.const (.int .i64 65)) (.const (.int .i64 65)))
    (h : ∀ b w', w.heap.size ≤ b → b ≤ w.heap.size → BAt 5 65 w' b (fun _ => 0) → Below b w w' → w'.heap.size = b + 1 → wpList Tryd.prog ops Q rest (a.put o.dst (.slice (some ⟨b, 0, none⟩) 65 65)) w') : wpList Tryd.prog ops Q (o :: rest) a w :=
  wpList_plain hg fun K hK => by
    unfold Oper.wp
    rw [run_make_b65 w o ho a]
    exact hK _ _ (h _ _ (Nat.le_refl _) (Nat.le_refl _) (by unfold BAt; rw [heap_get_alloc, if_pos rfl]) ((Below.refl _ _).alloc (Nat.le_refl _) _) (World.size_alloc _ _))
theorem ov_b {t n : Nat} {w : World} {b : Nat} {f : Nat → UInt8} (h : BAt t n w b f) : ∀ w', (∃ u, w' = ov w u) → BAt t n w' b f := by
  rintro w' ⟨u, rfl⟩
  exact h.of_eq ((ov_below w u).block _ h.lt)
def stepB (c : UInt8) (k : Nat) : Nat → UInt8 := fun j => if j < k then c else 0
theorem stepB_next (c : UInt8) (k : Nat) : updB (stepB c k) k c = stepB c (k + 1) := by
  funext j
  unfold updB stepB
  by_cases h : j = k
  · subst h; simp
  · rw [if_neg h]
    by_cases h2 : j < k
    · rw [if_pos h2, if_pos (by omega)]
    · rw [if_neg h2, if_neg (by omega)]
theorem stepB_get (c : UInt8) (m : Nat) (hm : m ≤ 65) (i : Nat) (hi : i < (List.replicate m c).length) : (List.replicate m c)[i]? = some (stepB c 65 (0 + i)) := by
  rw [List.length_replicate] at hi
  unfold stepB
  rw [if_pos (by omega), List.getElem?_replicate, if_pos hi]

def repB (m : Nat) (c : UInt8) : ByteArray := ofL (List.replicate m c)
theorem quiet_conv_rep {C : World → Prop} {a : Act} {o : Oper} {K : Act → Prop} (m : Nat) {x : Operand} (h : o.op = .convert 45 9 x) (b : Nat) (hx : a.eval x = .slice (some ⟨b, 0, none⟩) m 65) (c : UInt8) (hm : m ≤ 65) (ht : ∀ w, C w → BAt 5 65 w b (stepB c 65)) (hk : K (a.put o.dst (.string (repB m c)))) : o.quiet Tryd.prog a C K :=
  quiet_convAny h hx (fun w hw => by
    have := run_conv_bytes (ht w hw) (List.replicate m c) 0 65 (by rw [List.length_replicate]; omega) (stepB_get c m hm)
    rw [List.length_replicate] at this
    exact this) hk
theorem rep_lt (m : Nat) (c : UInt8) (hm : m ≤ 65) : (repB m c).size < 1099511627776 := by unfold repB; rw [ofL_size, List.length_replicate]; omega
set_option maxHeartbeats 2000000 in
set_option maxRecDepth 20000 in
theorem walk_DigestVectors (z : Int) (s : ByteArray) (hz : (Lit.int .u8 z).wf = true) (hs : s.size ≤ maxLen) (w : World) (gs : GAt 0 8 w Sha.start.at) (kt : GAt 1 64 w kW) : Calls Tryd.prog 12 #[.int .u8 z, .string s] w fun e w' => e = .returned (.bool true) ∧ Below w.heap.size w w' := by
  have B := Below.refl w.heap.size w
  have h1 := hs_two
  have hc : ∃ c : UInt8, z = (c.toNat : Int) := by
    have hmin : IntKind.u8.min = 0 := rfl
    have hmax : IntKind.u8.max = 255 := rfl
    simp only [Lit.wf, Bool.and_eq_true, decide_eq_true_eq] at hz
    exact ⟨UInt8.ofNat z.toNat, by rw [UInt8.toNat_ofNat']; omega⟩
  obtain ⟨c, rfl⟩ := hc
  clear hz
  go_enter Tryd.func12, Tryd.ntmps12
  go_wp2_with (first | (go_at_call 13; refine (sanity _ gs kt).mono ?_; rintro e wn ⟨rfl, hbn⟩; have hsz := B.size; have hzn := hbn.size; replace B := B.trans (hbn.mono B.size); (try replace gs := gs.of_eq (hbn.block _ gs.lt)); (try replace kt := kt.of_eq (hbn.block _ kt.lt))) | (go_at_call 14; refine (L_some _ 100 _ hs (by omega)).mono ?_; rintro e wq ⟨rfl, rfl⟩) | (refine wpList_makeB65 rfl rfl ?_; intro b_b1 wn hle hge ht hbn hzn; have hsz := B.size; replace B := B.trans (hbn.mono (by omega)); have hln := Nat.lt_of_lt_of_eq (Nat.lt_succ_self _) hzn.symm; clear hzn; (try (have hlt := gs.lt; replace gs := gs.of_eq (hbn.block _ (by omega)))); (try (have hlt := kt.lt; replace kt := kt.of_eq (hbn.block _ (by omega)))); (try (have hlt := b1.lt; replace b1 := b1.of_eq (hbn.block _ (by omega)))); have b1 := ht; clear ht; simp only [Act.put, List.setIfInBounds_toArray, List.set_cons_zero, List.set_cons_succ]))
  go_loopw [7] (fun i wr => ∃ k : Nat, k ≤ 65 ∧ i = .int .i64 k ∧ Below w.heap.size w wr ∧ GAt 0 8 wr Sha.start.at ∧ GAt 1 64 wr kW ∧ BAt 5 65 wr b_b1 (stepB c k)) (fun i _ => (65 - intOf i).toNat)
  case atStart => exact ⟨0, by omega, rfl, B, gs, kt, b1⟩
  case round =>
    have g0 := gs.lt
    have k0 := kt.lt
    clear B gs kt b1
    obtain ⟨k, hk, rfl, B, gs, kt, b1⟩ := hrel
    by_cases hlt : k < 65
    · go_wp2_with (first | (refine wpList_storeByte rfl _ _ rfl _ _ rfl _ rfl (c) (rfl) b1 (k) (by omega) (by first | rfl | omega) ?_; clear b1; intro wn ht hcn hzn; have hsz := B.size; replace hzn := Nat.le_of_eq hzn.symm; replace B := Chg.below B hcn (by omega) B.size; (try replace gs := gs.of_eq (hcn.block _ gs.lt (by omega))); (try replace kt := kt.of_eq (hcn.block _ kt.lt (by omega))); have b1 := ht; clear ht; simp only [Act.put, List.setIfInBounds_toArray, List.set_cons_zero, List.set_cons_succ]))
      rw [stepB_next] at b1
      go_roundw
      case rel => exact ⟨k + 1, by omega, by go_num, B, gs, kt, b1⟩
      case measure => simp [intOf]; omega
    · obtain rfl : k = 65 := by omega
      simp only [show ((65 : Nat) : Int) = 65 from rfl]
      go_wp2_with (first | (go_at_call 15; refine (S_Of _ _ (by first | exact DS_lt _ | exact two_lt | exact ext_lt _) gs kt).mono ?_; rintro e wn ⟨rfl, hbn⟩; have hsz := B.size; have hzn := hbn.size; replace B := B.trans (hbn.mono B.size); (try replace gs := gs.of_eq (hbn.block _ gs.lt)); (try replace kt := kt.of_eq (hbn.block _ kt.lt)); (try replace b1 := b1.of_eq (hbn.block _ b1.lt))) | (go_at_call 16; refine (S_OfR _ _ (by first | exact DS_lt _ | exact two_lt | exact ext_lt _)).mono ?_; rintro e wn ⟨rfl, hbn⟩; have hsz := B.size; have hzn := hbn.size; replace B := B.trans (hbn.mono B.size); (try replace gs := gs.of_eq (hbn.block _ gs.lt)); (try replace kt := kt.of_eq (hbn.block _ kt.lt)); (try replace b1 := b1.of_eq (hbn.block _ b1.lt))) | (go_at_call 24; refine (S_Hex _ _ (DS_lt _)).mono ?_; rintro e wn ⟨rfl, hbn⟩; have hsz := B.size; have hzn := hbn.size; replace B := B.trans (hbn.mono B.size); (try replace gs := gs.of_eq (hbn.block _ gs.lt)); (try replace kt := kt.of_eq (hbn.block _ kt.lt)); (try replace b1 := b1.of_eq (hbn.block _ b1.lt))))
      refine wp_region_ov (by kernel_rfl) (by kernel_rfl) ?_
      repeat (first | go_big_quiet_skip | (go_big_quiet_want; first | (refine quiet_conv_rep 65 rfl _ rfl c (by omega) (ov_b b1) ?_; simp only [Act.put, List.setIfInBounds_toArray, List.set_cons_zero, List.set_cons_succ]; go_big_quiet_on) | (refine quiet_conv_rep 64 rfl _ rfl c (by omega) (ov_b b1) ?_; simp only [Act.put, List.setIfInBounds_toArray, List.set_cons_zero, List.set_cons_succ]; go_big_quiet_on) | (go_big_quiet_op; first | go_big_quiet_on | go_big_quiet_call ((first | (go_at_call 15; exact calls_ov (S_Of _ _ (rep_lt _ _ (by omega)) (ov_g gs _ ⟨_, rfl⟩) (ov_g kt _ ⟨_, rfl⟩))) | (go_at_call 16; exact calls_ov (S_OfR _ _ (rep_lt _ _ (by omega)))))))))
      refine wpQuiet_nil ?_
      intro wn hbn
      have hsz := B.size
      have hzn := hbn.size
      replace B := B.trans (hbn.mono B.size)
      try replace gs := gs.of_eq (hbn.block _ gs.lt)
      try replace kt := kt.of_eq (hbn.block _ kt.lt)
      try replace b1 := b1.of_eq (hbn.block _ b1.lt)
      go_wp2
      go_ret
      exact ⟨rfl, B⟩

namespace digestVectors
open Go.ChangeShapes Go.WideShapes Go.ChangeAt Go.RowKit
open Go.ChangeMaps (open_string shut_string)
set_option maxRecDepth 100000 in
theorem lifted (os : Os) (started : os.Started) (H : Type) (enc : TypeId × Value → H) :
    ReturnsInHanded {} Tryd.checked os 12 .any (fun w args => (Rows.digestVectorsSpec.pre enc Tryd.prog Tryd.f12 [] false w args ∧ laidMetH Tryd.prog laidD w) ∧ sizedMet enc Tryd.prog Tryd.f12 (OpenSpec.ofChange Rows.digestVectorsSpec) false w args) (Rows.digestVectorsSpec.post enc Tryd.prog Tryd.f12 false true false false) := by
  refine returnsInHanded_of_change_and (C := Tryd.checked) (X := fun w _ => laidMetH Tryd.prog laidD w) (fun _ _ _ hh h => h.of_heap hh) own started (by kernel_rfl) Tryd.func12
    (ChangeSpec.witness_shaped (enc := enc) (C := Tryd.checked) (os := os) (X := fun w _ => laidMetH Tryd.prog laidD w) false (World.doorLaid Tryd.prog 400 os) #[.int .u8 0, .string ⟨#[]⟩] 8 rfl (World.shaped_of_RefB (by kernel_rfl) (by kernel_rfl)) (by kernel_rfl) (by kernel_rfl) (by kernel_rfl) (door_met os _)) ?_
  intro W base args ds gs before hval0 hW _ _ hL _
  obtain ⟨hgs, hkt⟩ := of_laid hL
  have hval : ∀ (j : Nat) t v, Tryd.f12.params[j]? = some t → args[j]? = some v → Value.okWide Tryd.prog W .any base t v := hval0
  have hW' := hW
  obtain ⟨p, q, hA0, hV, rfl, hfz, hnd⟩ := hW
  have hA : DataW.TrodAll enc Tryd.prog W 0 (fun _ => true) true Tryd.f12.params.toList args.toList ds p := hA0
  rw [Tryd.params12] at hA hval
  obtain ⟨v0, vs0, d0, ds0, p0, q0, hargs, rfl, rfl, h0, r0⟩ := trodAll_cons hA
  obtain ⟨v1, vs1, d1, ds1, p1, q1, rfl, rfl, rfl, h1, r1⟩ := trodAll_cons r0
  obtain ⟨rfl, rfl, rfl⟩ := trodAll_nil r1
  obtain rfl : args = #[v0, v1] := by cases args; simp_all
  obtain ⟨rfl, rfl⟩ := trodVars_none hV
  have k0 := h0
  have lt0 : ∀ x ∈ p0, x.block < W.heap.size := by obtain ⟨m, hm⟩ := k0; exact DataW.trod_lt m _ _ _ hm
  have k1 := h1
  have lt1 : ∀ x ∈ p1, x.block < W.heap.size := by obtain ⟨m, hm⟩ := k1; exact DataW.trod_lt m _ _ _ hm
  obtain ⟨a0, rfl, rfl, rfl, w0⟩ := open_int Tryd.underlying5 (hval 0 5 v0 rfl rfl) h0
  obtain ⟨a1, rfl, rfl, rfl, w1⟩ := open_string Tryd.underlying9 (hval 1 9 v1 rfl rfl) h1
  clear hA0 hval0
  refine (walk_DigestVectors a0 a1 w0 w1 W hgs hkt).mono fun e W' ⟨he, bel⟩ => ?_
  subst he
  exact ⟨_, rfl, _, _, _, [], _, [], hW', trodAll_mk1 (shut_bool Tryd.underlying4 _), (trodAll_cons_mk (Below.trod laidOut (by kernel_rfl) (of_decide_eq_true (by kernel_rfl)) k0 bel lt0) (trodAll_cons_mk (Below.trod laidOut (by kernel_rfl) (of_decide_eq_true (by kernel_rfl)) k1 bel lt1) trodAll_mk0)), rfl, bel.frame _, fun h => by cases h⟩
theorem over : Rows.digestVectorsRow.holds Tryd.pinned (OpenSpec.ofChange Rows.digestVectorsSpec) :=
  OpenClaim.holds_of_wide 12 Tryd.f12 rfl rfl rfl rfl rfl rfl rfl ⟨rfl, rfl, rfl, rfl, rfl⟩ rfl rfl rfl rfl rfl (by kernel_rfl) Tryd.func12 (by kernel_rfl)
    (of_decide_eq_true (by kernel_rfl)) (by unfold Func.isWrapper; first | (rw [if_pos (by decide +kernel)]; kernel_rfl) | (rw [if_neg (by decide +kernel)]; exact ⟨rfl, rfl⟩))
    (fun os started H enc _ => lifted os started H enc)
/-- THE STATEMENT: DigestVectors returns true for every input, and its arguments read as they did; what the two tables hold is tied to the program's text. -/
theorem proved : Rows.DigestVectorsCardSaid := by
  unfold Rows.DigestVectorsCardSaid Rows.digestVectorsCard
  exact Claim7.holds_tied_plain_at .later [] [.data, .data] true _ false over (fun _ h => by cases h) (by kernel_rfl) (fun _ h => by cases h) digestVectors_row_tie rfl ⟨rfl, rfl⟩ (by kernel_rfl) rfl
    (fun f fn hf hfn => by
      obtain rfl : f = 12 := Option.some.inj ((show Tryd.prog.funcNamed "gouache/gouachelaw02.DigestVectors" = some 12 by kernel_rfl).symm.trans hf) |>.symm
      obtain rfl : fn = Tryd.f12 := (Option.some.inj (Tryd.func12.symm.trans hfn)).symm
      exact ⟨by kernel_rfl, fun j t ht => by
        rw [Tryd.params12] at ht
        have hm : t ∈ [5, 9] := by simpa using Array.mem_of_getElem? ht
        have hall : ([5, 9].all fun u => !Tryd.prog.wantsStandIn u) = true := by kernel_rfl
        exact (show Tryd.prog.wantsStandIn t = false by simpa using List.all_eq_true.1 hall t hm)⟩)
    (by kernel_rfl)
end digestVectors

end Go.Proofs.YtpkonkkjihbgiaaDoor
