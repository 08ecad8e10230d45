/- SelectionOutlines: for all rasters and thresholds, Outline returns what the reference returns; the law returns true for every input, and its arguments read as they did. No condition. -/
import Derived.Test.YtamgpfblhlfhaaaSo5

namespace Go.Proofs.Ytamgpfblhlfhaaa
open Go.RowKit Go.Shelf Pl
set_option linter.unusedVariables false
set_option linter.unusedSimpArgs false
set_option maxRecDepth 20000
/-- Both Outlines, at whatever threshold, return the same polygons. -/
theorem outline_both (M : List TA) (hM : MaskP M) (t : Int) (ht : -1000 ≤ t ∧ t ≤ 1000) : ∃ P : List (List Pnt), P.length ≤ 1000000 ∧ (∀ l ∈ P, l.length ≤ 1000000) ∧
    (∀ (v : Value) (w : World), RS v M w → Calls Try.prog 21 #[.agg #[v], .int .i64 t] w fun e w' => ∃ a c, e = .returned (.slice a P.length c) ∧ RPoly (.slice a P.length c) P w' ∧ Below w.heap.size w w') ∧
    (∀ (v : Value) (w : World), RS v M w → Calls Try.prog 22 #[.agg #[v], .int .i64 t] w fun e w' => ∃ a c, e = .returned (.slice a P.length c) ∧ RPoly (.slice a P.length c) P w' ∧ Below w.heap.size w w') := by
  have hn : M.length ≤ maxLen := by have := hM.len; unfold maxLen; omega
  by_cases h1 : t < 1
  · refine ⟨[], by simp, fun l h => (by cases h), fun v w h => ?_, fun v w h => ?_⟩
    · exact (P_Outline0 v M t w h hM.t hn hM.v h1).mono fun e w' ⟨he, hb⟩ => ⟨none, 0, he, RPoly.nil w', hb⟩
    · exact (R_Outline0 v t w h1).mono fun e w' ⟨he, hb⟩ => ⟨none, 0, he, RPoly.nil w', hb⟩
  · have hb := mask_bound hM
    have hbx := setG_box M (t := t) (by omega)
    have hbs := box_small (r := boundL M) (by omega)
    have hol := outl_len hbx
    have hwf : (Lit.int .i64 t).wf = true := wf_mk (by omega) (by omega)
    have hmul : ((boundL M).y1 - (boundL M).y0).toNat * ((boundL M).x1 - (boundL M).x0).toNat ≤ 200 * 200 := Nat.mul_le_mul hbs.2.2 hbs.2.1
    refine ⟨outlG (setG M t) (boundL M), by omega, fun l hl => by have := hol.2 l hl; omega, fun v w h => ?_, fun v w h => ?_⟩
    · refine (P_Outline1 v M t w h hM.t hn hM.v (by omega) hwf (by omega)).mono fun e w' ⟨v', he, hr, hb⟩ => ?_
      obtain ⟨a, c, rfl, _⟩ := hr.len
      exact ⟨a, c, he, hr, hb⟩
    · refine (R_Outline1 v M t w h hM.t hn hM.v (by omega) (by omega)).mono fun e w' ⟨v', he, hr, hb⟩ => ?_
      obtain ⟨a, c, rfl, _⟩ := hr.len
      exact ⟨a, c, he, hr, hb⟩
theorem R_SamePathsS (v v' : Value) (P : List (List Pnt)) (w : World) (h : RPoly v P w) (h' : RPoly v' P w) (hn : P.length ≤ 1000000) (hL : ∀ l ∈ P, l.length ≤ 1000000) : Calls Try.prog 20 #[v, v'] w fun e w' => e = .returned (.bool true) ∧ Below w.heap.size w w' :=
  (R_SamePaths v v' P P w h h' hn hn hL).mono fun e w' ⟨he, hb⟩ => ⟨by rw [he, decide_eq_true rfl], hb⟩
set_option maxHeartbeats 8000000 in
theorem walk_SelectionOutlines (v0 : Value) (q : List Int) (th : Int) (hw : (Lit.int .i64 th).wf = true) (w : World) (h0 : RSE inE v0 q w) (hn0 : q.length ≤ 17592186044416) (hwf : WfL q) : Calls Try.prog 4 #[v0, .int .i64 th] w fun e w' => e = .returned (.bool true) ∧ Below w.heap.size w w' := by
  have B := Below.refl w.heap.size w
  obtain ⟨a0, c0, rfl, hc0⟩ := h0.len
  obtain ⟨t, ht⟩ : ∃ t, th % 300 = t := ⟨_, rfl⟩
  obtain ⟨u, hu⟩ : ∃ u, th % 5 = u := ⟨_, rfl⟩
  have bt : 0 ≤ t ∧ t ≤ 299 := by omega
  have bu : 0 ≤ u ∧ u ≤ 4 := by omega
  have HT := Lib.hid ht
  have HU := Lib.hid hu
  have HQ := Lib.hid hn0
  have HW := Lib.hid hwf
  have HM := Lib.hid (maskG_P q)
  obtain ⟨P, hP1, hP2, hP3, hP4⟩ := outline_both (maskG q) (maskG_P q) (t - 10) (by omega)
  have HP1 := Lib.hid hP1
  have HP2 := Lib.hid hP2
  have HP3 := Lib.hid hP3
  have HP4 := Lib.hid hP4
  have HML := Lib.hid (show (maskG q).length ≤ maxLen from by have := (maskG_P q).len; unfold maxLen; omega)
  clear ht hu hn0 hwf hP1 hP2 hP3 hP4
  have HMK := Lib.hid (show ∀ W, RSE inE (.slice a0 q.length c0) q W → Calls Try.prog 19 #[.slice a0 q.length c0] W fun e w' => ∃ a c, e = .returned (.agg #[.slice a (maskG q).length c]) ∧ RS (.slice a (maskG q).length c) (maskG q) w' ∧ Below W.heap.size W w' from fun W h => R_Mask _ q W h HQ.out HW.out)
  generalize maskG q = M at *
  go_enter Try.func4, Try.ntmps4
  go_upto_region 0 with fail
  refine wp_region_lit ?_
  try simp only [List.getElem_toArray, List.getElem_cons_zero, List.getElem_cons_succ]
  refine wpList_chunk 1 (by kernel_rfl) ?_
  simp only [takS, Nat.reduceAdd]
  repeat (first | go_big_quiet_skip | (go_big_quiet_want; first | (go_big_quiet_op; go_big_quiet_on)))
  refine wpQuiet_nil ?_
  refine wpList_nil ?_
  go_upto_region 1 with fail
  refine wp_region_lit ?_
  try simp only [List.getElem_toArray, List.getElem_cons_zero, List.getElem_cons_succ]
  refine wpList_callF (by first | rfl | simp [Region.wanted, yielded]) rfl (enters_of Try.func10 (by kernel_rfl) rfl) (by simp only [List.map_toArray, List.map_cons, List.map_nil, Act.eval, Array.getD_eq_getD_getElem?, List.getElem?_toArray, List.getElem?_cons_succ, List.getElem?_cons_zero, Option.getD_some]; rfl) ?_
  refine (sanity15 _).mono ?_
  rintro e wn ⟨rfl, hbn⟩
  have hsz := B.size
  have hzn := hbn.size
  replace B := B.trans (hbn.mono B.size)
  (try first | replace h0 := h0.of_eq (hbn.block _ h0.lt) | replace h0 := h0.below hbn)
  refine ⟨_, rfl, ?_⟩
  simp only [Act.put, putS]
  refine wpList_chunk 1 (by kernel_rfl) ?_
  simp only [takS, Nat.reduceAdd]
  repeat (first | go_big_quiet_skip | (go_big_quiet_want; first | (go_big_quiet_op; go_big_quiet_on)))
  refine wpQuiet_nil ?_
  refine wpList_nil ?_
  go_upto_region 2 with fail
  refine wp_region_lit ?_
  try simp only [List.getElem_toArray, List.getElem_cons_zero, List.getElem_cons_succ]
  refine wpList_chunk 1 (by kernel_rfl) ?_
  simp only [takS, Nat.reduceAdd]
  repeat (first | go_big_quiet_skip | (go_big_quiet_want; first | (go_big_quiet_op; go_big_quiet_on)))
  refine wpQuiet_nil ?_
  refine wpList_callF (by first | rfl | simp [Region.wanted, yielded]) rfl (enters_of Try.func19 (by kernel_rfl) rfl) (by simp only [List.map_toArray, List.map_cons, List.map_nil, Act.eval, Array.getD_eq_getD_getElem?, List.getElem?_toArray, List.getElem?_cons_succ, List.getElem?_cons_zero, Option.getD_some]; rfl) ?_
  refine (HMK.out _ h0).mono ?_
  rintro e wn ⟨a1, c1, rfl, rs1, hbn⟩
  have hsz := B.size
  have hzn := hbn.size
  replace B := B.trans (hbn.mono B.size)
  (try first | replace rs1 := rs1.of_eq (hbn.block _ rs1.lt) | replace rs1 := rs1.below hbn)
  refine ⟨_, rfl, ?_⟩
  simp only [Act.put, putS]
  (refine wpList_allocBk (t := 36) rfl _ (run_alloc_R _ _ rfl) ?_; intro b_r6 wn hle hge ht hbn hzn; have hsz := B.size; replace B := B.trans (hbn.mono (by omega)); have hln := Nat.lt_of_lt_of_eq (Nat.lt_succ_self _) hzn.symm; clear hzn; (try first | (have hlt := rs1.lt; replace rs1 := rs1.of_eq (hbn.block _ (by omega))) | replace rs1 := rs1.below (hbn.mono hle)); have r6 := ht; clear ht; simp only [Act.put, putS])
  (refine wpList_storeB (t := 36) rfl _ _ rfl _ rfl _ rfl r6 (by kernel_rfl) rfl (by simp [Value.oneCell']) ?_; have r6o := r6; clear r6; intro wn ht hcn hzn; (try replace rs1 := rs1.chg r6o (by simp [rcA]) hcn); have hsz := B.size; replace hzn := Nat.le_of_eq hzn.symm; replace B := Chg.below B hcn (by omega) B.size; (try replace rs1 := rs1.of_eq (hcn.block _ rs1.lt (by omega))); have r6 := ht; clear ht; simp only [Act.put, putS])
  refine wpList_nil ?_
  go_upto_region 3 with fail
  refine wp_region_lit ?_
  try simp only [List.getElem_toArray, List.getElem_cons_zero, List.getElem_cons_succ]
  refine wpList_chunk 1 (by kernel_rfl) ?_
  simp only [takS, Nat.reduceAdd]
  repeat (first | go_big_quiet_skip | (go_big_quiet_want; first | (go_big_quiet_op; go_big_quiet_on)))
  refine wpQuiet_nil ?_
  refine wpList_callF (by first | rfl | simp [Region.wanted, yielded]) rfl (enters_of Try.func12 (by kernel_rfl) rfl) (by simp only [List.map_toArray, List.map_cons, List.map_nil, Act.eval, Array.getD_eq_getD_getElem?, List.getElem?_toArray, List.getElem?_cons_succ, List.getElem?_cons_zero, Option.getD_some]; rfl) ?_
  refine (L15_restO th 300 t (by omega) HT.out _).mono ?_
  rintro e wn ⟨rfl, hbn⟩
  have hsz := B.size
  have hzn := hbn.size
  replace B := B.trans (hbn.mono B.size)
  (try first | replace r6 := r6.of_eq (hbn.block _ r6.lt) | replace r6 := r6.below hbn)
  (try first | replace rs1 := rs1.of_eq (hbn.block _ rs1.lt) | replace rs1 := rs1.below hbn)
  refine ⟨_, rfl, ?_⟩
  simp only [Act.put, putS]
  refine wpList_chunk 2 (by kernel_rfl) ?_
  simp only [takS, Nat.reduceAdd]
  repeat (first | go_big_quiet_skip | (go_big_quiet_want; first | (go_big_quiet_op; go_big_quiet_on)))
  refine wpQuiet_nil ?_
  refine wpList_nil ?_
  go_upto_region 4 with fail
  try simp only [List.getElem_toArray, List.getElem_cons_zero, List.getElem_cons_succ]
  try have lx_r6 := r6.lt
  try have lx_rs1 := rs1.lt
  refine wp_region_RL 20 [(4, polyS P), (7, polyS P), (8, detS ?v1_8), (13, detS ?v1_13), (15, detS ?v1_15), (16, detS ?v1_16)] (by kernel_rfl) (by kernel_rfl) (by kernel_rfl) ?_
  rotate_left 4
  simp only [takS, Nat.reduceAdd]
  refine wpRL_chunk 4 (by kernel_rfl) ?_
  simp only [takS, Nat.reduceAdd]
  repeat (first | go_big_quiet_skip | (go_big_quiet_want; first | (refine quiet_loadAny (t := 36) rfl _ _ _ rfl (fun w hw => run_load_B (ov_B r6 w hw) Try.isAgg36 (by kernel_rfl)) (by rfl) ?_; simp only [Act.put, putS]; go_big_quiet_on) | (go_big_quiet_op; go_big_quiet_on)))
  refine wpQuiet_nil ?_
  refine wpRL_callB (by rfl) ?hw1_4 ?_ ?_
  case hw1_4 => kernel_rfl
  · intro wn hbn hE Kx hKx
    have hsz := B.size
    have hzn := hbn.size
    replace B := B.trans (hbn.mono B.size)
    (try first | replace r6 := r6.of_eq (hbn.block _ r6.lt) | replace r6 := r6.below hbn)
    (try first | replace rs1 := rs1.of_eq (hbn.block _ rs1.lt) | replace rs1 := rs1.below hbn)
    refine wp_callF rfl (enters_of Try.func21 (by kernel_rfl) rfl) (by simp only [List.map_toArray, List.map_cons, List.map_nil, Act.eval, Array.getD_eq_getD_getElem?, List.getElem?_toArray, List.getElem?_cons_succ, List.getElem?_cons_zero, Option.getD_some]; rfl) ?_
    refine (HP3.out _ wn rs1).mono ?_
    rintro e wm ⟨a', c', rfl, hr, hbm⟩
    exact ⟨_, rfl, hKx (a', c') wm hr hbm⟩
  rintro ⟨a18, c18⟩
  dsimp only [detS, polyS]
  simp only [Act.put, putS]
  refine wpRL_chunk 2 (by kernel_rfl) ?_
  simp only [takS, Nat.reduceAdd]
  repeat (first | go_big_quiet_skip | (go_big_quiet_want; first | (refine quiet_loadAny (t := 36) rfl _ _ _ rfl (fun w hw => run_load_B (ov_B r6 w hw) Try.isAgg36 (by kernel_rfl)) (by rfl) ?_; simp only [Act.put, putS]; go_big_quiet_on) | (go_big_quiet_op; go_big_quiet_on)))
  refine wpQuiet_nil ?_
  refine wpRL_callB (by rfl) ?hw1_7 ?_ ?_
  case hw1_7 => kernel_rfl
  · intro wn hbn hE Kx hKx
    have hsz := B.size
    have hzn := hbn.size
    replace B := B.trans (hbn.mono B.size)
    (try first | replace r6 := r6.of_eq (hbn.block _ r6.lt) | replace r6 := r6.below hbn)
    (try first | replace rs1 := rs1.of_eq (hbn.block _ rs1.lt) | replace rs1 := rs1.below hbn)
    refine wp_callF rfl (enters_of Try.func22 (by kernel_rfl) rfl) (by simp only [List.map_toArray, List.map_cons, List.map_nil, Act.eval, Array.getD_eq_getD_getElem?, List.getElem?_toArray, List.getElem?_cons_succ, List.getElem?_cons_zero, Option.getD_some]; rfl) ?_
    refine (HP4.out _ wn rs1).mono ?_
    rintro e wm ⟨a', c', rfl, hr, hbm⟩
    exact ⟨_, rfl, hKx (a', c') wm hr hbm⟩
  rintro ⟨a21, c21⟩
  dsimp only [detS, polyS]
  simp only [Act.put, putS]
  refine wpRL_callB (by rfl) ?hw1_8 ?_ ?_
  case hw1_8 => kernel_rfl
  · intro wn hbn hE Kx hKx
    have hsz := B.size
    have hzn := hbn.size
    replace B := B.trans (hbn.mono B.size)
    (try first | replace r6 := r6.of_eq (hbn.block _ r6.lt) | replace r6 := r6.below hbn)
    (try first | replace rs1 := rs1.of_eq (hbn.block _ rs1.lt) | replace rs1 := rs1.below hbn)
    have po1 := hE 4 (by kernel_rfl)
    change RPoly _ _ _ at po1
    have po2 := hE 7 (by kernel_rfl)
    change RPoly _ _ _ at po2
    refine wp_callF rfl (enters_of Try.func20 (by kernel_rfl) rfl) (by simp only [List.map_toArray, List.map_cons, List.map_nil, Act.eval, Array.getD_eq_getD_getElem?, List.getElem?_toArray, List.getElem?_cons_succ, List.getElem?_cons_zero, Option.getD_some]; rfl) ?_
    refine (R_SamePathsS _ _ P wn po1 po2 HP1.out HP2.out).mono ?_
    rintro e wm ⟨rfl, hbm⟩
    refine ⟨_, rfl, ?_⟩
    have hz := hKx () wm trivial hbm
    dsimp only [detS] at hz
    exact hz
  rintro ⟨⟩
  dsimp only [detS]
  simp only [Act.put, putS]
  refine wpRL_chunk 4 (by kernel_rfl) ?_
  simp only [takS, Nat.reduceAdd]
  repeat (first | go_big_quiet_skip | (go_big_quiet_want; first | (refine quiet_loadAny (t := 36) rfl _ _ _ rfl (fun w hw => run_load_B (ov_B r6 w hw) Try.isAgg36 (by kernel_rfl)) (by rfl) ?_; simp only [Act.put, putS]; go_big_quiet_on) | (go_big_quiet_op; go_big_quiet_on)))
  refine wpQuiet_nil ?_
  refine wpRL_callB (by rfl) ?hw1_13 ?_ ?_
  case hw1_13 => kernel_rfl
  · intro wn hbn hE Kx hKx
    have hsz := B.size
    have hzn := hbn.size
    replace B := B.trans (hbn.mono B.size)
    (try first | replace r6 := r6.of_eq (hbn.block _ r6.lt) | replace r6 := r6.below hbn)
    (try first | replace rs1 := rs1.of_eq (hbn.block _ rs1.lt) | replace rs1 := rs1.below hbn)
    refine wp_callF rfl (enters_of Try.func12 (by kernel_rfl) rfl) (by simp only [List.map_toArray, List.map_cons, List.map_nil, Act.eval, Array.getD_eq_getD_getElem?, List.getElem?_toArray, List.getElem?_cons_succ, List.getElem?_cons_zero, Option.getD_some]; rfl) ?_
    refine (L15_restO th 5 u (by omega) HU.out wn).mono ?_
    rintro e wm ⟨rfl, hbm⟩
    refine ⟨_, rfl, ?_⟩
    have hz := hKx () wm trivial hbm
    dsimp only [detS] at hz
    exact hz
  rintro ⟨⟩
  dsimp only [detS]
  simp only [Act.put, putS]
  refine wpRL_chunk 1 (by kernel_rfl) ?_
  simp only [takS, Nat.reduceAdd]
  repeat (first | go_big_quiet_skip | (go_big_quiet_want; first | (go_big_quiet_op; go_big_quiet_on)))
  refine wpQuiet_nil ?_
  refine wpRL_callB (by rfl) ?hw1_15 ?_ ?_
  case hw1_15 => kernel_rfl
  · intro wn hbn hE Kx hKx
    have hsz := B.size
    have hzn := hbn.size
    replace B := B.trans (hbn.mono B.size)
    (try first | replace r6 := r6.of_eq (hbn.block _ r6.lt) | replace r6 := r6.below hbn)
    (try first | replace rs1 := rs1.of_eq (hbn.block _ rs1.lt) | replace rs1 := rs1.below hbn)
    refine wp_callF rfl (enters_of Try.func21 (by kernel_rfl) rfl) (by simp only [List.map_toArray, List.map_cons, List.map_nil, Act.eval, Array.getD_eq_getD_getElem?, List.getElem?_toArray, List.getElem?_cons_succ, List.getElem?_cons_zero, Option.getD_some]; rfl) ?_
    refine (P_Outline0 _ M (-u) wn rs1 HM.out.t HML.out HM.out.v (by omega)).mono ?_
    rintro e wm ⟨rfl, hbm⟩
    refine ⟨_, rfl, ?_⟩
    have hz := hKx () wm trivial hbm
    dsimp only [detS] at hz
    exact hz
  rintro ⟨⟩
  dsimp only [detS]
  simp only [Act.put, putS]
  refine wpRL_callB (by rfl) ?hw1_16 ?_ ?_
  case hw1_16 => kernel_rfl
  · intro wn hbn hE Kx hKx
    have hsz := B.size
    have hzn := hbn.size
    replace B := B.trans (hbn.mono B.size)
    (try first | replace r6 := r6.of_eq (hbn.block _ r6.lt) | replace r6 := r6.below hbn)
    (try first | replace rs1 := rs1.of_eq (hbn.block _ rs1.lt) | replace rs1 := rs1.below hbn)
    refine wp_lenS rfl Try.underlying39 rfl ?_
    exact hKx () _ trivial (Below.refl _ _)
  rintro ⟨⟩
  dsimp only [detS]
  simp only [Act.put, putS]
  refine wpRL_chunk 3 (by kernel_rfl) ?_
  simp only [takS, Nat.reduceAdd]
  repeat (first | go_big_quiet_skip | (go_big_quiet_want; first | (go_big_quiet_op; go_big_quiet_on)))
  refine wpQuiet_nil ?_
  refine wpRL_nil ?_
  intro wn hbn hE
  have hsz := B.size
  have hzn := hbn.size
  replace B := B.trans (hbn.mono B.size)
  (try first | replace r6 := r6.of_eq (hbn.block _ r6.lt) | replace r6 := r6.below hbn)
  (try first | replace rs1 := rs1.of_eq (hbn.block _ rs1.lt) | replace rs1 := rs1.below hbn)
  have po1 := hE 4
  change RPoly _ _ _ at po1
  have po2 := hE 7
  change RPoly _ _ _ at po2
  clear hE
  try simp only [List.drop_succ_cons, List.drop_zero]
  refine NoPan.normal ?_
  go_wp2
  go_ret
  exact ⟨rfl, B⟩
namespace selectionOutlines
open Go.ChangeShapes Go.WideShapes Go.ChangeAt Go.RowKit
open Go.ChangeMaps (open_string shut_string)
set_option maxRecDepth 100000 in
theorem lifted (os : Os) (started : os.Started) (H : Type) (enc : TypeId × Value → H) :
    ReturnsInHanded {} Try.checked os 4 .any (Rows.selectionOutlinesSpec.pre6 enc Try.prog Try.f4 Rows.selectionOutlinesRow.domain false) (Rows.selectionOutlinesSpec.post enc Try.prog Try.f4 false true false false) := by
  refine returnsInHanded_of_change_sized (C := Try.checked) own started (by kernel_rfl) Try.func4
    (ChangeSpec.witness6 (enc := enc) (C := Try.checked) false ⟨#[], #[.slice none 0 0, .int .i64 0], []⟩ 8 (by kernel_rfl) (by kernel_rfl) (by kernel_rfl) (by kernel_rfl)) ?_
  intro W base args ds gs before hval0 hW hcnd hsz0 _
  have hval : ∀ (j : Nat) t v, Try.f4.params[j]? = some t → args[j]? = some v → Value.okWide Try.prog W .any base t v := hval0
  have hW' := hW
  obtain ⟨p, q, hA0, hV, rfl, hfz, hnd⟩ := hW
  have hA : DataW.TrodAll enc Try.prog W 0 (fun _ => true) true Try.f4.params.toList args.toList ds p := hA0
  rw [Try.params4] at hA hval hsz0
  obtain ⟨v0, vs0, d0, ds0, p0, q0, hargs, rfl, rfl, h0, r0⟩ := trodAll_cons hA
  obtain ⟨v1, vs1, d1, ds1, p1, q1, rfl, rfl, rfl, h1, r1⟩ := trodAll_cons r0
  obtain ⟨rfl, rfl, rfl⟩ := trodAll_nil r1
  obtain rfl : args = #[v0, v1] := by cases args; simp_all
  obtain ⟨rfl, rfl⟩ := trodVars_none hV
  have hwt0 : ∀ n ∈ DataW.weights Try.prog 23 d0, n ≤ reachBytes := fun n hn => by simpa using List.all_eq_true.1 hsz0 n (DataW.weights_mem_each (j := 0) rfl rfl n hn)
  have k0 := h0
  have lt0 : ∀ x ∈ p0, x.block < W.heap.size := by obtain ⟨m, hm⟩ := k0; exact DataW.trod_lt m _ _ _ hm
  have k1 := h1
  have lt1 : ∀ x ∈ p1, x.block < W.heap.size := by obtain ⟨m, hm⟩ := k1; exact DataW.trod_lt m _ _ _ hm
  obtain ⟨L0, hL0, hLn0, hLw0⟩ := open_intsW (hval 0 23 v0 rfl rfl) h0 hwt0
  obtain ⟨a1, rfl, rfl, rfl, w1⟩ := open_int Try.underlying3 (hval 1 3 v1 rfl rfl) h1
  clear hA0 hval0
  refine (walk_SelectionOutlines v0 L0 a1  w1 W hL0 hLn0 hLw0).mono fun e W' ⟨he, bel⟩ => ?_
  subst he
  exact ⟨_, rfl, _, _, _, [], _, [], hW', trodAll_mk1 (shut_bool Try.underlying4 _), (trodAll_cons_mk (Below.trod laidOut (by kernel_rfl) (of_decide_eq_true (by kernel_rfl)) k0 bel lt0) (trodAll_cons_mk (Below.trod laidOut (by kernel_rfl) (of_decide_eq_true (by kernel_rfl)) k1 bel lt1) trodAll_mk0)), rfl, bel.frame _, fun h => by cases h⟩
theorem over : Rows.selectionOutlinesRow.holds Try.pinned (OpenSpec.ofChange Rows.selectionOutlinesSpec) :=
  OpenClaim.holds_of_wide 4 Try.f4 rfl rfl rfl rfl rfl rfl rfl ⟨rfl, rfl, rfl, rfl, rfl⟩ rfl rfl rfl rfl rfl (by kernel_rfl) Try.func4 (by kernel_rfl)
    (of_decide_eq_true (by kernel_rfl)) (by unfold Func.isWrapper; first | (rw [if_pos (by decide +kernel)]; kernel_rfl) | (rw [if_neg (by decide +kernel)]; exact ⟨rfl, rfl⟩))
    (fun os started H enc _ => lifted os started H enc)
/-- THE STATEMENT: SelectionOutlines returns true for every input, and its arguments read as they did. -/
theorem proved : Rows.SelectionOutlinesSaid := over
end selectionOutlines
end Go.Proofs.Ytamgpfblhlfhaaa
