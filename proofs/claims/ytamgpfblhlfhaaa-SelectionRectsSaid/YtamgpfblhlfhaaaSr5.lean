/- SelectionRects: for all rectangles, the coverage by the polygon of a rectangle is 255 at its pixels and 0 elsewhere, in either orientation, and Fill paints exactly the rectangle; the law returns true for every input, and its arguments read as they did. No condition. -/
import Derived.Test.YtamgpfblhlfhaaaSr4

/- Contract of painted: a rectangle's pixels by a function value. -/
namespace Go.Proofs.Ytamgpfblhlfhaaa
open Go.RowKit Go.Shelf Pl
set_option linter.unusedVariables false
set_option linter.unusedSimpArgs false
set_option maxRecDepth 20000
def bsP1 (n : Nat) (t : TypeId) (cs : Array Value) : NSpec := ⟨Nat, ⟨0⟩, fun b => .slice (some ⟨b, 0, none⟩) 1 1, fun b w => n ≤ b ∧ AtB t w b cs, fun _ _ _ hb h => ⟨h.1, h.2.of_eq (hb.block _ h.2.lt)⟩⟩
def paintK (c : Rc) (F : Int → Int → Px) (k : Nat) : List Px := (List.range k).map fun j => F (pxX c j) (pxY c j)
theorem paintK_len (c : Rc) (F : Int → Int → Px) (k : Nat) : (paintK c F k).length = k := by unfold paintK; rw [List.length_map, List.length_range]
theorem paintK_snoc (c : Rc) (F : Int → Int → Px) (k : Nat) : paintK c F (k + 1) = paintK c F k ++ [F (pxX c k) (pxY c k)] := by
  unfold paintK
  rw [List.range_succ, List.map_append]
  rfl
theorem paintK_all (c : Rc) (F : Int → Int → Px) : paintK c F (areaN c) = paintL c F := rfl
/-- One more pixel, told by its row and its column. -/
theorem paintK_at {c : Rc} (hf : Fits c) (F : Int → Int → Px) {i j : Nat} (hj : (j : Int) < c.x1 - c.x0) (hi : (i : Int) < c.y1 - c.y0) : i * widN c + j < areaN c ∧ paintK c F (i * widN c + (j + 1)) = paintK c F (i * widN c + j) ++ [F (c.x0 + j) (c.y0 + i)] := by
  obtain ⟨k, e, hk, ex, ey⟩ := px_xy hf hj hi
  have hw : c.x1 - c.x0 = (widN c : Int) := by unfold widN; have := hf.h1; omega
  have ek : k = i * widN c + j := by
    rw [hw] at e
    omega
  subst ek
  refine ⟨hk, ?_⟩
  rw [← Nat.add_assoc, paintK_snoc, ex, ey]
set_option maxHeartbeats 4000000 in
theorem P_painted0 (fv : Value) (c : Rc) (w : World) (hem : emptyR c = true) : Calls Try.prog 63 #[.agg (rcA c), fv] w fun e w' => e = .returned (.tuple #[.agg #[.slice none 0 0], .int .i64 0]) ∧ Below w.heap.size w w' := by
  have B := Below.refl w.heap.size w
  go_enter Try.func63, Try.ntmps63
  go_upto_region 0 with fail
  refine wp_region_lit ?_
  try simp only [gelS]
  (refine wpList_boxB (t := 31) rfl _ rfl _ rfl ?_; intro b_c2 wn hle hge ht hbn hzn; have hsz := B.size; replace B := B.trans (hbn.mono (by omega)); have hln := Nat.lt_of_lt_of_eq (Nat.lt_succ_self _) hzn.symm; clear hzn; have c2 := ht; clear ht; simp only [putS])
  (refine wpList_allocBk (t := 36) rfl _ (run_alloc_R _ _ rfl) ?_; intro b_r4 wn hle hge ht hbn hzn; have hsz := B.size; replace B := B.trans (hbn.mono (by omega)); have hln := Nat.lt_of_lt_of_eq (Nat.lt_succ_self _) hzn.symm; clear hzn; (try have hlt := c2.lt); (try replace c2 := c2.below (hbn.mono hle)); have r4 := ht; clear ht; simp only [putS])
  refine wpList_chunk 1 (by kernel_rfl) ?_
  simp only [takS, Nat.reduceAdd]
  repeat (first | go_big_quiet_skip | (go_big_quiet_want; first | (go_big_quiet_op; go_big_quiet_on)))
  refine wpQuiet_nil ?_
  refine wpList_nil ?_
  have k1 : b_c2 < b_r4 := by have := c2.lt; omega
  go_upto_region 1 with fail
  refine wp_region_lit ?_
  try simp only [gelS]
  refine wpList_chunk 1 (by kernel_rfl) ?_
  simp only [takS, Nat.reduceAdd]
  repeat (first | go_big_quiet_skip | (go_big_quiet_want; first | (refine quiet_loadAny (t := 31) rfl _ _ _ rfl (fun w hw => run_load_B (ov_B c2 w hw) Try.isAgg31 (by kernel_rfl)) (by rfl) ?_; simp only [putS]; go_big_quiet_on) | (go_big_quiet_op; go_big_quiet_on)))
  refine wpQuiet_nil ?_
  refine wpList_callF (by first | rfl | simp [Region.wanted, yielded]) rfl (enters_of Try.func101 (by kernel_rfl) rfl) (by simp only [List.map_toArray, List.map_cons, List.map_nil, Act.eval, Array.getD_eq_getD_getElem?, List.getElem?_toArray, List.getElem?_cons_succ, List.getElem?_cons_zero, Option.getD_some]; rfl) ?_
  refine (P_EmptyB c true _ hem).mono ?_
  rintro e wn ⟨rfl, hbn⟩
  have hsz := B.size
  have hzn := hbn.size
  replace B := B.trans (hbn.mono B.size)
  (try replace c2 := c2.below hbn)
  (try replace r4 := r4.below hbn)
  refine ⟨_, rfl, ?_⟩
  simp only [putS]
  refine wpList_nil ?_
  go_upto_region 2 with fail
  refine wp_region_lit ?_
  try simp only [gelS]
  refine wpList_chunk 1 (by kernel_rfl) ?_
  simp only [takS, Nat.reduceAdd]
  repeat (first | go_big_quiet_skip | (go_big_quiet_want; first | (go_big_quiet_op; go_big_quiet_on)))
  refine wpQuiet_nil ?_
  (refine wpList_storeB (t := 36) rfl _ _ rfl _ rfl _ rfl r4 (by kernel_rfl) rfl (by simp [rcA, imgC, Value.oneCell']) ?_; clear r4; intro wn ht hcn hzn; have hsz := B.size; replace hzn := Nat.le_of_eq hzn.symm; replace B := Chg.below B hcn (by omega) B.size; (try replace c2 := c2.of_eq (hcn.block _ c2.lt (by omega))); have r4 := ht; clear ht; simp only [putS])
  refine wpList_chunk 1 (by kernel_rfl) ?_
  simp only [takS, Nat.reduceAdd]
  repeat (first | go_big_quiet_skip | (go_big_quiet_want; first | (go_big_quiet_op; go_big_quiet_on)))
  refine wpQuiet_nil ?_
  refine wpList_nil ?_
  first | (refine bodyPost_ret (results_B2 (t := 36) rfl _ _ (b_r4) rfl _ rfl r4 Try.isAgg36 (by kernel_rfl)) rfl ?_) | (go_step; refine bodyPost_ret (results_B2 (t := 36) rfl _ _ (b_r4) rfl _ rfl r4 Try.isAgg36 (by kernel_rfl)) rfl ?_) | (go_step; go_step; refine bodyPost_ret (results_B2 (t := 36) rfl _ _ (b_r4) rfl _ rfl r4 Try.isAgg36 (by kernel_rfl)) rfl ?_) | (go_step; go_step; go_step; refine bodyPost_ret (results_B2 (t := 36) rfl _ _ (b_r4) rfl _ rfl r4 Try.isAgg36 (by kernel_rfl)) rfl ?_) | (go_step; go_step; go_step; go_step; refine bodyPost_ret (results_B2 (t := 36) rfl _ _ (b_r4) rfl _ rfl r4 Try.isAgg36 (by kernel_rfl)) rfl ?_) | (go_step; go_step; go_step; go_step; go_step; refine bodyPost_ret (results_B2 (t := 36) rfl _ _ (b_r4) rfl _ rfl r4 Try.isAgg36 (by kernel_rfl)) rfl ?_)
  exact ⟨rfl, B⟩
set_option maxHeartbeats 8000000 in
theorem P_painted1 (g : FuncId) (lb : Array Value) (eg : Go.Proofs.Enters Try.prog g) (c : Rc) (F : Int → Int → Px) (w : World) (hE : fitsE c = 0) (hF : ∀ x y, (F x y).ok) (hf : ∀ W, Below w.heap.size w W → ∀ x y, hasR c x y = true → Calls Try.prog g (#[.int .i64 x, .int .i64 y] ++ lb) W fun e w' => e = .returned (Px.v (F x y)) ∧ Below W.heap.size W w') : Calls Try.prog 63 #[.agg (rcA c), .func (.func g) #[] lb] w fun e w' => ∃ a cp, e = .returned (.tuple #[.agg #[.slice a (pstR c (paintL c F) []).length cp], .int .i64 (pstE c (paintL c F) [])]) ∧ RS (.slice a (pstR c (paintL c F) []).length cp) (pstR c (paintL c F) []) w' ∧ Below w.heap.size w w' := by
  have B := Below.refl w.heap.size w
  have HE := Lib.hid hE
  have HF := Lib.hid hF
  have HC := Lib.hid hf
  have hfit := fitsE_zero hE
  obtain ⟨f1, f2, f3, f4, f5, f6, f7, f8⟩ := hfit
  have HFit := Lib.hid (fitsE_zero hE)
  have hem : emptyR c = false := by rw [← Bool.not_eq_true, emptyR_iff]; omega
  have HA := Lib.hid (area_bd (fitsE_zero hE))
  have HAW := Lib.hid (area_wid (fitsE_zero hE)).1
  have hwid : (widN c : Int) = c.x1 - c.x0 := by unfold widN; omega
  clear hE hF hf
  obtain ⟨Wd, hWd⟩ : ∃ W, widN c = W := ⟨_, rfl⟩
  rw [hWd] at hwid
  have HWD := Lib.hid hWd
  clear hWd
  go_enter Try.func63, Try.ntmps63
  go_upto_region 0 with fail
  refine wp_region_lit ?_
  try simp only [gelS]
  (refine wpList_boxB (t := 31) rfl _ rfl _ rfl ?_; intro b_c2 wn hle hge ht hbn hzn; have hsz := B.size; replace B := B.trans (hbn.mono (by omega)); have hln := Nat.lt_of_lt_of_eq (Nat.lt_succ_self _) hzn.symm; clear hzn; have c2 := ht; clear ht; simp only [putS])
  (refine wpList_allocBk (t := 36) rfl _ (run_alloc_R _ _ rfl) ?_; intro b_r4 wn hle hge ht hbn hzn; have hsz := B.size; replace B := B.trans (hbn.mono (by omega)); have hln := Nat.lt_of_lt_of_eq (Nat.lt_succ_self _) hzn.symm; clear hzn; (try have hlt := c2.lt); (try replace c2 := c2.below (hbn.mono hle)); have r4 := ht; clear ht; simp only [putS])
  refine wpList_chunk 1 (by kernel_rfl) ?_
  simp only [takS, Nat.reduceAdd]
  repeat (first | go_big_quiet_skip | (go_big_quiet_want; first | (go_big_quiet_op; go_big_quiet_on)))
  refine wpQuiet_nil ?_
  refine wpList_nil ?_
  have k1 : w.heap.size ≤ b_c2 := by omega
  have k2 : b_c2 < b_r4 := by have := c2.lt; omega
  go_upto_region 1 with fail
  refine wp_region_lit ?_
  try simp only [gelS]
  refine wpList_chunk 1 (by kernel_rfl) ?_
  simp only [takS, Nat.reduceAdd]
  repeat (first | go_big_quiet_skip | (go_big_quiet_want; first | (refine quiet_loadAny (t := 31) rfl _ _ _ rfl (fun w hw => run_load_B (ov_B c2 w hw) Try.isAgg31 (by kernel_rfl)) (by rfl) ?_; simp only [putS]; go_big_quiet_on) | (go_big_quiet_op; go_big_quiet_on)))
  refine wpQuiet_nil ?_
  refine wpList_callF (by first | rfl | simp [Region.wanted, yielded]) rfl (enters_of Try.func101 (by kernel_rfl) rfl) (by simp only [List.map_toArray, List.map_cons, List.map_nil, Act.eval, Array.getD_eq_getD_getElem?, List.getElem?_toArray, List.getElem?_cons_succ, List.getElem?_cons_zero, Option.getD_some]; rfl) ?_
  refine (P_EmptyB c false _ hem).mono ?_
  rintro e wn ⟨rfl, hbn⟩
  have hsz := B.size
  have hzn := hbn.size
  replace B := B.trans (hbn.mono B.size)
  (try replace c2 := c2.below hbn)
  (try replace r4 := r4.below hbn)
  refine ⟨_, rfl, ?_⟩
  simp only [putS]
  refine wpList_nil ?_
  go_upto_region 3 with fail
  refine wp_region_lit ?_
  try simp only [gelS]
  refine wpList_chunk 2 (by kernel_rfl) ?_
  simp only [takS, Nat.reduceAdd]
  repeat (first | go_big_quiet_skip | (go_big_quiet_want; first | (refine quiet_loadAny (t := 31) rfl _ _ _ rfl (fun w hw => run_load_B (ov_B c2 w hw) Try.isAgg31 (by kernel_rfl)) (by rfl) ?_; simp only [putS]; go_big_quiet_on) | (refine quiet_buildIm rfl c rfl ?_; simp only [putS]; go_big_quiet_on) | (go_big_quiet_op; go_big_quiet_on)))
  refine wpQuiet_nil ?_
  (refine wpList_allocBk (t := 134) rfl _ (run_alloc_Im _ _ rfl) ?_; intro b_i6 wn hle hge ht hbn hzn; have hsz := B.size; replace B := B.trans (hbn.mono (by omega)); have hln := Nat.lt_of_lt_of_eq (Nat.lt_succ_self _) hzn.symm; clear hzn; (try have hlt := c2.lt); (try replace c2 := c2.below (hbn.mono hle)); (try have hlt := r4.lt); (try replace r4 := r4.below (hbn.mono hle)); have i6 := ht; clear ht; simp only [putS])
  (refine wpList_storeB (t := 134) rfl _ _ rfl _ rfl _ rfl i6 (by kernel_rfl) rfl (by simp [rcA, imgC, Value.oneCell']) ?_; clear i6; intro wn ht hcn hzn; have hsz := B.size; replace hzn := Nat.le_of_eq hzn.symm; replace B := Chg.below B hcn (by omega) B.size; (try replace c2 := c2.of_eq (hcn.block _ c2.lt (by omega))); (try replace r4 := r4.of_eq (hcn.block _ r4.lt (by omega))); have i6 := ht; clear ht; simp only [putS])
  refine wpList_nil ?_
  replace i6 : AtB 134 _ b_i6 (imgC c (.slice none 0 0)) := i6
  have k3 : b_r4 < b_i6 := by have := r4.lt; omega
  have k4 := i6.lt
  obtain ⟨b0, hb0⟩ : ∃ n, n = wn.heap.size := ⟨_, rfl⟩
  have k5 : b_i6 < b0 := by omega
  have k6 : b0 ≤ wn.heap.size := by omega
  have od : OwnE pxE b0 (.slice none 0 0) [] wn := OwnE.nil b0 wn
  clear hb0 k4
  go_upto_region 4 with fail
  refine wp_region_lit ?_
  try simp only [gelS]
  refine wpList_chunk 3 (by kernel_rfl) ?_
  simp only [takS, Nat.reduceAdd]
  repeat (first | go_big_quiet_skip | (go_big_quiet_want; first | (refine quiet_loadAny (t := 3) rfl _ _ _ rfl (fun w hw => run_load_int ((ov_B c2 w hw).cellL 0 rfl)) (by rfl) ?_; simp only [putS]; go_big_quiet_on) | (refine quiet_loadAny (t := 3) rfl _ _ _ rfl (fun w hw => run_load_int ((ov_B c2 w hw).cellL 1 rfl)) (by rfl) ?_; simp only [putS]; go_big_quiet_on) | (refine quiet_loadAny (t := 3) rfl _ _ _ rfl (fun w hw => run_load_int ((ov_B c2 w hw).cellL 2 rfl)) (by rfl) ?_; simp only [putS]; go_big_quiet_on) | (refine quiet_loadAny (t := 3) rfl _ _ _ rfl (fun w hw => run_load_int ((ov_B c2 w hw).cellL 3 rfl)) (by rfl) ?_; simp only [putS]; go_big_quiet_on) | (go_big_quiet_op; go_big_quiet_on)))
  refine wpQuiet_nil ?_
  refine wpList_nil ?_
  go_wp2
  go_loopw [7, 8] (fun yv _ wr => ∃ (i cp : Nat) (ad : Option Addr) (P : List Px), (i : Int) ≤ c.y1 - c.y0 ∧ yv = .int .i64 (c.y0 + (i : Int)) ∧ Hid (paintK c F (i * Wd) = P) ∧ Below w.heap.size w wr ∧ b0 ≤ wr.heap.size ∧ AtB 31 wr b_c2 (rcA c) ∧ AtB 36 wr b_r4 #[.slice none 0 0] ∧ AtB 134 wr b_i6 (imgC c (.slice ad P.length cp)) ∧ OwnE pxE b0 (.slice ad P.length cp) P wr) (fun yv _ _ => (c.y1 - intOf yv).toNat)
  case atStart => exact ⟨0, 0, none, [], by omega, by rw [Int.natCast_zero, Int.add_zero], Lib.hid (by rw [Nat.zero_mul]; rfl), B, k6, c2, r4, i6, od⟩
  case round =>
    clear B c2 r4 i6 od k6
    obtain ⟨i, cp, ad, P, hi, rfl, HP, B, k6, c2, r4, i6, od⟩ := hrel
    by_cases hi1 : (i : Int) < c.y1 - c.y0
    · have q1 : decide (c.y0 + (i : Int) < c.y1) = true := decide_eq_true (by omega)
      go_upto_region 5 with fail
      refine wp_region_lit ?_
      try simp only [gelS]
      refine wpList_chunk 4 (by kernel_rfl) ?_
      simp only [takS, Nat.reduceAdd]
      repeat (first | go_big_quiet_skip | (go_big_quiet_want; first | (refine quiet_loadAny (t := 3) rfl _ _ _ rfl (fun w hw => run_load_int ((ov_B c2 w hw).cellL 0 rfl)) (by rfl) ?_; simp only [putS]; go_big_quiet_on) | (refine quiet_loadAny (t := 3) rfl _ _ _ rfl (fun w hw => run_load_int ((ov_B c2 w hw).cellL 1 rfl)) (by rfl) ?_; simp only [putS]; go_big_quiet_on) | (refine quiet_loadAny (t := 3) rfl _ _ _ rfl (fun w hw => run_load_int ((ov_B c2 w hw).cellL 2 rfl)) (by rfl) ?_; simp only [putS]; go_big_quiet_on) | (refine quiet_loadAny (t := 3) rfl _ _ _ rfl (fun w hw => run_load_int ((ov_B c2 w hw).cellL 3 rfl)) (by rfl) ?_; simp only [putS]; go_big_quiet_on) | (go_big_quiet_op; go_big_quiet_on)))
      refine wpQuiet_nil ?_
      refine wpList_nil ?_
      go_upto_region 7 with fail
      refine wp_region_lit ?_
      try simp only [gelS]
      refine wpList_chunk 3 (by kernel_rfl) ?_
      simp only [takS, Nat.reduceAdd]
      repeat (first | go_big_quiet_skip | (go_big_quiet_want; first | (refine quiet_loadAny (t := 3) rfl _ _ _ rfl (fun w hw => run_load_int ((ov_B c2 w hw).cellL 0 rfl)) (by rfl) ?_; simp only [putS]; go_big_quiet_on) | (refine quiet_loadAny (t := 3) rfl _ _ _ rfl (fun w hw => run_load_int ((ov_B c2 w hw).cellL 1 rfl)) (by rfl) ?_; simp only [putS]; go_big_quiet_on) | (refine quiet_loadAny (t := 3) rfl _ _ _ rfl (fun w hw => run_load_int ((ov_B c2 w hw).cellL 2 rfl)) (by rfl) ?_; simp only [putS]; go_big_quiet_on) | (refine quiet_loadAny (t := 3) rfl _ _ _ rfl (fun w hw => run_load_int ((ov_B c2 w hw).cellL 3 rfl)) (by rfl) ?_; simp only [putS]; go_big_quiet_on) | (go_big_quiet_op; go_big_quiet_on)))
      refine wpQuiet_nil ?_
      refine wpList_nil ?_
      go_wp2
      go_loopw [8] (fun xv wr => ∃ (j cp : Nat) (ad : Option Addr) (P : List Px), (j : Int) ≤ c.x1 - c.x0 ∧ xv = .int .i64 (c.x0 + (j : Int)) ∧ Hid (paintK c F (i * Wd + j) = P) ∧ Below w.heap.size w wr ∧ b0 ≤ wr.heap.size ∧ AtB 31 wr b_c2 (rcA c) ∧ AtB 36 wr b_r4 #[.slice none 0 0] ∧ AtB 134 wr b_i6 (imgC c (.slice ad P.length cp)) ∧ OwnE pxE b0 (.slice ad P.length cp) P wr) (fun xv _ => (c.x1 - intOf xv).toNat)
      case atStart => exact ⟨0, cp, ad, P, by omega, by rw [Int.natCast_zero, Int.add_zero], Lib.hid HP.out, B, k6, c2, r4, i6, od⟩
      case round =>
        clear B c2 r4 i6 od k6
        obtain ⟨j, cp2, ad2, P2, hj, rfl, HP2, B, k6, c2, r4, i6, od⟩ := hrel
        by_cases hj1 : (j : Int) < c.x1 - c.x0
        · have q2 : decide (c.x0 + (j : Int) < c.x1) = true := decide_eq_true (by omega)
          have hat := paintK_at HFit.out F (i := i) (j := j) hj1 hi1
          rw [HWD.out, HP2.out] at hat
          have hlen : P2.length < 65536 := by rw [← HP2.out, paintK_len]; have := HA.out; omega
          have HST := Lib.hid hat.2
          clear hat
          have HX := Lib.hid (fun W hW => HC.out W hW (c.x0 + (j : Int)) (c.y0 + (i : Int)) ((hasR_iff _ _ _).2 (by omega)))
          have okp := HF.out (c.x0 + (j : Int)) (c.y0 + (i : Int))
          generalize F (c.x0 + (j : Int)) (c.y0 + (i : Int)) = pp at *
          go_upto_region 8 with fail
          refine wp_region_lit ?_
          try simp only [gelS]
          refine wpList_chunk 4 (by kernel_rfl) ?_
          simp only [takS, Nat.reduceAdd]
          repeat (first | go_big_quiet_skip | (go_big_quiet_want; first | (refine quiet_loadAny (t := 3) rfl _ _ _ rfl (fun w hw => run_load_int ((ov_B c2 w hw).cellL 0 rfl)) (by rfl) ?_; simp only [putS]; go_big_quiet_on) | (refine quiet_loadAny (t := 3) rfl _ _ _ rfl (fun w hw => run_load_int ((ov_B c2 w hw).cellL 1 rfl)) (by rfl) ?_; simp only [putS]; go_big_quiet_on) | (refine quiet_loadAny (t := 3) rfl _ _ _ rfl (fun w hw => run_load_int ((ov_B c2 w hw).cellL 2 rfl)) (by rfl) ?_; simp only [putS]; go_big_quiet_on) | (refine quiet_loadAny (t := 3) rfl _ _ _ rfl (fun w hw => run_load_int ((ov_B c2 w hw).cellL 3 rfl)) (by rfl) ?_; simp only [putS]; go_big_quiet_on) | (go_big_quiet_op; go_big_quiet_on)))
          refine wpQuiet_nil ?_
          refine wpList_nil ?_
          go_upto_region 10 with fail
          try simp only [gelS]
          try have lx_c2 := c2.lt
          try have lx_r4 := r4.lt
          try have lx_i6 := i6.lt
          try have lx_od := od.lt
          refine wp_region_RL 7 [(5, detS ?v1_5), (6, bsP1 (wr.heap.size) 59 (pxE.enc pp))] (by kernel_rfl) (by kernel_rfl) (by kernel_rfl) ?_
          rotate_left 1
          simp only [takS, Nat.reduceAdd]
          refine wpRL_chunk 5 (by kernel_rfl) ?_
          simp only [takS, Nat.reduceAdd]
          repeat (first | go_big_quiet_skip | (go_big_quiet_want; first | (refine quiet_loadAny (t := 132) rfl _ _ _ rfl (fun w hw => run_load_slp (imgC_u (ov_B i6 w hw))) (by first | rfl | omega) ?_; simp only [putS]; go_big_quiet_on) | (go_big_quiet_op; go_big_quiet_on)))
          refine wpQuiet_nil ?_
          refine wpRL_callB (by rfl) (by first | rfl | simp [Region.wanted, yielded]) ?_ ?_
          · intro wn hbn hE Kx hKx
            have hsz := B.size
            have hzn := hbn.size
            replace B := B.trans (hbn.mono B.size)
            (try replace c2 := c2.below hbn)
            (try replace r4 := r4.below hbn)
            (try replace i6 := i6.below hbn)
            (try replace od := od.below hbn)
            refine wp_callV rfl (by simp only [List.map_toArray, List.map_cons, List.map_nil, Act.eval, Array.getD_eq_getD_getElem?, List.getElem?_toArray, List.getElem?_cons_succ, List.getElem?_cons_zero, Option.getD_some]; rfl) eg (by simp only [List.map_toArray, List.map_cons, List.map_nil, Act.eval, Array.getD_eq_getD_getElem?, List.getElem?_toArray, List.getElem?_cons_succ, List.getElem?_cons_zero, Option.getD_some]; rfl) ?_
            refine (HX.out wn B).mono ?_
            rintro e wm ⟨rfl, hbm⟩
            refine ⟨_, rfl, ?_⟩
            have hz := hKx () wm trivial hbm
            dsimp only [detS] at hz
            exact hz
          rintro ⟨⟩
          dsimp only [detS]
          simp only [putS]
          refine wpRL_callB (by rfl) (by first | rfl | simp [Region.wanted, yielded]) ?_ ?_
          · intro wn hbn hE Kx hKx
            have hsz := B.size
            have hzn := hbn.size
            replace B := B.trans (hbn.mono B.size)
            (try replace c2 := c2.below hbn)
            (try replace r4 := r4.below hbn)
            (try replace i6 := i6.below hbn)
            (try replace od := od.below hbn)
            refine owp_bs1E (E := pxE) _ rfl pp rfl (by omega) ?_
            intro b wm h1 h2 ht hbm hzm
            exact hKx b wm ⟨Nat.le_trans hbn.size h1, ht⟩ (hbm.mono h1)
          rintro b_s36
          dsimp only [detS, bsP1]
          simp only [putS]
          refine wpRL_nil ?_
          intro wn hbn hE
          have hsz := B.size
          have hzn := hbn.size
          replace B := B.trans (hbn.mono B.size)
          (try replace c2 := c2.below hbn)
          (try replace r4 := r4.below hbn)
          (try replace i6 := i6.below hbn)
          (try replace od := od.below hbn)
          obtain ⟨hge_s36, s36⟩ : _ ∧ AtB _ _ _ _ := hE 6
          clear hE
          try simp only [List.drop_succ_cons, List.drop_zero]
          go_wp2_with (first | (refine wpList_storeU rfl _ _ rfl _ rfl _ _ _ rfl i6 ?_; clear i6; intro wn ht hcn hzn; have hsz := B.size; replace hzn := Nat.le_of_eq hzn.symm; replace B := Chg.below B hcn (by omega) B.size; (try replace c2 := c2.of_eq (hcn.block _ c2.lt (by omega))); (try replace r4 := r4.of_eq (hcn.block _ r4.lt (by omega))); replace od := od.chg hcn (by omega); have i6 := ht; clear ht; simp only [putS]) | (at_builtin; refine wpList_appendE rfl _ _ rfl _ _ rfl rfl od ((RSE.one s36)) (by simp only [List.length_append, List.length_cons, List.length_nil]; omega) (by omega) ?_; intro v_od wn ht hbn; have hsz := B.size; have hbz := hbn.size; replace B := B.trans (hbn.mono (by omega)); clear od; (try replace c2 := c2.of_eq (hbn.block _ (by omega))); (try replace r4 := r4.of_eq (hbn.block _ (by omega))); (try replace i6 := i6.of_eq (hbn.block _ (by omega))); have od := ht; clear ht; obtain ⟨a_od, c_od, hv, hco⟩ := od.len; (try simp only [List.length_append, List.length_cons, List.length_nil, Nat.zero_add] at hv hco); subst hv; simp only [putS]) | fail)
          refine NoPan.normal ?_
          go_upto_region 9 with fail
          refine wp_region_lit ?_
          try simp only [gelS]
          refine wpList_chunk 3 (by kernel_rfl) ?_
          simp only [takS, Nat.reduceAdd]
          repeat (first | go_big_quiet_skip | (go_big_quiet_want; first | (go_big_quiet_op; go_big_quiet_on)))
          refine wpQuiet_nil ?_
          refine wpList_nil ?_
          go_wp2
          go_roundw
          case rel => exact ⟨j + 1, _, _, P2 ++ [pp], by omega, by go_num, HST, B, by omega, c2, r4, by rw [List.length_append]; exact i6, by rw [List.length_append]; exact od⟩
          case measure => simp [intOf]; omega
        · have q2 : decide (c.x0 + (j : Int) < c.x1) = false := decide_eq_false (by omega)
          have hjW : j = Wd := by omega
          have HN := Lib.hid (show paintK c F ((i + 1) * Wd) = P2 from by rw [Nat.add_mul, Nat.one_mul]; rw [hjW] at HP2; exact HP2.out)
          clear hjW
          go_upto_region 8 with fail
          refine wp_region_lit ?_
          try simp only [gelS]
          refine wpList_chunk 4 (by kernel_rfl) ?_
          simp only [takS, Nat.reduceAdd]
          repeat (first | go_big_quiet_skip | (go_big_quiet_want; first | (refine quiet_loadAny (t := 3) rfl _ _ _ rfl (fun w hw => run_load_int ((ov_B c2 w hw).cellL 0 rfl)) (by rfl) ?_; simp only [putS]; go_big_quiet_on) | (refine quiet_loadAny (t := 3) rfl _ _ _ rfl (fun w hw => run_load_int ((ov_B c2 w hw).cellL 1 rfl)) (by rfl) ?_; simp only [putS]; go_big_quiet_on) | (refine quiet_loadAny (t := 3) rfl _ _ _ rfl (fun w hw => run_load_int ((ov_B c2 w hw).cellL 2 rfl)) (by rfl) ?_; simp only [putS]; go_big_quiet_on) | (refine quiet_loadAny (t := 3) rfl _ _ _ rfl (fun w hw => run_load_int ((ov_B c2 w hw).cellL 3 rfl)) (by rfl) ?_; simp only [putS]; go_big_quiet_on) | (go_big_quiet_op; go_big_quiet_on)))
          refine wpQuiet_nil ?_
          refine wpList_nil ?_
          go_upto_region 6 with fail
          refine wp_region_lit ?_
          try simp only [gelS]
          refine wpList_chunk 3 (by kernel_rfl) ?_
          simp only [takS, Nat.reduceAdd]
          repeat (first | go_big_quiet_skip | (go_big_quiet_want; first | (go_big_quiet_op; go_big_quiet_on)))
          refine wpQuiet_nil ?_
          refine wpList_nil ?_
          go_wp2
          go_roundw
          case rel => exact ⟨i + 1, _, _, P2, by omega, by go_num, HN, B, k6, c2, r4, i6, od⟩
          case measure => simp [intOf]; omega
    · have q1 : decide (c.y0 + (i : Int) < c.y1) = false := decide_eq_false (by omega)
      have hiH : i = (c.y1 - c.y0).toNat := by omega
      have HL := Lib.hid (show paintL c F = P from by
        rw [← paintK_all, HAW.out, Nat.mul_comm, HWD.out, ← hiH]; exact HP.out)
      have hlen : P.length ≤ maxLen := by rw [← HL.out, paintL_len]; have := HA.out; unfold maxLen; omega
      have okP : OkL P := by rw [← HL.out]; exact paintL_ok HF.out
      clear hiH
      go_upto_region 5 with fail
      refine wp_region_lit ?_
      try simp only [gelS]
      refine wpList_chunk 4 (by kernel_rfl) ?_
      simp only [takS, Nat.reduceAdd]
      repeat (first | go_big_quiet_skip | (go_big_quiet_want; first | (refine quiet_loadAny (t := 3) rfl _ _ _ rfl (fun w hw => run_load_int ((ov_B c2 w hw).cellL 0 rfl)) (by rfl) ?_; simp only [putS]; go_big_quiet_on) | (refine quiet_loadAny (t := 3) rfl _ _ _ rfl (fun w hw => run_load_int ((ov_B c2 w hw).cellL 1 rfl)) (by rfl) ?_; simp only [putS]; go_big_quiet_on) | (refine quiet_loadAny (t := 3) rfl _ _ _ rfl (fun w hw => run_load_int ((ov_B c2 w hw).cellL 2 rfl)) (by rfl) ?_; simp only [putS]; go_big_quiet_on) | (refine quiet_loadAny (t := 3) rfl _ _ _ rfl (fun w hw => run_load_int ((ov_B c2 w hw).cellL 3 rfl)) (by rfl) ?_; simp only [putS]; go_big_quiet_on) | (go_big_quiet_op; go_big_quiet_on)))
      refine wpQuiet_nil ?_
      refine wpList_nil ?_
      go_upto_region 11 with fail
      refine wp_region_lit ?_
      try simp only [gelS]
      refine wpList_chunk 2 (by kernel_rfl) ?_
      simp only [takS, Nat.reduceAdd]
      repeat (first | go_big_quiet_skip | (go_big_quiet_want; first | (refine quiet_loadAny (t := 134) rfl _ _ _ rfl (fun w hw => run_load_img (ov_B i6 w hw)) (by first | rfl | omega) ?_; simp only [putS]; go_big_quiet_on) | (go_big_quiet_op; go_big_quiet_on)))
      refine wpQuiet_nil ?_
      refine wpList_callF (by first | rfl | simp [Region.wanted, yielded]) rfl (enters_of Try.func103 (by kernel_rfl) rfl) (by simp only [List.map_toArray, List.map_cons, List.map_nil, Act.eval, Array.getD_eq_getD_getElem?, List.getElem?_toArray, List.getElem?_cons_succ, List.getElem?_cons_zero, Option.getD_some]; rfl) ?_
      refine (P_PasteA _ [] c _ P _ (RS.nil _) TokL.nil (by unfold maxLen; simp) od.rs hlen okP).mono ?_
      rintro e wn ⟨a5, c5, rfl, rs5, hbn⟩
      have hsz := B.size
      have hzn := hbn.size
      replace B := B.trans (hbn.mono B.size)
      (try replace c2 := c2.below hbn)
      (try replace r4 := r4.below hbn)
      (try replace i6 := i6.below hbn)
      refine ⟨_, rfl, ?_⟩
      simp only [putS]
      refine wpList_chunk 2 (by kernel_rfl) ?_
      simp only [takS, Nat.reduceAdd]
      repeat (first | go_big_quiet_skip | (go_big_quiet_want; first | (go_big_quiet_op; go_big_quiet_on)))
      refine wpQuiet_nil ?_
      (refine wpList_storeB (t := 36) rfl _ _ rfl _ rfl _ rfl r4 (by kernel_rfl) rfl (by simp [rcA, imgC, Value.oneCell']) ?_; have r4o := r4; clear r4; intro wn ht hcn hzn; replace rs5 := rs5.chg r4o (by simp [rcA]) hcn; have hsz := B.size; replace hzn := Nat.le_of_eq hzn.symm; replace B := Chg.below B hcn (by omega) B.size; (try replace c2 := c2.of_eq (hcn.block _ c2.lt (by omega))); (try replace i6 := i6.of_eq (hcn.block _ i6.lt (by omega))); have r4 := ht; clear ht; simp only [putS])
      refine wpList_chunk 1 (by kernel_rfl) ?_
      simp only [takS, Nat.reduceAdd]
      repeat (first | go_big_quiet_skip | (go_big_quiet_want; first | (go_big_quiet_op; go_big_quiet_on)))
      refine wpQuiet_nil ?_
      refine wpList_nil ?_
      first | (refine bodyPost_ret (results_B2 (t := 36) rfl _ _ (b_r4) rfl _ rfl r4 Try.isAgg36 (by kernel_rfl)) rfl ?_) | (go_step; refine bodyPost_ret (results_B2 (t := 36) rfl _ _ (b_r4) rfl _ rfl r4 Try.isAgg36 (by kernel_rfl)) rfl ?_) | (go_step; go_step; refine bodyPost_ret (results_B2 (t := 36) rfl _ _ (b_r4) rfl _ rfl r4 Try.isAgg36 (by kernel_rfl)) rfl ?_) | (go_step; go_step; go_step; refine bodyPost_ret (results_B2 (t := 36) rfl _ _ (b_r4) rfl _ rfl r4 Try.isAgg36 (by kernel_rfl)) rfl ?_) | (go_step; go_step; go_step; go_step; refine bodyPost_ret (results_B2 (t := 36) rfl _ _ (b_r4) rfl _ rfl r4 Try.isAgg36 (by kernel_rfl)) rfl ?_) | (go_step; go_step; go_step; go_step; go_step; refine bodyPost_ret (results_B2 (t := 36) rfl _ _ (b_r4) rfl _ rfl r4 Try.isAgg36 (by kernel_rfl)) rfl ?_)
      rw [HL.out]
      exact ⟨_, _, rfl, rs5, B⟩
/- Fill, Inverse of package selection: their closures, of, large; the reference's Small. -/
theorem run_alloc_Pxx (w : World) (o : Oper) (ho : o.op = .alloc 59) (ev : Operand → Value) : (execOp ev o).run Try.prog w = .ok (.value (.pointer (some ⟨w.heap.size, 0, none⟩))) (w.alloc (.cells #[.int .u8 0, .int .u8 0, .int .u8 0, .int .u8 0] 59)) := by
  obtain ⟨d, p, t, ps, af, gd⟩ := o
  simp only at ho
  subst ho
  kernel_rfl
theorem run_load_spw {w : World} {b j : Nat} {v : Value} (h : w.cell? ⟨b, j, none⟩ = some v) : (Instr.loadAt 22 (.pointer (some ⟨b, j, none⟩))).run Try.prog w = .ok v w := by
  simp [go_sem, h]
def pxC4 (p : Px) : Array Value := #[.int .u8 p.r, .int .u8 p.g, .int .u8 p.b, .int .u8 p.a]
theorem P_FadeO (q r : Px) (c : Int) (w : World) (hq : q.ok) (e : fadeP q c = r) : Calls Try.prog 68 #[.agg (pxC4 q), .int .i64 c] w fun e w' => e = .returned (.agg (pxC4 r)) ∧ Below w.heap.size w w' := e ▸ P_Fade q c w hq
theorem P_coverO (v : Value) (l : List Pnt) (x y n : Int) (w : World) (h : RSE ptE v l w) (hn : l.length ≤ 17592186044416) (hnear : nearL l) (hx : -70000 ≤ x ∧ x ≤ 70000) (hy : -70000 ≤ y ∧ y ≤ 70000) (e : covG l x y = n) : Calls Try.prog 43 #[v, .int .i64 x, .int .i64 y] w fun e w' => e = .returned (.int .i64 n) ∧ Below w.heap.size w w' := e ▸ P_cover v l x y w h hn hnear hx hy
set_option maxHeartbeats 2000000 in
theorem P_fill1 (k2 k3 : Nat) (p : Px) (v : Value) (l : List Pnt) (x y : Int) (w : World) (b2 : AtB 22 w k2 #[v]) (b3 : AtB 59 w k3 (pxC4 p)) (rs : RSE ptE v l w) (hp : p.ok) (hn : l.length ≤ 17592186044416) (hnear : nearL l) (hx : -70000 ≤ x ∧ x ≤ 70000) (hy : -70000 ≤ y ∧ y ≤ 70000) : Calls Try.prog 67 #[.int .i64 x, .int .i64 y, .pointer (some ⟨k3, 0, none⟩), .pointer (some ⟨k2, 0, none⟩)] w fun e w' => e = .returned (.agg (pxC4 (fadeP p (covG l x y)))) ∧ Below w.heap.size w w' := by
  have B := Below.refl w.heap.size w
  obtain ⟨n, hn0⟩ : ∃ n, covG l x y = n := ⟨_, rfl⟩
  obtain ⟨q, hq0⟩ : ∃ q, fadeP p n = q := ⟨_, rfl⟩
  rw [hn0, hq0]
  have HN0 := Lib.hid hn0
  have HQ0 := Lib.hid hq0
  have HP := Lib.hid hp
  have HNE := Lib.hid hnear
  clear hn0 hq0 hp hnear
  obtain ⟨a, c, rfl, hc⟩ := rs.len
  go_enter Try.func67, Try.ntmps67
  go_upto_region 0 with fail
  refine wp_region_lit ?_
  try simp only [gelS]
  (refine wpList_allocBk (t := 59) rfl _ (run_alloc_Pxx _ _ rfl) ?_; intro b_r6 wn hle hge ht hbn hzn; have hsz := B.size; replace B := B.trans (hbn.mono (by omega)); have hln := Nat.lt_of_lt_of_eq (Nat.lt_succ_self _) hzn.symm; clear hzn; (try have hlt := b2.lt); (try replace b2 := b2.below (hbn.mono hle)); (try have hlt := b3.lt); (try replace b3 := b3.below (hbn.mono hle)); (try have hlt := rs.lt); (try replace rs := rs.below (hbn.mono hle)); have r6 := ht; clear ht; simp only [putS])
  refine wpList_nil ?_
  go_upto_region 1 with fail
  try simp only [gelS]
  try have lx_b2 := b2.lt
  try have lx_b3 := b3.lt
  try have lx_r6 := r6.lt
  try have lx_rs := rs.lt
  refine wp_region_RL 6 [(4, detS ?v1_4), (5, detS ?v1_5)] (by kernel_rfl) (by kernel_rfl) (by kernel_rfl) ?_
  rotate_left 2
  simp only [takS, Nat.reduceAdd]
  refine wpRL_chunk 4 (by kernel_rfl) ?_
  simp only [takS, Nat.reduceAdd]
  repeat (first | go_big_quiet_skip | (go_big_quiet_want; first | (refine quiet_loadAny (t := 22) rfl _ _ _ rfl (fun w hw => run_load_spw ((ov_B b2 w hw).cell 0 rfl)) (by rfl) ?_; simp only [putS]; go_big_quiet_on) | (refine quiet_loadAny (t := 59) rfl _ _ _ rfl (fun w hw => run_load_B (ov_B b3 w hw) Try.isAgg59 (by kernel_rfl)) (by rfl) ?_; simp only [putS]; go_big_quiet_on) | (go_big_quiet_op; go_big_quiet_on)))
  refine wpQuiet_nil ?_
  refine wpRL_callB (by rfl) (by first | rfl | simp [Region.wanted, yielded]) ?_ ?_
  · intro wn hbn hE Kx hKx
    have hsz := B.size
    have hzn := hbn.size
    replace B := B.trans (hbn.mono B.size)
    (try replace b2 := b2.below hbn)
    (try replace b3 := b3.below hbn)
    (try replace r6 := r6.below hbn)
    (try replace rs := rs.below hbn)
    refine wp_callF rfl (enters_of Try.func43 (by kernel_rfl) rfl) (by simp only [List.map_toArray, List.map_cons, List.map_nil, Act.eval, Array.getD_eq_getD_getElem?, List.getElem?_toArray, List.getElem?_cons_succ, List.getElem?_cons_zero, Option.getD_some]; rfl) ?_
    refine (P_coverO _ l x y n wn rs hn HNE.out hx hy HN0.out).mono ?_
    rintro e wm ⟨rfl, hbm⟩
    refine ⟨_, rfl, ?_⟩
    have hz := hKx () wm trivial hbm
    dsimp only [detS] at hz
    exact hz
  rintro ⟨⟩
  dsimp only [detS]
  simp only [putS]
  refine wpRL_callB (by rfl) (by first | rfl | simp [Region.wanted, yielded]) ?_ ?_
  · intro wn hbn hE Kx hKx
    have hsz := B.size
    have hzn := hbn.size
    replace B := B.trans (hbn.mono B.size)
    (try replace b2 := b2.below hbn)
    (try replace b3 := b3.below hbn)
    (try replace r6 := r6.below hbn)
    (try replace rs := rs.below hbn)
    refine wp_callF rfl (enters_of Try.func68 (by kernel_rfl) rfl) (by simp only [List.map_toArray, List.map_cons, List.map_nil, Act.eval, Array.getD_eq_getD_getElem?, List.getElem?_toArray, List.getElem?_cons_succ, List.getElem?_cons_zero, Option.getD_some]; rfl) ?_
    refine (P_FadeO p q n wn HP.out HQ0.out).mono ?_
    rintro e wm ⟨rfl, hbm⟩
    refine ⟨_, rfl, ?_⟩
    have hz := hKx () wm trivial hbm
    dsimp only [detS] at hz
    exact hz
  rintro ⟨⟩
  dsimp only [detS]
  simp only [putS]
  refine wpRL_nil ?_
  intro wn hbn hE
  have hsz := B.size
  have hzn := hbn.size
  replace B := B.trans (hbn.mono B.size)
  (try replace b2 := b2.below hbn)
  (try replace b3 := b3.below hbn)
  (try replace r6 := r6.below hbn)
  (try replace rs := rs.below hbn)
  clear hE
  try simp only [List.drop_succ_cons, List.drop_zero]
  go_wp2_with (first | (refine wpList_storeB (t := 59) rfl _ _ rfl _ rfl _ rfl r6 (by kernel_rfl) rfl (by simp [rcA, pxC4, Value.oneCell']) ?_; clear r6; intro wn ht hcn hzn; have hsz := B.size; replace hzn := Nat.le_of_eq hzn.symm; replace B := Chg.below B hcn (by omega) B.size; (try replace b2 := b2.of_eq (hcn.block _ b2.lt (by omega))); (try replace b3 := b3.of_eq (hcn.block _ b3.lt (by omega))); have r6 := ht; clear ht; simp only [putS]) | fail)
  refine NoPan.normal ?_
  go_wp2
  refine bodyPost_ret (results_B (t := 59) rfl _ _ (b_r6) rfl r6 Try.isAgg59 (by kernel_rfl)) rfl ?_
  exact ⟨rfl, B⟩
def largeR (c : Rc) : Bool := decide (256 < c.x1 - c.x0) || decide (256 < c.y1 - c.y0)
set_option maxHeartbeats 2000000 in
theorem P_large (c : Rc) (w : World) (h : -100000 ≤ c.x0 ∧ c.x0 ≤ 100000 ∧ -100000 ≤ c.y0 ∧ c.y0 ≤ 100000 ∧ -100000 ≤ c.x1 ∧ c.x1 ≤ 100000 ∧ -100000 ≤ c.y1 ∧ c.y1 ≤ 100000) : Calls Try.prog 61 #[.agg (rcA c)] w fun e w' => e = .returned (.bool (largeR c)) ∧ Below w.heap.size w w' := by
  have B := Below.refl w.heap.size w
  obtain ⟨c0, c1, c2, c3⟩ := c
  simp only at h
  obtain ⟨h1, h2, h3, h4, h5, h6, h7, h8⟩ := h
  unfold largeR
  dsimp only
  by_cases g1 : 256 < c2 - c0
  · have q1 : decide (256 < c2 - c0) = true := decide_eq_true g1
    rw [q1]
    go_enter Try.func61, Try.ntmps61
    go_upto_region 0 with fail
    refine wp_region_lit ?_
    try simp only [gelS]
    (refine wpList_boxB (t := 31) rfl _ rfl _ rfl ?_; intro b_r1 wn hle hge ht hbn hzn; have hsz := B.size; replace B := B.trans (hbn.mono (by omega)); have hln := Nat.lt_of_lt_of_eq (Nat.lt_succ_self _) hzn.symm; clear hzn; have r1 := ht; clear ht; simp only [putS])
    refine wpList_chunk 1 (by kernel_rfl) ?_
    simp only [takS, Nat.reduceAdd]
    repeat (first | go_big_quiet_skip | (go_big_quiet_want; first | (go_big_quiet_op; go_big_quiet_on)))
    refine wpQuiet_nil ?_
    refine wpList_nil ?_
    go_upto_region 1 with fail
    refine wp_region_lit ?_
    try simp only [gelS]
    refine wpList_chunk 15 (by kernel_rfl) ?_
    simp only [takS, Nat.reduceAdd]
    repeat (first | go_big_quiet_skip | (go_big_quiet_want; first | (refine quiet_loadAny (t := 3) rfl _ _ _ rfl (fun w hw => run_load_int ((ov_B r1 w hw).cellL 0 rfl)) (by rfl) ?_; simp only [putS]; go_big_quiet_on) | (refine quiet_loadAny (t := 3) rfl _ _ _ rfl (fun w hw => run_load_int ((ov_B r1 w hw).cellL 1 rfl)) (by rfl) ?_; simp only [putS]; go_big_quiet_on) | (refine quiet_loadAny (t := 3) rfl _ _ _ rfl (fun w hw => run_load_int ((ov_B r1 w hw).cellL 2 rfl)) (by rfl) ?_; simp only [putS]; go_big_quiet_on) | (refine quiet_loadAny (t := 3) rfl _ _ _ rfl (fun w hw => run_load_int ((ov_B r1 w hw).cellL 3 rfl)) (by rfl) ?_; simp only [putS]; go_big_quiet_on) | (go_big_quiet_op; go_big_quiet_on)))
    refine wpQuiet_nil ?_
    refine wpList_nil ?_
    go_wp2
    go_ret
    exact ⟨rfl, B⟩
  · have q1 : decide (256 < c2 - c0) = false := decide_eq_false g1
    rw [q1]
    go_enter Try.func61, Try.ntmps61
    go_upto_region 0 with fail
    refine wp_region_lit ?_
    try simp only [gelS]
    (refine wpList_boxB (t := 31) rfl _ rfl _ rfl ?_; intro b_r1 wn hle hge ht hbn hzn; have hsz := B.size; replace B := B.trans (hbn.mono (by omega)); have hln := Nat.lt_of_lt_of_eq (Nat.lt_succ_self _) hzn.symm; clear hzn; (try have hlt := r1.lt); (try replace r1 := r1.below (hbn.mono hle)); have r1 := ht; clear ht; simp only [putS])
    refine wpList_chunk 1 (by kernel_rfl) ?_
    simp only [takS, Nat.reduceAdd]
    repeat (first | go_big_quiet_skip | (go_big_quiet_want; first | (go_big_quiet_op; go_big_quiet_on)))
    refine wpQuiet_nil ?_
    refine wpList_nil ?_
    go_upto_region 1 with fail
    refine wp_region_lit ?_
    try simp only [gelS]
    refine wpList_chunk 15 (by kernel_rfl) ?_
    simp only [takS, Nat.reduceAdd]
    repeat (first | go_big_quiet_skip | (go_big_quiet_want; first | (refine quiet_loadAny (t := 3) rfl _ _ _ rfl (fun w hw => run_load_int ((ov_B r1 w hw).cellL 0 rfl)) (by rfl) ?_; simp only [putS]; go_big_quiet_on) | (refine quiet_loadAny (t := 3) rfl _ _ _ rfl (fun w hw => run_load_int ((ov_B r1 w hw).cellL 1 rfl)) (by rfl) ?_; simp only [putS]; go_big_quiet_on) | (refine quiet_loadAny (t := 3) rfl _ _ _ rfl (fun w hw => run_load_int ((ov_B r1 w hw).cellL 2 rfl)) (by rfl) ?_; simp only [putS]; go_big_quiet_on) | (refine quiet_loadAny (t := 3) rfl _ _ _ rfl (fun w hw => run_load_int ((ov_B r1 w hw).cellL 3 rfl)) (by rfl) ?_; simp only [putS]; go_big_quiet_on) | (go_big_quiet_op; go_big_quiet_on)))
    refine wpQuiet_nil ?_
    refine wpList_nil ?_
    go_wp2
    go_ret
    exact ⟨by first | rfl | simp, B⟩
theorem P_largeO (c : Rc) (b : Bool) (w : World) (h : -100000 ≤ c.x0 ∧ c.x0 ≤ 100000 ∧ -100000 ≤ c.y0 ∧ c.y0 ≤ 100000 ∧ -100000 ≤ c.x1 ∧ c.x1 ≤ 100000 ∧ -100000 ≤ c.y1 ∧ c.y1 ≤ 100000) (e : largeR c = b) : Calls Try.prog 61 #[.agg (rcA c)] w fun e w' => e = .returned (.bool b) ∧ Below w.heap.size w w' := e ▸ P_large c w h
/-! ### Inverse -/
def invR (r : Rc) (ls : List TA) : List TA := if fitsE r = 0 then invL r ls else []
def smR (a b c d : Int) : Rc := ⟨a % 40 - 20, b % 40 - 20, a % 40 - 20 + c % 40, b % 40 - 20 + d % 40⟩
theorem R3_restO (x n r : Int) (hn : 0 < n ∧ n ≤ 1000000) (e : x % n = r) (w : World) : Calls Try.prog 59 #[.int .i64 x, .int .i64 n] w fun e w' => e = .returned (.int .i64 r) ∧ Below w.heap.size w w' := e ▸ R3_rest x n hn w
set_option maxHeartbeats 2000000 in
theorem R_SmallR (a b c d : Int) (w : World) : Calls Try.prog 23 #[.agg #[.int .i64 a, .int .i64 b, .int .i64 c, .int .i64 d]] w fun e w' => e = .returned (.agg (rcA (smR a b c d))) ∧ Below w.heap.size w w' := by
  have B := Below.refl w.heap.size w
  unfold smR
  obtain ⟨ra, ha⟩ : ∃ r, a % 40 = r := ⟨_, rfl⟩
  have ka : 0 ≤ ra ∧ ra ≤ 39 := by omega
  rw [ha]
  have Ha := Lib.hid ha
  clear ha
  obtain ⟨rb, hb⟩ : ∃ r, b % 40 = r := ⟨_, rfl⟩
  have kb : 0 ≤ rb ∧ rb ≤ 39 := by omega
  rw [hb]
  have Hb := Lib.hid hb
  clear hb
  obtain ⟨rc, hc⟩ : ∃ r, c % 40 = r := ⟨_, rfl⟩
  have kc : 0 ≤ rc ∧ rc ≤ 39 := by omega
  rw [hc]
  have Hc := Lib.hid hc
  clear hc
  obtain ⟨rd, hd⟩ : ∃ r, d % 40 = r := ⟨_, rfl⟩
  have kd : 0 ≤ rd ∧ rd ≤ 39 := by omega
  rw [hd]
  have Hd := Lib.hid hd
  clear hd
  go_enter Try.func23, Try.ntmps23
  go_upto_region 0 with fail
  refine wp_region_lit ?_
  try simp only [gelS]
  (refine wpList_boxB (t := 46) rfl _ rfl _ rfl ?_; intro b_b1 wn hle hge ht hbn hzn; have hsz := B.size; replace B := B.trans (hbn.mono (by omega)); have hln := Nat.lt_of_lt_of_eq (Nat.lt_succ_self _) hzn.symm; clear hzn; have b1 := ht; clear ht; simp only [putS])
  (refine wpList_allocBk (t := 31) rfl _ (run_alloc_Rc _ _ rfl) ?_; intro b_r2 wn hle hge ht hbn hzn; have hsz := B.size; replace B := B.trans (hbn.mono (by omega)); have hln := Nat.lt_of_lt_of_eq (Nat.lt_succ_self _) hzn.symm; clear hzn; (try have hlt := b1.lt); (try replace b1 := b1.below (hbn.mono hle)); have r2 := ht; clear ht; simp only [putS])
  refine wpList_nil ?_
  go_upto_region 1 with fail
  refine wp_region_lit ?_
  try simp only [gelS]
  refine wpList_chunk 2 (by kernel_rfl) ?_
  simp only [takS, Nat.reduceAdd]
  repeat (first | go_big_quiet_skip | (go_big_quiet_want; first | (refine quiet_loadAny (t := 3) rfl _ _ _ rfl (fun w hw => run_load_int ((ov_B b1 w hw).cellL 0 rfl)) (by rfl) ?_; simp only [putS]; go_big_quiet_on) | (refine quiet_loadAny (t := 3) rfl _ _ _ rfl (fun w hw => run_load_int ((ov_B b1 w hw).cellL 1 rfl)) (by rfl) ?_; simp only [putS]; go_big_quiet_on) | (refine quiet_loadAny (t := 3) rfl _ _ _ rfl (fun w hw => run_load_int ((ov_B b1 w hw).cellL 2 rfl)) (by rfl) ?_; simp only [putS]; go_big_quiet_on) | (refine quiet_loadAny (t := 3) rfl _ _ _ rfl (fun w hw => run_load_int ((ov_B b1 w hw).cellL 3 rfl)) (by rfl) ?_; simp only [putS]; go_big_quiet_on) | (go_big_quiet_op; go_big_quiet_on)))
  refine wpQuiet_nil ?_
  refine wpList_callF (by first | rfl | simp [Region.wanted, yielded]) rfl (enters_of Try.func59 (by kernel_rfl) rfl) (by simp only [List.map_toArray, List.map_cons, List.map_nil, Act.eval, Array.getD_eq_getD_getElem?, List.getElem?_toArray, List.getElem?_cons_succ, List.getElem?_cons_zero, Option.getD_some]; rfl) ?_
  refine (R3_restO a 40 ra (by omega) Ha.out _).mono ?_
  rintro e wn ⟨rfl, hbn⟩
  have hsz := B.size
  have hzn := hbn.size
  replace B := B.trans (hbn.mono B.size)
  (try replace b1 := b1.below hbn)
  (try replace r2 := r2.below hbn)
  refine ⟨_, rfl, ?_⟩
  simp only [putS]
  refine wpList_chunk 2 (by kernel_rfl) ?_
  simp only [takS, Nat.reduceAdd]
  repeat (first | go_big_quiet_skip | (go_big_quiet_want; first | (go_big_quiet_op; go_big_quiet_on)))
  refine wpQuiet_nil ?_
  refine wpList_nil ?_
  go_upto_region 2 with fail
  refine wp_region_lit ?_
  try simp only [gelS]
  refine wpList_chunk 2 (by kernel_rfl) ?_
  simp only [takS, Nat.reduceAdd]
  repeat (first | go_big_quiet_skip | (go_big_quiet_want; first | (refine quiet_loadAny (t := 3) rfl _ _ _ rfl (fun w hw => run_load_int ((ov_B b1 w hw).cellL 0 rfl)) (by rfl) ?_; simp only [putS]; go_big_quiet_on) | (refine quiet_loadAny (t := 3) rfl _ _ _ rfl (fun w hw => run_load_int ((ov_B b1 w hw).cellL 1 rfl)) (by rfl) ?_; simp only [putS]; go_big_quiet_on) | (refine quiet_loadAny (t := 3) rfl _ _ _ rfl (fun w hw => run_load_int ((ov_B b1 w hw).cellL 2 rfl)) (by rfl) ?_; simp only [putS]; go_big_quiet_on) | (refine quiet_loadAny (t := 3) rfl _ _ _ rfl (fun w hw => run_load_int ((ov_B b1 w hw).cellL 3 rfl)) (by rfl) ?_; simp only [putS]; go_big_quiet_on) | (go_big_quiet_op; go_big_quiet_on)))
  refine wpQuiet_nil ?_
  refine wpList_callF (by first | rfl | simp [Region.wanted, yielded]) rfl (enters_of Try.func59 (by kernel_rfl) rfl) (by simp only [List.map_toArray, List.map_cons, List.map_nil, Act.eval, Array.getD_eq_getD_getElem?, List.getElem?_toArray, List.getElem?_cons_succ, List.getElem?_cons_zero, Option.getD_some]; rfl) ?_
  refine (R3_restO b 40 rb (by omega) Hb.out _).mono ?_
  rintro e wn ⟨rfl, hbn⟩
  have hsz := B.size
  have hzn := hbn.size
  replace B := B.trans (hbn.mono B.size)
  (try replace b1 := b1.below hbn)
  (try replace r2 := r2.below hbn)
  refine ⟨_, rfl, ?_⟩
  simp only [putS]
  refine wpList_chunk 2 (by kernel_rfl) ?_
  simp only [takS, Nat.reduceAdd]
  repeat (first | go_big_quiet_skip | (go_big_quiet_want; first | (go_big_quiet_op; go_big_quiet_on)))
  refine wpQuiet_nil ?_
  refine wpList_nil ?_
  go_upto_region 3 with fail
  try simp only [gelS]
  try have lx_b1 := b1.lt
  try have lx_r2 := r2.lt
  refine wp_region_RL 13 [(5, detS ?v2_5), (10, detS ?v2_10)] (by kernel_rfl) (by kernel_rfl) (by kernel_rfl) ?_
  rotate_left 2
  simp only [takS, Nat.reduceAdd]
  refine wpRL_chunk 5 (by kernel_rfl) ?_
  simp only [takS, Nat.reduceAdd]
  repeat (first | go_big_quiet_skip | (go_big_quiet_want; first | (refine quiet_loadAny (t := 3) rfl _ _ _ rfl (fun w hw => run_load_int ((ov_B b1 w hw).cellL 0 rfl)) (by rfl) ?_; simp only [putS]; go_big_quiet_on) | (refine quiet_loadAny (t := 3) rfl _ _ _ rfl (fun w hw => run_load_int ((ov_B b1 w hw).cellL 1 rfl)) (by rfl) ?_; simp only [putS]; go_big_quiet_on) | (refine quiet_loadAny (t := 3) rfl _ _ _ rfl (fun w hw => run_load_int ((ov_B b1 w hw).cellL 2 rfl)) (by rfl) ?_; simp only [putS]; go_big_quiet_on) | (refine quiet_loadAny (t := 3) rfl _ _ _ rfl (fun w hw => run_load_int ((ov_B b1 w hw).cellL 3 rfl)) (by rfl) ?_; simp only [putS]; go_big_quiet_on) | (go_big_quiet_op; go_big_quiet_on)))
  refine wpQuiet_nil ?_
  refine wpRL_callB (by rfl) (by first | rfl | simp [Region.wanted, yielded]) ?_ ?_
  · intro wn hbn hE Kx hKx
    have hsz := B.size
    have hzn := hbn.size
    replace B := B.trans (hbn.mono B.size)
    (try replace b1 := b1.below hbn)
    (try replace r2 := r2.below hbn)
    refine wp_callF rfl (enters_of Try.func59 (by kernel_rfl) rfl) (by simp only [List.map_toArray, List.map_cons, List.map_nil, Act.eval, Array.getD_eq_getD_getElem?, List.getElem?_toArray, List.getElem?_cons_succ, List.getElem?_cons_zero, Option.getD_some]; rfl) ?_
    refine (R3_restO c 40 rc (by omega) Hc.out wn).mono ?_
    rintro e wm ⟨rfl, hbm⟩
    refine ⟨_, rfl, ?_⟩
    have hz := hKx () wm trivial hbm
    dsimp only [detS] at hz
    exact hz
  rintro ⟨⟩
  dsimp only [detS]
  simp only [putS]
  refine wpRL_chunk 4 (by kernel_rfl) ?_
  simp only [takS, Nat.reduceAdd]
  repeat (first | go_big_quiet_skip | (go_big_quiet_want; first | (refine quiet_loadAny (t := 3) rfl _ _ _ rfl (fun w hw => run_load_int ((ov_B b1 w hw).cellL 0 rfl)) (by rfl) ?_; simp only [putS]; go_big_quiet_on) | (refine quiet_loadAny (t := 3) rfl _ _ _ rfl (fun w hw => run_load_int ((ov_B b1 w hw).cellL 1 rfl)) (by rfl) ?_; simp only [putS]; go_big_quiet_on) | (refine quiet_loadAny (t := 3) rfl _ _ _ rfl (fun w hw => run_load_int ((ov_B b1 w hw).cellL 2 rfl)) (by rfl) ?_; simp only [putS]; go_big_quiet_on) | (refine quiet_loadAny (t := 3) rfl _ _ _ rfl (fun w hw => run_load_int ((ov_B b1 w hw).cellL 3 rfl)) (by rfl) ?_; simp only [putS]; go_big_quiet_on) | (go_big_quiet_op; go_big_quiet_on)))
  refine wpQuiet_nil ?_
  refine wpRL_callB (by rfl) (by first | rfl | simp [Region.wanted, yielded]) ?_ ?_
  · intro wn hbn hE Kx hKx
    have hsz := B.size
    have hzn := hbn.size
    replace B := B.trans (hbn.mono B.size)
    (try replace b1 := b1.below hbn)
    (try replace r2 := r2.below hbn)
    refine wp_callF rfl (enters_of Try.func59 (by kernel_rfl) rfl) (by simp only [List.map_toArray, List.map_cons, List.map_nil, Act.eval, Array.getD_eq_getD_getElem?, List.getElem?_toArray, List.getElem?_cons_succ, List.getElem?_cons_zero, Option.getD_some]; rfl) ?_
    refine (R3_restO d 40 rd (by omega) Hd.out wn).mono ?_
    rintro e wm ⟨rfl, hbm⟩
    refine ⟨_, rfl, ?_⟩
    have hz := hKx () wm trivial hbm
    dsimp only [detS] at hz
    exact hz
  rintro ⟨⟩
  dsimp only [detS]
  simp only [putS]
  refine wpRL_chunk 2 (by kernel_rfl) ?_
  simp only [takS, Nat.reduceAdd]
  repeat (first | go_big_quiet_skip | (go_big_quiet_want; first | (go_big_quiet_op; go_big_quiet_on)))
  refine wpQuiet_nil ?_
  refine wpRL_nil ?_
  intro wn hbn hE
  have hsz := B.size
  have hzn := hbn.size
  replace B := B.trans (hbn.mono B.size)
  (try replace b1 := b1.below hbn)
  (try replace r2 := r2.below hbn)
  clear hE
  try simp only [List.drop_succ_cons, List.drop_zero]
  go_wp2_with (first | (refine wpList_storeB (t := 31) rfl _ _ rfl _ rfl _ rfl r2 (by kernel_rfl) rfl (by simp [rcA, pxC4, Value.oneCell']) ?_; clear r2; intro wn ht hcn hzn; have hsz := B.size; replace hzn := Nat.le_of_eq hzn.symm; replace B := Chg.below B hcn (by omega) B.size; (try replace b1 := b1.of_eq (hcn.block _ b1.lt (by omega))); have r2 := ht; clear ht; simp only [putS]) | fail)
  refine NoPan.normal ?_
  go_wp2
  refine bodyPost_ret (results_B (t := 31) rfl _ _ (b_r2) rfl r2 Try.isAgg31 (by kernel_rfl)) rfl ?_
  exact ⟨rfl, B⟩
/- The reference's Inverse. -/
def setsI (r : Rc) (ls : List TA) (k : Nat) : List TA := setsK r (invF ls) (fun x y => decide (0 < 255 - (getL ls x y).a)) k
def invS (r : Rc) (ls : List TA) : List TA := if fitsE r = 0 then setsI r ls (areaN r) else []
/- For the laws of chapter 15 that invert or fill: what both ways of inverting return; '==' of rasters, cropping. -/
theorem valid_len {ls : List TA} (h : validL ls = true) : ls.length ≤ maxLen := by
  have := (validL_iff.1 h).1
  unfold maxLen
  omega
/- Contract of Fill of package selection. -/
def filF (p : Px) (l : List Pnt) (x y : Int) : Px := fadeP p (covG l x y)
theorem filF_ok {p : Px} (h : p.ok) (l : List Pnt) (x y : Int) : (filF p l x y).ok := fadeP_ok h _
def filE (l : List Pnt) : Int := if validG l = true then (if largeR (boundG l) = true then 45 else 0) else 1
def filL (p : Px) (l : List Pnt) : List TA := if filE l = 0 ∧ emptyR (boundG l) = false then pstR (boundG l) (paintL (boundG l) (filF p l)) [] else []
theorem bound_bd {l : List Pnt} (hv : validG l = true) : (-65536 ≤ (boundG l).x0 ∧ (boundG l).x0 ≤ 65536) ∧ (-65536 ≤ (boundG l).y0 ∧ (boundG l).y0 ≤ 65536) ∧ (-65536 ≤ (boundG l).x1 ∧ (boundG l).x1 ≤ 65536) ∧ (-65536 ≤ (boundG l).y1 ∧ (boundG l).y1 ≤ 65536) := by
  have hne := valid_ne hv
  obtain ⟨_, hnear⟩ := validG_iff.1 hv
  obtain ⟨h1, h2, h3, h4, h5, h6⟩ := near_hull hne hnear
  unfold boundG
  rw [if_pos hv]
  unfold normR
  split
  · unfold Rc.zero; simp
  · omega
theorem bound_fits {l : List Pnt} (hv : validG l = true) (hl : largeR (boundG l) = false) (hn : emptyR (boundG l) = false) : fitsE (boundG l) = 0 := by
  obtain ⟨⟨a1, a2⟩, ⟨a3, a4⟩, ⟨a5, a6⟩, a7, a8⟩ := bound_bd hv
  obtain ⟨e1, e2⟩ := (emptyR_not _).1 hn
  unfold largeR at hl
  rw [Bool.or_eq_false_iff, decide_eq_false_iff_not, decide_eq_false_iff_not] at hl
  exact fits_small (by omega) (by omega) (by omega)
set_option maxHeartbeats 8000000 in
theorem P_FillG (v : Value) (l : List Pnt) (p : Px) (w : World) (h : RSE ptE v l w) (hn : l.length ≤ maxLen) (hp : p.ok) (hA : filE l = 0 → emptyR (boundG l) = false → tlN (boundG l) ≤ 1000) : Calls Try.prog 29 #[v, .agg (pxC4 p)] w fun e w' => ∃ a cp, e = .returned (.tuple #[.agg #[.slice a (filL p l).length cp], .int .i64 (filE l)]) ∧ RS (.slice a (filL p l).length cp) (filL p l) w' ∧ Below w.heap.size w w' := by
  have B := Below.refl w.heap.size w
  obtain ⟨a, c, rfl, hc⟩ := h.len
  have HS := Lib.hid h
  clear h
  obtain ⟨bd, hbd⟩ : ∃ b, boundG l = b := ⟨_, rfl⟩
  have HBD := Lib.hid hbd
  cases hv : validG l with
  | false =>
    have e1 : filE l = 1 := by unfold filE; rw [hv]; rfl
    have e2 : filL p l = [] := by unfold filL; rw [if_neg (fun h => by omega)]
    rw [e1, e2]
    have HV := Lib.hid hv
    clear hv hA e1 e2 hbd
    go_enter Try.func29, Try.ntmps29
    go_upto_region 0 with fail
    refine wp_region_lit ?_
    try simp only [gelS]
    (refine wpList_boxV (t := 22) rfl _ rfl _ rfl (by rfl) ?_; intro b_b2 wn hle hge ht hbn hzn; have hsz := B.size; replace B := B.trans (hbn.mono (by omega)); have hln := Nat.lt_of_lt_of_eq (Nat.lt_succ_self _) hzn.symm; clear hzn; have b2 := ht; clear ht; simp only [putS])
    (refine wpList_boxB (t := 59) rfl _ rfl _ rfl ?_; intro b_b3 wn hle hge ht hbn hzn; have hsz := B.size; replace B := B.trans (hbn.mono (by omega)); have hln := Nat.lt_of_lt_of_eq (Nat.lt_succ_self _) hzn.symm; clear hzn; (try have hlt := b2.lt); (try replace b2 := b2.below (hbn.mono hle)); have b3 := ht; clear ht; simp only [putS])
    (refine wpList_allocBk (t := 36) rfl _ (run_alloc_R _ _ rfl) ?_; intro b_r4 wn hle hge ht hbn hzn; have hsz := B.size; replace B := B.trans (hbn.mono (by omega)); have hln := Nat.lt_of_lt_of_eq (Nat.lt_succ_self _) hzn.symm; clear hzn; (try have hlt := b2.lt); (try replace b2 := b2.below (hbn.mono hle)); (try have hlt := b3.lt); (try replace b3 := b3.below (hbn.mono hle)); have r4 := ht; clear ht; simp only [putS])
    refine wpList_chunk 1 (by kernel_rfl) ?_
    simp only [takS, Nat.reduceAdd]
    repeat (first | go_big_quiet_skip | (go_big_quiet_want; first | (go_big_quiet_op; go_big_quiet_on)))
    refine wpQuiet_nil ?_
    refine wpList_nil ?_
    have k2 : w.heap.size ≤ b_b2 := by omega
    have k3 : b_b2 < b_b3 := by have := b2.lt; omega
    have k4 : b_b3 < b_r4 := by have := b3.lt; omega
    go_upto_region 1 with fail
    refine wp_region_lit ?_
    try simp only [gelS]
    refine wpList_chunk 1 (by kernel_rfl) ?_
    simp only [takS, Nat.reduceAdd]
    repeat (first | go_big_quiet_skip | (go_big_quiet_want; first | (refine quiet_loadAny (t := 22) rfl _ _ _ rfl (fun w hw => run_load_spw ((ov_B b2 w hw).cell 0 rfl)) (by rfl) ?_; simp only [putS]; go_big_quiet_on) | (go_big_quiet_op; go_big_quiet_on)))
    refine wpQuiet_nil ?_
    refine wpList_callF (by first | rfl | simp [Region.wanted, yielded]) rfl (enters_of Try.func17 (by kernel_rfl) rfl) (by simp only [List.map_toArray, List.map_cons, List.map_nil, Act.eval, Array.getD_eq_getD_getElem?, List.getElem?_toArray, List.getElem?_cons_succ, List.getElem?_cons_zero, Option.getD_some]; rfl) ?_
    refine (P_BoundGO _ l bd _ (HS.out.below B) hn HBD.out).mono ?_
    rintro e wn ⟨rfl, hbn⟩
    have hsz := B.size
    have hzn := hbn.size
    replace B := B.trans (hbn.mono B.size)
    (try replace b2 := b2.below hbn)
    (try replace b3 := b3.below hbn)
    (try replace r4 := r4.below hbn)
    refine ⟨_, rfl, ?_⟩
    simp only [putS]
    (refine wpList_allocBk (t := 31) rfl _ (run_alloc_Rc _ _ rfl) ?_; intro b_b6 wn hle hge ht hbn hzn; have hsz := B.size; replace B := B.trans (hbn.mono (by omega)); have hln := Nat.lt_of_lt_of_eq (Nat.lt_succ_self _) hzn.symm; clear hzn; (try have hlt := b2.lt); (try replace b2 := b2.below (hbn.mono hle)); (try have hlt := b3.lt); (try replace b3 := b3.below (hbn.mono hle)); (try have hlt := r4.lt); (try replace r4 := r4.below (hbn.mono hle)); have b6 := ht; clear ht; simp only [putS])
    (refine wpList_storeB (t := 31) rfl _ _ rfl _ rfl _ rfl b6 (by kernel_rfl) rfl (by simp [rcA, pxC4, Value.oneCell']) ?_; clear b6; intro wn ht hcn hzn; have hsz := B.size; replace hzn := Nat.le_of_eq hzn.symm; replace B := Chg.below B hcn (by omega) B.size; (try replace b2 := b2.of_eq (hcn.block _ b2.lt (by omega))); (try replace b3 := b3.of_eq (hcn.block _ b3.lt (by omega))); (try replace r4 := r4.of_eq (hcn.block _ r4.lt (by omega))); have b6 := ht; clear ht; simp only [putS])
    refine wpList_nil ?_
    replace b6 : AtB 31 _ b_b6 (rcA bd) := b6
    go_upto_region 2 with fail
    refine wp_region_lit ?_
    try simp only [gelS]
    refine wpList_chunk 1 (by kernel_rfl) ?_
    simp only [takS, Nat.reduceAdd]
    repeat (first | go_big_quiet_skip | (go_big_quiet_want; first | (refine quiet_loadAny (t := 22) rfl _ _ _ rfl (fun w hw => run_load_spw ((ov_B b2 w hw).cell 0 rfl)) (by rfl) ?_; simp only [putS]; go_big_quiet_on) | (go_big_quiet_op; go_big_quiet_on)))
    refine wpQuiet_nil ?_
    refine wpList_callF (by first | rfl | simp [Region.wanted, yielded]) rfl (enters_of Try.func13 (by kernel_rfl) rfl) (by simp only [List.map_toArray, List.map_cons, List.map_nil, Act.eval, Array.getD_eq_getD_getElem?, List.getElem?_toArray, List.getElem?_cons_succ, List.getElem?_cons_zero, Option.getD_some]; rfl) ?_
    refine (P_ValidO _ l false _ (HS.out.below B) hn HV.out).mono ?_
    rintro e wn ⟨rfl, hbn⟩
    have hsz := B.size
    have hzn := hbn.size
    replace B := B.trans (hbn.mono B.size)
    (try replace b2 := b2.below hbn)
    (try replace b3 := b3.below hbn)
    (try replace r4 := r4.below hbn)
    (try replace b6 := b6.below hbn)
    refine ⟨_, rfl, ?_⟩
    simp only [putS]
    refine wpList_chunk 2 (by kernel_rfl) ?_
    simp only [takS, Nat.reduceAdd]
    repeat (first | go_big_quiet_skip | (go_big_quiet_want; first | (go_big_quiet_op; go_big_quiet_on)))
    refine wpQuiet_nil ?_
    refine wpList_nil ?_
    go_upto_region 3 with fail
    refine wp_region_lit ?_
    try simp only [gelS]
    refine wpList_chunk 1 (by kernel_rfl) ?_
    simp only [takS, Nat.reduceAdd]
    repeat (first | go_big_quiet_skip | (go_big_quiet_want; first | (go_big_quiet_op; go_big_quiet_on)))
    refine wpQuiet_nil ?_
    (refine wpList_storeB (t := 36) rfl _ _ rfl _ rfl _ rfl r4 (by kernel_rfl) rfl (by simp [rcA, pxC4, Value.oneCell']) ?_; clear r4; intro wn ht hcn hzn; have hsz := B.size; replace hzn := Nat.le_of_eq hzn.symm; replace B := Chg.below B hcn (by omega) B.size; (try replace b2 := b2.of_eq (hcn.block _ b2.lt (by omega))); (try replace b3 := b3.of_eq (hcn.block _ b3.lt (by omega))); (try replace b6 := b6.of_eq (hcn.block _ b6.lt (by omega))); have r4 := ht; clear ht; simp only [putS])
    refine wpList_chunk 1 (by kernel_rfl) ?_
    simp only [takS, Nat.reduceAdd]
    repeat (first | go_big_quiet_skip | (go_big_quiet_want; first | (go_big_quiet_op; go_big_quiet_on)))
    refine wpQuiet_nil ?_
    refine wpList_nil ?_
    first | (refine bodyPost_ret (results_B2 (t := 36) rfl _ _ (b_r4) rfl _ rfl r4 Try.isAgg36 (by kernel_rfl)) rfl ?_) | (go_step; refine bodyPost_ret (results_B2 (t := 36) rfl _ _ (b_r4) rfl _ rfl r4 Try.isAgg36 (by kernel_rfl)) rfl ?_) | (go_step; go_step; refine bodyPost_ret (results_B2 (t := 36) rfl _ _ (b_r4) rfl _ rfl r4 Try.isAgg36 (by kernel_rfl)) rfl ?_) | (go_step; go_step; go_step; refine bodyPost_ret (results_B2 (t := 36) rfl _ _ (b_r4) rfl _ rfl r4 Try.isAgg36 (by kernel_rfl)) rfl ?_) | (go_step; go_step; go_step; go_step; refine bodyPost_ret (results_B2 (t := 36) rfl _ _ (b_r4) rfl _ rfl r4 Try.isAgg36 (by kernel_rfl)) rfl ?_) | (go_step; go_step; go_step; go_step; go_step; refine bodyPost_ret (results_B2 (t := 36) rfl _ _ (b_r4) rfl _ rfl r4 Try.isAgg36 (by kernel_rfl)) rfl ?_)
    exact ⟨none, 0, rfl, RS.nil _, B⟩
  | true =>
    have HV := Lib.hid hv
    have hbb := bound_bd hv
    rw [hbd] at hbb
    obtain ⟨⟨q1, q2⟩, ⟨q3, q4⟩, ⟨q5, q6⟩, q7, q8⟩ := hbb
    cases hl : largeR bd with
    | true =>
      have e1 : filE l = 45 := by unfold filE; rw [hv, hbd, hl]; rfl
      have e2 : filL p l = [] := by unfold filL; rw [if_neg (fun h => by omega)]
      rw [e1, e2]
      have HL := Lib.hid hl
      clear hv hl hA e1 e2 hbd
      go_enter Try.func29, Try.ntmps29
      go_upto_region 0 with fail
      refine wp_region_lit ?_
      try simp only [gelS]
      (refine wpList_boxV (t := 22) rfl _ rfl _ rfl (by rfl) ?_; intro b_b2 wn hle hge ht hbn hzn; have hsz := B.size; replace B := B.trans (hbn.mono (by omega)); have hln := Nat.lt_of_lt_of_eq (Nat.lt_succ_self _) hzn.symm; clear hzn; (try have hlt := b2.lt); (try replace b2 := b2.below (hbn.mono hle)); (try have hlt := b3.lt); (try replace b3 := b3.below (hbn.mono hle)); (try have hlt := r4.lt); (try replace r4 := r4.below (hbn.mono hle)); (try have hlt := b6.lt); (try replace b6 := b6.below (hbn.mono hle)); have b2 := ht; clear ht; simp only [putS])
      (refine wpList_boxB (t := 59) rfl _ rfl _ rfl ?_; intro b_b3 wn hle hge ht hbn hzn; have hsz := B.size; replace B := B.trans (hbn.mono (by omega)); have hln := Nat.lt_of_lt_of_eq (Nat.lt_succ_self _) hzn.symm; clear hzn; (try have hlt := b2.lt); (try replace b2 := b2.below (hbn.mono hle)); (try have hlt := b3.lt); (try replace b3 := b3.below (hbn.mono hle)); (try have hlt := r4.lt); (try replace r4 := r4.below (hbn.mono hle)); (try have hlt := b6.lt); (try replace b6 := b6.below (hbn.mono hle)); have b3 := ht; clear ht; simp only [putS])
      (refine wpList_allocBk (t := 36) rfl _ (run_alloc_R _ _ rfl) ?_; intro b_r4 wn hle hge ht hbn hzn; have hsz := B.size; replace B := B.trans (hbn.mono (by omega)); have hln := Nat.lt_of_lt_of_eq (Nat.lt_succ_self _) hzn.symm; clear hzn; (try have hlt := b2.lt); (try replace b2 := b2.below (hbn.mono hle)); (try have hlt := b3.lt); (try replace b3 := b3.below (hbn.mono hle)); (try have hlt := r4.lt); (try replace r4 := r4.below (hbn.mono hle)); (try have hlt := b6.lt); (try replace b6 := b6.below (hbn.mono hle)); have r4 := ht; clear ht; simp only [putS])
      refine wpList_chunk 1 (by kernel_rfl) ?_
      simp only [takS, Nat.reduceAdd]
      repeat (first | go_big_quiet_skip | (go_big_quiet_want; first | (go_big_quiet_op; go_big_quiet_on)))
      refine wpQuiet_nil ?_
      refine wpList_nil ?_
      have k2 : w.heap.size ≤ b_b2 := by omega
      have k3 : b_b2 < b_b3 := by have := b2.lt; omega
      have k4 : b_b3 < b_r4 := by have := b3.lt; omega
      go_upto_region 1 with fail
      refine wp_region_lit ?_
      try simp only [gelS]
      refine wpList_chunk 1 (by kernel_rfl) ?_
      simp only [takS, Nat.reduceAdd]
      repeat (first | go_big_quiet_skip | (go_big_quiet_want; first | (refine quiet_loadAny (t := 22) rfl _ _ _ rfl (fun w hw => run_load_spw ((ov_B b2 w hw).cell 0 rfl)) (by rfl) ?_; simp only [putS]; go_big_quiet_on) | (go_big_quiet_op; go_big_quiet_on)))
      refine wpQuiet_nil ?_
      refine wpList_callF (by first | rfl | simp [Region.wanted, yielded]) rfl (enters_of Try.func17 (by kernel_rfl) rfl) (by simp only [List.map_toArray, List.map_cons, List.map_nil, Act.eval, Array.getD_eq_getD_getElem?, List.getElem?_toArray, List.getElem?_cons_succ, List.getElem?_cons_zero, Option.getD_some]; rfl) ?_
      refine (P_BoundGO _ l bd _ (HS.out.below B) hn HBD.out).mono ?_
      rintro e wn ⟨rfl, hbn⟩
      have hsz := B.size
      have hzn := hbn.size
      replace B := B.trans (hbn.mono B.size)
      (try replace b2 := b2.below hbn)
      (try replace b3 := b3.below hbn)
      (try replace r4 := r4.below hbn)
      (try replace b6 := b6.below hbn)
      refine ⟨_, rfl, ?_⟩
      simp only [putS]
      (refine wpList_allocBk (t := 31) rfl _ (run_alloc_Rc _ _ rfl) ?_; intro b_b6 wn hle hge ht hbn hzn; have hsz := B.size; replace B := B.trans (hbn.mono (by omega)); have hln := Nat.lt_of_lt_of_eq (Nat.lt_succ_self _) hzn.symm; clear hzn; (try have hlt := b2.lt); (try replace b2 := b2.below (hbn.mono hle)); (try have hlt := b3.lt); (try replace b3 := b3.below (hbn.mono hle)); (try have hlt := r4.lt); (try replace r4 := r4.below (hbn.mono hle)); (try have hlt := b6.lt); (try replace b6 := b6.below (hbn.mono hle)); have b6 := ht; clear ht; simp only [putS])
      (refine wpList_storeB (t := 31) rfl _ _ rfl _ rfl _ rfl b6 (by kernel_rfl) rfl (by simp [rcA, pxC4, Value.oneCell']) ?_; clear b6; intro wn ht hcn hzn; have hsz := B.size; replace hzn := Nat.le_of_eq hzn.symm; replace B := Chg.below B hcn (by omega) B.size; (try replace b2 := b2.of_eq (hcn.block _ b2.lt (by omega))); (try replace b3 := b3.of_eq (hcn.block _ b3.lt (by omega))); (try replace r4 := r4.of_eq (hcn.block _ r4.lt (by omega))); have b6 := ht; clear ht; simp only [putS])
      refine wpList_nil ?_
      replace b6 : AtB 31 _ b_b6 (rcA bd) := b6
      go_upto_region 2 with fail
      refine wp_region_lit ?_
      try simp only [gelS]
      refine wpList_chunk 1 (by kernel_rfl) ?_
      simp only [takS, Nat.reduceAdd]
      repeat (first | go_big_quiet_skip | (go_big_quiet_want; first | (refine quiet_loadAny (t := 22) rfl _ _ _ rfl (fun w hw => run_load_spw ((ov_B b2 w hw).cell 0 rfl)) (by rfl) ?_; simp only [putS]; go_big_quiet_on) | (go_big_quiet_op; go_big_quiet_on)))
      refine wpQuiet_nil ?_
      refine wpList_callF (by first | rfl | simp [Region.wanted, yielded]) rfl (enters_of Try.func13 (by kernel_rfl) rfl) (by simp only [List.map_toArray, List.map_cons, List.map_nil, Act.eval, Array.getD_eq_getD_getElem?, List.getElem?_toArray, List.getElem?_cons_succ, List.getElem?_cons_zero, Option.getD_some]; rfl) ?_
      refine (P_ValidO _ l true _ (HS.out.below B) hn HV.out).mono ?_
      rintro e wn ⟨rfl, hbn⟩
      have hsz := B.size
      have hzn := hbn.size
      replace B := B.trans (hbn.mono B.size)
      (try replace b2 := b2.below hbn)
      (try replace b3 := b3.below hbn)
      (try replace r4 := r4.below hbn)
      (try replace b6 := b6.below hbn)
      refine ⟨_, rfl, ?_⟩
      simp only [putS]
      refine wpList_chunk 2 (by kernel_rfl) ?_
      simp only [takS, Nat.reduceAdd]
      repeat (first | go_big_quiet_skip | (go_big_quiet_want; first | (go_big_quiet_op; go_big_quiet_on)))
      refine wpQuiet_nil ?_
      refine wpList_nil ?_
      go_upto_region 4 with fail
      refine wp_region_lit ?_
      try simp only [gelS]
      refine wpList_chunk 1 (by kernel_rfl) ?_
      simp only [takS, Nat.reduceAdd]
      repeat (first | go_big_quiet_skip | (go_big_quiet_want; first | (refine quiet_loadAny (t := 31) rfl _ _ _ rfl (fun w hw => run_load_B (ov_B b6 w hw) Try.isAgg31 (by kernel_rfl)) (by rfl) ?_; simp only [putS]; go_big_quiet_on) | (go_big_quiet_op; go_big_quiet_on)))
      refine wpQuiet_nil ?_
      refine wpList_callF (by first | rfl | simp [Region.wanted, yielded]) rfl (enters_of Try.func61 (by kernel_rfl) rfl) (by simp only [List.map_toArray, List.map_cons, List.map_nil, Act.eval, Array.getD_eq_getD_getElem?, List.getElem?_toArray, List.getElem?_cons_succ, List.getElem?_cons_zero, Option.getD_some]; rfl) ?_
      refine (P_largeO bd true _ (by omega) HL.out).mono ?_
      rintro e wn ⟨rfl, hbn⟩
      have hsz := B.size
      have hzn := hbn.size
      replace B := B.trans (hbn.mono B.size)
      (try replace b2 := b2.below hbn)
      (try replace b3 := b3.below hbn)
      (try replace r4 := r4.below hbn)
      (try replace b6 := b6.below hbn)
      refine ⟨_, rfl, ?_⟩
      simp only [putS]
      refine wpList_chunk 1 (by kernel_rfl) ?_
      simp only [takS, Nat.reduceAdd]
      repeat (first | go_big_quiet_skip | (go_big_quiet_want; first | (go_big_quiet_op; go_big_quiet_on)))
      refine wpQuiet_nil ?_
      refine wpList_nil ?_
      go_upto_region 5 with fail
      refine wp_region_lit ?_
      try simp only [gelS]
      refine wpList_chunk 1 (by kernel_rfl) ?_
      simp only [takS, Nat.reduceAdd]
      repeat (first | go_big_quiet_skip | (go_big_quiet_want; first | (go_big_quiet_op; go_big_quiet_on)))
      refine wpQuiet_nil ?_
      (refine wpList_storeB (t := 36) rfl _ _ rfl _ rfl _ rfl r4 (by kernel_rfl) rfl (by simp [rcA, pxC4, Value.oneCell']) ?_; clear r4; intro wn ht hcn hzn; have hsz := B.size; replace hzn := Nat.le_of_eq hzn.symm; replace B := Chg.below B hcn (by omega) B.size; (try replace b2 := b2.of_eq (hcn.block _ b2.lt (by omega))); (try replace b3 := b3.of_eq (hcn.block _ b3.lt (by omega))); (try replace b6 := b6.of_eq (hcn.block _ b6.lt (by omega))); have r4 := ht; clear ht; simp only [putS])
      refine wpList_chunk 1 (by kernel_rfl) ?_
      simp only [takS, Nat.reduceAdd]
      repeat (first | go_big_quiet_skip | (go_big_quiet_want; first | (go_big_quiet_op; go_big_quiet_on)))
      refine wpQuiet_nil ?_
      refine wpList_nil ?_
      first | (refine bodyPost_ret (results_B2 (t := 36) rfl _ _ (b_r4) rfl _ rfl r4 Try.isAgg36 (by kernel_rfl)) rfl ?_) | (go_step; refine bodyPost_ret (results_B2 (t := 36) rfl _ _ (b_r4) rfl _ rfl r4 Try.isAgg36 (by kernel_rfl)) rfl ?_) | (go_step; go_step; refine bodyPost_ret (results_B2 (t := 36) rfl _ _ (b_r4) rfl _ rfl r4 Try.isAgg36 (by kernel_rfl)) rfl ?_) | (go_step; go_step; go_step; refine bodyPost_ret (results_B2 (t := 36) rfl _ _ (b_r4) rfl _ rfl r4 Try.isAgg36 (by kernel_rfl)) rfl ?_) | (go_step; go_step; go_step; go_step; refine bodyPost_ret (results_B2 (t := 36) rfl _ _ (b_r4) rfl _ rfl r4 Try.isAgg36 (by kernel_rfl)) rfl ?_) | (go_step; go_step; go_step; go_step; go_step; refine bodyPost_ret (results_B2 (t := 36) rfl _ _ (b_r4) rfl _ rfl r4 Try.isAgg36 (by kernel_rfl)) rfl ?_)
      exact ⟨none, 0, rfl, RS.nil _, B⟩
    | false =>
      have e1 : filE l = 0 := by unfold filE; rw [hv, hbd, hl]; rfl
      have HL := Lib.hid hl
      cases hm : emptyR bd with
      | true =>
        have e2 : filL p l = [] := by unfold filL; rw [hbd, hm, if_neg (fun h => by cases h.2)]
        rw [e1, e2]
        have HM := Lib.hid hm
        clear hv hl hA e1 e2 hbd hm
        go_enter Try.func29, Try.ntmps29
        go_upto_region 0 with fail
        refine wp_region_lit ?_
        try simp only [gelS]
        (refine wpList_boxV (t := 22) rfl _ rfl _ rfl (by rfl) ?_; intro b_b2 wn hle hge ht hbn hzn; have hsz := B.size; replace B := B.trans (hbn.mono (by omega)); have hln := Nat.lt_of_lt_of_eq (Nat.lt_succ_self _) hzn.symm; clear hzn; (try have hlt := b2.lt); (try replace b2 := b2.below (hbn.mono hle)); (try have hlt := b3.lt); (try replace b3 := b3.below (hbn.mono hle)); (try have hlt := r4.lt); (try replace r4 := r4.below (hbn.mono hle)); (try have hlt := b6.lt); (try replace b6 := b6.below (hbn.mono hle)); have b2 := ht; clear ht; simp only [putS])
        (refine wpList_boxB (t := 59) rfl _ rfl _ rfl ?_; intro b_b3 wn hle hge ht hbn hzn; have hsz := B.size; replace B := B.trans (hbn.mono (by omega)); have hln := Nat.lt_of_lt_of_eq (Nat.lt_succ_self _) hzn.symm; clear hzn; (try have hlt := b2.lt); (try replace b2 := b2.below (hbn.mono hle)); (try have hlt := b3.lt); (try replace b3 := b3.below (hbn.mono hle)); (try have hlt := r4.lt); (try replace r4 := r4.below (hbn.mono hle)); (try have hlt := b6.lt); (try replace b6 := b6.below (hbn.mono hle)); have b3 := ht; clear ht; simp only [putS])
        (refine wpList_allocBk (t := 36) rfl _ (run_alloc_R _ _ rfl) ?_; intro b_r4 wn hle hge ht hbn hzn; have hsz := B.size; replace B := B.trans (hbn.mono (by omega)); have hln := Nat.lt_of_lt_of_eq (Nat.lt_succ_self _) hzn.symm; clear hzn; (try have hlt := b2.lt); (try replace b2 := b2.below (hbn.mono hle)); (try have hlt := b3.lt); (try replace b3 := b3.below (hbn.mono hle)); (try have hlt := r4.lt); (try replace r4 := r4.below (hbn.mono hle)); (try have hlt := b6.lt); (try replace b6 := b6.below (hbn.mono hle)); have r4 := ht; clear ht; simp only [putS])
        refine wpList_chunk 1 (by kernel_rfl) ?_
        simp only [takS, Nat.reduceAdd]
        repeat (first | go_big_quiet_skip | (go_big_quiet_want; first | (go_big_quiet_op; go_big_quiet_on)))
        refine wpQuiet_nil ?_
        refine wpList_nil ?_
        have k2 : w.heap.size ≤ b_b2 := by omega
        have k3 : b_b2 < b_b3 := by have := b2.lt; omega
        have k4 : b_b3 < b_r4 := by have := b3.lt; omega
        go_upto_region 1 with fail
        refine wp_region_lit ?_
        try simp only [gelS]
        refine wpList_chunk 1 (by kernel_rfl) ?_
        simp only [takS, Nat.reduceAdd]
        repeat (first | go_big_quiet_skip | (go_big_quiet_want; first | (refine quiet_loadAny (t := 22) rfl _ _ _ rfl (fun w hw => run_load_spw ((ov_B b2 w hw).cell 0 rfl)) (by rfl) ?_; simp only [putS]; go_big_quiet_on) | (go_big_quiet_op; go_big_quiet_on)))
        refine wpQuiet_nil ?_
        refine wpList_callF (by first | rfl | simp [Region.wanted, yielded]) rfl (enters_of Try.func17 (by kernel_rfl) rfl) (by simp only [List.map_toArray, List.map_cons, List.map_nil, Act.eval, Array.getD_eq_getD_getElem?, List.getElem?_toArray, List.getElem?_cons_succ, List.getElem?_cons_zero, Option.getD_some]; rfl) ?_
        refine (P_BoundGO _ l bd _ (HS.out.below B) hn HBD.out).mono ?_
        rintro e wn ⟨rfl, hbn⟩
        have hsz := B.size
        have hzn := hbn.size
        replace B := B.trans (hbn.mono B.size)
        (try replace b2 := b2.below hbn)
        (try replace b3 := b3.below hbn)
        (try replace r4 := r4.below hbn)
        (try replace b6 := b6.below hbn)
        refine ⟨_, rfl, ?_⟩
        simp only [putS]
        (refine wpList_allocBk (t := 31) rfl _ (run_alloc_Rc _ _ rfl) ?_; intro b_b6 wn hle hge ht hbn hzn; have hsz := B.size; replace B := B.trans (hbn.mono (by omega)); have hln := Nat.lt_of_lt_of_eq (Nat.lt_succ_self _) hzn.symm; clear hzn; (try have hlt := b2.lt); (try replace b2 := b2.below (hbn.mono hle)); (try have hlt := b3.lt); (try replace b3 := b3.below (hbn.mono hle)); (try have hlt := r4.lt); (try replace r4 := r4.below (hbn.mono hle)); (try have hlt := b6.lt); (try replace b6 := b6.below (hbn.mono hle)); have b6 := ht; clear ht; simp only [putS])
        (refine wpList_storeB (t := 31) rfl _ _ rfl _ rfl _ rfl b6 (by kernel_rfl) rfl (by simp [rcA, pxC4, Value.oneCell']) ?_; clear b6; intro wn ht hcn hzn; have hsz := B.size; replace hzn := Nat.le_of_eq hzn.symm; replace B := Chg.below B hcn (by omega) B.size; (try replace b2 := b2.of_eq (hcn.block _ b2.lt (by omega))); (try replace b3 := b3.of_eq (hcn.block _ b3.lt (by omega))); (try replace r4 := r4.of_eq (hcn.block _ r4.lt (by omega))); have b6 := ht; clear ht; simp only [putS])
        refine wpList_nil ?_
        replace b6 : AtB 31 _ b_b6 (rcA bd) := b6
        go_upto_region 2 with fail
        refine wp_region_lit ?_
        try simp only [gelS]
        refine wpList_chunk 1 (by kernel_rfl) ?_
        simp only [takS, Nat.reduceAdd]
        repeat (first | go_big_quiet_skip | (go_big_quiet_want; first | (refine quiet_loadAny (t := 22) rfl _ _ _ rfl (fun w hw => run_load_spw ((ov_B b2 w hw).cell 0 rfl)) (by rfl) ?_; simp only [putS]; go_big_quiet_on) | (go_big_quiet_op; go_big_quiet_on)))
        refine wpQuiet_nil ?_
        refine wpList_callF (by first | rfl | simp [Region.wanted, yielded]) rfl (enters_of Try.func13 (by kernel_rfl) rfl) (by simp only [List.map_toArray, List.map_cons, List.map_nil, Act.eval, Array.getD_eq_getD_getElem?, List.getElem?_toArray, List.getElem?_cons_succ, List.getElem?_cons_zero, Option.getD_some]; rfl) ?_
        refine (P_ValidO _ l true _ (HS.out.below B) hn HV.out).mono ?_
        rintro e wn ⟨rfl, hbn⟩
        have hsz := B.size
        have hzn := hbn.size
        replace B := B.trans (hbn.mono B.size)
        (try replace b2 := b2.below hbn)
        (try replace b3 := b3.below hbn)
        (try replace r4 := r4.below hbn)
        (try replace b6 := b6.below hbn)
        refine ⟨_, rfl, ?_⟩
        simp only [putS]
        refine wpList_chunk 2 (by kernel_rfl) ?_
        simp only [takS, Nat.reduceAdd]
        repeat (first | go_big_quiet_skip | (go_big_quiet_want; first | (go_big_quiet_op; go_big_quiet_on)))
        refine wpQuiet_nil ?_
        refine wpList_nil ?_
        go_upto_region 4 with fail
        refine wp_region_lit ?_
        try simp only [gelS]
        refine wpList_chunk 1 (by kernel_rfl) ?_
        simp only [takS, Nat.reduceAdd]
        repeat (first | go_big_quiet_skip | (go_big_quiet_want; first | (refine quiet_loadAny (t := 31) rfl _ _ _ rfl (fun w hw => run_load_B (ov_B b6 w hw) Try.isAgg31 (by kernel_rfl)) (by rfl) ?_; simp only [putS]; go_big_quiet_on) | (go_big_quiet_op; go_big_quiet_on)))
        refine wpQuiet_nil ?_
        refine wpList_callF (by first | rfl | simp [Region.wanted, yielded]) rfl (enters_of Try.func61 (by kernel_rfl) rfl) (by simp only [List.map_toArray, List.map_cons, List.map_nil, Act.eval, Array.getD_eq_getD_getElem?, List.getElem?_toArray, List.getElem?_cons_succ, List.getElem?_cons_zero, Option.getD_some]; rfl) ?_
        refine (P_largeO bd false _ (by omega) HL.out).mono ?_
        rintro e wn ⟨rfl, hbn⟩
        have hsz := B.size
        have hzn := hbn.size
        replace B := B.trans (hbn.mono B.size)
        (try replace b2 := b2.below hbn)
        (try replace b3 := b3.below hbn)
        (try replace r4 := r4.below hbn)
        (try replace b6 := b6.below hbn)
        refine ⟨_, rfl, ?_⟩
        simp only [putS]
        refine wpList_chunk 1 (by kernel_rfl) ?_
        simp only [takS, Nat.reduceAdd]
        repeat (first | go_big_quiet_skip | (go_big_quiet_want; first | (go_big_quiet_op; go_big_quiet_on)))
        refine wpQuiet_nil ?_
        refine wpList_nil ?_
        go_upto_region 6 with fail
        refine wp_region_lit ?_
        try simp only [gelS]
        refine wpList_chunk 1 (by kernel_rfl) ?_
        simp only [takS, Nat.reduceAdd]
        repeat (first | go_big_quiet_skip | (go_big_quiet_want; first | (refine quiet_loadAny (t := 31) rfl _ _ _ rfl (fun w hw => run_load_B (ov_B b6 w hw) Try.isAgg31 (by kernel_rfl)) (by rfl) ?_; simp only [putS]; go_big_quiet_on) | (go_big_quiet_op; go_big_quiet_on)))
        refine wpQuiet_nil ?_
        (refine wpList_val rfl (.func (.func 67) #[] #[.pointer (some ⟨b_b3, 0, none⟩), .pointer (some ⟨b_b2, 0, none⟩)]) (by first | rfl | simp [go_sem, Act.eval]) ?_; simp only [putS])
        refine wpList_callF (by first | rfl | simp [Region.wanted, yielded]) rfl (enters_of Try.func63 (by kernel_rfl) rfl) (by simp only [List.map_toArray, List.map_cons, List.map_nil, Act.eval, Array.getD_eq_getD_getElem?, List.getElem?_toArray, List.getElem?_cons_succ, List.getElem?_cons_zero, Option.getD_some]; rfl) ?_
        refine (P_painted0 _ bd _ HM.out).mono ?_
        rintro e wn ⟨rfl, hbn⟩
        have hsz := B.size
        have hzn := hbn.size
        replace B := B.trans (hbn.mono B.size)
        (try replace b2 := b2.below hbn)
        (try replace b3 := b3.below hbn)
        (try replace r4 := r4.below hbn)
        (try replace b6 := b6.below hbn)
        refine ⟨_, rfl, ?_⟩
        simp only [putS]
        refine wpList_chunk 2 (by kernel_rfl) ?_
        simp only [takS, Nat.reduceAdd]
        repeat (first | go_big_quiet_skip | (go_big_quiet_want; first | (go_big_quiet_op; go_big_quiet_on)))
        refine wpQuiet_nil ?_
        (refine wpList_storeB (t := 36) rfl _ _ rfl _ rfl _ rfl r4 (by kernel_rfl) rfl (by simp [rcA, pxC4, Value.oneCell']) ?_; clear r4; intro wn ht hcn hzn; have hsz := B.size; replace hzn := Nat.le_of_eq hzn.symm; replace B := Chg.below B hcn (by omega) B.size; (try replace b2 := b2.of_eq (hcn.block _ b2.lt (by omega))); (try replace b3 := b3.of_eq (hcn.block _ b3.lt (by omega))); (try replace b6 := b6.of_eq (hcn.block _ b6.lt (by omega))); have r4 := ht; clear ht; simp only [putS])
        refine wpList_chunk 1 (by kernel_rfl) ?_
        simp only [takS, Nat.reduceAdd]
        repeat (first | go_big_quiet_skip | (go_big_quiet_want; first | (go_big_quiet_op; go_big_quiet_on)))
        refine wpQuiet_nil ?_
        refine wpList_nil ?_
        first | (refine bodyPost_ret (results_B2 (t := 36) rfl _ _ (b_r4) rfl _ rfl r4 Try.isAgg36 (by kernel_rfl)) rfl ?_) | (go_step; refine bodyPost_ret (results_B2 (t := 36) rfl _ _ (b_r4) rfl _ rfl r4 Try.isAgg36 (by kernel_rfl)) rfl ?_) | (go_step; go_step; refine bodyPost_ret (results_B2 (t := 36) rfl _ _ (b_r4) rfl _ rfl r4 Try.isAgg36 (by kernel_rfl)) rfl ?_) | (go_step; go_step; go_step; refine bodyPost_ret (results_B2 (t := 36) rfl _ _ (b_r4) rfl _ rfl r4 Try.isAgg36 (by kernel_rfl)) rfl ?_) | (go_step; go_step; go_step; go_step; refine bodyPost_ret (results_B2 (t := 36) rfl _ _ (b_r4) rfl _ rfl r4 Try.isAgg36 (by kernel_rfl)) rfl ?_) | (go_step; go_step; go_step; go_step; go_step; refine bodyPost_ret (results_B2 (t := 36) rfl _ _ (b_r4) rfl _ rfl r4 Try.isAgg36 (by kernel_rfl)) rfl ?_)
        exact ⟨none, 0, rfl, RS.nil _, B⟩
      | false =>
        have hA := hA e1 (by rw [hbd]; exact hm)
        have hE : fitsE bd = 0 := by rw [← hbd]; exact bound_fits hv (by rw [hbd]; exact hl) (by rw [hbd]; exact hm)
        rw [hbd] at hA
        have e2 : filL p l = pstR bd (paintL bd (filF p l)) [] := by unfold filL; rw [hbd, if_pos ⟨e1, hm⟩]
        have e3 : pstE bd (paintL bd (filF p l)) [] = 0 := (paint_R hE hA _).2
        rw [e1, e2]
        have HE := Lib.hid hE
        have HE3 := Lib.hid e3
        have HP := Lib.hid hp
        obtain ⟨⟨hl1, hl2⟩, hne⟩ := validG_iff.1 hv
        have HNE := Lib.hid hne
        clear hv hl hA e1 e2 hbd hm hE e3 hne
        go_enter Try.func29, Try.ntmps29
        go_upto_region 0 with fail
        refine wp_region_lit ?_
        try simp only [gelS]
        (refine wpList_boxV (t := 22) rfl _ rfl _ rfl (by rfl) ?_; intro b_b2 wn hle hge ht hbn hzn; have hsz := B.size; replace B := B.trans (hbn.mono (by omega)); have hln := Nat.lt_of_lt_of_eq (Nat.lt_succ_self _) hzn.symm; clear hzn; (try have hlt := b2.lt); (try replace b2 := b2.below (hbn.mono hle)); (try have hlt := b3.lt); (try replace b3 := b3.below (hbn.mono hle)); (try have hlt := r4.lt); (try replace r4 := r4.below (hbn.mono hle)); (try have hlt := b6.lt); (try replace b6 := b6.below (hbn.mono hle)); have b2 := ht; clear ht; simp only [putS])
        (refine wpList_boxB (t := 59) rfl _ rfl _ rfl ?_; intro b_b3 wn hle hge ht hbn hzn; have hsz := B.size; replace B := B.trans (hbn.mono (by omega)); have hln := Nat.lt_of_lt_of_eq (Nat.lt_succ_self _) hzn.symm; clear hzn; (try have hlt := b2.lt); (try replace b2 := b2.below (hbn.mono hle)); (try have hlt := b3.lt); (try replace b3 := b3.below (hbn.mono hle)); (try have hlt := r4.lt); (try replace r4 := r4.below (hbn.mono hle)); (try have hlt := b6.lt); (try replace b6 := b6.below (hbn.mono hle)); have b3 := ht; clear ht; simp only [putS])
        (refine wpList_allocBk (t := 36) rfl _ (run_alloc_R _ _ rfl) ?_; intro b_r4 wn hle hge ht hbn hzn; have hsz := B.size; replace B := B.trans (hbn.mono (by omega)); have hln := Nat.lt_of_lt_of_eq (Nat.lt_succ_self _) hzn.symm; clear hzn; (try have hlt := b2.lt); (try replace b2 := b2.below (hbn.mono hle)); (try have hlt := b3.lt); (try replace b3 := b3.below (hbn.mono hle)); (try have hlt := r4.lt); (try replace r4 := r4.below (hbn.mono hle)); (try have hlt := b6.lt); (try replace b6 := b6.below (hbn.mono hle)); have r4 := ht; clear ht; simp only [putS])
        refine wpList_chunk 1 (by kernel_rfl) ?_
        simp only [takS, Nat.reduceAdd]
        repeat (first | go_big_quiet_skip | (go_big_quiet_want; first | (go_big_quiet_op; go_big_quiet_on)))
        refine wpQuiet_nil ?_
        refine wpList_nil ?_
        have k2 : w.heap.size ≤ b_b2 := by omega
        have k3 : b_b2 < b_b3 := by have := b2.lt; omega
        have k4 : b_b3 < b_r4 := by have := b3.lt; omega
        go_upto_region 1 with fail
        refine wp_region_lit ?_
        try simp only [gelS]
        refine wpList_chunk 1 (by kernel_rfl) ?_
        simp only [takS, Nat.reduceAdd]
        repeat (first | go_big_quiet_skip | (go_big_quiet_want; first | (refine quiet_loadAny (t := 22) rfl _ _ _ rfl (fun w hw => run_load_spw ((ov_B b2 w hw).cell 0 rfl)) (by rfl) ?_; simp only [putS]; go_big_quiet_on) | (go_big_quiet_op; go_big_quiet_on)))
        refine wpQuiet_nil ?_
        refine wpList_callF (by first | rfl | simp [Region.wanted, yielded]) rfl (enters_of Try.func17 (by kernel_rfl) rfl) (by simp only [List.map_toArray, List.map_cons, List.map_nil, Act.eval, Array.getD_eq_getD_getElem?, List.getElem?_toArray, List.getElem?_cons_succ, List.getElem?_cons_zero, Option.getD_some]; rfl) ?_
        refine (P_BoundGO _ l bd _ (HS.out.below B) hn HBD.out).mono ?_
        rintro e wn ⟨rfl, hbn⟩
        have hsz := B.size
        have hzn := hbn.size
        replace B := B.trans (hbn.mono B.size)
        (try replace b2 := b2.below hbn)
        (try replace b3 := b3.below hbn)
        (try replace r4 := r4.below hbn)
        (try replace b6 := b6.below hbn)
        refine ⟨_, rfl, ?_⟩
        simp only [putS]
        (refine wpList_allocBk (t := 31) rfl _ (run_alloc_Rc _ _ rfl) ?_; intro b_b6 wn hle hge ht hbn hzn; have hsz := B.size; replace B := B.trans (hbn.mono (by omega)); have hln := Nat.lt_of_lt_of_eq (Nat.lt_succ_self _) hzn.symm; clear hzn; (try have hlt := b2.lt); (try replace b2 := b2.below (hbn.mono hle)); (try have hlt := b3.lt); (try replace b3 := b3.below (hbn.mono hle)); (try have hlt := r4.lt); (try replace r4 := r4.below (hbn.mono hle)); (try have hlt := b6.lt); (try replace b6 := b6.below (hbn.mono hle)); have b6 := ht; clear ht; simp only [putS])
        (refine wpList_storeB (t := 31) rfl _ _ rfl _ rfl _ rfl b6 (by kernel_rfl) rfl (by simp [rcA, pxC4, Value.oneCell']) ?_; clear b6; intro wn ht hcn hzn; have hsz := B.size; replace hzn := Nat.le_of_eq hzn.symm; replace B := Chg.below B hcn (by omega) B.size; (try replace b2 := b2.of_eq (hcn.block _ b2.lt (by omega))); (try replace b3 := b3.of_eq (hcn.block _ b3.lt (by omega))); (try replace r4 := r4.of_eq (hcn.block _ r4.lt (by omega))); have b6 := ht; clear ht; simp only [putS])
        refine wpList_nil ?_
        replace b6 : AtB 31 _ b_b6 (rcA bd) := b6
        go_upto_region 2 with fail
        refine wp_region_lit ?_
        try simp only [gelS]
        refine wpList_chunk 1 (by kernel_rfl) ?_
        simp only [takS, Nat.reduceAdd]
        repeat (first | go_big_quiet_skip | (go_big_quiet_want; first | (refine quiet_loadAny (t := 22) rfl _ _ _ rfl (fun w hw => run_load_spw ((ov_B b2 w hw).cell 0 rfl)) (by rfl) ?_; simp only [putS]; go_big_quiet_on) | (go_big_quiet_op; go_big_quiet_on)))
        refine wpQuiet_nil ?_
        refine wpList_callF (by first | rfl | simp [Region.wanted, yielded]) rfl (enters_of Try.func13 (by kernel_rfl) rfl) (by simp only [List.map_toArray, List.map_cons, List.map_nil, Act.eval, Array.getD_eq_getD_getElem?, List.getElem?_toArray, List.getElem?_cons_succ, List.getElem?_cons_zero, Option.getD_some]; rfl) ?_
        refine (P_ValidO _ l true _ (HS.out.below B) hn HV.out).mono ?_
        rintro e wn ⟨rfl, hbn⟩
        have hsz := B.size
        have hzn := hbn.size
        replace B := B.trans (hbn.mono B.size)
        (try replace b2 := b2.below hbn)
        (try replace b3 := b3.below hbn)
        (try replace r4 := r4.below hbn)
        (try replace b6 := b6.below hbn)
        refine ⟨_, rfl, ?_⟩
        simp only [putS]
        refine wpList_chunk 2 (by kernel_rfl) ?_
        simp only [takS, Nat.reduceAdd]
        repeat (first | go_big_quiet_skip | (go_big_quiet_want; first | (go_big_quiet_op; go_big_quiet_on)))
        refine wpQuiet_nil ?_
        refine wpList_nil ?_
        go_upto_region 4 with fail
        refine wp_region_lit ?_
        try simp only [gelS]
        refine wpList_chunk 1 (by kernel_rfl) ?_
        simp only [takS, Nat.reduceAdd]
        repeat (first | go_big_quiet_skip | (go_big_quiet_want; first | (refine quiet_loadAny (t := 31) rfl _ _ _ rfl (fun w hw => run_load_B (ov_B b6 w hw) Try.isAgg31 (by kernel_rfl)) (by rfl) ?_; simp only [putS]; go_big_quiet_on) | (go_big_quiet_op; go_big_quiet_on)))
        refine wpQuiet_nil ?_
        refine wpList_callF (by first | rfl | simp [Region.wanted, yielded]) rfl (enters_of Try.func61 (by kernel_rfl) rfl) (by simp only [List.map_toArray, List.map_cons, List.map_nil, Act.eval, Array.getD_eq_getD_getElem?, List.getElem?_toArray, List.getElem?_cons_succ, List.getElem?_cons_zero, Option.getD_some]; rfl) ?_
        refine (P_largeO bd false _ (by omega) HL.out).mono ?_
        rintro e wn ⟨rfl, hbn⟩
        have hsz := B.size
        have hzn := hbn.size
        replace B := B.trans (hbn.mono B.size)
        (try replace b2 := b2.below hbn)
        (try replace b3 := b3.below hbn)
        (try replace r4 := r4.below hbn)
        (try replace b6 := b6.below hbn)
        refine ⟨_, rfl, ?_⟩
        simp only [putS]
        refine wpList_chunk 1 (by kernel_rfl) ?_
        simp only [takS, Nat.reduceAdd]
        repeat (first | go_big_quiet_skip | (go_big_quiet_want; first | (go_big_quiet_op; go_big_quiet_on)))
        refine wpQuiet_nil ?_
        refine wpList_nil ?_
        go_upto_region 6 with fail
        have HX := Lib.hid (show ∀ W, Below wn.heap.size wn W → ∀ x y, hasR bd x y = true → Calls Try.prog 67 (#[.int .i64 x, .int .i64 y] ++ #[.pointer (some ⟨b_b3, 0, none⟩), .pointer (some ⟨b_b2, 0, none⟩)]) W fun e w' => e = .returned (Px.v (filF p l x y)) ∧ Below W.heap.size W w' from fun W hW x y hxy => by
          have hx := (hasR_iff bd x y).1 hxy
          exact P_fill1 b_b2 b_b3 p _ l x y W (b2.of_eq (hW.block _ b2.lt)) (b3.of_eq (hW.block _ b3.lt)) ((HS.out.below B).below hW) HP.out (by omega) HNE.out (by omega) (by omega))
        refine wp_region_lit ?_
        try simp only [gelS]
        refine wpList_chunk 1 (by kernel_rfl) ?_
        simp only [takS, Nat.reduceAdd]
        repeat (first | go_big_quiet_skip | (go_big_quiet_want; first | (refine quiet_loadAny (t := 31) rfl _ _ _ rfl (fun w hw => run_load_B (ov_B b6 w hw) Try.isAgg31 (by kernel_rfl)) (by rfl) ?_; simp only [putS]; go_big_quiet_on) | (go_big_quiet_op; go_big_quiet_on)))
        refine wpQuiet_nil ?_
        (refine wpList_val rfl (.func (.func 67) #[] #[.pointer (some ⟨b_b3, 0, none⟩), .pointer (some ⟨b_b2, 0, none⟩)]) (by first | rfl | simp [go_sem, Act.eval]) ?_; simp only [putS])
        refine wpList_callF (by first | rfl | simp [Region.wanted, yielded]) rfl (enters_of Try.func63 (by kernel_rfl) rfl) (by simp only [List.map_toArray, List.map_cons, List.map_nil, Act.eval, Array.getD_eq_getD_getElem?, List.getElem?_toArray, List.getElem?_cons_succ, List.getElem?_cons_zero, Option.getD_some]; rfl) ?_
        refine (P_painted1 _ _ (enters_of Try.func67 (by kernel_rfl) rfl) bd (filF p l) _ HE.out (filF_ok HP.out l) HX.out).mono ?_
        rintro e wn ⟨a5, c5, rfl, rs5, hbn⟩
        have hsz := B.size
        have hzn := hbn.size
        replace B := B.trans (hbn.mono B.size)
        (try replace b2 := b2.below hbn)
        (try replace b3 := b3.below hbn)
        (try replace r4 := r4.below hbn)
        (try replace b6 := b6.below hbn)
        rw [HE3.out]
        refine ⟨_, rfl, ?_⟩
        simp only [putS]
        refine wpList_chunk 2 (by kernel_rfl) ?_
        simp only [takS, Nat.reduceAdd]
        repeat (first | go_big_quiet_skip | (go_big_quiet_want; first | (go_big_quiet_op; go_big_quiet_on)))
        refine wpQuiet_nil ?_
        (refine wpList_storeB (t := 36) rfl _ _ rfl _ rfl _ rfl r4 (by kernel_rfl) rfl (by simp [rcA, pxC4, Value.oneCell']) ?_; have r4o := r4; clear r4; intro wn ht hcn hzn; (try replace rs5 := rs5.chg r4o (by simp [rcA]) hcn); have hsz := B.size; replace hzn := Nat.le_of_eq hzn.symm; replace B := Chg.below B hcn (by omega) B.size; (try replace b2 := b2.of_eq (hcn.block _ b2.lt (by omega))); (try replace b3 := b3.of_eq (hcn.block _ b3.lt (by omega))); (try replace b6 := b6.of_eq (hcn.block _ b6.lt (by omega))); have r4 := ht; clear ht; simp only [putS])
        refine wpList_chunk 1 (by kernel_rfl) ?_
        simp only [takS, Nat.reduceAdd]
        repeat (first | go_big_quiet_skip | (go_big_quiet_want; first | (go_big_quiet_op; go_big_quiet_on)))
        refine wpQuiet_nil ?_
        refine wpList_nil ?_
        first | (refine bodyPost_ret (results_B2 (t := 36) rfl _ _ (b_r4) rfl _ rfl r4 Try.isAgg36 (by kernel_rfl)) rfl ?_) | (go_step; refine bodyPost_ret (results_B2 (t := 36) rfl _ _ (b_r4) rfl _ rfl r4 Try.isAgg36 (by kernel_rfl)) rfl ?_) | (go_step; go_step; refine bodyPost_ret (results_B2 (t := 36) rfl _ _ (b_r4) rfl _ rfl r4 Try.isAgg36 (by kernel_rfl)) rfl ?_) | (go_step; go_step; go_step; refine bodyPost_ret (results_B2 (t := 36) rfl _ _ (b_r4) rfl _ rfl r4 Try.isAgg36 (by kernel_rfl)) rfl ?_) | (go_step; go_step; go_step; go_step; refine bodyPost_ret (results_B2 (t := 36) rfl _ _ (b_r4) rfl _ rfl r4 Try.isAgg36 (by kernel_rfl)) rfl ?_) | (go_step; go_step; go_step; go_step; go_step; refine bodyPost_ret (results_B2 (t := 36) rfl _ _ (b_r4) rfl _ rfl r4 Try.isAgg36 (by kernel_rfl)) rfl ?_)
        exact ⟨_, _, rfl, rs5, B⟩
@[go_sem] theorem guard_pxG (op : BinOp) (x y : Operand) (a b : Array Value) (w : World) : (eqGuard op 59 x y (.agg a) (.agg b)).run Try.prog w = .ok () w := run_eqGuard_agg w op 59 x y _ _ (by kernel_rfl)
theorem eql_pxG (p q : Px) (b : Bool) (h : decide (p = q) = b) (w : World) : (binOp .eql 59 (.agg (pxC4 p)) (.agg (pxC4 q))).run Try.prog w = .ok (.bool b) w := by
  have := eql_px p q w
  rw [h] at this
  exact this
def sP15 : Px := ⟨0, 7, 0, 200⟩
theorem sP15_ok : sP15.ok := by unfold Px.ok sP15; simp
theorem fade15 : fadeP sP15 255 = sP15 := by rfl
theorem clean15 : cleanP sP15 = sP15 := by rfl
/-- What Fill makes of a rectangle's polygon. -/
theorem fill_rect (r : Rc) (h : -65536 ≤ r.x0 ∧ r.x1 ≤ 65536 ∧ -65536 ≤ r.y0 ∧ r.y1 ≤ 65536) (k : r.x0 < r.x1 ∧ r.y0 < r.y1) (s : r.x1 - r.x0 ≤ 40 ∧ r.y1 - r.y0 ≤ 40) : filE (rcP r) = 0 ∧ tlN (boundG (rcP r)) ≤ 1000 ∧ validL (filL sP15 (rcP r)) = true ∧ TokL (filL sP15 (rcP r)) ∧ boundL (filL sP15 (rcP r)) = r ∧ ∀ x y, getL (filL sP15 (rcP r)) x y = if hasR r x y = true then sP15 else Px.zero := by
  have hv := (rc_nearL r h k).1
  have hb := (rc_bound r h k).1
  have hE : fitsE r = 0 := fits_small h k (by omega)
  have hA : tlN r ≤ 1000 := tlN_small hE s
  have hL : largeR (boundG (rcP r)) = false := by
    rw [hb]
    unfold largeR
    rw [Bool.or_eq_false_iff]
    exact ⟨decide_eq_false (by omega), decide_eq_false (by omega)⟩
  have hm : emptyR (boundG (rcP r)) = false := by rw [hb]; exact (emptyR_not r).2 k
  have e1 : filE (rcP r) = 0 := by unfold filE; rw [if_pos hv, if_neg (by rw [hL]; simp)]
  have e2 : filL sP15 (rcP r) = pstR r (paintL r (filF sP15 (rcP r))) [] := by unfold filL; rw [if_pos ⟨e1, hm⟩, hb]
  have hg : ∀ x y, getL (filL sP15 (rcP r)) x y = if hasR r x y = true then sP15 else Px.zero := fun x y => by
    rw [e2, paint_get hE hA]
    split
    · rename_i hh
      unfold filF
      rw [rcP_cov r k, hh]
      show cleanP (fadeP sP15 255) = sP15
      rw [fade15, clean15]
    · rfl
  have hvl : validL (filL sP15 (rcP r)) = true := by rw [e2]; exact pstR_valid _ _ _
  refine ⟨e1, by rw [hb]; exact hA, hvl, ?_, bound_rect hvl k (fun x y => ?_), hg⟩
  · rw [e2]
    exact pstR_tok (paintL_ok (filF_ok sP15_ok _)) TokL.nil
  · rw [hg]
    by_cases hh : hasR r x y = true
    · rw [if_pos hh]
      exact ⟨fun _ => hh, fun _ => by show (0 : Int) < 200; omega⟩
    · rw [if_neg hh]
      exact ⟨fun h => absurd h (by show ¬ (0 : Int) < 0; omega), fun h => absurd h hh⟩
theorem P_BoundsX (v : Value) (ls : List TA) (r : Rc) (w : World) (h : RS v ls w) (tk : TokL ls) (hn : ls.length ≤ maxLen) (hv : validL ls = true) (e : boundL ls = r) : Calls Try.prog 31 #[.agg #[v]] w fun e w' => e = .returned (.agg (rcA r)) ∧ Below w.heap.size w w' := e ▸ P_BoundsV v ls w h tk hn hv
theorem P_FillX (v : Value) (l : List Pnt) (ls : List TA) (w : World) (h : RSE ptE v l w) (hn : l.length ≤ maxLen) (hE : filE l = 0) (hA : tlN (boundG l) ≤ 1000) (e : filL sP15 l = ls) : Calls Try.prog 29 #[v, .agg (pxC4 sP15)] w fun e w' => ∃ a cp, e = .returned (.tuple #[.agg #[.slice a ls.length cp], .int .i64 0]) ∧ RS (.slice a ls.length cp) ls w' ∧ Below w.heap.size w w' := by
  have := P_FillG v l sP15 w h hn sP15_ok (fun _ _ => hA)
  rw [hE, e] at this
  exact this
theorem R_HasX (r : Rc) (x y : Int) (b : Bool) (w : World) (e : hasR r x y = b) : Calls Try.prog 28 #[.agg (rcA r), .int .i64 x, .int .i64 y] w fun e w' => e = .returned (.bool b) ∧ Below w.heap.size w w' := e ▸ R_Has r x y w
set_option maxHeartbeats 16000000 in
theorem walk_SelectionRects (n0 n1 n2 n3 m0 m1 : Int) (hw : (Lit.int .i64 n0).wf = true ∧ (Lit.int .i64 n1).wf = true ∧ (Lit.int .i64 n2).wf = true ∧ (Lit.int .i64 n3).wf = true) (hm : (Lit.int .i64 m0).wf = true ∧ (Lit.int .i64 m1).wf = true) (w : World) : Calls Try.prog 7 #[.agg #[.int .i64 n0, .int .i64 n1, .int .i64 n2, .int .i64 n3], .agg #[.int .i64 m0, .int .i64 m1]] w fun e w' => e = .returned (.bool true) ∧ Below w.heap.size w w' := by
  have B := Below.refl w.heap.size w
  clear hw hm
  obtain ⟨k2, hk2⟩ : ∃ r, n2 % 20 = r := ⟨_, rfl⟩
  have bk2 : 0 ≤ k2 ∧ k2 ≤ 19 := by omega
  have Hk2 := Lib.hid hk2
  clear hk2
  obtain ⟨k3, hk3⟩ : ∃ r, n3 % 20 = r := ⟨_, rfl⟩
  have bk3 : 0 ≤ k3 ∧ k3 ≤ 19 := by omega
  have Hk3 := Lib.hid hk3
  clear hk3
  obtain ⟨x1, hx1⟩ : ∃ r, m0 % 90 = r := ⟨_, rfl⟩
  have bx1 : 0 ≤ x1 ∧ x1 ≤ 89 := by omega
  have Hx1 := Lib.hid hx1
  clear hx1
  obtain ⟨y1, hy1⟩ : ∃ r, m1 % 90 = r := ⟨_, rfl⟩
  have by1 : 0 ≤ y1 ∧ y1 ≤ 89 := by omega
  have Hy1 := Lib.hid hy1
  clear hy1
  obtain ⟨sr, hsr⟩ : ∃ s, smR n0 n1 (1 + k2) (1 + k3) = s := ⟨_, rfl⟩
  have HS := Lib.hid (show ∀ W, Calls Try.prog 23 #[.agg #[.int .i64 n0, .int .i64 n1, .int .i64 (1 + k2), .int .i64 (1 + k3)]] W fun e w' => e = .returned (.agg (rcA sr)) ∧ Below W.heap.size W w' from fun W => hsr ▸ R_SmallR n0 n1 (1 + k2) (1 + k3) W)
  have hsb : (-20 ≤ sr.x0 ∧ sr.x0 ≤ 19) ∧ (-20 ≤ sr.y0 ∧ sr.y0 ≤ 19) ∧ (1 ≤ sr.x1 - sr.x0 ∧ sr.x1 - sr.x0 ≤ 20) ∧ (1 ≤ sr.y1 - sr.y0 ∧ sr.y1 - sr.y0 ≤ 20) := by
    rw [← hsr]
    unfold smR
    simp only
    omega
  obtain ⟨⟨s1, s2⟩, ⟨s3, s4⟩, ⟨s5, s6⟩, s7, s8⟩ := hsb
  have hk : sr.x0 < sr.x1 ∧ sr.y0 < sr.y1 := by omega
  have hbig : -65536 ≤ sr.x0 ∧ sr.x1 ≤ 65536 ∧ -65536 ≤ sr.y0 ∧ sr.y1 ≤ 65536 := by omega
  obtain ⟨g1, g2, g3, g4, g5, g6⟩ := fill_rect sr hbig hk (by omega)
  obtain ⟨F, hF⟩ : ∃ F, filL sP15 (rcP sr) = F := ⟨_, rfl⟩
  rw [hF] at g3 g4 g5 g6
  have G1 := Lib.hid g1
  have G2 := Lib.hid g2
  have G3 := Lib.hid g3
  have G4 := Lib.hid g4
  have G5 := Lib.hid g5
  have HF := Lib.hid hF
  have gx := g6 (x1 - 25) (y1 - 25)
  have v1 := rc_nearL sr hbig hk
  have c1 := (cover_valid v1.1 (x1 - 25) (y1 - 25)).trans (rcP_cov sr hk _ _)
  have c2 := (cover_valid v1.2 (x1 - 25) (y1 - 25)).trans (rcQ_cov sr hk _ _)
  have HB := Lib.hid (rc_bound sr hbig hk).2
  have HFL := Lib.hid (valid_len g3)
  have wx : (Lit.int .i64 (x1 - 25)).wf = true := wf_mk (by omega) (by omega)
  have wy : (Lit.int .i64 (y1 - 25)).wf = true := wf_mk (by omega) (by omega)
  have er := eqls_rcB sr
  have ep := eql_pxG sP15 sP15 true (by decide)
  have ez := eql_pxG Px.zero Px.zero true (by decide)
  have en := eql_pxG sP15 Px.zero false (by decide)
  simp only [pxC4, sP15, Px.zero] at ep ez en
  have mlP : (rcP sr).length ≤ maxLen := by unfold maxLen rcP; simp
  have mlQ : (rcQ sr).length ≤ maxLen := by unfold maxLen rcQ; simp
  clear hsr g1 g2 g3 g4 g5 g6 hF v1 hk hbig
  cases hh : hasR sr (x1 - 25) (y1 - 25) with
  | true =>
    rw [hh] at c1 c2 gx
    have HH := Lib.hid hh
    have C1 := Lib.hid (show coverP (rcP sr) (x1 - 25) (y1 - 25) = 255 from c1)
    have C2 := Lib.hid (show coverP (rcQ sr) (x1 - 25) (y1 - 25) = 255 from c2)
    have GX := Lib.hid (show getL F (x1 - 25) (y1 - 25) = ⟨0, 7, 0, 200⟩ from gx)
    clear hh c1 c2 gx
    go_enter Try.func7, Try.ntmps7
    go_upto_region 0 with fail
    refine wp_region_lit ?_
    try simp only [gelS]
    (refine wpList_boxB (t := 46) rfl _ rfl _ rfl ?_; intro b_b2 wn hle hge ht hbn hzn; have hsz := B.size; replace B := B.trans (hbn.mono (by omega)); have hln := Nat.lt_of_lt_of_eq (Nat.lt_succ_self _) hzn.symm; clear hzn; have b2 := ht; clear ht; simp only [putS])
    (refine wpList_boxB (t := 24) rfl _ rfl _ rfl ?_; intro b_b3 wn hle hge ht hbn hzn; have hsz := B.size; replace B := B.trans (hbn.mono (by omega)); have hln := Nat.lt_of_lt_of_eq (Nat.lt_succ_self _) hzn.symm; clear hzn; (try have hlt := b2.lt); (try replace b2 := b2.below (hbn.mono hle)); have b3 := ht; clear ht; simp only [putS])
    refine wpList_chunk 1 (by kernel_rfl) ?_
    simp only [takS, Nat.reduceAdd]
    repeat (first | go_big_quiet_skip | (go_big_quiet_want; first | (go_big_quiet_op; go_big_quiet_on)))
    refine wpQuiet_nil ?_
    refine wpList_nil ?_
    go_upto_region 1 with fail
    refine wp_region_lit ?_
    try simp only [gelS]
    refine wpList_callF (by first | rfl | simp [Region.wanted, yielded]) rfl (enters_of Try.func10 (by kernel_rfl) rfl) (by simp only [List.map_toArray, List.map_cons, List.map_nil, Act.eval, Array.getD_eq_getD_getElem?, List.getElem?_toArray, List.getElem?_cons_succ, List.getElem?_cons_zero, Option.getD_some]; rfl) ?_
    refine (sanity15 _).mono ?_
    rintro e wn ⟨rfl, hbn⟩
    have hsz := B.size
    have hzn := hbn.size
    replace B := B.trans (hbn.mono B.size)
    (try replace b2 := b2.below hbn)
    (try replace b3 := b3.below hbn)
    refine ⟨_, rfl, ?_⟩
    simp only [putS]
    refine wpList_chunk 1 (by kernel_rfl) ?_
    simp only [takS, Nat.reduceAdd]
    repeat (first | go_big_quiet_skip | (go_big_quiet_want; first | (go_big_quiet_op; go_big_quiet_on)))
    refine wpQuiet_nil ?_
    refine wpList_nil ?_
    go_upto_region 2 with fail
    try simp only [gelS]
    try have lx_b2 := b2.lt
    try have lx_b3 := b3.lt
    refine wp_region_RL 15 [(6, detS ?v1_6), (10, detS ?v1_10), (13, detS ?v1_13), (14, ptrS (wn.heap.size) 31 #[.int .i64 0, .int .i64 0, .int .i64 0, .int .i64 0])] (by kernel_rfl) (by kernel_rfl) (by kernel_rfl) ?_
    rotate_left 3
    simp only [takS, Nat.reduceAdd]
    refine wpRL_chunk 6 (by kernel_rfl) ?_
    simp only [takS, Nat.reduceAdd]
    repeat (first | go_big_quiet_skip | (go_big_quiet_want; first | (refine quiet_loadAny (t := 3) rfl _ _ _ rfl (fun w hw => run_load_int ((ov_B b2 w hw).cellL 0 rfl)) (by rfl) ?_; simp only [putS]; go_big_quiet_on) | (refine quiet_loadAny (t := 3) rfl _ _ _ rfl (fun w hw => run_load_int ((ov_B b2 w hw).cellL 1 rfl)) (by rfl) ?_; simp only [putS]; go_big_quiet_on) | (refine quiet_loadAny (t := 3) rfl _ _ _ rfl (fun w hw => run_load_int ((ov_B b2 w hw).cellL 2 rfl)) (by rfl) ?_; simp only [putS]; go_big_quiet_on) | (refine quiet_loadAny (t := 3) rfl _ _ _ rfl (fun w hw => run_load_int ((ov_B b2 w hw).cellL 3 rfl)) (by rfl) ?_; simp only [putS]; go_big_quiet_on) | (refine quiet_loadAny (t := 3) rfl _ _ _ rfl (fun w hw => run_load_int ((ov_B b3 w hw).cellL 0 rfl)) (by rfl) ?_; simp only [putS]; go_big_quiet_on) | (refine quiet_loadAny (t := 3) rfl _ _ _ rfl (fun w hw => run_load_int ((ov_B b3 w hw).cellL 1 rfl)) (by rfl) ?_; simp only [putS]; go_big_quiet_on) | (refine quiet_loadAny (t := 3) rfl _ _ _ rfl (fun w hw => run_load_int ((ov_B b6 w hw).cellL 0 rfl)) (by rfl) ?_; simp only [putS]; go_big_quiet_on) | (refine quiet_loadAny (t := 3) rfl _ _ _ rfl (fun w hw => run_load_int ((ov_B b6 w hw).cellL 1 rfl)) (by rfl) ?_; simp only [putS]; go_big_quiet_on) | (refine quiet_loadAny (t := 3) rfl _ _ _ rfl (fun w hw => run_load_int ((ov_B b6 w hw).cellL 2 rfl)) (by rfl) ?_; simp only [putS]; go_big_quiet_on) | (refine quiet_loadAny (t := 3) rfl _ _ _ rfl (fun w hw => run_load_int ((ov_B b6 w hw).cellL 3 rfl)) (by rfl) ?_; simp only [putS]; go_big_quiet_on) | (go_big_quiet_op; go_big_quiet_on)))
    refine wpQuiet_nil ?_
    refine wpRL_callB (by rfl) (by first | rfl | simp [Region.wanted, yielded]) ?_ ?_
    · intro wn hbn hE Kx hKx
      have hsz := B.size
      have hzn := hbn.size
      replace B := B.trans (hbn.mono B.size)
      (try replace b2 := b2.below hbn)
      (try replace b3 := b3.below hbn)
      (try replace b6 := b6.below hbn)
      refine wp_callF rfl (enters_of Try.func12 (by kernel_rfl) rfl) (by simp only [List.map_toArray, List.map_cons, List.map_nil, Act.eval, Array.getD_eq_getD_getElem?, List.getElem?_toArray, List.getElem?_cons_succ, List.getElem?_cons_zero, Option.getD_some]; rfl) ?_
      refine (L15_restO n2 20 k2 (by omega) Hk2.out wn).mono ?_
      rintro e wm ⟨rfl, hbm⟩
      refine ⟨_, rfl, ?_⟩
      have hz := hKx () wm trivial hbm
      dsimp only [detS] at hz
      exact hz
    rintro ⟨⟩
    dsimp only [detS]
    simp only [putS]
    refine wpRL_chunk 3 (by kernel_rfl) ?_
    simp only [takS, Nat.reduceAdd]
    repeat (first | go_big_quiet_skip | (go_big_quiet_want; first | (refine quiet_loadAny (t := 3) rfl _ _ _ rfl (fun w hw => run_load_int ((ov_B b2 w hw).cellL 0 rfl)) (by rfl) ?_; simp only [putS]; go_big_quiet_on) | (refine quiet_loadAny (t := 3) rfl _ _ _ rfl (fun w hw => run_load_int ((ov_B b2 w hw).cellL 1 rfl)) (by rfl) ?_; simp only [putS]; go_big_quiet_on) | (refine quiet_loadAny (t := 3) rfl _ _ _ rfl (fun w hw => run_load_int ((ov_B b2 w hw).cellL 2 rfl)) (by rfl) ?_; simp only [putS]; go_big_quiet_on) | (refine quiet_loadAny (t := 3) rfl _ _ _ rfl (fun w hw => run_load_int ((ov_B b2 w hw).cellL 3 rfl)) (by rfl) ?_; simp only [putS]; go_big_quiet_on) | (refine quiet_loadAny (t := 3) rfl _ _ _ rfl (fun w hw => run_load_int ((ov_B b3 w hw).cellL 0 rfl)) (by rfl) ?_; simp only [putS]; go_big_quiet_on) | (refine quiet_loadAny (t := 3) rfl _ _ _ rfl (fun w hw => run_load_int ((ov_B b3 w hw).cellL 1 rfl)) (by rfl) ?_; simp only [putS]; go_big_quiet_on) | (refine quiet_loadAny (t := 3) rfl _ _ _ rfl (fun w hw => run_load_int ((ov_B b6 w hw).cellL 0 rfl)) (by rfl) ?_; simp only [putS]; go_big_quiet_on) | (refine quiet_loadAny (t := 3) rfl _ _ _ rfl (fun w hw => run_load_int ((ov_B b6 w hw).cellL 1 rfl)) (by rfl) ?_; simp only [putS]; go_big_quiet_on) | (refine quiet_loadAny (t := 3) rfl _ _ _ rfl (fun w hw => run_load_int ((ov_B b6 w hw).cellL 2 rfl)) (by rfl) ?_; simp only [putS]; go_big_quiet_on) | (refine quiet_loadAny (t := 3) rfl _ _ _ rfl (fun w hw => run_load_int ((ov_B b6 w hw).cellL 3 rfl)) (by rfl) ?_; simp only [putS]; go_big_quiet_on) | (go_big_quiet_op; go_big_quiet_on)))
    refine wpQuiet_nil ?_
    refine wpRL_callB (by rfl) (by first | rfl | simp [Region.wanted, yielded]) ?_ ?_
    · intro wn hbn hE Kx hKx
      have hsz := B.size
      have hzn := hbn.size
      replace B := B.trans (hbn.mono B.size)
      (try replace b2 := b2.below hbn)
      (try replace b3 := b3.below hbn)
      (try replace b6 := b6.below hbn)
      refine wp_callF rfl (enters_of Try.func12 (by kernel_rfl) rfl) (by simp only [List.map_toArray, List.map_cons, List.map_nil, Act.eval, Array.getD_eq_getD_getElem?, List.getElem?_toArray, List.getElem?_cons_succ, List.getElem?_cons_zero, Option.getD_some]; rfl) ?_
      refine (L15_restO n3 20 k3 (by omega) Hk3.out wn).mono ?_
      rintro e wm ⟨rfl, hbm⟩
      refine ⟨_, rfl, ?_⟩
      have hz := hKx () wm trivial hbm
      dsimp only [detS] at hz
      exact hz
    rintro ⟨⟩
    dsimp only [detS]
    simp only [putS]
    refine wpRL_chunk 2 (by kernel_rfl) ?_
    simp only [takS, Nat.reduceAdd]
    repeat (first | go_big_quiet_skip | (go_big_quiet_want; first | (go_big_quiet_op; go_big_quiet_on)))
    refine wpQuiet_nil ?_
    refine wpRL_callB (by rfl) (by first | rfl | simp [Region.wanted, yielded]) ?_ ?_
    · intro wn hbn hE Kx hKx
      have hsz := B.size
      have hzn := hbn.size
      replace B := B.trans (hbn.mono B.size)
      (try replace b2 := b2.below hbn)
      (try replace b3 := b3.below hbn)
      (try replace b6 := b6.below hbn)
      refine wp_callF rfl (enters_of Try.func23 (by kernel_rfl) rfl) (by simp only [List.map_toArray, List.map_cons, List.map_nil, Act.eval, Array.getD_eq_getD_getElem?, List.getElem?_toArray, List.getElem?_cons_succ, List.getElem?_cons_zero, Option.getD_some]; rfl) ?_
      refine (HS.out wn).mono ?_
      rintro e wm ⟨rfl, hbm⟩
      refine ⟨_, rfl, ?_⟩
      have hz := hKx () wm trivial hbm
      dsimp only [detS] at hz
      exact hz
    rintro ⟨⟩
    dsimp only [detS]
    simp only [putS]
    refine wpRL_callB (by rfl) (by first | rfl | simp [Region.wanted, yielded]) ?_ ?_
    · intro wn hbn hE Kx hKx
      have hsz := B.size
      have hzn := hbn.size
      replace B := B.trans (hbn.mono B.size)
      (try replace b2 := b2.below hbn)
      (try replace b3 := b3.below hbn)
      (try replace b6 := b6.below hbn)
      refine owp_allocBk (t := 31) _ (run_alloc_Rc _ _ rfl) ?_
      intro b wm h1 h2 ht hbm hzm
      exact hKx b wm ⟨Nat.le_trans hbn.size h1, ht⟩ (hbm.mono h1)
    rintro b_b6
    dsimp only [detS, ptrS]
    simp only [putS]
    refine wpRL_nil ?_
    intro wn hbn hE
    have hsz := B.size
    have hzn := hbn.size
    replace B := B.trans (hbn.mono B.size)
    (try replace b2 := b2.below hbn)
    (try replace b3 := b3.below hbn)
    (try replace b6 := b6.below hbn)
    obtain ⟨hge_b6, b6⟩ : _ ∧ AtB _ _ _ _ := hE 14
    clear hE
    try simp only [List.drop_succ_cons, List.drop_zero]
    go_wp2_with (first | (refine wpList_storeB (t := 31) rfl _ _ rfl _ rfl _ rfl b6 (by kernel_rfl) rfl (by simp [rcA, pxC4, Value.oneCell']) ?_; have b6o := b6; clear b6; intro wn ht hcn hzn; (try replace rs1 := rs1.chg b6o (by simp [rcA, pxC4]) hcn); have hsz := B.size; replace hzn := Nat.le_of_eq hzn.symm; replace B := Chg.below B hcn (by omega) B.size; (try replace b2 := b2.of_eq (hcn.block _ b2.lt (by omega))); (try replace b3 := b3.of_eq (hcn.block _ b3.lt (by omega))); (try replace s51 := s51.of_eq (hcn.block _ s51.lt (by omega))); (try replace s64 := s64.of_eq (hcn.block _ s64.lt (by omega))); (try replace p12 := p12.of_eq (hcn.block _ p12.lt (by omega))); (try replace r13 := r13.of_eq (hcn.block _ r13.lt (by omega))); (try replace rs1 := rs1.of_eq (hcn.block _ rs1.lt (by omega))); have b6 := ht; clear ht; simp only [putS]) | fail)
    refine NoPan.normal ?_
    replace b6 : AtB 31 _ b_b6 (rcA sr) := b6
    go_upto_region 3 with fail
    refine wp_region_lit ?_
    try simp only [gelS]
    refine wpList_chunk 20 (by kernel_rfl) ?_
    simp only [takS, Nat.reduceAdd]
    repeat (first | go_big_quiet_skip | (go_big_quiet_want; first | (refine quiet_loadAny (t := 3) rfl _ _ _ rfl (fun w hw => run_load_int ((ov_B b2 w hw).cellL 0 rfl)) (by rfl) ?_; simp only [putS]; go_big_quiet_on) | (refine quiet_loadAny (t := 3) rfl _ _ _ rfl (fun w hw => run_load_int ((ov_B b2 w hw).cellL 1 rfl)) (by rfl) ?_; simp only [putS]; go_big_quiet_on) | (refine quiet_loadAny (t := 3) rfl _ _ _ rfl (fun w hw => run_load_int ((ov_B b2 w hw).cellL 2 rfl)) (by rfl) ?_; simp only [putS]; go_big_quiet_on) | (refine quiet_loadAny (t := 3) rfl _ _ _ rfl (fun w hw => run_load_int ((ov_B b2 w hw).cellL 3 rfl)) (by rfl) ?_; simp only [putS]; go_big_quiet_on) | (refine quiet_loadAny (t := 3) rfl _ _ _ rfl (fun w hw => run_load_int ((ov_B b3 w hw).cellL 0 rfl)) (by rfl) ?_; simp only [putS]; go_big_quiet_on) | (refine quiet_loadAny (t := 3) rfl _ _ _ rfl (fun w hw => run_load_int ((ov_B b3 w hw).cellL 1 rfl)) (by rfl) ?_; simp only [putS]; go_big_quiet_on) | (refine quiet_loadAny (t := 3) rfl _ _ _ rfl (fun w hw => run_load_int ((ov_B b6 w hw).cellL 0 rfl)) (by rfl) ?_; simp only [putS]; go_big_quiet_on) | (refine quiet_loadAny (t := 3) rfl _ _ _ rfl (fun w hw => run_load_int ((ov_B b6 w hw).cellL 1 rfl)) (by rfl) ?_; simp only [putS]; go_big_quiet_on) | (refine quiet_loadAny (t := 3) rfl _ _ _ rfl (fun w hw => run_load_int ((ov_B b6 w hw).cellL 2 rfl)) (by rfl) ?_; simp only [putS]; go_big_quiet_on) | (refine quiet_loadAny (t := 3) rfl _ _ _ rfl (fun w hw => run_load_int ((ov_B b6 w hw).cellL 3 rfl)) (by rfl) ?_; simp only [putS]; go_big_quiet_on) | (go_big_quiet_op; go_big_quiet_on)))
    refine wpQuiet_nil ?_
    (refine wpList_bsnE (E := ptE) (by first | rfl | simp [Region.wanted, yielded]) 4 _ rfl (rcP sr) rfl (by simp only [List.map_toArray, List.map_cons, List.map_nil, Act.eval, Array.getD_eq_getD_getElem?, List.getElem?_toArray, List.getElem?_cons_succ, List.getElem?_cons_zero, Option.getD_some]; rfl) (by omega) (by omega) ?_; intro b_s51 wn hle hge ht hbn hzn; have hsz := B.size; replace B := B.trans (hbn.mono (by omega)); have hln := Nat.lt_of_lt_of_eq (Nat.lt_succ_self _) hzn.symm; clear hzn; (try have hlt := b2.lt); (try replace b2 := b2.below (hbn.mono hle)); (try have hlt := b3.lt); (try replace b3 := b3.below (hbn.mono hle)); (try have hlt := b6.lt); (try replace b6 := b6.below (hbn.mono hle)); have s51 := ht; clear ht; simp only [putS])
    refine wpList_chunk 1 (by kernel_rfl) ?_
    simp only [takS, Nat.reduceAdd]
    repeat (first | go_big_quiet_skip | (go_big_quiet_want; first | (go_big_quiet_op; go_big_quiet_on)))
    refine wpQuiet_nil ?_
    refine wpList_nil ?_
    have pc := s51.cells
    go_upto_region 4 with fail
    try simp only [gelS]
    try have lx_b2 := b2.lt
    try have lx_b3 := b3.lt
    try have lx_b6 := b6.lt
    try have lx_s51 := s51.lt
    try have lx_pc := pc.lt
    refine wp_region_RL 14 [(12, rowS ptE (wn.heap.size) 4 (rcQ sr))] (by kernel_rfl) (by kernel_rfl) (by kernel_rfl) ?_
    rotate_left 0
    simp only [takS, Nat.reduceAdd]
    refine wpRL_chunk 12 (by kernel_rfl) ?_
    simp only [takS, Nat.reduceAdd]
    repeat (first | go_big_quiet_skip | (go_big_quiet_want; first | (refine quiet_loadAny (t := 44) rfl _ _ _ rfl (fun w hw => rce_pt (ov_rce pc w hw) (i := 2) (x := sr.x1) (y := sr.y1) rfl) (by first | rfl | omega) ?_; simp only [putS]; go_big_quiet_on) | (refine quiet_loadAny (t := 44) rfl _ _ _ rfl (fun w hw => rce_pt (ov_rce pc w hw) (i := 1) (x := sr.x1) (y := sr.y0) rfl) (by first | rfl | omega) ?_; simp only [putS]; go_big_quiet_on) | (refine quiet_loadAny (t := 44) rfl _ _ _ rfl (fun w hw => rce_pt (ov_rce pc w hw) (i := 0) (x := sr.x0) (y := sr.y0) rfl) (by first | rfl | omega) ?_; simp only [putS]; go_big_quiet_on) | (refine quiet_loadAny (t := 44) rfl _ _ _ rfl (fun w hw => rce_pt (ov_rce pc w hw) (i := 3) (x := sr.x0) (y := sr.y1) rfl) (by first | rfl | omega) ?_; simp only [putS]; go_big_quiet_on) | (go_big_quiet_op; go_big_quiet_on)))
    refine wpQuiet_nil ?_
    refine wpRL_callB (by rfl) (by first | rfl | simp [Region.wanted, yielded]) ?_ ?_
    · intro wn hbn hE Kx hKx
      have hsz := B.size
      have hzn := hbn.size
      replace B := B.trans (hbn.mono B.size)
      (try replace b2 := b2.below hbn)
      (try replace b3 := b3.below hbn)
      (try replace b6 := b6.below hbn)
      (try replace s51 := s51.below hbn)
      (try replace pc := pc.below hbn)
      refine owp_bsnE (E := ptE) 4 _ rfl (rcQ sr) rfl (by simp only [List.map_toArray, List.map_cons, List.map_nil, Act.eval, Array.getD_eq_getD_getElem?, List.getElem?_toArray, List.getElem?_cons_succ, List.getElem?_cons_zero, Option.getD_some]; rfl) (by omega) (by omega) ?_
      intro b wm h1 h2 ht hbm hzm
      exact hKx b wm ⟨Nat.le_trans hbn.size h1, ht⟩ (hbm.mono h1)
    rintro b_s64
    dsimp only [detS, rowS]
    simp only [putS]
    refine wpRL_chunk 1 (by kernel_rfl) ?_
    simp only [takS, Nat.reduceAdd]
    repeat (first | go_big_quiet_skip | (go_big_quiet_want; first | (go_big_quiet_op; go_big_quiet_on)))
    refine wpQuiet_nil ?_
    refine wpRL_nil ?_
    intro wn hbn hE
    have hsz := B.size
    have hzn := hbn.size
    replace B := B.trans (hbn.mono B.size)
    (try replace b2 := b2.below hbn)
    (try replace b3 := b3.below hbn)
    (try replace b6 := b6.below hbn)
    (try replace s51 := s51.below hbn)
    (try replace s64 := s64.below hbn)
    (try replace pc := pc.below hbn)
    obtain ⟨hge_s64, s64⟩ : _ ∧ RowAt _ _ _ _ := hE 12
    clear hE
    try simp only [List.drop_succ_cons, List.drop_zero]
    refine NoPan.normal ?_
    clear pc
    go_upto_region 5 with fail
    refine wp_region_lit ?_
    try simp only [gelS]
    refine wpList_chunk 2 (by kernel_rfl) ?_
    simp only [takS, Nat.reduceAdd]
    repeat (first | go_big_quiet_skip | (go_big_quiet_want; first | (refine quiet_loadAny (t := 3) rfl _ _ _ rfl (fun w hw => run_load_int ((ov_B b2 w hw).cellL 0 rfl)) (by rfl) ?_; simp only [putS]; go_big_quiet_on) | (refine quiet_loadAny (t := 3) rfl _ _ _ rfl (fun w hw => run_load_int ((ov_B b2 w hw).cellL 1 rfl)) (by rfl) ?_; simp only [putS]; go_big_quiet_on) | (refine quiet_loadAny (t := 3) rfl _ _ _ rfl (fun w hw => run_load_int ((ov_B b2 w hw).cellL 2 rfl)) (by rfl) ?_; simp only [putS]; go_big_quiet_on) | (refine quiet_loadAny (t := 3) rfl _ _ _ rfl (fun w hw => run_load_int ((ov_B b2 w hw).cellL 3 rfl)) (by rfl) ?_; simp only [putS]; go_big_quiet_on) | (refine quiet_loadAny (t := 3) rfl _ _ _ rfl (fun w hw => run_load_int ((ov_B b3 w hw).cellL 0 rfl)) (by rfl) ?_; simp only [putS]; go_big_quiet_on) | (refine quiet_loadAny (t := 3) rfl _ _ _ rfl (fun w hw => run_load_int ((ov_B b3 w hw).cellL 1 rfl)) (by rfl) ?_; simp only [putS]; go_big_quiet_on) | (refine quiet_loadAny (t := 3) rfl _ _ _ rfl (fun w hw => run_load_int ((ov_B b6 w hw).cellL 0 rfl)) (by rfl) ?_; simp only [putS]; go_big_quiet_on) | (refine quiet_loadAny (t := 3) rfl _ _ _ rfl (fun w hw => run_load_int ((ov_B b6 w hw).cellL 1 rfl)) (by rfl) ?_; simp only [putS]; go_big_quiet_on) | (refine quiet_loadAny (t := 3) rfl _ _ _ rfl (fun w hw => run_load_int ((ov_B b6 w hw).cellL 2 rfl)) (by rfl) ?_; simp only [putS]; go_big_quiet_on) | (refine quiet_loadAny (t := 3) rfl _ _ _ rfl (fun w hw => run_load_int ((ov_B b6 w hw).cellL 3 rfl)) (by rfl) ?_; simp only [putS]; go_big_quiet_on) | (go_big_quiet_op; go_big_quiet_on)))
    refine wpQuiet_nil ?_
    refine wpList_callF (by first | rfl | simp [Region.wanted, yielded]) rfl (enters_of Try.func12 (by kernel_rfl) rfl) (by simp only [List.map_toArray, List.map_cons, List.map_nil, Act.eval, Array.getD_eq_getD_getElem?, List.getElem?_toArray, List.getElem?_cons_succ, List.getElem?_cons_zero, Option.getD_some]; rfl) ?_
    refine (L15_restO m0 90 x1 (by omega) Hx1.out _).mono ?_
    rintro e wn ⟨rfl, hbn⟩
    have hsz := B.size
    have hzn := hbn.size
    replace B := B.trans (hbn.mono B.size)
    (try replace b2 := b2.below hbn)
    (try replace b3 := b3.below hbn)
    (try replace b6 := b6.below hbn)
    (try replace s51 := s51.below hbn)
    (try replace s64 := s64.below hbn)
    refine ⟨_, rfl, ?_⟩
    simp only [putS]
    refine wpList_chunk 2 (by kernel_rfl) ?_
    simp only [takS, Nat.reduceAdd]
    repeat (first | go_big_quiet_skip | (go_big_quiet_want; first | (go_big_quiet_op; go_big_quiet_on)))
    refine wpQuiet_nil ?_
    refine wpList_nil ?_
    go_upto_region 6 with fail
    refine wp_region_lit ?_
    try simp only [gelS]
    refine wpList_chunk 2 (by kernel_rfl) ?_
    simp only [takS, Nat.reduceAdd]
    repeat (first | go_big_quiet_skip | (go_big_quiet_want; first | (refine quiet_loadAny (t := 3) rfl _ _ _ rfl (fun w hw => run_load_int ((ov_B b2 w hw).cellL 0 rfl)) (by rfl) ?_; simp only [putS]; go_big_quiet_on) | (refine quiet_loadAny (t := 3) rfl _ _ _ rfl (fun w hw => run_load_int ((ov_B b2 w hw).cellL 1 rfl)) (by rfl) ?_; simp only [putS]; go_big_quiet_on) | (refine quiet_loadAny (t := 3) rfl _ _ _ rfl (fun w hw => run_load_int ((ov_B b2 w hw).cellL 2 rfl)) (by rfl) ?_; simp only [putS]; go_big_quiet_on) | (refine quiet_loadAny (t := 3) rfl _ _ _ rfl (fun w hw => run_load_int ((ov_B b2 w hw).cellL 3 rfl)) (by rfl) ?_; simp only [putS]; go_big_quiet_on) | (refine quiet_loadAny (t := 3) rfl _ _ _ rfl (fun w hw => run_load_int ((ov_B b3 w hw).cellL 0 rfl)) (by rfl) ?_; simp only [putS]; go_big_quiet_on) | (refine quiet_loadAny (t := 3) rfl _ _ _ rfl (fun w hw => run_load_int ((ov_B b3 w hw).cellL 1 rfl)) (by rfl) ?_; simp only [putS]; go_big_quiet_on) | (refine quiet_loadAny (t := 3) rfl _ _ _ rfl (fun w hw => run_load_int ((ov_B b6 w hw).cellL 0 rfl)) (by rfl) ?_; simp only [putS]; go_big_quiet_on) | (refine quiet_loadAny (t := 3) rfl _ _ _ rfl (fun w hw => run_load_int ((ov_B b6 w hw).cellL 1 rfl)) (by rfl) ?_; simp only [putS]; go_big_quiet_on) | (refine quiet_loadAny (t := 3) rfl _ _ _ rfl (fun w hw => run_load_int ((ov_B b6 w hw).cellL 2 rfl)) (by rfl) ?_; simp only [putS]; go_big_quiet_on) | (refine quiet_loadAny (t := 3) rfl _ _ _ rfl (fun w hw => run_load_int ((ov_B b6 w hw).cellL 3 rfl)) (by rfl) ?_; simp only [putS]; go_big_quiet_on) | (go_big_quiet_op; go_big_quiet_on)))
    refine wpQuiet_nil ?_
    refine wpList_callF (by first | rfl | simp [Region.wanted, yielded]) rfl (enters_of Try.func12 (by kernel_rfl) rfl) (by simp only [List.map_toArray, List.map_cons, List.map_nil, Act.eval, Array.getD_eq_getD_getElem?, List.getElem?_toArray, List.getElem?_cons_succ, List.getElem?_cons_zero, Option.getD_some]; rfl) ?_
    refine (L15_restO m1 90 y1 (by omega) Hy1.out _).mono ?_
    rintro e wn ⟨rfl, hbn⟩
    have hsz := B.size
    have hzn := hbn.size
    replace B := B.trans (hbn.mono B.size)
    (try replace b2 := b2.below hbn)
    (try replace b3 := b3.below hbn)
    (try replace b6 := b6.below hbn)
    (try replace s51 := s51.below hbn)
    (try replace s64 := s64.below hbn)
    refine ⟨_, rfl, ?_⟩
    simp only [putS]
    refine wpList_chunk 2 (by kernel_rfl) ?_
    simp only [takS, Nat.reduceAdd]
    repeat (first | go_big_quiet_skip | (go_big_quiet_want; first | (go_big_quiet_op; go_big_quiet_on)))
    refine wpQuiet_nil ?_
    refine wpList_nil ?_
    go_upto_region 7 with fail
    refine wp_region_lit ?_
    try simp only [gelS]
    refine wpList_chunk 1 (by kernel_rfl) ?_
    simp only [takS, Nat.reduceAdd]
    repeat (first | go_big_quiet_skip | (go_big_quiet_want; first | (go_big_quiet_op; go_big_quiet_on)))
    refine wpQuiet_nil ?_
    refine wpList_nil ?_
    go_upto_region 8 with fail
    refine wp_region_lit ?_
    try simp only [gelS]
    refine wpList_chunk 3 (by kernel_rfl) ?_
    simp only [takS, Nat.reduceAdd]
    repeat (first | go_big_quiet_skip | (go_big_quiet_want; first | (refine quiet_loadAny (t := 31) rfl _ _ _ rfl (fun w hw => run_load_B (ov_B b6 w hw) Try.isAgg31 (by kernel_rfl)) (by rfl) ?_; simp only [putS]; go_big_quiet_on) | (go_big_quiet_op; go_big_quiet_on)))
    refine wpQuiet_nil ?_
    refine wpList_callF (by first | rfl | simp [Region.wanted, yielded]) rfl (enters_of Try.func28 (by kernel_rfl) rfl) (by simp only [List.map_toArray, List.map_cons, List.map_nil, Act.eval, Array.getD_eq_getD_getElem?, List.getElem?_toArray, List.getElem?_cons_succ, List.getElem?_cons_zero, Option.getD_some]; rfl) ?_
    refine (R_HasX sr (x1 - 25) (y1 - 25) true _ HH.out).mono ?_
    rintro e wn ⟨rfl, hbn⟩
    have hsz := B.size
    have hzn := hbn.size
    replace B := B.trans (hbn.mono B.size)
    (try replace b2 := b2.below hbn)
    (try replace b3 := b3.below hbn)
    (try replace b6 := b6.below hbn)
    (try replace s51 := s51.below hbn)
    (try replace s64 := s64.below hbn)
    refine ⟨_, rfl, ?_⟩
    simp only [putS]
    refine wpList_nil ?_
    go_upto_region 9 with fail
    refine wp_region_lit ?_
    try simp only [gelS]
    refine wpList_chunk 1 (by kernel_rfl) ?_
    simp only [takS, Nat.reduceAdd]
    repeat (first | go_big_quiet_skip | (go_big_quiet_want; first | (go_big_quiet_op; go_big_quiet_on)))
    refine wpQuiet_nil ?_
    refine wpList_nil ?_
    go_upto_region 10 with fail
    refine wp_region_lit ?_
    try simp only [gelS]
    refine wpList_chunk 1 (by kernel_rfl) ?_
    simp only [takS, Nat.reduceAdd]
    repeat (first | go_big_quiet_skip | (go_big_quiet_want; first | (go_big_quiet_op; go_big_quiet_on)))
    refine wpQuiet_nil ?_
    (refine wpList_allocBk (t := 59) rfl _ (run_alloc_Pxx _ _ rfl) ?_; intro b_p12 wn hle hge ht hbn hzn; have hsz := B.size; replace B := B.trans (hbn.mono (by omega)); have hln := Nat.lt_of_lt_of_eq (Nat.lt_succ_self _) hzn.symm; clear hzn; (try have hlt := b2.lt); (try replace b2 := b2.below (hbn.mono hle)); (try have hlt := b3.lt); (try replace b3 := b3.below (hbn.mono hle)); (try have hlt := b6.lt); (try replace b6 := b6.below (hbn.mono hle)); (try have hlt := s51.lt); (try replace s51 := s51.below (hbn.mono hle)); (try have hlt := s64.lt); (try replace s64 := s64.below (hbn.mono hle)); have p12 := ht; clear ht; simp only [putS])
    (refine wpList_storeB (t := 59) rfl _ _ rfl _ rfl _ rfl p12 (by kernel_rfl) rfl (by simp [rcA, pxC4, Value.oneCell']) ?_; have p12o := p12; clear p12; intro wn ht hcn hzn; (try replace rs1 := rs1.chg p12o (by simp [rcA, pxC4]) hcn); have hsz := B.size; replace hzn := Nat.le_of_eq hzn.symm; replace B := Chg.below B hcn (by omega) B.size; (try replace b2 := b2.of_eq (hcn.block _ b2.lt (by omega))); (try replace b3 := b3.of_eq (hcn.block _ b3.lt (by omega))); (try replace b6 := b6.of_eq (hcn.block _ b6.lt (by omega))); (try replace s51 := s51.of_eq (hcn.block _ s51.lt (by omega))); (try replace s64 := s64.of_eq (hcn.block _ s64.lt (by omega))); have p12 := ht; clear ht; simp only [putS])
    refine wpList_nil ?_
    replace p12 : AtB 59 _ b_p12 #[.int .u8 0, .int .u8 7, .int .u8 0, .int .u8 200] := p12
    go_upto_region 11 with fail
    refine wp_region_lit ?_
    try simp only [gelS]
    refine wpList_chunk 2 (by kernel_rfl) ?_
    simp only [takS, Nat.reduceAdd]
    repeat (first | go_big_quiet_skip | (go_big_quiet_want; first | (refine quiet_loadAny (t := 59) rfl _ _ _ rfl (fun w hw => run_load_B (ov_B p12 w hw) Try.isAgg59 (by kernel_rfl)) (by rfl) ?_; simp only [putS]; go_big_quiet_on) | (go_big_quiet_op; go_big_quiet_on)))
    refine wpQuiet_nil ?_
    refine wpList_callF (by first | rfl | simp [Region.wanted, yielded]) rfl (enters_of Try.func29 (by kernel_rfl) rfl) (by simp only [List.map_toArray, List.map_cons, List.map_nil, Act.eval, Array.getD_eq_getD_getElem?, List.getElem?_toArray, List.getElem?_cons_succ, List.getElem?_cons_zero, Option.getD_some]; rfl) ?_
    refine (P_FillX _ (rcP sr) F _ (RowAt.rs s51) mlP G1.out G2.out HF.out).mono ?_
    rintro e wn ⟨a4, c4, rfl, rs1, hbn⟩
    have hsz := B.size
    have hzn := hbn.size
    replace B := B.trans (hbn.mono B.size)
    (try replace b2 := b2.below hbn)
    (try replace b3 := b3.below hbn)
    (try replace b6 := b6.below hbn)
    (try replace s51 := s51.below hbn)
    (try replace s64 := s64.below hbn)
    (try replace p12 := p12.below hbn)
    (try replace rs1 := rs1.below hbn)
    refine ⟨_, rfl, ?_⟩
    simp only [putS]
    refine wpList_chunk 3 (by kernel_rfl) ?_
    simp only [takS, Nat.reduceAdd]
    repeat (first | go_big_quiet_skip | (go_big_quiet_want; first | (go_big_quiet_op; go_big_quiet_on)))
    refine wpQuiet_nil ?_
    (refine wpList_allocBk (t := 36) rfl _ (run_alloc_R _ _ rfl) ?_; intro b_r13 wn hle hge ht hbn hzn; have hsz := B.size; replace B := B.trans (hbn.mono (by omega)); have hln := Nat.lt_of_lt_of_eq (Nat.lt_succ_self _) hzn.symm; clear hzn; (try have hlt := b2.lt); (try replace b2 := b2.below (hbn.mono hle)); (try have hlt := b3.lt); (try replace b3 := b3.below (hbn.mono hle)); (try have hlt := b6.lt); (try replace b6 := b6.below (hbn.mono hle)); (try have hlt := s51.lt); (try replace s51 := s51.below (hbn.mono hle)); (try have hlt := s64.lt); (try replace s64 := s64.below (hbn.mono hle)); (try have hlt := p12.lt); (try replace p12 := p12.below (hbn.mono hle)); (try have hlt := rs1.lt); (try replace rs1 := rs1.below (hbn.mono hle)); have r13 := ht; clear ht; simp only [putS])
    (refine wpList_storeB (t := 36) rfl _ _ rfl _ rfl _ rfl r13 (by kernel_rfl) rfl (by simp [rcA, pxC4, Value.oneCell']) ?_; have r13o := r13; clear r13; intro wn ht hcn hzn; (try replace rs1 := rs1.chg r13o (by simp [rcA, pxC4]) hcn); have hsz := B.size; replace hzn := Nat.le_of_eq hzn.symm; replace B := Chg.below B hcn (by omega) B.size; (try replace b2 := b2.of_eq (hcn.block _ b2.lt (by omega))); (try replace b3 := b3.of_eq (hcn.block _ b3.lt (by omega))); (try replace b6 := b6.of_eq (hcn.block _ b6.lt (by omega))); (try replace s51 := s51.of_eq (hcn.block _ s51.lt (by omega))); (try replace s64 := s64.of_eq (hcn.block _ s64.lt (by omega))); (try replace p12 := p12.of_eq (hcn.block _ p12.lt (by omega))); (try replace rs1 := rs1.of_eq (hcn.block _ rs1.lt (by omega))); have r13 := ht; clear ht; simp only [putS])
    refine wpList_chunk 1 (by kernel_rfl) ?_
    simp only [takS, Nat.reduceAdd]
    repeat (first | go_big_quiet_skip | (go_big_quiet_want; first | (go_big_quiet_op; go_big_quiet_on)))
    refine wpQuiet_nil ?_
    refine wpList_nil ?_
    go_upto_region 12 with fail
    refine wp_region_lit ?_
    try simp only [gelS]
    refine wpList_chunk 3 (by kernel_rfl) ?_
    simp only [takS, Nat.reduceAdd]
    repeat (first | go_big_quiet_skip | (go_big_quiet_want; first | (refine quiet_loadAny (t := 36) rfl _ _ _ rfl (fun w hw => run_load_B (ov_B r13 w hw) Try.isAgg36 (by kernel_rfl)) (by rfl) ?_; simp only [putS]; go_big_quiet_on) | (go_big_quiet_op; go_big_quiet_on)))
    refine wpQuiet_nil ?_
    refine wpList_callF (by first | rfl | simp [Region.wanted, yielded]) rfl (enters_of Try.func30 (by kernel_rfl) rfl) (by simp only [List.map_toArray, List.map_cons, List.map_nil, Act.eval, Array.getD_eq_getD_getElem?, List.getElem?_toArray, List.getElem?_cons_succ, List.getElem?_cons_zero, Option.getD_some]; rfl) ?_
    refine (P_GetO _ F (x1 - 25) (y1 - 25) 0 7 0 200 _ rs1 HFL.out wx wy GX.out).mono ?_
    rintro e wn ⟨rfl, hbn⟩
    have hsz := B.size
    have hzn := hbn.size
    replace B := B.trans (hbn.mono B.size)
    (try replace b2 := b2.below hbn)
    (try replace b3 := b3.below hbn)
    (try replace b6 := b6.below hbn)
    (try replace s51 := s51.below hbn)
    (try replace s64 := s64.below hbn)
    (try replace p12 := p12.below hbn)
    (try replace r13 := r13.below hbn)
    (try replace rs1 := rs1.below hbn)
    refine ⟨_, rfl, ?_⟩
    simp only [putS]
    refine wpList_chunk 3 (by kernel_rfl) ?_
    simp only [takS, Nat.reduceAdd]
    repeat (first | go_big_quiet_skip | (go_big_quiet_want; first | (go_big_quiet_op; go_big_quiet_on)))
    refine wpQuiet_nil ?_
    refine wpList_nil ?_
    go_upto_region 13 with fail
    refine wp_region_lit ?_
    try simp only [gelS]
    refine wpList_chunk 2 (by kernel_rfl) ?_
    simp only [takS, Nat.reduceAdd]
    repeat (first | go_big_quiet_skip | (go_big_quiet_want; first | (go_big_quiet_op; go_big_quiet_on)))
    refine wpQuiet_nil ?_
    refine wpList_nil ?_
    go_upto_region 14 with fail
    try simp only [gelS]
    try have lx_b2 := b2.lt
    try have lx_b3 := b3.lt
    try have lx_b6 := b6.lt
    try have lx_s51 := s51.lt
    try have lx_s64 := s64.lt
    try have lx_p12 := p12.lt
    try have lx_r13 := r13.lt
    try have lx_rs1 := rs1.lt
    refine wp_region_RL 7 [(3, detS ?v3_3)] (by kernel_rfl) (by kernel_rfl) (by kernel_rfl) ?_
    rotate_left 1
    simp only [takS, Nat.reduceAdd]
    refine wpRL_chunk 3 (by kernel_rfl) ?_
    simp only [takS, Nat.reduceAdd]
    repeat (first | go_big_quiet_skip | (go_big_quiet_want; first | (refine quiet_loadAny (t := 36) rfl _ _ _ rfl (fun w hw => run_load_B (ov_B r13 w hw) Try.isAgg36 (by kernel_rfl)) (by rfl) ?_; simp only [putS]; go_big_quiet_on) | (go_big_quiet_op; go_big_quiet_on)))
    refine wpQuiet_nil ?_
    refine wpRL_callB (by rfl) (by first | rfl | simp [Region.wanted, yielded]) ?_ ?_
    · intro wn hbn hE Kx hKx
      have hsz := B.size
      have hzn := hbn.size
      replace B := B.trans (hbn.mono B.size)
      (try replace b2 := b2.below hbn)
      (try replace b3 := b3.below hbn)
      (try replace b6 := b6.below hbn)
      (try replace s51 := s51.below hbn)
      (try replace s64 := s64.below hbn)
      (try replace p12 := p12.below hbn)
      (try replace r13 := r13.below hbn)
      (try replace rs1 := rs1.below hbn)
      refine wp_callF rfl (enters_of Try.func30 (by kernel_rfl) rfl) (by simp only [List.map_toArray, List.map_cons, List.map_nil, Act.eval, Array.getD_eq_getD_getElem?, List.getElem?_toArray, List.getElem?_cons_succ, List.getElem?_cons_zero, Option.getD_some]; rfl) ?_
      refine (P_GetO _ F (x1 - 25) (y1 - 25) 0 7 0 200 wn rs1 HFL.out wx wy GX.out).mono ?_
      rintro e wm ⟨rfl, hbm⟩
      refine ⟨_, rfl, ?_⟩
      have hz := hKx () wm trivial hbm
      dsimp only [detS] at hz
      exact hz
    rintro ⟨⟩
    dsimp only [detS]
    simp only [putS]
    refine wpRL_chunk 3 (by kernel_rfl) ?_
    simp only [takS, Nat.reduceAdd]
    repeat (first | go_big_quiet_skip | (go_big_quiet_want; first | (refine quiet_loadAny (t := 59) rfl _ _ _ rfl (fun w hw => run_load_B (ov_B p12 w hw) Try.isAgg59 (by kernel_rfl)) (by rfl) ?_; simp only [putS]; go_big_quiet_on) | (go_big_quiet_op; go_big_quiet_on)))
    refine wpQuiet_nil ?_
    refine wpRL_nil ?_
    intro wn hbn hE
    have hsz := B.size
    have hzn := hbn.size
    replace B := B.trans (hbn.mono B.size)
    (try replace b2 := b2.below hbn)
    (try replace b3 := b3.below hbn)
    (try replace b6 := b6.below hbn)
    (try replace s51 := s51.below hbn)
    (try replace s64 := s64.below hbn)
    (try replace p12 := p12.below hbn)
    (try replace r13 := r13.below hbn)
    (try replace rs1 := rs1.below hbn)
    clear hE
    try simp only [List.drop_succ_cons, List.drop_zero]
    refine NoPan.normal ?_
    go_upto_region 15 with fail
    try simp only [gelS]
    try have lx_b2 := b2.lt
    try have lx_b3 := b3.lt
    try have lx_b6 := b6.lt
    try have lx_s51 := s51.lt
    try have lx_s64 := s64.lt
    try have lx_p12 := p12.lt
    try have lx_r13 := r13.lt
    try have lx_rs1 := rs1.lt
    refine wp_region_RL 37 [(5, detS ?v4_5), (13, detS ?v4_13), (19, detS ?v4_19), (32, detS ?v4_32)] (by kernel_rfl) (by kernel_rfl) (by kernel_rfl) ?_
    rotate_left 4
    simp only [takS, Nat.reduceAdd]
    refine wpRL_chunk 5 (by kernel_rfl) ?_
    simp only [takS, Nat.reduceAdd]
    repeat (first | go_big_quiet_skip | (go_big_quiet_want; first | (go_big_quiet_op; go_big_quiet_on)))
    refine wpQuiet_nil ?_
    refine wpRL_callB (by rfl) ?hw4_5 ?_ ?_
    case hw4_5 => kernel_rfl
    · intro wn hbn hE Kx hKx
      have hsz := B.size
      have hzn := hbn.size
      replace B := B.trans (hbn.mono B.size)
      (try replace b2 := b2.below hbn)
      (try replace b3 := b3.below hbn)
      (try replace b6 := b6.below hbn)
      (try replace s51 := s51.below hbn)
      (try replace s64 := s64.below hbn)
      (try replace p12 := p12.below hbn)
      (try replace r13 := r13.below hbn)
      (try replace rs1 := rs1.below hbn)
      refine wp_callF rfl (enters_of Try.func15 (by kernel_rfl) rfl) (by simp only [List.map_toArray, List.map_cons, List.map_nil, Act.eval, Array.getD_eq_getD_getElem?, List.getElem?_toArray, List.getElem?_cons_succ, List.getElem?_cons_zero, Option.getD_some]; rfl) ?_
      refine (P_CoverGO _ (rcP sr) (x1 - 25) (y1 - 25) 255 wn (RowAt.rs s51) mlP (by omega) (by omega) C1.out).mono ?_
      rintro e wm ⟨rfl, hbm⟩
      refine ⟨_, rfl, ?_⟩
      have hz := hKx () wm trivial hbm
      dsimp only [detS] at hz
      exact hz
    rintro ⟨⟩
    dsimp only [detS]
    simp only [putS]
    refine wpRL_chunk 7 (by kernel_rfl) ?_
    simp only [takS, Nat.reduceAdd]
    repeat (first | go_big_quiet_skip | (go_big_quiet_want; first | (go_big_quiet_op; go_big_quiet_on)))
    refine wpQuiet_nil ?_
    refine wpRL_callB (by rfl) ?hw4_13 ?_ ?_
    case hw4_13 => kernel_rfl
    · intro wn hbn hE Kx hKx
      have hsz := B.size
      have hzn := hbn.size
      replace B := B.trans (hbn.mono B.size)
      (try replace b2 := b2.below hbn)
      (try replace b3 := b3.below hbn)
      (try replace b6 := b6.below hbn)
      (try replace s51 := s51.below hbn)
      (try replace s64 := s64.below hbn)
      (try replace p12 := p12.below hbn)
      (try replace r13 := r13.below hbn)
      (try replace rs1 := rs1.below hbn)
      refine wp_callF rfl (enters_of Try.func15 (by kernel_rfl) rfl) (by simp only [List.map_toArray, List.map_cons, List.map_nil, Act.eval, Array.getD_eq_getD_getElem?, List.getElem?_toArray, List.getElem?_cons_succ, List.getElem?_cons_zero, Option.getD_some]; rfl) ?_
      refine (P_CoverGO _ (rcQ sr) (x1 - 25) (y1 - 25) 255 wn (RowAt.rs s64) mlQ (by omega) (by omega) C2.out).mono ?_
      rintro e wm ⟨rfl, hbm⟩
      refine ⟨_, rfl, ?_⟩
      have hz := hKx () wm trivial hbm
      dsimp only [detS] at hz
      exact hz
    rintro ⟨⟩
    dsimp only [detS]
    simp only [putS]
    refine wpRL_chunk 5 (by kernel_rfl) ?_
    simp only [takS, Nat.reduceAdd]
    repeat (first | go_big_quiet_skip | (go_big_quiet_want; first | (go_big_quiet_op; go_big_quiet_on)))
    refine wpQuiet_nil ?_
    refine wpRL_callB (by rfl) ?hw4_19 ?_ ?_
    case hw4_19 => kernel_rfl
    · intro wn hbn hE Kx hKx
      have hsz := B.size
      have hzn := hbn.size
      replace B := B.trans (hbn.mono B.size)
      (try replace b2 := b2.below hbn)
      (try replace b3 := b3.below hbn)
      (try replace b6 := b6.below hbn)
      (try replace s51 := s51.below hbn)
      (try replace s64 := s64.below hbn)
      (try replace p12 := p12.below hbn)
      (try replace r13 := r13.below hbn)
      (try replace rs1 := rs1.below hbn)
      refine wp_callF rfl (enters_of Try.func17 (by kernel_rfl) rfl) (by simp only [List.map_toArray, List.map_cons, List.map_nil, Act.eval, Array.getD_eq_getD_getElem?, List.getElem?_toArray, List.getElem?_cons_succ, List.getElem?_cons_zero, Option.getD_some]; rfl) ?_
      refine (P_BoundGO _ (rcQ sr) sr wn (RowAt.rs s64) mlQ HB.out).mono ?_
      rintro e wm ⟨rfl, hbm⟩
      refine ⟨_, rfl, ?_⟩
      have hz := hKx () wm trivial hbm
      dsimp only [detS] at hz
      exact hz
    rintro ⟨⟩
    dsimp only [detS]
    simp only [putS]
    refine wpRL_chunk 12 (by kernel_rfl) ?_
    simp only [takS, Nat.reduceAdd]
    repeat (first | go_big_quiet_skip | (go_big_quiet_want; first | (refine quiet_loadAny (t := 36) rfl _ _ _ rfl (fun w hw => run_load_B (ov_B r13 w hw) Try.isAgg36 (by kernel_rfl)) (by rfl) ?_; simp only [putS]; go_big_quiet_on) | (refine quiet_loadAny (t := 31) rfl _ _ _ rfl (fun w hw => run_load_B (ov_B b6 w hw) Try.isAgg31 (by kernel_rfl)) (by rfl) ?_; simp only [putS]; go_big_quiet_on) | (go_big_quiet_op; go_big_quiet_on)))
    refine wpQuiet_nil ?_
    refine wpRL_callB (by rfl) ?hw4_32 ?_ ?_
    case hw4_32 => kernel_rfl
    · intro wn hbn hE Kx hKx
      have hsz := B.size
      have hzn := hbn.size
      replace B := B.trans (hbn.mono B.size)
      (try replace b2 := b2.below hbn)
      (try replace b3 := b3.below hbn)
      (try replace b6 := b6.below hbn)
      (try replace s51 := s51.below hbn)
      (try replace s64 := s64.below hbn)
      (try replace p12 := p12.below hbn)
      (try replace r13 := r13.below hbn)
      (try replace rs1 := rs1.below hbn)
      refine wp_callF rfl (enters_of Try.func31 (by kernel_rfl) rfl) (by simp only [List.map_toArray, List.map_cons, List.map_nil, Act.eval, Array.getD_eq_getD_getElem?, List.getElem?_toArray, List.getElem?_cons_succ, List.getElem?_cons_zero, Option.getD_some]; rfl) ?_
      refine (P_BoundsX _ F sr wn rs1 G4.out HFL.out G3.out G5.out).mono ?_
      rintro e wm ⟨rfl, hbm⟩
      refine ⟨_, rfl, ?_⟩
      have hz := hKx () wm trivial hbm
      dsimp only [detS] at hz
      exact hz
    rintro ⟨⟩
    dsimp only [detS]
    simp only [putS]
    refine wpRL_chunk 4 (by kernel_rfl) ?_
    simp only [takS, Nat.reduceAdd]
    repeat (first | go_big_quiet_skip | (go_big_quiet_want; first | (refine quiet_loadAny (t := 31) rfl _ _ _ rfl (fun w hw => run_load_B (ov_B b6 w hw) Try.isAgg31 (by kernel_rfl)) (by rfl) ?_; simp only [putS]; go_big_quiet_on) | (go_big_quiet_op; go_big_quiet_on)))
    refine wpQuiet_nil ?_
    refine wpRL_nil ?_
    intro wn hbn hE
    have hsz := B.size
    have hzn := hbn.size
    replace B := B.trans (hbn.mono B.size)
    (try replace b2 := b2.below hbn)
    (try replace b3 := b3.below hbn)
    (try replace b6 := b6.below hbn)
    (try replace s51 := s51.below hbn)
    (try replace s64 := s64.below hbn)
    (try replace p12 := p12.below hbn)
    (try replace r13 := r13.below hbn)
    (try replace rs1 := rs1.below hbn)
    clear hE
    try simp only [List.drop_succ_cons, List.drop_zero]
    refine NoPan.normal ?_
    go_wp2
    go_ret
    exact ⟨rfl, B⟩
  | false =>
    rw [hh] at c1 c2 gx
    have HH := Lib.hid hh
    have C1 := Lib.hid (show coverP (rcP sr) (x1 - 25) (y1 - 25) = 0 from c1)
    have C2 := Lib.hid (show coverP (rcQ sr) (x1 - 25) (y1 - 25) = 0 from c2)
    have GX := Lib.hid (show getL F (x1 - 25) (y1 - 25) = ⟨0, 0, 0, 0⟩ from gx)
    clear hh c1 c2 gx
    go_enter Try.func7, Try.ntmps7
    go_upto_region 0 with fail
    refine wp_region_lit ?_
    try simp only [gelS]
    (refine wpList_boxB (t := 46) rfl _ rfl _ rfl ?_; intro b_b2 wn hle hge ht hbn hzn; have hsz := B.size; replace B := B.trans (hbn.mono (by omega)); have hln := Nat.lt_of_lt_of_eq (Nat.lt_succ_self _) hzn.symm; clear hzn; (try have hlt := b2.lt); (try replace b2 := b2.below (hbn.mono hle)); (try have hlt := b3.lt); (try replace b3 := b3.below (hbn.mono hle)); (try have hlt := b6.lt); (try replace b6 := b6.below (hbn.mono hle)); (try have hlt := s51.lt); (try replace s51 := s51.below (hbn.mono hle)); (try have hlt := s64.lt); (try replace s64 := s64.below (hbn.mono hle)); (try have hlt := p12.lt); (try replace p12 := p12.below (hbn.mono hle)); (try have hlt := r13.lt); (try replace r13 := r13.below (hbn.mono hle)); (try have hlt := rs1.lt); (try replace rs1 := rs1.below (hbn.mono hle)); have b2 := ht; clear ht; simp only [putS])
    (refine wpList_boxB (t := 24) rfl _ rfl _ rfl ?_; intro b_b3 wn hle hge ht hbn hzn; have hsz := B.size; replace B := B.trans (hbn.mono (by omega)); have hln := Nat.lt_of_lt_of_eq (Nat.lt_succ_self _) hzn.symm; clear hzn; (try have hlt := b2.lt); (try replace b2 := b2.below (hbn.mono hle)); (try have hlt := b3.lt); (try replace b3 := b3.below (hbn.mono hle)); (try have hlt := b6.lt); (try replace b6 := b6.below (hbn.mono hle)); (try have hlt := s51.lt); (try replace s51 := s51.below (hbn.mono hle)); (try have hlt := s64.lt); (try replace s64 := s64.below (hbn.mono hle)); (try have hlt := p12.lt); (try replace p12 := p12.below (hbn.mono hle)); (try have hlt := r13.lt); (try replace r13 := r13.below (hbn.mono hle)); (try have hlt := rs1.lt); (try replace rs1 := rs1.below (hbn.mono hle)); have b3 := ht; clear ht; simp only [putS])
    refine wpList_chunk 1 (by kernel_rfl) ?_
    simp only [takS, Nat.reduceAdd]
    repeat (first | go_big_quiet_skip | (go_big_quiet_want; first | (go_big_quiet_op; go_big_quiet_on)))
    refine wpQuiet_nil ?_
    refine wpList_nil ?_
    go_upto_region 1 with fail
    refine wp_region_lit ?_
    try simp only [gelS]
    refine wpList_callF (by first | rfl | simp [Region.wanted, yielded]) rfl (enters_of Try.func10 (by kernel_rfl) rfl) (by simp only [List.map_toArray, List.map_cons, List.map_nil, Act.eval, Array.getD_eq_getD_getElem?, List.getElem?_toArray, List.getElem?_cons_succ, List.getElem?_cons_zero, Option.getD_some]; rfl) ?_
    refine (sanity15 _).mono ?_
    rintro e wn ⟨rfl, hbn⟩
    have hsz := B.size
    have hzn := hbn.size
    replace B := B.trans (hbn.mono B.size)
    (try replace b2 := b2.below hbn)
    (try replace b3 := b3.below hbn)
    (try replace b6 := b6.below hbn)
    (try replace s51 := s51.below hbn)
    (try replace s64 := s64.below hbn)
    (try replace p12 := p12.below hbn)
    (try replace r13 := r13.below hbn)
    (try replace rs1 := rs1.below hbn)
    refine ⟨_, rfl, ?_⟩
    simp only [putS]
    refine wpList_chunk 1 (by kernel_rfl) ?_
    simp only [takS, Nat.reduceAdd]
    repeat (first | go_big_quiet_skip | (go_big_quiet_want; first | (go_big_quiet_op; go_big_quiet_on)))
    refine wpQuiet_nil ?_
    refine wpList_nil ?_
    go_upto_region 2 with fail
    try simp only [gelS]
    try have lx_b2 := b2.lt
    try have lx_b3 := b3.lt
    try have lx_b6 := b6.lt
    try have lx_s51 := s51.lt
    try have lx_s64 := s64.lt
    try have lx_p12 := p12.lt
    try have lx_r13 := r13.lt
    try have lx_rs1 := rs1.lt
    refine wp_region_RL 15 [(6, detS ?v5_6), (10, detS ?v5_10), (13, detS ?v5_13), (14, ptrS (wn.heap.size) 31 #[.int .i64 0, .int .i64 0, .int .i64 0, .int .i64 0])] (by kernel_rfl) (by kernel_rfl) (by kernel_rfl) ?_
    rotate_left 3
    simp only [takS, Nat.reduceAdd]
    refine wpRL_chunk 6 (by kernel_rfl) ?_
    simp only [takS, Nat.reduceAdd]
    repeat (first | go_big_quiet_skip | (go_big_quiet_want; first | (refine quiet_loadAny (t := 3) rfl _ _ _ rfl (fun w hw => run_load_int ((ov_B b2 w hw).cellL 0 rfl)) (by rfl) ?_; simp only [putS]; go_big_quiet_on) | (refine quiet_loadAny (t := 3) rfl _ _ _ rfl (fun w hw => run_load_int ((ov_B b2 w hw).cellL 1 rfl)) (by rfl) ?_; simp only [putS]; go_big_quiet_on) | (refine quiet_loadAny (t := 3) rfl _ _ _ rfl (fun w hw => run_load_int ((ov_B b2 w hw).cellL 2 rfl)) (by rfl) ?_; simp only [putS]; go_big_quiet_on) | (refine quiet_loadAny (t := 3) rfl _ _ _ rfl (fun w hw => run_load_int ((ov_B b2 w hw).cellL 3 rfl)) (by rfl) ?_; simp only [putS]; go_big_quiet_on) | (refine quiet_loadAny (t := 3) rfl _ _ _ rfl (fun w hw => run_load_int ((ov_B b3 w hw).cellL 0 rfl)) (by rfl) ?_; simp only [putS]; go_big_quiet_on) | (refine quiet_loadAny (t := 3) rfl _ _ _ rfl (fun w hw => run_load_int ((ov_B b3 w hw).cellL 1 rfl)) (by rfl) ?_; simp only [putS]; go_big_quiet_on) | (refine quiet_loadAny (t := 3) rfl _ _ _ rfl (fun w hw => run_load_int ((ov_B b6 w hw).cellL 0 rfl)) (by rfl) ?_; simp only [putS]; go_big_quiet_on) | (refine quiet_loadAny (t := 3) rfl _ _ _ rfl (fun w hw => run_load_int ((ov_B b6 w hw).cellL 1 rfl)) (by rfl) ?_; simp only [putS]; go_big_quiet_on) | (refine quiet_loadAny (t := 3) rfl _ _ _ rfl (fun w hw => run_load_int ((ov_B b6 w hw).cellL 2 rfl)) (by rfl) ?_; simp only [putS]; go_big_quiet_on) | (refine quiet_loadAny (t := 3) rfl _ _ _ rfl (fun w hw => run_load_int ((ov_B b6 w hw).cellL 3 rfl)) (by rfl) ?_; simp only [putS]; go_big_quiet_on) | (go_big_quiet_op; go_big_quiet_on)))
    refine wpQuiet_nil ?_
    refine wpRL_callB (by rfl) (by first | rfl | simp [Region.wanted, yielded]) ?_ ?_
    · intro wn hbn hE Kx hKx
      have hsz := B.size
      have hzn := hbn.size
      replace B := B.trans (hbn.mono B.size)
      (try replace b2 := b2.below hbn)
      (try replace b3 := b3.below hbn)
      (try replace b6 := b6.below hbn)
      (try replace s51 := s51.below hbn)
      (try replace s64 := s64.below hbn)
      (try replace p12 := p12.below hbn)
      (try replace r13 := r13.below hbn)
      (try replace rs1 := rs1.below hbn)
      refine wp_callF rfl (enters_of Try.func12 (by kernel_rfl) rfl) (by simp only [List.map_toArray, List.map_cons, List.map_nil, Act.eval, Array.getD_eq_getD_getElem?, List.getElem?_toArray, List.getElem?_cons_succ, List.getElem?_cons_zero, Option.getD_some]; rfl) ?_
      refine (L15_restO n2 20 k2 (by omega) Hk2.out wn).mono ?_
      rintro e wm ⟨rfl, hbm⟩
      refine ⟨_, rfl, ?_⟩
      have hz := hKx () wm trivial hbm
      dsimp only [detS] at hz
      exact hz
    rintro ⟨⟩
    dsimp only [detS]
    simp only [putS]
    refine wpRL_chunk 3 (by kernel_rfl) ?_
    simp only [takS, Nat.reduceAdd]
    repeat (first | go_big_quiet_skip | (go_big_quiet_want; first | (refine quiet_loadAny (t := 3) rfl _ _ _ rfl (fun w hw => run_load_int ((ov_B b2 w hw).cellL 0 rfl)) (by rfl) ?_; simp only [putS]; go_big_quiet_on) | (refine quiet_loadAny (t := 3) rfl _ _ _ rfl (fun w hw => run_load_int ((ov_B b2 w hw).cellL 1 rfl)) (by rfl) ?_; simp only [putS]; go_big_quiet_on) | (refine quiet_loadAny (t := 3) rfl _ _ _ rfl (fun w hw => run_load_int ((ov_B b2 w hw).cellL 2 rfl)) (by rfl) ?_; simp only [putS]; go_big_quiet_on) | (refine quiet_loadAny (t := 3) rfl _ _ _ rfl (fun w hw => run_load_int ((ov_B b2 w hw).cellL 3 rfl)) (by rfl) ?_; simp only [putS]; go_big_quiet_on) | (refine quiet_loadAny (t := 3) rfl _ _ _ rfl (fun w hw => run_load_int ((ov_B b3 w hw).cellL 0 rfl)) (by rfl) ?_; simp only [putS]; go_big_quiet_on) | (refine quiet_loadAny (t := 3) rfl _ _ _ rfl (fun w hw => run_load_int ((ov_B b3 w hw).cellL 1 rfl)) (by rfl) ?_; simp only [putS]; go_big_quiet_on) | (refine quiet_loadAny (t := 3) rfl _ _ _ rfl (fun w hw => run_load_int ((ov_B b6 w hw).cellL 0 rfl)) (by rfl) ?_; simp only [putS]; go_big_quiet_on) | (refine quiet_loadAny (t := 3) rfl _ _ _ rfl (fun w hw => run_load_int ((ov_B b6 w hw).cellL 1 rfl)) (by rfl) ?_; simp only [putS]; go_big_quiet_on) | (refine quiet_loadAny (t := 3) rfl _ _ _ rfl (fun w hw => run_load_int ((ov_B b6 w hw).cellL 2 rfl)) (by rfl) ?_; simp only [putS]; go_big_quiet_on) | (refine quiet_loadAny (t := 3) rfl _ _ _ rfl (fun w hw => run_load_int ((ov_B b6 w hw).cellL 3 rfl)) (by rfl) ?_; simp only [putS]; go_big_quiet_on) | (go_big_quiet_op; go_big_quiet_on)))
    refine wpQuiet_nil ?_
    refine wpRL_callB (by rfl) (by first | rfl | simp [Region.wanted, yielded]) ?_ ?_
    · intro wn hbn hE Kx hKx
      have hsz := B.size
      have hzn := hbn.size
      replace B := B.trans (hbn.mono B.size)
      (try replace b2 := b2.below hbn)
      (try replace b3 := b3.below hbn)
      (try replace b6 := b6.below hbn)
      (try replace s51 := s51.below hbn)
      (try replace s64 := s64.below hbn)
      (try replace p12 := p12.below hbn)
      (try replace r13 := r13.below hbn)
      (try replace rs1 := rs1.below hbn)
      refine wp_callF rfl (enters_of Try.func12 (by kernel_rfl) rfl) (by simp only [List.map_toArray, List.map_cons, List.map_nil, Act.eval, Array.getD_eq_getD_getElem?, List.getElem?_toArray, List.getElem?_cons_succ, List.getElem?_cons_zero, Option.getD_some]; rfl) ?_
      refine (L15_restO n3 20 k3 (by omega) Hk3.out wn).mono ?_
      rintro e wm ⟨rfl, hbm⟩
      refine ⟨_, rfl, ?_⟩
      have hz := hKx () wm trivial hbm
      dsimp only [detS] at hz
      exact hz
    rintro ⟨⟩
    dsimp only [detS]
    simp only [putS]
    refine wpRL_chunk 2 (by kernel_rfl) ?_
    simp only [takS, Nat.reduceAdd]
    repeat (first | go_big_quiet_skip | (go_big_quiet_want; first | (go_big_quiet_op; go_big_quiet_on)))
    refine wpQuiet_nil ?_
    refine wpRL_callB (by rfl) (by first | rfl | simp [Region.wanted, yielded]) ?_ ?_
    · intro wn hbn hE Kx hKx
      have hsz := B.size
      have hzn := hbn.size
      replace B := B.trans (hbn.mono B.size)
      (try replace b2 := b2.below hbn)
      (try replace b3 := b3.below hbn)
      (try replace b6 := b6.below hbn)
      (try replace s51 := s51.below hbn)
      (try replace s64 := s64.below hbn)
      (try replace p12 := p12.below hbn)
      (try replace r13 := r13.below hbn)
      (try replace rs1 := rs1.below hbn)
      refine wp_callF rfl (enters_of Try.func23 (by kernel_rfl) rfl) (by simp only [List.map_toArray, List.map_cons, List.map_nil, Act.eval, Array.getD_eq_getD_getElem?, List.getElem?_toArray, List.getElem?_cons_succ, List.getElem?_cons_zero, Option.getD_some]; rfl) ?_
      refine (HS.out wn).mono ?_
      rintro e wm ⟨rfl, hbm⟩
      refine ⟨_, rfl, ?_⟩
      have hz := hKx () wm trivial hbm
      dsimp only [detS] at hz
      exact hz
    rintro ⟨⟩
    dsimp only [detS]
    simp only [putS]
    refine wpRL_callB (by rfl) (by first | rfl | simp [Region.wanted, yielded]) ?_ ?_
    · intro wn hbn hE Kx hKx
      have hsz := B.size
      have hzn := hbn.size
      replace B := B.trans (hbn.mono B.size)
      (try replace b2 := b2.below hbn)
      (try replace b3 := b3.below hbn)
      (try replace b6 := b6.below hbn)
      (try replace s51 := s51.below hbn)
      (try replace s64 := s64.below hbn)
      (try replace p12 := p12.below hbn)
      (try replace r13 := r13.below hbn)
      (try replace rs1 := rs1.below hbn)
      refine owp_allocBk (t := 31) _ (run_alloc_Rc _ _ rfl) ?_
      intro b wm h1 h2 ht hbm hzm
      exact hKx b wm ⟨Nat.le_trans hbn.size h1, ht⟩ (hbm.mono h1)
    rintro b_b6
    dsimp only [detS, ptrS]
    simp only [putS]
    refine wpRL_nil ?_
    intro wn hbn hE
    have hsz := B.size
    have hzn := hbn.size
    replace B := B.trans (hbn.mono B.size)
    (try replace b2 := b2.below hbn)
    (try replace b3 := b3.below hbn)
    (try replace b6 := b6.below hbn)
    (try replace s51 := s51.below hbn)
    (try replace s64 := s64.below hbn)
    (try replace p12 := p12.below hbn)
    (try replace r13 := r13.below hbn)
    (try replace rs1 := rs1.below hbn)
    obtain ⟨hge_b6, b6⟩ : _ ∧ AtB _ _ _ _ := hE 14
    clear hE
    try simp only [List.drop_succ_cons, List.drop_zero]
    go_wp2_with (first | (refine wpList_storeB (t := 31) rfl _ _ rfl _ rfl _ rfl b6 (by kernel_rfl) rfl (by simp [rcA, pxC4, Value.oneCell']) ?_; have b6o := b6; clear b6; intro wn ht hcn hzn; (try replace rs1 := rs1.chg b6o (by simp [rcA, pxC4]) hcn); have hsz := B.size; replace hzn := Nat.le_of_eq hzn.symm; replace B := Chg.below B hcn (by omega) B.size; (try replace b2 := b2.of_eq (hcn.block _ b2.lt (by omega))); (try replace b3 := b3.of_eq (hcn.block _ b3.lt (by omega))); (try replace s51 := s51.of_eq (hcn.block _ s51.lt (by omega))); (try replace s64 := s64.of_eq (hcn.block _ s64.lt (by omega))); (try replace p12 := p12.of_eq (hcn.block _ p12.lt (by omega))); (try replace r13 := r13.of_eq (hcn.block _ r13.lt (by omega))); (try replace rs1 := rs1.of_eq (hcn.block _ rs1.lt (by omega))); have b6 := ht; clear ht; simp only [putS]) | fail)
    refine NoPan.normal ?_
    replace b6 : AtB 31 _ b_b6 (rcA sr) := b6
    go_upto_region 3 with fail
    refine wp_region_lit ?_
    try simp only [gelS]
    refine wpList_chunk 20 (by kernel_rfl) ?_
    simp only [takS, Nat.reduceAdd]
    repeat (first | go_big_quiet_skip | (go_big_quiet_want; first | (refine quiet_loadAny (t := 3) rfl _ _ _ rfl (fun w hw => run_load_int ((ov_B b2 w hw).cellL 0 rfl)) (by rfl) ?_; simp only [putS]; go_big_quiet_on) | (refine quiet_loadAny (t := 3) rfl _ _ _ rfl (fun w hw => run_load_int ((ov_B b2 w hw).cellL 1 rfl)) (by rfl) ?_; simp only [putS]; go_big_quiet_on) | (refine quiet_loadAny (t := 3) rfl _ _ _ rfl (fun w hw => run_load_int ((ov_B b2 w hw).cellL 2 rfl)) (by rfl) ?_; simp only [putS]; go_big_quiet_on) | (refine quiet_loadAny (t := 3) rfl _ _ _ rfl (fun w hw => run_load_int ((ov_B b2 w hw).cellL 3 rfl)) (by rfl) ?_; simp only [putS]; go_big_quiet_on) | (refine quiet_loadAny (t := 3) rfl _ _ _ rfl (fun w hw => run_load_int ((ov_B b3 w hw).cellL 0 rfl)) (by rfl) ?_; simp only [putS]; go_big_quiet_on) | (refine quiet_loadAny (t := 3) rfl _ _ _ rfl (fun w hw => run_load_int ((ov_B b3 w hw).cellL 1 rfl)) (by rfl) ?_; simp only [putS]; go_big_quiet_on) | (refine quiet_loadAny (t := 3) rfl _ _ _ rfl (fun w hw => run_load_int ((ov_B b6 w hw).cellL 0 rfl)) (by rfl) ?_; simp only [putS]; go_big_quiet_on) | (refine quiet_loadAny (t := 3) rfl _ _ _ rfl (fun w hw => run_load_int ((ov_B b6 w hw).cellL 1 rfl)) (by rfl) ?_; simp only [putS]; go_big_quiet_on) | (refine quiet_loadAny (t := 3) rfl _ _ _ rfl (fun w hw => run_load_int ((ov_B b6 w hw).cellL 2 rfl)) (by rfl) ?_; simp only [putS]; go_big_quiet_on) | (refine quiet_loadAny (t := 3) rfl _ _ _ rfl (fun w hw => run_load_int ((ov_B b6 w hw).cellL 3 rfl)) (by rfl) ?_; simp only [putS]; go_big_quiet_on) | (go_big_quiet_op; go_big_quiet_on)))
    refine wpQuiet_nil ?_
    (refine wpList_bsnE (E := ptE) (by first | rfl | simp [Region.wanted, yielded]) 4 _ rfl (rcP sr) rfl (by simp only [List.map_toArray, List.map_cons, List.map_nil, Act.eval, Array.getD_eq_getD_getElem?, List.getElem?_toArray, List.getElem?_cons_succ, List.getElem?_cons_zero, Option.getD_some]; rfl) (by omega) (by omega) ?_; intro b_s51 wn hle hge ht hbn hzn; have hsz := B.size; replace B := B.trans (hbn.mono (by omega)); have hln := Nat.lt_of_lt_of_eq (Nat.lt_succ_self _) hzn.symm; clear hzn; (try have hlt := b2.lt); (try replace b2 := b2.below (hbn.mono hle)); (try have hlt := b3.lt); (try replace b3 := b3.below (hbn.mono hle)); (try have hlt := b6.lt); (try replace b6 := b6.below (hbn.mono hle)); (try have hlt := s51.lt); (try replace s51 := s51.below (hbn.mono hle)); (try have hlt := s64.lt); (try replace s64 := s64.below (hbn.mono hle)); (try have hlt := p12.lt); (try replace p12 := p12.below (hbn.mono hle)); (try have hlt := r13.lt); (try replace r13 := r13.below (hbn.mono hle)); (try have hlt := rs1.lt); (try replace rs1 := rs1.below (hbn.mono hle)); have s51 := ht; clear ht; simp only [putS])
    refine wpList_chunk 1 (by kernel_rfl) ?_
    simp only [takS, Nat.reduceAdd]
    repeat (first | go_big_quiet_skip | (go_big_quiet_want; first | (go_big_quiet_op; go_big_quiet_on)))
    refine wpQuiet_nil ?_
    refine wpList_nil ?_
    have pc := s51.cells
    go_upto_region 4 with fail
    try simp only [gelS]
    try have lx_b2 := b2.lt
    try have lx_b3 := b3.lt
    try have lx_b6 := b6.lt
    try have lx_s51 := s51.lt
    try have lx_s64 := s64.lt
    try have lx_p12 := p12.lt
    try have lx_r13 := r13.lt
    try have lx_rs1 := rs1.lt
    try have lx_pc := pc.lt
    refine wp_region_RL 14 [(12, rowS ptE (wn.heap.size) 4 (rcQ sr))] (by kernel_rfl) (by kernel_rfl) (by kernel_rfl) ?_
    rotate_left 0
    simp only [takS, Nat.reduceAdd]
    refine wpRL_chunk 12 (by kernel_rfl) ?_
    simp only [takS, Nat.reduceAdd]
    repeat (first | go_big_quiet_skip | (go_big_quiet_want; first | (refine quiet_loadAny (t := 44) rfl _ _ _ rfl (fun w hw => rce_pt (ov_rce pc w hw) (i := 2) (x := sr.x1) (y := sr.y1) rfl) (by first | rfl | omega) ?_; simp only [putS]; go_big_quiet_on) | (refine quiet_loadAny (t := 44) rfl _ _ _ rfl (fun w hw => rce_pt (ov_rce pc w hw) (i := 1) (x := sr.x1) (y := sr.y0) rfl) (by first | rfl | omega) ?_; simp only [putS]; go_big_quiet_on) | (refine quiet_loadAny (t := 44) rfl _ _ _ rfl (fun w hw => rce_pt (ov_rce pc w hw) (i := 0) (x := sr.x0) (y := sr.y0) rfl) (by first | rfl | omega) ?_; simp only [putS]; go_big_quiet_on) | (refine quiet_loadAny (t := 44) rfl _ _ _ rfl (fun w hw => rce_pt (ov_rce pc w hw) (i := 3) (x := sr.x0) (y := sr.y1) rfl) (by first | rfl | omega) ?_; simp only [putS]; go_big_quiet_on) | (go_big_quiet_op; go_big_quiet_on)))
    refine wpQuiet_nil ?_
    refine wpRL_callB (by rfl) (by first | rfl | simp [Region.wanted, yielded]) ?_ ?_
    · intro wn hbn hE Kx hKx
      have hsz := B.size
      have hzn := hbn.size
      replace B := B.trans (hbn.mono B.size)
      (try replace b2 := b2.below hbn)
      (try replace b3 := b3.below hbn)
      (try replace b6 := b6.below hbn)
      (try replace s51 := s51.below hbn)
      (try replace s64 := s64.below hbn)
      (try replace p12 := p12.below hbn)
      (try replace r13 := r13.below hbn)
      (try replace rs1 := rs1.below hbn)
      (try replace pc := pc.below hbn)
      refine owp_bsnE (E := ptE) 4 _ rfl (rcQ sr) rfl (by simp only [List.map_toArray, List.map_cons, List.map_nil, Act.eval, Array.getD_eq_getD_getElem?, List.getElem?_toArray, List.getElem?_cons_succ, List.getElem?_cons_zero, Option.getD_some]; rfl) (by omega) (by omega) ?_
      intro b wm h1 h2 ht hbm hzm
      exact hKx b wm ⟨Nat.le_trans hbn.size h1, ht⟩ (hbm.mono h1)
    rintro b_s64
    dsimp only [detS, rowS]
    simp only [putS]
    refine wpRL_chunk 1 (by kernel_rfl) ?_
    simp only [takS, Nat.reduceAdd]
    repeat (first | go_big_quiet_skip | (go_big_quiet_want; first | (go_big_quiet_op; go_big_quiet_on)))
    refine wpQuiet_nil ?_
    refine wpRL_nil ?_
    intro wn hbn hE
    have hsz := B.size
    have hzn := hbn.size
    replace B := B.trans (hbn.mono B.size)
    (try replace b2 := b2.below hbn)
    (try replace b3 := b3.below hbn)
    (try replace b6 := b6.below hbn)
    (try replace s51 := s51.below hbn)
    (try replace s64 := s64.below hbn)
    (try replace p12 := p12.below hbn)
    (try replace r13 := r13.below hbn)
    (try replace rs1 := rs1.below hbn)
    (try replace pc := pc.below hbn)
    obtain ⟨hge_s64, s64⟩ : _ ∧ RowAt _ _ _ _ := hE 12
    clear hE
    try simp only [List.drop_succ_cons, List.drop_zero]
    refine NoPan.normal ?_
    clear pc
    go_upto_region 5 with fail
    refine wp_region_lit ?_
    try simp only [gelS]
    refine wpList_chunk 2 (by kernel_rfl) ?_
    simp only [takS, Nat.reduceAdd]
    repeat (first | go_big_quiet_skip | (go_big_quiet_want; first | (refine quiet_loadAny (t := 3) rfl _ _ _ rfl (fun w hw => run_load_int ((ov_B b2 w hw).cellL 0 rfl)) (by rfl) ?_; simp only [putS]; go_big_quiet_on) | (refine quiet_loadAny (t := 3) rfl _ _ _ rfl (fun w hw => run_load_int ((ov_B b2 w hw).cellL 1 rfl)) (by rfl) ?_; simp only [putS]; go_big_quiet_on) | (refine quiet_loadAny (t := 3) rfl _ _ _ rfl (fun w hw => run_load_int ((ov_B b2 w hw).cellL 2 rfl)) (by rfl) ?_; simp only [putS]; go_big_quiet_on) | (refine quiet_loadAny (t := 3) rfl _ _ _ rfl (fun w hw => run_load_int ((ov_B b2 w hw).cellL 3 rfl)) (by rfl) ?_; simp only [putS]; go_big_quiet_on) | (refine quiet_loadAny (t := 3) rfl _ _ _ rfl (fun w hw => run_load_int ((ov_B b3 w hw).cellL 0 rfl)) (by rfl) ?_; simp only [putS]; go_big_quiet_on) | (refine quiet_loadAny (t := 3) rfl _ _ _ rfl (fun w hw => run_load_int ((ov_B b3 w hw).cellL 1 rfl)) (by rfl) ?_; simp only [putS]; go_big_quiet_on) | (refine quiet_loadAny (t := 3) rfl _ _ _ rfl (fun w hw => run_load_int ((ov_B b6 w hw).cellL 0 rfl)) (by rfl) ?_; simp only [putS]; go_big_quiet_on) | (refine quiet_loadAny (t := 3) rfl _ _ _ rfl (fun w hw => run_load_int ((ov_B b6 w hw).cellL 1 rfl)) (by rfl) ?_; simp only [putS]; go_big_quiet_on) | (refine quiet_loadAny (t := 3) rfl _ _ _ rfl (fun w hw => run_load_int ((ov_B b6 w hw).cellL 2 rfl)) (by rfl) ?_; simp only [putS]; go_big_quiet_on) | (refine quiet_loadAny (t := 3) rfl _ _ _ rfl (fun w hw => run_load_int ((ov_B b6 w hw).cellL 3 rfl)) (by rfl) ?_; simp only [putS]; go_big_quiet_on) | (go_big_quiet_op; go_big_quiet_on)))
    refine wpQuiet_nil ?_
    refine wpList_callF (by first | rfl | simp [Region.wanted, yielded]) rfl (enters_of Try.func12 (by kernel_rfl) rfl) (by simp only [List.map_toArray, List.map_cons, List.map_nil, Act.eval, Array.getD_eq_getD_getElem?, List.getElem?_toArray, List.getElem?_cons_succ, List.getElem?_cons_zero, Option.getD_some]; rfl) ?_
    refine (L15_restO m0 90 x1 (by omega) Hx1.out _).mono ?_
    rintro e wn ⟨rfl, hbn⟩
    have hsz := B.size
    have hzn := hbn.size
    replace B := B.trans (hbn.mono B.size)
    (try replace b2 := b2.below hbn)
    (try replace b3 := b3.below hbn)
    (try replace b6 := b6.below hbn)
    (try replace s51 := s51.below hbn)
    (try replace s64 := s64.below hbn)
    (try replace p12 := p12.below hbn)
    (try replace r13 := r13.below hbn)
    (try replace rs1 := rs1.below hbn)
    refine ⟨_, rfl, ?_⟩
    simp only [putS]
    refine wpList_chunk 2 (by kernel_rfl) ?_
    simp only [takS, Nat.reduceAdd]
    repeat (first | go_big_quiet_skip | (go_big_quiet_want; first | (go_big_quiet_op; go_big_quiet_on)))
    refine wpQuiet_nil ?_
    refine wpList_nil ?_
    go_upto_region 6 with fail
    refine wp_region_lit ?_
    try simp only [gelS]
    refine wpList_chunk 2 (by kernel_rfl) ?_
    simp only [takS, Nat.reduceAdd]
    repeat (first | go_big_quiet_skip | (go_big_quiet_want; first | (refine quiet_loadAny (t := 3) rfl _ _ _ rfl (fun w hw => run_load_int ((ov_B b2 w hw).cellL 0 rfl)) (by rfl) ?_; simp only [putS]; go_big_quiet_on) | (refine quiet_loadAny (t := 3) rfl _ _ _ rfl (fun w hw => run_load_int ((ov_B b2 w hw).cellL 1 rfl)) (by rfl) ?_; simp only [putS]; go_big_quiet_on) | (refine quiet_loadAny (t := 3) rfl _ _ _ rfl (fun w hw => run_load_int ((ov_B b2 w hw).cellL 2 rfl)) (by rfl) ?_; simp only [putS]; go_big_quiet_on) | (refine quiet_loadAny (t := 3) rfl _ _ _ rfl (fun w hw => run_load_int ((ov_B b2 w hw).cellL 3 rfl)) (by rfl) ?_; simp only [putS]; go_big_quiet_on) | (refine quiet_loadAny (t := 3) rfl _ _ _ rfl (fun w hw => run_load_int ((ov_B b3 w hw).cellL 0 rfl)) (by rfl) ?_; simp only [putS]; go_big_quiet_on) | (refine quiet_loadAny (t := 3) rfl _ _ _ rfl (fun w hw => run_load_int ((ov_B b3 w hw).cellL 1 rfl)) (by rfl) ?_; simp only [putS]; go_big_quiet_on) | (refine quiet_loadAny (t := 3) rfl _ _ _ rfl (fun w hw => run_load_int ((ov_B b6 w hw).cellL 0 rfl)) (by rfl) ?_; simp only [putS]; go_big_quiet_on) | (refine quiet_loadAny (t := 3) rfl _ _ _ rfl (fun w hw => run_load_int ((ov_B b6 w hw).cellL 1 rfl)) (by rfl) ?_; simp only [putS]; go_big_quiet_on) | (refine quiet_loadAny (t := 3) rfl _ _ _ rfl (fun w hw => run_load_int ((ov_B b6 w hw).cellL 2 rfl)) (by rfl) ?_; simp only [putS]; go_big_quiet_on) | (refine quiet_loadAny (t := 3) rfl _ _ _ rfl (fun w hw => run_load_int ((ov_B b6 w hw).cellL 3 rfl)) (by rfl) ?_; simp only [putS]; go_big_quiet_on) | (go_big_quiet_op; go_big_quiet_on)))
    refine wpQuiet_nil ?_
    refine wpList_callF (by first | rfl | simp [Region.wanted, yielded]) rfl (enters_of Try.func12 (by kernel_rfl) rfl) (by simp only [List.map_toArray, List.map_cons, List.map_nil, Act.eval, Array.getD_eq_getD_getElem?, List.getElem?_toArray, List.getElem?_cons_succ, List.getElem?_cons_zero, Option.getD_some]; rfl) ?_
    refine (L15_restO m1 90 y1 (by omega) Hy1.out _).mono ?_
    rintro e wn ⟨rfl, hbn⟩
    have hsz := B.size
    have hzn := hbn.size
    replace B := B.trans (hbn.mono B.size)
    (try replace b2 := b2.below hbn)
    (try replace b3 := b3.below hbn)
    (try replace b6 := b6.below hbn)
    (try replace s51 := s51.below hbn)
    (try replace s64 := s64.below hbn)
    (try replace p12 := p12.below hbn)
    (try replace r13 := r13.below hbn)
    (try replace rs1 := rs1.below hbn)
    refine ⟨_, rfl, ?_⟩
    simp only [putS]
    refine wpList_chunk 2 (by kernel_rfl) ?_
    simp only [takS, Nat.reduceAdd]
    repeat (first | go_big_quiet_skip | (go_big_quiet_want; first | (go_big_quiet_op; go_big_quiet_on)))
    refine wpQuiet_nil ?_
    refine wpList_nil ?_
    go_upto_region 7 with fail
    refine wp_region_lit ?_
    try simp only [gelS]
    refine wpList_chunk 1 (by kernel_rfl) ?_
    simp only [takS, Nat.reduceAdd]
    repeat (first | go_big_quiet_skip | (go_big_quiet_want; first | (go_big_quiet_op; go_big_quiet_on)))
    refine wpQuiet_nil ?_
    refine wpList_nil ?_
    go_upto_region 8 with fail
    refine wp_region_lit ?_
    try simp only [gelS]
    refine wpList_chunk 3 (by kernel_rfl) ?_
    simp only [takS, Nat.reduceAdd]
    repeat (first | go_big_quiet_skip | (go_big_quiet_want; first | (refine quiet_loadAny (t := 31) rfl _ _ _ rfl (fun w hw => run_load_B (ov_B b6 w hw) Try.isAgg31 (by kernel_rfl)) (by rfl) ?_; simp only [putS]; go_big_quiet_on) | (go_big_quiet_op; go_big_quiet_on)))
    refine wpQuiet_nil ?_
    refine wpList_callF (by first | rfl | simp [Region.wanted, yielded]) rfl (enters_of Try.func28 (by kernel_rfl) rfl) (by simp only [List.map_toArray, List.map_cons, List.map_nil, Act.eval, Array.getD_eq_getD_getElem?, List.getElem?_toArray, List.getElem?_cons_succ, List.getElem?_cons_zero, Option.getD_some]; rfl) ?_
    refine (R_HasX sr (x1 - 25) (y1 - 25) false _ HH.out).mono ?_
    rintro e wn ⟨rfl, hbn⟩
    have hsz := B.size
    have hzn := hbn.size
    replace B := B.trans (hbn.mono B.size)
    (try replace b2 := b2.below hbn)
    (try replace b3 := b3.below hbn)
    (try replace b6 := b6.below hbn)
    (try replace s51 := s51.below hbn)
    (try replace s64 := s64.below hbn)
    (try replace p12 := p12.below hbn)
    (try replace r13 := r13.below hbn)
    (try replace rs1 := rs1.below hbn)
    refine ⟨_, rfl, ?_⟩
    simp only [putS]
    refine wpList_nil ?_
    go_upto_region 10 with fail
    refine wp_region_lit ?_
    try simp only [gelS]
    refine wpList_chunk 1 (by kernel_rfl) ?_
    simp only [takS, Nat.reduceAdd]
    repeat (first | go_big_quiet_skip | (go_big_quiet_want; first | (go_big_quiet_op; go_big_quiet_on)))
    refine wpQuiet_nil ?_
    (refine wpList_allocBk (t := 59) rfl _ (run_alloc_Pxx _ _ rfl) ?_; intro b_p12 wn hle hge ht hbn hzn; have hsz := B.size; replace B := B.trans (hbn.mono (by omega)); have hln := Nat.lt_of_lt_of_eq (Nat.lt_succ_self _) hzn.symm; clear hzn; (try have hlt := b2.lt); (try replace b2 := b2.below (hbn.mono hle)); (try have hlt := b3.lt); (try replace b3 := b3.below (hbn.mono hle)); (try have hlt := b6.lt); (try replace b6 := b6.below (hbn.mono hle)); (try have hlt := s51.lt); (try replace s51 := s51.below (hbn.mono hle)); (try have hlt := s64.lt); (try replace s64 := s64.below (hbn.mono hle)); (try have hlt := p12.lt); (try replace p12 := p12.below (hbn.mono hle)); (try have hlt := r13.lt); (try replace r13 := r13.below (hbn.mono hle)); (try have hlt := rs1.lt); (try replace rs1 := rs1.below (hbn.mono hle)); have p12 := ht; clear ht; simp only [putS])
    (refine wpList_storeB (t := 59) rfl _ _ rfl _ rfl _ rfl p12 (by kernel_rfl) rfl (by simp [rcA, pxC4, Value.oneCell']) ?_; have p12o := p12; clear p12; intro wn ht hcn hzn; (try replace rs1 := rs1.chg p12o (by simp [rcA, pxC4]) hcn); have hsz := B.size; replace hzn := Nat.le_of_eq hzn.symm; replace B := Chg.below B hcn (by omega) B.size; (try replace b2 := b2.of_eq (hcn.block _ b2.lt (by omega))); (try replace b3 := b3.of_eq (hcn.block _ b3.lt (by omega))); (try replace b6 := b6.of_eq (hcn.block _ b6.lt (by omega))); (try replace s51 := s51.of_eq (hcn.block _ s51.lt (by omega))); (try replace s64 := s64.of_eq (hcn.block _ s64.lt (by omega))); (try replace r13 := r13.of_eq (hcn.block _ r13.lt (by omega))); (try replace rs1 := rs1.of_eq (hcn.block _ rs1.lt (by omega))); have p12 := ht; clear ht; simp only [putS])
    refine wpList_nil ?_
    replace p12 : AtB 59 _ b_p12 #[.int .u8 0, .int .u8 7, .int .u8 0, .int .u8 200] := p12
    go_upto_region 11 with fail
    refine wp_region_lit ?_
    try simp only [gelS]
    refine wpList_chunk 2 (by kernel_rfl) ?_
    simp only [takS, Nat.reduceAdd]
    repeat (first | go_big_quiet_skip | (go_big_quiet_want; first | (refine quiet_loadAny (t := 59) rfl _ _ _ rfl (fun w hw => run_load_B (ov_B p12 w hw) Try.isAgg59 (by kernel_rfl)) (by rfl) ?_; simp only [putS]; go_big_quiet_on) | (go_big_quiet_op; go_big_quiet_on)))
    refine wpQuiet_nil ?_
    refine wpList_callF (by first | rfl | simp [Region.wanted, yielded]) rfl (enters_of Try.func29 (by kernel_rfl) rfl) (by simp only [List.map_toArray, List.map_cons, List.map_nil, Act.eval, Array.getD_eq_getD_getElem?, List.getElem?_toArray, List.getElem?_cons_succ, List.getElem?_cons_zero, Option.getD_some]; rfl) ?_
    refine (P_FillX _ (rcP sr) F _ (RowAt.rs s51) mlP G1.out G2.out HF.out).mono ?_
    rintro e wn ⟨a4, c4, rfl, rs1, hbn⟩
    have hsz := B.size
    have hzn := hbn.size
    replace B := B.trans (hbn.mono B.size)
    (try replace b2 := b2.below hbn)
    (try replace b3 := b3.below hbn)
    (try replace b6 := b6.below hbn)
    (try replace s51 := s51.below hbn)
    (try replace s64 := s64.below hbn)
    (try replace p12 := p12.below hbn)
    (try replace r13 := r13.below hbn)
    (try replace rs1 := rs1.below hbn)
    refine ⟨_, rfl, ?_⟩
    simp only [putS]
    refine wpList_chunk 3 (by kernel_rfl) ?_
    simp only [takS, Nat.reduceAdd]
    repeat (first | go_big_quiet_skip | (go_big_quiet_want; first | (go_big_quiet_op; go_big_quiet_on)))
    refine wpQuiet_nil ?_
    (refine wpList_allocBk (t := 36) rfl _ (run_alloc_R _ _ rfl) ?_; intro b_r13 wn hle hge ht hbn hzn; have hsz := B.size; replace B := B.trans (hbn.mono (by omega)); have hln := Nat.lt_of_lt_of_eq (Nat.lt_succ_self _) hzn.symm; clear hzn; (try have hlt := b2.lt); (try replace b2 := b2.below (hbn.mono hle)); (try have hlt := b3.lt); (try replace b3 := b3.below (hbn.mono hle)); (try have hlt := b6.lt); (try replace b6 := b6.below (hbn.mono hle)); (try have hlt := s51.lt); (try replace s51 := s51.below (hbn.mono hle)); (try have hlt := s64.lt); (try replace s64 := s64.below (hbn.mono hle)); (try have hlt := p12.lt); (try replace p12 := p12.below (hbn.mono hle)); (try have hlt := r13.lt); (try replace r13 := r13.below (hbn.mono hle)); (try have hlt := rs1.lt); (try replace rs1 := rs1.below (hbn.mono hle)); have r13 := ht; clear ht; simp only [putS])
    (refine wpList_storeB (t := 36) rfl _ _ rfl _ rfl _ rfl r13 (by kernel_rfl) rfl (by simp [rcA, pxC4, Value.oneCell']) ?_; have r13o := r13; clear r13; intro wn ht hcn hzn; (try replace rs1 := rs1.chg r13o (by simp [rcA, pxC4]) hcn); have hsz := B.size; replace hzn := Nat.le_of_eq hzn.symm; replace B := Chg.below B hcn (by omega) B.size; (try replace b2 := b2.of_eq (hcn.block _ b2.lt (by omega))); (try replace b3 := b3.of_eq (hcn.block _ b3.lt (by omega))); (try replace b6 := b6.of_eq (hcn.block _ b6.lt (by omega))); (try replace s51 := s51.of_eq (hcn.block _ s51.lt (by omega))); (try replace s64 := s64.of_eq (hcn.block _ s64.lt (by omega))); (try replace p12 := p12.of_eq (hcn.block _ p12.lt (by omega))); (try replace rs1 := rs1.of_eq (hcn.block _ rs1.lt (by omega))); have r13 := ht; clear ht; simp only [putS])
    refine wpList_chunk 1 (by kernel_rfl) ?_
    simp only [takS, Nat.reduceAdd]
    repeat (first | go_big_quiet_skip | (go_big_quiet_want; first | (go_big_quiet_op; go_big_quiet_on)))
    refine wpQuiet_nil ?_
    refine wpList_nil ?_
    go_upto_region 12 with fail
    refine wp_region_lit ?_
    try simp only [gelS]
    refine wpList_chunk 3 (by kernel_rfl) ?_
    simp only [takS, Nat.reduceAdd]
    repeat (first | go_big_quiet_skip | (go_big_quiet_want; first | (refine quiet_loadAny (t := 36) rfl _ _ _ rfl (fun w hw => run_load_B (ov_B r13 w hw) Try.isAgg36 (by kernel_rfl)) (by rfl) ?_; simp only [putS]; go_big_quiet_on) | (go_big_quiet_op; go_big_quiet_on)))
    refine wpQuiet_nil ?_
    refine wpList_callF (by first | rfl | simp [Region.wanted, yielded]) rfl (enters_of Try.func30 (by kernel_rfl) rfl) (by simp only [List.map_toArray, List.map_cons, List.map_nil, Act.eval, Array.getD_eq_getD_getElem?, List.getElem?_toArray, List.getElem?_cons_succ, List.getElem?_cons_zero, Option.getD_some]; rfl) ?_
    refine (P_GetO _ F (x1 - 25) (y1 - 25) 0 0 0 0 _ rs1 HFL.out wx wy GX.out).mono ?_
    rintro e wn ⟨rfl, hbn⟩
    have hsz := B.size
    have hzn := hbn.size
    replace B := B.trans (hbn.mono B.size)
    (try replace b2 := b2.below hbn)
    (try replace b3 := b3.below hbn)
    (try replace b6 := b6.below hbn)
    (try replace s51 := s51.below hbn)
    (try replace s64 := s64.below hbn)
    (try replace p12 := p12.below hbn)
    (try replace r13 := r13.below hbn)
    (try replace rs1 := rs1.below hbn)
    refine ⟨_, rfl, ?_⟩
    simp only [putS]
    refine wpList_chunk 3 (by kernel_rfl) ?_
    simp only [takS, Nat.reduceAdd]
    repeat (first | go_big_quiet_skip | (go_big_quiet_want; first | (go_big_quiet_op; go_big_quiet_on)))
    refine wpQuiet_nil ?_
    refine wpList_nil ?_
    go_upto_region 13 with fail
    refine wp_region_lit ?_
    try simp only [gelS]
    refine wpList_chunk 2 (by kernel_rfl) ?_
    simp only [takS, Nat.reduceAdd]
    repeat (first | go_big_quiet_skip | (go_big_quiet_want; first | (go_big_quiet_op; go_big_quiet_on)))
    refine wpQuiet_nil ?_
    refine wpList_nil ?_
    go_upto_region 15 with fail
    try simp only [gelS]
    try have lx_b2 := b2.lt
    try have lx_b3 := b3.lt
    try have lx_b6 := b6.lt
    try have lx_s51 := s51.lt
    try have lx_s64 := s64.lt
    try have lx_p12 := p12.lt
    try have lx_r13 := r13.lt
    try have lx_rs1 := rs1.lt
    refine wp_region_RL 37 [(5, detS ?v7_5), (13, detS ?v7_13), (19, detS ?v7_19), (32, detS ?v7_32)] (by kernel_rfl) (by kernel_rfl) (by kernel_rfl) ?_
    rotate_left 4
    simp only [takS, Nat.reduceAdd]
    refine wpRL_chunk 5 (by kernel_rfl) ?_
    simp only [takS, Nat.reduceAdd]
    repeat (first | go_big_quiet_skip | (go_big_quiet_want; first | (go_big_quiet_op; go_big_quiet_on)))
    refine wpQuiet_nil ?_
    refine wpRL_callB (by rfl) ?hw7_5 ?_ ?_
    case hw7_5 => kernel_rfl
    · intro wn hbn hE Kx hKx
      have hsz := B.size
      have hzn := hbn.size
      replace B := B.trans (hbn.mono B.size)
      (try replace b2 := b2.below hbn)
      (try replace b3 := b3.below hbn)
      (try replace b6 := b6.below hbn)
      (try replace s51 := s51.below hbn)
      (try replace s64 := s64.below hbn)
      (try replace p12 := p12.below hbn)
      (try replace r13 := r13.below hbn)
      (try replace rs1 := rs1.below hbn)
      refine wp_callF rfl (enters_of Try.func15 (by kernel_rfl) rfl) (by simp only [List.map_toArray, List.map_cons, List.map_nil, Act.eval, Array.getD_eq_getD_getElem?, List.getElem?_toArray, List.getElem?_cons_succ, List.getElem?_cons_zero, Option.getD_some]; rfl) ?_
      refine (P_CoverGO _ (rcP sr) (x1 - 25) (y1 - 25) 0 wn (RowAt.rs s51) mlP (by omega) (by omega) C1.out).mono ?_
      rintro e wm ⟨rfl, hbm⟩
      refine ⟨_, rfl, ?_⟩
      have hz := hKx () wm trivial hbm
      dsimp only [detS] at hz
      exact hz
    rintro ⟨⟩
    dsimp only [detS]
    simp only [putS]
    refine wpRL_chunk 7 (by kernel_rfl) ?_
    simp only [takS, Nat.reduceAdd]
    repeat (first | go_big_quiet_skip | (go_big_quiet_want; first | (go_big_quiet_op; go_big_quiet_on)))
    refine wpQuiet_nil ?_
    refine wpRL_callB (by rfl) ?hw7_13 ?_ ?_
    case hw7_13 => kernel_rfl
    · intro wn hbn hE Kx hKx
      have hsz := B.size
      have hzn := hbn.size
      replace B := B.trans (hbn.mono B.size)
      (try replace b2 := b2.below hbn)
      (try replace b3 := b3.below hbn)
      (try replace b6 := b6.below hbn)
      (try replace s51 := s51.below hbn)
      (try replace s64 := s64.below hbn)
      (try replace p12 := p12.below hbn)
      (try replace r13 := r13.below hbn)
      (try replace rs1 := rs1.below hbn)
      refine wp_callF rfl (enters_of Try.func15 (by kernel_rfl) rfl) (by simp only [List.map_toArray, List.map_cons, List.map_nil, Act.eval, Array.getD_eq_getD_getElem?, List.getElem?_toArray, List.getElem?_cons_succ, List.getElem?_cons_zero, Option.getD_some]; rfl) ?_
      refine (P_CoverGO _ (rcQ sr) (x1 - 25) (y1 - 25) 0 wn (RowAt.rs s64) mlQ (by omega) (by omega) C2.out).mono ?_
      rintro e wm ⟨rfl, hbm⟩
      refine ⟨_, rfl, ?_⟩
      have hz := hKx () wm trivial hbm
      dsimp only [detS] at hz
      exact hz
    rintro ⟨⟩
    dsimp only [detS]
    simp only [putS]
    refine wpRL_chunk 5 (by kernel_rfl) ?_
    simp only [takS, Nat.reduceAdd]
    repeat (first | go_big_quiet_skip | (go_big_quiet_want; first | (go_big_quiet_op; go_big_quiet_on)))
    refine wpQuiet_nil ?_
    refine wpRL_callB (by rfl) ?hw7_19 ?_ ?_
    case hw7_19 => kernel_rfl
    · intro wn hbn hE Kx hKx
      have hsz := B.size
      have hzn := hbn.size
      replace B := B.trans (hbn.mono B.size)
      (try replace b2 := b2.below hbn)
      (try replace b3 := b3.below hbn)
      (try replace b6 := b6.below hbn)
      (try replace s51 := s51.below hbn)
      (try replace s64 := s64.below hbn)
      (try replace p12 := p12.below hbn)
      (try replace r13 := r13.below hbn)
      (try replace rs1 := rs1.below hbn)
      refine wp_callF rfl (enters_of Try.func17 (by kernel_rfl) rfl) (by simp only [List.map_toArray, List.map_cons, List.map_nil, Act.eval, Array.getD_eq_getD_getElem?, List.getElem?_toArray, List.getElem?_cons_succ, List.getElem?_cons_zero, Option.getD_some]; rfl) ?_
      refine (P_BoundGO _ (rcQ sr) sr wn (RowAt.rs s64) mlQ HB.out).mono ?_
      rintro e wm ⟨rfl, hbm⟩
      refine ⟨_, rfl, ?_⟩
      have hz := hKx () wm trivial hbm
      dsimp only [detS] at hz
      exact hz
    rintro ⟨⟩
    dsimp only [detS]
    simp only [putS]
    refine wpRL_chunk 12 (by kernel_rfl) ?_
    simp only [takS, Nat.reduceAdd]
    repeat (first | go_big_quiet_skip | (go_big_quiet_want; first | (refine quiet_loadAny (t := 36) rfl _ _ _ rfl (fun w hw => run_load_B (ov_B r13 w hw) Try.isAgg36 (by kernel_rfl)) (by rfl) ?_; simp only [putS]; go_big_quiet_on) | (refine quiet_loadAny (t := 31) rfl _ _ _ rfl (fun w hw => run_load_B (ov_B b6 w hw) Try.isAgg31 (by kernel_rfl)) (by rfl) ?_; simp only [putS]; go_big_quiet_on) | (go_big_quiet_op; go_big_quiet_on)))
    refine wpQuiet_nil ?_
    refine wpRL_callB (by rfl) ?hw7_32 ?_ ?_
    case hw7_32 => kernel_rfl
    · intro wn hbn hE Kx hKx
      have hsz := B.size
      have hzn := hbn.size
      replace B := B.trans (hbn.mono B.size)
      (try replace b2 := b2.below hbn)
      (try replace b3 := b3.below hbn)
      (try replace b6 := b6.below hbn)
      (try replace s51 := s51.below hbn)
      (try replace s64 := s64.below hbn)
      (try replace p12 := p12.below hbn)
      (try replace r13 := r13.below hbn)
      (try replace rs1 := rs1.below hbn)
      refine wp_callF rfl (enters_of Try.func31 (by kernel_rfl) rfl) (by simp only [List.map_toArray, List.map_cons, List.map_nil, Act.eval, Array.getD_eq_getD_getElem?, List.getElem?_toArray, List.getElem?_cons_succ, List.getElem?_cons_zero, Option.getD_some]; rfl) ?_
      refine (P_BoundsX _ F sr wn rs1 G4.out HFL.out G3.out G5.out).mono ?_
      rintro e wm ⟨rfl, hbm⟩
      refine ⟨_, rfl, ?_⟩
      have hz := hKx () wm trivial hbm
      dsimp only [detS] at hz
      exact hz
    rintro ⟨⟩
    dsimp only [detS]
    simp only [putS]
    refine wpRL_chunk 4 (by kernel_rfl) ?_
    simp only [takS, Nat.reduceAdd]
    repeat (first | go_big_quiet_skip | (go_big_quiet_want; first | (refine quiet_loadAny (t := 31) rfl _ _ _ rfl (fun w hw => run_load_B (ov_B b6 w hw) Try.isAgg31 (by kernel_rfl)) (by rfl) ?_; simp only [putS]; go_big_quiet_on) | (go_big_quiet_op; go_big_quiet_on)))
    refine wpQuiet_nil ?_
    refine wpRL_nil ?_
    intro wn hbn hE
    have hsz := B.size
    have hzn := hbn.size
    replace B := B.trans (hbn.mono B.size)
    (try replace b2 := b2.below hbn)
    (try replace b3 := b3.below hbn)
    (try replace b6 := b6.below hbn)
    (try replace s51 := s51.below hbn)
    (try replace s64 := s64.below hbn)
    (try replace p12 := p12.below hbn)
    (try replace r13 := r13.below hbn)
    (try replace rs1 := rs1.below hbn)
    clear hE
    try simp only [List.drop_succ_cons, List.drop_zero]
    refine NoPan.normal ?_
    go_wp2
    go_ret
    exact ⟨rfl, B⟩
namespace selectionRects
open Go.ChangeShapes Go.WideShapes Go.ChangeAt Go.RowKit
open Go.ChangeMaps (open_string shut_string)
set_option maxRecDepth 100000 in
theorem lifted (os : Os) (started : os.Started) (H : Type) (enc : TypeId × Value → H) :
    ReturnsInHanded {} Try.checked os 7 .any (Rows.selectionRectsSpec.pre6 enc Try.prog Try.f7 Rows.selectionRectsRow.domain false) (Rows.selectionRectsSpec.post enc Try.prog Try.f7 false true false false) := by
  refine returnsInHanded_of_change (C := Try.checked) own started (by kernel_rfl) Try.func7
    (ChangeSpec.witness6 (enc := enc) (C := Try.checked) false ⟨#[], #[.agg #[.int .i64 0, .int .i64 0, .int .i64 0, .int .i64 0], .agg #[.int .i64 0, .int .i64 0]], []⟩ 8 (by kernel_rfl) (by kernel_rfl) (by kernel_rfl) (by kernel_rfl)) ?_
  intro W base args ds gs before hval0 hW hcnd _
  have hval : ∀ (j : Nat) t v, Try.f7.params[j]? = some t → args[j]? = some v → Value.okWide Try.prog W .any base t v := hval0
  have hW' := hW
  obtain ⟨p, q, hA0, hV, rfl, hfz, hnd⟩ := hW
  have hA : DataW.TrodAll enc Try.prog W 0 (fun _ => true) true Try.f7.params.toList args.toList ds p := hA0
  rw [Try.params7] at hA hval
  obtain ⟨v0, vs0, d0, ds0, p0, q0, hargs, rfl, rfl, h0, r0⟩ := trodAll_cons hA
  obtain ⟨v1, vs1, d1, ds1, p1, q1, rfl, rfl, rfl, h1, r1⟩ := trodAll_cons r0
  obtain ⟨rfl, rfl, rfl⟩ := trodAll_nil r1
  obtain rfl : args = #[v0, v1] := by cases args; simp_all
  obtain ⟨rfl, rfl⟩ := trodVars_none hV
  have k0 := h0
  have lt0 : ∀ x ∈ p0, x.block < W.heap.size := by obtain ⟨m, hm⟩ := k0; exact DataW.trod_lt m _ _ _ hm
  have k1 := h1
  have lt1 : ∀ x ∈ p1, x.block < W.heap.size := by obtain ⟨m, hm⟩ := k1; exact DataW.trod_lt m _ _ _ hm
  obtain ⟨a0, b0, c0, e0, rfl, w0⟩ := open_int4 (hval 0 46 v0 rfl rfl) h0
  obtain ⟨a1, b1, rfl, w1⟩ := open_int2 (hval 1 24 v1 rfl rfl) h1
  clear hA0 hval0
  refine (walk_SelectionRects a0 b0 c0 e0 a1 b1 w0 w1 W ).mono fun e W' ⟨he, bel⟩ => ?_
  subst he
  exact ⟨_, rfl, _, _, _, [], _, [], hW', trodAll_mk1 (shut_bool Try.underlying4 _), (trodAll_cons_mk (Below.trod laidOut (by kernel_rfl) (of_decide_eq_true (by kernel_rfl)) k0 bel lt0) (trodAll_cons_mk (Below.trod laidOut (by kernel_rfl) (of_decide_eq_true (by kernel_rfl)) k1 bel lt1) trodAll_mk0)), rfl, bel.frame _, fun h => by cases h⟩
theorem over : Rows.selectionRectsRow.holds Try.pinned (OpenSpec.ofChange Rows.selectionRectsSpec) :=
  OpenClaim.holds_of_wide 7 Try.f7 rfl rfl rfl rfl rfl rfl rfl ⟨rfl, rfl, rfl, rfl, rfl⟩ rfl rfl rfl rfl rfl (by kernel_rfl) Try.func7 (by kernel_rfl)
    (of_decide_eq_true (by kernel_rfl)) (by unfold Func.isWrapper; first | (rw [if_pos (by decide +kernel)]; kernel_rfl) | (rw [if_neg (by decide +kernel)]; exact ⟨rfl, rfl⟩))
    (fun os started H enc _ => lifted os started H enc)
/-- THE STATEMENT: SelectionRects returns true for every input, and its arguments read as they did. -/
theorem proved : Rows.SelectionRectsSaid := over
end selectionRects
end Go.Proofs.Ytamgpfblhlfhaaa
