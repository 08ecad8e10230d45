/- SelectionBack: for all rasters and thresholds, filling the outline of a set of pixels gives back that set; the law returns true for every input, and its arguments read as they did. No condition. -/
import Derived.Test.YtamgpfblhlfhaaaSb5

/- Contract of painted: a rectangle's pixels by a function value. -/
namespace Go.Proofs.Ytamgpfblhlfhaaa
open Go.RowKit Go.Shelf Pl
set_option linter.unusedVariables false
set_option linter.unusedSimpArgs false
set_option maxRecDepth 20000
def bsP1 (n : Nat) (t : TypeId) (cs : Array Value) : NSpec := ⟨Nat, ⟨0⟩, fun b => .slice (some ⟨b, 0, none⟩) 1 1, fun b w => n ≤ b ∧ AtB t w b cs, fun _ _ _ hb h => ⟨h.1, h.2.of_eq (hb.block _ h.2.lt)⟩⟩
def paintK (c : Rc) (F : Int → Int → Px) (k : Nat) : List Px := (List.range k).map fun j => F (pxX c j) (pxY c j)
theorem paintK_len (c : Rc) (F : Int → Int → Px) (k : Nat) : (paintK c F k).length = k := by unfold paintK; rw [List.length_map, List.length_range]
theorem paintK_snoc (c : Rc) (F : Int → Int → Px) (k : Nat) : paintK c F (k + 1) = paintK c F k ++ [F (pxX c k) (pxY c k)] := by
  unfold paintK
  rw [List.range_succ, List.map_append]
  rfl
theorem paintK_all (c : Rc) (F : Int → Int → Px) : paintK c F (areaN c) = paintL c F := rfl
/-- One more pixel, told by its row and its column. -/
theorem paintK_at {c : Rc} (hf : Fits c) (F : Int → Int → Px) {i j : Nat} (hj : (j : Int) < c.x1 - c.x0) (hi : (i : Int) < c.y1 - c.y0) : i * widN c + j < areaN c ∧ paintK c F (i * widN c + (j + 1)) = paintK c F (i * widN c + j) ++ [F (c.x0 + j) (c.y0 + i)] := by
  obtain ⟨k, e, hk, ex, ey⟩ := px_xy hf hj hi
  have hw : c.x1 - c.x0 = (widN c : Int) := by unfold widN; have := hf.h1; omega
  have ek : k = i * widN c + j := by
    rw [hw] at e
    omega
  subst ek
  refine ⟨hk, ?_⟩
  rw [← Nat.add_assoc, paintK_snoc, ex, ey]
set_option maxHeartbeats 4000000 in
theorem P_painted0 (fv : Value) (c : Rc) (w : World) (hem : emptyR c = true) : Calls Try.prog 63 #[.agg (rcA c), fv] w fun e w' => e = .returned (.tuple #[.agg #[.slice none 0 0], .int .i64 0]) ∧ Below w.heap.size w w' := by
  have B := Below.refl w.heap.size w
  go_enter Try.func63, Try.ntmps63
  go_upto_region 0 with fail
  refine wp_region_lit ?_
  try simp only [gelS]
  (refine wpList_boxB (t := 31) rfl _ rfl _ rfl ?_; intro b_c2 wn hle hge ht hbn hzn; have hsz := B.size; replace B := B.trans (hbn.mono (by omega)); have hln := Nat.lt_of_lt_of_eq (Nat.lt_succ_self _) hzn.symm; clear hzn; have c2 := ht; clear ht; simp only [putS])
  (refine wpList_allocBk (t := 36) rfl _ (run_alloc_R _ _ rfl) ?_; intro b_r4 wn hle hge ht hbn hzn; have hsz := B.size; replace B := B.trans (hbn.mono (by omega)); have hln := Nat.lt_of_lt_of_eq (Nat.lt_succ_self _) hzn.symm; clear hzn; (try have hlt := c2.lt); (try replace c2 := c2.below (hbn.mono hle)); have r4 := ht; clear ht; simp only [putS])
  refine wpList_chunk 1 (by kernel_rfl) ?_
  simp only [takS, Nat.reduceAdd]
  repeat (first | go_big_quiet_skip | (go_big_quiet_want; first | (go_big_quiet_op; go_big_quiet_on)))
  refine wpQuiet_nil ?_
  refine wpList_nil ?_
  have k1 : b_c2 < b_r4 := by have := c2.lt; omega
  go_upto_region 1 with fail
  refine wp_region_lit ?_
  try simp only [gelS]
  refine wpList_chunk 1 (by kernel_rfl) ?_
  simp only [takS, Nat.reduceAdd]
  repeat (first | go_big_quiet_skip | (go_big_quiet_want; first | (refine quiet_loadAny (t := 31) rfl _ _ _ rfl (fun w hw => run_load_B (ov_B c2 w hw) Try.isAgg31 (by kernel_rfl)) (by rfl) ?_; simp only [putS]; go_big_quiet_on) | (go_big_quiet_op; go_big_quiet_on)))
  refine wpQuiet_nil ?_
  refine wpList_callF (by first | rfl | simp [Region.wanted, yielded]) rfl (enters_of Try.func101 (by kernel_rfl) rfl) (by simp only [List.map_toArray, List.map_cons, List.map_nil, Act.eval, Array.getD_eq_getD_getElem?, List.getElem?_toArray, List.getElem?_cons_succ, List.getElem?_cons_zero, Option.getD_some]; rfl) ?_
  refine (P_EmptyB c true _ hem).mono ?_
  rintro e wn ⟨rfl, hbn⟩
  have hsz := B.size
  have hzn := hbn.size
  replace B := B.trans (hbn.mono B.size)
  (try replace c2 := c2.below hbn)
  (try replace r4 := r4.below hbn)
  refine ⟨_, rfl, ?_⟩
  simp only [putS]
  refine wpList_nil ?_
  go_upto_region 2 with fail
  refine wp_region_lit ?_
  try simp only [gelS]
  refine wpList_chunk 1 (by kernel_rfl) ?_
  simp only [takS, Nat.reduceAdd]
  repeat (first | go_big_quiet_skip | (go_big_quiet_want; first | (go_big_quiet_op; go_big_quiet_on)))
  refine wpQuiet_nil ?_
  (refine wpList_storeB (t := 36) rfl _ _ rfl _ rfl _ rfl r4 (by kernel_rfl) rfl (by simp [rcA, imgC, Value.oneCell']) ?_; clear r4; intro wn ht hcn hzn; have hsz := B.size; replace hzn := Nat.le_of_eq hzn.symm; replace B := Chg.below B hcn (by omega) B.size; (try replace c2 := c2.of_eq (hcn.block _ c2.lt (by omega))); have r4 := ht; clear ht; simp only [putS])
  refine wpList_chunk 1 (by kernel_rfl) ?_
  simp only [takS, Nat.reduceAdd]
  repeat (first | go_big_quiet_skip | (go_big_quiet_want; first | (go_big_quiet_op; go_big_quiet_on)))
  refine wpQuiet_nil ?_
  refine wpList_nil ?_
  first | (refine bodyPost_ret (results_B2 (t := 36) rfl _ _ (b_r4) rfl _ rfl r4 Try.isAgg36 (by kernel_rfl)) rfl ?_) | (go_step; refine bodyPost_ret (results_B2 (t := 36) rfl _ _ (b_r4) rfl _ rfl r4 Try.isAgg36 (by kernel_rfl)) rfl ?_) | (go_step; go_step; refine bodyPost_ret (results_B2 (t := 36) rfl _ _ (b_r4) rfl _ rfl r4 Try.isAgg36 (by kernel_rfl)) rfl ?_) | (go_step; go_step; go_step; refine bodyPost_ret (results_B2 (t := 36) rfl _ _ (b_r4) rfl _ rfl r4 Try.isAgg36 (by kernel_rfl)) rfl ?_) | (go_step; go_step; go_step; go_step; refine bodyPost_ret (results_B2 (t := 36) rfl _ _ (b_r4) rfl _ rfl r4 Try.isAgg36 (by kernel_rfl)) rfl ?_) | (go_step; go_step; go_step; go_step; go_step; refine bodyPost_ret (results_B2 (t := 36) rfl _ _ (b_r4) rfl _ rfl r4 Try.isAgg36 (by kernel_rfl)) rfl ?_)
  exact ⟨rfl, B⟩
set_option maxHeartbeats 8000000 in
theorem P_painted1 (g : FuncId) (lb : Array Value) (eg : Go.Proofs.Enters Try.prog g) (c : Rc) (F : Int → Int → Px) (w : World) (hE : fitsE c = 0) (hF : ∀ x y, (F x y).ok) (hf : ∀ W, Below w.heap.size w W → ∀ x y, hasR c x y = true → Calls Try.prog g (#[.int .i64 x, .int .i64 y] ++ lb) W fun e w' => e = .returned (Px.v (F x y)) ∧ Below W.heap.size W w') : Calls Try.prog 63 #[.agg (rcA c), .func (.func g) #[] lb] w fun e w' => ∃ a cp, e = .returned (.tuple #[.agg #[.slice a (pstR c (paintL c F) []).length cp], .int .i64 (pstE c (paintL c F) [])]) ∧ RS (.slice a (pstR c (paintL c F) []).length cp) (pstR c (paintL c F) []) w' ∧ Below w.heap.size w w' := by
  have B := Below.refl w.heap.size w
  have HE := Lib.hid hE
  have HF := Lib.hid hF
  have HC := Lib.hid hf
  have hfit := fitsE_zero hE
  obtain ⟨f1, f2, f3, f4, f5, f6, f7, f8⟩ := hfit
  have HFit := Lib.hid (fitsE_zero hE)
  have hem : emptyR c = false := by rw [← Bool.not_eq_true, emptyR_iff]; omega
  have HA := Lib.hid (area_bd (fitsE_zero hE))
  have HAW := Lib.hid (area_wid (fitsE_zero hE)).1
  have hwid : (widN c : Int) = c.x1 - c.x0 := by unfold widN; omega
  clear hE hF hf
  obtain ⟨Wd, hWd⟩ : ∃ W, widN c = W := ⟨_, rfl⟩
  rw [hWd] at hwid
  have HWD := Lib.hid hWd
  clear hWd
  go_enter Try.func63, Try.ntmps63
  go_upto_region 0 with fail
  refine wp_region_lit ?_
  try simp only [gelS]
  (refine wpList_boxB (t := 31) rfl _ rfl _ rfl ?_; intro b_c2 wn hle hge ht hbn hzn; have hsz := B.size; replace B := B.trans (hbn.mono (by omega)); have hln := Nat.lt_of_lt_of_eq (Nat.lt_succ_self _) hzn.symm; clear hzn; have c2 := ht; clear ht; simp only [putS])
  (refine wpList_allocBk (t := 36) rfl _ (run_alloc_R _ _ rfl) ?_; intro b_r4 wn hle hge ht hbn hzn; have hsz := B.size; replace B := B.trans (hbn.mono (by omega)); have hln := Nat.lt_of_lt_of_eq (Nat.lt_succ_self _) hzn.symm; clear hzn; (try have hlt := c2.lt); (try replace c2 := c2.below (hbn.mono hle)); have r4 := ht; clear ht; simp only [putS])
  refine wpList_chunk 1 (by kernel_rfl) ?_
  simp only [takS, Nat.reduceAdd]
  repeat (first | go_big_quiet_skip | (go_big_quiet_want; first | (go_big_quiet_op; go_big_quiet_on)))
  refine wpQuiet_nil ?_
  refine wpList_nil ?_
  have k1 : w.heap.size ≤ b_c2 := by omega
  have k2 : b_c2 < b_r4 := by have := c2.lt; omega
  go_upto_region 1 with fail
  refine wp_region_lit ?_
  try simp only [gelS]
  refine wpList_chunk 1 (by kernel_rfl) ?_
  simp only [takS, Nat.reduceAdd]
  repeat (first | go_big_quiet_skip | (go_big_quiet_want; first | (refine quiet_loadAny (t := 31) rfl _ _ _ rfl (fun w hw => run_load_B (ov_B c2 w hw) Try.isAgg31 (by kernel_rfl)) (by rfl) ?_; simp only [putS]; go_big_quiet_on) | (go_big_quiet_op; go_big_quiet_on)))
  refine wpQuiet_nil ?_
  refine wpList_callF (by first | rfl | simp [Region.wanted, yielded]) rfl (enters_of Try.func101 (by kernel_rfl) rfl) (by simp only [List.map_toArray, List.map_cons, List.map_nil, Act.eval, Array.getD_eq_getD_getElem?, List.getElem?_toArray, List.getElem?_cons_succ, List.getElem?_cons_zero, Option.getD_some]; rfl) ?_
  refine (P_EmptyB c false _ hem).mono ?_
  rintro e wn ⟨rfl, hbn⟩
  have hsz := B.size
  have hzn := hbn.size
  replace B := B.trans (hbn.mono B.size)
  (try replace c2 := c2.below hbn)
  (try replace r4 := r4.below hbn)
  refine ⟨_, rfl, ?_⟩
  simp only [putS]
  refine wpList_nil ?_
  go_upto_region 3 with fail
  refine wp_region_lit ?_
  try simp only [gelS]
  refine wpList_chunk 2 (by kernel_rfl) ?_
  simp only [takS, Nat.reduceAdd]
  repeat (first | go_big_quiet_skip | (go_big_quiet_want; first | (refine quiet_loadAny (t := 31) rfl _ _ _ rfl (fun w hw => run_load_B (ov_B c2 w hw) Try.isAgg31 (by kernel_rfl)) (by rfl) ?_; simp only [putS]; go_big_quiet_on) | (refine quiet_buildIm rfl c rfl ?_; simp only [putS]; go_big_quiet_on) | (go_big_quiet_op; go_big_quiet_on)))
  refine wpQuiet_nil ?_
  (refine wpList_allocBk (t := 134) rfl _ (run_alloc_Im _ _ rfl) ?_; intro b_i6 wn hle hge ht hbn hzn; have hsz := B.size; replace B := B.trans (hbn.mono (by omega)); have hln := Nat.lt_of_lt_of_eq (Nat.lt_succ_self _) hzn.symm; clear hzn; (try have hlt := c2.lt); (try replace c2 := c2.below (hbn.mono hle)); (try have hlt := r4.lt); (try replace r4 := r4.below (hbn.mono hle)); have i6 := ht; clear ht; simp only [putS])
  (refine wpList_storeB (t := 134) rfl _ _ rfl _ rfl _ rfl i6 (by kernel_rfl) rfl (by simp [rcA, imgC, Value.oneCell']) ?_; clear i6; intro wn ht hcn hzn; have hsz := B.size; replace hzn := Nat.le_of_eq hzn.symm; replace B := Chg.below B hcn (by omega) B.size; (try replace c2 := c2.of_eq (hcn.block _ c2.lt (by omega))); (try replace r4 := r4.of_eq (hcn.block _ r4.lt (by omega))); have i6 := ht; clear ht; simp only [putS])
  refine wpList_nil ?_
  replace i6 : AtB 134 _ b_i6 (imgC c (.slice none 0 0)) := i6
  have k3 : b_r4 < b_i6 := by have := r4.lt; omega
  have k4 := i6.lt
  obtain ⟨b0, hb0⟩ : ∃ n, n = wn.heap.size := ⟨_, rfl⟩
  have k5 : b_i6 < b0 := by omega
  have k6 : b0 ≤ wn.heap.size := by omega
  have od : OwnE pxE b0 (.slice none 0 0) [] wn := OwnE.nil b0 wn
  clear hb0 k4
  go_upto_region 4 with fail
  refine wp_region_lit ?_
  try simp only [gelS]
  refine wpList_chunk 3 (by kernel_rfl) ?_
  simp only [takS, Nat.reduceAdd]
  repeat (first | go_big_quiet_skip | (go_big_quiet_want; first | (refine quiet_loadAny (t := 3) rfl _ _ _ rfl (fun w hw => run_load_int ((ov_B c2 w hw).cellL 0 rfl)) (by rfl) ?_; simp only [putS]; go_big_quiet_on) | (refine quiet_loadAny (t := 3) rfl _ _ _ rfl (fun w hw => run_load_int ((ov_B c2 w hw).cellL 1 rfl)) (by rfl) ?_; simp only [putS]; go_big_quiet_on) | (refine quiet_loadAny (t := 3) rfl _ _ _ rfl (fun w hw => run_load_int ((ov_B c2 w hw).cellL 2 rfl)) (by rfl) ?_; simp only [putS]; go_big_quiet_on) | (refine quiet_loadAny (t := 3) rfl _ _ _ rfl (fun w hw => run_load_int ((ov_B c2 w hw).cellL 3 rfl)) (by rfl) ?_; simp only [putS]; go_big_quiet_on) | (go_big_quiet_op; go_big_quiet_on)))
  refine wpQuiet_nil ?_
  refine wpList_nil ?_
  go_wp2
  go_loopw [7, 8] (fun yv _ wr => ∃ (i cp : Nat) (ad : Option Addr) (P : List Px), (i : Int) ≤ c.y1 - c.y0 ∧ yv = .int .i64 (c.y0 + (i : Int)) ∧ Hid (paintK c F (i * Wd) = P) ∧ Below w.heap.size w wr ∧ b0 ≤ wr.heap.size ∧ AtB 31 wr b_c2 (rcA c) ∧ AtB 36 wr b_r4 #[.slice none 0 0] ∧ AtB 134 wr b_i6 (imgC c (.slice ad P.length cp)) ∧ OwnE pxE b0 (.slice ad P.length cp) P wr) (fun yv _ _ => (c.y1 - intOf yv).toNat)
  case atStart => exact ⟨0, 0, none, [], by omega, by rw [Int.natCast_zero, Int.add_zero], Lib.hid (by rw [Nat.zero_mul]; rfl), B, k6, c2, r4, i6, od⟩
  case round =>
    clear B c2 r4 i6 od k6
    obtain ⟨i, cp, ad, P, hi, rfl, HP, B, k6, c2, r4, i6, od⟩ := hrel
    by_cases hi1 : (i : Int) < c.y1 - c.y0
    · have q1 : decide (c.y0 + (i : Int) < c.y1) = true := decide_eq_true (by omega)
      go_upto_region 5 with fail
      refine wp_region_lit ?_
      try simp only [gelS]
      refine wpList_chunk 4 (by kernel_rfl) ?_
      simp only [takS, Nat.reduceAdd]
      repeat (first | go_big_quiet_skip | (go_big_quiet_want; first | (refine quiet_loadAny (t := 3) rfl _ _ _ rfl (fun w hw => run_load_int ((ov_B c2 w hw).cellL 0 rfl)) (by rfl) ?_; simp only [putS]; go_big_quiet_on) | (refine quiet_loadAny (t := 3) rfl _ _ _ rfl (fun w hw => run_load_int ((ov_B c2 w hw).cellL 1 rfl)) (by rfl) ?_; simp only [putS]; go_big_quiet_on) | (refine quiet_loadAny (t := 3) rfl _ _ _ rfl (fun w hw => run_load_int ((ov_B c2 w hw).cellL 2 rfl)) (by rfl) ?_; simp only [putS]; go_big_quiet_on) | (refine quiet_loadAny (t := 3) rfl _ _ _ rfl (fun w hw => run_load_int ((ov_B c2 w hw).cellL 3 rfl)) (by rfl) ?_; simp only [putS]; go_big_quiet_on) | (go_big_quiet_op; go_big_quiet_on)))
      refine wpQuiet_nil ?_
      refine wpList_nil ?_
      go_upto_region 7 with fail
      refine wp_region_lit ?_
      try simp only [gelS]
      refine wpList_chunk 3 (by kernel_rfl) ?_
      simp only [takS, Nat.reduceAdd]
      repeat (first | go_big_quiet_skip | (go_big_quiet_want; first | (refine quiet_loadAny (t := 3) rfl _ _ _ rfl (fun w hw => run_load_int ((ov_B c2 w hw).cellL 0 rfl)) (by rfl) ?_; simp only [putS]; go_big_quiet_on) | (refine quiet_loadAny (t := 3) rfl _ _ _ rfl (fun w hw => run_load_int ((ov_B c2 w hw).cellL 1 rfl)) (by rfl) ?_; simp only [putS]; go_big_quiet_on) | (refine quiet_loadAny (t := 3) rfl _ _ _ rfl (fun w hw => run_load_int ((ov_B c2 w hw).cellL 2 rfl)) (by rfl) ?_; simp only [putS]; go_big_quiet_on) | (refine quiet_loadAny (t := 3) rfl _ _ _ rfl (fun w hw => run_load_int ((ov_B c2 w hw).cellL 3 rfl)) (by rfl) ?_; simp only [putS]; go_big_quiet_on) | (go_big_quiet_op; go_big_quiet_on)))
      refine wpQuiet_nil ?_
      refine wpList_nil ?_
      go_wp2
      go_loopw [8] (fun xv wr => ∃ (j cp : Nat) (ad : Option Addr) (P : List Px), (j : Int) ≤ c.x1 - c.x0 ∧ xv = .int .i64 (c.x0 + (j : Int)) ∧ Hid (paintK c F (i * Wd + j) = P) ∧ Below w.heap.size w wr ∧ b0 ≤ wr.heap.size ∧ AtB 31 wr b_c2 (rcA c) ∧ AtB 36 wr b_r4 #[.slice none 0 0] ∧ AtB 134 wr b_i6 (imgC c (.slice ad P.length cp)) ∧ OwnE pxE b0 (.slice ad P.length cp) P wr) (fun xv _ => (c.x1 - intOf xv).toNat)
      case atStart => exact ⟨0, cp, ad, P, by omega, by rw [Int.natCast_zero, Int.add_zero], Lib.hid HP.out, B, k6, c2, r4, i6, od⟩
      case round =>
        clear B c2 r4 i6 od k6
        obtain ⟨j, cp2, ad2, P2, hj, rfl, HP2, B, k6, c2, r4, i6, od⟩ := hrel
        by_cases hj1 : (j : Int) < c.x1 - c.x0
        · have q2 : decide (c.x0 + (j : Int) < c.x1) = true := decide_eq_true (by omega)
          have hat := paintK_at HFit.out F (i := i) (j := j) hj1 hi1
          rw [HWD.out, HP2.out] at hat
          have hlen : P2.length < 65536 := by rw [← HP2.out, paintK_len]; have := HA.out; omega
          have HST := Lib.hid hat.2
          clear hat
          have HX := Lib.hid (fun W hW => HC.out W hW (c.x0 + (j : Int)) (c.y0 + (i : Int)) ((hasR_iff _ _ _).2 (by omega)))
          have okp := HF.out (c.x0 + (j : Int)) (c.y0 + (i : Int))
          generalize F (c.x0 + (j : Int)) (c.y0 + (i : Int)) = pp at *
          go_upto_region 8 with fail
          refine wp_region_lit ?_
          try simp only [gelS]
          refine wpList_chunk 4 (by kernel_rfl) ?_
          simp only [takS, Nat.reduceAdd]
          repeat (first | go_big_quiet_skip | (go_big_quiet_want; first | (refine quiet_loadAny (t := 3) rfl _ _ _ rfl (fun w hw => run_load_int ((ov_B c2 w hw).cellL 0 rfl)) (by rfl) ?_; simp only [putS]; go_big_quiet_on) | (refine quiet_loadAny (t := 3) rfl _ _ _ rfl (fun w hw => run_load_int ((ov_B c2 w hw).cellL 1 rfl)) (by rfl) ?_; simp only [putS]; go_big_quiet_on) | (refine quiet_loadAny (t := 3) rfl _ _ _ rfl (fun w hw => run_load_int ((ov_B c2 w hw).cellL 2 rfl)) (by rfl) ?_; simp only [putS]; go_big_quiet_on) | (refine quiet_loadAny (t := 3) rfl _ _ _ rfl (fun w hw => run_load_int ((ov_B c2 w hw).cellL 3 rfl)) (by rfl) ?_; simp only [putS]; go_big_quiet_on) | (go_big_quiet_op; go_big_quiet_on)))
          refine wpQuiet_nil ?_
          refine wpList_nil ?_
          go_upto_region 10 with fail
          try simp only [gelS]
          try have lx_c2 := c2.lt
          try have lx_r4 := r4.lt
          try have lx_i6 := i6.lt
          try have lx_od := od.lt
          refine wp_region_RL 7 [(5, detS ?v1_5), (6, bsP1 (wr.heap.size) 59 (pxE.enc pp))] (by kernel_rfl) (by kernel_rfl) (by kernel_rfl) ?_
          rotate_left 1
          simp only [takS, Nat.reduceAdd]
          refine wpRL_chunk 5 (by kernel_rfl) ?_
          simp only [takS, Nat.reduceAdd]
          repeat (first | go_big_quiet_skip | (go_big_quiet_want; first | (refine quiet_loadAny (t := 132) rfl _ _ _ rfl (fun w hw => run_load_slp (imgC_u (ov_B i6 w hw))) (by first | rfl | omega) ?_; simp only [putS]; go_big_quiet_on) | (go_big_quiet_op; go_big_quiet_on)))
          refine wpQuiet_nil ?_
          refine wpRL_callB (by rfl) (by first | rfl | simp [Region.wanted, yielded]) ?_ ?_
          · intro wn hbn hE Kx hKx
            have hsz := B.size
            have hzn := hbn.size
            replace B := B.trans (hbn.mono B.size)
            (try replace c2 := c2.below hbn)
            (try replace r4 := r4.below hbn)
            (try replace i6 := i6.below hbn)
            (try replace od := od.below hbn)
            refine wp_callV rfl (by simp only [List.map_toArray, List.map_cons, List.map_nil, Act.eval, Array.getD_eq_getD_getElem?, List.getElem?_toArray, List.getElem?_cons_succ, List.getElem?_cons_zero, Option.getD_some]; rfl) eg (by simp only [List.map_toArray, List.map_cons, List.map_nil, Act.eval, Array.getD_eq_getD_getElem?, List.getElem?_toArray, List.getElem?_cons_succ, List.getElem?_cons_zero, Option.getD_some]; rfl) ?_
            refine (HX.out wn B).mono ?_
            rintro e wm ⟨rfl, hbm⟩
            refine ⟨_, rfl, ?_⟩
            have hz := hKx () wm trivial hbm
            dsimp only [detS] at hz
            exact hz
          rintro ⟨⟩
          dsimp only [detS]
          simp only [putS]
          refine wpRL_callB (by rfl) (by first | rfl | simp [Region.wanted, yielded]) ?_ ?_
          · intro wn hbn hE Kx hKx
            have hsz := B.size
            have hzn := hbn.size
            replace B := B.trans (hbn.mono B.size)
            (try replace c2 := c2.below hbn)
            (try replace r4 := r4.below hbn)
            (try replace i6 := i6.below hbn)
            (try replace od := od.below hbn)
            refine owp_bs1E (E := pxE) _ rfl pp rfl (by omega) ?_
            intro b wm h1 h2 ht hbm hzm
            exact hKx b wm ⟨Nat.le_trans hbn.size h1, ht⟩ (hbm.mono h1)
          rintro b_s36
          dsimp only [detS, bsP1]
          simp only [putS]
          refine wpRL_nil ?_
          intro wn hbn hE
          have hsz := B.size
          have hzn := hbn.size
          replace B := B.trans (hbn.mono B.size)
          (try replace c2 := c2.below hbn)
          (try replace r4 := r4.below hbn)
          (try replace i6 := i6.below hbn)
          (try replace od := od.below hbn)
          obtain ⟨hge_s36, s36⟩ : _ ∧ AtB _ _ _ _ := hE 6
          clear hE
          try simp only [List.drop_succ_cons, List.drop_zero]
          go_wp2_with (first | (refine wpList_storeU rfl _ _ rfl _ rfl _ _ _ rfl i6 ?_; clear i6; intro wn ht hcn hzn; have hsz := B.size; replace hzn := Nat.le_of_eq hzn.symm; replace B := Chg.below B hcn (by omega) B.size; (try replace c2 := c2.of_eq (hcn.block _ c2.lt (by omega))); (try replace r4 := r4.of_eq (hcn.block _ r4.lt (by omega))); replace od := od.chg hcn (by omega); have i6 := ht; clear ht; simp only [putS]) | (at_builtin; refine wpList_appendE rfl _ _ rfl _ _ rfl rfl od ((RSE.one s36)) (by simp only [List.length_append, List.length_cons, List.length_nil]; omega) (by omega) ?_; intro v_od wn ht hbn; have hsz := B.size; have hbz := hbn.size; replace B := B.trans (hbn.mono (by omega)); clear od; (try replace c2 := c2.of_eq (hbn.block _ (by omega))); (try replace r4 := r4.of_eq (hbn.block _ (by omega))); (try replace i6 := i6.of_eq (hbn.block _ (by omega))); have od := ht; clear ht; obtain ⟨a_od, c_od, hv, hco⟩ := od.len; (try simp only [List.length_append, List.length_cons, List.length_nil, Nat.zero_add] at hv hco); subst hv; simp only [putS]) | fail)
          refine NoPan.normal ?_
          go_upto_region 9 with fail
          refine wp_region_lit ?_
          try simp only [gelS]
          refine wpList_chunk 3 (by kernel_rfl) ?_
          simp only [takS, Nat.reduceAdd]
          repeat (first | go_big_quiet_skip | (go_big_quiet_want; first | (go_big_quiet_op; go_big_quiet_on)))
          refine wpQuiet_nil ?_
          refine wpList_nil ?_
          go_wp2
          go_roundw
          case rel => exact ⟨j + 1, _, _, P2 ++ [pp], by omega, by go_num, HST, B, by omega, c2, r4, by rw [List.length_append]; exact i6, by rw [List.length_append]; exact od⟩
          case measure => simp [intOf]; omega
        · have q2 : decide (c.x0 + (j : Int) < c.x1) = false := decide_eq_false (by omega)
          have hjW : j = Wd := by omega
          have HN := Lib.hid (show paintK c F ((i + 1) * Wd) = P2 from by rw [Nat.add_mul, Nat.one_mul]; rw [hjW] at HP2; exact HP2.out)
          clear hjW
          go_upto_region 8 with fail
          refine wp_region_lit ?_
          try simp only [gelS]
          refine wpList_chunk 4 (by kernel_rfl) ?_
          simp only [takS, Nat.reduceAdd]
          repeat (first | go_big_quiet_skip | (go_big_quiet_want; first | (refine quiet_loadAny (t := 3) rfl _ _ _ rfl (fun w hw => run_load_int ((ov_B c2 w hw).cellL 0 rfl)) (by rfl) ?_; simp only [putS]; go_big_quiet_on) | (refine quiet_loadAny (t := 3) rfl _ _ _ rfl (fun w hw => run_load_int ((ov_B c2 w hw).cellL 1 rfl)) (by rfl) ?_; simp only [putS]; go_big_quiet_on) | (refine quiet_loadAny (t := 3) rfl _ _ _ rfl (fun w hw => run_load_int ((ov_B c2 w hw).cellL 2 rfl)) (by rfl) ?_; simp only [putS]; go_big_quiet_on) | (refine quiet_loadAny (t := 3) rfl _ _ _ rfl (fun w hw => run_load_int ((ov_B c2 w hw).cellL 3 rfl)) (by rfl) ?_; simp only [putS]; go_big_quiet_on) | (go_big_quiet_op; go_big_quiet_on)))
          refine wpQuiet_nil ?_
          refine wpList_nil ?_
          go_upto_region 6 with fail
          refine wp_region_lit ?_
          try simp only [gelS]
          refine wpList_chunk 3 (by kernel_rfl) ?_
          simp only [takS, Nat.reduceAdd]
          repeat (first | go_big_quiet_skip | (go_big_quiet_want; first | (go_big_quiet_op; go_big_quiet_on)))
          refine wpQuiet_nil ?_
          refine wpList_nil ?_
          go_wp2
          go_roundw
          case rel => exact ⟨i + 1, _, _, P2, by omega, by go_num, HN, B, k6, c2, r4, i6, od⟩
          case measure => simp [intOf]; omega
    · have q1 : decide (c.y0 + (i : Int) < c.y1) = false := decide_eq_false (by omega)
      have hiH : i = (c.y1 - c.y0).toNat := by omega
      have HL := Lib.hid (show paintL c F = P from by
        rw [← paintK_all, HAW.out, Nat.mul_comm, HWD.out, ← hiH]; exact HP.out)
      have hlen : P.length ≤ maxLen := by rw [← HL.out, paintL_len]; have := HA.out; unfold maxLen; omega
      have okP : OkL P := by rw [← HL.out]; exact paintL_ok HF.out
      clear hiH
      go_upto_region 5 with fail
      refine wp_region_lit ?_
      try simp only [gelS]
      refine wpList_chunk 4 (by kernel_rfl) ?_
      simp only [takS, Nat.reduceAdd]
      repeat (first | go_big_quiet_skip | (go_big_quiet_want; first | (refine quiet_loadAny (t := 3) rfl _ _ _ rfl (fun w hw => run_load_int ((ov_B c2 w hw).cellL 0 rfl)) (by rfl) ?_; simp only [putS]; go_big_quiet_on) | (refine quiet_loadAny (t := 3) rfl _ _ _ rfl (fun w hw => run_load_int ((ov_B c2 w hw).cellL 1 rfl)) (by rfl) ?_; simp only [putS]; go_big_quiet_on) | (refine quiet_loadAny (t := 3) rfl _ _ _ rfl (fun w hw => run_load_int ((ov_B c2 w hw).cellL 2 rfl)) (by rfl) ?_; simp only [putS]; go_big_quiet_on) | (refine quiet_loadAny (t := 3) rfl _ _ _ rfl (fun w hw => run_load_int ((ov_B c2 w hw).cellL 3 rfl)) (by rfl) ?_; simp only [putS]; go_big_quiet_on) | (go_big_quiet_op; go_big_quiet_on)))
      refine wpQuiet_nil ?_
      refine wpList_nil ?_
      go_upto_region 11 with fail
      refine wp_region_lit ?_
      try simp only [gelS]
      refine wpList_chunk 2 (by kernel_rfl) ?_
      simp only [takS, Nat.reduceAdd]
      repeat (first | go_big_quiet_skip | (go_big_quiet_want; first | (refine quiet_loadAny (t := 134) rfl _ _ _ rfl (fun w hw => run_load_img (ov_B i6 w hw)) (by first | rfl | omega) ?_; simp only [putS]; go_big_quiet_on) | (go_big_quiet_op; go_big_quiet_on)))
      refine wpQuiet_nil ?_
      refine wpList_callF (by first | rfl | simp [Region.wanted, yielded]) rfl (enters_of Try.func103 (by kernel_rfl) rfl) (by simp only [List.map_toArray, List.map_cons, List.map_nil, Act.eval, Array.getD_eq_getD_getElem?, List.getElem?_toArray, List.getElem?_cons_succ, List.getElem?_cons_zero, Option.getD_some]; rfl) ?_
      refine (P_PasteA _ [] c _ P _ (RS.nil _) TokL.nil (by unfold maxLen; simp) od.rs hlen okP).mono ?_
      rintro e wn ⟨a5, c5, rfl, rs5, hbn⟩
      have hsz := B.size
      have hzn := hbn.size
      replace B := B.trans (hbn.mono B.size)
      (try replace c2 := c2.below hbn)
      (try replace r4 := r4.below hbn)
      (try replace i6 := i6.below hbn)
      refine ⟨_, rfl, ?_⟩
      simp only [putS]
      refine wpList_chunk 2 (by kernel_rfl) ?_
      simp only [takS, Nat.reduceAdd]
      repeat (first | go_big_quiet_skip | (go_big_quiet_want; first | (go_big_quiet_op; go_big_quiet_on)))
      refine wpQuiet_nil ?_
      (refine wpList_storeB (t := 36) rfl _ _ rfl _ rfl _ rfl r4 (by kernel_rfl) rfl (by simp [rcA, imgC, Value.oneCell']) ?_; have r4o := r4; clear r4; intro wn ht hcn hzn; replace rs5 := rs5.chg r4o (by simp [rcA]) hcn; have hsz := B.size; replace hzn := Nat.le_of_eq hzn.symm; replace B := Chg.below B hcn (by omega) B.size; (try replace c2 := c2.of_eq (hcn.block _ c2.lt (by omega))); (try replace i6 := i6.of_eq (hcn.block _ i6.lt (by omega))); have r4 := ht; clear ht; simp only [putS])
      refine wpList_chunk 1 (by kernel_rfl) ?_
      simp only [takS, Nat.reduceAdd]
      repeat (first | go_big_quiet_skip | (go_big_quiet_want; first | (go_big_quiet_op; go_big_quiet_on)))
      refine wpQuiet_nil ?_
      refine wpList_nil ?_
      first | (refine bodyPost_ret (results_B2 (t := 36) rfl _ _ (b_r4) rfl _ rfl r4 Try.isAgg36 (by kernel_rfl)) rfl ?_) | (go_step; refine bodyPost_ret (results_B2 (t := 36) rfl _ _ (b_r4) rfl _ rfl r4 Try.isAgg36 (by kernel_rfl)) rfl ?_) | (go_step; go_step; refine bodyPost_ret (results_B2 (t := 36) rfl _ _ (b_r4) rfl _ rfl r4 Try.isAgg36 (by kernel_rfl)) rfl ?_) | (go_step; go_step; go_step; refine bodyPost_ret (results_B2 (t := 36) rfl _ _ (b_r4) rfl _ rfl r4 Try.isAgg36 (by kernel_rfl)) rfl ?_) | (go_step; go_step; go_step; go_step; refine bodyPost_ret (results_B2 (t := 36) rfl _ _ (b_r4) rfl _ rfl r4 Try.isAgg36 (by kernel_rfl)) rfl ?_) | (go_step; go_step; go_step; go_step; go_step; refine bodyPost_ret (results_B2 (t := 36) rfl _ _ (b_r4) rfl _ rfl r4 Try.isAgg36 (by kernel_rfl)) rfl ?_)
      rw [HL.out]
      exact ⟨_, _, rfl, rs5, B⟩
/- Fill, Inverse of package selection: their closures, of, large; the reference's Small. -/
theorem run_alloc_Pxx (w : World) (o : Oper) (ho : o.op = .alloc 59) (ev : Operand → Value) : (execOp ev o).run Try.prog w = .ok (.value (.pointer (some ⟨w.heap.size, 0, none⟩))) (w.alloc (.cells #[.int .u8 0, .int .u8 0, .int .u8 0, .int .u8 0] 59)) := by
  obtain ⟨d, p, t, ps, af, gd⟩ := o
  simp only at ho
  subst ho
  kernel_rfl
def pxC4 (p : Px) : Array Value := #[.int .u8 p.r, .int .u8 p.g, .int .u8 p.b, .int .u8 p.a]
def largeR (c : Rc) : Bool := decide (256 < c.x1 - c.x0) || decide (256 < c.y1 - c.y0)
set_option maxHeartbeats 2000000 in
theorem P_large (c : Rc) (w : World) (h : -100000 ≤ c.x0 ∧ c.x0 ≤ 100000 ∧ -100000 ≤ c.y0 ∧ c.y0 ≤ 100000 ∧ -100000 ≤ c.x1 ∧ c.x1 ≤ 100000 ∧ -100000 ≤ c.y1 ∧ c.y1 ≤ 100000) : Calls Try.prog 61 #[.agg (rcA c)] w fun e w' => e = .returned (.bool (largeR c)) ∧ Below w.heap.size w w' := by
  have B := Below.refl w.heap.size w
  obtain ⟨c0, c1, c2, c3⟩ := c
  simp only at h
  obtain ⟨h1, h2, h3, h4, h5, h6, h7, h8⟩ := h
  unfold largeR
  dsimp only
  by_cases g1 : 256 < c2 - c0
  · have q1 : decide (256 < c2 - c0) = true := decide_eq_true g1
    rw [q1]
    go_enter Try.func61, Try.ntmps61
    go_upto_region 0 with fail
    refine wp_region_lit ?_
    try simp only [gelS]
    (refine wpList_boxB (t := 31) rfl _ rfl _ rfl ?_; intro b_r1 wn hle hge ht hbn hzn; have hsz := B.size; replace B := B.trans (hbn.mono (by omega)); have hln := Nat.lt_of_lt_of_eq (Nat.lt_succ_self _) hzn.symm; clear hzn; have r1 := ht; clear ht; simp only [putS])
    refine wpList_chunk 1 (by kernel_rfl) ?_
    simp only [takS, Nat.reduceAdd]
    repeat (first | go_big_quiet_skip | (go_big_quiet_want; first | (go_big_quiet_op; go_big_quiet_on)))
    refine wpQuiet_nil ?_
    refine wpList_nil ?_
    go_upto_region 1 with fail
    refine wp_region_lit ?_
    try simp only [gelS]
    refine wpList_chunk 15 (by kernel_rfl) ?_
    simp only [takS, Nat.reduceAdd]
    repeat (first | go_big_quiet_skip | (go_big_quiet_want; first | (refine quiet_loadAny (t := 3) rfl _ _ _ rfl (fun w hw => run_load_int ((ov_B r1 w hw).cellL 0 rfl)) (by rfl) ?_; simp only [putS]; go_big_quiet_on) | (refine quiet_loadAny (t := 3) rfl _ _ _ rfl (fun w hw => run_load_int ((ov_B r1 w hw).cellL 1 rfl)) (by rfl) ?_; simp only [putS]; go_big_quiet_on) | (refine quiet_loadAny (t := 3) rfl _ _ _ rfl (fun w hw => run_load_int ((ov_B r1 w hw).cellL 2 rfl)) (by rfl) ?_; simp only [putS]; go_big_quiet_on) | (refine quiet_loadAny (t := 3) rfl _ _ _ rfl (fun w hw => run_load_int ((ov_B r1 w hw).cellL 3 rfl)) (by rfl) ?_; simp only [putS]; go_big_quiet_on) | (go_big_quiet_op; go_big_quiet_on)))
    refine wpQuiet_nil ?_
    refine wpList_nil ?_
    go_wp2
    go_ret
    exact ⟨rfl, B⟩
  · have q1 : decide (256 < c2 - c0) = false := decide_eq_false g1
    rw [q1]
    go_enter Try.func61, Try.ntmps61
    go_upto_region 0 with fail
    refine wp_region_lit ?_
    try simp only [gelS]
    (refine wpList_boxB (t := 31) rfl _ rfl _ rfl ?_; intro b_r1 wn hle hge ht hbn hzn; have hsz := B.size; replace B := B.trans (hbn.mono (by omega)); have hln := Nat.lt_of_lt_of_eq (Nat.lt_succ_self _) hzn.symm; clear hzn; (try have hlt := r1.lt); (try replace r1 := r1.below (hbn.mono hle)); have r1 := ht; clear ht; simp only [putS])
    refine wpList_chunk 1 (by kernel_rfl) ?_
    simp only [takS, Nat.reduceAdd]
    repeat (first | go_big_quiet_skip | (go_big_quiet_want; first | (go_big_quiet_op; go_big_quiet_on)))
    refine wpQuiet_nil ?_
    refine wpList_nil ?_
    go_upto_region 1 with fail
    refine wp_region_lit ?_
    try simp only [gelS]
    refine wpList_chunk 15 (by kernel_rfl) ?_
    simp only [takS, Nat.reduceAdd]
    repeat (first | go_big_quiet_skip | (go_big_quiet_want; first | (refine quiet_loadAny (t := 3) rfl _ _ _ rfl (fun w hw => run_load_int ((ov_B r1 w hw).cellL 0 rfl)) (by rfl) ?_; simp only [putS]; go_big_quiet_on) | (refine quiet_loadAny (t := 3) rfl _ _ _ rfl (fun w hw => run_load_int ((ov_B r1 w hw).cellL 1 rfl)) (by rfl) ?_; simp only [putS]; go_big_quiet_on) | (refine quiet_loadAny (t := 3) rfl _ _ _ rfl (fun w hw => run_load_int ((ov_B r1 w hw).cellL 2 rfl)) (by rfl) ?_; simp only [putS]; go_big_quiet_on) | (refine quiet_loadAny (t := 3) rfl _ _ _ rfl (fun w hw => run_load_int ((ov_B r1 w hw).cellL 3 rfl)) (by rfl) ?_; simp only [putS]; go_big_quiet_on) | (go_big_quiet_op; go_big_quiet_on)))
    refine wpQuiet_nil ?_
    refine wpList_nil ?_
    go_wp2
    go_ret
    exact ⟨by first | rfl | simp, B⟩
theorem P_largeO (c : Rc) (b : Bool) (w : World) (h : -100000 ≤ c.x0 ∧ c.x0 ≤ 100000 ∧ -100000 ≤ c.y0 ∧ c.y0 ≤ 100000 ∧ -100000 ≤ c.x1 ∧ c.x1 ≤ 100000 ∧ -100000 ≤ c.y1 ∧ c.y1 ≤ 100000) (e : largeR c = b) : Calls Try.prog 61 #[.agg (rcA c)] w fun e w' => e = .returned (.bool b) ∧ Below w.heap.size w w' := e ▸ P_large c w h
/-! ### Inverse -/
def invR (r : Rc) (ls : List TA) : List TA := if fitsE r = 0 then invL r ls else []
def smR (a b c d : Int) : Rc := ⟨a % 40 - 20, b % 40 - 20, a % 40 - 20 + c % 40, b % 40 - 20 + d % 40⟩
/- Contract of Inside of package selection. -/
def insF (P : List (List Pnt)) (p : Px) (x y : Int) : Px := if inPB P (8 * x + 4) (8 * y + 4) = true then p else Px.zero
def polB (P : List (List Pnt)) (u v : Int) (i : Nat) : Bool := oddG (P.getD i []) u v
theorem insF_ok {p : Px} (h : p.ok) (P : List (List Pnt)) (x y : Int) : (insF P p x y).ok := by
  unfold insF
  split
  · exact h
  · exact Px.zero_ok
theorem run_load_pol {w : World} {b j : Nat} {v : Value} (h : w.cell? ⟨b, j, none⟩ = some v) : (Instr.loadAt 39 (.pointer (some ⟨b, j, none⟩))).run Try.prog w = .ok v w := by
  simp [go_sem, h]
set_option maxHeartbeats 4000000 in
theorem P_inside2 (k2 k3 : Nat) (p : Px) (v : Value) (P : List (List Pnt)) (x y : Int) (w : World) (b2 : AtB 39 w k2 #[v]) (b3 : AtB 59 w k3 (pxC4 p)) (h : RPoly v P w) (hP : FineP P) (hx : -70000 ≤ x ∧ x ≤ 70000) (hy : -70000 ≤ y ∧ y ≤ 70000) : Calls Try.prog 81 #[.int .i64 x, .int .i64 y, .pointer (some ⟨k2, 0, none⟩), .pointer (some ⟨k3, 0, none⟩)] w fun e w' => e = .returned (.agg (pxC4 (insF P p x y))) ∧ Below w.heap.size w w' := by
  have B := Below.refl w.heap.size w
  obtain ⟨a1, c1, rfl, _⟩ := h.len
  obtain ⟨vs, r1, e1, s1⟩ := h
  have R1 := Lib.hid r1
  have S1 := Lib.hid s1
  have HP := Lib.hid hP
  have hPn := hP.n
  have kb2 := b2.lt
  have kb3 := b3.lt
  clear r1 s1 hP
  go_enter Try.func81, Try.ntmps81
  go_upto_region 0 with fail
  refine wp_region_lit ?_
  try simp only [gelS]
  (refine wpList_allocBk (t := 59) rfl _ (run_alloc_Pxx _ _ rfl) ?_; intro b_r6 wn hle hge ht hbn hzn; have hsz := B.size; replace B := B.trans (hbn.mono (by omega)); have hln := Nat.lt_of_lt_of_eq (Nat.lt_succ_self _) hzn.symm; clear hzn; (try have hlt := b2.lt); (try replace b2 := b2.below (hbn.mono hle)); (try have hlt := b3.lt); (try replace b3 := b3.below (hbn.mono hle)); have r6 := ht; clear ht; simp only [putS])
  refine wpList_nil ?_
  have kr6 : w.heap.size ≤ b_r6 := by omega
  go_upto_region 1 with fail
  refine wp_region_lit ?_
  try simp only [gelS]
  refine wpList_chunk 1 (by kernel_rfl) ?_
  simp only [takS, Nat.reduceAdd]
  repeat (first | go_big_quiet_skip | (go_big_quiet_want; first | (go_big_quiet_op; go_big_quiet_on)))
  refine wpQuiet_nil ?_
  refine wpList_nil ?_
  go_upto_region 2 with fail
  refine wp_region_lit ?_
  try simp only [gelS]
  refine wpList_chunk 1 (by kernel_rfl) ?_
  simp only [takS, Nat.reduceAdd]
  repeat (first | go_big_quiet_skip | (go_big_quiet_want; first | (refine quiet_loadAny (t := 39) rfl _ _ _ rfl (fun w hw => run_load_pol ((ov_B b2 w hw).cellL 0 rfl)) (by rfl) ?_; simp only [putS]; go_big_quiet_on) | (go_big_quiet_op; go_big_quiet_on)))
  refine wpQuiet_nil ?_
  refine wpList_lenS (by first | rfl | simp [Region.wanted, yielded]) rfl Try.underlying39 rfl ?_
  simp only [putS]
  refine wpList_chunk 1 (by kernel_rfl) ?_
  simp only [takS, Nat.reduceAdd]
  repeat (first | go_big_quiet_skip | (go_big_quiet_want; first | (go_big_quiet_op; go_big_quiet_on)))
  refine wpQuiet_nil ?_
  refine wpList_nil ?_
  go_wp2
  go_loopw [7, 9, 12] (fun bv _ iv wr => ∃ (k : Nat) (b : Bool), k ≤ P.length ∧ iv = .int .i64 (k : Int) ∧ bv = .bool b ∧ Hid (parK (polB P (8 * x + 4) (8 * y + 4)) k = b) ∧ Below w.heap.size w wr ∧ AtB 59 wr k3 (pxC4 p) ∧ AtB 59 wr b_r6 #[.int .u8 0, .int .u8 0, .int .u8 0, .int .u8 0]) (fun _ _ iv _ => (P.length - intOf iv).toNat)
  case atStart => exact ⟨0, false, by omega, rfl, rfl, Lib.hid rfl, B, b3, r6⟩
  case round =>
    clear B b3 r6 b2
    obtain ⟨k, b, hk, rfl, rfl, HB, B, b3, r6⟩ := hrel
    by_cases hkl : k < P.length
    · have q1 : decide ((k : Int) < (P.length : Int)) = true := decide_eq_true (by omega)
      have q2 : decide (k < P.length) = true := decide_eq_true hkl
      obtain ⟨g1, o1, rfl, ce1w⟩ := R1.out.at (by omega)
      obtain ⟨⟨sa, sn, sc⟩, hs1⟩ : ∃ s, vs[k]? = some s := ⟨_, List.getElem?_eq_getElem (by omega)⟩
      obtain ⟨l1, hl1⟩ : ∃ l, P[k]? = some l := ⟨_, List.getElem?_eq_getElem (by omega)⟩
      have p1 := S1.out k _ _ hs1 hl1
      obtain ⟨_, _, hv1, _⟩ := p1.len
      simp only [Slc.v, Value.slice.injEq] at hv1
      obtain ⟨rfl, rfl, rfl⟩ := hv1
      have hb1 := HP.out.l l1 (List.mem_of_getElem? hl1)
      have HN1 := Lib.hid (HP.out.near l1 (List.mem_of_getElem? hl1))
      have P1 := Lib.hid (show RSE ptE (.slice sa l1.length sc) l1 w from p1)
      obtain ⟨cb, hcb⟩ : ∃ c, oddG l1 (8 * x + 4) (8 * y + 4) = c := ⟨_, rfl⟩
      have HCB := Lib.hid hcb
      have HST := Lib.hid (show parK (polB P (8 * x + 4) (8 * y + 4)) (k + 1) = Bool.xor b cb from by
        show Bool.xor (parK (polB P (8 * x + 4) (8 * y + 4)) k) (polB P (8 * x + 4) (8 * y + 4) k) = _
        rw [HB.out]
        unfold polB
        rw [List.getD_eq_getElem?_getD, hl1]
        show Bool.xor b (oddG l1 _ _) = _
        rw [hcb])
      have ce1 := ce1w.of_eq (B.block _ ce1w.lt)
      clear ce1w p1 hl1 hcb
      go_upto_region 3 with fail
      refine wp_region_lit ?_
      try simp only [gelS]
      refine wpList_chunk 1 (by kernel_rfl) ?_
      simp only [takS, Nat.reduceAdd]
      repeat (first | go_big_quiet_skip | (go_big_quiet_want; first | (go_big_quiet_op; go_big_quiet_on)))
      refine wpQuiet_nil ?_
      refine wpList_nil ?_
      go_upto_region 4 with fail
      refine wp_region_lit ?_
      try simp only [gelS]
      refine wpList_chunk 3 (by kernel_rfl) ?_
      simp only [takS, Nat.reduceAdd]
      repeat (first | go_big_quiet_skip | (go_big_quiet_want; first | (refine quiet_loadAny (t := 22) rfl _ _ _ rfl (fun w hw => rce_sl (ov_rce ce1 w hw) hs1) (by first | rfl | omega) ?_; simp only [putS]; go_big_quiet_on) | (go_big_quiet_op; go_big_quiet_on)))
      refine wpQuiet_nil ?_
      refine wpList_nil ?_
      go_upto_region 5 with fail
      cases b <;> cases cb
      · skip
        refine wp_region_lit ?_
        try simp only [gelS]
        refine wpList_chunk 8 (by kernel_rfl) ?_
        simp only [takS, Nat.reduceAdd]
        repeat (first | go_big_quiet_skip | (go_big_quiet_want; first | (go_big_quiet_op; go_big_quiet_on)))
        refine wpQuiet_nil ?_
        refine wpList_callF (by first | rfl | simp [Region.wanted, yielded]) rfl (enters_of Try.func82 (by kernel_rfl) rfl) (by simp only [List.map_toArray, List.map_cons, List.map_nil, Act.eval, Array.getD_eq_getD_getElem?, List.getElem?_toArray, List.getElem?_cons_succ, List.getElem?_cons_zero, Option.getD_some]; rfl) ?_
        refine (P_oddO _ l1 (8 * x + 4) (8 * y + 4) false _ (P1.out.below B) (by omega) HN1.out (by omega) (by omega) HCB.out).mono ?_
        rintro e wn ⟨rfl, hbn⟩
        have hsz := B.size
        have hzn := hbn.size
        replace B := B.trans (hbn.mono B.size)
        (try replace b3 := b3.below hbn)
        (try replace r6 := r6.below hbn)
        refine ⟨_, rfl, ?_⟩
        simp only [putS]
        refine wpList_chunk 2 (by kernel_rfl) ?_
        simp only [takS, Nat.reduceAdd]
        repeat (first | go_big_quiet_skip | (go_big_quiet_want; first | (go_big_quiet_op; go_big_quiet_on)))
        refine wpQuiet_nil ?_
        refine wpList_nil ?_
        go_upto_region 6 with fail
        refine wp_region_lit ?_
        try simp only [gelS]
        refine wpList_chunk 2 (by kernel_rfl) ?_
        simp only [takS, Nat.reduceAdd]
        repeat (first | go_big_quiet_skip | (go_big_quiet_want; first | (go_big_quiet_op; go_big_quiet_on)))
        refine wpQuiet_nil ?_
        refine wpList_nil ?_
        go_wp2
        go_roundw
        case rel => exact ⟨k + 1, _, by omega, by go_num, rfl, HST, B, b3, r6⟩
        case measure => simp [intOf]; omega
      · skip
        refine wp_region_lit ?_
        try simp only [gelS]
        refine wpList_chunk 8 (by kernel_rfl) ?_
        simp only [takS, Nat.reduceAdd]
        repeat (first | go_big_quiet_skip | (go_big_quiet_want; first | (go_big_quiet_op; go_big_quiet_on)))
        refine wpQuiet_nil ?_
        refine wpList_callF (by first | rfl | simp [Region.wanted, yielded]) rfl (enters_of Try.func82 (by kernel_rfl) rfl) (by simp only [List.map_toArray, List.map_cons, List.map_nil, Act.eval, Array.getD_eq_getD_getElem?, List.getElem?_toArray, List.getElem?_cons_succ, List.getElem?_cons_zero, Option.getD_some]; rfl) ?_
        refine (P_oddO _ l1 (8 * x + 4) (8 * y + 4) true _ (P1.out.below B) (by omega) HN1.out (by omega) (by omega) HCB.out).mono ?_
        rintro e wn ⟨rfl, hbn⟩
        have hsz := B.size
        have hzn := hbn.size
        replace B := B.trans (hbn.mono B.size)
        (try replace b3 := b3.below hbn)
        (try replace r6 := r6.below hbn)
        refine ⟨_, rfl, ?_⟩
        simp only [putS]
        refine wpList_chunk 2 (by kernel_rfl) ?_
        simp only [takS, Nat.reduceAdd]
        repeat (first | go_big_quiet_skip | (go_big_quiet_want; first | (go_big_quiet_op; go_big_quiet_on)))
        refine wpQuiet_nil ?_
        refine wpList_nil ?_
        go_upto_region 6 with fail
        refine wp_region_lit ?_
        try simp only [gelS]
        refine wpList_chunk 2 (by kernel_rfl) ?_
        simp only [takS, Nat.reduceAdd]
        repeat (first | go_big_quiet_skip | (go_big_quiet_want; first | (go_big_quiet_op; go_big_quiet_on)))
        refine wpQuiet_nil ?_
        refine wpList_nil ?_
        go_wp2
        go_roundw
        case rel => exact ⟨k + 1, _, by omega, by go_num, rfl, HST, B, b3, r6⟩
        case measure => simp [intOf]; omega
      · skip
        refine wp_region_lit ?_
        try simp only [gelS]
        refine wpList_chunk 8 (by kernel_rfl) ?_
        simp only [takS, Nat.reduceAdd]
        repeat (first | go_big_quiet_skip | (go_big_quiet_want; first | (go_big_quiet_op; go_big_quiet_on)))
        refine wpQuiet_nil ?_
        refine wpList_callF (by first | rfl | simp [Region.wanted, yielded]) rfl (enters_of Try.func82 (by kernel_rfl) rfl) (by simp only [List.map_toArray, List.map_cons, List.map_nil, Act.eval, Array.getD_eq_getD_getElem?, List.getElem?_toArray, List.getElem?_cons_succ, List.getElem?_cons_zero, Option.getD_some]; rfl) ?_
        refine (P_oddO _ l1 (8 * x + 4) (8 * y + 4) false _ (P1.out.below B) (by omega) HN1.out (by omega) (by omega) HCB.out).mono ?_
        rintro e wn ⟨rfl, hbn⟩
        have hsz := B.size
        have hzn := hbn.size
        replace B := B.trans (hbn.mono B.size)
        (try replace b3 := b3.below hbn)
        (try replace r6 := r6.below hbn)
        refine ⟨_, rfl, ?_⟩
        simp only [putS]
        refine wpList_chunk 2 (by kernel_rfl) ?_
        simp only [takS, Nat.reduceAdd]
        repeat (first | go_big_quiet_skip | (go_big_quiet_want; first | (go_big_quiet_op; go_big_quiet_on)))
        refine wpQuiet_nil ?_
        refine wpList_nil ?_
        go_upto_region 6 with fail
        refine wp_region_lit ?_
        try simp only [gelS]
        refine wpList_chunk 2 (by kernel_rfl) ?_
        simp only [takS, Nat.reduceAdd]
        repeat (first | go_big_quiet_skip | (go_big_quiet_want; first | (go_big_quiet_op; go_big_quiet_on)))
        refine wpQuiet_nil ?_
        refine wpList_nil ?_
        go_wp2
        go_roundw
        case rel => exact ⟨k + 1, _, by omega, by go_num, rfl, HST, B, b3, r6⟩
        case measure => simp [intOf]; omega
      · skip
        refine wp_region_lit ?_
        try simp only [gelS]
        refine wpList_chunk 8 (by kernel_rfl) ?_
        simp only [takS, Nat.reduceAdd]
        repeat (first | go_big_quiet_skip | (go_big_quiet_want; first | (go_big_quiet_op; go_big_quiet_on)))
        refine wpQuiet_nil ?_
        refine wpList_callF (by first | rfl | simp [Region.wanted, yielded]) rfl (enters_of Try.func82 (by kernel_rfl) rfl) (by simp only [List.map_toArray, List.map_cons, List.map_nil, Act.eval, Array.getD_eq_getD_getElem?, List.getElem?_toArray, List.getElem?_cons_succ, List.getElem?_cons_zero, Option.getD_some]; rfl) ?_
        refine (P_oddO _ l1 (8 * x + 4) (8 * y + 4) true _ (P1.out.below B) (by omega) HN1.out (by omega) (by omega) HCB.out).mono ?_
        rintro e wn ⟨rfl, hbn⟩
        have hsz := B.size
        have hzn := hbn.size
        replace B := B.trans (hbn.mono B.size)
        (try replace b3 := b3.below hbn)
        (try replace r6 := r6.below hbn)
        refine ⟨_, rfl, ?_⟩
        simp only [putS]
        refine wpList_chunk 2 (by kernel_rfl) ?_
        simp only [takS, Nat.reduceAdd]
        repeat (first | go_big_quiet_skip | (go_big_quiet_want; first | (go_big_quiet_op; go_big_quiet_on)))
        refine wpQuiet_nil ?_
        refine wpList_nil ?_
        go_upto_region 6 with fail
        refine wp_region_lit ?_
        try simp only [gelS]
        refine wpList_chunk 2 (by kernel_rfl) ?_
        simp only [takS, Nat.reduceAdd]
        repeat (first | go_big_quiet_skip | (go_big_quiet_want; first | (go_big_quiet_op; go_big_quiet_on)))
        refine wpQuiet_nil ?_
        refine wpList_nil ?_
        go_wp2
        go_roundw
        case rel => exact ⟨k + 1, _, by omega, by go_num, rfl, HST, B, b3, r6⟩
        case measure => simp [intOf]; omega
    · obtain rfl : k = P.length := by omega
      have q1 : decide (((P.length : Nat) : Int) < (P.length : Int)) = false := decide_eq_false (by omega)
      have HI := Lib.hid (show inPB P (8 * x + 4) (8 * y + 4) = b from HB.out)
      go_upto_region 3 with fail
      refine wp_region_lit ?_
      try simp only [gelS]
      refine wpList_chunk 1 (by kernel_rfl) ?_
      simp only [takS, Nat.reduceAdd]
      repeat (first | go_big_quiet_skip | (go_big_quiet_want; first | (go_big_quiet_op; go_big_quiet_on)))
      refine wpQuiet_nil ?_
      refine wpList_nil ?_
      go_upto_region 7 with fail
      refine wp_region_lit ?_
      try simp only [gelS]
      refine wpList_chunk 2 (by kernel_rfl) ?_
      simp only [takS, Nat.reduceAdd]
      repeat (first | go_big_quiet_skip | (go_big_quiet_want; first | (go_big_quiet_op; go_big_quiet_on)))
      refine wpQuiet_nil ?_
      refine wpList_nil ?_
      cases b with
      | false =>
        have HE := Lib.hid (show insF P p x y = Px.zero from by unfold insF; rw [HI.out]; rfl)
        go_upto_region 8 with fail
        refine wp_region_lit ?_
        try simp only [gelS]
        refine wpList_chunk 1 (by kernel_rfl) ?_
        simp only [takS, Nat.reduceAdd]
        repeat (first | go_big_quiet_skip | (go_big_quiet_want; first | (go_big_quiet_op; go_big_quiet_on)))
        refine wpQuiet_nil ?_
        (refine wpList_storeB (t := 59) rfl _ _ rfl _ rfl _ rfl r6 (by kernel_rfl) rfl (by simp [rcA, pxC4, Value.oneCell']) ?_; clear r6; intro wn ht hcn hzn; have hsz := B.size; replace hzn := Nat.le_of_eq hzn.symm; replace B := Chg.below B hcn (by omega) B.size; (try replace b3 := b3.of_eq (hcn.block _ b3.lt (by omega))); have r6 := ht; clear ht; simp only [putS])
        refine wpList_nil ?_
        first | (refine bodyPost_ret (results_B (t := 59) rfl _ _ (b_r6) rfl r6 Try.isAgg59 (by kernel_rfl)) rfl ?_) | (go_step; refine bodyPost_ret (results_B (t := 59) rfl _ _ (b_r6) rfl r6 Try.isAgg59 (by kernel_rfl)) rfl ?_) | (go_step; go_step; refine bodyPost_ret (results_B (t := 59) rfl _ _ (b_r6) rfl r6 Try.isAgg59 (by kernel_rfl)) rfl ?_) | (go_step; go_step; go_step; refine bodyPost_ret (results_B (t := 59) rfl _ _ (b_r6) rfl r6 Try.isAgg59 (by kernel_rfl)) rfl ?_) | (go_step; go_step; go_step; go_step; refine bodyPost_ret (results_B (t := 59) rfl _ _ (b_r6) rfl r6 Try.isAgg59 (by kernel_rfl)) rfl ?_) | (go_step; go_step; go_step; go_step; go_step; refine bodyPost_ret (results_B (t := 59) rfl _ _ (b_r6) rfl r6 Try.isAgg59 (by kernel_rfl)) rfl ?_)
        rw [HE.out]
        exact ⟨rfl, B⟩
      | true =>
        have HE := Lib.hid (show insF P p x y = p from by unfold insF; rw [HI.out]; rfl)
        go_upto_region 9 with fail
        refine wp_region_lit ?_
        try simp only [gelS]
        refine wpList_chunk 1 (by kernel_rfl) ?_
        simp only [takS, Nat.reduceAdd]
        repeat (first | go_big_quiet_skip | (go_big_quiet_want; first | (refine quiet_loadAny (t := 59) rfl _ _ _ rfl (fun w hw => run_load_B (ov_B b3 w hw) Try.isAgg59 (by kernel_rfl)) (by rfl) ?_; simp only [putS]; go_big_quiet_on) | (go_big_quiet_op; go_big_quiet_on)))
        refine wpQuiet_nil ?_
        (refine wpList_storeB (t := 59) rfl _ _ rfl _ rfl _ rfl r6 (by kernel_rfl) rfl (by simp [rcA, pxC4, Value.oneCell']) ?_; clear r6; intro wn ht hcn hzn; have hsz := B.size; replace hzn := Nat.le_of_eq hzn.symm; replace B := Chg.below B hcn (by omega) B.size; (try replace b3 := b3.of_eq (hcn.block _ b3.lt (by omega))); have r6 := ht; clear ht; simp only [putS])
        refine wpList_nil ?_
        first | (refine bodyPost_ret (results_B (t := 59) rfl _ _ (b_r6) rfl r6 Try.isAgg59 (by kernel_rfl)) rfl ?_) | (go_step; refine bodyPost_ret (results_B (t := 59) rfl _ _ (b_r6) rfl r6 Try.isAgg59 (by kernel_rfl)) rfl ?_) | (go_step; go_step; refine bodyPost_ret (results_B (t := 59) rfl _ _ (b_r6) rfl r6 Try.isAgg59 (by kernel_rfl)) rfl ?_) | (go_step; go_step; go_step; refine bodyPost_ret (results_B (t := 59) rfl _ _ (b_r6) rfl r6 Try.isAgg59 (by kernel_rfl)) rfl ?_) | (go_step; go_step; go_step; go_step; refine bodyPost_ret (results_B (t := 59) rfl _ _ (b_r6) rfl r6 Try.isAgg59 (by kernel_rfl)) rfl ?_) | (go_step; go_step; go_step; go_step; go_step; refine bodyPost_ret (results_B (t := 59) rfl _ _ (b_r6) rfl r6 Try.isAgg59 (by kernel_rfl)) rfl ?_)
        rw [HE.out]
        exact ⟨rfl, B⟩
/-! ### Inside -/
def insL (P : List (List Pnt)) (p : Px) : List TA := if emptyR (hullG P.flatten) = true then [] else pstR (hullG P.flatten) (paintL (hullG P.flatten) (insF P p)) []
theorem flat_near {P : List (List Pnt)} (h : FineP P) : nearL P.flatten := fun p hp => by
  obtain ⟨l, hl, hpl⟩ := List.mem_flatten.1 hp
  exact h.near l hl p hpl
theorem hull_nil : emptyR (hullG []) = true := by rfl
set_option maxHeartbeats 8000000 in
theorem P_Inside (v : Value) (P : List (List Pnt)) (p : Px) (w : World) (h : RPoly v P w) (hP : FineP P) (hp : p.ok) (hL : P.flatten ≠ [] → largeR (hullG P.flatten) = false) (hA : emptyR (hullG P.flatten) = false → tlN (hullG P.flatten) ≤ 1000) : Calls Try.prog 34 #[v, .agg (pxC4 p)] w fun e w' => ∃ a cp, e = .returned (.tuple #[.agg #[.slice a (insL P p).length cp], .int .i64 0]) ∧ RS (.slice a (insL P p).length cp) (insL P p) w' ∧ Below w.heap.size w w' := by
  have B := Below.refl w.heap.size w
  obtain ⟨a, c, rfl, hc⟩ := h.len
  have HS := Lib.hid h
  have HF := Lib.hid hP
  have HP := Lib.hid hp
  have hPn := hP.n
  have q1 : decide ((1024 : Int) < (P.length : Int)) = false := decide_eq_false (by omega)
  have hT : P.flatten.length ≤ 5000000 := by
    have := flat_bd hP.l
    have := Nat.mul_le_mul_right 4096 hPn
    omega
  have hnr := flat_near hP
  clear h hP hp
  obtain ⟨A, hAe⟩ : ∃ A, P.flatten = A := ⟨_, rfl⟩
  have HCAT := Lib.hid (show ∀ W, RPoly (.slice a P.length c) P W → Calls Try.prog 80 #[.slice a P.length c] W fun e w' => ∃ a c, e = .returned (.slice a A.length c) ∧ RSE ptE (.slice a A.length c) A w' ∧ Below W.heap.size W w' from fun W hW => hAe ▸ P_Concat _ P W hW HF.out)
  rw [hAe] at hL hA hT hnr
  by_cases h0 : A = []
  · have e1 : insL P p = [] := by unfold insL; rw [hAe, h0, if_pos hull_nil]
    have h00 : A.length = 0 := by rw [h0]; rfl
    rw [e1]
    clear e1 hAe h0 hL hA hnr
    go_enter Try.func34, Try.ntmps34
    go_upto_region 0 with fail
    refine wp_region_lit ?_
    try simp only [gelS]
    (refine wpList_boxV (t := 39) rfl _ rfl _ rfl (by rfl) ?_; intro b_b2 wn hle hge ht hbn hzn; have hsz := B.size; replace B := B.trans (hbn.mono (by omega)); have hln := Nat.lt_of_lt_of_eq (Nat.lt_succ_self _) hzn.symm; clear hzn; have b2 := ht; clear ht; simp only [putS])
    (refine wpList_boxB (t := 59) rfl _ rfl _ rfl ?_; intro b_b3 wn hle hge ht hbn hzn; have hsz := B.size; replace B := B.trans (hbn.mono (by omega)); have hln := Nat.lt_of_lt_of_eq (Nat.lt_succ_self _) hzn.symm; clear hzn; (try have hlt := b2.lt); (try replace b2 := b2.below (hbn.mono hle)); have b3 := ht; clear ht; simp only [putS])
    (refine wpList_allocBk (t := 36) rfl _ (run_alloc_R _ _ rfl) ?_; intro b_r4 wn hle hge ht hbn hzn; have hsz := B.size; replace B := B.trans (hbn.mono (by omega)); have hln := Nat.lt_of_lt_of_eq (Nat.lt_succ_self _) hzn.symm; clear hzn; (try have hlt := b2.lt); (try replace b2 := b2.below (hbn.mono hle)); (try have hlt := b3.lt); (try replace b3 := b3.below (hbn.mono hle)); have r4 := ht; clear ht; simp only [putS])
    refine wpList_chunk 1 (by kernel_rfl) ?_
    simp only [takS, Nat.reduceAdd]
    repeat (first | go_big_quiet_skip | (go_big_quiet_want; first | (go_big_quiet_op; go_big_quiet_on)))
    refine wpQuiet_nil ?_
    refine wpList_nil ?_
    have k2 : w.heap.size ≤ b_b2 := by omega
    have k3 : b_b2 < b_b3 := by have := b2.lt; omega
    have k4 : b_b3 < b_r4 := by have := b3.lt; omega
    go_upto_region 1 with fail
    refine wp_region_lit ?_
    try simp only [gelS]
    refine wpList_chunk 1 (by kernel_rfl) ?_
    simp only [takS, Nat.reduceAdd]
    repeat (first | go_big_quiet_skip | (go_big_quiet_want; first | (go_big_quiet_op; go_big_quiet_on)))
    refine wpQuiet_nil ?_
    refine wpList_nil ?_
    go_upto_region 2 with fail
    refine wp_region_lit ?_
    try simp only [gelS]
    refine wpList_chunk 1 (by kernel_rfl) ?_
    simp only [takS, Nat.reduceAdd]
    repeat (first | go_big_quiet_skip | (go_big_quiet_want; first | (refine quiet_loadAny (t := 39) rfl _ _ _ rfl (fun w hw => run_load_pol ((ov_B b2 w hw).cellL 0 rfl)) (by rfl) ?_; simp only [putS]; go_big_quiet_on) | (go_big_quiet_op; go_big_quiet_on)))
    refine wpQuiet_nil ?_
    refine wpList_lenS (by first | rfl | simp [Region.wanted, yielded]) rfl Try.underlying39 rfl ?_
    simp only [putS]
    refine wpList_chunk 4 (by kernel_rfl) ?_
    simp only [takS, Nat.reduceAdd]
    repeat (first | go_big_quiet_skip | (go_big_quiet_want; first | (refine quiet_loadAny (t := 39) rfl _ _ _ rfl (fun w hw => run_load_pol ((ov_B b2 w hw).cellL 0 rfl)) (by rfl) ?_; simp only [putS]; go_big_quiet_on) | (go_big_quiet_op; go_big_quiet_on)))
    refine wpQuiet_nil ?_
    refine wpList_callF (by first | rfl | simp [Region.wanted, yielded]) rfl (enters_of Try.func79 (by kernel_rfl) rfl) (by simp only [List.map_toArray, List.map_cons, List.map_nil, Act.eval, Array.getD_eq_getD_getElem?, List.getElem?_toArray, List.getElem?_cons_succ, List.getElem?_cons_zero, Option.getD_some]; rfl) ?_
    refine (P_ContainsBad _ P _ (HS.out.below B) HF.out).mono ?_
    rintro e wn ⟨rfl, hbn⟩
    have hsz := B.size
    have hzn := hbn.size
    replace B := B.trans (hbn.mono B.size)
    (try replace b2 := b2.below hbn)
    (try replace b3 := b3.below hbn)
    (try replace r4 := r4.below hbn)
    refine ⟨_, rfl, ?_⟩
    simp only [putS]
    refine wpList_chunk 1 (by kernel_rfl) ?_
    simp only [takS, Nat.reduceAdd]
    repeat (first | go_big_quiet_skip | (go_big_quiet_want; first | (go_big_quiet_op; go_big_quiet_on)))
    refine wpQuiet_nil ?_
    refine wpList_nil ?_
    go_upto_region 4 with fail
    refine wp_region_lit ?_
    try simp only [gelS]
    refine wpList_chunk 1 (by kernel_rfl) ?_
    simp only [takS, Nat.reduceAdd]
    repeat (first | go_big_quiet_skip | (go_big_quiet_want; first | (refine quiet_loadAny (t := 39) rfl _ _ _ rfl (fun w hw => run_load_pol ((ov_B b2 w hw).cellL 0 rfl)) (by rfl) ?_; simp only [putS]; go_big_quiet_on) | (go_big_quiet_op; go_big_quiet_on)))
    refine wpQuiet_nil ?_
    refine wpList_callF (by first | rfl | simp [Region.wanted, yielded]) rfl (enters_of Try.func80 (by kernel_rfl) rfl) (by simp only [List.map_toArray, List.map_cons, List.map_nil, Act.eval, Array.getD_eq_getD_getElem?, List.getElem?_toArray, List.getElem?_cons_succ, List.getElem?_cons_zero, Option.getD_some]; rfl) ?_
    refine (HCAT.out _ (HS.out.below B)).mono ?_
    rintro e wn ⟨a7, c7, rfl, rp, hbn⟩
    have hsz := B.size
    have hzn := hbn.size
    replace B := B.trans (hbn.mono B.size)
    (try replace b2 := b2.below hbn)
    (try replace b3 := b3.below hbn)
    (try replace r4 := r4.below hbn)
    refine ⟨_, rfl, ?_⟩
    simp only [putS]
    refine wpList_chunk 1 (by kernel_rfl) ?_
    simp only [takS, Nat.reduceAdd]
    repeat (first | go_big_quiet_skip | (go_big_quiet_want; first | (go_big_quiet_op; go_big_quiet_on)))
    refine wpQuiet_nil ?_
    refine wpList_nil ?_
    have q2 : ((A.length : Int) == 0) = true := by rw [h00]; rfl
    go_upto_region 5 with fail
    refine wp_region_lit ?_
    try simp only [gelS]
    refine wpList_chunk 1 (by kernel_rfl) ?_
    simp only [takS, Nat.reduceAdd]
    repeat (first | go_big_quiet_skip | (go_big_quiet_want; first | (go_big_quiet_op; go_big_quiet_on)))
    refine wpQuiet_nil ?_
    refine wpList_lenS (by first | rfl | simp [Region.wanted, yielded]) rfl Try.underlying22 rfl ?_
    simp only [putS]
    refine wpList_chunk 1 (by kernel_rfl) ?_
    simp only [takS, Nat.reduceAdd]
    repeat (first | go_big_quiet_skip | (go_big_quiet_want; first | (go_big_quiet_op; go_big_quiet_on)))
    refine wpQuiet_nil ?_
    refine wpList_nil ?_
    go_upto_region 6 with fail
    refine wp_region_lit ?_
    try simp only [gelS]
    refine wpList_chunk 1 (by kernel_rfl) ?_
    simp only [takS, Nat.reduceAdd]
    repeat (first | go_big_quiet_skip | (go_big_quiet_want; first | (go_big_quiet_op; go_big_quiet_on)))
    refine wpQuiet_nil ?_
    (refine wpList_storeB (t := 36) rfl _ _ rfl _ rfl _ rfl r4 (by kernel_rfl) rfl (by simp [rcA, pxC4, Value.oneCell']) ?_; clear r4; intro wn ht hcn hzn; have hsz := B.size; replace hzn := Nat.le_of_eq hzn.symm; replace B := Chg.below B hcn (by omega) B.size; (try replace b2 := b2.of_eq (hcn.block _ b2.lt (by omega))); (try replace b3 := b3.of_eq (hcn.block _ b3.lt (by omega))); have r4 := ht; clear ht; simp only [putS])
    refine wpList_chunk 1 (by kernel_rfl) ?_
    simp only [takS, Nat.reduceAdd]
    repeat (first | go_big_quiet_skip | (go_big_quiet_want; first | (go_big_quiet_op; go_big_quiet_on)))
    refine wpQuiet_nil ?_
    refine wpList_nil ?_
    first | (refine bodyPost_ret (results_B2 (t := 36) rfl _ _ (b_r4) rfl _ rfl r4 Try.isAgg36 (by kernel_rfl)) rfl ?_) | (go_step; refine bodyPost_ret (results_B2 (t := 36) rfl _ _ (b_r4) rfl _ rfl r4 Try.isAgg36 (by kernel_rfl)) rfl ?_) | (go_step; go_step; refine bodyPost_ret (results_B2 (t := 36) rfl _ _ (b_r4) rfl _ rfl r4 Try.isAgg36 (by kernel_rfl)) rfl ?_) | (go_step; go_step; go_step; refine bodyPost_ret (results_B2 (t := 36) rfl _ _ (b_r4) rfl _ rfl r4 Try.isAgg36 (by kernel_rfl)) rfl ?_) | (go_step; go_step; go_step; go_step; refine bodyPost_ret (results_B2 (t := 36) rfl _ _ (b_r4) rfl _ rfl r4 Try.isAgg36 (by kernel_rfl)) rfl ?_) | (go_step; go_step; go_step; go_step; go_step; refine bodyPost_ret (results_B2 (t := 36) rfl _ _ (b_r4) rfl _ rfl r4 Try.isAgg36 (by kernel_rfl)) rfl ?_)
    exact ⟨none, 0, rfl, RS.nil _, B⟩
  · have hpos : 0 < A.length := List.length_pos_iff.2 h0
    have q2 : ((A.length : Int) == 0) = false := by simp; omega
    have hL := hL h0
    obtain ⟨n1, n2, n3, n4, n5, n6⟩ := near_hull h0 hnr
    obtain ⟨bd, hbd⟩ : ∃ b, hullG A = b := ⟨_, rfl⟩
    have HBD := Lib.hid (show ∀ v W, RSE ptE v A W → Calls Try.prog 46 #[v] W fun e w' => e = .returned (.agg (rcA bd)) ∧ Below W.heap.size W w' from fun v W hW => hbd ▸ P_hull v A W hW hpos (by omega))
    rw [hbd] at n1 n2 n3 n4 n5 n6 hL hA
    have HL := Lib.hid hL
    cases hm : emptyR bd with
    | true =>
      have e1 : insL P p = [] := by unfold insL; rw [hAe, hbd, if_pos hm]
      rw [e1]
      have HM := Lib.hid hm
      clear hAe h0 hL hA hnr e1 hbd hm
      go_enter Try.func34, Try.ntmps34
      go_upto_region 0 with fail
      refine wp_region_lit ?_
      try simp only [gelS]
      (refine wpList_boxV (t := 39) rfl _ rfl _ rfl (by rfl) ?_; intro b_b2 wn hle hge ht hbn hzn; have hsz := B.size; replace B := B.trans (hbn.mono (by omega)); have hln := Nat.lt_of_lt_of_eq (Nat.lt_succ_self _) hzn.symm; clear hzn; (try have hlt := b2.lt); (try replace b2 := b2.below (hbn.mono hle)); (try have hlt := b3.lt); (try replace b3 := b3.below (hbn.mono hle)); (try have hlt := r4.lt); (try replace r4 := r4.below (hbn.mono hle)); have b2 := ht; clear ht; simp only [putS])
      (refine wpList_boxB (t := 59) rfl _ rfl _ rfl ?_; intro b_b3 wn hle hge ht hbn hzn; have hsz := B.size; replace B := B.trans (hbn.mono (by omega)); have hln := Nat.lt_of_lt_of_eq (Nat.lt_succ_self _) hzn.symm; clear hzn; (try have hlt := b2.lt); (try replace b2 := b2.below (hbn.mono hle)); (try have hlt := b3.lt); (try replace b3 := b3.below (hbn.mono hle)); (try have hlt := r4.lt); (try replace r4 := r4.below (hbn.mono hle)); have b3 := ht; clear ht; simp only [putS])
      (refine wpList_allocBk (t := 36) rfl _ (run_alloc_R _ _ rfl) ?_; intro b_r4 wn hle hge ht hbn hzn; have hsz := B.size; replace B := B.trans (hbn.mono (by omega)); have hln := Nat.lt_of_lt_of_eq (Nat.lt_succ_self _) hzn.symm; clear hzn; (try have hlt := b2.lt); (try replace b2 := b2.below (hbn.mono hle)); (try have hlt := b3.lt); (try replace b3 := b3.below (hbn.mono hle)); (try have hlt := r4.lt); (try replace r4 := r4.below (hbn.mono hle)); have r4 := ht; clear ht; simp only [putS])
      refine wpList_chunk 1 (by kernel_rfl) ?_
      simp only [takS, Nat.reduceAdd]
      repeat (first | go_big_quiet_skip | (go_big_quiet_want; first | (go_big_quiet_op; go_big_quiet_on)))
      refine wpQuiet_nil ?_
      refine wpList_nil ?_
      have k2 : w.heap.size ≤ b_b2 := by omega
      have k3 : b_b2 < b_b3 := by have := b2.lt; omega
      have k4 : b_b3 < b_r4 := by have := b3.lt; omega
      go_upto_region 1 with fail
      refine wp_region_lit ?_
      try simp only [gelS]
      refine wpList_chunk 1 (by kernel_rfl) ?_
      simp only [takS, Nat.reduceAdd]
      repeat (first | go_big_quiet_skip | (go_big_quiet_want; first | (go_big_quiet_op; go_big_quiet_on)))
      refine wpQuiet_nil ?_
      refine wpList_nil ?_
      go_upto_region 2 with fail
      refine wp_region_lit ?_
      try simp only [gelS]
      refine wpList_chunk 1 (by kernel_rfl) ?_
      simp only [takS, Nat.reduceAdd]
      repeat (first | go_big_quiet_skip | (go_big_quiet_want; first | (refine quiet_loadAny (t := 39) rfl _ _ _ rfl (fun w hw => run_load_pol ((ov_B b2 w hw).cellL 0 rfl)) (by rfl) ?_; simp only [putS]; go_big_quiet_on) | (go_big_quiet_op; go_big_quiet_on)))
      refine wpQuiet_nil ?_
      refine wpList_lenS (by first | rfl | simp [Region.wanted, yielded]) rfl Try.underlying39 rfl ?_
      simp only [putS]
      refine wpList_chunk 4 (by kernel_rfl) ?_
      simp only [takS, Nat.reduceAdd]
      repeat (first | go_big_quiet_skip | (go_big_quiet_want; first | (refine quiet_loadAny (t := 39) rfl _ _ _ rfl (fun w hw => run_load_pol ((ov_B b2 w hw).cellL 0 rfl)) (by rfl) ?_; simp only [putS]; go_big_quiet_on) | (go_big_quiet_op; go_big_quiet_on)))
      refine wpQuiet_nil ?_
      refine wpList_callF (by first | rfl | simp [Region.wanted, yielded]) rfl (enters_of Try.func79 (by kernel_rfl) rfl) (by simp only [List.map_toArray, List.map_cons, List.map_nil, Act.eval, Array.getD_eq_getD_getElem?, List.getElem?_toArray, List.getElem?_cons_succ, List.getElem?_cons_zero, Option.getD_some]; rfl) ?_
      refine (P_ContainsBad _ P _ (HS.out.below B) HF.out).mono ?_
      rintro e wn ⟨rfl, hbn⟩
      have hsz := B.size
      have hzn := hbn.size
      replace B := B.trans (hbn.mono B.size)
      (try replace b2 := b2.below hbn)
      (try replace b3 := b3.below hbn)
      (try replace r4 := r4.below hbn)
      refine ⟨_, rfl, ?_⟩
      simp only [putS]
      refine wpList_chunk 1 (by kernel_rfl) ?_
      simp only [takS, Nat.reduceAdd]
      repeat (first | go_big_quiet_skip | (go_big_quiet_want; first | (go_big_quiet_op; go_big_quiet_on)))
      refine wpQuiet_nil ?_
      refine wpList_nil ?_
      go_upto_region 4 with fail
      refine wp_region_lit ?_
      try simp only [gelS]
      refine wpList_chunk 1 (by kernel_rfl) ?_
      simp only [takS, Nat.reduceAdd]
      repeat (first | go_big_quiet_skip | (go_big_quiet_want; first | (refine quiet_loadAny (t := 39) rfl _ _ _ rfl (fun w hw => run_load_pol ((ov_B b2 w hw).cellL 0 rfl)) (by rfl) ?_; simp only [putS]; go_big_quiet_on) | (go_big_quiet_op; go_big_quiet_on)))
      refine wpQuiet_nil ?_
      refine wpList_callF (by first | rfl | simp [Region.wanted, yielded]) rfl (enters_of Try.func80 (by kernel_rfl) rfl) (by simp only [List.map_toArray, List.map_cons, List.map_nil, Act.eval, Array.getD_eq_getD_getElem?, List.getElem?_toArray, List.getElem?_cons_succ, List.getElem?_cons_zero, Option.getD_some]; rfl) ?_
      refine (HCAT.out _ (HS.out.below B)).mono ?_
      rintro e wn ⟨a7, c7, rfl, rp, hbn⟩
      have hsz := B.size
      have hzn := hbn.size
      replace B := B.trans (hbn.mono B.size)
      (try replace b2 := b2.below hbn)
      (try replace b3 := b3.below hbn)
      (try replace r4 := r4.below hbn)
      refine ⟨_, rfl, ?_⟩
      simp only [putS]
      refine wpList_chunk 1 (by kernel_rfl) ?_
      simp only [takS, Nat.reduceAdd]
      repeat (first | go_big_quiet_skip | (go_big_quiet_want; first | (go_big_quiet_op; go_big_quiet_on)))
      refine wpQuiet_nil ?_
      refine wpList_nil ?_
      go_upto_region 5 with fail
      refine wp_region_lit ?_
      try simp only [gelS]
      refine wpList_chunk 1 (by kernel_rfl) ?_
      simp only [takS, Nat.reduceAdd]
      repeat (first | go_big_quiet_skip | (go_big_quiet_want; first | (go_big_quiet_op; go_big_quiet_on)))
      refine wpQuiet_nil ?_
      refine wpList_lenS (by first | rfl | simp [Region.wanted, yielded]) rfl Try.underlying22 rfl ?_
      simp only [putS]
      refine wpList_chunk 1 (by kernel_rfl) ?_
      simp only [takS, Nat.reduceAdd]
      repeat (first | go_big_quiet_skip | (go_big_quiet_want; first | (go_big_quiet_op; go_big_quiet_on)))
      refine wpQuiet_nil ?_
      refine wpList_nil ?_
      go_upto_region 7 with fail
      refine wp_region_lit ?_
      try simp only [gelS]
      refine wpList_chunk 1 (by kernel_rfl) ?_
      simp only [takS, Nat.reduceAdd]
      repeat (first | go_big_quiet_skip | (go_big_quiet_want; first | (go_big_quiet_op; go_big_quiet_on)))
      refine wpQuiet_nil ?_
      refine wpList_callF (by first | rfl | simp [Region.wanted, yielded]) rfl (enters_of Try.func46 (by kernel_rfl) rfl) (by simp only [List.map_toArray, List.map_cons, List.map_nil, Act.eval, Array.getD_eq_getD_getElem?, List.getElem?_toArray, List.getElem?_cons_succ, List.getElem?_cons_zero, Option.getD_some]; rfl) ?_
      refine (HBD.out _ _ rp).mono ?_
      rintro e wn ⟨rfl, hbn⟩
      have hsz := B.size
      have hzn := hbn.size
      replace B := B.trans (hbn.mono B.size)
      (try replace b2 := b2.below hbn)
      (try replace b3 := b3.below hbn)
      (try replace r4 := r4.below hbn)
      refine ⟨_, rfl, ?_⟩
      simp only [putS]
      (refine wpList_allocBk (t := 31) rfl _ (run_alloc_Rc _ _ rfl) ?_; intro b_b8 wn hle hge ht hbn hzn; have hsz := B.size; replace B := B.trans (hbn.mono (by omega)); have hln := Nat.lt_of_lt_of_eq (Nat.lt_succ_self _) hzn.symm; clear hzn; (try have hlt := b2.lt); (try replace b2 := b2.below (hbn.mono hle)); (try have hlt := b3.lt); (try replace b3 := b3.below (hbn.mono hle)); (try have hlt := r4.lt); (try replace r4 := r4.below (hbn.mono hle)); have b8 := ht; clear ht; simp only [putS])
      (refine wpList_storeB (t := 31) rfl _ _ rfl _ rfl _ rfl b8 (by kernel_rfl) rfl (by simp [rcA, pxC4, Value.oneCell']) ?_; clear b8; intro wn ht hcn hzn; have hsz := B.size; replace hzn := Nat.le_of_eq hzn.symm; replace B := Chg.below B hcn (by omega) B.size; (try replace b2 := b2.of_eq (hcn.block _ b2.lt (by omega))); (try replace b3 := b3.of_eq (hcn.block _ b3.lt (by omega))); (try replace r4 := r4.of_eq (hcn.block _ r4.lt (by omega))); have b8 := ht; clear ht; simp only [putS])
      refine wpList_nil ?_
      replace b8 : AtB 31 _ b_b8 (rcA bd) := b8
      go_upto_region 8 with fail
      refine wp_region_lit ?_
      try simp only [gelS]
      refine wpList_chunk 1 (by kernel_rfl) ?_
      simp only [takS, Nat.reduceAdd]
      repeat (first | go_big_quiet_skip | (go_big_quiet_want; first | (refine quiet_loadAny (t := 31) rfl _ _ _ rfl (fun w hw => run_load_B (ov_B b8 w hw) Try.isAgg31 (by kernel_rfl)) (by rfl) ?_; simp only [putS]; go_big_quiet_on) | (go_big_quiet_op; go_big_quiet_on)))
      refine wpQuiet_nil ?_
      refine wpList_callF (by first | rfl | simp [Region.wanted, yielded]) rfl (enters_of Try.func61 (by kernel_rfl) rfl) (by simp only [List.map_toArray, List.map_cons, List.map_nil, Act.eval, Array.getD_eq_getD_getElem?, List.getElem?_toArray, List.getElem?_cons_succ, List.getElem?_cons_zero, Option.getD_some]; rfl) ?_
      refine (P_largeO bd false _ (by omega) HL.out).mono ?_
      rintro e wn ⟨rfl, hbn⟩
      have hsz := B.size
      have hzn := hbn.size
      replace B := B.trans (hbn.mono B.size)
      (try replace b2 := b2.below hbn)
      (try replace b3 := b3.below hbn)
      (try replace r4 := r4.below hbn)
      (try replace b8 := b8.below hbn)
      refine ⟨_, rfl, ?_⟩
      simp only [putS]
      refine wpList_nil ?_
      go_upto_region 10 with fail
      refine wp_region_lit ?_
      try simp only [gelS]
      refine wpList_chunk 1 (by kernel_rfl) ?_
      simp only [takS, Nat.reduceAdd]
      repeat (first | go_big_quiet_skip | (go_big_quiet_want; first | (refine quiet_loadAny (t := 31) rfl _ _ _ rfl (fun w hw => run_load_B (ov_B b8 w hw) Try.isAgg31 (by kernel_rfl)) (by rfl) ?_; simp only [putS]; go_big_quiet_on) | (go_big_quiet_op; go_big_quiet_on)))
      refine wpQuiet_nil ?_
      (refine wpList_val rfl (.func (.func 81) #[] #[.pointer (some ⟨b_b2, 0, none⟩), .pointer (some ⟨b_b3, 0, none⟩)]) (by first | rfl | simp [go_sem, Act.eval]) ?_; simp only [putS])
      refine wpList_callF (by first | rfl | simp [Region.wanted, yielded]) rfl (enters_of Try.func63 (by kernel_rfl) rfl) (by simp only [List.map_toArray, List.map_cons, List.map_nil, Act.eval, Array.getD_eq_getD_getElem?, List.getElem?_toArray, List.getElem?_cons_succ, List.getElem?_cons_zero, Option.getD_some]; rfl) ?_
      refine (P_painted0 _ bd _ HM.out).mono ?_
      rintro e wn ⟨rfl, hbn⟩
      have hsz := B.size
      have hzn := hbn.size
      replace B := B.trans (hbn.mono B.size)
      (try replace b2 := b2.below hbn)
      (try replace b3 := b3.below hbn)
      (try replace r4 := r4.below hbn)
      (try replace b8 := b8.below hbn)
      refine ⟨_, rfl, ?_⟩
      simp only [putS]
      refine wpList_chunk 2 (by kernel_rfl) ?_
      simp only [takS, Nat.reduceAdd]
      repeat (first | go_big_quiet_skip | (go_big_quiet_want; first | (go_big_quiet_op; go_big_quiet_on)))
      refine wpQuiet_nil ?_
      (refine wpList_storeB (t := 36) rfl _ _ rfl _ rfl _ rfl r4 (by kernel_rfl) rfl (by simp [rcA, pxC4, Value.oneCell']) ?_; clear r4; intro wn ht hcn hzn; have hsz := B.size; replace hzn := Nat.le_of_eq hzn.symm; replace B := Chg.below B hcn (by omega) B.size; (try replace b2 := b2.of_eq (hcn.block _ b2.lt (by omega))); (try replace b3 := b3.of_eq (hcn.block _ b3.lt (by omega))); (try replace b8 := b8.of_eq (hcn.block _ b8.lt (by omega))); have r4 := ht; clear ht; simp only [putS])
      refine wpList_chunk 1 (by kernel_rfl) ?_
      simp only [takS, Nat.reduceAdd]
      repeat (first | go_big_quiet_skip | (go_big_quiet_want; first | (go_big_quiet_op; go_big_quiet_on)))
      refine wpQuiet_nil ?_
      refine wpList_nil ?_
      first | (refine bodyPost_ret (results_B2 (t := 36) rfl _ _ (b_r4) rfl _ rfl r4 Try.isAgg36 (by kernel_rfl)) rfl ?_) | (go_step; refine bodyPost_ret (results_B2 (t := 36) rfl _ _ (b_r4) rfl _ rfl r4 Try.isAgg36 (by kernel_rfl)) rfl ?_) | (go_step; go_step; refine bodyPost_ret (results_B2 (t := 36) rfl _ _ (b_r4) rfl _ rfl r4 Try.isAgg36 (by kernel_rfl)) rfl ?_) | (go_step; go_step; go_step; refine bodyPost_ret (results_B2 (t := 36) rfl _ _ (b_r4) rfl _ rfl r4 Try.isAgg36 (by kernel_rfl)) rfl ?_) | (go_step; go_step; go_step; go_step; refine bodyPost_ret (results_B2 (t := 36) rfl _ _ (b_r4) rfl _ rfl r4 Try.isAgg36 (by kernel_rfl)) rfl ?_) | (go_step; go_step; go_step; go_step; go_step; refine bodyPost_ret (results_B2 (t := 36) rfl _ _ (b_r4) rfl _ rfl r4 Try.isAgg36 (by kernel_rfl)) rfl ?_)
      exact ⟨none, 0, rfl, RS.nil _, B⟩
    | false =>
      have hA := hA hm
      have hE : fitsE bd = 0 := by
        obtain ⟨m1, m2⟩ := (emptyR_not bd).1 hm
        unfold largeR at hL
        rw [Bool.or_eq_false_iff, decide_eq_false_iff_not, decide_eq_false_iff_not] at hL
        exact fits_small (by omega) (by omega) (by omega)
      have e1 : insL P p = pstR bd (paintL bd (insF P p)) [] := by unfold insL; rw [hAe, hbd, if_neg (by rw [hm]; simp)]
      have e3 : pstE bd (paintL bd (insF P p)) [] = 0 := (paint_R hE hA _).2
      rw [e1]
      have HE := Lib.hid hE
      have HE3 := Lib.hid e3
      clear hAe h0 hL hA hnr e1 hbd hm hE e3
      go_enter Try.func34, Try.ntmps34
      go_upto_region 0 with fail
      refine wp_region_lit ?_
      try simp only [gelS]
      (refine wpList_boxV (t := 39) rfl _ rfl _ rfl (by rfl) ?_; intro b_b2 wn hle hge ht hbn hzn; have hsz := B.size; replace B := B.trans (hbn.mono (by omega)); have hln := Nat.lt_of_lt_of_eq (Nat.lt_succ_self _) hzn.symm; clear hzn; (try have hlt := b2.lt); (try replace b2 := b2.below (hbn.mono hle)); (try have hlt := b3.lt); (try replace b3 := b3.below (hbn.mono hle)); (try have hlt := r4.lt); (try replace r4 := r4.below (hbn.mono hle)); (try have hlt := b8.lt); (try replace b8 := b8.below (hbn.mono hle)); have b2 := ht; clear ht; simp only [putS])
      (refine wpList_boxB (t := 59) rfl _ rfl _ rfl ?_; intro b_b3 wn hle hge ht hbn hzn; have hsz := B.size; replace B := B.trans (hbn.mono (by omega)); have hln := Nat.lt_of_lt_of_eq (Nat.lt_succ_self _) hzn.symm; clear hzn; (try have hlt := b2.lt); (try replace b2 := b2.below (hbn.mono hle)); (try have hlt := b3.lt); (try replace b3 := b3.below (hbn.mono hle)); (try have hlt := r4.lt); (try replace r4 := r4.below (hbn.mono hle)); (try have hlt := b8.lt); (try replace b8 := b8.below (hbn.mono hle)); have b3 := ht; clear ht; simp only [putS])
      (refine wpList_allocBk (t := 36) rfl _ (run_alloc_R _ _ rfl) ?_; intro b_r4 wn hle hge ht hbn hzn; have hsz := B.size; replace B := B.trans (hbn.mono (by omega)); have hln := Nat.lt_of_lt_of_eq (Nat.lt_succ_self _) hzn.symm; clear hzn; (try have hlt := b2.lt); (try replace b2 := b2.below (hbn.mono hle)); (try have hlt := b3.lt); (try replace b3 := b3.below (hbn.mono hle)); (try have hlt := r4.lt); (try replace r4 := r4.below (hbn.mono hle)); (try have hlt := b8.lt); (try replace b8 := b8.below (hbn.mono hle)); have r4 := ht; clear ht; simp only [putS])
      refine wpList_chunk 1 (by kernel_rfl) ?_
      simp only [takS, Nat.reduceAdd]
      repeat (first | go_big_quiet_skip | (go_big_quiet_want; first | (go_big_quiet_op; go_big_quiet_on)))
      refine wpQuiet_nil ?_
      refine wpList_nil ?_
      have k2 : w.heap.size ≤ b_b2 := by omega
      have k3 : b_b2 < b_b3 := by have := b2.lt; omega
      have k4 : b_b3 < b_r4 := by have := b3.lt; omega
      go_upto_region 1 with fail
      refine wp_region_lit ?_
      try simp only [gelS]
      refine wpList_chunk 1 (by kernel_rfl) ?_
      simp only [takS, Nat.reduceAdd]
      repeat (first | go_big_quiet_skip | (go_big_quiet_want; first | (go_big_quiet_op; go_big_quiet_on)))
      refine wpQuiet_nil ?_
      refine wpList_nil ?_
      go_upto_region 2 with fail
      refine wp_region_lit ?_
      try simp only [gelS]
      refine wpList_chunk 1 (by kernel_rfl) ?_
      simp only [takS, Nat.reduceAdd]
      repeat (first | go_big_quiet_skip | (go_big_quiet_want; first | (refine quiet_loadAny (t := 39) rfl _ _ _ rfl (fun w hw => run_load_pol ((ov_B b2 w hw).cellL 0 rfl)) (by rfl) ?_; simp only [putS]; go_big_quiet_on) | (go_big_quiet_op; go_big_quiet_on)))
      refine wpQuiet_nil ?_
      refine wpList_lenS (by first | rfl | simp [Region.wanted, yielded]) rfl Try.underlying39 rfl ?_
      simp only [putS]
      refine wpList_chunk 4 (by kernel_rfl) ?_
      simp only [takS, Nat.reduceAdd]
      repeat (first | go_big_quiet_skip | (go_big_quiet_want; first | (refine quiet_loadAny (t := 39) rfl _ _ _ rfl (fun w hw => run_load_pol ((ov_B b2 w hw).cellL 0 rfl)) (by rfl) ?_; simp only [putS]; go_big_quiet_on) | (go_big_quiet_op; go_big_quiet_on)))
      refine wpQuiet_nil ?_
      refine wpList_callF (by first | rfl | simp [Region.wanted, yielded]) rfl (enters_of Try.func79 (by kernel_rfl) rfl) (by simp only [List.map_toArray, List.map_cons, List.map_nil, Act.eval, Array.getD_eq_getD_getElem?, List.getElem?_toArray, List.getElem?_cons_succ, List.getElem?_cons_zero, Option.getD_some]; rfl) ?_
      refine (P_ContainsBad _ P _ (HS.out.below B) HF.out).mono ?_
      rintro e wn ⟨rfl, hbn⟩
      have hsz := B.size
      have hzn := hbn.size
      replace B := B.trans (hbn.mono B.size)
      (try replace b2 := b2.below hbn)
      (try replace b3 := b3.below hbn)
      (try replace r4 := r4.below hbn)
      (try replace b8 := b8.below hbn)
      refine ⟨_, rfl, ?_⟩
      simp only [putS]
      refine wpList_chunk 1 (by kernel_rfl) ?_
      simp only [takS, Nat.reduceAdd]
      repeat (first | go_big_quiet_skip | (go_big_quiet_want; first | (go_big_quiet_op; go_big_quiet_on)))
      refine wpQuiet_nil ?_
      refine wpList_nil ?_
      go_upto_region 4 with fail
      refine wp_region_lit ?_
      try simp only [gelS]
      refine wpList_chunk 1 (by kernel_rfl) ?_
      simp only [takS, Nat.reduceAdd]
      repeat (first | go_big_quiet_skip | (go_big_quiet_want; first | (refine quiet_loadAny (t := 39) rfl _ _ _ rfl (fun w hw => run_load_pol ((ov_B b2 w hw).cellL 0 rfl)) (by rfl) ?_; simp only [putS]; go_big_quiet_on) | (go_big_quiet_op; go_big_quiet_on)))
      refine wpQuiet_nil ?_
      refine wpList_callF (by first | rfl | simp [Region.wanted, yielded]) rfl (enters_of Try.func80 (by kernel_rfl) rfl) (by simp only [List.map_toArray, List.map_cons, List.map_nil, Act.eval, Array.getD_eq_getD_getElem?, List.getElem?_toArray, List.getElem?_cons_succ, List.getElem?_cons_zero, Option.getD_some]; rfl) ?_
      refine (HCAT.out _ (HS.out.below B)).mono ?_
      rintro e wn ⟨a7, c7, rfl, rp, hbn⟩
      have hsz := B.size
      have hzn := hbn.size
      replace B := B.trans (hbn.mono B.size)
      (try replace b2 := b2.below hbn)
      (try replace b3 := b3.below hbn)
      (try replace r4 := r4.below hbn)
      (try replace b8 := b8.below hbn)
      refine ⟨_, rfl, ?_⟩
      simp only [putS]
      refine wpList_chunk 1 (by kernel_rfl) ?_
      simp only [takS, Nat.reduceAdd]
      repeat (first | go_big_quiet_skip | (go_big_quiet_want; first | (go_big_quiet_op; go_big_quiet_on)))
      refine wpQuiet_nil ?_
      refine wpList_nil ?_
      go_upto_region 5 with fail
      refine wp_region_lit ?_
      try simp only [gelS]
      refine wpList_chunk 1 (by kernel_rfl) ?_
      simp only [takS, Nat.reduceAdd]
      repeat (first | go_big_quiet_skip | (go_big_quiet_want; first | (go_big_quiet_op; go_big_quiet_on)))
      refine wpQuiet_nil ?_
      refine wpList_lenS (by first | rfl | simp [Region.wanted, yielded]) rfl Try.underlying22 rfl ?_
      simp only [putS]
      refine wpList_chunk 1 (by kernel_rfl) ?_
      simp only [takS, Nat.reduceAdd]
      repeat (first | go_big_quiet_skip | (go_big_quiet_want; first | (go_big_quiet_op; go_big_quiet_on)))
      refine wpQuiet_nil ?_
      refine wpList_nil ?_
      go_upto_region 7 with fail
      refine wp_region_lit ?_
      try simp only [gelS]
      refine wpList_chunk 1 (by kernel_rfl) ?_
      simp only [takS, Nat.reduceAdd]
      repeat (first | go_big_quiet_skip | (go_big_quiet_want; first | (go_big_quiet_op; go_big_quiet_on)))
      refine wpQuiet_nil ?_
      refine wpList_callF (by first | rfl | simp [Region.wanted, yielded]) rfl (enters_of Try.func46 (by kernel_rfl) rfl) (by simp only [List.map_toArray, List.map_cons, List.map_nil, Act.eval, Array.getD_eq_getD_getElem?, List.getElem?_toArray, List.getElem?_cons_succ, List.getElem?_cons_zero, Option.getD_some]; rfl) ?_
      refine (HBD.out _ _ rp).mono ?_
      rintro e wn ⟨rfl, hbn⟩
      have hsz := B.size
      have hzn := hbn.size
      replace B := B.trans (hbn.mono B.size)
      (try replace b2 := b2.below hbn)
      (try replace b3 := b3.below hbn)
      (try replace r4 := r4.below hbn)
      (try replace b8 := b8.below hbn)
      refine ⟨_, rfl, ?_⟩
      simp only [putS]
      (refine wpList_allocBk (t := 31) rfl _ (run_alloc_Rc _ _ rfl) ?_; intro b_b8 wn hle hge ht hbn hzn; have hsz := B.size; replace B := B.trans (hbn.mono (by omega)); have hln := Nat.lt_of_lt_of_eq (Nat.lt_succ_self _) hzn.symm; clear hzn; (try have hlt := b2.lt); (try replace b2 := b2.below (hbn.mono hle)); (try have hlt := b3.lt); (try replace b3 := b3.below (hbn.mono hle)); (try have hlt := r4.lt); (try replace r4 := r4.below (hbn.mono hle)); (try have hlt := b8.lt); (try replace b8 := b8.below (hbn.mono hle)); have b8 := ht; clear ht; simp only [putS])
      (refine wpList_storeB (t := 31) rfl _ _ rfl _ rfl _ rfl b8 (by kernel_rfl) rfl (by simp [rcA, pxC4, Value.oneCell']) ?_; clear b8; intro wn ht hcn hzn; have hsz := B.size; replace hzn := Nat.le_of_eq hzn.symm; replace B := Chg.below B hcn (by omega) B.size; (try replace b2 := b2.of_eq (hcn.block _ b2.lt (by omega))); (try replace b3 := b3.of_eq (hcn.block _ b3.lt (by omega))); (try replace r4 := r4.of_eq (hcn.block _ r4.lt (by omega))); have b8 := ht; clear ht; simp only [putS])
      refine wpList_nil ?_
      replace b8 : AtB 31 _ b_b8 (rcA bd) := b8
      go_upto_region 8 with fail
      refine wp_region_lit ?_
      try simp only [gelS]
      refine wpList_chunk 1 (by kernel_rfl) ?_
      simp only [takS, Nat.reduceAdd]
      repeat (first | go_big_quiet_skip | (go_big_quiet_want; first | (refine quiet_loadAny (t := 31) rfl _ _ _ rfl (fun w hw => run_load_B (ov_B b8 w hw) Try.isAgg31 (by kernel_rfl)) (by rfl) ?_; simp only [putS]; go_big_quiet_on) | (go_big_quiet_op; go_big_quiet_on)))
      refine wpQuiet_nil ?_
      refine wpList_callF (by first | rfl | simp [Region.wanted, yielded]) rfl (enters_of Try.func61 (by kernel_rfl) rfl) (by simp only [List.map_toArray, List.map_cons, List.map_nil, Act.eval, Array.getD_eq_getD_getElem?, List.getElem?_toArray, List.getElem?_cons_succ, List.getElem?_cons_zero, Option.getD_some]; rfl) ?_
      refine (P_largeO bd false _ (by omega) HL.out).mono ?_
      rintro e wn ⟨rfl, hbn⟩
      have hsz := B.size
      have hzn := hbn.size
      replace B := B.trans (hbn.mono B.size)
      (try replace b2 := b2.below hbn)
      (try replace b3 := b3.below hbn)
      (try replace r4 := r4.below hbn)
      (try replace b8 := b8.below hbn)
      refine ⟨_, rfl, ?_⟩
      simp only [putS]
      refine wpList_nil ?_
      go_upto_region 10 with fail
      have HX := Lib.hid (show ∀ W, Below wn.heap.size wn W → ∀ x y, hasR bd x y = true → Calls Try.prog 81 (#[.int .i64 x, .int .i64 y] ++ #[.pointer (some ⟨b_b2, 0, none⟩), .pointer (some ⟨b_b3, 0, none⟩)]) W fun e w' => e = .returned (Px.v (insF P p x y)) ∧ Below W.heap.size W w' from fun W hW x y hxy => by
        have hx := (hasR_iff bd x y).1 hxy
        exact P_inside2 b_b2 b_b3 p _ P x y W (b2.of_eq (hW.block _ b2.lt)) (b3.of_eq (hW.block _ b3.lt)) ((HS.out.below B).below hW) HF.out (by omega) (by omega))
      refine wp_region_lit ?_
      try simp only [gelS]
      refine wpList_chunk 1 (by kernel_rfl) ?_
      simp only [takS, Nat.reduceAdd]
      repeat (first | go_big_quiet_skip | (go_big_quiet_want; first | (refine quiet_loadAny (t := 31) rfl _ _ _ rfl (fun w hw => run_load_B (ov_B b8 w hw) Try.isAgg31 (by kernel_rfl)) (by rfl) ?_; simp only [putS]; go_big_quiet_on) | (go_big_quiet_op; go_big_quiet_on)))
      refine wpQuiet_nil ?_
      (refine wpList_val rfl (.func (.func 81) #[] #[.pointer (some ⟨b_b2, 0, none⟩), .pointer (some ⟨b_b3, 0, none⟩)]) (by first | rfl | simp [go_sem, Act.eval]) ?_; simp only [putS])
      refine wpList_callF (by first | rfl | simp [Region.wanted, yielded]) rfl (enters_of Try.func63 (by kernel_rfl) rfl) (by simp only [List.map_toArray, List.map_cons, List.map_nil, Act.eval, Array.getD_eq_getD_getElem?, List.getElem?_toArray, List.getElem?_cons_succ, List.getElem?_cons_zero, Option.getD_some]; rfl) ?_
      refine (P_painted1 _ _ (enters_of Try.func81 (by kernel_rfl) rfl) bd (insF P p) _ HE.out (insF_ok HP.out P) HX.out).mono ?_
      rintro e wn ⟨a5, c5, rfl, rs5, hbn⟩
      have hsz := B.size
      have hzn := hbn.size
      replace B := B.trans (hbn.mono B.size)
      (try replace b2 := b2.below hbn)
      (try replace b3 := b3.below hbn)
      (try replace r4 := r4.below hbn)
      (try replace b8 := b8.below hbn)
      rw [HE3.out]
      refine ⟨_, rfl, ?_⟩
      simp only [putS]
      refine wpList_chunk 2 (by kernel_rfl) ?_
      simp only [takS, Nat.reduceAdd]
      repeat (first | go_big_quiet_skip | (go_big_quiet_want; first | (go_big_quiet_op; go_big_quiet_on)))
      refine wpQuiet_nil ?_
      (refine wpList_storeB (t := 36) rfl _ _ rfl _ rfl _ rfl r4 (by kernel_rfl) rfl (by simp [rcA, pxC4, Value.oneCell']) ?_; have r4o := r4; clear r4; intro wn ht hcn hzn; (try replace rs5 := rs5.chg r4o (by simp [rcA]) hcn); have hsz := B.size; replace hzn := Nat.le_of_eq hzn.symm; replace B := Chg.below B hcn (by omega) B.size; (try replace b2 := b2.of_eq (hcn.block _ b2.lt (by omega))); (try replace b3 := b3.of_eq (hcn.block _ b3.lt (by omega))); (try replace b8 := b8.of_eq (hcn.block _ b8.lt (by omega))); have r4 := ht; clear ht; simp only [putS])
      refine wpList_chunk 1 (by kernel_rfl) ?_
      simp only [takS, Nat.reduceAdd]
      repeat (first | go_big_quiet_skip | (go_big_quiet_want; first | (go_big_quiet_op; go_big_quiet_on)))
      refine wpQuiet_nil ?_
      refine wpList_nil ?_
      first | (refine bodyPost_ret (results_B2 (t := 36) rfl _ _ (b_r4) rfl _ rfl r4 Try.isAgg36 (by kernel_rfl)) rfl ?_) | (go_step; refine bodyPost_ret (results_B2 (t := 36) rfl _ _ (b_r4) rfl _ rfl r4 Try.isAgg36 (by kernel_rfl)) rfl ?_) | (go_step; go_step; refine bodyPost_ret (results_B2 (t := 36) rfl _ _ (b_r4) rfl _ rfl r4 Try.isAgg36 (by kernel_rfl)) rfl ?_) | (go_step; go_step; go_step; refine bodyPost_ret (results_B2 (t := 36) rfl _ _ (b_r4) rfl _ rfl r4 Try.isAgg36 (by kernel_rfl)) rfl ?_) | (go_step; go_step; go_step; go_step; refine bodyPost_ret (results_B2 (t := 36) rfl _ _ (b_r4) rfl _ rfl r4 Try.isAgg36 (by kernel_rfl)) rfl ?_) | (go_step; go_step; go_step; go_step; go_step; refine bodyPost_ret (results_B2 (t := 36) rfl _ _ (b_r4) rfl _ rfl r4 Try.isAgg36 (by kernel_rfl)) rfl ?_)
      exact ⟨_, _, rfl, rs5, B⟩
end Go.Proofs.Ytamgpfblhlfhaaa
/- Plain: the outline of a mask, filled. -/
namespace Go.Proofs.Ytamgpfblhlfhaaa
open Go.RowKit Pl
set_option linter.unusedVariables false
set_option linter.unusedSimpArgs false
theorem flat_mem {P : List (List Pnt)} {l : List Pnt} (h : l ∈ P) {p : Pnt} (hp : p ∈ l) : p ∈ P.flatten := List.mem_flatten.2 ⟨l, h, hp⟩
/-- A pixel that lies outside of the hull of all polygons: an even number of them. -/
theorem out_even (P : List (List Pnt)) {x y : Int} (h : hasR (hullG P.flatten) x y = false) : inPB P (8 * x + 4) (8 * y + 4) = false := by
  unfold inPB
  have key : ∀ l ∈ P, oddG l (8 * x + 4) (8 * y + 4) = false := fun l hl => by
    by_cases h0 : l = []
    · rw [h0]; rfl
    · have ha := hull_around h0
      have hf : P.flatten ≠ [] := fun e => by
        obtain ⟨p, hp, _⟩ := ha.l1
        have := flat_mem hl hp
        rw [e] at this
        cases this
      have hb := hull_around hf
      obtain ⟨p1, m1, e1⟩ := ha.l1
      obtain ⟨p2, m2, e2⟩ := ha.l2
      obtain ⟨p3, m3, e3⟩ := ha.l3
      obtain ⟨p4, m4, e4⟩ := ha.l4
      have b1 := hb.h1 _ (flat_mem hl m1)
      have b2 := hb.h1 _ (flat_mem hl m2)
      have b3 := hb.h1 _ (flat_mem hl m3)
      have b4 := hb.h1 _ (flat_mem hl m4)
      refine odd_out h0 ?_
      have hh : ¬ ((hullG P.flatten).x0 ≤ x ∧ x < (hullG P.flatten).x1 ∧ (hullG P.flatten).y0 ≤ y ∧ y < (hullG P.flatten).y1) := fun k => by
        rw [(hasR_iff _ _ _).2 k] at h
        cases h
      omega
  have all : ∀ k, k ≤ P.length → parK (fun i => oddG (P.getD i []) (8 * x + 4) (8 * y + 4)) k = false := fun k => by
    induction k with
    | zero => intro _; rfl
    | succ k ih =>
      intro hk
      show Bool.xor (parK _ k) (oddG (P.getD k []) (8 * x + 4) (8 * y + 4)) = false
      have hm : P.getD k [] ∈ P := by
        rw [List.getD_eq_getElem?_getD, List.getElem?_eq_getElem (by omega)]
        exact List.getElem_mem _
      rw [ih (by omega), key _ hm]
      rfl
  exact all _ (Nat.le_refl _)
/-- What Inside makes of the outline of a mask. -/
theorem back_all (M : List TA) (hM : MaskP M) {t : Int} (ht : 1 ≤ t) {p : Px} (hp : p.ok) : FineP (outlG (setG M t) (boundL M)) ∧ ((outlG (setG M t) (boundL M)).flatten ≠ [] → largeR (hullG (outlG (setG M t) (boundL M)).flatten) = false) ∧ (emptyR (hullG (outlG (setG M t) (boundL M)).flatten) = false → tlN (hullG (outlG (setG M t) (boundL M)).flatten) ≤ 1000) ∧
    validL (insL (outlG (setG M t) (boundL M)) p) = true ∧ TokL (insL (outlG (setG M t) (boundL M)) p) ∧ ∀ x y, getL (insL (outlG (setG M t) (boundL M)) p) x y = if t ≤ (getL M x y).a then cleanP p else Px.zero := by
  obtain ⟨b1, b2, b3, b4, b5, b6⟩ := mask_bound hM
  have hbx := setG_box M ht
  have hin := fun x y => setG_has (ls := M) ht (x := x) (y := y)
  have hol := outl_len hbx
  have hoi := outl_in hbx
  have hset := fun x y => outl_set hbx hin b5 b6 x y
  have hbn : boxN (boundL M) ≤ 1292 := by
    unfold boxN
    have := Nat.mul_le_mul (show 4 * (((boundL M).x1 - (boundL M).x0).toNat + 1) ≤ 76 by omega) (show ((boundL M).y1 - (boundL M).y0).toNat + 1 ≤ 17 by omega)
    omega
  have hcn : ((boundL M).y1 - (boundL M).y0).toNat * ((boundL M).x1 - (boundL M).x0).toNat ≤ 16 * 18 := Nat.mul_le_mul (by omega) (by omega)
  generalize outlG (setG M t) (boundL M) = P at *
  have hFine : FineP P := ⟨by omega, fun l hl => by have := hol.2 l hl; omega, fun l hl q hq => farP_no.2 (by have := hoi l hl q hq; omega)⟩
  have hhull : P.flatten ≠ [] → (-4 ≤ (hullG P.flatten).x0 ∧ (hullG P.flatten).x1 ≤ 14) ∧ -4 ≤ (hullG P.flatten).y0 ∧ (hullG P.flatten).y1 ≤ 12 := fun hf => by
    have ha := hull_around hf
    have bd : ∀ q ∈ P.flatten, (-4 ≤ q.1 ∧ q.1 ≤ 14) ∧ -4 ≤ q.2 ∧ q.2 ≤ 12 := fun q hq => by
      obtain ⟨l, hl, hql⟩ := List.mem_flatten.1 hq
      have := hoi l hl q hql
      omega
    obtain ⟨p1, m1, e1⟩ := ha.l1
    obtain ⟨p2, m2, e2⟩ := ha.l2
    obtain ⟨p3, m3, e3⟩ := ha.l3
    obtain ⟨p4, m4, e4⟩ := ha.l4
    have := bd _ m1
    have := bd _ m2
    have := bd _ m3
    have := bd _ m4
    omega
  have hbig : (-4 ≤ (hullG P.flatten).x0 ∧ (hullG P.flatten).x1 ≤ 14) ∧ -4 ≤ (hullG P.flatten).y0 ∧ (hullG P.flatten).y1 ≤ 12 := by
    by_cases hf : P.flatten = []
    · rw [hf]; decide
    · exact hhull hf
  have hE : emptyR (hullG P.flatten) = false → fitsE (hullG P.flatten) = 0 := fun hm => by
    obtain ⟨m1, m2⟩ := (emptyR_not _).1 hm
    exact fits_small (by omega) (by omega) (by omega)
  have hA : emptyR (hullG P.flatten) = false → tlN (hullG P.flatten) ≤ 1000 := fun hm => tlN_small (hE hm) (by omega)
  refine ⟨hFine, fun _ => ?_, hA, ?_, ?_, fun x y => ?_⟩
  · unfold largeR
    rw [Bool.or_eq_false_iff]
    exact ⟨decide_eq_false (by omega), decide_eq_false (by omega)⟩
  · unfold insL
    split
    · exact validL_nil
    · exact pstR_valid _ _ _
  · unfold insL
    split
    · exact TokL.nil
    · exact pstR_tok (paintL_ok (insF_ok hp P)) TokL.nil
  · have hs : (t ≤ (getL M x y).a) ↔ inPB P (8 * x + 4) (8 * y + 4) = true := by
      rw [hset x y]
      unfold setG
      exact decide_eq_true_iff.symm
    have hoff : hasR (hullG P.flatten) x y = false → (if t ≤ (getL M x y).a then cleanP p else Px.zero) = Px.zero := fun hh => by
      rw [if_neg (fun k => by rw [hs, out_even P hh] at k; cases k)]
    unfold insL
    split
    · rename_i hm
      have hh : hasR (hullG P.flatten) x y = false := by
        rw [← Bool.not_eq_true, hasR_iff]
        have := (emptyR_iff _).1 hm
        omega
      rw [hoff hh]
      rfl
    · rename_i hm
      have hm' : emptyR (hullG P.flatten) = false := by simpa using hm
      rw [paint_get (hE hm') (hA hm')]
      cases hh : hasR (hullG P.flatten) x y with
      | false => rw [hoff hh, if_neg (by simp)]
      | true =>
        rw [if_pos rfl]
        unfold insF
        by_cases hk : t ≤ (getL M x y).a
        · rw [if_pos (hs.1 hk), if_pos hk]
        · rw [if_neg (fun k => hk (hs.2 k)), if_neg hk]
          rfl
end Go.Proofs.Ytamgpfblhlfhaaa
namespace Go.Proofs.Ytamgpfblhlfhaaa
open Go.RowKit Go.Shelf Pl
set_option linter.unusedVariables false
set_option linter.unusedSimpArgs false
set_option maxRecDepth 20000
@[go_sem] theorem guard_pxB (op : BinOp) (x y : Operand) (a b : Array Value) (w : World) : (eqGuard op 59 x y (.agg a) (.agg b)).run Try.prog w = .ok () w := run_eqGuard_agg w op 59 x y _ _ (by kernel_rfl)
theorem neqs_pxB (r g b a : Int) (w : World) : (binOp .neq 59 (.agg #[.int .u8 r, .int .u8 g, .int .u8 b, .int .u8 a]) (.agg #[.int .u8 r, .int .u8 g, .int .u8 b, .int .u8 a])).run Try.prog w = .ok (.bool false) w := by
  have := neq_px ⟨r, g, b, a⟩ ⟨r, g, b, a⟩ w
  rw [decide_eq_true rfl] at this
  exact this
theorem R_CleanB (q : Px) (r g b a : Int) (w : World) (hq : q.ok) (e : cleanP q = ⟨r, g, b, a⟩) : Calls Try.prog 35 #[.agg (pxC4 q)] w fun e w' => e = .returned (.agg #[.int .u8 r, .int .u8 g, .int .u8 b, .int .u8 a]) ∧ Below w.heap.size w w' := by
  have := R_Clean q w hq
  rw [e] at this
  exact this
theorem P_OutlineB (M : List TA) (hM : MaskP M) (t : Int) (ht : 1 ≤ t ∧ t ≤ 1000) (P : List (List Pnt)) (e : outlG (setG M t) (boundL M) = P) (v : Value) (w : World) (h : RS v M w) : Calls Try.prog 21 #[.agg #[v], .int .i64 t] w fun e w' => ∃ a c, e = .returned (.slice a P.length c) ∧ RPoly (.slice a P.length c) P w' ∧ Below w.heap.size w w' := by
  have hb := mask_bound hM
  refine (P_Outline1 v M t w h hM.t (by have := hM.len; unfold maxLen; omega) hM.v (by omega) (wf_mk (by omega) (by omega)) (by omega)).mono fun e' w' ⟨v', he, hr, hb⟩ => ?_
  rw [e] at hr
  obtain ⟨a, c, rfl, _⟩ := hr.len
  exact ⟨a, c, he, hr, hb⟩
set_option maxHeartbeats 16000000 in
theorem walk_SelectionBack (v0 : Value) (q : List Int) (th : Int) (p : Px) (hw : (Lit.int .i64 th).wf = true) (hp : p.ok) (w : World) (h0 : RSE inE v0 q w) (hn0 : q.length ≤ 17592186044416) (hwf : WfL q) : Calls Try.prog 9 #[v0, .int .i64 th, Px.v p] w fun e w' => e = .returned (.bool true) ∧ Below w.heap.size w w' := by
  have B := Below.refl w.heap.size w
  obtain ⟨a0, c0, rfl, hc0⟩ := h0.len
  have H0 := Lib.hid h0
  have HMP := maskG_P q
  have HMK := Lib.hid (show ∀ W, RSE inE (.slice a0 q.length c0) q W → Calls Try.prog 19 #[.slice a0 q.length c0] W fun e w' => ∃ a c, e = .returned (.agg #[.slice a (maskG q).length c]) ∧ RS (.slice a (maskG q).length c) (maskG q) w' ∧ Below W.heap.size W w' from fun W h => R_Mask _ q W h hn0 hwf)
  generalize maskG q = M at *
  clear h0 hn0 hwf hw
  obtain ⟨t0, ht0⟩ : ∃ r, th % 255 = r := ⟨_, rfl⟩
  have bt0 : 0 ≤ t0 ∧ t0 ≤ 254 := by omega
  have HT0 := Lib.hid ht0
  clear ht0
  obtain ⟨hF, hL, hA, hV, hT, hG⟩ := back_all M HMP (t := 1 + t0) (by omega) hp
  obtain ⟨P, hP⟩ : ∃ P, outlG (setG M (1 + t0)) (boundL M) = P := ⟨_, rfl⟩
  rw [hP] at hF hL hA hV hT hG
  obtain ⟨F, hFe⟩ : ∃ F, insL P p = F := ⟨_, rfl⟩
  have HOUT := Lib.hid (P_OutlineB M HMP (1 + t0) (by omega) P hP)
  have HINS := Lib.hid (show ∀ v w, RPoly v P w → Calls Try.prog 34 #[v, .agg (pxC4 p)] w fun e w' => ∃ v', e = .returned (.tuple #[.agg #[v'], .int .i64 0]) ∧ RS v' F w' ∧ Below w.heap.size w w' from fun v w h => hFe ▸ (P_Inside v P p w h hF hp hL hA).mono fun e w' ⟨a, c, he, hr, hb⟩ => ⟨_, he, hr, hb⟩)
  rw [hFe] at hV hT hG
  obtain ⟨⟨q1, q2, q3, q4⟩, hq⟩ : ∃ c, cleanP p = c := ⟨_, rfl⟩
  have HCL := Lib.hid (show ∀ W, Calls Try.prog 35 #[.agg (pxC4 p)] W fun e w' => e = .returned (.agg #[.int .u8 q1, .int .u8 q2, .int .u8 q3, .int .u8 q4]) ∧ Below W.heap.size W w' from fun W => R_CleanB p q1 q2 q3 q4 W hp hq)
  rw [hq] at hG
  have HG := Lib.hid hG
  have HV := Lib.hid hV
  have HTK := Lib.hid hT
  have HTM := Lib.hid HMP.t
  have HLM := Lib.hid (show M.length ≤ maxLen ∧ F.length ≤ maxLen from ⟨by have := HMP.len; unfold maxLen; omega, by have := (validL_iff.1 hV).1; unfold maxLen; omega⟩)
  have ne1 := neqs_pxB q1 q2 q3 q4
  have ne2 := neqs_pxB 0 0 0 0
  clear hF hL hA hV hT hG hP hFe hq HMP hp
  have epv : Px.v p = .agg (pxC4 p) := rfl
  rw [epv]
  clear epv
  go_enter Try.func9, Try.ntmps9
  go_upto_region 0 with fail
  refine wp_region_lit ?_
  try simp only [gelS]
  (refine wpList_boxB (t := 59) rfl _ rfl _ rfl ?_; intro b_b5 wn hle hge ht hbn hzn; have hsz := B.size; replace B := B.trans (hbn.mono (by omega)); have hln := Nat.lt_of_lt_of_eq (Nat.lt_succ_self _) hzn.symm; clear hzn; have b5 := ht; clear ht; simp only [putS])
  refine wpList_chunk 1 (by kernel_rfl) ?_
  simp only [takS, Nat.reduceAdd]
  repeat (first | go_big_quiet_skip | (go_big_quiet_want; first | (go_big_quiet_op; go_big_quiet_on)))
  refine wpQuiet_nil ?_
  refine wpList_nil ?_
  go_upto_region 1 with fail
  refine wp_region_lit ?_
  try simp only [gelS]
  refine wpList_callF (by first | rfl | simp [Region.wanted, yielded]) rfl (enters_of Try.func10 (by kernel_rfl) rfl) (by simp only [List.map_toArray, List.map_cons, List.map_nil, Act.eval, Array.getD_eq_getD_getElem?, List.getElem?_toArray, List.getElem?_cons_succ, List.getElem?_cons_zero, Option.getD_some]; rfl) ?_
  refine (sanity15 _).mono ?_
  rintro e wn ⟨rfl, hbn⟩
  have hsz := B.size
  have hzn := hbn.size
  replace B := B.trans (hbn.mono B.size)
  (try replace b5 := b5.below hbn)
  refine ⟨_, rfl, ?_⟩
  simp only [putS]
  refine wpList_chunk 1 (by kernel_rfl) ?_
  simp only [takS, Nat.reduceAdd]
  repeat (first | go_big_quiet_skip | (go_big_quiet_want; first | (go_big_quiet_op; go_big_quiet_on)))
  refine wpQuiet_nil ?_
  refine wpList_nil ?_
  go_upto_region 2 with fail
  refine wp_region_lit ?_
  try simp only [gelS]
  refine wpList_chunk 1 (by kernel_rfl) ?_
  simp only [takS, Nat.reduceAdd]
  repeat (first | go_big_quiet_skip | (go_big_quiet_want; first | (go_big_quiet_op; go_big_quiet_on)))
  refine wpQuiet_nil ?_
  refine wpList_callF (by first | rfl | simp [Region.wanted, yielded]) rfl (enters_of Try.func19 (by kernel_rfl) rfl) (by simp only [List.map_toArray, List.map_cons, List.map_nil, Act.eval, Array.getD_eq_getD_getElem?, List.getElem?_toArray, List.getElem?_cons_succ, List.getElem?_cons_zero, Option.getD_some]; rfl) ?_
  refine (HMK.out _ (H0.out.below B)).mono ?_
  rintro e wn ⟨a1, c1, rfl, rs1, hbn⟩
  have hsz := B.size
  have hzn := hbn.size
  replace B := B.trans (hbn.mono B.size)
  (try replace b5 := b5.below hbn)
  (try replace rs1 := rs1.below hbn)
  refine ⟨_, rfl, ?_⟩
  simp only [putS]
  (refine wpList_allocBk (t := 36) rfl _ (run_alloc_R _ _ rfl) ?_; intro b_r8 wn hle hge ht hbn hzn; have hsz := B.size; replace B := B.trans (hbn.mono (by omega)); have hln := Nat.lt_of_lt_of_eq (Nat.lt_succ_self _) hzn.symm; clear hzn; (try have hlt := b5.lt); (try replace b5 := b5.below (hbn.mono hle)); (try have hlt := rs1.lt); (try replace rs1 := rs1.below (hbn.mono hle)); have r8 := ht; clear ht; simp only [putS])
  (refine wpList_storeB (t := 36) rfl _ _ rfl _ rfl _ rfl r8 (by kernel_rfl) rfl (by simp [rcA, pxC4, Value.oneCell']) ?_; have r8o := r8; clear r8; intro wn ht hcn hzn; (try replace rs1 := rs1.chg r8o (by simp [rcA, pxC4]) hcn); (try replace rs2 := rs2.chg r8o (by simp [rcA, pxC4]) hcn); have hsz := B.size; replace hzn := Nat.le_of_eq hzn.symm; replace B := Chg.below B hcn (by omega) B.size; (try replace b5 := b5.of_eq (hcn.block _ b5.lt (by omega))); (try replace rs1 := rs1.of_eq (hcn.block _ rs1.lt (by omega))); have r8 := ht; clear ht; simp only [putS])
  refine wpList_nil ?_
  go_upto_region 3 with fail
  refine wp_region_lit ?_
  try simp only [gelS]
  refine wpList_chunk 1 (by kernel_rfl) ?_
  simp only [takS, Nat.reduceAdd]
  repeat (first | go_big_quiet_skip | (go_big_quiet_want; first | (go_big_quiet_op; go_big_quiet_on)))
  refine wpQuiet_nil ?_
  refine wpList_callF (by first | rfl | simp [Region.wanted, yielded]) rfl (enters_of Try.func12 (by kernel_rfl) rfl) (by simp only [List.map_toArray, List.map_cons, List.map_nil, Act.eval, Array.getD_eq_getD_getElem?, List.getElem?_toArray, List.getElem?_cons_succ, List.getElem?_cons_zero, Option.getD_some]; rfl) ?_
  refine (L15_restO th 255 t0 (by omega) HT0.out _).mono ?_
  rintro e wn ⟨rfl, hbn⟩
  have hsz := B.size
  have hzn := hbn.size
  replace B := B.trans (hbn.mono B.size)
  (try replace b5 := b5.below hbn)
  (try replace r8 := r8.below hbn)
  (try replace rs1 := rs1.below hbn)
  refine ⟨_, rfl, ?_⟩
  simp only [putS]
  refine wpList_chunk 2 (by kernel_rfl) ?_
  simp only [takS, Nat.reduceAdd]
  repeat (first | go_big_quiet_skip | (go_big_quiet_want; first | (go_big_quiet_op; go_big_quiet_on)))
  refine wpQuiet_nil ?_
  refine wpList_nil ?_
  go_upto_region 4 with fail
  try simp only [gelS]
  try have lx_b5 := b5.lt
  try have lx_r8 := r8.lt
  try have lx_rs1 := rs1.lt
  refine wp_region_RL 9 [(2, polyS P), (4, tupS (F) (0)), (8, ptrS (wn.heap.size) 36 #[.slice none 0 0])] (by kernel_rfl) (by kernel_rfl) (by kernel_rfl) ?_
  rotate_left 0
  simp only [takS, Nat.reduceAdd]
  refine wpRL_chunk 2 (by kernel_rfl) ?_
  simp only [takS, Nat.reduceAdd]
  repeat (first | go_big_quiet_skip | (go_big_quiet_want; first | (refine quiet_loadAny (t := 36) rfl _ _ _ rfl (fun w hw => run_load_B (ov_B r8 w hw) Try.isAgg36 (by kernel_rfl)) (by rfl) ?_; simp only [putS]; go_big_quiet_on) | (refine quiet_loadAny (t := 36) rfl _ _ _ rfl (fun w hw => run_load_B (ov_B r10 w hw) Try.isAgg36 (by kernel_rfl)) (by rfl) ?_; simp only [putS]; go_big_quiet_on) | (go_big_quiet_op; go_big_quiet_on)))
  refine wpQuiet_nil ?_
  refine wpRL_callB (by rfl) (by first | rfl | simp [Region.wanted, yielded]) ?_ ?_
  · intro wn hbn hE Kx hKx
    have hsz := B.size
    have hzn := hbn.size
    replace B := B.trans (hbn.mono B.size)
    (try replace b5 := b5.below hbn)
    (try replace r8 := r8.below hbn)
    (try replace r10 := r10.below hbn)
    (try replace rs1 := rs1.below hbn)
    refine wp_callF rfl (enters_of Try.func21 (by kernel_rfl) rfl) (by simp only [List.map_toArray, List.map_cons, List.map_nil, Act.eval, Array.getD_eq_getD_getElem?, List.getElem?_toArray, List.getElem?_cons_succ, List.getElem?_cons_zero, Option.getD_some]; rfl) ?_
    refine (HOUT.out _ wn rs1).mono ?_
    rintro e wm ⟨a', c', rfl, hr, hbm⟩
    exact ⟨_, rfl, hKx (a', c') wm hr hbm⟩
  rintro ⟨a25, c25⟩
  dsimp only [detS, polyS]
  simp only [putS]
  refine wpRL_chunk 1 (by kernel_rfl) ?_
  simp only [takS, Nat.reduceAdd]
  repeat (first | go_big_quiet_skip | (go_big_quiet_want; first | (refine quiet_loadAny (t := 59) rfl _ _ _ rfl (fun w hw => run_load_B (ov_B b5 w hw) Try.isAgg59 (by kernel_rfl)) (by rfl) ?_; simp only [putS]; go_big_quiet_on) | (refine quiet_loadAny (t := 59) rfl _ _ _ rfl (fun w hw => run_load_B (ov_B p12 w hw) Try.isAgg59 (by kernel_rfl)) (by rfl) ?_; simp only [putS]; go_big_quiet_on) | (refine quiet_loadAny (t := 59) rfl _ _ _ rfl (fun w hw => run_load_B (ov_B p15 w hw) Try.isAgg59 (by kernel_rfl)) (by rfl) ?_; simp only [putS]; go_big_quiet_on) | (go_big_quiet_op; go_big_quiet_on)))
  refine wpQuiet_nil ?_
  refine wpRL_callB (by rfl) (by first | rfl | simp [Region.wanted, yielded]) ?_ ?_
  · intro wn hbn hE Kx hKx
    have hsz := B.size
    have hzn := hbn.size
    replace B := B.trans (hbn.mono B.size)
    (try replace b5 := b5.below hbn)
    (try replace r8 := r8.below hbn)
    (try replace r10 := r10.below hbn)
    (try replace p12 := p12.below hbn)
    (try replace p15 := p15.below hbn)
    (try replace rs1 := rs1.below hbn)
    have po1 := hE 2 (by kernel_rfl)
    change RPoly _ _ _ at po1
    refine wp_callF rfl (enters_of Try.func34 (by kernel_rfl) rfl) (by simp only [List.map_toArray, List.map_cons, List.map_nil, Act.eval, Array.getD_eq_getD_getElem?, List.getElem?_toArray, List.getElem?_cons_succ, List.getElem?_cons_zero, Option.getD_some]; rfl) ?_
    refine (HINS.out _ wn po1).mono ?_
    rintro e wm ⟨v', rfl, hr, hbm⟩
    obtain ⟨a', c', rfl, _⟩ := hr.len
    exact ⟨_, rfl, hKx (a', c') wm hr hbm⟩
  rintro ⟨a27, c27⟩
  dsimp only [detS, tupS]
  simp only [putS]
  refine wpRL_chunk 3 (by kernel_rfl) ?_
  simp only [takS, Nat.reduceAdd]
  repeat (first | go_big_quiet_skip | (go_big_quiet_want; first | (go_big_quiet_op; go_big_quiet_on)))
  refine wpQuiet_nil ?_
  refine wpRL_callB (by rfl) (by first | rfl | simp [Region.wanted, yielded]) ?_ ?_
  · intro wn hbn hE Kx hKx
    have hsz := B.size
    have hzn := hbn.size
    replace B := B.trans (hbn.mono B.size)
    (try replace b5 := b5.below hbn)
    (try replace r8 := r8.below hbn)
    (try replace r10 := r10.below hbn)
    (try replace p12 := p12.below hbn)
    (try replace p15 := p15.below hbn)
    (try replace rs1 := rs1.below hbn)
    refine owp_allocBk (t := 36) _ (run_alloc_R _ _ rfl) ?_
    intro b wm h1 h2 ht hbm hzm
    exact hKx b wm ⟨Nat.le_trans hbn.size h1, ht⟩ (hbm.mono h1)
  rintro b_r10
  dsimp only [detS, ptrS]
  simp only [putS]
  refine wpRL_nil ?_
  intro wn hbn hE
  have hsz := B.size
  have hzn := hbn.size
  replace B := B.trans (hbn.mono B.size)
  (try replace b5 := b5.below hbn)
  (try replace r8 := r8.below hbn)
  (try replace r10 := r10.below hbn)
  (try replace p12 := p12.below hbn)
  (try replace p15 := p15.below hbn)
  (try replace rs1 := rs1.below hbn)
  have po1 := hE 2
  change RPoly _ _ _ at po1
  have rs2 := hE 4
  change RS _ _ _ at rs2
  obtain ⟨hge_r10, r10⟩ : _ ∧ AtB _ _ _ _ := hE 8
  clear hE
  try simp only [List.drop_succ_cons, List.drop_zero]
  obtain ⟨zr10, rfl⟩ : ∃ n : Nat, n = b_r10 := ⟨b_r10, rfl⟩
  go_wp2_with (first | (refine wpList_storeB (t := 36) rfl _ _ rfl _ rfl _ rfl r10 (by kernel_rfl) rfl (by simp [rcA, pxC4, Value.oneCell']) ?_; have r10o := r10; clear r10; intro wn ht hcn hzn; (try replace rs1 := rs1.chg r10o (by simp [rcA, pxC4]) hcn); (try replace rs2 := rs2.chg r10o (by simp [rcA, pxC4]) hcn); have hsz := B.size; replace hzn := Nat.le_of_eq hzn.symm; replace B := Chg.below B hcn (by omega) B.size; (try replace b5 := b5.of_eq (hcn.block _ b5.lt (by omega))); (try replace r8 := r8.of_eq (hcn.block _ r8.lt (by omega))); (try replace p12 := p12.of_eq (hcn.block _ p12.lt (by omega))); (try replace p15 := p15.of_eq (hcn.block _ p15.lt (by omega))); (try replace rs1 := rs1.of_eq (hcn.block _ rs1.lt (by omega))); (try replace rs2 := rs2.of_eq (hcn.block _ rs2.lt (by omega))); have r10 := ht; clear ht; simp only [putS]) | fail)
  refine NoPan.normal ?_
  go_upto_region 5 with fail
  refine wp_region_lit ?_
  try simp only [gelS]
  refine wpList_chunk 1 (by kernel_rfl) ?_
  simp only [takS, Nat.reduceAdd]
  repeat (first | go_big_quiet_skip | (go_big_quiet_want; first | (refine quiet_loadAny (t := 59) rfl _ _ _ rfl (fun w hw => run_load_B (ov_B b5 w hw) Try.isAgg59 (by kernel_rfl)) (by rfl) ?_; simp only [putS]; go_big_quiet_on) | (refine quiet_loadAny (t := 59) rfl _ _ _ rfl (fun w hw => run_load_B (ov_B p12 w hw) Try.isAgg59 (by kernel_rfl)) (by rfl) ?_; simp only [putS]; go_big_quiet_on) | (refine quiet_loadAny (t := 59) rfl _ _ _ rfl (fun w hw => run_load_B (ov_B p15 w hw) Try.isAgg59 (by kernel_rfl)) (by rfl) ?_; simp only [putS]; go_big_quiet_on) | (go_big_quiet_op; go_big_quiet_on)))
  refine wpQuiet_nil ?_
  refine wpList_callF (by first | rfl | simp [Region.wanted, yielded]) rfl (enters_of Try.func35 (by kernel_rfl) rfl) (by simp only [List.map_toArray, List.map_cons, List.map_nil, Act.eval, Array.getD_eq_getD_getElem?, List.getElem?_toArray, List.getElem?_cons_succ, List.getElem?_cons_zero, Option.getD_some]; rfl) ?_
  refine (HCL.out _).mono ?_
  rintro e wn ⟨rfl, hbn⟩
  have hsz := B.size
  have hzn := hbn.size
  replace B := B.trans (hbn.mono B.size)
  (try replace b5 := b5.below hbn)
  (try replace r8 := r8.below hbn)
  (try replace r10 := r10.below hbn)
  (try replace p12 := p12.below hbn)
  (try replace p15 := p15.below hbn)
  (try replace rs1 := rs1.below hbn)
  (try replace rs2 := rs2.below hbn)
  refine ⟨_, rfl, ?_⟩
  simp only [putS]
  (refine wpList_allocBk (t := 59) rfl _ (run_alloc_Pxx _ _ rfl) ?_; intro b_p12 wn hle hge ht hbn hzn; have hsz := B.size; replace B := B.trans (hbn.mono (by omega)); have hln := Nat.lt_of_lt_of_eq (Nat.lt_succ_self _) hzn.symm; clear hzn; (try have hlt := b5.lt); (try replace b5 := b5.below (hbn.mono hle)); (try have hlt := r8.lt); (try replace r8 := r8.below (hbn.mono hle)); (try have hlt := r10.lt); (try replace r10 := r10.below (hbn.mono hle)); (try have hlt := p12.lt); (try replace p12 := p12.below (hbn.mono hle)); (try have hlt := p15.lt); (try replace p15 := p15.below (hbn.mono hle)); (try have hlt := rs1.lt); (try replace rs1 := rs1.below (hbn.mono hle)); (try have hlt := rs2.lt); (try replace rs2 := rs2.below (hbn.mono hle)); have p12 := ht; clear ht; simp only [putS])
  (refine wpList_storeB (t := 59) rfl _ _ rfl _ rfl _ rfl p12 (by kernel_rfl) rfl (by simp [rcA, pxC4, Value.oneCell']) ?_; have p12o := p12; clear p12; intro wn ht hcn hzn; (try replace rs1 := rs1.chg p12o (by simp [rcA, pxC4]) hcn); (try replace rs2 := rs2.chg p12o (by simp [rcA, pxC4]) hcn); have hsz := B.size; replace hzn := Nat.le_of_eq hzn.symm; replace B := Chg.below B hcn (by omega) B.size; (try replace b5 := b5.of_eq (hcn.block _ b5.lt (by omega))); (try replace r8 := r8.of_eq (hcn.block _ r8.lt (by omega))); (try replace r10 := r10.of_eq (hcn.block _ r10.lt (by omega))); (try replace p15 := p15.of_eq (hcn.block _ p15.lt (by omega))); (try replace rs1 := rs1.of_eq (hcn.block _ rs1.lt (by omega))); (try replace rs2 := rs2.of_eq (hcn.block _ rs2.lt (by omega))); have p12 := ht; clear ht; simp only [putS])
  refine wpList_nil ?_
  replace p12 : AtB 59 _ b_p12 #[.int .u8 q1, .int .u8 q2, .int .u8 q3, .int .u8 q4] := p12
  go_upto_region 6 with fail
  refine wp_region_lit ?_
  try simp only [gelS]
  refine wpList_chunk 1 (by kernel_rfl) ?_
  simp only [takS, Nat.reduceAdd]
  repeat (first | go_big_quiet_skip | (go_big_quiet_want; first | (go_big_quiet_op; go_big_quiet_on)))
  refine wpQuiet_nil ?_
  refine wpList_nil ?_
  have k1 := r8.lt
  have k2 := r10.lt
  have k3 := p12.lt
  obtain ⟨b0, hb0⟩ : ∃ n, n = wn.heap.size := ⟨_, rfl⟩
  have k4 : b_r8 < b0 := by omega
  have k5 : zr10 < b0 := by omega
  have k6 : b_p12 < b0 := by omega
  have k7 : b0 ≤ wn.heap.size := by omega
  have k8 : w.heap.size ≤ b0 := by have := B.size; omega
  clear hb0 k1 k2 k3 b5 po1
  go_wp2
  go_loopw [13, 14, 15] (fun yv _ _ wr => ∃ i : Nat, i ≤ 22 ∧ yv = .int .i64 ((i : Int) - 6) ∧ Below w.heap.size w wr ∧ b0 ≤ wr.heap.size ∧ AtB 36 wr b_r8 #[.slice a1 M.length c1] ∧ AtB 36 wr zr10 #[.slice a27 F.length c27] ∧ AtB 59 wr b_p12 #[.int .u8 q1, .int .u8 q2, .int .u8 q3, .int .u8 q4] ∧ RS (.slice a1 M.length c1) M wr ∧ RS (.slice a27 F.length c27) F wr) (fun yv _ _ _ => (16 - intOf yv).toNat)
  case atStart => exact ⟨0, by omega, rfl, B, k7, r8, r10, p12, rs1, rs2⟩
  case round =>
    clear B r8 r10 p12 rs1 rs2 k7
    obtain ⟨i, hi, rfl, B, k7, r8, r10, p12, rs1, rs2⟩ := hrel
    by_cases hi1 : i < 22
    · have d1 : decide ((i : Int) - 6 < 16) = true := decide_eq_true (by omega)
      have wy : (Lit.int .i64 ((i : Int) - 6)).wf = true := wf_mk (by omega) (by omega)
      go_upto_region 7 with fail
      refine wp_region_lit ?_
      try simp only [gelS]
      refine wpList_chunk 2 (by kernel_rfl) ?_
      simp only [takS, Nat.reduceAdd]
      repeat (first | go_big_quiet_skip | (go_big_quiet_want; first | (go_big_quiet_op; go_big_quiet_on)))
      refine wpQuiet_nil ?_
      refine wpList_nil ?_
      go_upto_region 9 with fail
      refine wp_region_lit ?_
      try simp only [gelS]
      refine wpList_chunk 1 (by kernel_rfl) ?_
      simp only [takS, Nat.reduceAdd]
      repeat (first | go_big_quiet_skip | (go_big_quiet_want; first | (go_big_quiet_op; go_big_quiet_on)))
      refine wpQuiet_nil ?_
      refine wpList_nil ?_
      go_wp2
      go_loopw [14, 15] (fun xv _ wr => ∃ j : Nat, j ≤ 24 ∧ xv = .int .i64 ((j : Int) - 6) ∧ Below w.heap.size w wr ∧ b0 ≤ wr.heap.size ∧ AtB 36 wr b_r8 #[.slice a1 M.length c1] ∧ AtB 36 wr zr10 #[.slice a27 F.length c27] ∧ AtB 59 wr b_p12 #[.int .u8 q1, .int .u8 q2, .int .u8 q3, .int .u8 q4] ∧ RS (.slice a1 M.length c1) M wr ∧ RS (.slice a27 F.length c27) F wr) (fun xv _ _ => (18 - intOf xv).toNat)
      case atStart => exact ⟨0, by omega, rfl, B, k7, r8, r10, p12, rs1, rs2⟩
      case round =>
        clear B r8 r10 p12 rs1 rs2 k7
        obtain ⟨j, hj, rfl, B, k7, r8, r10, p12, rs1, rs2⟩ := hrel
        by_cases hj1 : j < 24
        · have d2 : decide ((j : Int) - 6 < 18) = true := decide_eq_true (by omega)
          have wx : (Lit.int .i64 ((j : Int) - 6)).wf = true := wf_mk (by omega) (by omega)
          have hok := getL_okL HTM.out ((j : Int) - 6) ((i : Int) - 6)
          have hgx := HG.out ((j : Int) - 6) ((i : Int) - 6)
          obtain ⟨⟨m1, m2, m3, m4⟩, hm⟩ : ∃ c, getL M ((j : Int) - 6) ((i : Int) - 6) = c := ⟨_, rfl⟩
          rw [hm] at hok hgx
          obtain ⟨_, _, _, o1, o2⟩ := hok
          simp only at o1 o2 hgx
          have HM := Lib.hid hm
          clear hm
          go_upto_region 10 with fail
          refine wp_region_lit ?_
          try simp only [gelS]
          refine wpList_chunk 2 (by kernel_rfl) ?_
          simp only [takS, Nat.reduceAdd]
          repeat (first | go_big_quiet_skip | (go_big_quiet_want; first | (go_big_quiet_op; go_big_quiet_on)))
          refine wpQuiet_nil ?_
          refine wpList_nil ?_
          go_upto_region 12 with fail
          refine wp_region_lit ?_
          try simp only [gelS]
          (refine wpList_allocBk (t := 59) rfl _ (run_alloc_Pxx _ _ rfl) ?_; intro b_p15 wn hle hge ht hbn hzn; have hsz := B.size; replace B := B.trans (hbn.mono (by omega)); have hln := Nat.lt_of_lt_of_eq (Nat.lt_succ_self _) hzn.symm; clear hzn; (try have hlt := b5.lt); (try replace b5 := b5.below (hbn.mono hle)); (try have hlt := r8.lt); (try replace r8 := r8.below (hbn.mono hle)); (try have hlt := r10.lt); (try replace r10 := r10.below (hbn.mono hle)); (try have hlt := p12.lt); (try replace p12 := p12.below (hbn.mono hle)); (try have hlt := p15.lt); (try replace p15 := p15.below (hbn.mono hle)); (try have hlt := rs1.lt); (try replace rs1 := rs1.below (hbn.mono hle)); (try have hlt := rs2.lt); (try replace rs2 := rs2.below (hbn.mono hle)); have p15 := ht; clear ht; simp only [putS])
          refine wpList_nil ?_
          by_cases hs : 1 + t0 ≤ m4
          · have d3 : decide (1 + t0 ≤ m4) = true := decide_eq_true hs
            rw [if_pos hs] at hgx
            have HX := Lib.hid hgx
            clear hgx
            go_upto_region 13 with fail
            refine wp_region_lit ?_
            try simp only [gelS]
            refine wpList_chunk 3 (by kernel_rfl) ?_
            simp only [takS, Nat.reduceAdd]
            repeat (first | go_big_quiet_skip | (go_big_quiet_want; first | (refine quiet_loadAny (t := 36) rfl _ _ _ rfl (fun w hw => run_load_B (ov_B r8 w hw) Try.isAgg36 (by kernel_rfl)) (by rfl) ?_; simp only [putS]; go_big_quiet_on) | (refine quiet_loadAny (t := 36) rfl _ _ _ rfl (fun w hw => run_load_B (ov_B r10 w hw) Try.isAgg36 (by kernel_rfl)) (by rfl) ?_; simp only [putS]; go_big_quiet_on) | (go_big_quiet_op; go_big_quiet_on)))
            refine wpQuiet_nil ?_
            refine wpList_callF (by first | rfl | simp [Region.wanted, yielded]) rfl (enters_of Try.func30 (by kernel_rfl) rfl) (by simp only [List.map_toArray, List.map_cons, List.map_nil, Act.eval, Array.getD_eq_getD_getElem?, List.getElem?_toArray, List.getElem?_cons_succ, List.getElem?_cons_zero, Option.getD_some]; rfl) ?_
            refine (P_GetO _ M ((j : Int) - 6) ((i : Int) - 6) m1 m2 m3 m4 _ rs1 HLM.out.1 wx wy HM.out).mono ?_
            rintro e wn ⟨rfl, hbn⟩
            have hsz := B.size
            have hzn := hbn.size
            replace B := B.trans (hbn.mono B.size)
            (try replace b5 := b5.below hbn)
            (try replace r8 := r8.below hbn)
            (try replace r10 := r10.below hbn)
            (try replace p12 := p12.below hbn)
            (try replace p15 := p15.below hbn)
            (try replace rs1 := rs1.below hbn)
            (try replace rs2 := rs2.below hbn)
            refine ⟨_, rfl, ?_⟩
            simp only [putS]
            refine wpList_chunk 4 (by kernel_rfl) ?_
            simp only [takS, Nat.reduceAdd]
            repeat (first | go_big_quiet_skip | (go_big_quiet_want; first | (go_big_quiet_op; go_big_quiet_on)))
            refine wpQuiet_nil ?_
            refine wpList_nil ?_
            go_upto_region 14 with fail
            refine wp_region_lit ?_
            try simp only [gelS]
            refine wpList_chunk 1 (by kernel_rfl) ?_
            simp only [takS, Nat.reduceAdd]
            repeat (first | go_big_quiet_skip | (go_big_quiet_want; first | (refine quiet_loadAny (t := 59) rfl _ _ _ rfl (fun w hw => run_load_B (ov_B b5 w hw) Try.isAgg59 (by kernel_rfl)) (by rfl) ?_; simp only [putS]; go_big_quiet_on) | (refine quiet_loadAny (t := 59) rfl _ _ _ rfl (fun w hw => run_load_B (ov_B p12 w hw) Try.isAgg59 (by kernel_rfl)) (by rfl) ?_; simp only [putS]; go_big_quiet_on) | (refine quiet_loadAny (t := 59) rfl _ _ _ rfl (fun w hw => run_load_B (ov_B p15 w hw) Try.isAgg59 (by kernel_rfl)) (by rfl) ?_; simp only [putS]; go_big_quiet_on) | (go_big_quiet_op; go_big_quiet_on)))
            refine wpQuiet_nil ?_
            (refine wpList_storeB (t := 59) rfl _ _ rfl _ rfl _ rfl p15 (by kernel_rfl) rfl (by simp [rcA, pxC4, Value.oneCell']) ?_; have p15o := p15; clear p15; intro wn ht hcn hzn; (try replace rs1 := rs1.chg p15o (by simp [rcA, pxC4]) hcn); (try replace rs2 := rs2.chg p15o (by simp [rcA, pxC4]) hcn); have hsz := B.size; replace hzn := Nat.le_of_eq hzn.symm; replace B := Chg.below B hcn (by omega) B.size; (try replace b5 := b5.of_eq (hcn.block _ b5.lt (by omega))); (try replace r8 := r8.of_eq (hcn.block _ r8.lt (by omega))); (try replace r10 := r10.of_eq (hcn.block _ r10.lt (by omega))); (try replace p12 := p12.of_eq (hcn.block _ p12.lt (by omega))); (try replace rs1 := rs1.of_eq (hcn.block _ rs1.lt (by omega))); (try replace rs2 := rs2.of_eq (hcn.block _ rs2.lt (by omega))); have p15 := ht; clear ht; simp only [putS])
            refine wpList_nil ?_
            replace p15 : AtB 59 _ b_p15 #[.int .u8 q1, .int .u8 q2, .int .u8 q3, .int .u8 q4] := p15
            go_upto_region 15 with fail
            try simp only [gelS]
            try have lx_b5 := b5.lt
            try have lx_r8 := r8.lt
            try have lx_r10 := r10.lt
            try have lx_p12 := p12.lt
            try have lx_p15 := p15.lt
            try have lx_rs1 := rs1.lt
            try have lx_rs2 := rs2.lt
            refine wp_region_RL 6 [(3, detS ?v2_3)] (by kernel_rfl) (by kernel_rfl) (by kernel_rfl) ?_
            rotate_left 1
            simp only [takS, Nat.reduceAdd]
            refine wpRL_chunk 3 (by kernel_rfl) ?_
            simp only [takS, Nat.reduceAdd]
            repeat (first | go_big_quiet_skip | (go_big_quiet_want; first | (refine quiet_loadAny (t := 36) rfl _ _ _ rfl (fun w hw => run_load_B (ov_B r8 w hw) Try.isAgg36 (by kernel_rfl)) (by rfl) ?_; simp only [putS]; go_big_quiet_on) | (refine quiet_loadAny (t := 36) rfl _ _ _ rfl (fun w hw => run_load_B (ov_B r10 w hw) Try.isAgg36 (by kernel_rfl)) (by rfl) ?_; simp only [putS]; go_big_quiet_on) | (go_big_quiet_op; go_big_quiet_on)))
            refine wpQuiet_nil ?_
            refine wpRL_callB (by rfl) (by first | rfl | simp [Region.wanted, yielded]) ?_ ?_
            · intro wn hbn hE Kx hKx
              have hsz := B.size
              have hzn := hbn.size
              replace B := B.trans (hbn.mono B.size)
              (try replace b5 := b5.below hbn)
              (try replace r8 := r8.below hbn)
              (try replace r10 := r10.below hbn)
              (try replace p12 := p12.below hbn)
              (try replace p15 := p15.below hbn)
              (try replace rs1 := rs1.below hbn)
              (try replace rs2 := rs2.below hbn)
              refine wp_callF rfl (enters_of Try.func30 (by kernel_rfl) rfl) (by simp only [List.map_toArray, List.map_cons, List.map_nil, Act.eval, Array.getD_eq_getD_getElem?, List.getElem?_toArray, List.getElem?_cons_succ, List.getElem?_cons_zero, Option.getD_some]; rfl) ?_
              refine (P_GetO _ F ((j : Int) - 6) ((i : Int) - 6) q1 q2 q3 q4 wn rs2 HLM.out.2 wx wy HX.out).mono ?_
              rintro e wm ⟨rfl, hbm⟩
              refine ⟨_, rfl, ?_⟩
              have hz := hKx () wm trivial hbm
              dsimp only [detS] at hz
              exact hz
            rintro ⟨⟩
            dsimp only [detS]
            simp only [putS]
            refine wpRL_chunk 2 (by kernel_rfl) ?_
            simp only [takS, Nat.reduceAdd]
            repeat (first | go_big_quiet_skip | (go_big_quiet_want; first | (refine quiet_loadAny (t := 59) rfl _ _ _ rfl (fun w hw => run_load_B (ov_B b5 w hw) Try.isAgg59 (by kernel_rfl)) (by rfl) ?_; simp only [putS]; go_big_quiet_on) | (refine quiet_loadAny (t := 59) rfl _ _ _ rfl (fun w hw => run_load_B (ov_B p12 w hw) Try.isAgg59 (by kernel_rfl)) (by rfl) ?_; simp only [putS]; go_big_quiet_on) | (refine quiet_loadAny (t := 59) rfl _ _ _ rfl (fun w hw => run_load_B (ov_B p15 w hw) Try.isAgg59 (by kernel_rfl)) (by rfl) ?_; simp only [putS]; go_big_quiet_on) | (go_big_quiet_op; go_big_quiet_on)))
            refine wpQuiet_nil ?_
            refine wpRL_nil ?_
            intro wn hbn hE
            have hsz := B.size
            have hzn := hbn.size
            replace B := B.trans (hbn.mono B.size)
            (try replace b5 := b5.below hbn)
            (try replace r8 := r8.below hbn)
            (try replace r10 := r10.below hbn)
            (try replace p12 := p12.below hbn)
            (try replace p15 := p15.below hbn)
            (try replace rs1 := rs1.below hbn)
            (try replace rs2 := rs2.below hbn)
            clear hE
            try simp only [List.drop_succ_cons, List.drop_zero]
            refine NoPan.normal ?_
            go_upto_region 11 with fail
            refine wp_region_lit ?_
            try simp only [gelS]
            refine wpList_chunk 3 (by kernel_rfl) ?_
            simp only [takS, Nat.reduceAdd]
            repeat (first | go_big_quiet_skip | (go_big_quiet_want; first | (go_big_quiet_op; go_big_quiet_on)))
            refine wpQuiet_nil ?_
            refine wpList_nil ?_
            go_wp2
            go_roundw
            case rel => exact ⟨j + 1, by omega, by go_num, B, by omega, r8, r10, p12, rs1, rs2⟩
            case measure => simp [intOf]; omega
          · have d3 : decide (1 + t0 ≤ m4) = false := decide_eq_false hs
            rw [if_neg hs] at hgx
            have HX := Lib.hid (show getL F ((j : Int) - 6) ((i : Int) - 6) = ⟨0, 0, 0, 0⟩ from hgx)
            clear hgx
            go_upto_region 13 with fail
            refine wp_region_lit ?_
            try simp only [gelS]
            refine wpList_chunk 3 (by kernel_rfl) ?_
            simp only [takS, Nat.reduceAdd]
            repeat (first | go_big_quiet_skip | (go_big_quiet_want; first | (refine quiet_loadAny (t := 36) rfl _ _ _ rfl (fun w hw => run_load_B (ov_B r8 w hw) Try.isAgg36 (by kernel_rfl)) (by rfl) ?_; simp only [putS]; go_big_quiet_on) | (refine quiet_loadAny (t := 36) rfl _ _ _ rfl (fun w hw => run_load_B (ov_B r10 w hw) Try.isAgg36 (by kernel_rfl)) (by rfl) ?_; simp only [putS]; go_big_quiet_on) | (go_big_quiet_op; go_big_quiet_on)))
            refine wpQuiet_nil ?_
            refine wpList_callF (by first | rfl | simp [Region.wanted, yielded]) rfl (enters_of Try.func30 (by kernel_rfl) rfl) (by simp only [List.map_toArray, List.map_cons, List.map_nil, Act.eval, Array.getD_eq_getD_getElem?, List.getElem?_toArray, List.getElem?_cons_succ, List.getElem?_cons_zero, Option.getD_some]; rfl) ?_
            refine (P_GetO _ M ((j : Int) - 6) ((i : Int) - 6) m1 m2 m3 m4 _ rs1 HLM.out.1 wx wy HM.out).mono ?_
            rintro e wn ⟨rfl, hbn⟩
            have hsz := B.size
            have hzn := hbn.size
            replace B := B.trans (hbn.mono B.size)
            (try replace b5 := b5.below hbn)
            (try replace r8 := r8.below hbn)
            (try replace r10 := r10.below hbn)
            (try replace p12 := p12.below hbn)
            (try replace p15 := p15.below hbn)
            (try replace rs1 := rs1.below hbn)
            (try replace rs2 := rs2.below hbn)
            refine ⟨_, rfl, ?_⟩
            simp only [putS]
            refine wpList_chunk 4 (by kernel_rfl) ?_
            simp only [takS, Nat.reduceAdd]
            repeat (first | go_big_quiet_skip | (go_big_quiet_want; first | (go_big_quiet_op; go_big_quiet_on)))
            refine wpQuiet_nil ?_
            refine wpList_nil ?_
            go_upto_region 15 with fail
            try simp only [gelS]
            try have lx_b5 := b5.lt
            try have lx_r8 := r8.lt
            try have lx_r10 := r10.lt
            try have lx_p12 := p12.lt
            try have lx_p15 := p15.lt
            try have lx_rs1 := rs1.lt
            try have lx_rs2 := rs2.lt
            refine wp_region_RL 6 [(3, detS ?v3_3)] (by kernel_rfl) (by kernel_rfl) (by kernel_rfl) ?_
            rotate_left 1
            simp only [takS, Nat.reduceAdd]
            refine wpRL_chunk 3 (by kernel_rfl) ?_
            simp only [takS, Nat.reduceAdd]
            repeat (first | go_big_quiet_skip | (go_big_quiet_want; first | (refine quiet_loadAny (t := 36) rfl _ _ _ rfl (fun w hw => run_load_B (ov_B r8 w hw) Try.isAgg36 (by kernel_rfl)) (by rfl) ?_; simp only [putS]; go_big_quiet_on) | (refine quiet_loadAny (t := 36) rfl _ _ _ rfl (fun w hw => run_load_B (ov_B r10 w hw) Try.isAgg36 (by kernel_rfl)) (by rfl) ?_; simp only [putS]; go_big_quiet_on) | (go_big_quiet_op; go_big_quiet_on)))
            refine wpQuiet_nil ?_
            refine wpRL_callB (by rfl) (by first | rfl | simp [Region.wanted, yielded]) ?_ ?_
            · intro wn hbn hE Kx hKx
              have hsz := B.size
              have hzn := hbn.size
              replace B := B.trans (hbn.mono B.size)
              (try replace b5 := b5.below hbn)
              (try replace r8 := r8.below hbn)
              (try replace r10 := r10.below hbn)
              (try replace p12 := p12.below hbn)
              (try replace p15 := p15.below hbn)
              (try replace rs1 := rs1.below hbn)
              (try replace rs2 := rs2.below hbn)
              refine wp_callF rfl (enters_of Try.func30 (by kernel_rfl) rfl) (by simp only [List.map_toArray, List.map_cons, List.map_nil, Act.eval, Array.getD_eq_getD_getElem?, List.getElem?_toArray, List.getElem?_cons_succ, List.getElem?_cons_zero, Option.getD_some]; rfl) ?_
              refine (P_GetO _ F ((j : Int) - 6) ((i : Int) - 6) 0 0 0 0 wn rs2 HLM.out.2 wx wy HX.out).mono ?_
              rintro e wm ⟨rfl, hbm⟩
              refine ⟨_, rfl, ?_⟩
              have hz := hKx () wm trivial hbm
              dsimp only [detS] at hz
              exact hz
            rintro ⟨⟩
            dsimp only [detS]
            simp only [putS]
            refine wpRL_chunk 2 (by kernel_rfl) ?_
            simp only [takS, Nat.reduceAdd]
            repeat (first | go_big_quiet_skip | (go_big_quiet_want; first | (refine quiet_loadAny (t := 59) rfl _ _ _ rfl (fun w hw => run_load_B (ov_B b5 w hw) Try.isAgg59 (by kernel_rfl)) (by rfl) ?_; simp only [putS]; go_big_quiet_on) | (refine quiet_loadAny (t := 59) rfl _ _ _ rfl (fun w hw => run_load_B (ov_B p12 w hw) Try.isAgg59 (by kernel_rfl)) (by rfl) ?_; simp only [putS]; go_big_quiet_on) | (refine quiet_loadAny (t := 59) rfl _ _ _ rfl (fun w hw => run_load_B (ov_B p15 w hw) Try.isAgg59 (by kernel_rfl)) (by rfl) ?_; simp only [putS]; go_big_quiet_on) | (go_big_quiet_op; go_big_quiet_on)))
            refine wpQuiet_nil ?_
            refine wpRL_nil ?_
            intro wn hbn hE
            have hsz := B.size
            have hzn := hbn.size
            replace B := B.trans (hbn.mono B.size)
            (try replace b5 := b5.below hbn)
            (try replace r8 := r8.below hbn)
            (try replace r10 := r10.below hbn)
            (try replace p12 := p12.below hbn)
            (try replace p15 := p15.below hbn)
            (try replace rs1 := rs1.below hbn)
            (try replace rs2 := rs2.below hbn)
            clear hE
            try simp only [List.drop_succ_cons, List.drop_zero]
            refine NoPan.normal ?_
            go_upto_region 11 with fail
            refine wp_region_lit ?_
            try simp only [gelS]
            refine wpList_chunk 3 (by kernel_rfl) ?_
            simp only [takS, Nat.reduceAdd]
            repeat (first | go_big_quiet_skip | (go_big_quiet_want; first | (go_big_quiet_op; go_big_quiet_on)))
            refine wpQuiet_nil ?_
            refine wpList_nil ?_
            go_wp2
            go_roundw
            case rel => exact ⟨j + 1, by omega, by go_num, B, by omega, r8, r10, p12, rs1, rs2⟩
            case measure => simp [intOf]; omega
        · obtain rfl : j = 24 := by omega
          have d2 : decide (((24 : Nat) : Int) - 6 < 18) = false := by decide
          go_upto_region 10 with fail
          refine wp_region_lit ?_
          try simp only [gelS]
          refine wpList_chunk 2 (by kernel_rfl) ?_
          simp only [takS, Nat.reduceAdd]
          repeat (first | go_big_quiet_skip | (go_big_quiet_want; first | (go_big_quiet_op; go_big_quiet_on)))
          refine wpQuiet_nil ?_
          refine wpList_nil ?_
          go_upto_region 8 with fail
          refine wp_region_lit ?_
          try simp only [gelS]
          refine wpList_chunk 3 (by kernel_rfl) ?_
          simp only [takS, Nat.reduceAdd]
          repeat (first | go_big_quiet_skip | (go_big_quiet_want; first | (go_big_quiet_op; go_big_quiet_on)))
          refine wpQuiet_nil ?_
          refine wpList_nil ?_
          go_wp2
          go_roundw
          case rel => exact ⟨i + 1, by omega, by go_num, B, k7, r8, r10, p12, rs1, rs2⟩
          case measure => simp [intOf]; omega
    · obtain rfl : i = 22 := by omega
      have d1 : decide (((22 : Nat) : Int) - 6 < 16) = false := by decide
      go_upto_region 7 with fail
      refine wp_region_lit ?_
      try simp only [gelS]
      refine wpList_chunk 2 (by kernel_rfl) ?_
      simp only [takS, Nat.reduceAdd]
      repeat (first | go_big_quiet_skip | (go_big_quiet_want; first | (go_big_quiet_op; go_big_quiet_on)))
      refine wpQuiet_nil ?_
      refine wpList_nil ?_
      go_upto_region 17 with fail
      refine wp_region_lit ?_
      try simp only [gelS]
      refine wpList_chunk 7 (by kernel_rfl) ?_
      simp only [takS, Nat.reduceAdd]
      repeat (first | go_big_quiet_skip | (go_big_quiet_want; first | (refine quiet_loadAny (t := 36) rfl _ _ _ rfl (fun w hw => run_load_B (ov_B r8 w hw) Try.isAgg36 (by kernel_rfl)) (by rfl) ?_; simp only [putS]; go_big_quiet_on) | (refine quiet_loadAny (t := 36) rfl _ _ _ rfl (fun w hw => run_load_B (ov_B r10 w hw) Try.isAgg36 (by kernel_rfl)) (by rfl) ?_; simp only [putS]; go_big_quiet_on) | (go_big_quiet_op; go_big_quiet_on)))
      refine wpQuiet_nil ?_
      refine wpList_callF (by first | rfl | simp [Region.wanted, yielded]) rfl (enters_of Try.func36 (by kernel_rfl) rfl) (by simp only [List.map_toArray, List.map_cons, List.map_nil, Act.eval, Array.getD_eq_getD_getElem?, List.getElem?_toArray, List.getElem?_cons_succ, List.getElem?_cons_zero, Option.getD_some]; rfl) ?_
      refine (P_ValidB _ F true _ rs2 HTK.out HLM.out.2 HV.out).mono ?_
      rintro e wn ⟨rfl, hbn⟩
      have hsz := B.size
      have hzn := hbn.size
      replace B := B.trans (hbn.mono B.size)
      (try replace b5 := b5.below hbn)
      (try replace r8 := r8.below hbn)
      (try replace r10 := r10.below hbn)
      (try replace p12 := p12.below hbn)
      (try replace p15 := p15.below hbn)
      (try replace rs1 := rs1.below hbn)
      (try replace rs2 := rs2.below hbn)
      refine ⟨_, rfl, ?_⟩
      simp only [putS]
      refine wpList_chunk 2 (by kernel_rfl) ?_
      simp only [takS, Nat.reduceAdd]
      repeat (first | go_big_quiet_skip | (go_big_quiet_want; first | (go_big_quiet_op; go_big_quiet_on)))
      refine wpQuiet_nil ?_
      refine wpList_nil ?_
      go_wp2
      go_ret
      exact ⟨rfl, B⟩
namespace selectionBack
open Go.ChangeShapes Go.WideShapes Go.ChangeAt Go.RowKit
open Go.ChangeMaps (open_string shut_string)
set_option maxRecDepth 100000 in
theorem lifted (os : Os) (started : os.Started) (H : Type) (enc : TypeId × Value → H) :
    ReturnsInHanded {} Try.checked os 9 .any (Rows.selectionBackSpec.pre6 enc Try.prog Try.f9 Rows.selectionBackRow.domain false) (Rows.selectionBackSpec.post enc Try.prog Try.f9 false true false false) := by
  refine returnsInHanded_of_change_sized (C := Try.checked) own started (by kernel_rfl) Try.func9
    (ChangeSpec.witness6 (enc := enc) (C := Try.checked) false ⟨#[], #[.slice none 0 0, .int .i64 0, .agg #[.int .u8 0, .int .u8 0, .int .u8 0, .int .u8 0]], []⟩ 8 (by kernel_rfl) (by kernel_rfl) (by kernel_rfl) (by kernel_rfl)) ?_
  intro W base args ds gs before hval0 hW hcnd hsz0 _
  have hval : ∀ (j : Nat) t v, Try.f9.params[j]? = some t → args[j]? = some v → Value.okWide Try.prog W .any base t v := hval0
  have hW' := hW
  obtain ⟨p, q, hA0, hV, rfl, hfz, hnd⟩ := hW
  have hA : DataW.TrodAll enc Try.prog W 0 (fun _ => true) true Try.f9.params.toList args.toList ds p := hA0
  rw [Try.params9] at hA hval hsz0
  obtain ⟨v0, vs0, d0, ds0, p0, q0, hargs, rfl, rfl, h0, r0⟩ := trodAll_cons hA
  obtain ⟨v1, vs1, d1, ds1, p1, q1, rfl, rfl, rfl, h1, r1⟩ := trodAll_cons r0
  obtain ⟨v2, vs2, d2, ds2, p2, q2, rfl, rfl, rfl, h2, r2⟩ := trodAll_cons r1
  obtain ⟨rfl, rfl, rfl⟩ := trodAll_nil r2
  obtain rfl : args = #[v0, v1, v2] := by cases args; simp_all
  obtain ⟨rfl, rfl⟩ := trodVars_none hV
  have hwt0 : ∀ n ∈ DataW.weights Try.prog 23 d0, n ≤ reachBytes := fun n hn => by simpa using List.all_eq_true.1 hsz0 n (DataW.weights_mem_each (j := 0) rfl rfl n hn)
  have k0 := h0
  have lt0 : ∀ x ∈ p0, x.block < W.heap.size := by obtain ⟨m, hm⟩ := k0; exact DataW.trod_lt m _ _ _ hm
  have k1 := h1
  have lt1 : ∀ x ∈ p1, x.block < W.heap.size := by obtain ⟨m, hm⟩ := k1; exact DataW.trod_lt m _ _ _ hm
  have k2 := h2
  have lt2 : ∀ x ∈ p2, x.block < W.heap.size := by obtain ⟨m, hm⟩ := k2; exact DataW.trod_lt m _ _ _ hm
  obtain ⟨L0, hL0, hLn0, hLw0⟩ := open_intsW (hval 0 23 v0 rfl rfl) h0 hwt0
  obtain ⟨a1, rfl, rfl, rfl, w1⟩ := open_int Try.underlying3 (hval 1 3 v1 rfl rfl) h1
  obtain ⟨a2, rfl, w2⟩ := open_px (hval 2 59 v2 rfl rfl) h2
  clear hA0 hval0
  refine (walk_SelectionBack v0 L0 a1 a2  w1 w2 W hL0 hLn0 hLw0).mono fun e W' ⟨he, bel⟩ => ?_
  subst he
  exact ⟨_, rfl, _, _, _, [], _, [], hW', trodAll_mk1 (shut_bool Try.underlying4 _), (trodAll_cons_mk (Below.trod laidOut (by kernel_rfl) (of_decide_eq_true (by kernel_rfl)) k0 bel lt0) (trodAll_cons_mk (Below.trod laidOut (by kernel_rfl) (of_decide_eq_true (by kernel_rfl)) k1 bel lt1) (trodAll_cons_mk (Below.trod laidOut (by kernel_rfl) (of_decide_eq_true (by kernel_rfl)) k2 bel lt2) trodAll_mk0))), rfl, bel.frame _, fun h => by cases h⟩
theorem over : Rows.selectionBackRow.holds Try.pinned (OpenSpec.ofChange Rows.selectionBackSpec) :=
  OpenClaim.holds_of_wide 9 Try.f9 rfl rfl rfl rfl rfl rfl rfl ⟨rfl, rfl, rfl, rfl, rfl⟩ rfl rfl rfl rfl rfl (by kernel_rfl) Try.func9 (by kernel_rfl)
    (of_decide_eq_true (by kernel_rfl)) (by unfold Func.isWrapper; first | (rw [if_pos (by decide +kernel)]; kernel_rfl) | (rw [if_neg (by decide +kernel)]; exact ⟨rfl, rfl⟩))
    (fun os started H enc _ => lifted os started H enc)
/-- THE STATEMENT: SelectionBack returns true for every input, and its arguments read as they did. -/
theorem proved : Rows.SelectionBackSaid := over
end selectionBack
end Go.Proofs.Ytamgpfblhlfhaaa
