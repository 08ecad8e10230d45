/- SelectionComplements: for all masks and rectangles, inverting twice gives the mask cropped to the rectangle, and a mask and its inverse add up to 255 at every pixel of the rectangle; the law returns true for every input, and its arguments read as they did. No condition. -/
import Derived.Test.YtamgpfblhlfhaaaSm5

/- Contract of painted: a rectangle's pixels by a function value. -/
namespace Go.Proofs.Ytamgpfblhlfhaaa
open Go.RowKit Go.Shelf Pl
set_option linter.unusedVariables false
set_option linter.unusedSimpArgs false
set_option maxRecDepth 20000
def bsP1 (n : Nat) (t : TypeId) (cs : Array Value) : NSpec := ⟨Nat, ⟨0⟩, fun b => .slice (some ⟨b, 0, none⟩) 1 1, fun b w => n ≤ b ∧ AtB t w b cs, fun _ _ _ hb h => ⟨h.1, h.2.of_eq (hb.block _ h.2.lt)⟩⟩
def paintK (c : Rc) (F : Int → Int → Px) (k : Nat) : List Px := (List.range k).map fun j => F (pxX c j) (pxY c j)
theorem paintK_len (c : Rc) (F : Int → Int → Px) (k : Nat) : (paintK c F k).length = k := by unfold paintK; rw [List.length_map, List.length_range]
theorem paintK_snoc (c : Rc) (F : Int → Int → Px) (k : Nat) : paintK c F (k + 1) = paintK c F k ++ [F (pxX c k) (pxY c k)] := by
  unfold paintK
  rw [List.range_succ, List.map_append]
  rfl
theorem paintK_all (c : Rc) (F : Int → Int → Px) : paintK c F (areaN c) = paintL c F := rfl
/-- One more pixel, told by its row and its column. -/
theorem paintK_at {c : Rc} (hf : Fits c) (F : Int → Int → Px) {i j : Nat} (hj : (j : Int) < c.x1 - c.x0) (hi : (i : Int) < c.y1 - c.y0) : i * widN c + j < areaN c ∧ paintK c F (i * widN c + (j + 1)) = paintK c F (i * widN c + j) ++ [F (c.x0 + j) (c.y0 + i)] := by
  obtain ⟨k, e, hk, ex, ey⟩ := px_xy hf hj hi
  have hw : c.x1 - c.x0 = (widN c : Int) := by unfold widN; have := hf.h1; omega
  have ek : k = i * widN c + j := by
    rw [hw] at e
    omega
  subst ek
  refine ⟨hk, ?_⟩
  rw [← Nat.add_assoc, paintK_snoc, ex, ey]
set_option maxHeartbeats 8000000 in
theorem P_painted1 (g : FuncId) (lb : Array Value) (eg : Go.Proofs.Enters Try.prog g) (c : Rc) (F : Int → Int → Px) (w : World) (hE : fitsE c = 0) (hF : ∀ x y, (F x y).ok) (hf : ∀ W, Below w.heap.size w W → ∀ x y, hasR c x y = true → Calls Try.prog g (#[.int .i64 x, .int .i64 y] ++ lb) W fun e w' => e = .returned (Px.v (F x y)) ∧ Below W.heap.size W w') : Calls Try.prog 63 #[.agg (rcA c), .func (.func g) #[] lb] w fun e w' => ∃ a cp, e = .returned (.tuple #[.agg #[.slice a (pstR c (paintL c F) []).length cp], .int .i64 (pstE c (paintL c F) [])]) ∧ RS (.slice a (pstR c (paintL c F) []).length cp) (pstR c (paintL c F) []) w' ∧ Below w.heap.size w w' := by
  have B := Below.refl w.heap.size w
  have HE := Lib.hid hE
  have HF := Lib.hid hF
  have HC := Lib.hid hf
  have hfit := fitsE_zero hE
  obtain ⟨f1, f2, f3, f4, f5, f6, f7, f8⟩ := hfit
  have HFit := Lib.hid (fitsE_zero hE)
  have hem : emptyR c = false := by rw [← Bool.not_eq_true, emptyR_iff]; omega
  have HA := Lib.hid (area_bd (fitsE_zero hE))
  have HAW := Lib.hid (area_wid (fitsE_zero hE)).1
  have hwid : (widN c : Int) = c.x1 - c.x0 := by unfold widN; omega
  clear hE hF hf
  obtain ⟨Wd, hWd⟩ : ∃ W, widN c = W := ⟨_, rfl⟩
  rw [hWd] at hwid
  have HWD := Lib.hid hWd
  clear hWd
  go_enter Try.func63, Try.ntmps63
  go_upto_region 0 with fail
  refine wp_region_lit ?_
  try simp only [gelS]
  (refine wpList_boxB (t := 31) rfl _ rfl _ rfl ?_; intro b_c2 wn hle hge ht hbn hzn; have hsz := B.size; replace B := B.trans (hbn.mono (by omega)); have hln := Nat.lt_of_lt_of_eq (Nat.lt_succ_self _) hzn.symm; clear hzn; have c2 := ht; clear ht; simp only [putS])
  (refine wpList_allocBk (t := 36) rfl _ (run_alloc_R _ _ rfl) ?_; intro b_r4 wn hle hge ht hbn hzn; have hsz := B.size; replace B := B.trans (hbn.mono (by omega)); have hln := Nat.lt_of_lt_of_eq (Nat.lt_succ_self _) hzn.symm; clear hzn; (try have hlt := c2.lt); (try replace c2 := c2.below (hbn.mono hle)); have r4 := ht; clear ht; simp only [putS])
  refine wpList_chunk 1 (by kernel_rfl) ?_
  simp only [takS, Nat.reduceAdd]
  repeat (first | go_big_quiet_skip | (go_big_quiet_want; first | (go_big_quiet_op; go_big_quiet_on)))
  refine wpQuiet_nil ?_
  refine wpList_nil ?_
  have k1 : w.heap.size ≤ b_c2 := by omega
  have k2 : b_c2 < b_r4 := by have := c2.lt; omega
  go_upto_region 1 with fail
  refine wp_region_lit ?_
  try simp only [gelS]
  refine wpList_chunk 1 (by kernel_rfl) ?_
  simp only [takS, Nat.reduceAdd]
  repeat (first | go_big_quiet_skip | (go_big_quiet_want; first | (refine quiet_loadAny (t := 31) rfl _ _ _ rfl (fun w hw => run_load_B (ov_B c2 w hw) Try.isAgg31 (by kernel_rfl)) (by rfl) ?_; simp only [putS]; go_big_quiet_on) | (go_big_quiet_op; go_big_quiet_on)))
  refine wpQuiet_nil ?_
  refine wpList_callF (by first | rfl | simp [Region.wanted, yielded]) rfl (enters_of Try.func101 (by kernel_rfl) rfl) (by simp only [List.map_toArray, List.map_cons, List.map_nil, Act.eval, Array.getD_eq_getD_getElem?, List.getElem?_toArray, List.getElem?_cons_succ, List.getElem?_cons_zero, Option.getD_some]; rfl) ?_
  refine (P_EmptyB c false _ hem).mono ?_
  rintro e wn ⟨rfl, hbn⟩
  have hsz := B.size
  have hzn := hbn.size
  replace B := B.trans (hbn.mono B.size)
  (try replace c2 := c2.below hbn)
  (try replace r4 := r4.below hbn)
  refine ⟨_, rfl, ?_⟩
  simp only [putS]
  refine wpList_nil ?_
  go_upto_region 3 with fail
  refine wp_region_lit ?_
  try simp only [gelS]
  refine wpList_chunk 2 (by kernel_rfl) ?_
  simp only [takS, Nat.reduceAdd]
  repeat (first | go_big_quiet_skip | (go_big_quiet_want; first | (refine quiet_loadAny (t := 31) rfl _ _ _ rfl (fun w hw => run_load_B (ov_B c2 w hw) Try.isAgg31 (by kernel_rfl)) (by rfl) ?_; simp only [putS]; go_big_quiet_on) | (refine quiet_buildIm rfl c rfl ?_; simp only [putS]; go_big_quiet_on) | (go_big_quiet_op; go_big_quiet_on)))
  refine wpQuiet_nil ?_
  (refine wpList_allocBk (t := 134) rfl _ (run_alloc_Im _ _ rfl) ?_; intro b_i6 wn hle hge ht hbn hzn; have hsz := B.size; replace B := B.trans (hbn.mono (by omega)); have hln := Nat.lt_of_lt_of_eq (Nat.lt_succ_self _) hzn.symm; clear hzn; (try have hlt := c2.lt); (try replace c2 := c2.below (hbn.mono hle)); (try have hlt := r4.lt); (try replace r4 := r4.below (hbn.mono hle)); have i6 := ht; clear ht; simp only [putS])
  (refine wpList_storeB (t := 134) rfl _ _ rfl _ rfl _ rfl i6 (by kernel_rfl) rfl (by simp [rcA, imgC, Value.oneCell']) ?_; clear i6; intro wn ht hcn hzn; have hsz := B.size; replace hzn := Nat.le_of_eq hzn.symm; replace B := Chg.below B hcn (by omega) B.size; (try replace c2 := c2.of_eq (hcn.block _ c2.lt (by omega))); (try replace r4 := r4.of_eq (hcn.block _ r4.lt (by omega))); have i6 := ht; clear ht; simp only [putS])
  refine wpList_nil ?_
  replace i6 : AtB 134 _ b_i6 (imgC c (.slice none 0 0)) := i6
  have k3 : b_r4 < b_i6 := by have := r4.lt; omega
  have k4 := i6.lt
  obtain ⟨b0, hb0⟩ : ∃ n, n = wn.heap.size := ⟨_, rfl⟩
  have k5 : b_i6 < b0 := by omega
  have k6 : b0 ≤ wn.heap.size := by omega
  have od : OwnE pxE b0 (.slice none 0 0) [] wn := OwnE.nil b0 wn
  clear hb0 k4
  go_upto_region 4 with fail
  refine wp_region_lit ?_
  try simp only [gelS]
  refine wpList_chunk 3 (by kernel_rfl) ?_
  simp only [takS, Nat.reduceAdd]
  repeat (first | go_big_quiet_skip | (go_big_quiet_want; first | (refine quiet_loadAny (t := 3) rfl _ _ _ rfl (fun w hw => run_load_int ((ov_B c2 w hw).cellL 0 rfl)) (by rfl) ?_; simp only [putS]; go_big_quiet_on) | (refine quiet_loadAny (t := 3) rfl _ _ _ rfl (fun w hw => run_load_int ((ov_B c2 w hw).cellL 1 rfl)) (by rfl) ?_; simp only [putS]; go_big_quiet_on) | (refine quiet_loadAny (t := 3) rfl _ _ _ rfl (fun w hw => run_load_int ((ov_B c2 w hw).cellL 2 rfl)) (by rfl) ?_; simp only [putS]; go_big_quiet_on) | (refine quiet_loadAny (t := 3) rfl _ _ _ rfl (fun w hw => run_load_int ((ov_B c2 w hw).cellL 3 rfl)) (by rfl) ?_; simp only [putS]; go_big_quiet_on) | (go_big_quiet_op; go_big_quiet_on)))
  refine wpQuiet_nil ?_
  refine wpList_nil ?_
  go_wp2
  go_loopw [7, 8] (fun yv _ wr => ∃ (i cp : Nat) (ad : Option Addr) (P : List Px), (i : Int) ≤ c.y1 - c.y0 ∧ yv = .int .i64 (c.y0 + (i : Int)) ∧ Hid (paintK c F (i * Wd) = P) ∧ Below w.heap.size w wr ∧ b0 ≤ wr.heap.size ∧ AtB 31 wr b_c2 (rcA c) ∧ AtB 36 wr b_r4 #[.slice none 0 0] ∧ AtB 134 wr b_i6 (imgC c (.slice ad P.length cp)) ∧ OwnE pxE b0 (.slice ad P.length cp) P wr) (fun yv _ _ => (c.y1 - intOf yv).toNat)
  case atStart => exact ⟨0, 0, none, [], by omega, by rw [Int.natCast_zero, Int.add_zero], Lib.hid (by rw [Nat.zero_mul]; rfl), B, k6, c2, r4, i6, od⟩
  case round =>
    clear B c2 r4 i6 od k6
    obtain ⟨i, cp, ad, P, hi, rfl, HP, B, k6, c2, r4, i6, od⟩ := hrel
    by_cases hi1 : (i : Int) < c.y1 - c.y0
    · have q1 : decide (c.y0 + (i : Int) < c.y1) = true := decide_eq_true (by omega)
      go_upto_region 5 with fail
      refine wp_region_lit ?_
      try simp only [gelS]
      refine wpList_chunk 4 (by kernel_rfl) ?_
      simp only [takS, Nat.reduceAdd]
      repeat (first | go_big_quiet_skip | (go_big_quiet_want; first | (refine quiet_loadAny (t := 3) rfl _ _ _ rfl (fun w hw => run_load_int ((ov_B c2 w hw).cellL 0 rfl)) (by rfl) ?_; simp only [putS]; go_big_quiet_on) | (refine quiet_loadAny (t := 3) rfl _ _ _ rfl (fun w hw => run_load_int ((ov_B c2 w hw).cellL 1 rfl)) (by rfl) ?_; simp only [putS]; go_big_quiet_on) | (refine quiet_loadAny (t := 3) rfl _ _ _ rfl (fun w hw => run_load_int ((ov_B c2 w hw).cellL 2 rfl)) (by rfl) ?_; simp only [putS]; go_big_quiet_on) | (refine quiet_loadAny (t := 3) rfl _ _ _ rfl (fun w hw => run_load_int ((ov_B c2 w hw).cellL 3 rfl)) (by rfl) ?_; simp only [putS]; go_big_quiet_on) | (go_big_quiet_op; go_big_quiet_on)))
      refine wpQuiet_nil ?_
      refine wpList_nil ?_
      go_upto_region 7 with fail
      refine wp_region_lit ?_
      try simp only [gelS]
      refine wpList_chunk 3 (by kernel_rfl) ?_
      simp only [takS, Nat.reduceAdd]
      repeat (first | go_big_quiet_skip | (go_big_quiet_want; first | (refine quiet_loadAny (t := 3) rfl _ _ _ rfl (fun w hw => run_load_int ((ov_B c2 w hw).cellL 0 rfl)) (by rfl) ?_; simp only [putS]; go_big_quiet_on) | (refine quiet_loadAny (t := 3) rfl _ _ _ rfl (fun w hw => run_load_int ((ov_B c2 w hw).cellL 1 rfl)) (by rfl) ?_; simp only [putS]; go_big_quiet_on) | (refine quiet_loadAny (t := 3) rfl _ _ _ rfl (fun w hw => run_load_int ((ov_B c2 w hw).cellL 2 rfl)) (by rfl) ?_; simp only [putS]; go_big_quiet_on) | (refine quiet_loadAny (t := 3) rfl _ _ _ rfl (fun w hw => run_load_int ((ov_B c2 w hw).cellL 3 rfl)) (by rfl) ?_; simp only [putS]; go_big_quiet_on) | (go_big_quiet_op; go_big_quiet_on)))
      refine wpQuiet_nil ?_
      refine wpList_nil ?_
      go_wp2
      go_loopw [8] (fun xv wr => ∃ (j cp : Nat) (ad : Option Addr) (P : List Px), (j : Int) ≤ c.x1 - c.x0 ∧ xv = .int .i64 (c.x0 + (j : Int)) ∧ Hid (paintK c F (i * Wd + j) = P) ∧ Below w.heap.size w wr ∧ b0 ≤ wr.heap.size ∧ AtB 31 wr b_c2 (rcA c) ∧ AtB 36 wr b_r4 #[.slice none 0 0] ∧ AtB 134 wr b_i6 (imgC c (.slice ad P.length cp)) ∧ OwnE pxE b0 (.slice ad P.length cp) P wr) (fun xv _ => (c.x1 - intOf xv).toNat)
      case atStart => exact ⟨0, cp, ad, P, by omega, by rw [Int.natCast_zero, Int.add_zero], Lib.hid HP.out, B, k6, c2, r4, i6, od⟩
      case round =>
        clear B c2 r4 i6 od k6
        obtain ⟨j, cp2, ad2, P2, hj, rfl, HP2, B, k6, c2, r4, i6, od⟩ := hrel
        by_cases hj1 : (j : Int) < c.x1 - c.x0
        · have q2 : decide (c.x0 + (j : Int) < c.x1) = true := decide_eq_true (by omega)
          have hat := paintK_at HFit.out F (i := i) (j := j) hj1 hi1
          rw [HWD.out, HP2.out] at hat
          have hlen : P2.length < 65536 := by rw [← HP2.out, paintK_len]; have := HA.out; omega
          have HST := Lib.hid hat.2
          clear hat
          have HX := Lib.hid (fun W hW => HC.out W hW (c.x0 + (j : Int)) (c.y0 + (i : Int)) ((hasR_iff _ _ _).2 (by omega)))
          have okp := HF.out (c.x0 + (j : Int)) (c.y0 + (i : Int))
          generalize F (c.x0 + (j : Int)) (c.y0 + (i : Int)) = pp at *
          go_upto_region 8 with fail
          refine wp_region_lit ?_
          try simp only [gelS]
          refine wpList_chunk 4 (by kernel_rfl) ?_
          simp only [takS, Nat.reduceAdd]
          repeat (first | go_big_quiet_skip | (go_big_quiet_want; first | (refine quiet_loadAny (t := 3) rfl _ _ _ rfl (fun w hw => run_load_int ((ov_B c2 w hw).cellL 0 rfl)) (by rfl) ?_; simp only [putS]; go_big_quiet_on) | (refine quiet_loadAny (t := 3) rfl _ _ _ rfl (fun w hw => run_load_int ((ov_B c2 w hw).cellL 1 rfl)) (by rfl) ?_; simp only [putS]; go_big_quiet_on) | (refine quiet_loadAny (t := 3) rfl _ _ _ rfl (fun w hw => run_load_int ((ov_B c2 w hw).cellL 2 rfl)) (by rfl) ?_; simp only [putS]; go_big_quiet_on) | (refine quiet_loadAny (t := 3) rfl _ _ _ rfl (fun w hw => run_load_int ((ov_B c2 w hw).cellL 3 rfl)) (by rfl) ?_; simp only [putS]; go_big_quiet_on) | (go_big_quiet_op; go_big_quiet_on)))
          refine wpQuiet_nil ?_
          refine wpList_nil ?_
          go_upto_region 10 with fail
          try simp only [gelS]
          try have lx_c2 := c2.lt
          try have lx_r4 := r4.lt
          try have lx_i6 := i6.lt
          try have lx_od := od.lt
          refine wp_region_RL 7 [(5, detS ?v1_5), (6, bsP1 (wr.heap.size) 59 (pxE.enc pp))] (by kernel_rfl) (by kernel_rfl) (by kernel_rfl) ?_
          rotate_left 1
          simp only [takS, Nat.reduceAdd]
          refine wpRL_chunk 5 (by kernel_rfl) ?_
          simp only [takS, Nat.reduceAdd]
          repeat (first | go_big_quiet_skip | (go_big_quiet_want; first | (refine quiet_loadAny (t := 132) rfl _ _ _ rfl (fun w hw => run_load_slp (imgC_u (ov_B i6 w hw))) (by first | rfl | omega) ?_; simp only [putS]; go_big_quiet_on) | (go_big_quiet_op; go_big_quiet_on)))
          refine wpQuiet_nil ?_
          refine wpRL_callB (by rfl) (by first | rfl | simp [Region.wanted, yielded]) ?_ ?_
          · intro wn hbn hE Kx hKx
            have hsz := B.size
            have hzn := hbn.size
            replace B := B.trans (hbn.mono B.size)
            (try replace c2 := c2.below hbn)
            (try replace r4 := r4.below hbn)
            (try replace i6 := i6.below hbn)
            (try replace od := od.below hbn)
            refine wp_callV rfl (by simp only [List.map_toArray, List.map_cons, List.map_nil, Act.eval, Array.getD_eq_getD_getElem?, List.getElem?_toArray, List.getElem?_cons_succ, List.getElem?_cons_zero, Option.getD_some]; rfl) eg (by simp only [List.map_toArray, List.map_cons, List.map_nil, Act.eval, Array.getD_eq_getD_getElem?, List.getElem?_toArray, List.getElem?_cons_succ, List.getElem?_cons_zero, Option.getD_some]; rfl) ?_
            refine (HX.out wn B).mono ?_
            rintro e wm ⟨rfl, hbm⟩
            refine ⟨_, rfl, ?_⟩
            have hz := hKx () wm trivial hbm
            dsimp only [detS] at hz
            exact hz
          rintro ⟨⟩
          dsimp only [detS]
          simp only [putS]
          refine wpRL_callB (by rfl) (by first | rfl | simp [Region.wanted, yielded]) ?_ ?_
          · intro wn hbn hE Kx hKx
            have hsz := B.size
            have hzn := hbn.size
            replace B := B.trans (hbn.mono B.size)
            (try replace c2 := c2.below hbn)
            (try replace r4 := r4.below hbn)
            (try replace i6 := i6.below hbn)
            (try replace od := od.below hbn)
            refine owp_bs1E (E := pxE) _ rfl pp rfl (by omega) ?_
            intro b wm h1 h2 ht hbm hzm
            exact hKx b wm ⟨Nat.le_trans hbn.size h1, ht⟩ (hbm.mono h1)
          rintro b_s36
          dsimp only [detS, bsP1]
          simp only [putS]
          refine wpRL_nil ?_
          intro wn hbn hE
          have hsz := B.size
          have hzn := hbn.size
          replace B := B.trans (hbn.mono B.size)
          (try replace c2 := c2.below hbn)
          (try replace r4 := r4.below hbn)
          (try replace i6 := i6.below hbn)
          (try replace od := od.below hbn)
          obtain ⟨hge_s36, s36⟩ : _ ∧ AtB _ _ _ _ := hE 6
          clear hE
          try simp only [List.drop_succ_cons, List.drop_zero]
          go_wp2_with (first | (refine wpList_storeU rfl _ _ rfl _ rfl _ _ _ rfl i6 ?_; clear i6; intro wn ht hcn hzn; have hsz := B.size; replace hzn := Nat.le_of_eq hzn.symm; replace B := Chg.below B hcn (by omega) B.size; (try replace c2 := c2.of_eq (hcn.block _ c2.lt (by omega))); (try replace r4 := r4.of_eq (hcn.block _ r4.lt (by omega))); replace od := od.chg hcn (by omega); have i6 := ht; clear ht; simp only [putS]) | (at_builtin; refine wpList_appendE rfl _ _ rfl _ _ rfl rfl od ((RSE.one s36)) (by simp only [List.length_append, List.length_cons, List.length_nil]; omega) (by omega) ?_; intro v_od wn ht hbn; have hsz := B.size; have hbz := hbn.size; replace B := B.trans (hbn.mono (by omega)); clear od; (try replace c2 := c2.of_eq (hbn.block _ (by omega))); (try replace r4 := r4.of_eq (hbn.block _ (by omega))); (try replace i6 := i6.of_eq (hbn.block _ (by omega))); have od := ht; clear ht; obtain ⟨a_od, c_od, hv, hco⟩ := od.len; (try simp only [List.length_append, List.length_cons, List.length_nil, Nat.zero_add] at hv hco); subst hv; simp only [putS]) | fail)
          refine NoPan.normal ?_
          go_upto_region 9 with fail
          refine wp_region_lit ?_
          try simp only [gelS]
          refine wpList_chunk 3 (by kernel_rfl) ?_
          simp only [takS, Nat.reduceAdd]
          repeat (first | go_big_quiet_skip | (go_big_quiet_want; first | (go_big_quiet_op; go_big_quiet_on)))
          refine wpQuiet_nil ?_
          refine wpList_nil ?_
          go_wp2
          go_roundw
          case rel => exact ⟨j + 1, _, _, P2 ++ [pp], by omega, by go_num, HST, B, by omega, c2, r4, by rw [List.length_append]; exact i6, by rw [List.length_append]; exact od⟩
          case measure => simp [intOf]; omega
        · have q2 : decide (c.x0 + (j : Int) < c.x1) = false := decide_eq_false (by omega)
          have hjW : j = Wd := by omega
          have HN := Lib.hid (show paintK c F ((i + 1) * Wd) = P2 from by rw [Nat.add_mul, Nat.one_mul]; rw [hjW] at HP2; exact HP2.out)
          clear hjW
          go_upto_region 8 with fail
          refine wp_region_lit ?_
          try simp only [gelS]
          refine wpList_chunk 4 (by kernel_rfl) ?_
          simp only [takS, Nat.reduceAdd]
          repeat (first | go_big_quiet_skip | (go_big_quiet_want; first | (refine quiet_loadAny (t := 3) rfl _ _ _ rfl (fun w hw => run_load_int ((ov_B c2 w hw).cellL 0 rfl)) (by rfl) ?_; simp only [putS]; go_big_quiet_on) | (refine quiet_loadAny (t := 3) rfl _ _ _ rfl (fun w hw => run_load_int ((ov_B c2 w hw).cellL 1 rfl)) (by rfl) ?_; simp only [putS]; go_big_quiet_on) | (refine quiet_loadAny (t := 3) rfl _ _ _ rfl (fun w hw => run_load_int ((ov_B c2 w hw).cellL 2 rfl)) (by rfl) ?_; simp only [putS]; go_big_quiet_on) | (refine quiet_loadAny (t := 3) rfl _ _ _ rfl (fun w hw => run_load_int ((ov_B c2 w hw).cellL 3 rfl)) (by rfl) ?_; simp only [putS]; go_big_quiet_on) | (go_big_quiet_op; go_big_quiet_on)))
          refine wpQuiet_nil ?_
          refine wpList_nil ?_
          go_upto_region 6 with fail
          refine wp_region_lit ?_
          try simp only [gelS]
          refine wpList_chunk 3 (by kernel_rfl) ?_
          simp only [takS, Nat.reduceAdd]
          repeat (first | go_big_quiet_skip | (go_big_quiet_want; first | (go_big_quiet_op; go_big_quiet_on)))
          refine wpQuiet_nil ?_
          refine wpList_nil ?_
          go_wp2
          go_roundw
          case rel => exact ⟨i + 1, _, _, P2, by omega, by go_num, HN, B, k6, c2, r4, i6, od⟩
          case measure => simp [intOf]; omega
    · have q1 : decide (c.y0 + (i : Int) < c.y1) = false := decide_eq_false (by omega)
      have hiH : i = (c.y1 - c.y0).toNat := by omega
      have HL := Lib.hid (show paintL c F = P from by
        rw [← paintK_all, HAW.out, Nat.mul_comm, HWD.out, ← hiH]; exact HP.out)
      have hlen : P.length ≤ maxLen := by rw [← HL.out, paintL_len]; have := HA.out; unfold maxLen; omega
      have okP : OkL P := by rw [← HL.out]; exact paintL_ok HF.out
      clear hiH
      go_upto_region 5 with fail
      refine wp_region_lit ?_
      try simp only [gelS]
      refine wpList_chunk 4 (by kernel_rfl) ?_
      simp only [takS, Nat.reduceAdd]
      repeat (first | go_big_quiet_skip | (go_big_quiet_want; first | (refine quiet_loadAny (t := 3) rfl _ _ _ rfl (fun w hw => run_load_int ((ov_B c2 w hw).cellL 0 rfl)) (by rfl) ?_; simp only [putS]; go_big_quiet_on) | (refine quiet_loadAny (t := 3) rfl _ _ _ rfl (fun w hw => run_load_int ((ov_B c2 w hw).cellL 1 rfl)) (by rfl) ?_; simp only [putS]; go_big_quiet_on) | (refine quiet_loadAny (t := 3) rfl _ _ _ rfl (fun w hw => run_load_int ((ov_B c2 w hw).cellL 2 rfl)) (by rfl) ?_; simp only [putS]; go_big_quiet_on) | (refine quiet_loadAny (t := 3) rfl _ _ _ rfl (fun w hw => run_load_int ((ov_B c2 w hw).cellL 3 rfl)) (by rfl) ?_; simp only [putS]; go_big_quiet_on) | (go_big_quiet_op; go_big_quiet_on)))
      refine wpQuiet_nil ?_
      refine wpList_nil ?_
      go_upto_region 11 with fail
      refine wp_region_lit ?_
      try simp only [gelS]
      refine wpList_chunk 2 (by kernel_rfl) ?_
      simp only [takS, Nat.reduceAdd]
      repeat (first | go_big_quiet_skip | (go_big_quiet_want; first | (refine quiet_loadAny (t := 134) rfl _ _ _ rfl (fun w hw => run_load_img (ov_B i6 w hw)) (by first | rfl | omega) ?_; simp only [putS]; go_big_quiet_on) | (go_big_quiet_op; go_big_quiet_on)))
      refine wpQuiet_nil ?_
      refine wpList_callF (by first | rfl | simp [Region.wanted, yielded]) rfl (enters_of Try.func103 (by kernel_rfl) rfl) (by simp only [List.map_toArray, List.map_cons, List.map_nil, Act.eval, Array.getD_eq_getD_getElem?, List.getElem?_toArray, List.getElem?_cons_succ, List.getElem?_cons_zero, Option.getD_some]; rfl) ?_
      refine (P_PasteA _ [] c _ P _ (RS.nil _) TokL.nil (by unfold maxLen; simp) od.rs hlen okP).mono ?_
      rintro e wn ⟨a5, c5, rfl, rs5, hbn⟩
      have hsz := B.size
      have hzn := hbn.size
      replace B := B.trans (hbn.mono B.size)
      (try replace c2 := c2.below hbn)
      (try replace r4 := r4.below hbn)
      (try replace i6 := i6.below hbn)
      refine ⟨_, rfl, ?_⟩
      simp only [putS]
      refine wpList_chunk 2 (by kernel_rfl) ?_
      simp only [takS, Nat.reduceAdd]
      repeat (first | go_big_quiet_skip | (go_big_quiet_want; first | (go_big_quiet_op; go_big_quiet_on)))
      refine wpQuiet_nil ?_
      (refine wpList_storeB (t := 36) rfl _ _ rfl _ rfl _ rfl r4 (by kernel_rfl) rfl (by simp [rcA, imgC, Value.oneCell']) ?_; have r4o := r4; clear r4; intro wn ht hcn hzn; replace rs5 := rs5.chg r4o (by simp [rcA]) hcn; have hsz := B.size; replace hzn := Nat.le_of_eq hzn.symm; replace B := Chg.below B hcn (by omega) B.size; (try replace c2 := c2.of_eq (hcn.block _ c2.lt (by omega))); (try replace i6 := i6.of_eq (hcn.block _ i6.lt (by omega))); have r4 := ht; clear ht; simp only [putS])
      refine wpList_chunk 1 (by kernel_rfl) ?_
      simp only [takS, Nat.reduceAdd]
      repeat (first | go_big_quiet_skip | (go_big_quiet_want; first | (go_big_quiet_op; go_big_quiet_on)))
      refine wpQuiet_nil ?_
      refine wpList_nil ?_
      first | (refine bodyPost_ret (results_B2 (t := 36) rfl _ _ (b_r4) rfl _ rfl r4 Try.isAgg36 (by kernel_rfl)) rfl ?_) | (go_step; refine bodyPost_ret (results_B2 (t := 36) rfl _ _ (b_r4) rfl _ rfl r4 Try.isAgg36 (by kernel_rfl)) rfl ?_) | (go_step; go_step; refine bodyPost_ret (results_B2 (t := 36) rfl _ _ (b_r4) rfl _ rfl r4 Try.isAgg36 (by kernel_rfl)) rfl ?_) | (go_step; go_step; go_step; refine bodyPost_ret (results_B2 (t := 36) rfl _ _ (b_r4) rfl _ rfl r4 Try.isAgg36 (by kernel_rfl)) rfl ?_) | (go_step; go_step; go_step; go_step; refine bodyPost_ret (results_B2 (t := 36) rfl _ _ (b_r4) rfl _ rfl r4 Try.isAgg36 (by kernel_rfl)) rfl ?_) | (go_step; go_step; go_step; go_step; go_step; refine bodyPost_ret (results_B2 (t := 36) rfl _ _ (b_r4) rfl _ rfl r4 Try.isAgg36 (by kernel_rfl)) rfl ?_)
      rw [HL.out]
      exact ⟨_, _, rfl, rs5, B⟩
/- Fill, Inverse of package selection: their closures, of, large; the reference's Small. -/
theorem run_alloc_Pxx (w : World) (o : Oper) (ho : o.op = .alloc 59) (ev : Operand → Value) : (execOp ev o).run Try.prog w = .ok (.value (.pointer (some ⟨w.heap.size, 0, none⟩))) (w.alloc (.cells #[.int .u8 0, .int .u8 0, .int .u8 0, .int .u8 0] 59)) := by
  obtain ⟨d, p, t, ps, af, gd⟩ := o
  simp only at ho
  subst ho
  kernel_rfl
def pxC4 (p : Px) : Array Value := #[.int .u8 p.r, .int .u8 p.g, .int .u8 p.b, .int .u8 p.a]
set_option maxHeartbeats 2000000 in
theorem P_inv1 (k2 : Nat) (v : Value) (ls : List TA) (x y : Int) (w : World) (b2 : AtB 36 w k2 #[v]) (rs : RS v ls w) (tk : TokL ls) (hn : ls.length ≤ maxLen) (hx : (Lit.int .i64 x).wf = true) (hy : (Lit.int .i64 y).wf = true) : Calls Try.prog 64 #[.int .i64 x, .int .i64 y, .pointer (some ⟨k2, 0, none⟩)] w fun e w' => e = .returned (.agg (pxC4 (invF ls x y))) ∧ Below w.heap.size w w' := by
  have B := Below.refl w.heap.size w
  have hok := getL_okL tk x y
  obtain ⟨⟨pr, pg, pb, pa⟩, hp⟩ : ∃ p, getL ls x y = p := ⟨_, rfl⟩
  have he : invF ls x y = ⟨0, 0, 0, 255 - pa⟩ := by unfold invF; rw [hp]
  rw [hp] at hok
  obtain ⟨_, _, _, h1, h2⟩ := hok
  simp only at h1 h2
  rw [he]
  have HP := Lib.hid hp
  clear hp he
  obtain ⟨a, c, rfl, hc⟩ := rs.len
  have hw8 : (255 - pa) % 256 = 255 - pa := by omega
  go_enter Try.func64, Try.ntmps64
  go_upto_region 0 with fail
  refine wp_region_lit ?_
  try simp only [gelS]
  (refine wpList_allocBk (t := 59) rfl _ (run_alloc_Pxx _ _ rfl) ?_; intro b_r5 wn hle hge ht hbn hzn; have hsz := B.size; replace B := B.trans (hbn.mono (by omega)); have hln := Nat.lt_of_lt_of_eq (Nat.lt_succ_self _) hzn.symm; clear hzn; (try have hlt := b2.lt); (try replace b2 := b2.below (hbn.mono hle)); (try have hlt := rs.lt); (try replace rs := rs.below (hbn.mono hle)); have r5 := ht; clear ht; simp only [putS])
  refine wpList_nil ?_
  go_upto_region 1 with fail
  refine wp_region_lit ?_
  try simp only [gelS]
  refine wpList_chunk 3 (by kernel_rfl) ?_
  simp only [takS, Nat.reduceAdd]
  repeat (first | go_big_quiet_skip | (go_big_quiet_want; first | (refine quiet_loadAny (t := 36) rfl _ _ _ rfl (fun w hw => run_load_B (ov_B b2 w hw) Try.isAgg36 (by kernel_rfl)) (by rfl) ?_; simp only [putS]; go_big_quiet_on) | (go_big_quiet_op; go_big_quiet_on)))
  refine wpQuiet_nil ?_
  refine wpList_callF (by first | rfl | simp [Region.wanted, yielded]) rfl (enters_of Try.func30 (by kernel_rfl) rfl) (by simp only [List.map_toArray, List.map_cons, List.map_nil, Act.eval, Array.getD_eq_getD_getElem?, List.getElem?_toArray, List.getElem?_cons_succ, List.getElem?_cons_zero, Option.getD_some]; rfl) ?_
  refine (P_GetO _ ls x y pr pg pb pa _ rs hn hx hy HP.out).mono ?_
  rintro e wn ⟨rfl, hbn⟩
  have hsz := B.size
  have hzn := hbn.size
  replace B := B.trans (hbn.mono B.size)
  (try replace b2 := b2.below hbn)
  (try replace r5 := r5.below hbn)
  (try replace rs := rs.below hbn)
  refine ⟨_, rfl, ?_⟩
  simp only [putS]
  refine wpList_chunk 3 (by kernel_rfl) ?_
  simp only [takS, Nat.reduceAdd]
  repeat (first | go_big_quiet_skip | (go_big_quiet_want; first | (go_big_quiet_op; go_big_quiet_on)))
  refine wpQuiet_nil ?_
  (refine wpList_storeB (t := 59) rfl _ _ rfl _ rfl _ rfl r5 (by kernel_rfl) rfl (by simp [rcA, pxC4, Value.oneCell']) ?_; clear r5; intro wn ht hcn hzn; have hsz := B.size; replace hzn := Nat.le_of_eq hzn.symm; replace B := Chg.below B hcn (by omega) B.size; (try replace b2 := b2.of_eq (hcn.block _ b2.lt (by omega))); have r5 := ht; clear ht; simp only [putS])
  refine wpList_nil ?_
  go_wp2
  refine bodyPost_ret (results_B (t := 59) rfl _ _ (b_r5) rfl r5 Try.isAgg59 (by kernel_rfl)) rfl ?_
  exact ⟨rfl, B⟩
def largeR (c : Rc) : Bool := decide (256 < c.x1 - c.x0) || decide (256 < c.y1 - c.y0)
set_option maxHeartbeats 2000000 in
theorem P_large (c : Rc) (w : World) (h : -100000 ≤ c.x0 ∧ c.x0 ≤ 100000 ∧ -100000 ≤ c.y0 ∧ c.y0 ≤ 100000 ∧ -100000 ≤ c.x1 ∧ c.x1 ≤ 100000 ∧ -100000 ≤ c.y1 ∧ c.y1 ≤ 100000) : Calls Try.prog 61 #[.agg (rcA c)] w fun e w' => e = .returned (.bool (largeR c)) ∧ Below w.heap.size w w' := by
  have B := Below.refl w.heap.size w
  obtain ⟨c0, c1, c2, c3⟩ := c
  simp only at h
  obtain ⟨h1, h2, h3, h4, h5, h6, h7, h8⟩ := h
  unfold largeR
  dsimp only
  by_cases g1 : 256 < c2 - c0
  · have q1 : decide (256 < c2 - c0) = true := decide_eq_true g1
    rw [q1]
    go_enter Try.func61, Try.ntmps61
    go_upto_region 0 with fail
    refine wp_region_lit ?_
    try simp only [gelS]
    (refine wpList_boxB (t := 31) rfl _ rfl _ rfl ?_; intro b_r1 wn hle hge ht hbn hzn; have hsz := B.size; replace B := B.trans (hbn.mono (by omega)); have hln := Nat.lt_of_lt_of_eq (Nat.lt_succ_self _) hzn.symm; clear hzn; have r1 := ht; clear ht; simp only [putS])
    refine wpList_chunk 1 (by kernel_rfl) ?_
    simp only [takS, Nat.reduceAdd]
    repeat (first | go_big_quiet_skip | (go_big_quiet_want; first | (go_big_quiet_op; go_big_quiet_on)))
    refine wpQuiet_nil ?_
    refine wpList_nil ?_
    go_upto_region 1 with fail
    refine wp_region_lit ?_
    try simp only [gelS]
    refine wpList_chunk 15 (by kernel_rfl) ?_
    simp only [takS, Nat.reduceAdd]
    repeat (first | go_big_quiet_skip | (go_big_quiet_want; first | (refine quiet_loadAny (t := 3) rfl _ _ _ rfl (fun w hw => run_load_int ((ov_B r1 w hw).cellL 0 rfl)) (by rfl) ?_; simp only [putS]; go_big_quiet_on) | (refine quiet_loadAny (t := 3) rfl _ _ _ rfl (fun w hw => run_load_int ((ov_B r1 w hw).cellL 1 rfl)) (by rfl) ?_; simp only [putS]; go_big_quiet_on) | (refine quiet_loadAny (t := 3) rfl _ _ _ rfl (fun w hw => run_load_int ((ov_B r1 w hw).cellL 2 rfl)) (by rfl) ?_; simp only [putS]; go_big_quiet_on) | (refine quiet_loadAny (t := 3) rfl _ _ _ rfl (fun w hw => run_load_int ((ov_B r1 w hw).cellL 3 rfl)) (by rfl) ?_; simp only [putS]; go_big_quiet_on) | (go_big_quiet_op; go_big_quiet_on)))
    refine wpQuiet_nil ?_
    refine wpList_nil ?_
    go_wp2
    go_ret
    exact ⟨rfl, B⟩
  · have q1 : decide (256 < c2 - c0) = false := decide_eq_false g1
    rw [q1]
    go_enter Try.func61, Try.ntmps61
    go_upto_region 0 with fail
    refine wp_region_lit ?_
    try simp only [gelS]
    (refine wpList_boxB (t := 31) rfl _ rfl _ rfl ?_; intro b_r1 wn hle hge ht hbn hzn; have hsz := B.size; replace B := B.trans (hbn.mono (by omega)); have hln := Nat.lt_of_lt_of_eq (Nat.lt_succ_self _) hzn.symm; clear hzn; (try have hlt := r1.lt); (try replace r1 := r1.below (hbn.mono hle)); have r1 := ht; clear ht; simp only [putS])
    refine wpList_chunk 1 (by kernel_rfl) ?_
    simp only [takS, Nat.reduceAdd]
    repeat (first | go_big_quiet_skip | (go_big_quiet_want; first | (go_big_quiet_op; go_big_quiet_on)))
    refine wpQuiet_nil ?_
    refine wpList_nil ?_
    go_upto_region 1 with fail
    refine wp_region_lit ?_
    try simp only [gelS]
    refine wpList_chunk 15 (by kernel_rfl) ?_
    simp only [takS, Nat.reduceAdd]
    repeat (first | go_big_quiet_skip | (go_big_quiet_want; first | (refine quiet_loadAny (t := 3) rfl _ _ _ rfl (fun w hw => run_load_int ((ov_B r1 w hw).cellL 0 rfl)) (by rfl) ?_; simp only [putS]; go_big_quiet_on) | (refine quiet_loadAny (t := 3) rfl _ _ _ rfl (fun w hw => run_load_int ((ov_B r1 w hw).cellL 1 rfl)) (by rfl) ?_; simp only [putS]; go_big_quiet_on) | (refine quiet_loadAny (t := 3) rfl _ _ _ rfl (fun w hw => run_load_int ((ov_B r1 w hw).cellL 2 rfl)) (by rfl) ?_; simp only [putS]; go_big_quiet_on) | (refine quiet_loadAny (t := 3) rfl _ _ _ rfl (fun w hw => run_load_int ((ov_B r1 w hw).cellL 3 rfl)) (by rfl) ?_; simp only [putS]; go_big_quiet_on) | (go_big_quiet_op; go_big_quiet_on)))
    refine wpQuiet_nil ?_
    refine wpList_nil ?_
    go_wp2
    go_ret
    exact ⟨by first | rfl | simp, B⟩
theorem P_largeO (c : Rc) (b : Bool) (w : World) (h : -100000 ≤ c.x0 ∧ c.x0 ≤ 100000 ∧ -100000 ≤ c.y0 ∧ c.y0 ≤ 100000 ∧ -100000 ≤ c.x1 ∧ c.x1 ≤ 100000 ∧ -100000 ≤ c.y1 ∧ c.y1 ≤ 100000) (e : largeR c = b) : Calls Try.prog 61 #[.agg (rcA c)] w fun e w' => e = .returned (.bool b) ∧ Below w.heap.size w w' := e ▸ P_large c w h
set_option maxHeartbeats 2000000 in
theorem P_of (v : Value) (ls : List TA) (w : World) (rs : RS v ls w) (tk : TokL ls) (hn : ls.length ≤ maxLen) (hv : validL ls = true) : Calls Try.prog 62 #[.agg #[v]] w fun e w' => e = .returned (.agg #[v]) ∧ Below w.heap.size w w' := by
  have B := Below.refl w.heap.size w
  obtain ⟨a, c, rfl, hc⟩ := rs.len
  go_enter Try.func62, Try.ntmps62
  go_upto_region 0 with fail
  refine wp_region_lit ?_
  try simp only [gelS]
  (refine wpList_boxB (t := 36) rfl _ rfl _ rfl ?_; intro b_b1 wn hle hge ht hbn hzn; have hsz := B.size; replace B := B.trans (hbn.mono (by omega)); have hln := Nat.lt_of_lt_of_eq (Nat.lt_succ_self _) hzn.symm; clear hzn; (try have hlt := rs.lt); (try replace rs := rs.below (hbn.mono hle)); have b1 := ht; clear ht; simp only [putS])
  (refine wpList_allocBk (t := 36) rfl _ (run_alloc_R _ _ rfl) ?_; intro b_r2 wn hle hge ht hbn hzn; have hsz := B.size; replace B := B.trans (hbn.mono (by omega)); have hln := Nat.lt_of_lt_of_eq (Nat.lt_succ_self _) hzn.symm; clear hzn; (try have hlt := b1.lt); (try replace b1 := b1.below (hbn.mono hle)); (try have hlt := rs.lt); (try replace rs := rs.below (hbn.mono hle)); have r2 := ht; clear ht; simp only [putS])
  refine wpList_nil ?_
  go_upto_region 1 with fail
  refine wp_region_lit ?_
  try simp only [gelS]
  refine wpList_chunk 1 (by kernel_rfl) ?_
  simp only [takS, Nat.reduceAdd]
  repeat (first | go_big_quiet_skip | (go_big_quiet_want; first | (refine quiet_loadAny (t := 36) rfl _ _ _ rfl (fun w hw => run_load_B (ov_B b1 w hw) Try.isAgg36 (by kernel_rfl)) (by rfl) ?_; simp only [putS]; go_big_quiet_on) | (go_big_quiet_op; go_big_quiet_on)))
  refine wpQuiet_nil ?_
  refine wpList_callF (by first | rfl | simp [Region.wanted, yielded]) rfl (enters_of Try.func36 (by kernel_rfl) rfl) (by simp only [List.map_toArray, List.map_cons, List.map_nil, Act.eval, Array.getD_eq_getD_getElem?, List.getElem?_toArray, List.getElem?_cons_succ, List.getElem?_cons_zero, Option.getD_some]; rfl) ?_
  refine (P_ValidB _ ls true _ rs tk hn hv).mono ?_
  rintro e wn ⟨rfl, hbn⟩
  have hsz := B.size
  have hzn := hbn.size
  replace B := B.trans (hbn.mono B.size)
  (try replace b1 := b1.below hbn)
  (try replace r2 := r2.below hbn)
  (try replace rs := rs.below hbn)
  refine ⟨_, rfl, ?_⟩
  simp only [putS]
  refine wpList_chunk 1 (by kernel_rfl) ?_
  simp only [takS, Nat.reduceAdd]
  repeat (first | go_big_quiet_skip | (go_big_quiet_want; first | (go_big_quiet_op; go_big_quiet_on)))
  refine wpQuiet_nil ?_
  refine wpList_nil ?_
  go_upto_region 3 with fail
  refine wp_region_lit ?_
  try simp only [gelS]
  refine wpList_chunk 1 (by kernel_rfl) ?_
  simp only [takS, Nat.reduceAdd]
  repeat (first | go_big_quiet_skip | (go_big_quiet_want; first | (refine quiet_loadAny (t := 36) rfl _ _ _ rfl (fun w hw => run_load_B (ov_B b1 w hw) Try.isAgg36 (by kernel_rfl)) (by rfl) ?_; simp only [putS]; go_big_quiet_on) | (go_big_quiet_op; go_big_quiet_on)))
  refine wpQuiet_nil ?_
  (refine wpList_storeB (t := 36) rfl _ _ rfl _ rfl _ rfl r2 (by kernel_rfl) rfl (by simp [Value.oneCell']) ?_; have r2o := r2; clear r2; intro wn ht hcn hzn; (try replace rs := rs.chg r2o (by simp [rcA]) hcn); have hsz := B.size; replace hzn := Nat.le_of_eq hzn.symm; replace B := Chg.below B hcn (by omega) B.size; (try replace b1 := b1.of_eq (hcn.block _ b1.lt (by omega))); have r2 := ht; clear ht; simp only [putS])
  refine wpList_nil ?_
  first | (refine bodyPost_ret (results_B (t := 36) rfl _ _ (b_r2) rfl r2 Try.isAgg36 (by kernel_rfl)) rfl ?_) | (go_step; refine bodyPost_ret (results_B (t := 36) rfl _ _ (b_r2) rfl r2 Try.isAgg36 (by kernel_rfl)) rfl ?_) | (go_step; go_step; refine bodyPost_ret (results_B (t := 36) rfl _ _ (b_r2) rfl r2 Try.isAgg36 (by kernel_rfl)) rfl ?_) | (go_step; go_step; go_step; refine bodyPost_ret (results_B (t := 36) rfl _ _ (b_r2) rfl r2 Try.isAgg36 (by kernel_rfl)) rfl ?_) | (go_step; go_step; go_step; go_step; refine bodyPost_ret (results_B (t := 36) rfl _ _ (b_r2) rfl r2 Try.isAgg36 (by kernel_rfl)) rfl ?_) | (go_step; go_step; go_step; go_step; go_step; refine bodyPost_ret (results_B (t := 36) rfl _ _ (b_r2) rfl r2 Try.isAgg36 (by kernel_rfl)) rfl ?_)
  exact ⟨rfl, B⟩
/-! ### Inverse -/
def invR (r : Rc) (ls : List TA) : List TA := if fitsE r = 0 then invL r ls else []
theorem fits_cases (r : Rc) : (validR r = false ∧ fitsE r = 1) ∨ (validR r = true ∧ largeR r = true ∧ fitsE r = 45) ∨ (validR r = true ∧ largeR r = false ∧ fitsE r = 0) := by
  unfold fitsE largeR
  cases hv : validR r with
  | false => left; exact ⟨rfl, by simp⟩
  | true =>
    right
    by_cases h1 : 256 < r.x1 - r.x0 ∨ 256 < r.y1 - r.y0
    · left
      refine ⟨rfl, ?_, by rw [if_pos rfl, if_pos h1]⟩
      rcases h1 with h | h <;> simp [h]
    · right
      refine ⟨rfl, ?_, by rw [if_pos rfl, if_neg h1]⟩
      rw [Bool.or_eq_false_iff]
      exact ⟨decide_eq_false (by omega), decide_eq_false (by omega)⟩
theorem valid_100 {r : Rc} (h : validR r = true) : -100000 ≤ r.x0 ∧ r.x0 ≤ 100000 ∧ -100000 ≤ r.y0 ∧ r.y0 ≤ 100000 ∧ -100000 ≤ r.x1 ∧ r.x1 ≤ 100000 ∧ -100000 ≤ r.y1 ∧ r.y1 ≤ 100000 := by
  obtain ⟨h1, h2⟩ := (validR_iff r).1 h
  omega
set_option maxHeartbeats 4000000 in
theorem P_Inverse (v : Value) (ls : List TA) (r : Rc) (w : World) (rs : RS v ls w) (tk : TokL ls) (hn : ls.length ≤ maxLen) (hv : validL ls = true) (hA : fitsE r = 0 → tlN r ≤ 1000) : Calls Try.prog 24 #[.agg #[v], .agg (rcA r)] w fun e w' => ∃ a cp, e = .returned (.tuple #[.agg #[.slice a (invR r ls).length cp], .int .i64 (fitsE r)]) ∧ RS (.slice a (invR r ls).length cp) (invR r ls) w' ∧ Below w.heap.size w w' := by
  have B := Below.refl w.heap.size w
  obtain ⟨a, c, rfl, hc⟩ := rs.len
  rcases fits_cases r with ⟨h1, h2⟩ | ⟨h1, h2, h3⟩ | ⟨h1, h2, h3⟩
  · have e1 : invR r ls = [] := by unfold invR; rw [if_neg (by omega)]
    rw [e1, h2]
    have H1 := Lib.hid h1
    clear h1 h2 hA e1
    go_enter Try.func24, Try.ntmps24
    go_upto_region 0 with fail
    refine wp_region_lit ?_
    try simp only [gelS]
    (refine wpList_boxB (t := 36) rfl _ rfl _ rfl ?_; intro b_b2 wn hle hge ht hbn hzn; have hsz := B.size; replace B := B.trans (hbn.mono (by omega)); have hln := Nat.lt_of_lt_of_eq (Nat.lt_succ_self _) hzn.symm; clear hzn; (try have hlt := rs.lt); (try replace rs := rs.below (hbn.mono hle)); have b2 := ht; clear ht; simp only [putS])
    (refine wpList_boxB (t := 31) rfl _ rfl _ rfl ?_; intro b_b3 wn hle hge ht hbn hzn; have hsz := B.size; replace B := B.trans (hbn.mono (by omega)); have hln := Nat.lt_of_lt_of_eq (Nat.lt_succ_self _) hzn.symm; clear hzn; (try have hlt := b2.lt); (try replace b2 := b2.below (hbn.mono hle)); (try have hlt := rs.lt); (try replace rs := rs.below (hbn.mono hle)); have b3 := ht; clear ht; simp only [putS])
    (refine wpList_allocBk (t := 36) rfl _ (run_alloc_R _ _ rfl) ?_; intro b_r4 wn hle hge ht hbn hzn; have hsz := B.size; replace B := B.trans (hbn.mono (by omega)); have hln := Nat.lt_of_lt_of_eq (Nat.lt_succ_self _) hzn.symm; clear hzn; (try have hlt := b2.lt); (try replace b2 := b2.below (hbn.mono hle)); (try have hlt := b3.lt); (try replace b3 := b3.below (hbn.mono hle)); (try have hlt := rs.lt); (try replace rs := rs.below (hbn.mono hle)); have r4 := ht; clear ht; simp only [putS])
    refine wpList_chunk 1 (by kernel_rfl) ?_
    simp only [takS, Nat.reduceAdd]
    repeat (first | go_big_quiet_skip | (go_big_quiet_want; first | (go_big_quiet_op; go_big_quiet_on)))
    refine wpQuiet_nil ?_
    refine wpList_nil ?_
    have k2 : b_b2 < b_b3 := by have := b2.lt; omega
    have k3 : b_b3 < b_r4 := by have := b3.lt; omega
    go_upto_region 1 with fail
    refine wp_region_lit ?_
    try simp only [gelS]
    refine wpList_chunk 1 (by kernel_rfl) ?_
    simp only [takS, Nat.reduceAdd]
    repeat (first | go_big_quiet_skip | (go_big_quiet_want; first | (refine quiet_loadAny (t := 31) rfl _ _ _ rfl (fun w hw => run_load_B (ov_B b3 w hw) Try.isAgg31 (by kernel_rfl)) (by rfl) ?_; simp only [putS]; go_big_quiet_on) | (go_big_quiet_op; go_big_quiet_on)))
    refine wpQuiet_nil ?_
    refine wpList_callF (by first | rfl | simp [Region.wanted, yielded]) rfl (enters_of Try.func60 (by kernel_rfl) rfl) (by simp only [List.map_toArray, List.map_cons, List.map_nil, Act.eval, Array.getD_eq_getD_getElem?, List.getElem?_toArray, List.getElem?_cons_succ, List.getElem?_cons_zero, Option.getD_some]; rfl) ?_
    refine (P_ValidRB r false _ H1.out).mono ?_
    rintro e wn ⟨rfl, hbn⟩
    have hsz := B.size
    have hzn := hbn.size
    replace B := B.trans (hbn.mono B.size)
    (try replace b2 := b2.below hbn)
    (try replace b3 := b3.below hbn)
    (try replace r4 := r4.below hbn)
    (try replace rs := rs.below hbn)
    refine ⟨_, rfl, ?_⟩
    simp only [putS]
    refine wpList_chunk 2 (by kernel_rfl) ?_
    simp only [takS, Nat.reduceAdd]
    repeat (first | go_big_quiet_skip | (go_big_quiet_want; first | (go_big_quiet_op; go_big_quiet_on)))
    refine wpQuiet_nil ?_
    refine wpList_nil ?_
    go_upto_region 2 with fail
    refine wp_region_lit ?_
    try simp only [gelS]
    refine wpList_chunk 1 (by kernel_rfl) ?_
    simp only [takS, Nat.reduceAdd]
    repeat (first | go_big_quiet_skip | (go_big_quiet_want; first | (go_big_quiet_op; go_big_quiet_on)))
    refine wpQuiet_nil ?_
    (refine wpList_storeB (t := 36) rfl _ _ rfl _ rfl _ rfl r4 (by kernel_rfl) rfl (by simp [Value.oneCell']) ?_; have r4o := r4; clear r4; intro wn ht hcn hzn; (try replace rs := rs.chg r4o (by simp [rcA]) hcn); have hsz := B.size; replace hzn := Nat.le_of_eq hzn.symm; replace B := Chg.below B hcn (by omega) B.size; (try replace b2 := b2.of_eq (hcn.block _ b2.lt (by omega))); (try replace b3 := b3.of_eq (hcn.block _ b3.lt (by omega))); (try replace rs := rs.of_eq (hcn.block _ rs.lt (by omega))); have r4 := ht; clear ht; simp only [putS])
    refine wpList_chunk 1 (by kernel_rfl) ?_
    simp only [takS, Nat.reduceAdd]
    repeat (first | go_big_quiet_skip | (go_big_quiet_want; first | (go_big_quiet_op; go_big_quiet_on)))
    refine wpQuiet_nil ?_
    refine wpList_nil ?_
    first | (refine bodyPost_ret (results_B2 (t := 36) rfl _ _ (b_r4) rfl _ rfl r4 Try.isAgg36 (by kernel_rfl)) rfl ?_) | (go_step; refine bodyPost_ret (results_B2 (t := 36) rfl _ _ (b_r4) rfl _ rfl r4 Try.isAgg36 (by kernel_rfl)) rfl ?_) | (go_step; go_step; refine bodyPost_ret (results_B2 (t := 36) rfl _ _ (b_r4) rfl _ rfl r4 Try.isAgg36 (by kernel_rfl)) rfl ?_) | (go_step; go_step; go_step; refine bodyPost_ret (results_B2 (t := 36) rfl _ _ (b_r4) rfl _ rfl r4 Try.isAgg36 (by kernel_rfl)) rfl ?_) | (go_step; go_step; go_step; go_step; refine bodyPost_ret (results_B2 (t := 36) rfl _ _ (b_r4) rfl _ rfl r4 Try.isAgg36 (by kernel_rfl)) rfl ?_) | (go_step; go_step; go_step; go_step; go_step; refine bodyPost_ret (results_B2 (t := 36) rfl _ _ (b_r4) rfl _ rfl r4 Try.isAgg36 (by kernel_rfl)) rfl ?_)
    exact ⟨none, 0, rfl, RS.nil _, B⟩
  · have e1 : invR r ls = [] := by unfold invR; rw [if_neg (by omega)]
    rw [e1, h3]
    have hb := Lib.hid (valid_100 h1)
    have H1 := Lib.hid h1
    have H2 := Lib.hid h2
    clear h1 h2 h3 hA e1
    go_enter Try.func24, Try.ntmps24
    go_upto_region 0 with fail
    refine wp_region_lit ?_
    try simp only [gelS]
    (refine wpList_boxB (t := 36) rfl _ rfl _ rfl ?_; intro b_b2 wn hle hge ht hbn hzn; have hsz := B.size; replace B := B.trans (hbn.mono (by omega)); have hln := Nat.lt_of_lt_of_eq (Nat.lt_succ_self _) hzn.symm; clear hzn; (try have hlt := b2.lt); (try replace b2 := b2.below (hbn.mono hle)); (try have hlt := b3.lt); (try replace b3 := b3.below (hbn.mono hle)); (try have hlt := r4.lt); (try replace r4 := r4.below (hbn.mono hle)); (try have hlt := rs.lt); (try replace rs := rs.below (hbn.mono hle)); have b2 := ht; clear ht; simp only [putS])
    (refine wpList_boxB (t := 31) rfl _ rfl _ rfl ?_; intro b_b3 wn hle hge ht hbn hzn; have hsz := B.size; replace B := B.trans (hbn.mono (by omega)); have hln := Nat.lt_of_lt_of_eq (Nat.lt_succ_self _) hzn.symm; clear hzn; (try have hlt := b2.lt); (try replace b2 := b2.below (hbn.mono hle)); (try have hlt := b3.lt); (try replace b3 := b3.below (hbn.mono hle)); (try have hlt := r4.lt); (try replace r4 := r4.below (hbn.mono hle)); (try have hlt := rs.lt); (try replace rs := rs.below (hbn.mono hle)); have b3 := ht; clear ht; simp only [putS])
    (refine wpList_allocBk (t := 36) rfl _ (run_alloc_R _ _ rfl) ?_; intro b_r4 wn hle hge ht hbn hzn; have hsz := B.size; replace B := B.trans (hbn.mono (by omega)); have hln := Nat.lt_of_lt_of_eq (Nat.lt_succ_self _) hzn.symm; clear hzn; (try have hlt := b2.lt); (try replace b2 := b2.below (hbn.mono hle)); (try have hlt := b3.lt); (try replace b3 := b3.below (hbn.mono hle)); (try have hlt := r4.lt); (try replace r4 := r4.below (hbn.mono hle)); (try have hlt := rs.lt); (try replace rs := rs.below (hbn.mono hle)); have r4 := ht; clear ht; simp only [putS])
    refine wpList_chunk 1 (by kernel_rfl) ?_
    simp only [takS, Nat.reduceAdd]
    repeat (first | go_big_quiet_skip | (go_big_quiet_want; first | (go_big_quiet_op; go_big_quiet_on)))
    refine wpQuiet_nil ?_
    refine wpList_nil ?_
    have k2 : b_b2 < b_b3 := by have := b2.lt; omega
    have k3 : b_b3 < b_r4 := by have := b3.lt; omega
    go_upto_region 1 with fail
    refine wp_region_lit ?_
    try simp only [gelS]
    refine wpList_chunk 1 (by kernel_rfl) ?_
    simp only [takS, Nat.reduceAdd]
    repeat (first | go_big_quiet_skip | (go_big_quiet_want; first | (refine quiet_loadAny (t := 31) rfl _ _ _ rfl (fun w hw => run_load_B (ov_B b3 w hw) Try.isAgg31 (by kernel_rfl)) (by rfl) ?_; simp only [putS]; go_big_quiet_on) | (go_big_quiet_op; go_big_quiet_on)))
    refine wpQuiet_nil ?_
    refine wpList_callF (by first | rfl | simp [Region.wanted, yielded]) rfl (enters_of Try.func60 (by kernel_rfl) rfl) (by simp only [List.map_toArray, List.map_cons, List.map_nil, Act.eval, Array.getD_eq_getD_getElem?, List.getElem?_toArray, List.getElem?_cons_succ, List.getElem?_cons_zero, Option.getD_some]; rfl) ?_
    refine (P_ValidRB r true _ H1.out).mono ?_
    rintro e wn ⟨rfl, hbn⟩
    have hsz := B.size
    have hzn := hbn.size
    replace B := B.trans (hbn.mono B.size)
    (try replace b2 := b2.below hbn)
    (try replace b3 := b3.below hbn)
    (try replace r4 := r4.below hbn)
    (try replace rs := rs.below hbn)
    refine ⟨_, rfl, ?_⟩
    simp only [putS]
    refine wpList_chunk 2 (by kernel_rfl) ?_
    simp only [takS, Nat.reduceAdd]
    repeat (first | go_big_quiet_skip | (go_big_quiet_want; first | (go_big_quiet_op; go_big_quiet_on)))
    refine wpQuiet_nil ?_
    refine wpList_nil ?_
    go_upto_region 3 with fail
    refine wp_region_lit ?_
    try simp only [gelS]
    refine wpList_chunk 1 (by kernel_rfl) ?_
    simp only [takS, Nat.reduceAdd]
    repeat (first | go_big_quiet_skip | (go_big_quiet_want; first | (refine quiet_loadAny (t := 31) rfl _ _ _ rfl (fun w hw => run_load_B (ov_B b3 w hw) Try.isAgg31 (by kernel_rfl)) (by rfl) ?_; simp only [putS]; go_big_quiet_on) | (go_big_quiet_op; go_big_quiet_on)))
    refine wpQuiet_nil ?_
    refine wpList_callF (by first | rfl | simp [Region.wanted, yielded]) rfl (enters_of Try.func61 (by kernel_rfl) rfl) (by simp only [List.map_toArray, List.map_cons, List.map_nil, Act.eval, Array.getD_eq_getD_getElem?, List.getElem?_toArray, List.getElem?_cons_succ, List.getElem?_cons_zero, Option.getD_some]; rfl) ?_
    refine (P_largeO r true _ hb.out H2.out).mono ?_
    rintro e wn ⟨rfl, hbn⟩
    have hsz := B.size
    have hzn := hbn.size
    replace B := B.trans (hbn.mono B.size)
    (try replace b2 := b2.below hbn)
    (try replace b3 := b3.below hbn)
    (try replace r4 := r4.below hbn)
    (try replace rs := rs.below hbn)
    refine ⟨_, rfl, ?_⟩
    simp only [putS]
    refine wpList_chunk 1 (by kernel_rfl) ?_
    simp only [takS, Nat.reduceAdd]
    repeat (first | go_big_quiet_skip | (go_big_quiet_want; first | (go_big_quiet_op; go_big_quiet_on)))
    refine wpQuiet_nil ?_
    refine wpList_nil ?_
    go_upto_region 4 with fail
    refine wp_region_lit ?_
    try simp only [gelS]
    refine wpList_chunk 1 (by kernel_rfl) ?_
    simp only [takS, Nat.reduceAdd]
    repeat (first | go_big_quiet_skip | (go_big_quiet_want; first | (go_big_quiet_op; go_big_quiet_on)))
    refine wpQuiet_nil ?_
    (refine wpList_storeB (t := 36) rfl _ _ rfl _ rfl _ rfl r4 (by kernel_rfl) rfl (by simp [Value.oneCell']) ?_; have r4o := r4; clear r4; intro wn ht hcn hzn; (try replace rs := rs.chg r4o (by simp [rcA]) hcn); have hsz := B.size; replace hzn := Nat.le_of_eq hzn.symm; replace B := Chg.below B hcn (by omega) B.size; (try replace b2 := b2.of_eq (hcn.block _ b2.lt (by omega))); (try replace b3 := b3.of_eq (hcn.block _ b3.lt (by omega))); (try replace rs := rs.of_eq (hcn.block _ rs.lt (by omega))); have r4 := ht; clear ht; simp only [putS])
    refine wpList_chunk 1 (by kernel_rfl) ?_
    simp only [takS, Nat.reduceAdd]
    repeat (first | go_big_quiet_skip | (go_big_quiet_want; first | (go_big_quiet_op; go_big_quiet_on)))
    refine wpQuiet_nil ?_
    refine wpList_nil ?_
    first | (refine bodyPost_ret (results_B2 (t := 36) rfl _ _ (b_r4) rfl _ rfl r4 Try.isAgg36 (by kernel_rfl)) rfl ?_) | (go_step; refine bodyPost_ret (results_B2 (t := 36) rfl _ _ (b_r4) rfl _ rfl r4 Try.isAgg36 (by kernel_rfl)) rfl ?_) | (go_step; go_step; refine bodyPost_ret (results_B2 (t := 36) rfl _ _ (b_r4) rfl _ rfl r4 Try.isAgg36 (by kernel_rfl)) rfl ?_) | (go_step; go_step; go_step; refine bodyPost_ret (results_B2 (t := 36) rfl _ _ (b_r4) rfl _ rfl r4 Try.isAgg36 (by kernel_rfl)) rfl ?_) | (go_step; go_step; go_step; go_step; refine bodyPost_ret (results_B2 (t := 36) rfl _ _ (b_r4) rfl _ rfl r4 Try.isAgg36 (by kernel_rfl)) rfl ?_) | (go_step; go_step; go_step; go_step; go_step; refine bodyPost_ret (results_B2 (t := 36) rfl _ _ (b_r4) rfl _ rfl r4 Try.isAgg36 (by kernel_rfl)) rfl ?_)
    exact ⟨none, 0, rfl, RS.nil _, B⟩
  · have hA := hA h3
    have e1 : invR r ls = invL r ls := by unfold invR; rw [if_pos h3]
    have e2 : pstE r (paintL r (invF ls)) [] = 0 := (paint_R h3 hA _).2
    rw [e1, h3]
    have hb := Lib.hid (valid_100 h1)
    have H1 := Lib.hid h1
    have H2 := Lib.hid h2
    have H3 := Lib.hid h3
    have HA := Lib.hid hA
    have E2 := Lib.hid e2
    have TK := Lib.hid tk
    clear h1 h2 h3 hA e1 e2 tk
    go_enter Try.func24, Try.ntmps24
    go_upto_region 0 with fail
    refine wp_region_lit ?_
    try simp only [gelS]
    (refine wpList_boxB (t := 36) rfl _ rfl _ rfl ?_; intro b_b2 wn hle hge ht hbn hzn; have hsz := B.size; replace B := B.trans (hbn.mono (by omega)); have hln := Nat.lt_of_lt_of_eq (Nat.lt_succ_self _) hzn.symm; clear hzn; (try have hlt := b2.lt); (try replace b2 := b2.below (hbn.mono hle)); (try have hlt := b3.lt); (try replace b3 := b3.below (hbn.mono hle)); (try have hlt := r4.lt); (try replace r4 := r4.below (hbn.mono hle)); (try have hlt := rs.lt); (try replace rs := rs.below (hbn.mono hle)); have b2 := ht; clear ht; simp only [putS])
    (refine wpList_boxB (t := 31) rfl _ rfl _ rfl ?_; intro b_b3 wn hle hge ht hbn hzn; have hsz := B.size; replace B := B.trans (hbn.mono (by omega)); have hln := Nat.lt_of_lt_of_eq (Nat.lt_succ_self _) hzn.symm; clear hzn; (try have hlt := b2.lt); (try replace b2 := b2.below (hbn.mono hle)); (try have hlt := b3.lt); (try replace b3 := b3.below (hbn.mono hle)); (try have hlt := r4.lt); (try replace r4 := r4.below (hbn.mono hle)); (try have hlt := rs.lt); (try replace rs := rs.below (hbn.mono hle)); have b3 := ht; clear ht; simp only [putS])
    (refine wpList_allocBk (t := 36) rfl _ (run_alloc_R _ _ rfl) ?_; intro b_r4 wn hle hge ht hbn hzn; have hsz := B.size; replace B := B.trans (hbn.mono (by omega)); have hln := Nat.lt_of_lt_of_eq (Nat.lt_succ_self _) hzn.symm; clear hzn; (try have hlt := b2.lt); (try replace b2 := b2.below (hbn.mono hle)); (try have hlt := b3.lt); (try replace b3 := b3.below (hbn.mono hle)); (try have hlt := r4.lt); (try replace r4 := r4.below (hbn.mono hle)); (try have hlt := rs.lt); (try replace rs := rs.below (hbn.mono hle)); have r4 := ht; clear ht; simp only [putS])
    refine wpList_chunk 1 (by kernel_rfl) ?_
    simp only [takS, Nat.reduceAdd]
    repeat (first | go_big_quiet_skip | (go_big_quiet_want; first | (go_big_quiet_op; go_big_quiet_on)))
    refine wpQuiet_nil ?_
    refine wpList_nil ?_
    have k2 : b_b2 < b_b3 := by have := b2.lt; omega
    have k3 : b_b3 < b_r4 := by have := b3.lt; omega
    go_upto_region 1 with fail
    refine wp_region_lit ?_
    try simp only [gelS]
    refine wpList_chunk 1 (by kernel_rfl) ?_
    simp only [takS, Nat.reduceAdd]
    repeat (first | go_big_quiet_skip | (go_big_quiet_want; first | (refine quiet_loadAny (t := 31) rfl _ _ _ rfl (fun w hw => run_load_B (ov_B b3 w hw) Try.isAgg31 (by kernel_rfl)) (by rfl) ?_; simp only [putS]; go_big_quiet_on) | (go_big_quiet_op; go_big_quiet_on)))
    refine wpQuiet_nil ?_
    refine wpList_callF (by first | rfl | simp [Region.wanted, yielded]) rfl (enters_of Try.func60 (by kernel_rfl) rfl) (by simp only [List.map_toArray, List.map_cons, List.map_nil, Act.eval, Array.getD_eq_getD_getElem?, List.getElem?_toArray, List.getElem?_cons_succ, List.getElem?_cons_zero, Option.getD_some]; rfl) ?_
    refine (P_ValidRB r true _ H1.out).mono ?_
    rintro e wn ⟨rfl, hbn⟩
    have hsz := B.size
    have hzn := hbn.size
    replace B := B.trans (hbn.mono B.size)
    (try replace b2 := b2.below hbn)
    (try replace b3 := b3.below hbn)
    (try replace r4 := r4.below hbn)
    (try replace rs := rs.below hbn)
    refine ⟨_, rfl, ?_⟩
    simp only [putS]
    refine wpList_chunk 2 (by kernel_rfl) ?_
    simp only [takS, Nat.reduceAdd]
    repeat (first | go_big_quiet_skip | (go_big_quiet_want; first | (go_big_quiet_op; go_big_quiet_on)))
    refine wpQuiet_nil ?_
    refine wpList_nil ?_
    go_upto_region 3 with fail
    refine wp_region_lit ?_
    try simp only [gelS]
    refine wpList_chunk 1 (by kernel_rfl) ?_
    simp only [takS, Nat.reduceAdd]
    repeat (first | go_big_quiet_skip | (go_big_quiet_want; first | (refine quiet_loadAny (t := 31) rfl _ _ _ rfl (fun w hw => run_load_B (ov_B b3 w hw) Try.isAgg31 (by kernel_rfl)) (by rfl) ?_; simp only [putS]; go_big_quiet_on) | (go_big_quiet_op; go_big_quiet_on)))
    refine wpQuiet_nil ?_
    refine wpList_callF (by first | rfl | simp [Region.wanted, yielded]) rfl (enters_of Try.func61 (by kernel_rfl) rfl) (by simp only [List.map_toArray, List.map_cons, List.map_nil, Act.eval, Array.getD_eq_getD_getElem?, List.getElem?_toArray, List.getElem?_cons_succ, List.getElem?_cons_zero, Option.getD_some]; rfl) ?_
    refine (P_largeO r false _ hb.out H2.out).mono ?_
    rintro e wn ⟨rfl, hbn⟩
    have hsz := B.size
    have hzn := hbn.size
    replace B := B.trans (hbn.mono B.size)
    (try replace b2 := b2.below hbn)
    (try replace b3 := b3.below hbn)
    (try replace r4 := r4.below hbn)
    (try replace rs := rs.below hbn)
    refine ⟨_, rfl, ?_⟩
    simp only [putS]
    refine wpList_chunk 1 (by kernel_rfl) ?_
    simp only [takS, Nat.reduceAdd]
    repeat (first | go_big_quiet_skip | (go_big_quiet_want; first | (go_big_quiet_op; go_big_quiet_on)))
    refine wpQuiet_nil ?_
    refine wpList_nil ?_
    go_upto_region 5 with fail
    refine wp_region_lit ?_
    try simp only [gelS]
    refine wpList_chunk 1 (by kernel_rfl) ?_
    simp only [takS, Nat.reduceAdd]
    repeat (first | go_big_quiet_skip | (go_big_quiet_want; first | (refine quiet_loadAny (t := 36) rfl _ _ _ rfl (fun w hw => run_load_B (ov_B b2 w hw) Try.isAgg36 (by kernel_rfl)) (by rfl) ?_; simp only [putS]; go_big_quiet_on) | (go_big_quiet_op; go_big_quiet_on)))
    refine wpQuiet_nil ?_
    refine wpList_callF (by first | rfl | simp [Region.wanted, yielded]) rfl (enters_of Try.func62 (by kernel_rfl) rfl) (by simp only [List.map_toArray, List.map_cons, List.map_nil, Act.eval, Array.getD_eq_getD_getElem?, List.getElem?_toArray, List.getElem?_cons_succ, List.getElem?_cons_zero, Option.getD_some]; rfl) ?_
    refine (P_of _ ls _ rs TK.out hn hv).mono ?_
    rintro e wn ⟨rfl, hbn⟩
    have hsz := B.size
    have hzn := hbn.size
    replace B := B.trans (hbn.mono B.size)
    (try replace b2 := b2.below hbn)
    (try replace b3 := b3.below hbn)
    (try replace r4 := r4.below hbn)
    (try replace rs := rs.below hbn)
    refine ⟨_, rfl, ?_⟩
    simp only [putS]
    (refine wpList_storeB (t := 36) rfl _ _ rfl _ rfl _ rfl b2 (by kernel_rfl) rfl (by simp [Value.oneCell']) ?_; have b2o := b2; clear b2; intro wn ht hcn hzn; (try replace rs := rs.chg b2o (by simp [rcA]) hcn); have hsz := B.size; replace hzn := Nat.le_of_eq hzn.symm; replace B := Chg.below B hcn (by omega) B.size; (try replace b3 := b3.of_eq (hcn.block _ b3.lt (by omega))); (try replace r4 := r4.of_eq (hcn.block _ r4.lt (by omega))); (try replace rs := rs.of_eq (hcn.block _ rs.lt (by omega))); have b2 := ht; clear ht; simp only [putS])
    refine wpList_nil ?_
    go_upto_region 6 with fail
    have HP := Lib.hid (show ∀ W, Below wn.heap.size wn W → ∀ x y, hasR r x y = true → Calls Try.prog 64 (#[.int .i64 x, .int .i64 y] ++ #[.pointer (some ⟨b_b2, 0, none⟩)]) W fun e w' => e = .returned (Px.v (invF ls x y)) ∧ Below W.heap.size W w' from fun W hW x y hxy => by
      have hx := (hasR_iff r x y).1 hxy
      have hbb := hb.out
      exact P_inv1 b_b2 _ ls x y W (b2.of_eq (hW.block _ b2.lt)) (rs.below hW) TK.out hn (wf_mk (by omega) (by omega)) (wf_mk (by omega) (by omega)))
    refine wp_region_lit ?_
    try simp only [gelS]
    refine wpList_chunk 1 (by kernel_rfl) ?_
    simp only [takS, Nat.reduceAdd]
    repeat (first | go_big_quiet_skip | (go_big_quiet_want; first | (refine quiet_loadAny (t := 31) rfl _ _ _ rfl (fun w hw => run_load_B (ov_B b3 w hw) Try.isAgg31 (by kernel_rfl)) (by rfl) ?_; simp only [putS]; go_big_quiet_on) | (go_big_quiet_op; go_big_quiet_on)))
    refine wpQuiet_nil ?_
    (refine wpList_val rfl (.func (.func 64) #[] #[.pointer (some ⟨b_b2, 0, none⟩)]) (by first | rfl | simp [go_sem, Act.eval]) ?_; simp only [putS])
    refine wpList_callF (by first | rfl | simp [Region.wanted, yielded]) rfl (enters_of Try.func63 (by kernel_rfl) rfl) (by simp only [List.map_toArray, List.map_cons, List.map_nil, Act.eval, Array.getD_eq_getD_getElem?, List.getElem?_toArray, List.getElem?_cons_succ, List.getElem?_cons_zero, Option.getD_some]; rfl) ?_
    refine (P_painted1 _ _ (enters_of Try.func64 (by kernel_rfl) rfl) r (invF ls) _ H3.out (invF_ok TK.out) HP.out).mono ?_
    rintro e wn ⟨a5, c5, rfl, rs5, hbn⟩
    have hsz := B.size
    have hzn := hbn.size
    replace B := B.trans (hbn.mono B.size)
    (try replace b2 := b2.below hbn)
    (try replace b3 := b3.below hbn)
    (try replace r4 := r4.below hbn)
    (try replace rs := rs.below hbn)
    rw [E2.out]
    refine ⟨_, rfl, ?_⟩
    simp only [putS]
    refine wpList_chunk 2 (by kernel_rfl) ?_
    simp only [takS, Nat.reduceAdd]
    repeat (first | go_big_quiet_skip | (go_big_quiet_want; first | (go_big_quiet_op; go_big_quiet_on)))
    refine wpQuiet_nil ?_
    (refine wpList_storeB (t := 36) rfl _ _ rfl _ rfl _ rfl r4 (by kernel_rfl) rfl (by simp [Value.oneCell']) ?_; have r4o := r4; clear r4; intro wn ht hcn hzn; (try replace rs5 := rs5.chg r4o (by simp [rcA]) hcn; try replace rs := rs.chg r4o (by simp [rcA]) hcn); have hsz := B.size; replace hzn := Nat.le_of_eq hzn.symm; replace B := Chg.below B hcn (by omega) B.size; (try replace b2 := b2.of_eq (hcn.block _ b2.lt (by omega))); (try replace b3 := b3.of_eq (hcn.block _ b3.lt (by omega))); (try replace rs := rs.of_eq (hcn.block _ rs.lt (by omega))); have r4 := ht; clear ht; simp only [putS])
    refine wpList_chunk 1 (by kernel_rfl) ?_
    simp only [takS, Nat.reduceAdd]
    repeat (first | go_big_quiet_skip | (go_big_quiet_want; first | (go_big_quiet_op; go_big_quiet_on)))
    refine wpQuiet_nil ?_
    refine wpList_nil ?_
    first | (refine bodyPost_ret (results_B2 (t := 36) rfl _ _ (b_r4) rfl _ rfl r4 Try.isAgg36 (by kernel_rfl)) rfl ?_) | (go_step; refine bodyPost_ret (results_B2 (t := 36) rfl _ _ (b_r4) rfl _ rfl r4 Try.isAgg36 (by kernel_rfl)) rfl ?_) | (go_step; go_step; refine bodyPost_ret (results_B2 (t := 36) rfl _ _ (b_r4) rfl _ rfl r4 Try.isAgg36 (by kernel_rfl)) rfl ?_) | (go_step; go_step; go_step; refine bodyPost_ret (results_B2 (t := 36) rfl _ _ (b_r4) rfl _ rfl r4 Try.isAgg36 (by kernel_rfl)) rfl ?_) | (go_step; go_step; go_step; go_step; refine bodyPost_ret (results_B2 (t := 36) rfl _ _ (b_r4) rfl _ rfl r4 Try.isAgg36 (by kernel_rfl)) rfl ?_) | (go_step; go_step; go_step; go_step; go_step; refine bodyPost_ret (results_B2 (t := 36) rfl _ _ (b_r4) rfl _ rfl r4 Try.isAgg36 (by kernel_rfl)) rfl ?_)
    exact ⟨_, _, rfl, rs5, B⟩
def smR (a b c d : Int) : Rc := ⟨a % 40 - 20, b % 40 - 20, a % 40 - 20 + c % 40, b % 40 - 20 + d % 40⟩
theorem R3_restO (x n r : Int) (hn : 0 < n ∧ n ≤ 1000000) (e : x % n = r) (w : World) : Calls Try.prog 59 #[.int .i64 x, .int .i64 n] w fun e w' => e = .returned (.int .i64 r) ∧ Below w.heap.size w w' := e ▸ R3_rest x n hn w
set_option maxHeartbeats 2000000 in
theorem R_SmallR (a b c d : Int) (w : World) : Calls Try.prog 23 #[.agg #[.int .i64 a, .int .i64 b, .int .i64 c, .int .i64 d]] w fun e w' => e = .returned (.agg (rcA (smR a b c d))) ∧ Below w.heap.size w w' := by
  have B := Below.refl w.heap.size w
  unfold smR
  obtain ⟨ra, ha⟩ : ∃ r, a % 40 = r := ⟨_, rfl⟩
  have ka : 0 ≤ ra ∧ ra ≤ 39 := by omega
  rw [ha]
  have Ha := Lib.hid ha
  clear ha
  obtain ⟨rb, hb⟩ : ∃ r, b % 40 = r := ⟨_, rfl⟩
  have kb : 0 ≤ rb ∧ rb ≤ 39 := by omega
  rw [hb]
  have Hb := Lib.hid hb
  clear hb
  obtain ⟨rc, hc⟩ : ∃ r, c % 40 = r := ⟨_, rfl⟩
  have kc : 0 ≤ rc ∧ rc ≤ 39 := by omega
  rw [hc]
  have Hc := Lib.hid hc
  clear hc
  obtain ⟨rd, hd⟩ : ∃ r, d % 40 = r := ⟨_, rfl⟩
  have kd : 0 ≤ rd ∧ rd ≤ 39 := by omega
  rw [hd]
  have Hd := Lib.hid hd
  clear hd
  go_enter Try.func23, Try.ntmps23
  go_upto_region 0 with fail
  refine wp_region_lit ?_
  try simp only [gelS]
  (refine wpList_boxB (t := 46) rfl _ rfl _ rfl ?_; intro b_b1 wn hle hge ht hbn hzn; have hsz := B.size; replace B := B.trans (hbn.mono (by omega)); have hln := Nat.lt_of_lt_of_eq (Nat.lt_succ_self _) hzn.symm; clear hzn; have b1 := ht; clear ht; simp only [putS])
  (refine wpList_allocBk (t := 31) rfl _ (run_alloc_Rc _ _ rfl) ?_; intro b_r2 wn hle hge ht hbn hzn; have hsz := B.size; replace B := B.trans (hbn.mono (by omega)); have hln := Nat.lt_of_lt_of_eq (Nat.lt_succ_self _) hzn.symm; clear hzn; (try have hlt := b1.lt); (try replace b1 := b1.below (hbn.mono hle)); have r2 := ht; clear ht; simp only [putS])
  refine wpList_nil ?_
  go_upto_region 1 with fail
  refine wp_region_lit ?_
  try simp only [gelS]
  refine wpList_chunk 2 (by kernel_rfl) ?_
  simp only [takS, Nat.reduceAdd]
  repeat (first | go_big_quiet_skip | (go_big_quiet_want; first | (refine quiet_loadAny (t := 3) rfl _ _ _ rfl (fun w hw => run_load_int ((ov_B b1 w hw).cellL 0 rfl)) (by rfl) ?_; simp only [putS]; go_big_quiet_on) | (refine quiet_loadAny (t := 3) rfl _ _ _ rfl (fun w hw => run_load_int ((ov_B b1 w hw).cellL 1 rfl)) (by rfl) ?_; simp only [putS]; go_big_quiet_on) | (refine quiet_loadAny (t := 3) rfl _ _ _ rfl (fun w hw => run_load_int ((ov_B b1 w hw).cellL 2 rfl)) (by rfl) ?_; simp only [putS]; go_big_quiet_on) | (refine quiet_loadAny (t := 3) rfl _ _ _ rfl (fun w hw => run_load_int ((ov_B b1 w hw).cellL 3 rfl)) (by rfl) ?_; simp only [putS]; go_big_quiet_on) | (go_big_quiet_op; go_big_quiet_on)))
  refine wpQuiet_nil ?_
  refine wpList_callF (by first | rfl | simp [Region.wanted, yielded]) rfl (enters_of Try.func59 (by kernel_rfl) rfl) (by simp only [List.map_toArray, List.map_cons, List.map_nil, Act.eval, Array.getD_eq_getD_getElem?, List.getElem?_toArray, List.getElem?_cons_succ, List.getElem?_cons_zero, Option.getD_some]; rfl) ?_
  refine (R3_restO a 40 ra (by omega) Ha.out _).mono ?_
  rintro e wn ⟨rfl, hbn⟩
  have hsz := B.size
  have hzn := hbn.size
  replace B := B.trans (hbn.mono B.size)
  (try replace b1 := b1.below hbn)
  (try replace r2 := r2.below hbn)
  refine ⟨_, rfl, ?_⟩
  simp only [putS]
  refine wpList_chunk 2 (by kernel_rfl) ?_
  simp only [takS, Nat.reduceAdd]
  repeat (first | go_big_quiet_skip | (go_big_quiet_want; first | (go_big_quiet_op; go_big_quiet_on)))
  refine wpQuiet_nil ?_
  refine wpList_nil ?_
  go_upto_region 2 with fail
  refine wp_region_lit ?_
  try simp only [gelS]
  refine wpList_chunk 2 (by kernel_rfl) ?_
  simp only [takS, Nat.reduceAdd]
  repeat (first | go_big_quiet_skip | (go_big_quiet_want; first | (refine quiet_loadAny (t := 3) rfl _ _ _ rfl (fun w hw => run_load_int ((ov_B b1 w hw).cellL 0 rfl)) (by rfl) ?_; simp only [putS]; go_big_quiet_on) | (refine quiet_loadAny (t := 3) rfl _ _ _ rfl (fun w hw => run_load_int ((ov_B b1 w hw).cellL 1 rfl)) (by rfl) ?_; simp only [putS]; go_big_quiet_on) | (refine quiet_loadAny (t := 3) rfl _ _ _ rfl (fun w hw => run_load_int ((ov_B b1 w hw).cellL 2 rfl)) (by rfl) ?_; simp only [putS]; go_big_quiet_on) | (refine quiet_loadAny (t := 3) rfl _ _ _ rfl (fun w hw => run_load_int ((ov_B b1 w hw).cellL 3 rfl)) (by rfl) ?_; simp only [putS]; go_big_quiet_on) | (go_big_quiet_op; go_big_quiet_on)))
  refine wpQuiet_nil ?_
  refine wpList_callF (by first | rfl | simp [Region.wanted, yielded]) rfl (enters_of Try.func59 (by kernel_rfl) rfl) (by simp only [List.map_toArray, List.map_cons, List.map_nil, Act.eval, Array.getD_eq_getD_getElem?, List.getElem?_toArray, List.getElem?_cons_succ, List.getElem?_cons_zero, Option.getD_some]; rfl) ?_
  refine (R3_restO b 40 rb (by omega) Hb.out _).mono ?_
  rintro e wn ⟨rfl, hbn⟩
  have hsz := B.size
  have hzn := hbn.size
  replace B := B.trans (hbn.mono B.size)
  (try replace b1 := b1.below hbn)
  (try replace r2 := r2.below hbn)
  refine ⟨_, rfl, ?_⟩
  simp only [putS]
  refine wpList_chunk 2 (by kernel_rfl) ?_
  simp only [takS, Nat.reduceAdd]
  repeat (first | go_big_quiet_skip | (go_big_quiet_want; first | (go_big_quiet_op; go_big_quiet_on)))
  refine wpQuiet_nil ?_
  refine wpList_nil ?_
  go_upto_region 3 with fail
  try simp only [gelS]
  try have lx_b1 := b1.lt
  try have lx_r2 := r2.lt
  refine wp_region_RL 13 [(5, detS ?v2_5), (10, detS ?v2_10)] (by kernel_rfl) (by kernel_rfl) (by kernel_rfl) ?_
  rotate_left 2
  simp only [takS, Nat.reduceAdd]
  refine wpRL_chunk 5 (by kernel_rfl) ?_
  simp only [takS, Nat.reduceAdd]
  repeat (first | go_big_quiet_skip | (go_big_quiet_want; first | (refine quiet_loadAny (t := 3) rfl _ _ _ rfl (fun w hw => run_load_int ((ov_B b1 w hw).cellL 0 rfl)) (by rfl) ?_; simp only [putS]; go_big_quiet_on) | (refine quiet_loadAny (t := 3) rfl _ _ _ rfl (fun w hw => run_load_int ((ov_B b1 w hw).cellL 1 rfl)) (by rfl) ?_; simp only [putS]; go_big_quiet_on) | (refine quiet_loadAny (t := 3) rfl _ _ _ rfl (fun w hw => run_load_int ((ov_B b1 w hw).cellL 2 rfl)) (by rfl) ?_; simp only [putS]; go_big_quiet_on) | (refine quiet_loadAny (t := 3) rfl _ _ _ rfl (fun w hw => run_load_int ((ov_B b1 w hw).cellL 3 rfl)) (by rfl) ?_; simp only [putS]; go_big_quiet_on) | (go_big_quiet_op; go_big_quiet_on)))
  refine wpQuiet_nil ?_
  refine wpRL_callB (by rfl) (by first | rfl | simp [Region.wanted, yielded]) ?_ ?_
  · intro wn hbn hE Kx hKx
    have hsz := B.size
    have hzn := hbn.size
    replace B := B.trans (hbn.mono B.size)
    (try replace b1 := b1.below hbn)
    (try replace r2 := r2.below hbn)
    refine wp_callF rfl (enters_of Try.func59 (by kernel_rfl) rfl) (by simp only [List.map_toArray, List.map_cons, List.map_nil, Act.eval, Array.getD_eq_getD_getElem?, List.getElem?_toArray, List.getElem?_cons_succ, List.getElem?_cons_zero, Option.getD_some]; rfl) ?_
    refine (R3_restO c 40 rc (by omega) Hc.out wn).mono ?_
    rintro e wm ⟨rfl, hbm⟩
    refine ⟨_, rfl, ?_⟩
    have hz := hKx () wm trivial hbm
    dsimp only [detS] at hz
    exact hz
  rintro ⟨⟩
  dsimp only [detS]
  simp only [putS]
  refine wpRL_chunk 4 (by kernel_rfl) ?_
  simp only [takS, Nat.reduceAdd]
  repeat (first | go_big_quiet_skip | (go_big_quiet_want; first | (refine quiet_loadAny (t := 3) rfl _ _ _ rfl (fun w hw => run_load_int ((ov_B b1 w hw).cellL 0 rfl)) (by rfl) ?_; simp only [putS]; go_big_quiet_on) | (refine quiet_loadAny (t := 3) rfl _ _ _ rfl (fun w hw => run_load_int ((ov_B b1 w hw).cellL 1 rfl)) (by rfl) ?_; simp only [putS]; go_big_quiet_on) | (refine quiet_loadAny (t := 3) rfl _ _ _ rfl (fun w hw => run_load_int ((ov_B b1 w hw).cellL 2 rfl)) (by rfl) ?_; simp only [putS]; go_big_quiet_on) | (refine quiet_loadAny (t := 3) rfl _ _ _ rfl (fun w hw => run_load_int ((ov_B b1 w hw).cellL 3 rfl)) (by rfl) ?_; simp only [putS]; go_big_quiet_on) | (go_big_quiet_op; go_big_quiet_on)))
  refine wpQuiet_nil ?_
  refine wpRL_callB (by rfl) (by first | rfl | simp [Region.wanted, yielded]) ?_ ?_
  · intro wn hbn hE Kx hKx
    have hsz := B.size
    have hzn := hbn.size
    replace B := B.trans (hbn.mono B.size)
    (try replace b1 := b1.below hbn)
    (try replace r2 := r2.below hbn)
    refine wp_callF rfl (enters_of Try.func59 (by kernel_rfl) rfl) (by simp only [List.map_toArray, List.map_cons, List.map_nil, Act.eval, Array.getD_eq_getD_getElem?, List.getElem?_toArray, List.getElem?_cons_succ, List.getElem?_cons_zero, Option.getD_some]; rfl) ?_
    refine (R3_restO d 40 rd (by omega) Hd.out wn).mono ?_
    rintro e wm ⟨rfl, hbm⟩
    refine ⟨_, rfl, ?_⟩
    have hz := hKx () wm trivial hbm
    dsimp only [detS] at hz
    exact hz
  rintro ⟨⟩
  dsimp only [detS]
  simp only [putS]
  refine wpRL_chunk 2 (by kernel_rfl) ?_
  simp only [takS, Nat.reduceAdd]
  repeat (first | go_big_quiet_skip | (go_big_quiet_want; first | (go_big_quiet_op; go_big_quiet_on)))
  refine wpQuiet_nil ?_
  refine wpRL_nil ?_
  intro wn hbn hE
  have hsz := B.size
  have hzn := hbn.size
  replace B := B.trans (hbn.mono B.size)
  (try replace b1 := b1.below hbn)
  (try replace r2 := r2.below hbn)
  clear hE
  try simp only [List.drop_succ_cons, List.drop_zero]
  go_wp2_with (first | (refine wpList_storeB (t := 31) rfl _ _ rfl _ rfl _ rfl r2 (by kernel_rfl) rfl (by simp [rcA, pxC4, Value.oneCell']) ?_; clear r2; intro wn ht hcn hzn; have hsz := B.size; replace hzn := Nat.le_of_eq hzn.symm; replace B := Chg.below B hcn (by omega) B.size; (try replace b1 := b1.of_eq (hcn.block _ b1.lt (by omega))); have r2 := ht; clear ht; simp only [putS]) | fail)
  refine NoPan.normal ?_
  go_wp2
  refine bodyPost_ret (results_B (t := 31) rfl _ _ (b_r2) rfl r2 Try.isAgg31 (by kernel_rfl)) rfl ?_
  exact ⟨rfl, B⟩
/- The reference's Inverse. -/
def setsI (r : Rc) (ls : List TA) (k : Nat) : List TA := setsK r (invF ls) (fun x y => decide (0 < 255 - (getL ls x y).a)) k
def invS (r : Rc) (ls : List TA) : List TA := if fitsE r = 0 then setsI r ls (areaN r) else []
/- For the laws of chapter 15 that invert or fill: what both ways of inverting return; '==' of rasters, cropping. -/
theorem invR_tok {r : Rc} {ls : List TA} (tk : TokL ls) : TokL (invR r ls) := by
  unfold invR
  split
  · exact pstR_tok (paintL_ok (invF_ok tk)) TokL.nil
  · exact TokL.nil
theorem invR_valid (r : Rc) (ls : List TA) : validL (invR r ls) = true := by
  unfold invR
  split
  · exact pstR_valid _ _ _
  · exact validL_nil
theorem valid_len {ls : List TA} (h : validL ls = true) : ls.length ≤ maxLen := by
  have := (validL_iff.1 h).1
  unfold maxLen
  omega
theorem P_EqualT (v u : Value) (ls ks : List TA) (w : World) (h : RS v ls w) (h' : RS u ks w) (tk : TokL ls) (tk' : TokL ks) (hn : ls.length ≤ maxLen) (hn' : ks.length ≤ maxLen) (e : eqL (fineL ls) (fineL ks) = true) : Calls Try.prog 32 #[.agg #[v], .agg #[u]] w fun e w' => e = .returned (.bool true) ∧ Below w.heap.size w w' := e ▸ P_Equal v u ls ks w h h' tk tk' hn hn'
theorem P_CropA (v : Value) (ls ks : List TA) (cc : Rc) (w : World) (h : RS v ls w) (tk : TokL ls) (hn : ls.length ≤ maxLen) (hv : validL ls = true) (e : cropL cc ls = ks) : Calls Try.prog 33 #[.agg #[v], .agg (rcA cc)] w fun e w' => ∃ v', e = .returned (.agg #[v']) ∧ RS v' ks w' ∧ Below w.heap.size w w' := P_CropV v ls ks cc w h tk hn hv e
theorem inverse_P (M : List TA) (tk : TokL M) (hv : validL M = true) (r : Rc) (hE : fitsE r = 0) (hA : tlN r ≤ 1000) (X : List TA) (e : invL r M = X) : TokL X ∧ validL X = true ∧
    (∀ (v : Value) (w : World), RS v M w → Calls Try.prog 24 #[.agg #[v], .agg (rcA r)] w fun e w' => ∃ a c, e = .returned (.tuple #[.agg #[.slice a X.length c], .int .i64 0]) ∧ RS (.slice a X.length c) X w' ∧ Below w.heap.size w w') := by
  have e1 : invR r M = X := by unfold invR; rw [if_pos hE]; exact e
  rw [← e1]
  refine ⟨invR_tok tk, invR_valid r M, fun v w h => ?_⟩
  have := P_Inverse v M r w h tk (valid_len hv) hv (fun _ => hA)
  rw [hE] at this
  exact this
set_option maxHeartbeats 16000000 in
theorem walk_SelectionComplements (v0 : Value) (q : List Int) (n0 n1 n2 n3 : Int) (hw : (Lit.int .i64 n0).wf = true ∧ (Lit.int .i64 n1).wf = true ∧ (Lit.int .i64 n2).wf = true ∧ (Lit.int .i64 n3).wf = true) (w : World) (h0 : RSE inE v0 q w) (hn0 : q.length ≤ 17592186044416) (hwf : WfL q) : Calls Try.prog 8 #[v0, .agg #[.int .i64 n0, .int .i64 n1, .int .i64 n2, .int .i64 n3]] w fun e w' => e = .returned (.bool true) ∧ Below w.heap.size w w' := by
  have B := Below.refl w.heap.size w
  obtain ⟨a0, c0, rfl, hc0⟩ := h0.len
  have H0 := Lib.hid h0
  have HMP := maskG_P q
  have HMK := Lib.hid (show ∀ W, RSE inE (.slice a0 q.length c0) q W → Calls Try.prog 19 #[.slice a0 q.length c0] W fun e w' => ∃ a c, e = .returned (.agg #[.slice a (maskG q).length c]) ∧ RS (.slice a (maskG q).length c) (maskG q) w' ∧ Below W.heap.size W w' from fun W h => R_Mask _ q W h hn0 hwf)
  generalize maskG q = M at *
  clear h0 hn0 hwf hw
  obtain ⟨k2, hk2⟩ : ∃ r, n2 % 20 = r := ⟨_, rfl⟩
  have bk2 : 0 ≤ k2 ∧ k2 ≤ 19 := by omega
  have Hk2 := Lib.hid hk2
  clear hk2
  obtain ⟨k3, hk3⟩ : ∃ r, n3 % 20 = r := ⟨_, rfl⟩
  have bk3 : 0 ≤ k3 ∧ k3 ≤ 19 := by omega
  have Hk3 := Lib.hid hk3
  clear hk3
  obtain ⟨sr, hsr⟩ : ∃ s, smR n0 n1 (1 + k2) (1 + k3) = s := ⟨_, rfl⟩
  have HS := Lib.hid (show ∀ W, Calls Try.prog 23 #[.agg #[.int .i64 n0, .int .i64 n1, .int .i64 (1 + k2), .int .i64 (1 + k3)]] W fun e w' => e = .returned (.agg (rcA sr)) ∧ Below W.heap.size W w' from fun W => hsr ▸ R_SmallR n0 n1 (1 + k2) (1 + k3) W)
  have hsb : (-20 ≤ sr.x0 ∧ sr.x0 ≤ 19) ∧ (-20 ≤ sr.y0 ∧ sr.y0 ≤ 19) ∧ (1 ≤ sr.x1 - sr.x0 ∧ sr.x1 - sr.x0 ≤ 20) ∧ (1 ≤ sr.y1 - sr.y0 ∧ sr.y1 - sr.y0 ≤ 20) := by
    rw [← hsr]
    unfold smR
    simp only
    omega
  obtain ⟨⟨s1, s2⟩, ⟨s3, s4⟩, ⟨s5, s6⟩, s7, s8⟩ := hsb
  have hE : fitsE sr = 0 := fits_small (by omega) (by omega) (by omega)
  have hA : tlN sr ≤ 1000 := tlN_small hE (by omega)
  obtain ⟨X1, hX1⟩ : ∃ X, invL sr M = X := ⟨_, rfl⟩
  obtain ⟨X2, hX2⟩ : ∃ X, invL sr X1 = X := ⟨_, rfl⟩
  obtain ⟨C, hC⟩ : ∃ C, cropL sr M = C := ⟨_, rfl⟩
  obtain ⟨t1, u1, P1⟩ := inverse_P M HMP.t HMP.v sr hE hA X1 hX1
  obtain ⟨t2, u2, P2⟩ := inverse_P X1 t1 u1 sr hE hA X2 hX2
  have uC : validL C = true := by rw [← hC]; exact cropL_valid HMP.v sr
  have tC : TokL C := by rw [← hC]; exact cropL_tok HMP.t _
  have hEq : eqL (fineL X2) (fineL C) = true := by
    rw [fineL_of u2, fineL_of uC, ← hX2, ← hX1, ← hC]
    exact inv_twice hE hA HMP
  have hSum : ∀ x y, hasR sr x y = true → (getL M x y).a + (getL X1 x y).a = 255 := fun x y h => by rw [← hX1]; exact inv_sum hE hA M h
  obtain ⟨X, hX⟩ : ∃ X, wrap64 (n0 * 7) % (sr.x1 - sr.x0) = X := ⟨_, rfl⟩
  obtain ⟨Y, hY⟩ : ∃ Y, wrap64 (n1 * 5) % (sr.y1 - sr.y0) = Y := ⟨_, rfl⟩
  have bX : 0 ≤ X ∧ X < sr.x1 - sr.x0 := by rw [← hX]; exact ⟨Int.emod_nonneg _ (by omega), Int.emod_lt_of_pos _ (by omega)⟩
  have bY : 0 ≤ Y ∧ Y < sr.y1 - sr.y0 := by rw [← hY]; exact ⟨Int.emod_nonneg _ (by omega), Int.emod_lt_of_pos _ (by omega)⟩
  have HX := Lib.hid hX
  have HY := Lib.hid hY
  have hs := hSum (sr.x0 + X) (sr.y0 + Y) ((hasR_iff _ _ _).2 (by omega))
  have ok1 := getL_okL HMP.t (sr.x0 + X) (sr.y0 + Y)
  have ok2 := getL_okL t1 (sr.x0 + X) (sr.y0 + Y)
  obtain ⟨⟨p1, p2, p3, p4⟩, hp⟩ : ∃ p, getL M (sr.x0 + X) (sr.y0 + Y) = p := ⟨_, rfl⟩
  obtain ⟨⟨o1, o2, o3, o4⟩, ho⟩ : ∃ p, getL X1 (sr.x0 + X) (sr.y0 + Y) = p := ⟨_, rfl⟩
  rw [hp] at ok1 hs
  rw [ho] at ok2 hs
  obtain ⟨_, _, _, m1, m2⟩ := ok1
  obtain ⟨_, _, _, m3, m4⟩ := ok2
  simp only at m1 m2 m3 m4 hs
  obtain rfl : o4 = 255 - p4 := by omega
  have hsum : p4 + (255 - p4) = 255 := by omega
  have HP := Lib.hid hp
  have HO := Lib.hid ho
  have HM := Lib.hid HMP
  have HC := Lib.hid hC
  have HT := Lib.hid (show TokL X1 ∧ TokL X2 ∧ TokL C from ⟨t1, t2, tC⟩)
  have HL := Lib.hid (show M.length ≤ maxLen ∧ X1.length ≤ maxLen ∧ X2.length ≤ maxLen ∧ C.length ≤ maxLen from ⟨valid_len HMP.v, valid_len u1, valid_len u2, valid_len uC⟩)
  have HEq := Lib.hid hEq
  have HP1 := Lib.hid P1
  have HP2 := Lib.hid P2
  have wx : (Lit.int .i64 (sr.x0 + X)).wf = true := wf_mk (by omega) (by omega)
  have wy : (Lit.int .i64 (sr.y0 + Y)).wf = true := wf_mk (by omega) (by omega)
  clear hsr hX1 hX2 hC t1 u1 P1 t2 u2 P2 uC tC hEq hSum hX hY hs hp ho HMP hE hA
  go_enter Try.func8, Try.ntmps8
  go_upto_region 0 with fail
  refine wp_region_lit ?_
  try simp only [gelS]
  (refine wpList_boxB (t := 46) rfl _ rfl _ rfl ?_; intro b_b3 wn hle hge ht hbn hzn; have hsz := B.size; replace B := B.trans (hbn.mono (by omega)); have hln := Nat.lt_of_lt_of_eq (Nat.lt_succ_self _) hzn.symm; clear hzn; have b3 := ht; clear ht; simp only [putS])
  refine wpList_chunk 1 (by kernel_rfl) ?_
  simp only [takS, Nat.reduceAdd]
  repeat (first | go_big_quiet_skip | (go_big_quiet_want; first | (go_big_quiet_op; go_big_quiet_on)))
  refine wpQuiet_nil ?_
  refine wpList_nil ?_
  go_upto_region 1 with fail
  refine wp_region_lit ?_
  try simp only [gelS]
  refine wpList_callF (by first | rfl | simp [Region.wanted, yielded]) rfl (enters_of Try.func10 (by kernel_rfl) rfl) (by simp only [List.map_toArray, List.map_cons, List.map_nil, Act.eval, Array.getD_eq_getD_getElem?, List.getElem?_toArray, List.getElem?_cons_succ, List.getElem?_cons_zero, Option.getD_some]; rfl) ?_
  refine (sanity15 _).mono ?_
  rintro e wn ⟨rfl, hbn⟩
  have hsz := B.size
  have hzn := hbn.size
  replace B := B.trans (hbn.mono B.size)
  (try replace b3 := b3.below hbn)
  refine ⟨_, rfl, ?_⟩
  simp only [putS]
  refine wpList_chunk 1 (by kernel_rfl) ?_
  simp only [takS, Nat.reduceAdd]
  repeat (first | go_big_quiet_skip | (go_big_quiet_want; first | (go_big_quiet_op; go_big_quiet_on)))
  refine wpQuiet_nil ?_
  refine wpList_nil ?_
  go_upto_region 2 with fail
  refine wp_region_lit ?_
  try simp only [gelS]
  refine wpList_chunk 1 (by kernel_rfl) ?_
  simp only [takS, Nat.reduceAdd]
  repeat (first | go_big_quiet_skip | (go_big_quiet_want; first | (go_big_quiet_op; go_big_quiet_on)))
  refine wpQuiet_nil ?_
  refine wpList_callF (by first | rfl | simp [Region.wanted, yielded]) rfl (enters_of Try.func19 (by kernel_rfl) rfl) (by simp only [List.map_toArray, List.map_cons, List.map_nil, Act.eval, Array.getD_eq_getD_getElem?, List.getElem?_toArray, List.getElem?_cons_succ, List.getElem?_cons_zero, Option.getD_some]; rfl) ?_
  refine (HMK.out _ (H0.out.below B)).mono ?_
  rintro e wn ⟨a1, c1, rfl, rs1, hbn⟩
  have hsz := B.size
  have hzn := hbn.size
  replace B := B.trans (hbn.mono B.size)
  (try replace b3 := b3.below hbn)
  (try replace rs1 := rs1.below hbn)
  refine ⟨_, rfl, ?_⟩
  simp only [putS]
  (refine wpList_allocBk (t := 36) rfl _ (run_alloc_R _ _ rfl) ?_; intro b_r6 wn hle hge ht hbn hzn; have hsz := B.size; replace B := B.trans (hbn.mono (by omega)); have hln := Nat.lt_of_lt_of_eq (Nat.lt_succ_self _) hzn.symm; clear hzn; (try have hlt := b3.lt); (try replace b3 := b3.below (hbn.mono hle)); (try have hlt := rs1.lt); (try replace rs1 := rs1.below (hbn.mono hle)); have r6 := ht; clear ht; simp only [putS])
  (refine wpList_storeB (t := 36) rfl _ _ rfl _ rfl _ rfl r6 (by kernel_rfl) rfl (by simp [rcA, Value.oneCell']) ?_; have r6o := r6; clear r6; intro wn ht hcn hzn; (try replace rs1 := rs1.chg r6o (by simp [rcA]) hcn); (try replace rs2 := rs2.chg r6o (by simp [rcA]) hcn); (try replace rs3 := rs3.chg r6o (by simp [rcA]) hcn); have hsz := B.size; replace hzn := Nat.le_of_eq hzn.symm; replace B := Chg.below B hcn (by omega) B.size; (try replace b3 := b3.of_eq (hcn.block _ b3.lt (by omega))); (try replace rs1 := rs1.of_eq (hcn.block _ rs1.lt (by omega))); have r6 := ht; clear ht; simp only [putS])
  refine wpList_nil ?_
  go_upto_region 3 with fail
  try simp only [gelS]
  try have lx_b3 := b3.lt
  try have lx_r6 := r6.lt
  try have lx_rs1 := rs1.lt
  refine wp_region_RL 15 [(6, detS ?v1_6), (10, detS ?v1_10), (13, detS ?v1_13), (14, ptrS (wn.heap.size) 31 #[.int .i64 0, .int .i64 0, .int .i64 0, .int .i64 0])] (by kernel_rfl) (by kernel_rfl) (by kernel_rfl) ?_
  rotate_left 3
  simp only [takS, Nat.reduceAdd]
  refine wpRL_chunk 6 (by kernel_rfl) ?_
  simp only [takS, Nat.reduceAdd]
  repeat (first | go_big_quiet_skip | (go_big_quiet_want; first | (refine quiet_loadAny (t := 3) rfl _ _ _ rfl (fun w hw => run_load_int ((ov_B b3 w hw).cellL 0 rfl)) (by rfl) ?_; simp only [putS]; go_big_quiet_on) | (refine quiet_loadAny (t := 3) rfl _ _ _ rfl (fun w hw => run_load_int ((ov_B b3 w hw).cellL 1 rfl)) (by rfl) ?_; simp only [putS]; go_big_quiet_on) | (refine quiet_loadAny (t := 3) rfl _ _ _ rfl (fun w hw => run_load_int ((ov_B b3 w hw).cellL 2 rfl)) (by rfl) ?_; simp only [putS]; go_big_quiet_on) | (refine quiet_loadAny (t := 3) rfl _ _ _ rfl (fun w hw => run_load_int ((ov_B b3 w hw).cellL 3 rfl)) (by rfl) ?_; simp only [putS]; go_big_quiet_on) | (refine quiet_loadAny (t := 3) rfl _ _ _ rfl (fun w hw => run_load_int ((ov_B b7 w hw).cellL 0 rfl)) (by rfl) ?_; simp only [putS]; go_big_quiet_on) | (refine quiet_loadAny (t := 3) rfl _ _ _ rfl (fun w hw => run_load_int ((ov_B b7 w hw).cellL 1 rfl)) (by rfl) ?_; simp only [putS]; go_big_quiet_on) | (refine quiet_loadAny (t := 3) rfl _ _ _ rfl (fun w hw => run_load_int ((ov_B b7 w hw).cellL 2 rfl)) (by rfl) ?_; simp only [putS]; go_big_quiet_on) | (refine quiet_loadAny (t := 3) rfl _ _ _ rfl (fun w hw => run_load_int ((ov_B b7 w hw).cellL 3 rfl)) (by rfl) ?_; simp only [putS]; go_big_quiet_on) | (go_big_quiet_op; go_big_quiet_on)))
  refine wpQuiet_nil ?_
  refine wpRL_callB (by rfl) (by first | rfl | simp [Region.wanted, yielded]) ?_ ?_
  · intro wn hbn hE Kx hKx
    have hsz := B.size
    have hzn := hbn.size
    replace B := B.trans (hbn.mono B.size)
    (try replace b3 := b3.below hbn)
    (try replace r6 := r6.below hbn)
    (try replace b7 := b7.below hbn)
    (try replace rs1 := rs1.below hbn)
    refine wp_callF rfl (enters_of Try.func12 (by kernel_rfl) rfl) (by simp only [List.map_toArray, List.map_cons, List.map_nil, Act.eval, Array.getD_eq_getD_getElem?, List.getElem?_toArray, List.getElem?_cons_succ, List.getElem?_cons_zero, Option.getD_some]; rfl) ?_
    refine (L15_restO n2 20 k2 (by omega) Hk2.out wn).mono ?_
    rintro e wm ⟨rfl, hbm⟩
    refine ⟨_, rfl, ?_⟩
    have hz := hKx () wm trivial hbm
    dsimp only [detS] at hz
    exact hz
  rintro ⟨⟩
  dsimp only [detS]
  simp only [putS]
  refine wpRL_chunk 3 (by kernel_rfl) ?_
  simp only [takS, Nat.reduceAdd]
  repeat (first | go_big_quiet_skip | (go_big_quiet_want; first | (refine quiet_loadAny (t := 3) rfl _ _ _ rfl (fun w hw => run_load_int ((ov_B b3 w hw).cellL 0 rfl)) (by rfl) ?_; simp only [putS]; go_big_quiet_on) | (refine quiet_loadAny (t := 3) rfl _ _ _ rfl (fun w hw => run_load_int ((ov_B b3 w hw).cellL 1 rfl)) (by rfl) ?_; simp only [putS]; go_big_quiet_on) | (refine quiet_loadAny (t := 3) rfl _ _ _ rfl (fun w hw => run_load_int ((ov_B b3 w hw).cellL 2 rfl)) (by rfl) ?_; simp only [putS]; go_big_quiet_on) | (refine quiet_loadAny (t := 3) rfl _ _ _ rfl (fun w hw => run_load_int ((ov_B b3 w hw).cellL 3 rfl)) (by rfl) ?_; simp only [putS]; go_big_quiet_on) | (refine quiet_loadAny (t := 3) rfl _ _ _ rfl (fun w hw => run_load_int ((ov_B b7 w hw).cellL 0 rfl)) (by rfl) ?_; simp only [putS]; go_big_quiet_on) | (refine quiet_loadAny (t := 3) rfl _ _ _ rfl (fun w hw => run_load_int ((ov_B b7 w hw).cellL 1 rfl)) (by rfl) ?_; simp only [putS]; go_big_quiet_on) | (refine quiet_loadAny (t := 3) rfl _ _ _ rfl (fun w hw => run_load_int ((ov_B b7 w hw).cellL 2 rfl)) (by rfl) ?_; simp only [putS]; go_big_quiet_on) | (refine quiet_loadAny (t := 3) rfl _ _ _ rfl (fun w hw => run_load_int ((ov_B b7 w hw).cellL 3 rfl)) (by rfl) ?_; simp only [putS]; go_big_quiet_on) | (go_big_quiet_op; go_big_quiet_on)))
  refine wpQuiet_nil ?_
  refine wpRL_callB (by rfl) (by first | rfl | simp [Region.wanted, yielded]) ?_ ?_
  · intro wn hbn hE Kx hKx
    have hsz := B.size
    have hzn := hbn.size
    replace B := B.trans (hbn.mono B.size)
    (try replace b3 := b3.below hbn)
    (try replace r6 := r6.below hbn)
    (try replace b7 := b7.below hbn)
    (try replace rs1 := rs1.below hbn)
    refine wp_callF rfl (enters_of Try.func12 (by kernel_rfl) rfl) (by simp only [List.map_toArray, List.map_cons, List.map_nil, Act.eval, Array.getD_eq_getD_getElem?, List.getElem?_toArray, List.getElem?_cons_succ, List.getElem?_cons_zero, Option.getD_some]; rfl) ?_
    refine (L15_restO n3 20 k3 (by omega) Hk3.out wn).mono ?_
    rintro e wm ⟨rfl, hbm⟩
    refine ⟨_, rfl, ?_⟩
    have hz := hKx () wm trivial hbm
    dsimp only [detS] at hz
    exact hz
  rintro ⟨⟩
  dsimp only [detS]
  simp only [putS]
  refine wpRL_chunk 2 (by kernel_rfl) ?_
  simp only [takS, Nat.reduceAdd]
  repeat (first | go_big_quiet_skip | (go_big_quiet_want; first | (go_big_quiet_op; go_big_quiet_on)))
  refine wpQuiet_nil ?_
  refine wpRL_callB (by rfl) (by first | rfl | simp [Region.wanted, yielded]) ?_ ?_
  · intro wn hbn hE Kx hKx
    have hsz := B.size
    have hzn := hbn.size
    replace B := B.trans (hbn.mono B.size)
    (try replace b3 := b3.below hbn)
    (try replace r6 := r6.below hbn)
    (try replace b7 := b7.below hbn)
    (try replace rs1 := rs1.below hbn)
    refine wp_callF rfl (enters_of Try.func23 (by kernel_rfl) rfl) (by simp only [List.map_toArray, List.map_cons, List.map_nil, Act.eval, Array.getD_eq_getD_getElem?, List.getElem?_toArray, List.getElem?_cons_succ, List.getElem?_cons_zero, Option.getD_some]; rfl) ?_
    refine (HS.out wn).mono ?_
    rintro e wm ⟨rfl, hbm⟩
    refine ⟨_, rfl, ?_⟩
    have hz := hKx () wm trivial hbm
    dsimp only [detS] at hz
    exact hz
  rintro ⟨⟩
  dsimp only [detS]
  simp only [putS]
  refine wpRL_callB (by rfl) (by first | rfl | simp [Region.wanted, yielded]) ?_ ?_
  · intro wn hbn hE Kx hKx
    have hsz := B.size
    have hzn := hbn.size
    replace B := B.trans (hbn.mono B.size)
    (try replace b3 := b3.below hbn)
    (try replace r6 := r6.below hbn)
    (try replace b7 := b7.below hbn)
    (try replace rs1 := rs1.below hbn)
    refine owp_allocBk (t := 31) _ (run_alloc_Rc _ _ rfl) ?_
    intro b wm h1 h2 ht hbm hzm
    exact hKx b wm ⟨Nat.le_trans hbn.size h1, ht⟩ (hbm.mono h1)
  rintro b_b7
  dsimp only [detS, ptrS]
  simp only [putS]
  refine wpRL_nil ?_
  intro wn hbn hE
  have hsz := B.size
  have hzn := hbn.size
  replace B := B.trans (hbn.mono B.size)
  (try replace b3 := b3.below hbn)
  (try replace r6 := r6.below hbn)
  (try replace b7 := b7.below hbn)
  (try replace rs1 := rs1.below hbn)
  obtain ⟨hge_b7, b7⟩ : _ ∧ AtB _ _ _ _ := hE 14
  clear hE
  try simp only [List.drop_succ_cons, List.drop_zero]
  go_wp2_with (first | (refine wpList_storeB (t := 31) rfl _ _ rfl _ rfl _ rfl b7 (by kernel_rfl) rfl (by simp [rcA, Value.oneCell']) ?_; have b7o := b7; clear b7; intro wn ht hcn hzn; (try replace rs1 := rs1.chg b7o (by simp [rcA]) hcn); (try replace rs2 := rs2.chg b7o (by simp [rcA]) hcn); (try replace rs3 := rs3.chg b7o (by simp [rcA]) hcn); have hsz := B.size; replace hzn := Nat.le_of_eq hzn.symm; replace B := Chg.below B hcn (by omega) B.size; (try replace b3 := b3.of_eq (hcn.block _ b3.lt (by omega))); (try replace r6 := r6.of_eq (hcn.block _ r6.lt (by omega))); (try replace r8 := r8.of_eq (hcn.block _ r8.lt (by omega))); (try replace r10 := r10.of_eq (hcn.block _ r10.lt (by omega))); (try replace rs1 := rs1.of_eq (hcn.block _ rs1.lt (by omega))); (try replace rs2 := rs2.of_eq (hcn.block _ rs2.lt (by omega))); (try replace rs3 := rs3.of_eq (hcn.block _ rs3.lt (by omega))); have b7 := ht; clear ht; simp only [putS]) | fail)
  refine NoPan.normal ?_
  replace b7 : AtB 31 _ b_b7 (rcA sr) := b7
  go_upto_region 4 with fail
  refine wp_region_lit ?_
  try simp only [gelS]
  refine wpList_chunk 2 (by kernel_rfl) ?_
  simp only [takS, Nat.reduceAdd]
  repeat (first | go_big_quiet_skip | (go_big_quiet_want; first | (refine quiet_loadAny (t := 36) rfl _ _ _ rfl (fun w hw => run_load_B (ov_B r6 w hw) Try.isAgg36 (by kernel_rfl)) (by rfl) ?_; simp only [putS]; go_big_quiet_on) | (refine quiet_loadAny (t := 36) rfl _ _ _ rfl (fun w hw => run_load_B (ov_B r8 w hw) Try.isAgg36 (by kernel_rfl)) (by rfl) ?_; simp only [putS]; go_big_quiet_on) | (refine quiet_loadAny (t := 36) rfl _ _ _ rfl (fun w hw => run_load_B (ov_B r10 w hw) Try.isAgg36 (by kernel_rfl)) (by rfl) ?_; simp only [putS]; go_big_quiet_on) | (refine quiet_loadAny (t := 31) rfl _ _ _ rfl (fun w hw => run_load_B (ov_B b7 w hw) Try.isAgg31 (by kernel_rfl)) (by rfl) ?_; simp only [putS]; go_big_quiet_on) | (go_big_quiet_op; go_big_quiet_on)))
  refine wpQuiet_nil ?_
  refine wpList_callF (by first | rfl | simp [Region.wanted, yielded]) rfl (enters_of Try.func24 (by kernel_rfl) rfl) (by simp only [List.map_toArray, List.map_cons, List.map_nil, Act.eval, Array.getD_eq_getD_getElem?, List.getElem?_toArray, List.getElem?_cons_succ, List.getElem?_cons_zero, Option.getD_some]; rfl) ?_
  refine (HP1.out _ _ rs1).mono ?_
  rintro e wn ⟨a2, c2, rfl, rs2, hbn⟩
  have hsz := B.size
  have hzn := hbn.size
  replace B := B.trans (hbn.mono B.size)
  (try replace b3 := b3.below hbn)
  (try replace r6 := r6.below hbn)
  (try replace b7 := b7.below hbn)
  (try replace r8 := r8.below hbn)
  (try replace r10 := r10.below hbn)
  (try replace rs1 := rs1.below hbn)
  (try replace rs2 := rs2.below hbn)
  refine ⟨_, rfl, ?_⟩
  simp only [putS]
  refine wpList_chunk 3 (by kernel_rfl) ?_
  simp only [takS, Nat.reduceAdd]
  repeat (first | go_big_quiet_skip | (go_big_quiet_want; first | (go_big_quiet_op; go_big_quiet_on)))
  refine wpQuiet_nil ?_
  (refine wpList_allocBk (t := 36) rfl _ (run_alloc_R _ _ rfl) ?_; intro b_r8 wn hle hge ht hbn hzn; have hsz := B.size; replace B := B.trans (hbn.mono (by omega)); have hln := Nat.lt_of_lt_of_eq (Nat.lt_succ_self _) hzn.symm; clear hzn; (try have hlt := b3.lt); (try replace b3 := b3.below (hbn.mono hle)); (try have hlt := r6.lt); (try replace r6 := r6.below (hbn.mono hle)); (try have hlt := b7.lt); (try replace b7 := b7.below (hbn.mono hle)); (try have hlt := r8.lt); (try replace r8 := r8.below (hbn.mono hle)); (try have hlt := r10.lt); (try replace r10 := r10.below (hbn.mono hle)); (try have hlt := rs1.lt); (try replace rs1 := rs1.below (hbn.mono hle)); (try have hlt := rs2.lt); (try replace rs2 := rs2.below (hbn.mono hle)); have r8 := ht; clear ht; simp only [putS])
  (refine wpList_storeB (t := 36) rfl _ _ rfl _ rfl _ rfl r8 (by kernel_rfl) rfl (by simp [rcA, Value.oneCell']) ?_; have r8o := r8; clear r8; intro wn ht hcn hzn; (try replace rs1 := rs1.chg r8o (by simp [rcA]) hcn); (try replace rs2 := rs2.chg r8o (by simp [rcA]) hcn); (try replace rs3 := rs3.chg r8o (by simp [rcA]) hcn); have hsz := B.size; replace hzn := Nat.le_of_eq hzn.symm; replace B := Chg.below B hcn (by omega) B.size; (try replace b3 := b3.of_eq (hcn.block _ b3.lt (by omega))); (try replace r6 := r6.of_eq (hcn.block _ r6.lt (by omega))); (try replace b7 := b7.of_eq (hcn.block _ b7.lt (by omega))); (try replace r10 := r10.of_eq (hcn.block _ r10.lt (by omega))); (try replace rs1 := rs1.of_eq (hcn.block _ rs1.lt (by omega))); (try replace rs2 := rs2.of_eq (hcn.block _ rs2.lt (by omega))); have r8 := ht; clear ht; simp only [putS])
  refine wpList_chunk 1 (by kernel_rfl) ?_
  simp only [takS, Nat.reduceAdd]
  repeat (first | go_big_quiet_skip | (go_big_quiet_want; first | (go_big_quiet_op; go_big_quiet_on)))
  refine wpQuiet_nil ?_
  refine wpList_nil ?_
  go_upto_region 5 with fail
  refine wp_region_lit ?_
  try simp only [gelS]
  refine wpList_chunk 2 (by kernel_rfl) ?_
  simp only [takS, Nat.reduceAdd]
  repeat (first | go_big_quiet_skip | (go_big_quiet_want; first | (refine quiet_loadAny (t := 36) rfl _ _ _ rfl (fun w hw => run_load_B (ov_B r6 w hw) Try.isAgg36 (by kernel_rfl)) (by rfl) ?_; simp only [putS]; go_big_quiet_on) | (refine quiet_loadAny (t := 36) rfl _ _ _ rfl (fun w hw => run_load_B (ov_B r8 w hw) Try.isAgg36 (by kernel_rfl)) (by rfl) ?_; simp only [putS]; go_big_quiet_on) | (refine quiet_loadAny (t := 36) rfl _ _ _ rfl (fun w hw => run_load_B (ov_B r10 w hw) Try.isAgg36 (by kernel_rfl)) (by rfl) ?_; simp only [putS]; go_big_quiet_on) | (refine quiet_loadAny (t := 31) rfl _ _ _ rfl (fun w hw => run_load_B (ov_B b7 w hw) Try.isAgg31 (by kernel_rfl)) (by rfl) ?_; simp only [putS]; go_big_quiet_on) | (go_big_quiet_op; go_big_quiet_on)))
  refine wpQuiet_nil ?_
  refine wpList_callF (by first | rfl | simp [Region.wanted, yielded]) rfl (enters_of Try.func24 (by kernel_rfl) rfl) (by simp only [List.map_toArray, List.map_cons, List.map_nil, Act.eval, Array.getD_eq_getD_getElem?, List.getElem?_toArray, List.getElem?_cons_succ, List.getElem?_cons_zero, Option.getD_some]; rfl) ?_
  refine (HP2.out _ _ rs2).mono ?_
  rintro e wn ⟨a3, c3, rfl, rs3, hbn⟩
  have hsz := B.size
  have hzn := hbn.size
  replace B := B.trans (hbn.mono B.size)
  (try replace b3 := b3.below hbn)
  (try replace r6 := r6.below hbn)
  (try replace b7 := b7.below hbn)
  (try replace r8 := r8.below hbn)
  (try replace r10 := r10.below hbn)
  (try replace rs1 := rs1.below hbn)
  (try replace rs2 := rs2.below hbn)
  (try replace rs3 := rs3.below hbn)
  refine ⟨_, rfl, ?_⟩
  simp only [putS]
  refine wpList_chunk 3 (by kernel_rfl) ?_
  simp only [takS, Nat.reduceAdd]
  repeat (first | go_big_quiet_skip | (go_big_quiet_want; first | (go_big_quiet_op; go_big_quiet_on)))
  refine wpQuiet_nil ?_
  (refine wpList_allocBk (t := 36) rfl _ (run_alloc_R _ _ rfl) ?_; intro b_r10 wn hle hge ht hbn hzn; have hsz := B.size; replace B := B.trans (hbn.mono (by omega)); have hln := Nat.lt_of_lt_of_eq (Nat.lt_succ_self _) hzn.symm; clear hzn; (try have hlt := b3.lt); (try replace b3 := b3.below (hbn.mono hle)); (try have hlt := r6.lt); (try replace r6 := r6.below (hbn.mono hle)); (try have hlt := b7.lt); (try replace b7 := b7.below (hbn.mono hle)); (try have hlt := r8.lt); (try replace r8 := r8.below (hbn.mono hle)); (try have hlt := r10.lt); (try replace r10 := r10.below (hbn.mono hle)); (try have hlt := rs1.lt); (try replace rs1 := rs1.below (hbn.mono hle)); (try have hlt := rs2.lt); (try replace rs2 := rs2.below (hbn.mono hle)); (try have hlt := rs3.lt); (try replace rs3 := rs3.below (hbn.mono hle)); have r10 := ht; clear ht; simp only [putS])
  (refine wpList_storeB (t := 36) rfl _ _ rfl _ rfl _ rfl r10 (by kernel_rfl) rfl (by simp [rcA, Value.oneCell']) ?_; have r10o := r10; clear r10; intro wn ht hcn hzn; (try replace rs1 := rs1.chg r10o (by simp [rcA]) hcn); (try replace rs2 := rs2.chg r10o (by simp [rcA]) hcn); (try replace rs3 := rs3.chg r10o (by simp [rcA]) hcn); have hsz := B.size; replace hzn := Nat.le_of_eq hzn.symm; replace B := Chg.below B hcn (by omega) B.size; (try replace b3 := b3.of_eq (hcn.block _ b3.lt (by omega))); (try replace r6 := r6.of_eq (hcn.block _ r6.lt (by omega))); (try replace b7 := b7.of_eq (hcn.block _ b7.lt (by omega))); (try replace r8 := r8.of_eq (hcn.block _ r8.lt (by omega))); (try replace rs1 := rs1.of_eq (hcn.block _ rs1.lt (by omega))); (try replace rs2 := rs2.of_eq (hcn.block _ rs2.lt (by omega))); (try replace rs3 := rs3.of_eq (hcn.block _ rs3.lt (by omega))); have r10 := ht; clear ht; simp only [putS])
  refine wpList_chunk 1 (by kernel_rfl) ?_
  simp only [takS, Nat.reduceAdd]
  repeat (first | go_big_quiet_skip | (go_big_quiet_want; first | (go_big_quiet_op; go_big_quiet_on)))
  refine wpQuiet_nil ?_
  refine wpList_nil ?_
  go_upto_region 6 with fail
  try simp only [gelS]
  try have lx_b3 := b3.lt
  try have lx_r6 := r6.lt
  try have lx_b7 := b7.lt
  try have lx_r8 := r8.lt
  try have lx_r10 := r10.lt
  try have lx_rs1 := rs1.lt
  try have lx_rs2 := rs2.lt
  try have lx_rs3 := rs3.lt
  refine wp_region_RL 13 [(10, detS ?v2_10)] (by kernel_rfl) (by kernel_rfl) (by kernel_rfl) ?_
  rotate_left 1
  simp only [takS, Nat.reduceAdd]
  refine wpRL_chunk 10 (by kernel_rfl) ?_
  simp only [takS, Nat.reduceAdd]
  repeat (first | go_big_quiet_skip | (go_big_quiet_want; first | (refine quiet_loadAny (t := 3) rfl _ _ _ rfl (fun w hw => run_load_int ((ov_B b3 w hw).cellL 0 rfl)) (by rfl) ?_; simp only [putS]; go_big_quiet_on) | (refine quiet_loadAny (t := 3) rfl _ _ _ rfl (fun w hw => run_load_int ((ov_B b3 w hw).cellL 1 rfl)) (by rfl) ?_; simp only [putS]; go_big_quiet_on) | (refine quiet_loadAny (t := 3) rfl _ _ _ rfl (fun w hw => run_load_int ((ov_B b3 w hw).cellL 2 rfl)) (by rfl) ?_; simp only [putS]; go_big_quiet_on) | (refine quiet_loadAny (t := 3) rfl _ _ _ rfl (fun w hw => run_load_int ((ov_B b3 w hw).cellL 3 rfl)) (by rfl) ?_; simp only [putS]; go_big_quiet_on) | (refine quiet_loadAny (t := 3) rfl _ _ _ rfl (fun w hw => run_load_int ((ov_B b7 w hw).cellL 0 rfl)) (by rfl) ?_; simp only [putS]; go_big_quiet_on) | (refine quiet_loadAny (t := 3) rfl _ _ _ rfl (fun w hw => run_load_int ((ov_B b7 w hw).cellL 1 rfl)) (by rfl) ?_; simp only [putS]; go_big_quiet_on) | (refine quiet_loadAny (t := 3) rfl _ _ _ rfl (fun w hw => run_load_int ((ov_B b7 w hw).cellL 2 rfl)) (by rfl) ?_; simp only [putS]; go_big_quiet_on) | (refine quiet_loadAny (t := 3) rfl _ _ _ rfl (fun w hw => run_load_int ((ov_B b7 w hw).cellL 3 rfl)) (by rfl) ?_; simp only [putS]; go_big_quiet_on) | (go_big_quiet_op; go_big_quiet_on)))
  refine wpQuiet_nil ?_
  refine wpRL_callB (by rfl) (by first | rfl | simp [Region.wanted, yielded]) ?_ ?_
  · intro wn hbn hE Kx hKx
    have hsz := B.size
    have hzn := hbn.size
    replace B := B.trans (hbn.mono B.size)
    (try replace b3 := b3.below hbn)
    (try replace r6 := r6.below hbn)
    (try replace b7 := b7.below hbn)
    (try replace r8 := r8.below hbn)
    (try replace r10 := r10.below hbn)
    (try replace rs1 := rs1.below hbn)
    (try replace rs2 := rs2.below hbn)
    (try replace rs3 := rs3.below hbn)
    refine wp_callF rfl (enters_of Try.func12 (by kernel_rfl) rfl) (by simp only [List.map_toArray, List.map_cons, List.map_nil, Act.eval, Array.getD_eq_getD_getElem?, List.getElem?_toArray, List.getElem?_cons_succ, List.getElem?_cons_zero, Option.getD_some]; rfl) ?_
    refine (L15_restO (wrap64 (n0 * 7)) (sr.x1 - sr.x0) X (by omega) HX.out wn).mono ?_
    rintro e wm ⟨rfl, hbm⟩
    refine ⟨_, rfl, ?_⟩
    have hz := hKx () wm trivial hbm
    dsimp only [detS] at hz
    exact hz
  rintro ⟨⟩
  dsimp only [detS]
  simp only [putS]
  refine wpRL_chunk 2 (by kernel_rfl) ?_
  simp only [takS, Nat.reduceAdd]
  repeat (first | go_big_quiet_skip | (go_big_quiet_want; first | (go_big_quiet_op; go_big_quiet_on)))
  refine wpQuiet_nil ?_
  refine wpRL_nil ?_
  intro wn hbn hE
  have hsz := B.size
  have hzn := hbn.size
  replace B := B.trans (hbn.mono B.size)
  (try replace b3 := b3.below hbn)
  (try replace r6 := r6.below hbn)
  (try replace b7 := b7.below hbn)
  (try replace r8 := r8.below hbn)
  (try replace r10 := r10.below hbn)
  (try replace rs1 := rs1.below hbn)
  (try replace rs2 := rs2.below hbn)
  (try replace rs3 := rs3.below hbn)
  clear hE
  try simp only [List.drop_succ_cons, List.drop_zero]
  refine NoPan.normal ?_
  go_upto_region 7 with fail
  try simp only [gelS]
  try have lx_b3 := b3.lt
  try have lx_r6 := r6.lt
  try have lx_b7 := b7.lt
  try have lx_r8 := r8.lt
  try have lx_r10 := r10.lt
  try have lx_rs1 := rs1.lt
  try have lx_rs2 := rs2.lt
  try have lx_rs3 := rs3.lt
  refine wp_region_RL 13 [(10, detS ?v3_10)] (by kernel_rfl) (by kernel_rfl) (by kernel_rfl) ?_
  rotate_left 1
  simp only [takS, Nat.reduceAdd]
  refine wpRL_chunk 10 (by kernel_rfl) ?_
  simp only [takS, Nat.reduceAdd]
  repeat (first | go_big_quiet_skip | (go_big_quiet_want; first | (refine quiet_loadAny (t := 3) rfl _ _ _ rfl (fun w hw => run_load_int ((ov_B b3 w hw).cellL 0 rfl)) (by rfl) ?_; simp only [putS]; go_big_quiet_on) | (refine quiet_loadAny (t := 3) rfl _ _ _ rfl (fun w hw => run_load_int ((ov_B b3 w hw).cellL 1 rfl)) (by rfl) ?_; simp only [putS]; go_big_quiet_on) | (refine quiet_loadAny (t := 3) rfl _ _ _ rfl (fun w hw => run_load_int ((ov_B b3 w hw).cellL 2 rfl)) (by rfl) ?_; simp only [putS]; go_big_quiet_on) | (refine quiet_loadAny (t := 3) rfl _ _ _ rfl (fun w hw => run_load_int ((ov_B b3 w hw).cellL 3 rfl)) (by rfl) ?_; simp only [putS]; go_big_quiet_on) | (refine quiet_loadAny (t := 3) rfl _ _ _ rfl (fun w hw => run_load_int ((ov_B b7 w hw).cellL 0 rfl)) (by rfl) ?_; simp only [putS]; go_big_quiet_on) | (refine quiet_loadAny (t := 3) rfl _ _ _ rfl (fun w hw => run_load_int ((ov_B b7 w hw).cellL 1 rfl)) (by rfl) ?_; simp only [putS]; go_big_quiet_on) | (refine quiet_loadAny (t := 3) rfl _ _ _ rfl (fun w hw => run_load_int ((ov_B b7 w hw).cellL 2 rfl)) (by rfl) ?_; simp only [putS]; go_big_quiet_on) | (refine quiet_loadAny (t := 3) rfl _ _ _ rfl (fun w hw => run_load_int ((ov_B b7 w hw).cellL 3 rfl)) (by rfl) ?_; simp only [putS]; go_big_quiet_on) | (go_big_quiet_op; go_big_quiet_on)))
  refine wpQuiet_nil ?_
  refine wpRL_callB (by rfl) (by first | rfl | simp [Region.wanted, yielded]) ?_ ?_
  · intro wn hbn hE Kx hKx
    have hsz := B.size
    have hzn := hbn.size
    replace B := B.trans (hbn.mono B.size)
    (try replace b3 := b3.below hbn)
    (try replace r6 := r6.below hbn)
    (try replace b7 := b7.below hbn)
    (try replace r8 := r8.below hbn)
    (try replace r10 := r10.below hbn)
    (try replace rs1 := rs1.below hbn)
    (try replace rs2 := rs2.below hbn)
    (try replace rs3 := rs3.below hbn)
    refine wp_callF rfl (enters_of Try.func12 (by kernel_rfl) rfl) (by simp only [List.map_toArray, List.map_cons, List.map_nil, Act.eval, Array.getD_eq_getD_getElem?, List.getElem?_toArray, List.getElem?_cons_succ, List.getElem?_cons_zero, Option.getD_some]; rfl) ?_
    refine (L15_restO (wrap64 (n1 * 5)) (sr.y1 - sr.y0) Y (by omega) HY.out wn).mono ?_
    rintro e wm ⟨rfl, hbm⟩
    refine ⟨_, rfl, ?_⟩
    have hz := hKx () wm trivial hbm
    dsimp only [detS] at hz
    exact hz
  rintro ⟨⟩
  dsimp only [detS]
  simp only [putS]
  refine wpRL_chunk 2 (by kernel_rfl) ?_
  simp only [takS, Nat.reduceAdd]
  repeat (first | go_big_quiet_skip | (go_big_quiet_want; first | (go_big_quiet_op; go_big_quiet_on)))
  refine wpQuiet_nil ?_
  refine wpRL_nil ?_
  intro wn hbn hE
  have hsz := B.size
  have hzn := hbn.size
  replace B := B.trans (hbn.mono B.size)
  (try replace b3 := b3.below hbn)
  (try replace r6 := r6.below hbn)
  (try replace b7 := b7.below hbn)
  (try replace r8 := r8.below hbn)
  (try replace r10 := r10.below hbn)
  (try replace rs1 := rs1.below hbn)
  (try replace rs2 := rs2.below hbn)
  (try replace rs3 := rs3.below hbn)
  clear hE
  try simp only [List.drop_succ_cons, List.drop_zero]
  refine NoPan.normal ?_
  go_upto_region 8 with fail
  try simp only [gelS]
  try have lx_b3 := b3.lt
  try have lx_r6 := r6.lt
  try have lx_b7 := b7.lt
  try have lx_r8 := r8.lt
  try have lx_r10 := r10.lt
  try have lx_rs1 := rs1.lt
  try have lx_rs2 := rs2.lt
  try have lx_rs3 := rs3.lt
  refine wp_region_RL 14 [(3, detS ?v4_3), (9, detS ?v4_9)] (by kernel_rfl) (by kernel_rfl) (by kernel_rfl) ?_
  rotate_left 2
  simp only [takS, Nat.reduceAdd]
  refine wpRL_chunk 3 (by kernel_rfl) ?_
  simp only [takS, Nat.reduceAdd]
  repeat (first | go_big_quiet_skip | (go_big_quiet_want; first | (refine quiet_loadAny (t := 36) rfl _ _ _ rfl (fun w hw => run_load_B (ov_B r6 w hw) Try.isAgg36 (by kernel_rfl)) (by rfl) ?_; simp only [putS]; go_big_quiet_on) | (refine quiet_loadAny (t := 36) rfl _ _ _ rfl (fun w hw => run_load_B (ov_B r8 w hw) Try.isAgg36 (by kernel_rfl)) (by rfl) ?_; simp only [putS]; go_big_quiet_on) | (refine quiet_loadAny (t := 36) rfl _ _ _ rfl (fun w hw => run_load_B (ov_B r10 w hw) Try.isAgg36 (by kernel_rfl)) (by rfl) ?_; simp only [putS]; go_big_quiet_on) | (go_big_quiet_op; go_big_quiet_on)))
  refine wpQuiet_nil ?_
  refine wpRL_callB (by rfl) (by first | rfl | simp [Region.wanted, yielded]) ?_ ?_
  · intro wn hbn hE Kx hKx
    have hsz := B.size
    have hzn := hbn.size
    replace B := B.trans (hbn.mono B.size)
    (try replace b3 := b3.below hbn)
    (try replace r6 := r6.below hbn)
    (try replace b7 := b7.below hbn)
    (try replace r8 := r8.below hbn)
    (try replace r10 := r10.below hbn)
    (try replace rs1 := rs1.below hbn)
    (try replace rs2 := rs2.below hbn)
    (try replace rs3 := rs3.below hbn)
    refine wp_callF rfl (enters_of Try.func30 (by kernel_rfl) rfl) (by simp only [List.map_toArray, List.map_cons, List.map_nil, Act.eval, Array.getD_eq_getD_getElem?, List.getElem?_toArray, List.getElem?_cons_succ, List.getElem?_cons_zero, Option.getD_some]; rfl) ?_
    refine (P_GetO _ M (sr.x0 + X) (sr.y0 + Y) p1 p2 p3 p4 wn rs1 HL.out.1 wx wy HP.out).mono ?_
    rintro e wm ⟨rfl, hbm⟩
    refine ⟨_, rfl, ?_⟩
    have hz := hKx () wm trivial hbm
    dsimp only [detS] at hz
    exact hz
  rintro ⟨⟩
  dsimp only [detS]
  simp only [putS]
  refine wpRL_chunk 5 (by kernel_rfl) ?_
  simp only [takS, Nat.reduceAdd]
  repeat (first | go_big_quiet_skip | (go_big_quiet_want; first | (refine quiet_loadAny (t := 36) rfl _ _ _ rfl (fun w hw => run_load_B (ov_B r6 w hw) Try.isAgg36 (by kernel_rfl)) (by rfl) ?_; simp only [putS]; go_big_quiet_on) | (refine quiet_loadAny (t := 36) rfl _ _ _ rfl (fun w hw => run_load_B (ov_B r8 w hw) Try.isAgg36 (by kernel_rfl)) (by rfl) ?_; simp only [putS]; go_big_quiet_on) | (refine quiet_loadAny (t := 36) rfl _ _ _ rfl (fun w hw => run_load_B (ov_B r10 w hw) Try.isAgg36 (by kernel_rfl)) (by rfl) ?_; simp only [putS]; go_big_quiet_on) | (go_big_quiet_op; go_big_quiet_on)))
  refine wpQuiet_nil ?_
  refine wpRL_callB (by rfl) (by first | rfl | simp [Region.wanted, yielded]) ?_ ?_
  · intro wn hbn hE Kx hKx
    have hsz := B.size
    have hzn := hbn.size
    replace B := B.trans (hbn.mono B.size)
    (try replace b3 := b3.below hbn)
    (try replace r6 := r6.below hbn)
    (try replace b7 := b7.below hbn)
    (try replace r8 := r8.below hbn)
    (try replace r10 := r10.below hbn)
    (try replace rs1 := rs1.below hbn)
    (try replace rs2 := rs2.below hbn)
    (try replace rs3 := rs3.below hbn)
    refine wp_callF rfl (enters_of Try.func30 (by kernel_rfl) rfl) (by simp only [List.map_toArray, List.map_cons, List.map_nil, Act.eval, Array.getD_eq_getD_getElem?, List.getElem?_toArray, List.getElem?_cons_succ, List.getElem?_cons_zero, Option.getD_some]; rfl) ?_
    refine (P_GetO _ X1 (sr.x0 + X) (sr.y0 + Y) o1 o2 o3 (255 - p4) wn rs2 HL.out.2.1 wx wy HO.out).mono ?_
    rintro e wm ⟨rfl, hbm⟩
    refine ⟨_, rfl, ?_⟩
    have hz := hKx () wm trivial hbm
    dsimp only [detS] at hz
    exact hz
  rintro ⟨⟩
  dsimp only [detS]
  simp only [putS]
  refine wpRL_chunk 4 (by kernel_rfl) ?_
  simp only [takS, Nat.reduceAdd]
  repeat (first | go_big_quiet_skip | (go_big_quiet_want; first | (go_big_quiet_op; go_big_quiet_on)))
  refine wpQuiet_nil ?_
  refine wpRL_nil ?_
  intro wn hbn hE
  have hsz := B.size
  have hzn := hbn.size
  replace B := B.trans (hbn.mono B.size)
  (try replace b3 := b3.below hbn)
  (try replace r6 := r6.below hbn)
  (try replace b7 := b7.below hbn)
  (try replace r8 := r8.below hbn)
  (try replace r10 := r10.below hbn)
  (try replace rs1 := rs1.below hbn)
  (try replace rs2 := rs2.below hbn)
  (try replace rs3 := rs3.below hbn)
  clear hE
  try simp only [List.drop_succ_cons, List.drop_zero]
  refine NoPan.normal ?_
  go_upto_region 9 with fail
  try simp only [gelS]
  try have lx_b3 := b3.lt
  try have lx_r6 := r6.lt
  try have lx_b7 := b7.lt
  try have lx_r8 := r8.lt
  try have lx_r10 := r10.lt
  try have lx_rs1 := rs1.lt
  try have lx_rs2 := rs2.lt
  try have lx_rs3 := rs3.lt
  refine wp_region_RL 21 [(17, rasS (C)), (18, detS ?v5_18)] (by kernel_rfl) (by kernel_rfl) (by kernel_rfl) ?_
  rotate_left 1
  simp only [takS, Nat.reduceAdd]
  refine wpRL_chunk 17 (by kernel_rfl) ?_
  simp only [takS, Nat.reduceAdd]
  repeat (first | go_big_quiet_skip | (go_big_quiet_want; first | (refine quiet_loadAny (t := 36) rfl _ _ _ rfl (fun w hw => run_load_B (ov_B r6 w hw) Try.isAgg36 (by kernel_rfl)) (by rfl) ?_; simp only [putS]; go_big_quiet_on) | (refine quiet_loadAny (t := 36) rfl _ _ _ rfl (fun w hw => run_load_B (ov_B r8 w hw) Try.isAgg36 (by kernel_rfl)) (by rfl) ?_; simp only [putS]; go_big_quiet_on) | (refine quiet_loadAny (t := 36) rfl _ _ _ rfl (fun w hw => run_load_B (ov_B r10 w hw) Try.isAgg36 (by kernel_rfl)) (by rfl) ?_; simp only [putS]; go_big_quiet_on) | (refine quiet_loadAny (t := 31) rfl _ _ _ rfl (fun w hw => run_load_B (ov_B b7 w hw) Try.isAgg31 (by kernel_rfl)) (by rfl) ?_; simp only [putS]; go_big_quiet_on) | (go_big_quiet_op; go_big_quiet_on)))
  refine wpQuiet_nil ?_
  refine wpRL_callB (by rfl) ?hw5_17 ?_ ?_
  case hw5_17 => kernel_rfl
  · intro wn hbn hE Kx hKx
    have hsz := B.size
    have hzn := hbn.size
    replace B := B.trans (hbn.mono B.size)
    (try replace b3 := b3.below hbn)
    (try replace r6 := r6.below hbn)
    (try replace b7 := b7.below hbn)
    (try replace r8 := r8.below hbn)
    (try replace r10 := r10.below hbn)
    (try replace rs1 := rs1.below hbn)
    (try replace rs2 := rs2.below hbn)
    (try replace rs3 := rs3.below hbn)
    refine wp_callF rfl (enters_of Try.func33 (by kernel_rfl) rfl) (by simp only [List.map_toArray, List.map_cons, List.map_nil, Act.eval, Array.getD_eq_getD_getElem?, List.getElem?_toArray, List.getElem?_cons_succ, List.getElem?_cons_zero, Option.getD_some]; rfl) ?_
    refine (P_CropA _ M C sr wn rs1 HM.out.t HL.out.1 HM.out.v HC.out).mono ?_
    rintro e wm ⟨v', rfl, hr, hbm⟩
    obtain ⟨a', c', rfl, _⟩ := hr.len
    exact ⟨_, rfl, hKx (a', c') wm hr hbm⟩
  rintro ⟨a98, c98⟩
  dsimp only [detS, rasS]
  simp only [putS]
  refine wpRL_callB (by rfl) ?hw5_18 ?_ ?_
  case hw5_18 => kernel_rfl
  · intro wn hbn hE Kx hKx
    have hsz := B.size
    have hzn := hbn.size
    replace B := B.trans (hbn.mono B.size)
    (try replace b3 := b3.below hbn)
    (try replace r6 := r6.below hbn)
    (try replace b7 := b7.below hbn)
    (try replace r8 := r8.below hbn)
    (try replace r10 := r10.below hbn)
    (try replace rs1 := rs1.below hbn)
    (try replace rs2 := rs2.below hbn)
    (try replace rs3 := rs3.below hbn)
    have rs4 := hE 17 (by kernel_rfl)
    change RS _ _ _ at rs4
    refine wp_callF rfl (enters_of Try.func32 (by kernel_rfl) rfl) (by simp only [List.map_toArray, List.map_cons, List.map_nil, Act.eval, Array.getD_eq_getD_getElem?, List.getElem?_toArray, List.getElem?_cons_succ, List.getElem?_cons_zero, Option.getD_some]; rfl) ?_
    refine (P_EqualT _ _ X2 C wn rs3 rs4 HT.out.2.1 HT.out.2.2 HL.out.2.2.1 HL.out.2.2.2 HEq.out).mono ?_
    rintro e wm ⟨rfl, hbm⟩
    refine ⟨_, rfl, ?_⟩
    have hz := hKx () wm trivial hbm
    dsimp only [detS] at hz
    exact hz
  rintro ⟨⟩
  dsimp only [detS]
  simp only [putS]
  refine wpRL_chunk 2 (by kernel_rfl) ?_
  simp only [takS, Nat.reduceAdd]
  repeat (first | go_big_quiet_skip | (go_big_quiet_want; first | (go_big_quiet_op; go_big_quiet_on)))
  refine wpQuiet_nil ?_
  refine wpRL_nil ?_
  intro wn hbn hE
  have hsz := B.size
  have hzn := hbn.size
  replace B := B.trans (hbn.mono B.size)
  (try replace b3 := b3.below hbn)
  (try replace r6 := r6.below hbn)
  (try replace b7 := b7.below hbn)
  (try replace r8 := r8.below hbn)
  (try replace r10 := r10.below hbn)
  (try replace rs1 := rs1.below hbn)
  (try replace rs2 := rs2.below hbn)
  (try replace rs3 := rs3.below hbn)
  have rs4 := hE 17
  change RS _ _ _ at rs4
  clear hE
  try simp only [List.drop_succ_cons, List.drop_zero]
  refine NoPan.normal ?_
  go_wp2
  go_ret
  exact ⟨rfl, B⟩
namespace selectionComplements
open Go.ChangeShapes Go.WideShapes Go.ChangeAt Go.RowKit
open Go.ChangeMaps (open_string shut_string)
set_option maxRecDepth 100000 in
theorem lifted (os : Os) (started : os.Started) (H : Type) (enc : TypeId × Value → H) :
    ReturnsInHanded {} Try.checked os 8 .any (Rows.selectionComplementsSpec.pre6 enc Try.prog Try.f8 Rows.selectionComplementsRow.domain false) (Rows.selectionComplementsSpec.post enc Try.prog Try.f8 false true false false) := by
  refine returnsInHanded_of_change_sized (C := Try.checked) own started (by kernel_rfl) Try.func8
    (ChangeSpec.witness6 (enc := enc) (C := Try.checked) false ⟨#[], #[.slice none 0 0, .agg #[.int .i64 0, .int .i64 0, .int .i64 0, .int .i64 0]], []⟩ 8 (by kernel_rfl) (by kernel_rfl) (by kernel_rfl) (by kernel_rfl)) ?_
  intro W base args ds gs before hval0 hW hcnd hsz0 _
  have hval : ∀ (j : Nat) t v, Try.f8.params[j]? = some t → args[j]? = some v → Value.okWide Try.prog W .any base t v := hval0
  have hW' := hW
  obtain ⟨p, q, hA0, hV, rfl, hfz, hnd⟩ := hW
  have hA : DataW.TrodAll enc Try.prog W 0 (fun _ => true) true Try.f8.params.toList args.toList ds p := hA0
  rw [Try.params8] at hA hval hsz0
  obtain ⟨v0, vs0, d0, ds0, p0, q0, hargs, rfl, rfl, h0, r0⟩ := trodAll_cons hA
  obtain ⟨v1, vs1, d1, ds1, p1, q1, rfl, rfl, rfl, h1, r1⟩ := trodAll_cons r0
  obtain ⟨rfl, rfl, rfl⟩ := trodAll_nil r1
  obtain rfl : args = #[v0, v1] := by cases args; simp_all
  obtain ⟨rfl, rfl⟩ := trodVars_none hV
  have hwt0 : ∀ n ∈ DataW.weights Try.prog 23 d0, n ≤ reachBytes := fun n hn => by simpa using List.all_eq_true.1 hsz0 n (DataW.weights_mem_each (j := 0) rfl rfl n hn)
  have k0 := h0
  have lt0 : ∀ x ∈ p0, x.block < W.heap.size := by obtain ⟨m, hm⟩ := k0; exact DataW.trod_lt m _ _ _ hm
  have k1 := h1
  have lt1 : ∀ x ∈ p1, x.block < W.heap.size := by obtain ⟨m, hm⟩ := k1; exact DataW.trod_lt m _ _ _ hm
  obtain ⟨L0, hL0, hLn0, hLw0⟩ := open_intsW (hval 0 23 v0 rfl rfl) h0 hwt0
  obtain ⟨a1, b1, c1, e1, rfl, w1⟩ := open_int4 (hval 1 46 v1 rfl rfl) h1
  clear hA0 hval0
  refine (walk_SelectionComplements v0 L0 a1 b1 c1 e1  w1 W hL0 hLn0 hLw0).mono fun e W' ⟨he, bel⟩ => ?_
  subst he
  exact ⟨_, rfl, _, _, _, [], _, [], hW', trodAll_mk1 (shut_bool Try.underlying4 _), (trodAll_cons_mk (Below.trod laidOut (by kernel_rfl) (of_decide_eq_true (by kernel_rfl)) k0 bel lt0) (trodAll_cons_mk (Below.trod laidOut (by kernel_rfl) (of_decide_eq_true (by kernel_rfl)) k1 bel lt1) trodAll_mk0)), rfl, bel.frame _, fun h => by cases h⟩
theorem over : Rows.selectionComplementsRow.holds Try.pinned (OpenSpec.ofChange Rows.selectionComplementsSpec) :=
  OpenClaim.holds_of_wide 8 Try.f8 rfl rfl rfl rfl rfl rfl rfl ⟨rfl, rfl, rfl, rfl, rfl⟩ rfl rfl rfl rfl rfl (by kernel_rfl) Try.func8 (by kernel_rfl)
    (of_decide_eq_true (by kernel_rfl)) (by unfold Func.isWrapper; first | (rw [if_pos (by decide +kernel)]; kernel_rfl) | (rw [if_neg (by decide +kernel)]; exact ⟨rfl, rfl⟩))
    (fun os started H enc _ => lifted os started H enc)
/-- THE STATEMENT: SelectionComplements returns true for every input, and its arguments read as they did. -/
theorem proved : Rows.SelectionComplementsSaid := over
end selectionComplements
end Go.Proofs.Ytamgpfblhlfhaaa
