import Derived.Test.YtamgpfblhlfhaaaSi3
import Derived.RangeFuncFrom
import Derived.Sort.CutIn
import Derived.LoopNIn
import Derived.RangeFuncWrites
import Derived.DeepKeys5
import Derived.Maps.Keyed
import Derived.Maps.OwnOps
import Derived.Maps.OwnSet
import Derived.Maps.Views
import Derived.Lib.SmallJoins

/- Contract of Paste of package raster. -/
namespace Go.Proofs.Ytamgpfblhlfhaaa
open Go.RowKit Go.Shelf Pl
attribute [local go_sem] Oper.semAt_some
set_option linter.unusedVariables false
set_option linter.unusedSimpArgs false
set_option maxRecDepth 20000
theorem run_load_imR {w : World} {b : Nat} {c : Rc} {u : Value} (h : AtB 134 w b (imgC c u)) : (Instr.loadAt 31 (.pointer (some ⟨b, 0, none⟩))).run Try.prog w = .ok (.agg (rcA c)) w :=
 run_load_BP (cs' := rcA c) h 0 Try.isAgg31 (by kernel_rfl) (fun j hj => by
  have hj : j < 4 := hj
  have hc : j = 0 ∨ j = 1 ∨ j = 2 ∨ j = 3 := by omega
  rcases hc with rfl | rfl | rfl | rfl <;> rfl)
theorem P_ValidRB (r : Rc) (b : Bool) (w : World) (e : validR r = b) : Calls Try.prog 60 #[.agg (rcA r)] w fun e w' => e = .returned (.bool b) ∧ Below w.heap.size w w' := e ▸ P_ValidR r w
theorem P_AreaB (r : Rc) (n : Int) (w : World) (h : validR r = true) (e : areaR r = n) : Calls Try.prog 128 #[.agg (rcA r)] w fun e w' => e = .returned (.int .i64 n) ∧ Below w.heap.size w w' := e ▸ P_Area r w h
theorem P_fitsB (c : Rc) (n : Int) (w : World) (e : fitsE c = n) : Calls Try.prog 129 #[.agg (rcA c)] w fun e w' => e = .returned (.int .i64 n) ∧ Below w.heap.size w w' := e ▸ P_fits c w
set_option maxHeartbeats 4000000 in
theorem P_Paste_inv (v : Value) (ls : List TA) (c : Rc) (ad : Option Addr) (n cp : Nat) (w : World) (h : RS v ls w) (hn : n ≤ maxLen) (hV0 : validR c = false) : Calls Try.prog 103 #[.agg #[v], .agg (imgC c (.slice ad n cp))] w fun e w' => e = .returned (.tuple #[.agg #[.slice none 0 0], .int .i64 1]) ∧ Below w.heap.size w w' := by
 have B := Below.refl w.heap.size w
 obtain ⟨a, cpv, rfl, hc⟩ := h.len
 clear h
 go_enter Try.func103, Try.ntmps103
 go_upto_region 0 with fail
 refine wp_region_lit ?_
 try simp only [gelS]
 (refine wpList_boxB (t := 36) rfl _ rfl _ rfl ?_; intro b_r2 wn hle hge ht hbn hzn; have hsz := B.size; replace B := B.trans (hbn.mono (by omega)); have hln := Nat.lt_of_lt_of_eq (Nat.lt_succ_self _) hzn.symm; clear hzn; have r2 := ht; clear ht; simp only [putS])
 (refine wpList_boxB (t := 134) rfl _ rfl _ rfl ?_; intro b_m3 wn hle hge ht hbn hzn; have hsz := B.size; replace B := B.trans (hbn.mono (by omega)); have hln := Nat.lt_of_lt_of_eq (Nat.lt_succ_self _) hzn.symm; clear hzn; (try have hlt := r2.lt); (try replace r2 := r2.below (hbn.mono hle)); have m3 := ht; clear ht; simp only [putS])
 (refine wpList_allocBk (t := 36) rfl _ (run_alloc_R _ _ rfl) ?_; intro b_r4 wn hle hge ht hbn hzn; have hsz := B.size; replace B := B.trans (hbn.mono (by omega)); have hln := Nat.lt_of_lt_of_eq (Nat.lt_succ_self _) hzn.symm; clear hzn; (try have hlt := r2.lt); (try replace r2 := r2.below (hbn.mono hle)); (try have hlt := m3.lt); (try replace m3 := m3.below (hbn.mono hle)); have r4 := ht; clear ht; simp only [putS])
 refine wpList_chunk 1 (by kernel_rfl) ?_
 simp only [takS, Nat.reduceAdd]
 repeat (first | go_big_quiet_skip | (go_big_quiet_want; go_big_quiet_op; go_big_quiet_on))
 refine wpQuiet_nil ?_
 refine wpList_nil ?_
 go_upto_region 1 with fail
 refine wp_region_lit ?_
 try simp only [gelS]
 refine wpList_chunk 2 (by kernel_rfl) ?_
 simp only [takS, Nat.reduceAdd]
 repeat (first | go_big_quiet_skip | (go_big_quiet_want; first | (refine quiet_loadAny (t := 31) rfl _ _ _ rfl (fun w hw => run_load_imR (ov_B m3 w hw)) (by first | rfl | omega) ?_; simp only [putS]; go_big_quiet_on) | (refine quiet_loadAny (t := 31) rfl _ _ _ rfl (fun w hw => run_load_B (ov_B c6 w hw) Try.isAgg31 (by kernel_rfl)) (by rfl) ?_; simp only [putS]; go_big_quiet_on) | (go_big_quiet_op; go_big_quiet_on)))
 refine wpQuiet_nil ?_
 (refine wpList_allocBk (t := 31) rfl _ (run_alloc_Rc _ _ rfl) ?_; intro b_c6 wn hle hge ht hbn hzn; have hsz := B.size; replace B := B.trans (hbn.mono (by omega)); have hln := Nat.lt_of_lt_of_eq (Nat.lt_succ_self _) hzn.symm; clear hzn; (try have hlt := r2.lt); (try replace r2 := r2.below (hbn.mono hle)); (try have hlt := m3.lt); (try replace m3 := m3.below (hbn.mono hle)); (try have hlt := r4.lt); (try replace r4 := r4.below (hbn.mono hle)); (try have hlt := c6.lt); (try replace c6 := c6.below (hbn.mono hle)); have c6 := ht; clear ht; simp only [putS])
 (refine wpList_storeB (t := 31) rfl _ _ rfl _ rfl _ rfl c6 (by kernel_rfl) rfl (by simp [rcA, imgC, Value.oneCell']) ?_; clear c6; intro wn ht hcn hzn; have hsz := B.size; replace hzn := Nat.le_of_eq hzn.symm; replace B := Chg.below B hcn (by omega) B.size; (try replace r2 := r2.of_eq (hcn.block _ r2.lt (by omega))); (try replace m3 := m3.of_eq (hcn.block _ m3.lt (by omega))); (try replace r4 := r4.of_eq (hcn.block _ r4.lt (by omega))); have c6 := ht; clear ht; simp only [putS])
 refine wpList_nil ?_
 replace c6 : AtB 31 _ b_c6 (rcA c) := c6
 go_upto_region 2 with fail
 try simp only [gelS]
 try have lx_r2 := r2.lt
 try have lx_m3 := m3.lt
 try have lx_r4 := r4.lt
 try have lx_c6 := c6.lt
 refine wp_region_RL 11 [(1, detS ?v1_1)] (by kernel_rfl) (by kernel_rfl) (by kernel_rfl) ?_
 rotate_left 1
 simp only [takS, Nat.reduceAdd]
 refine wpRL_chunk 1 (by kernel_rfl) ?_
 simp only [takS, Nat.reduceAdd]
 repeat (first | go_big_quiet_skip | (go_big_quiet_want; first | (refine quiet_loadAny (t := 31) rfl _ _ _ rfl (fun w hw => run_load_imR (ov_B m3 w hw)) (by first | rfl | omega) ?_; simp only [putS]; go_big_quiet_on) | (refine quiet_loadAny (t := 31) rfl _ _ _ rfl (fun w hw => run_load_B (ov_B c6 w hw) Try.isAgg31 (by kernel_rfl)) (by rfl) ?_; simp only [putS]; go_big_quiet_on) | (go_big_quiet_op; go_big_quiet_on)))
 refine wpQuiet_nil ?_
 refine wpRL_callB (by rfl) (by first | rfl | simp [Region.wanted, yielded]) ?_ ?_
 ·intro wn hbn hE Kx hKx
  have hsz := B.size
  have hzn := hbn.size
  replace B := B.trans (hbn.mono B.size)
  (try replace m3 := m3.below hbn)
  (try replace r4 := r4.below hbn)
  (try replace c6 := c6.below hbn)
  refine wp_callF rfl (enters_of Try.func60 (by kernel_rfl) rfl) (by simp only [Act.eval, evlS]; rfl) ?_
  refine (P_ValidRB c false _ hV0).mono ?_
  rintro e wm ⟨rfl, hbm⟩
  refine ⟨_, rfl, ?_⟩
  have hz := hKx () wm trivial hbm
  dsimp only [detS] at hz
  exact hz
 rintro ⟨⟩
 dsimp only [detS]
 simp only [putS]
 refine wpRL_chunk 4 (by kernel_rfl) ?_
 simp only [takS, Nat.reduceAdd]
 repeat (first | go_big_quiet_skip | (go_big_quiet_want; first | (refine quiet_loadAny (t := 132) rfl _ _ _ rfl (fun w hw => run_load_slp (imgC_u (ov_B m3 w hw))) (by first | rfl | omega) ?_; simp only [putS]; go_big_quiet_on) | (go_big_quiet_op; go_big_quiet_on)))
 refine wpQuiet_nil ?_
 refine wpRL_skip ?hw1_6 ?_
 case hw1_6 => kernel_rfl
 simp only [putS]
 refine wpRL_chunk 1 (by kernel_rfl) ?_
 simp only [takS, Nat.reduceAdd]
 repeat (first | go_big_quiet_skip | (go_big_quiet_want; first | (refine quiet_loadAny (t := 31) rfl _ _ _ rfl (fun w hw => run_load_imR (ov_B m3 w hw)) (by first | rfl | omega) ?_; simp only [putS]; go_big_quiet_on) | (refine quiet_loadAny (t := 31) rfl _ _ _ rfl (fun w hw => run_load_B (ov_B c6 w hw) Try.isAgg31 (by kernel_rfl)) (by rfl) ?_; simp only [putS]; go_big_quiet_on) | (go_big_quiet_op; go_big_quiet_on)))
 refine wpQuiet_nil ?_
 refine wpRL_skip ?hw1_8 ?_
 case hw1_8 => kernel_rfl
 simp only [putS]
 refine wpRL_chunk 2 (by kernel_rfl) ?_
 simp only [takS, Nat.reduceAdd]
 repeat (first | go_big_quiet_skip | (go_big_quiet_want; go_big_quiet_op; go_big_quiet_on))
 refine wpQuiet_nil ?_
 refine wpRL_nil ?_
 intro wn hbn hE
 have hsz := B.size
 have hzn := hbn.size
 replace B := B.trans (hbn.mono B.size)
 (try replace r4 := r4.below hbn)
 clear hE
 try simp only [List.drop_succ_cons, List.drop_zero]
 refine NoPan.normal ?_
 go_upto_region 3 with fail
 refine wp_region_lit ?_
 try simp only [gelS]
 refine wpList_chunk 1 (by kernel_rfl) ?_
 simp only [takS, Nat.reduceAdd]
 repeat (first | go_big_quiet_skip | (go_big_quiet_want; go_big_quiet_op; go_big_quiet_on))
 refine wpQuiet_nil ?_
 (refine wpList_storeB (t := 36) rfl _ _ rfl _ rfl _ rfl r4 (by kernel_rfl) rfl (by simp [rcA, imgC, Value.oneCell']) ?_; clear r4; intro wn ht hcn hzn; have hsz := B.size; replace hzn := Nat.le_of_eq hzn.symm; replace B := Chg.below B hcn (by omega) B.size; have r4 := ht; clear ht; simp only [putS])
 refine wpList_chunk 1 (by kernel_rfl) ?_
 simp only [takS, Nat.reduceAdd]
 repeat (first | go_big_quiet_skip | (go_big_quiet_want; go_big_quiet_op; go_big_quiet_on))
 refine wpQuiet_nil ?_
 refine wpList_nil ?_
 go_wp2
 refine bodyPost_ret (results_B2 (t := 36) rfl _ _ (b_r4) rfl _ rfl r4 Try.isAgg36 (by kernel_rfl)) rfl ?_
 exact ⟨rfl, B⟩
set_option maxHeartbeats 4000000 in
theorem P_Paste_len (v : Value) (ls : List TA) (c : Rc) (ad : Option Addr) (n cp : Nat) (w : World) (h : RS v ls w) (hn : n ≤ maxLen) (hV0 : validR c = true) (A : Int) (hA : areaR c = A) (hlen : ¬ (n : Int) = A) : Calls Try.prog 103 #[.agg #[v], .agg (imgC c (.slice ad n cp))] w fun e w' => e = .returned (.tuple #[.agg #[.slice none 0 0], .int .i64 1]) ∧ Below w.heap.size w w' := by
 have B := Below.refl w.heap.size w
 obtain ⟨a, cpv, rfl, hc⟩ := h.len
 have d1 : ((n : Int) != A) = true := by simpa using hlen
 have HA := Lib.hid hA
 clear h hA
 go_enter Try.func103, Try.ntmps103
 go_upto_region 0 with fail
 refine wp_region_lit ?_
 try simp only [gelS]
 (refine wpList_boxB (t := 36) rfl _ rfl _ rfl ?_; intro b_r2 wn hle hge ht hbn hzn; have hsz := B.size; replace B := B.trans (hbn.mono (by omega)); have hln := Nat.lt_of_lt_of_eq (Nat.lt_succ_self _) hzn.symm; clear hzn; have r2 := ht; clear ht; simp only [putS])
 (refine wpList_boxB (t := 134) rfl _ rfl _ rfl ?_; intro b_m3 wn hle hge ht hbn hzn; have hsz := B.size; replace B := B.trans (hbn.mono (by omega)); have hln := Nat.lt_of_lt_of_eq (Nat.lt_succ_self _) hzn.symm; clear hzn; (try have hlt := r2.lt); (try replace r2 := r2.below (hbn.mono hle)); have m3 := ht; clear ht; simp only [putS])
 (refine wpList_allocBk (t := 36) rfl _ (run_alloc_R _ _ rfl) ?_; intro b_r4 wn hle hge ht hbn hzn; have hsz := B.size; replace B := B.trans (hbn.mono (by omega)); have hln := Nat.lt_of_lt_of_eq (Nat.lt_succ_self _) hzn.symm; clear hzn; (try have hlt := r2.lt); (try replace r2 := r2.below (hbn.mono hle)); (try have hlt := m3.lt); (try replace m3 := m3.below (hbn.mono hle)); have r4 := ht; clear ht; simp only [putS])
 refine wpList_chunk 1 (by kernel_rfl) ?_
 simp only [takS, Nat.reduceAdd]
 repeat (first | go_big_quiet_skip | (go_big_quiet_want; go_big_quiet_op; go_big_quiet_on))
 refine wpQuiet_nil ?_
 refine wpList_nil ?_
 go_upto_region 1 with fail
 refine wp_region_lit ?_
 try simp only [gelS]
 refine wpList_chunk 2 (by kernel_rfl) ?_
 simp only [takS, Nat.reduceAdd]
 repeat (first | go_big_quiet_skip | (go_big_quiet_want; first | (refine quiet_loadAny (t := 31) rfl _ _ _ rfl (fun w hw => run_load_imR (ov_B m3 w hw)) (by first | rfl | omega) ?_; simp only [putS]; go_big_quiet_on) | (refine quiet_loadAny (t := 31) rfl _ _ _ rfl (fun w hw => run_load_B (ov_B c6 w hw) Try.isAgg31 (by kernel_rfl)) (by rfl) ?_; simp only [putS]; go_big_quiet_on) | (go_big_quiet_op; go_big_quiet_on)))
 refine wpQuiet_nil ?_
 (refine wpList_allocBk (t := 31) rfl _ (run_alloc_Rc _ _ rfl) ?_; intro b_c6 wn hle hge ht hbn hzn; have hsz := B.size; replace B := B.trans (hbn.mono (by omega)); have hln := Nat.lt_of_lt_of_eq (Nat.lt_succ_self _) hzn.symm; clear hzn; (try have hlt := r2.lt); (try replace r2 := r2.below (hbn.mono hle)); (try have hlt := m3.lt); (try replace m3 := m3.below (hbn.mono hle)); (try have hlt := r4.lt); (try replace r4 := r4.below (hbn.mono hle)); (try have hlt := c6.lt); (try replace c6 := c6.below (hbn.mono hle)); have c6 := ht; clear ht; simp only [putS])
 (refine wpList_storeB (t := 31) rfl _ _ rfl _ rfl _ rfl c6 (by kernel_rfl) rfl (by simp [rcA, imgC, Value.oneCell']) ?_; clear c6; intro wn ht hcn hzn; have hsz := B.size; replace hzn := Nat.le_of_eq hzn.symm; replace B := Chg.below B hcn (by omega) B.size; (try replace r2 := r2.of_eq (hcn.block _ r2.lt (by omega))); (try replace m3 := m3.of_eq (hcn.block _ m3.lt (by omega))); (try replace r4 := r4.of_eq (hcn.block _ r4.lt (by omega))); have c6 := ht; clear ht; simp only [putS])
 refine wpList_nil ?_
 replace c6 : AtB 31 _ b_c6 (rcA c) := c6
 go_upto_region 2 with fail
 try simp only [gelS]
 try have lx_r2 := r2.lt
 try have lx_m3 := m3.lt
 try have lx_r4 := r4.lt
 try have lx_c6 := c6.lt
 refine wp_region_RL 11 [(1, detS ?v2_1), (6, detS ?v2_6), (8, detS ?v2_8)] (by kernel_rfl) (by kernel_rfl) (by kernel_rfl) ?_
 rotate_left 3
 simp only [takS, Nat.reduceAdd]
 refine wpRL_chunk 1 (by kernel_rfl) ?_
 simp only [takS, Nat.reduceAdd]
 repeat (first | go_big_quiet_skip | (go_big_quiet_want; first | (refine quiet_loadAny (t := 31) rfl _ _ _ rfl (fun w hw => run_load_imR (ov_B m3 w hw)) (by first | rfl | omega) ?_; simp only [putS]; go_big_quiet_on) | (refine quiet_loadAny (t := 31) rfl _ _ _ rfl (fun w hw => run_load_B (ov_B c6 w hw) Try.isAgg31 (by kernel_rfl)) (by rfl) ?_; simp only [putS]; go_big_quiet_on) | (go_big_quiet_op; go_big_quiet_on)))
 refine wpQuiet_nil ?_
 refine wpRL_callB (by rfl) (by first | rfl | simp [Region.wanted, yielded]) ?_ ?_
 ·intro wn hbn hE Kx hKx
  have hsz := B.size
  have hzn := hbn.size
  replace B := B.trans (hbn.mono B.size)
  (try replace m3 := m3.below hbn)
  (try replace r4 := r4.below hbn)
  (try replace c6 := c6.below hbn)
  refine wp_callF rfl (enters_of Try.func60 (by kernel_rfl) rfl) (by simp only [Act.eval, evlS]; rfl) ?_
  refine (P_ValidRB c true _ hV0).mono ?_
  rintro e wm ⟨rfl, hbm⟩
  refine ⟨_, rfl, ?_⟩
  have hz := hKx () wm trivial hbm
  dsimp only [detS] at hz
  exact hz
 rintro ⟨⟩
 dsimp only [detS]
 simp only [putS]
 refine wpRL_chunk 4 (by kernel_rfl) ?_
 simp only [takS, Nat.reduceAdd]
 repeat (first | go_big_quiet_skip | (go_big_quiet_want; first | (refine quiet_loadAny (t := 132) rfl _ _ _ rfl (fun w hw => run_load_slp (imgC_u (ov_B m3 w hw))) (by first | rfl | omega) ?_; simp only [putS]; go_big_quiet_on) | (go_big_quiet_op; go_big_quiet_on)))
 refine wpQuiet_nil ?_
 refine wpRL_callB (by rfl) ?hw2_6 ?_ ?_
 case hw2_6 => kernel_rfl
 ·intro wn hbn hE Kx hKx
  have hsz := B.size
  have hzn := hbn.size
  replace B := B.trans (hbn.mono B.size)
  (try replace m3 := m3.below hbn)
  (try replace r4 := r4.below hbn)
  (try replace c6 := c6.below hbn)
  refine wp_lenS rfl Try.underlying132 rfl ?_
  exact hKx () _ trivial (Below.refl _ _)
 rintro ⟨⟩
 dsimp only [detS]
 simp only [putS]
 refine wpRL_chunk 1 (by kernel_rfl) ?_
 simp only [takS, Nat.reduceAdd]
 repeat (first | go_big_quiet_skip | (go_big_quiet_want; first | (refine quiet_loadAny (t := 31) rfl _ _ _ rfl (fun w hw => run_load_imR (ov_B m3 w hw)) (by first | rfl | omega) ?_; simp only [putS]; go_big_quiet_on) | (refine quiet_loadAny (t := 31) rfl _ _ _ rfl (fun w hw => run_load_B (ov_B c6 w hw) Try.isAgg31 (by kernel_rfl)) (by rfl) ?_; simp only [putS]; go_big_quiet_on) | (go_big_quiet_op; go_big_quiet_on)))
 refine wpQuiet_nil ?_
 refine wpRL_callB (by rfl) ?hw2_8 ?_ ?_
 case hw2_8 => kernel_rfl
 ·intro wn hbn hE Kx hKx
  have hsz := B.size
  have hzn := hbn.size
  replace B := B.trans (hbn.mono B.size)
  (try replace r4 := r4.below hbn)
  refine wp_callF rfl (enters_of Try.func128 (by kernel_rfl) rfl) (by simp only [Act.eval, evlS]; rfl) ?_
  refine (P_AreaB c A _ hV0 HA.out).mono ?_
  rintro e wm ⟨rfl, hbm⟩
  refine ⟨_, rfl, ?_⟩
  have hz := hKx () wm trivial hbm
  dsimp only [detS] at hz
  exact hz
 rintro ⟨⟩
 dsimp only [detS]
 simp only [putS]
 refine wpRL_chunk 2 (by kernel_rfl) ?_
 simp only [takS, Nat.reduceAdd]
 repeat (first | go_big_quiet_skip | (go_big_quiet_want; go_big_quiet_op; go_big_quiet_on))
 refine wpQuiet_nil ?_
 refine wpRL_nil ?_
 intro wn hbn hE
 have hsz := B.size
 have hzn := hbn.size
 replace B := B.trans (hbn.mono B.size)
 (try replace r4 := r4.below hbn)
 clear hE
 try simp only [List.drop_succ_cons, List.drop_zero]
 refine NoPan.normal ?_
 go_upto_region 3 with fail
 refine wp_region_lit ?_
 try simp only [gelS]
 refine wpList_chunk 1 (by kernel_rfl) ?_
 simp only [takS, Nat.reduceAdd]
 repeat (first | go_big_quiet_skip | (go_big_quiet_want; go_big_quiet_op; go_big_quiet_on))
 refine wpQuiet_nil ?_
 (refine wpList_storeB (t := 36) rfl _ _ rfl _ rfl _ rfl r4 (by kernel_rfl) rfl (by simp [rcA, imgC, Value.oneCell']) ?_; clear r4; intro wn ht hcn hzn; have hsz := B.size; replace hzn := Nat.le_of_eq hzn.symm; replace B := Chg.below B hcn (by omega) B.size; have r4 := ht; clear ht; simp only [putS])
 refine wpList_chunk 1 (by kernel_rfl) ?_
 simp only [takS, Nat.reduceAdd]
 repeat (first | go_big_quiet_skip | (go_big_quiet_want; go_big_quiet_op; go_big_quiet_on))
 refine wpQuiet_nil ?_
 refine wpList_nil ?_
 go_wp2
 refine bodyPost_ret (results_B2 (t := 36) rfl _ _ (b_r4) rfl _ rfl r4 Try.isAgg36 (by kernel_rfl)) rfl ?_
 exact ⟨rfl, B⟩
set_option maxHeartbeats 4000000 in
theorem P_Paste_big (v : Value) (ls : List TA) (c : Rc) (ad : Option Addr) (n cp : Nat) (w : World) (h : RS v ls w) (hn : n ≤ maxLen) (hV0 : validR c = true) (hA : areaR c = (n : Int)) (e0 : Int) (hF : fitsE c = e0) (h0 : ¬ e0 = 0) : Calls Try.prog 103 #[.agg #[v], .agg (imgC c (.slice ad n cp))] w fun e w' => e = .returned (.tuple #[.agg #[.slice none 0 0], .int .i64 e0]) ∧ Below w.heap.size w w' := by
 have B := Below.refl w.heap.size w
 obtain ⟨a, cpv, rfl, hc⟩ := h.len
 have d1 : ((n : Int) != (n : Int)) = false := by simp
 have d2 : (e0 != 0) = true := by simpa using h0
 have HA := Lib.hid hA
 have HF := Lib.hid hF
 clear h hA hF
 go_enter Try.func103, Try.ntmps103
 go_upto_region 0 with fail
 refine wp_region_lit ?_
 try simp only [gelS]
 (refine wpList_boxB (t := 36) rfl _ rfl _ rfl ?_; intro b_r2 wn hle hge ht hbn hzn; have hsz := B.size; replace B := B.trans (hbn.mono (by omega)); have hln := Nat.lt_of_lt_of_eq (Nat.lt_succ_self _) hzn.symm; clear hzn; have r2 := ht; clear ht; simp only [putS])
 (refine wpList_boxB (t := 134) rfl _ rfl _ rfl ?_; intro b_m3 wn hle hge ht hbn hzn; have hsz := B.size; replace B := B.trans (hbn.mono (by omega)); have hln := Nat.lt_of_lt_of_eq (Nat.lt_succ_self _) hzn.symm; clear hzn; (try have hlt := r2.lt); (try replace r2 := r2.below (hbn.mono hle)); have m3 := ht; clear ht; simp only [putS])
 (refine wpList_allocBk (t := 36) rfl _ (run_alloc_R _ _ rfl) ?_; intro b_r4 wn hle hge ht hbn hzn; have hsz := B.size; replace B := B.trans (hbn.mono (by omega)); have hln := Nat.lt_of_lt_of_eq (Nat.lt_succ_self _) hzn.symm; clear hzn; (try have hlt := r2.lt); (try replace r2 := r2.below (hbn.mono hle)); (try have hlt := m3.lt); (try replace m3 := m3.below (hbn.mono hle)); have r4 := ht; clear ht; simp only [putS])
 refine wpList_chunk 1 (by kernel_rfl) ?_
 simp only [takS, Nat.reduceAdd]
 repeat (first | go_big_quiet_skip | (go_big_quiet_want; go_big_quiet_op; go_big_quiet_on))
 refine wpQuiet_nil ?_
 refine wpList_nil ?_
 go_upto_region 1 with fail
 refine wp_region_lit ?_
 try simp only [gelS]
 refine wpList_chunk 2 (by kernel_rfl) ?_
 simp only [takS, Nat.reduceAdd]
 repeat (first | go_big_quiet_skip | (go_big_quiet_want; first | (refine quiet_loadAny (t := 31) rfl _ _ _ rfl (fun w hw => run_load_imR (ov_B m3 w hw)) (by first | rfl | omega) ?_; simp only [putS]; go_big_quiet_on) | (refine quiet_loadAny (t := 31) rfl _ _ _ rfl (fun w hw => run_load_B (ov_B c6 w hw) Try.isAgg31 (by kernel_rfl)) (by rfl) ?_; simp only [putS]; go_big_quiet_on) | (go_big_quiet_op; go_big_quiet_on)))
 refine wpQuiet_nil ?_
 (refine wpList_allocBk (t := 31) rfl _ (run_alloc_Rc _ _ rfl) ?_; intro b_c6 wn hle hge ht hbn hzn; have hsz := B.size; replace B := B.trans (hbn.mono (by omega)); have hln := Nat.lt_of_lt_of_eq (Nat.lt_succ_self _) hzn.symm; clear hzn; (try have hlt := r2.lt); (try replace r2 := r2.below (hbn.mono hle)); (try have hlt := m3.lt); (try replace m3 := m3.below (hbn.mono hle)); (try have hlt := r4.lt); (try replace r4 := r4.below (hbn.mono hle)); (try have hlt := c6.lt); (try replace c6 := c6.below (hbn.mono hle)); have c6 := ht; clear ht; simp only [putS])
 (refine wpList_storeB (t := 31) rfl _ _ rfl _ rfl _ rfl c6 (by kernel_rfl) rfl (by simp [rcA, imgC, Value.oneCell']) ?_; clear c6; intro wn ht hcn hzn; have hsz := B.size; replace hzn := Nat.le_of_eq hzn.symm; replace B := Chg.below B hcn (by omega) B.size; (try replace r2 := r2.of_eq (hcn.block _ r2.lt (by omega))); (try replace m3 := m3.of_eq (hcn.block _ m3.lt (by omega))); (try replace r4 := r4.of_eq (hcn.block _ r4.lt (by omega))); have c6 := ht; clear ht; simp only [putS])
 refine wpList_nil ?_
 replace c6 : AtB 31 _ b_c6 (rcA c) := c6
 go_upto_region 2 with fail
 try simp only [gelS]
 try have lx_r2 := r2.lt
 try have lx_m3 := m3.lt
 try have lx_r4 := r4.lt
 try have lx_c6 := c6.lt
 refine wp_region_RL 11 [(1, detS ?v3_1), (6, detS ?v3_6), (8, detS ?v3_8)] (by kernel_rfl) (by kernel_rfl) (by kernel_rfl) ?_
 rotate_left 3
 simp only [takS, Nat.reduceAdd]
 refine wpRL_chunk 1 (by kernel_rfl) ?_
 simp only [takS, Nat.reduceAdd]
 repeat (first | go_big_quiet_skip | (go_big_quiet_want; first | (refine quiet_loadAny (t := 31) rfl _ _ _ rfl (fun w hw => run_load_imR (ov_B m3 w hw)) (by first | rfl | omega) ?_; simp only [putS]; go_big_quiet_on) | (refine quiet_loadAny (t := 31) rfl _ _ _ rfl (fun w hw => run_load_B (ov_B c6 w hw) Try.isAgg31 (by kernel_rfl)) (by rfl) ?_; simp only [putS]; go_big_quiet_on) | (go_big_quiet_op; go_big_quiet_on)))
 refine wpQuiet_nil ?_
 refine wpRL_callB (by rfl) (by first | rfl | simp [Region.wanted, yielded]) ?_ ?_
 ·intro wn hbn hE Kx hKx
  have hsz := B.size
  have hzn := hbn.size
  replace B := B.trans (hbn.mono B.size)
  (try replace m3 := m3.below hbn)
  (try replace r4 := r4.below hbn)
  (try replace c6 := c6.below hbn)
  refine wp_callF rfl (enters_of Try.func60 (by kernel_rfl) rfl) (by simp only [Act.eval, evlS]; rfl) ?_
  refine (P_ValidRB c true _ hV0).mono ?_
  rintro e wm ⟨rfl, hbm⟩
  refine ⟨_, rfl, ?_⟩
  have hz := hKx () wm trivial hbm
  dsimp only [detS] at hz
  exact hz
 rintro ⟨⟩
 dsimp only [detS]
 simp only [putS]
 refine wpRL_chunk 4 (by kernel_rfl) ?_
 simp only [takS, Nat.reduceAdd]
 repeat (first | go_big_quiet_skip | (go_big_quiet_want; first | (refine quiet_loadAny (t := 132) rfl _ _ _ rfl (fun w hw => run_load_slp (imgC_u (ov_B m3 w hw))) (by first | rfl | omega) ?_; simp only [putS]; go_big_quiet_on) | (go_big_quiet_op; go_big_quiet_on)))
 refine wpQuiet_nil ?_
 refine wpRL_callB (by rfl) ?hw3_6 ?_ ?_
 case hw3_6 => kernel_rfl
 ·intro wn hbn hE Kx hKx
  have hsz := B.size
  have hzn := hbn.size
  replace B := B.trans (hbn.mono B.size)
  (try replace m3 := m3.below hbn)
  (try replace r4 := r4.below hbn)
  (try replace c6 := c6.below hbn)
  refine wp_lenS rfl Try.underlying132 rfl ?_
  exact hKx () _ trivial (Below.refl _ _)
 rintro ⟨⟩
 dsimp only [detS]
 simp only [putS]
 refine wpRL_chunk 1 (by kernel_rfl) ?_
 simp only [takS, Nat.reduceAdd]
 repeat (first | go_big_quiet_skip | (go_big_quiet_want; first | (refine quiet_loadAny (t := 31) rfl _ _ _ rfl (fun w hw => run_load_imR (ov_B m3 w hw)) (by first | rfl | omega) ?_; simp only [putS]; go_big_quiet_on) | (refine quiet_loadAny (t := 31) rfl _ _ _ rfl (fun w hw => run_load_B (ov_B c6 w hw) Try.isAgg31 (by kernel_rfl)) (by rfl) ?_; simp only [putS]; go_big_quiet_on) | (go_big_quiet_op; go_big_quiet_on)))
 refine wpQuiet_nil ?_
 refine wpRL_callB (by rfl) ?hw3_8 ?_ ?_
 case hw3_8 => kernel_rfl
 ·intro wn hbn hE Kx hKx
  have hsz := B.size
  have hzn := hbn.size
  replace B := B.trans (hbn.mono B.size)
  (try replace m3 := m3.below hbn)
  (try replace r4 := r4.below hbn)
  (try replace c6 := c6.below hbn)
  refine wp_callF rfl (enters_of Try.func128 (by kernel_rfl) rfl) (by simp only [Act.eval, evlS]; rfl) ?_
  refine (P_AreaB c (n : Int) _ hV0 HA.out).mono ?_
  rintro e wm ⟨rfl, hbm⟩
  refine ⟨_, rfl, ?_⟩
  have hz := hKx () wm trivial hbm
  dsimp only [detS] at hz
  exact hz
 rintro ⟨⟩
 dsimp only [detS]
 simp only [putS]
 refine wpRL_chunk 2 (by kernel_rfl) ?_
 simp only [takS, Nat.reduceAdd]
 repeat (first | go_big_quiet_skip | (go_big_quiet_want; go_big_quiet_op; go_big_quiet_on))
 refine wpQuiet_nil ?_
 refine wpRL_nil ?_
 intro wn hbn hE
 have hsz := B.size
 have hzn := hbn.size
 replace B := B.trans (hbn.mono B.size)
 (try replace m3 := m3.below hbn)
 (try replace r4 := r4.below hbn)
 (try replace c6 := c6.below hbn)
 clear hE
 try simp only [List.drop_succ_cons, List.drop_zero]
 refine NoPan.normal ?_
 go_upto_region 4 with fail
 refine wp_region_lit ?_
 try simp only [gelS]
 refine wpList_chunk 1 (by kernel_rfl) ?_
 simp only [takS, Nat.reduceAdd]
 repeat (first | go_big_quiet_skip | (go_big_quiet_want; first | (refine quiet_loadAny (t := 31) rfl _ _ _ rfl (fun w hw => run_load_imR (ov_B m3 w hw)) (by first | rfl | omega) ?_; simp only [putS]; go_big_quiet_on) | (refine quiet_loadAny (t := 31) rfl _ _ _ rfl (fun w hw => run_load_B (ov_B c6 w hw) Try.isAgg31 (by kernel_rfl)) (by rfl) ?_; simp only [putS]; go_big_quiet_on) | (go_big_quiet_op; go_big_quiet_on)))
 refine wpQuiet_nil ?_
 refine wpList_callF (by first | rfl | simp [Region.wanted, yielded]) rfl (enters_of Try.func129 (by kernel_rfl) rfl) (by simp only [Act.eval, evlS]; rfl) ?_
 refine (P_fitsB c e0 _ HF.out).mono ?_
 rintro e wn ⟨rfl, hbn⟩
 have hsz := B.size
 have hzn := hbn.size
 replace B := B.trans (hbn.mono B.size)
 (try replace r4 := r4.below hbn)
 refine ⟨_, rfl, ?_⟩
 simp only [putS]
 refine wpList_chunk 1 (by kernel_rfl) ?_
 simp only [takS, Nat.reduceAdd]
 repeat (first | go_big_quiet_skip | (go_big_quiet_want; go_big_quiet_op; go_big_quiet_on))
 refine wpQuiet_nil ?_
 refine wpList_nil ?_
 go_upto_region 5 with fail
 refine wp_region_lit ?_
 try simp only [gelS]
 refine wpList_chunk 2 (by kernel_rfl) ?_
 simp only [takS, Nat.reduceAdd]
 repeat (first | go_big_quiet_skip | (go_big_quiet_want; go_big_quiet_op; go_big_quiet_on))
 refine wpQuiet_nil ?_
 refine wpList_nil ?_
 go_upto_region 6 with fail
 refine wp_region_lit ?_
 try simp only [gelS]
 refine wpList_chunk 2 (by kernel_rfl) ?_
 simp only [takS, Nat.reduceAdd]
 repeat (first | go_big_quiet_skip | (go_big_quiet_want; go_big_quiet_op; go_big_quiet_on))
 refine wpQuiet_nil ?_
 (refine wpList_storeB (t := 36) rfl _ _ rfl _ rfl _ rfl r4 (by kernel_rfl) rfl (by simp [rcA, imgC, Value.oneCell']) ?_; clear r4; intro wn ht hcn hzn; have hsz := B.size; replace hzn := Nat.le_of_eq hzn.symm; replace B := Chg.below B hcn (by omega) B.size; have r4 := ht; clear ht; simp only [putS])
 refine wpList_chunk 1 (by kernel_rfl) ?_
 simp only [takS, Nat.reduceAdd]
 repeat (first | go_big_quiet_skip | (go_big_quiet_want; go_big_quiet_op; go_big_quiet_on))
 refine wpQuiet_nil ?_
 refine wpList_nil ?_
 go_wp2
 refine bodyPost_ret (results_B2 (t := 36) rfl _ _ (b_r4) rfl _ rfl r4 Try.isAgg36 (by kernel_rfl)) rfl ?_
 exact ⟨rfl, B⟩
end Go.Proofs.Ytamgpfblhlfhaaa
/- A range over a function whose loop variable lies in memory: the round's head makes its block. -/
namespace Go.Proofs.Ytamgpfblhlfhaaa
open Go Go.RowKit
set_option linter.unusedVariables false
set_option linter.unusedSimpArgs false
section
variable {F : Fence} {n : Nat} {P : Program}
/-- The statement 'for x := range seq { .. }' whose head may lay new blocks: 'As x' says what the head leaves. -/
theorem rangeFunc_made {α : Type} {g : Operand} {ps : Array Tmp} {assign body : Code} {Q : Exit → Act → World → Prop} {a : Act} {w : World}
  (hro : F.round = none) (h1 : 1 ≤ n) {gf : Nat} {lb : Array Value} (hg : a.eval g = .func (.func gf) #[] lb) (hFg : F.fn gf) (eg : ∀ args w, (callFunc gf args).run P w = .ok (.enter gf args) w)
  {encs : α → Array Value} {Kp : World → World → Prop} {S Sp : List α → Prop} {N : Nat} {w0 : World} (hseq : SeqStopsK F (n - 1) P gf lb encs Kp S Sp N w0)
  (hKt : ∀ {A B C : World}, Kp A B → Kp B C → Kp A C) (hKb : ∀ (W : World) (l : Nat) (o o' : Obj), w.heap.size ≤ l → W.heap[l]? = some o → o.isCells = false → o.isWalk = false → Kp W (W.putObj l o'))
  (hKg : ∀ (A B : World), Below A.heap.size A B → Kp A B) (hb0 : Below w0.heap.size w0 w) (hps : ∀ x, (encs x).size = ps.size)
  (I : List α → World → Prop) (hI : OwnFrom w.heap.size I) (h0 : I [] w) (As : α → Act → World → Prop) (hAs : ∀ x, OwnFrom w.heap.size (As x))
  (hassign : ∀ (l : Nat) (pre : List α) (x : α) (W : World) (K : Act → World → Prop), I pre W → (∀ a' W', Below W.heap.size W W' → As x a' W' → K a' W') →
   assign.wpIn (F.inRound l) (n - 1 - 1) P (Exit.then K (fun _ _ _ => False)) { tmps := (ps.zip (encs x)).foldl (fun t (p, v) => t.setIfInBounds p v) a.tmps, defers := [] } W)
  (hbody : ∀ (l : Nat) (pre : List α) (x : α) (W : World) (a' : Act), I pre W → As x a' W → pre.length < N → body.wpIn (F.inRound l) (n - 1 - 1) P (ownPostK Kp I (fun _ _ _ => False) (pre ++ [x]) W) a' W)
  (hdone : ∀ (D : Nat) (xs : List α) (W : World), w.heap.size ≤ D → S xs → I xs W → W.heap[D]? = some (.deferred (some [])) → Q .normal { a with defers := { target := .collected D, args := #[] } :: a.defers } W) :
  (Code.rangeFunc g ps assign body).wpIn F n P Q a w := by
 refine wpIn_rangeFunc fun fn hfn => ?_
 rw [hro]
 obtain ⟨rc, hrc⟩ : ∃ rc : LoopState → Option Code → Loop, rc = fun st pe => { state := st, pending := pe, fn, tmps := a.tmps, params := ps, assign, body, defers := w.heap.size } := ⟨_, rfl⟩
 obtain ⟨W1, hW1⟩ : ∃ W1, (w.alloc (.deferred (some []))).alloc (.loop (rc .ready none)) = W1 := ⟨_, rfl⟩
 have blkL : W1.heap[w.heap.size + 1]? = some (.loop (rc .ready none)) := by
  have := World.alloc_heap_new (w.alloc (.deferred (some []))) (.loop (rc .ready none))
  rw [← hW1]
  rwa [World.size_alloc] at this
 have blkD : W1.heap[w.heap.size]? = some (.deferred (some [])) := by
  rw [← hW1]
  exact (Below.heap_alloc _ _ _ (by simp)).trans (World.alloc_heap_new w _)
 have grown : Below w0.heap.size w0 W1 := by
  rw [← hW1]
  exact hb0.trans ((((Below.refl _ w).alloc (Nat.le_refl _) _).alloc (by simp) _).mono hb0.size)
 have szW1 : w.heap.size ≤ W1.heap.size := by rw [← hW1]; simp; omega
 have start : I [] W1 := by rw [← hW1]; exact hI.alloc _ (hI.alloc _ h0)
 refine ⟨w.heap.size + 1, [{ target := .collected w.heap.size, args := #[] }], W1, { target := .fn (.func gf) lb, args := #[.func (.yield (w.heap.size + 1)) #[] #[]] }, W1, gf,
  #[.func (.yield (w.heap.size + 1)) #[] #[]] ++ lb, W1, ?_, ?_, ?_, ?_, fun _ => h1, ?_⟩
 ·rw [← hW1, hrc]; exact run_enterLoop_outer _ _ _ _ _
 ·simp only [resolve, hg]
  simp [go_sem]
 ·intro f' hf'
  simp [Target.leads] at hf'
  subst hf'
  exact hFg
 ·simp [invoke, go_sem, eg]
 have walks : ∀ {A : World} {row : Option Nat}, (∀ r, row = some r → W1.heap.size ≤ r ∧ ∃ o : Obj, A.heap[r]? = some o ∧ o.isWalk = true) → (∀ r, row = some r → w.heap.size ≤ r ∧ ∃ o : Obj, A.heap[r]? = some o ∧ o.isCells = false) := fun hr r e => by
  obtain ⟨hB, o, ho, hw⟩ := hr r e
  exact ⟨by omega, o, ho, Obj.not_cells_of_walk hw⟩
 refine (hseq (w.heap.size + 1)
  (fun pre W => I pre W ∧ W.heap[w.heap.size + 1]? = some (.loop (rc .ready none)) ∧ W.heap[w.heap.size]? = some (.deferred (some [])))
  (fun _ _ => False) W1 grown
  (fun s A B row hs hg' hr => ⟨hI s A B row hs.1 hg' (walks hr), (grownBy_keeps hg' (fun r e => (hr r e).2) hs.2.1 rfl).trans hs.2.1, (grownBy_keeps hg' (fun r e => (hr r e).2) hs.2.2 rfl).trans hs.2.2⟩)
  (fun _ _ _ _ hs _ _ => hs) ?_ ⟨start, blkL, blkD⟩).mono ?_
 ·rintro pre x W ⟨hi, hl, hk⟩ hlen
  have hy := run_yield (P := P) (args := encs x) hl (by rw [hrc]; exact hps x)
  rw [hrc] at hy
  refine ⟨fn, _, assign, body, hy, roundIn_of_wpIn hfn (hassign _ pre x W _ hi fun a' V hb ha => ?_)⟩
  have hlV : V.heap[w.heap.size + 1]? = some (.loop (rc .ready none)) := (hb.block _ (Array.getElem?_eq_some_iff.1 hl).1).trans hl
  have hkV : V.heap[w.heap.size]? = some (.deferred (some [])) := (hb.block _ (Array.getElem?_eq_some_iff.1 hk).1).trans hk
  have hiV : I pre V := hI pre W V none hi (grown_of_below hb) (fun r e => by cases e)
  refine ⟨_, run_beginRound hlV (by rw [hrc]), ?_⟩
  obtain ⟨V1, hV1⟩ : ∃ V1, V.putObj (w.heap.size + 1) (.loop { rc .ready none with state := .busy }) = V1 := ⟨_, rfl⟩
  have hl1 : V1.heap[w.heap.size + 1]? = some (.loop { rc .ready none with state := .busy }) := by rw [← hV1]; exact World.putObj_heap_same (Array.getElem?_eq_some_iff.1 hlV).1
  have hk1 : V1.heap[w.heap.size]? = some (.deferred (some [])) := by rw [← hV1]; exact (World.putObj_heap_other (by omega)).trans hkV
  have hKp1 : Kp W V1 := hKt (hKg _ _ hb) (by rw [← hV1]; exact hKb _ _ _ _ (by omega) hlV rfl rfl)
  have hi1 : I pre V1 := by rw [← hV1]; exact hI.putObj _ hiV (by omega) hlV rfl
  have ha1 : As x a' V1 := by rw [← hV1]; exact (hAs x).putObj _ ha (by omega) hlV rfl
  rw [hV1]
  refine wpIn_mono (hbody _ pre x V1 a' hi1 ha1 hlen) ?_
  rintro e a3 W3 hp
  cases e with
  | normal =>
   obtain ⟨ko, kp, hi3⟩ := hp
   have hl3 := ko.same _ _ hl1 rfl
   have hk3 := ko.same _ _ hk1 rfl
   have he := run_endRound (P := P) none hl3
   rw [hrc] at he
   refine ⟨_, _, he, .inl ⟨rfl, ⟨hI.putObj _ hi3 (by omega) hl3 rfl, ?_, (World.putObj_heap_other (by omega)).trans hk3⟩, hKt (hKt hKp1 kp) (hKb _ _ _ _ (by omega) hl3 rfl rfl)⟩⟩
   rw [World.putObj_heap_same (Array.getElem?_eq_some_iff.1 hl3).1, hrc]
   rfl
  | ret => exact hp.2.elim
  | exit id => exact hp.2.elim
  | goto t => exact hp.2.elim
  | panic ch => exact hp.elim
  | outgrown => exact hp.elim
 ·rintro e W2 ⟨⟨v, rfl⟩, ⟨xs, hS, hi, hl, hk⟩ | ⟨_, _, hf⟩⟩
  ·have he := run_endLoop (P := P) hl (by rw [hrc]; simp)
   rw [hrc] at he
   exact ⟨none, _, he, hdone _ xs _ (Nat.le_refl _) hS (hI.putObj _ hi (by omega) hl rfl) ((World.putObj_heap_other (by omega)).trans hk)⟩
  ·exact hf.elim
end
section
variable {P : Program} {ops : Array Oper} {md : Region.Mode} {Q : Exit → Act → World → Prop} {S : World → Prop} {t0 f : Nat} {a : Act} {w : World} {T : Array Bool}
theorem anyX_three (i j k : Nat) {oi oj ok : Oper} (hi : ops[i]? = some oi) (hj : ops[j]? = some oj) (hk : ops[k]? = some ok) (hr : Region.ready md ops T = [i, j, k]) (hgi : oi.guard = none) (hgj : oj.guard = none) (hgk : ok.guard = none)
  (Hi : ∀ K : Act → World → Prop, (∀ a w, (i < t0 → S w) ∧ wpAnyX P md ops (NoPan Q) S t0 f (T.setIfInBounds i true) a w → K a w) → oi.wp P a w K (NoPan Q))
  (Hj : ∀ K : Act → World → Prop, (∀ a w, (j < t0 → S w) ∧ wpAnyX P md ops (NoPan Q) S t0 f (T.setIfInBounds j true) a w → K a w) → oj.wp P a w K (NoPan Q))
  (Hk : ∀ K : Act → World → Prop, (∀ a w, (k < t0 → S w) ∧ wpAnyX P md ops (NoPan Q) S t0 f (T.setIfInBounds k true) a w → K a w) → ok.wp P a w K (NoPan Q)) : wpAnyX P md ops (NoPan Q) S t0 (f + 1) T a w := by
 refine ⟨fun h => (by rw [hr] at h; cases h), fun n hn => ?_⟩
 rw [hr] at hn
 have hn : n = i ∨ n = j ∨ n = k := by simpa using hn
 rcases hn with rfl | rfl | rfl
 ·unfold wpOp
  rw [hi]
  simp only []
  rw [if_pos (by simp [Region.wanted, hgi])]
  exact .inl (Hi _ fun _ _ h => h)
 ·unfold wpOp
  rw [hj]
  simp only []
  rw [if_pos (by simp [Region.wanted, hgj])]
  exact .inl (Hj _ fun _ _ h => h)
 ·unfold wpOp
  rw [hk]
  simp only []
  rw [if_pos (by simp [Region.wanted, hgk])]
  exact .inl (Hk _ fun _ _ h => h)
end
/-- What keeps all but one block of cells, keeps whatever is no cells. -/
theorem KeepsOthers.chgB {b : Nat} {t : TypeId} {cs : Array Value} {W W' : World} (h : Chg b W W') (hb : AtB t W b cs) : KeepsOthers W W' :=
 ⟨h.size, fun k o hk ho => by
  by_cases e : k = b
  ·subst e
   rw [show W.heap[k]? = _ from hb] at hk
   cases hk
   cases ho
  ·exact (h.block k (Array.getElem?_eq_some_iff.1 hk).1 e).trans hk⟩
theorem KpB.below {b : Nat} {W W' : World} (h : Below W.heap.size W W') : KpB b W W' :=
 ⟨h.size, fun k o _ ho _ => (h.block k (Array.getElem?_eq_some_iff.1 ho).1).trans ho⟩
theorem RCells.own {g o : Nat} {ls : List TA} {A B : World} {row : Option Nat} (h : RCells g o ls A) (hn : 0 < ls.length) (hg : A.grownBy B row) (hr : ∀ r, row = some r → ∃ o : Obj, A.heap[r]? = some o ∧ o.isCells = false) : RCells g o ls B := by
 refine h.of_eq (hg.block g h.lt fun e => ?_)
 obtain ⟨x, hx, hc⟩ := hr g e.symm
 have h0 := h.2 0 hn 0 (by omega)
 have hs : ∃ v, (taC (aT ls 0))[0]? = some v := ⟨_, taC_x _⟩
 obtain ⟨v, hv⟩ := hs
 rw [hv] at h0
 have := cell_not h0 x hx
 rw [hc] at this
 cases this
theorem RS.own {v : Value} {ls : List TA} {A B : World} {row : Option Nat} (h : RS v ls A) (hg : A.grownBy B row) (hr : ∀ r, row = some r → ∃ o : Obj, A.heap[r]? = some o ∧ o.isCells = false) : RS v ls B := by
 rcases h with h | ⟨g, o, c, e, hc, sc⟩
 ·exact .inl h
 ·exact .inr ⟨g, o, c, e, hc, fun hn => (sc hn).own hn hg hr⟩
end Go.Proofs.Ytamgpfblhlfhaaa
/- The iterator over the tiles of a rectangle: its contract. -/
namespace Go.Proofs.Ytamgpfblhlfhaaa
open Go.RowKit Go.Shelf Pl
attribute [local go_sem] Oper.semAt_some
set_option linter.unusedVariables false
set_option linter.unusedSimpArgs false
set_option maxRecDepth 20000
/-- The first k of N. -/
def fpre (N k : Nat) : List (Fin N) := (List.finRange N).take k
theorem fpre_succ {N k : Nat} (h : k < N) : fpre N (k + 1) = fpre N k ++ [⟨k, h⟩] := by
 unfold fpre
 rw [List.take_succ_eq_append_getElem (by simp; omega)]
 simp
theorem fpre_length {N k : Nat} (h : k ≤ N) : (fpre N k).length = k := by unfold fpre; simp; omega
theorem fpre_zero (N : Nat) : fpre N 0 = [] := rfl
theorem fpre_all (N : Nat) : fpre N N = List.finRange N := by unfold fpre; rw [List.take_of_length_le (by simp)]
def posF (c : Rc) (i : Fin (tlN c)) : Int × Int := posP c i.val
theorem posF_all (c : Rc) : (List.finRange (tlN c)).map (posF c) = posL c := by
 unfold posL
 refine List.ext_getElem (by simp) fun i h1 h2 => ?_
 simp [posF]
set_option maxHeartbeats 4000000 in
theorem tiles_stops (c : Rc) (HF : Fits c) (bc b8 n : Nat) (hn1 : 1 ≤ n) (w : World) (r0 : AtB 31 w bc (rcA c)) (hb8 : b8 < w.heap.size) :
  SeqStopsK Fence.wide n Try.prog 138 #[.pointer (some ⟨bc, 0, none⟩)] (fun i : Fin (tlN c) => #[.agg #[.int .i64 (posF c i).1, .int .i64 (posF c i).2]]) (KpB b8) (fun xs => xs = List.finRange (tlN c)) (fun _ => True) (tlN c) w := fun l J Jx W0 hW hJa hJxa hY h0 => by
 have hb8 := Nat.lt_of_lt_of_le hb8 hW.size
 have r0 := r0.of_eq (hW.block _ r0.lt)
 have B := Below.refl W0.heap.size W0
 clear hW hJxa
 have hf := Lib.hid HF
 have HJ := Lib.hid (fun (W' : World) (hb : Below W0.heap.size W0 W') => AbidesFrom.below hJa h0 hb)
 have HY := Lib.hid hY
 clear h0 hJa hY
 obtain ⟨hew, hw0⟩ := area_wid (tl_fits HF)
 have hNle := tlN_le HF
 obtain ⟨f1, f2, f3, f4, f5, f6, f7, f8⟩ := HF
 have hE := Lib.hid (show emptyR c = false from (emptyR_not _).2 ⟨f1, f2⟩)
 obtain ⟨W, hW⟩ : ∃ W : Nat, (c.x1 - 1) / 8 + 1 - c.x0 / 8 = (W : Int) := ⟨((c.x1 - 1) / 8 + 1 - c.x0 / 8).toNat, by omega⟩
 obtain ⟨H, hH⟩ : ∃ H : Nat, (c.y1 - 1) / 8 + 1 - c.y0 / 8 = (H : Int) := ⟨((c.y1 - 1) / 8 + 1 - c.y0 / 8).toNat, by omega⟩
 have eW : widN (tlR c) = W := by unfold widN tlR; simp only; rw [hW]; exact Int.toNat_natCast _
 have eH : ((tlR c).y1 - (tlR c).y0).toNat = H := by unfold tlR; simp only; rw [hH]; exact Int.toNat_natCast _
 rw [eW, eH] at hew
 rw [eW] at hw0
 change tlN c = W * H at hew
 have HR := Lib.hid (fun (k j : Nat) (hj : j < W) => by
  have := tl_row (c := c) hf.out (k := k) (j := j) (by rw [eW]; exact hj)
  rw [eW] at this
  exact this)
 have wf1 := Lib.hid (show (Lit.int .i64 c.x0).wf = true from wf_mk (by omega) (by omega))
 have wf2 := Lib.hid (show (Lit.int .i64 c.y0).wf = true from wf_mk (by omega) (by omega))
 have wf3 := Lib.hid (show (Lit.int .i64 (c.x1 - 1)).wf = true from wf_mk (by omega) (by omega))
 have wf4 := Lib.hid (show (Lit.int .i64 (c.y1 - 1)).wf = true from wf_mk (by omega) (by omega))
 refine callsIn_wide.2 ?_
 show Calls Try.prog 138 #[.func (.yield l) #[] #[], .pointer (some ⟨bc, 0, none⟩)] W0 _
 go_enter Try.func138, Try.ntmps138
 go_upto_region 0 with fail
 refine wp_region_lit ?_
 try simp only [gelS]
 refine wpList_chunk 1 (by kernel_rfl) ?_
 simp only [takS, Nat.reduceAdd]
 repeat (first | go_big_quiet_skip | (go_big_quiet_want; first | (refine quiet_loadAny (t := 31) rfl _ _ _ rfl (fun w hw => run_load_B (ov_B r0 w hw) Try.isAgg31 (by kernel_rfl)) (by rfl) ?_; simp only [putS]; go_big_quiet_on) | (go_big_quiet_op; go_big_quiet_on)))
 refine wpQuiet_nil ?_
 refine wpList_callF (by first | rfl | simp [Region.wanted, yielded]) rfl (enters_of Try.func101 (by kernel_rfl) rfl) (by simp only [Act.eval, evlS]; rfl) ?_
 refine (P_EmptyB c false _ hE.out).mono ?_
 rintro e wn ⟨rfl, hbn⟩
 have hsz := B.size
 have hzn := hbn.size
 replace B := B.trans (hbn.mono B.size)
 (try replace r0 := r0.below hbn)
 refine ⟨_, rfl, ?_⟩
 simp only [putS]
 refine wpList_nil ?_
 have hsw := hbn.size
 go_upto_region 1 with fail
 have r0B := r0
 go_cut [3, 4] from 9 to 29 (fun s3 s4 wx => ∃ b_p3 b_p4, s3 = .pointer (some ⟨b_p3, 0, none⟩) ∧ s4 = .pointer (some ⟨b_p4, 0, none⟩) ∧ Below W0.heap.size W0 wx ∧ W0.heap.size ≤ b_p3 ∧ W0.heap.size ≤ b_p4 ∧ AtB 105 wx b_p3 #[.int .i64 (c.x0 / 8), .int .i64 (c.y0 / 8)] ∧ AtB 105 wx b_p4 #[.int .i64 ((c.x1 - 1) / 8), .int .i64 ((c.y1 - 1) / 8)])
 case first =>
  refine wp_region_X0 16 #[false, false, false, false, false, false, false, false, false, false, false, false, false, false, false, false, false, false] (by kernel_rfl) (by kernel_rfl) ?_
  intro wn hbn
  have hX := hbn
  have hsz := B.size
  have hzn := hbn.size
  replace B := B.trans (hbn.mono B.size)
  try replace r0 := r0.below hbn
  simp only [List.length_cons, List.length_nil, Nat.reduceAdd]
  refine anyX_take 0 rfl (by kernel_rfl) ⟨_, ov_of hX⟩ ?_
  intro K hK
  try simp only [gelS]
  (first | (refine quiet_loadAny (t := 31) rfl _ _ _ rfl (fun w hw => run_load_B (ov_B r0B w hw) Try.isAgg31 (by kernel_rfl)) (by rfl) ?_; simp only [putS]; go_big_quiet_on) | (refine quiet_loadAny (t := 3) rfl _ _ _ rfl (fun w hw => run_load_int ((ov_B r0B w hw).cellL 0 rfl)) (by rfl) ?_; simp only [putS]; go_big_quiet_on) | (refine quiet_loadAny (t := 3) rfl _ _ _ rfl (fun w hw => run_load_int ((ov_B r0B w hw).cellL 1 rfl)) (by rfl) ?_; simp only [putS]; go_big_quiet_on) | (refine quiet_loadAny (t := 3) rfl _ _ _ rfl (fun w hw => run_load_int ((ov_B r0B w hw).cellL 2 rfl)) (by rfl) ?_; simp only [putS]; go_big_quiet_on) | (refine quiet_loadAny (t := 3) rfl _ _ _ rfl (fun w hw => run_load_int ((ov_B r0B w hw).cellL 3 rfl)) (by rfl) ?_; simp only [putS]; go_big_quiet_on) | (go_big_quiet_op; go_big_quiet_on))
  simp only [putS]
  refine anyX_take 1 rfl (by kernel_rfl) ⟨_, ov_of hX⟩ ?_
  intro K hK
  try simp only [gelS]
  (first | (refine quiet_loadAny (t := 31) rfl _ _ _ rfl (fun w hw => run_load_B (ov_B r0B w hw) Try.isAgg31 (by kernel_rfl)) (by rfl) ?_; simp only [putS]; go_big_quiet_on) | (refine quiet_loadAny (t := 3) rfl _ _ _ rfl (fun w hw => run_load_int ((ov_B r0B w hw).cellL 0 rfl)) (by rfl) ?_; simp only [putS]; go_big_quiet_on) | (refine quiet_loadAny (t := 3) rfl _ _ _ rfl (fun w hw => run_load_int ((ov_B r0B w hw).cellL 1 rfl)) (by rfl) ?_; simp only [putS]; go_big_quiet_on) | (refine quiet_loadAny (t := 3) rfl _ _ _ rfl (fun w hw => run_load_int ((ov_B r0B w hw).cellL 2 rfl)) (by rfl) ?_; simp only [putS]; go_big_quiet_on) | (refine quiet_loadAny (t := 3) rfl _ _ _ rfl (fun w hw => run_load_int ((ov_B r0B w hw).cellL 3 rfl)) (by rfl) ?_; simp only [putS]; go_big_quiet_on) | (go_big_quiet_op; go_big_quiet_on))
  simp only [putS]
  refine anyX_take 2 rfl (by kernel_rfl) ⟨_, ov_of hX⟩ ?_
  intro K hK
  try simp only [gelS]
  (first | (refine quiet_loadAny (t := 31) rfl _ _ _ rfl (fun w hw => run_load_B (ov_B r0B w hw) Try.isAgg31 (by kernel_rfl)) (by rfl) ?_; simp only [putS]; go_big_quiet_on) | (refine quiet_loadAny (t := 3) rfl _ _ _ rfl (fun w hw => run_load_int ((ov_B r0B w hw).cellL 0 rfl)) (by rfl) ?_; simp only [putS]; go_big_quiet_on) | (refine quiet_loadAny (t := 3) rfl _ _ _ rfl (fun w hw => run_load_int ((ov_B r0B w hw).cellL 1 rfl)) (by rfl) ?_; simp only [putS]; go_big_quiet_on) | (refine quiet_loadAny (t := 3) rfl _ _ _ rfl (fun w hw => run_load_int ((ov_B r0B w hw).cellL 2 rfl)) (by rfl) ?_; simp only [putS]; go_big_quiet_on) | (refine quiet_loadAny (t := 3) rfl _ _ _ rfl (fun w hw => run_load_int ((ov_B r0B w hw).cellL 3 rfl)) (by rfl) ?_; simp only [putS]; go_big_quiet_on) | (go_big_quiet_op; go_big_quiet_on))
  simp only [putS]
  refine anyX_take 3 rfl (by kernel_rfl) ⟨_, ov_of hX⟩ ?_
  intro K hK
  try simp only [gelS]
  (first | (refine quiet_loadAny (t := 31) rfl _ _ _ rfl (fun w hw => run_load_B (ov_B r0B w hw) Try.isAgg31 (by kernel_rfl)) (by rfl) ?_; simp only [putS]; go_big_quiet_on) | (refine quiet_loadAny (t := 3) rfl _ _ _ rfl (fun w hw => run_load_int ((ov_B r0B w hw).cellL 0 rfl)) (by rfl) ?_; simp only [putS]; go_big_quiet_on) | (refine quiet_loadAny (t := 3) rfl _ _ _ rfl (fun w hw => run_load_int ((ov_B r0B w hw).cellL 1 rfl)) (by rfl) ?_; simp only [putS]; go_big_quiet_on) | (refine quiet_loadAny (t := 3) rfl _ _ _ rfl (fun w hw => run_load_int ((ov_B r0B w hw).cellL 2 rfl)) (by rfl) ?_; simp only [putS]; go_big_quiet_on) | (refine quiet_loadAny (t := 3) rfl _ _ _ rfl (fun w hw => run_load_int ((ov_B r0B w hw).cellL 3 rfl)) (by rfl) ?_; simp only [putS]; go_big_quiet_on) | (go_big_quiet_op; go_big_quiet_on))
  simp only [putS]
  refine anyX_take 4 rfl (by kernel_rfl) ⟨_, ov_of hX⟩ ?_
  intro K hK
  try simp only [gelS]
  (first | (refine quiet_loadAny (t := 31) rfl _ _ _ rfl (fun w hw => run_load_B (ov_B r0B w hw) Try.isAgg31 (by kernel_rfl)) (by rfl) ?_; simp only [putS]; go_big_quiet_on) | (refine quiet_loadAny (t := 3) rfl _ _ _ rfl (fun w hw => run_load_int ((ov_B r0B w hw).cellL 0 rfl)) (by rfl) ?_; simp only [putS]; go_big_quiet_on) | (refine quiet_loadAny (t := 3) rfl _ _ _ rfl (fun w hw => run_load_int ((ov_B r0B w hw).cellL 1 rfl)) (by rfl) ?_; simp only [putS]; go_big_quiet_on) | (refine quiet_loadAny (t := 3) rfl _ _ _ rfl (fun w hw => run_load_int ((ov_B r0B w hw).cellL 2 rfl)) (by rfl) ?_; simp only [putS]; go_big_quiet_on) | (refine quiet_loadAny (t := 3) rfl _ _ _ rfl (fun w hw => run_load_int ((ov_B r0B w hw).cellL 3 rfl)) (by rfl) ?_; simp only [putS]; go_big_quiet_on) | (go_big_quiet_op; go_big_quiet_on))
  simp only [putS]
  refine anyX_take 6 rfl (by kernel_rfl) ⟨_, ov_of hX⟩ ?_
  intro K hK
  try simp only [gelS]
  (first | (refine quiet_loadAny (t := 31) rfl _ _ _ rfl (fun w hw => run_load_B (ov_B r0B w hw) Try.isAgg31 (by kernel_rfl)) (by rfl) ?_; simp only [putS]; go_big_quiet_on) | (refine quiet_loadAny (t := 3) rfl _ _ _ rfl (fun w hw => run_load_int ((ov_B r0B w hw).cellL 0 rfl)) (by rfl) ?_; simp only [putS]; go_big_quiet_on) | (refine quiet_loadAny (t := 3) rfl _ _ _ rfl (fun w hw => run_load_int ((ov_B r0B w hw).cellL 1 rfl)) (by rfl) ?_; simp only [putS]; go_big_quiet_on) | (refine quiet_loadAny (t := 3) rfl _ _ _ rfl (fun w hw => run_load_int ((ov_B r0B w hw).cellL 2 rfl)) (by rfl) ?_; simp only [putS]; go_big_quiet_on) | (refine quiet_loadAny (t := 3) rfl _ _ _ rfl (fun w hw => run_load_int ((ov_B r0B w hw).cellL 3 rfl)) (by rfl) ?_; simp only [putS]; go_big_quiet_on) | (go_big_quiet_op; go_big_quiet_on))
  simp only [putS]
  refine anyX_take 7 rfl (by kernel_rfl) ⟨_, ov_of hX⟩ ?_
  intro K hK
  try simp only [gelS]
  (first | (refine quiet_loadAny (t := 31) rfl _ _ _ rfl (fun w hw => run_load_B (ov_B r0B w hw) Try.isAgg31 (by kernel_rfl)) (by rfl) ?_; simp only [putS]; go_big_quiet_on) | (refine quiet_loadAny (t := 3) rfl _ _ _ rfl (fun w hw => run_load_int ((ov_B r0B w hw).cellL 0 rfl)) (by rfl) ?_; simp only [putS]; go_big_quiet_on) | (refine quiet_loadAny (t := 3) rfl _ _ _ rfl (fun w hw => run_load_int ((ov_B r0B w hw).cellL 1 rfl)) (by rfl) ?_; simp only [putS]; go_big_quiet_on) | (refine quiet_loadAny (t := 3) rfl _ _ _ rfl (fun w hw => run_load_int ((ov_B r0B w hw).cellL 2 rfl)) (by rfl) ?_; simp only [putS]; go_big_quiet_on) | (refine quiet_loadAny (t := 3) rfl _ _ _ rfl (fun w hw => run_load_int ((ov_B r0B w hw).cellL 3 rfl)) (by rfl) ?_; simp only [putS]; go_big_quiet_on) | (go_big_quiet_op; go_big_quiet_on))
  simp only [putS]
  refine anyX_take 8 rfl (by kernel_rfl) ⟨_, ov_of hX⟩ ?_
  intro K hK
  try simp only [gelS]
  (first | (refine quiet_loadAny (t := 31) rfl _ _ _ rfl (fun w hw => run_load_B (ov_B r0B w hw) Try.isAgg31 (by kernel_rfl)) (by rfl) ?_; simp only [putS]; go_big_quiet_on) | (refine quiet_loadAny (t := 3) rfl _ _ _ rfl (fun w hw => run_load_int ((ov_B r0B w hw).cellL 0 rfl)) (by rfl) ?_; simp only [putS]; go_big_quiet_on) | (refine quiet_loadAny (t := 3) rfl _ _ _ rfl (fun w hw => run_load_int ((ov_B r0B w hw).cellL 1 rfl)) (by rfl) ?_; simp only [putS]; go_big_quiet_on) | (refine quiet_loadAny (t := 3) rfl _ _ _ rfl (fun w hw => run_load_int ((ov_B r0B w hw).cellL 2 rfl)) (by rfl) ?_; simp only [putS]; go_big_quiet_on) | (refine quiet_loadAny (t := 3) rfl _ _ _ rfl (fun w hw => run_load_int ((ov_B r0B w hw).cellL 3 rfl)) (by rfl) ?_; simp only [putS]; go_big_quiet_on) | (go_big_quiet_op; go_big_quiet_on))
  simp only [putS]
  refine anyX_take 9 rfl (by kernel_rfl) ⟨_, ov_of hX⟩ ?_
  intro K hK
  try simp only [gelS]
  (first | (refine quiet_loadAny (t := 31) rfl _ _ _ rfl (fun w hw => run_load_B (ov_B r0B w hw) Try.isAgg31 (by kernel_rfl)) (by rfl) ?_; simp only [putS]; go_big_quiet_on) | (refine quiet_loadAny (t := 3) rfl _ _ _ rfl (fun w hw => run_load_int ((ov_B r0B w hw).cellL 0 rfl)) (by rfl) ?_; simp only [putS]; go_big_quiet_on) | (refine quiet_loadAny (t := 3) rfl _ _ _ rfl (fun w hw => run_load_int ((ov_B r0B w hw).cellL 1 rfl)) (by rfl) ?_; simp only [putS]; go_big_quiet_on) | (refine quiet_loadAny (t := 3) rfl _ _ _ rfl (fun w hw => run_load_int ((ov_B r0B w hw).cellL 2 rfl)) (by rfl) ?_; simp only [putS]; go_big_quiet_on) | (refine quiet_loadAny (t := 3) rfl _ _ _ rfl (fun w hw => run_load_int ((ov_B r0B w hw).cellL 3 rfl)) (by rfl) ?_; simp only [putS]; go_big_quiet_on) | (go_big_quiet_op; go_big_quiet_on))
  simp only [putS]
  refine anyX_take 10 rfl (by kernel_rfl) ⟨_, ov_of hX⟩ ?_
  intro K hK
  try simp only [gelS]
  (first | (refine quiet_loadAny (t := 31) rfl _ _ _ rfl (fun w hw => run_load_B (ov_B r0B w hw) Try.isAgg31 (by kernel_rfl)) (by rfl) ?_; simp only [putS]; go_big_quiet_on) | (refine quiet_loadAny (t := 3) rfl _ _ _ rfl (fun w hw => run_load_int ((ov_B r0B w hw).cellL 0 rfl)) (by rfl) ?_; simp only [putS]; go_big_quiet_on) | (refine quiet_loadAny (t := 3) rfl _ _ _ rfl (fun w hw => run_load_int ((ov_B r0B w hw).cellL 1 rfl)) (by rfl) ?_; simp only [putS]; go_big_quiet_on) | (refine quiet_loadAny (t := 3) rfl _ _ _ rfl (fun w hw => run_load_int ((ov_B r0B w hw).cellL 2 rfl)) (by rfl) ?_; simp only [putS]; go_big_quiet_on) | (refine quiet_loadAny (t := 3) rfl _ _ _ rfl (fun w hw => run_load_int ((ov_B r0B w hw).cellL 3 rfl)) (by rfl) ?_; simp only [putS]; go_big_quiet_on) | (go_big_quiet_op; go_big_quiet_on))
  simp only [putS]
  refine anyX_take 11 rfl (by kernel_rfl) ⟨_, ov_of hX⟩ ?_
  intro K hK
  try simp only [gelS]
  (first | (refine quiet_loadAny (t := 31) rfl _ _ _ rfl (fun w hw => run_load_B (ov_B r0B w hw) Try.isAgg31 (by kernel_rfl)) (by rfl) ?_; simp only [putS]; go_big_quiet_on) | (refine quiet_loadAny (t := 3) rfl _ _ _ rfl (fun w hw => run_load_int ((ov_B r0B w hw).cellL 0 rfl)) (by rfl) ?_; simp only [putS]; go_big_quiet_on) | (refine quiet_loadAny (t := 3) rfl _ _ _ rfl (fun w hw => run_load_int ((ov_B r0B w hw).cellL 1 rfl)) (by rfl) ?_; simp only [putS]; go_big_quiet_on) | (refine quiet_loadAny (t := 3) rfl _ _ _ rfl (fun w hw => run_load_int ((ov_B r0B w hw).cellL 2 rfl)) (by rfl) ?_; simp only [putS]; go_big_quiet_on) | (refine quiet_loadAny (t := 3) rfl _ _ _ rfl (fun w hw => run_load_int ((ov_B r0B w hw).cellL 3 rfl)) (by rfl) ?_; simp only [putS]; go_big_quiet_on) | (go_big_quiet_op; go_big_quiet_on))
  simp only [putS]
  refine anyX_take 12 rfl (by kernel_rfl) ⟨_, ov_of hX⟩ ?_
  intro K hK
  try simp only [gelS]
  (first | (refine quiet_loadAny (t := 31) rfl _ _ _ rfl (fun w hw => run_load_B (ov_B r0B w hw) Try.isAgg31 (by kernel_rfl)) (by rfl) ?_; simp only [putS]; go_big_quiet_on) | (refine quiet_loadAny (t := 3) rfl _ _ _ rfl (fun w hw => run_load_int ((ov_B r0B w hw).cellL 0 rfl)) (by rfl) ?_; simp only [putS]; go_big_quiet_on) | (refine quiet_loadAny (t := 3) rfl _ _ _ rfl (fun w hw => run_load_int ((ov_B r0B w hw).cellL 1 rfl)) (by rfl) ?_; simp only [putS]; go_big_quiet_on) | (refine quiet_loadAny (t := 3) rfl _ _ _ rfl (fun w hw => run_load_int ((ov_B r0B w hw).cellL 2 rfl)) (by rfl) ?_; simp only [putS]; go_big_quiet_on) | (refine quiet_loadAny (t := 3) rfl _ _ _ rfl (fun w hw => run_load_int ((ov_B r0B w hw).cellL 3 rfl)) (by rfl) ?_; simp only [putS]; go_big_quiet_on) | (go_big_quiet_op; go_big_quiet_on))
  simp only [putS]
  refine anyX_three 5 14 15 rfl rfl rfl (by kernel_rfl) rfl rfl rfl (fun K hK => ?_) (fun K hK => ?_) (fun K hK => ?_)
  ·skip
   try simp only [gelS]
   go_simp
   go_at_call 71
   refine (P_AtO c.x0 c.y0 _ wf1.out wf2.out).mono ?_
   rintro e wn ⟨rfl, hbn⟩
   have hsz := B.size
   have hzn := hbn.size
   have hsx := hX.size
   replace B := B.trans (hbn.mono B.size)
   replace hX := hX.trans (hbn.mono hX.size)
   try replace p3 := p3.below hbn
   try replace p4 := p4.below hbn
   refine hK _ _ ⟨fun _ => ⟨_, ov_of hX⟩, ?_⟩
   clear hK K
   try simp only [gelS]
   simp only [putS]
   refine anyX_three 13 14 15 rfl rfl rfl (by kernel_rfl) rfl rfl rfl (fun K hK => ?_) (fun K hK => ?_) (fun K hK => ?_)
   ·skip
    try simp only [gelS]
    go_simp
    go_at_call 71
    refine (P_AtO (c.x1 - 1) (c.y1 - 1) _ wf3.out wf4.out).mono ?_
    rintro e wn ⟨rfl, hbn⟩
    have hsz := B.size
    have hzn := hbn.size
    have hsx := hX.size
    replace B := B.trans (hbn.mono B.size)
    replace hX := hX.trans (hbn.mono hX.size)
    try replace p3 := p3.below hbn
    try replace p4 := p4.below hbn
    refine hK _ _ ⟨fun _ => ⟨_, ov_of hX⟩, ?_⟩
    clear hK K
    try simp only [gelS]
    simp only [putS]
    refine anyX_two 14 15 rfl rfl (by kernel_rfl) rfl rfl (fun K hK => ?_) (fun K hK => ?_)
    ·skip
     try simp only [gelS]
     refine owp_allocBk (t := 105) _ (run_alloc_Ps _ _ rfl) ?_
     intro b_p3 wn hle hge ht hbn hzn
     have hsz := B.size
     have hsx := hX.size
     replace B := B.trans (hbn.mono (by omega))
     replace hX := hX.trans (hbn.mono (by omega))
     try first | (have hlt := p3.lt; replace p3 := p3.of_eq (hbn.block _ (by omega))) | replace p3 := p3.below (hbn.mono hle)
     try first | (have hlt := p4.lt; replace p4 := p4.of_eq (hbn.block _ (by omega))) | replace p4 := p4.below (hbn.mono hle)
     have p3 := ht
     clear ht
     refine hK _ _ ⟨fun _ => ⟨_, ov_of hX⟩, ?_⟩
     clear hK K
     try simp only [gelS]
     simp only [putS]
     refine anyX_next 15 rfl (by kernel_rfl) rfl (fun K hK => ?_)
     try simp only [gelS]
     refine owp_allocBk (t := 105) _ (run_alloc_Ps _ _ rfl) ?_
     intro b_p4 wn hle hge ht hbn hzn
     have hsz := B.size
     have hsx := hX.size
     replace B := B.trans (hbn.mono (by omega))
     replace hX := hX.trans (hbn.mono (by omega))
     try first | (have hlt := p3.lt; replace p3 := p3.of_eq (hbn.block _ (by omega))) | replace p3 := p3.below (hbn.mono hle)
     try first | (have hlt := p4.lt; replace p4 := p4.of_eq (hbn.block _ (by omega))) | replace p4 := p4.below (hbn.mono hle)
     have p4 := ht
     clear ht
     refine hK _ _ ⟨fun _ => ⟨_, ov_of hX⟩, ?_⟩
     clear hK K
     try simp only [gelS]
     simp only [putS]
     refine anyX_seq (by kernel_rfl) (by kernel_rfl) ?_
     simp only [List.drop_succ_cons, List.drop_zero]
     go_wp2_with (first | (refine wpList_storeB (t := 105) rfl _ _ rfl _ rfl _ rfl p3 (by kernel_rfl) rfl (by simp [Value.oneCell']) ?_; clear p3; intro wn ht hcn hzn; have hsz := B.size; replace hzn := Nat.le_of_eq hzn.symm; replace B := Chg.below B hcn (by omega) B.size; (try replace p4 := p4.of_eq (hcn.block _ p4.lt (by omega))); have p3 := ht; clear ht; simp only [putS]) | (refine wpList_storeB (t := 105) rfl _ _ rfl _ rfl _ rfl p4 (by kernel_rfl) rfl (by simp [Value.oneCell']) ?_; clear p4; intro wn ht hcn hzn; have hsz := B.size; replace hzn := Nat.le_of_eq hzn.symm; replace B := Chg.below B hcn (by omega) B.size; (try replace p3 := p3.of_eq (hcn.block _ p3.lt (by omega))); have p4 := ht; clear ht; simp only [putS]) | fail)
     refine NoPan.normal ?_
     go_wp2_with fail
     go_meet
     exact ⟨b_p3, b_p4, rfl, rfl, B, by omega, by omega, p3, p4⟩
    ·skip
     try simp only [gelS]
     refine owp_allocBk (t := 105) _ (run_alloc_Ps _ _ rfl) ?_
     intro b_p4 wn hle hge ht hbn hzn
     have hsz := B.size
     have hsx := hX.size
     replace B := B.trans (hbn.mono (by omega))
     replace hX := hX.trans (hbn.mono (by omega))
     try first | (have hlt := p3.lt; replace p3 := p3.of_eq (hbn.block _ (by omega))) | replace p3 := p3.below (hbn.mono hle)
     try first | (have hlt := p4.lt; replace p4 := p4.of_eq (hbn.block _ (by omega))) | replace p4 := p4.below (hbn.mono hle)
     have p4 := ht
     clear ht
     refine hK _ _ ⟨fun _ => ⟨_, ov_of hX⟩, ?_⟩
     clear hK K
     try simp only [gelS]
     simp only [putS]
     refine anyX_next 14 rfl (by kernel_rfl) rfl (fun K hK => ?_)
     try simp only [gelS]
     refine owp_allocBk (t := 105) _ (run_alloc_Ps _ _ rfl) ?_
     intro b_p3 wn hle hge ht hbn hzn
     have hsz := B.size
     have hsx := hX.size
     replace B := B.trans (hbn.mono (by omega))
     replace hX := hX.trans (hbn.mono (by omega))
     try first | (have hlt := p3.lt; replace p3 := p3.of_eq (hbn.block _ (by omega))) | replace p3 := p3.below (hbn.mono hle)
     try first | (have hlt := p4.lt; replace p4 := p4.of_eq (hbn.block _ (by omega))) | replace p4 := p4.below (hbn.mono hle)
     have p3 := ht
     clear ht
     refine hK _ _ ⟨fun _ => ⟨_, ov_of hX⟩, ?_⟩
     clear hK K
     try simp only [gelS]
     simp only [putS]
     refine anyX_seq (by kernel_rfl) (by kernel_rfl) ?_
     simp only [List.drop_succ_cons, List.drop_zero]
     go_wp2_with (first | (refine wpList_storeB (t := 105) rfl _ _ rfl _ rfl _ rfl p3 (by kernel_rfl) rfl (by simp [Value.oneCell']) ?_; clear p3; intro wn ht hcn hzn; have hsz := B.size; replace hzn := Nat.le_of_eq hzn.symm; replace B := Chg.below B hcn (by omega) B.size; (try replace p4 := p4.of_eq (hcn.block _ p4.lt (by omega))); have p3 := ht; clear ht; simp only [putS]) | (refine wpList_storeB (t := 105) rfl _ _ rfl _ rfl _ rfl p4 (by kernel_rfl) rfl (by simp [Value.oneCell']) ?_; clear p4; intro wn ht hcn hzn; have hsz := B.size; replace hzn := Nat.le_of_eq hzn.symm; replace B := Chg.below B hcn (by omega) B.size; (try replace p3 := p3.of_eq (hcn.block _ p3.lt (by omega))); have p4 := ht; clear ht; simp only [putS]) | fail)
     refine NoPan.normal ?_
     go_wp2_with fail
     go_meet
     exact ⟨b_p3, b_p4, rfl, rfl, B, by omega, by omega, p3, p4⟩
   ·skip
    try simp only [gelS]
    refine owp_allocBk (t := 105) _ (run_alloc_Ps _ _ rfl) ?_
    intro b_p3 wn hle hge ht hbn hzn
    have hsz := B.size
    have hsx := hX.size
    replace B := B.trans (hbn.mono (by omega))
    replace hX := hX.trans (hbn.mono (by omega))
    try first | (have hlt := p3.lt; replace p3 := p3.of_eq (hbn.block _ (by omega))) | replace p3 := p3.below (hbn.mono hle)
    try first | (have hlt := p4.lt; replace p4 := p4.of_eq (hbn.block _ (by omega))) | replace p4 := p4.below (hbn.mono hle)
    have p3 := ht
    clear ht
    refine hK _ _ ⟨fun _ => ⟨_, ov_of hX⟩, ?_⟩
    clear hK K
    try simp only [gelS]
    simp only [putS]
    refine anyX_two 13 15 rfl rfl (by kernel_rfl) rfl rfl (fun K hK => ?_) (fun K hK => ?_)
    ·skip
     try simp only [gelS]
     go_simp
     go_at_call 71
     refine (P_AtO (c.x1 - 1) (c.y1 - 1) _ wf3.out wf4.out).mono ?_
     rintro e wn ⟨rfl, hbn⟩
     have hsz := B.size
     have hzn := hbn.size
     have hsx := hX.size
     replace B := B.trans (hbn.mono B.size)
     replace hX := hX.trans (hbn.mono hX.size)
     try replace p3 := p3.below hbn
     try replace p4 := p4.below hbn
     refine hK _ _ ⟨fun _ => ⟨_, ov_of hX⟩, ?_⟩
     clear hK K
     try simp only [gelS]
     simp only [putS]
     refine anyX_next 15 rfl (by kernel_rfl) rfl (fun K hK => ?_)
     try simp only [gelS]
     refine owp_allocBk (t := 105) _ (run_alloc_Ps _ _ rfl) ?_
     intro b_p4 wn hle hge ht hbn hzn
     have hsz := B.size
     have hsx := hX.size
     replace B := B.trans (hbn.mono (by omega))
     replace hX := hX.trans (hbn.mono (by omega))
     try first | (have hlt := p3.lt; replace p3 := p3.of_eq (hbn.block _ (by omega))) | replace p3 := p3.below (hbn.mono hle)
     try first | (have hlt := p4.lt; replace p4 := p4.of_eq (hbn.block _ (by omega))) | replace p4 := p4.below (hbn.mono hle)
     have p4 := ht
     clear ht
     refine hK _ _ ⟨fun _ => ⟨_, ov_of hX⟩, ?_⟩
     clear hK K
     try simp only [gelS]
     simp only [putS]
     refine anyX_seq (by kernel_rfl) (by kernel_rfl) ?_
     simp only [List.drop_succ_cons, List.drop_zero]
     go_wp2_with (first | (refine wpList_storeB (t := 105) rfl _ _ rfl _ rfl _ rfl p3 (by kernel_rfl) rfl (by simp [Value.oneCell']) ?_; clear p3; intro wn ht hcn hzn; have hsz := B.size; replace hzn := Nat.le_of_eq hzn.symm; replace B := Chg.below B hcn (by omega) B.size; (try replace p4 := p4.of_eq (hcn.block _ p4.lt (by omega))); have p3 := ht; clear ht; simp only [putS]) | (refine wpList_storeB (t := 105) rfl _ _ rfl _ rfl _ rfl p4 (by kernel_rfl) rfl (by simp [Value.oneCell']) ?_; clear p4; intro wn ht hcn hzn; have hsz := B.size; replace hzn := Nat.le_of_eq hzn.symm; replace B := Chg.below B hcn (by omega) B.size; (try replace p3 := p3.of_eq (hcn.block _ p3.lt (by omega))); have p4 := ht; clear ht; simp only [putS]) | fail)
     refine NoPan.normal ?_
     go_wp2_with fail
     go_meet
     exact ⟨b_p3, b_p4, rfl, rfl, B, by omega, by omega, p3, p4⟩
    ·skip
     try simp only [gelS]
     refine owp_allocBk (t := 105) _ (run_alloc_Ps _ _ rfl) ?_
     intro b_p4 wn hle hge ht hbn hzn
     have hsz := B.size
     have hsx := hX.size
     replace B := B.trans (hbn.mono (by omega))
     replace hX := hX.trans (hbn.mono (by omega))
     try first | (have hlt := p3.lt; replace p3 := p3.of_eq (hbn.block _ (by omega))) | replace p3 := p3.below (hbn.mono hle)
     try first | (have hlt := p4.lt; replace p4 := p4.of_eq (hbn.block _ (by omega))) | replace p4 := p4.below (hbn.mono hle)
     have p4 := ht
     clear ht
     refine hK _ _ ⟨fun _ => ⟨_, ov_of hX⟩, ?_⟩
     clear hK K
     try simp only [gelS]
     simp only [putS]
     refine anyX_next 13 rfl (by kernel_rfl) rfl (fun K hK => ?_)
     try simp only [gelS]
     go_simp
     go_at_call 71
     refine (P_AtO (c.x1 - 1) (c.y1 - 1) _ wf3.out wf4.out).mono ?_
     rintro e wn ⟨rfl, hbn⟩
     have hsz := B.size
     have hzn := hbn.size
     have hsx := hX.size
     replace B := B.trans (hbn.mono B.size)
     replace hX := hX.trans (hbn.mono hX.size)
     try replace p3 := p3.below hbn
     try replace p4 := p4.below hbn
     refine hK _ _ ⟨fun _ => ⟨_, ov_of hX⟩, ?_⟩
     clear hK K
     try simp only [gelS]
     simp only [putS]
     refine anyX_seq (by kernel_rfl) (by kernel_rfl) ?_
     simp only [List.drop_succ_cons, List.drop_zero]
     go_wp2_with (first | (refine wpList_storeB (t := 105) rfl _ _ rfl _ rfl _ rfl p3 (by kernel_rfl) rfl (by simp [Value.oneCell']) ?_; clear p3; intro wn ht hcn hzn; have hsz := B.size; replace hzn := Nat.le_of_eq hzn.symm; replace B := Chg.below B hcn (by omega) B.size; (try replace p4 := p4.of_eq (hcn.block _ p4.lt (by omega))); have p3 := ht; clear ht; simp only [putS]) | (refine wpList_storeB (t := 105) rfl _ _ rfl _ rfl _ rfl p4 (by kernel_rfl) rfl (by simp [Value.oneCell']) ?_; clear p4; intro wn ht hcn hzn; have hsz := B.size; replace hzn := Nat.le_of_eq hzn.symm; replace B := Chg.below B hcn (by omega) B.size; (try replace p3 := p3.of_eq (hcn.block _ p3.lt (by omega))); have p4 := ht; clear ht; simp only [putS]) | fail)
     refine NoPan.normal ?_
     go_wp2_with fail
     go_meet
     exact ⟨b_p3, b_p4, rfl, rfl, B, by omega, by omega, p3, p4⟩
   ·skip
    try simp only [gelS]
    refine owp_allocBk (t := 105) _ (run_alloc_Ps _ _ rfl) ?_
    intro b_p4 wn hle hge ht hbn hzn
    have hsz := B.size
    have hsx := hX.size
    replace B := B.trans (hbn.mono (by omega))
    replace hX := hX.trans (hbn.mono (by omega))
    try first | (have hlt := p3.lt; replace p3 := p3.of_eq (hbn.block _ (by omega))) | replace p3 := p3.below (hbn.mono hle)
    try first | (have hlt := p4.lt; replace p4 := p4.of_eq (hbn.block _ (by omega))) | replace p4 := p4.below (hbn.mono hle)
    have p4 := ht
    clear ht
    refine hK _ _ ⟨fun _ => ⟨_, ov_of hX⟩, ?_⟩
    clear hK K
    try simp only [gelS]
    simp only [putS]
    refine anyX_two 13 14 rfl rfl (by kernel_rfl) rfl rfl (fun K hK => ?_) (fun K hK => ?_)
    ·skip
     try simp only [gelS]
     go_simp
     go_at_call 71
     refine (P_AtO (c.x1 - 1) (c.y1 - 1) _ wf3.out wf4.out).mono ?_
     rintro e wn ⟨rfl, hbn⟩
     have hsz := B.size
     have hzn := hbn.size
     have hsx := hX.size
     replace B := B.trans (hbn.mono B.size)
     replace hX := hX.trans (hbn.mono hX.size)
     try replace p3 := p3.below hbn
     try replace p4 := p4.below hbn
     refine hK _ _ ⟨fun _ => ⟨_, ov_of hX⟩, ?_⟩
     clear hK K
     try simp only [gelS]
     simp only [putS]
     refine anyX_next 14 rfl (by kernel_rfl) rfl (fun K hK => ?_)
     try simp only [gelS]
     refine owp_allocBk (t := 105) _ (run_alloc_Ps _ _ rfl) ?_
     intro b_p3 wn hle hge ht hbn hzn
     have hsz := B.size
     have hsx := hX.size
     replace B := B.trans (hbn.mono (by omega))
     replace hX := hX.trans (hbn.mono (by omega))
     try first | (have hlt := p3.lt; replace p3 := p3.of_eq (hbn.block _ (by omega))) | replace p3 := p3.below (hbn.mono hle)
     try first | (have hlt := p4.lt; replace p4 := p4.of_eq (hbn.block _ (by omega))) | replace p4 := p4.below (hbn.mono hle)
     have p3 := ht
     clear ht
     refine hK _ _ ⟨fun _ => ⟨_, ov_of hX⟩, ?_⟩
     clear hK K
     try simp only [gelS]
     simp only [putS]
     refine anyX_seq (by kernel_rfl) (by kernel_rfl) ?_
     simp only [List.drop_succ_cons, List.drop_zero]
     go_wp2_with (first | (refine wpList_storeB (t := 105) rfl _ _ rfl _ rfl _ rfl p3 (by kernel_rfl) rfl (by simp [Value.oneCell']) ?_; clear p3; intro wn ht hcn hzn; have hsz := B.size; replace hzn := Nat.le_of_eq hzn.symm; replace B := Chg.below B hcn (by omega) B.size; (try replace p4 := p4.of_eq (hcn.block _ p4.lt (by omega))); have p3 := ht; clear ht; simp only [putS]) | (refine wpList_storeB (t := 105) rfl _ _ rfl _ rfl _ rfl p4 (by kernel_rfl) rfl (by simp [Value.oneCell']) ?_; clear p4; intro wn ht hcn hzn; have hsz := B.size; replace hzn := Nat.le_of_eq hzn.symm; replace B := Chg.below B hcn (by omega) B.size; (try replace p3 := p3.of_eq (hcn.block _ p3.lt (by omega))); have p4 := ht; clear ht; simp only [putS]) | fail)
     refine NoPan.normal ?_
     go_wp2_with fail
     go_meet
     exact ⟨b_p3, b_p4, rfl, rfl, B, by omega, by omega, p3, p4⟩
    ·skip
     try simp only [gelS]
     refine owp_allocBk (t := 105) _ (run_alloc_Ps _ _ rfl) ?_
     intro b_p3 wn hle hge ht hbn hzn
     have hsz := B.size
     have hsx := hX.size
     replace B := B.trans (hbn.mono (by omega))
     replace hX := hX.trans (hbn.mono (by omega))
     try first | (have hlt := p3.lt; replace p3 := p3.of_eq (hbn.block _ (by omega))) | replace p3 := p3.below (hbn.mono hle)
     try first | (have hlt := p4.lt; replace p4 := p4.of_eq (hbn.block _ (by omega))) | replace p4 := p4.below (hbn.mono hle)
     have p3 := ht
     clear ht
     refine hK _ _ ⟨fun _ => ⟨_, ov_of hX⟩, ?_⟩
     clear hK K
     try simp only [gelS]
     simp only [putS]
     refine anyX_next 13 rfl (by kernel_rfl) rfl (fun K hK => ?_)
     try simp only [gelS]
     go_simp
     go_at_call 71
     refine (P_AtO (c.x1 - 1) (c.y1 - 1) _ wf3.out wf4.out).mono ?_
     rintro e wn ⟨rfl, hbn⟩
     have hsz := B.size
     have hzn := hbn.size
     have hsx := hX.size
     replace B := B.trans (hbn.mono B.size)
     replace hX := hX.trans (hbn.mono hX.size)
     try replace p3 := p3.below hbn
     try replace p4 := p4.below hbn
     refine hK _ _ ⟨fun _ => ⟨_, ov_of hX⟩, ?_⟩
     clear hK K
     try simp only [gelS]
     simp only [putS]
     refine anyX_seq (by kernel_rfl) (by kernel_rfl) ?_
     simp only [List.drop_succ_cons, List.drop_zero]
     go_wp2_with (first | (refine wpList_storeB (t := 105) rfl _ _ rfl _ rfl _ rfl p3 (by kernel_rfl) rfl (by simp [Value.oneCell']) ?_; clear p3; intro wn ht hcn hzn; have hsz := B.size; replace hzn := Nat.le_of_eq hzn.symm; replace B := Chg.below B hcn (by omega) B.size; (try replace p4 := p4.of_eq (hcn.block _ p4.lt (by omega))); have p3 := ht; clear ht; simp only [putS]) | (refine wpList_storeB (t := 105) rfl _ _ rfl _ rfl _ rfl p4 (by kernel_rfl) rfl (by simp [Value.oneCell']) ?_; clear p4; intro wn ht hcn hzn; have hsz := B.size; replace hzn := Nat.le_of_eq hzn.symm; replace B := Chg.below B hcn (by omega) B.size; (try replace p3 := p3.of_eq (hcn.block _ p3.lt (by omega))); have p4 := ht; clear ht; simp only [putS]) | fail)
     refine NoPan.normal ?_
     go_wp2_with fail
     go_meet
     exact ⟨b_p3, b_p4, rfl, rfl, B, by omega, by omega, p3, p4⟩
  ·skip
   try simp only [gelS]
   refine owp_allocBk (t := 105) _ (run_alloc_Ps _ _ rfl) ?_
   intro b_p3 wn hle hge ht hbn hzn
   have hsz := B.size
   have hsx := hX.size
   replace B := B.trans (hbn.mono (by omega))
   replace hX := hX.trans (hbn.mono (by omega))
   try first | (have hlt := p3.lt; replace p3 := p3.of_eq (hbn.block _ (by omega))) | replace p3 := p3.below (hbn.mono hle)
   try first | (have hlt := p4.lt; replace p4 := p4.of_eq (hbn.block _ (by omega))) | replace p4 := p4.below (hbn.mono hle)
   have p3 := ht
   clear ht
   refine hK _ _ ⟨fun _ => ⟨_, ov_of hX⟩, ?_⟩
   clear hK K
   try simp only [gelS]
   simp only [putS]
   refine anyX_two 5 15 rfl rfl (by kernel_rfl) rfl rfl (fun K hK => ?_) (fun K hK => ?_)
   ·skip
    try simp only [gelS]
    go_simp
    go_at_call 71
    refine (P_AtO c.x0 c.y0 _ wf1.out wf2.out).mono ?_
    rintro e wn ⟨rfl, hbn⟩
    have hsz := B.size
    have hzn := hbn.size
    have hsx := hX.size
    replace B := B.trans (hbn.mono B.size)
    replace hX := hX.trans (hbn.mono hX.size)
    try replace p3 := p3.below hbn
    try replace p4 := p4.below hbn
    refine hK _ _ ⟨fun _ => ⟨_, ov_of hX⟩, ?_⟩
    clear hK K
    try simp only [gelS]
    simp only [putS]
    refine anyX_two 13 15 rfl rfl (by kernel_rfl) rfl rfl (fun K hK => ?_) (fun K hK => ?_)
    ·skip
     try simp only [gelS]
     go_simp
     go_at_call 71
     refine (P_AtO (c.x1 - 1) (c.y1 - 1) _ wf3.out wf4.out).mono ?_
     rintro e wn ⟨rfl, hbn⟩
     have hsz := B.size
     have hzn := hbn.size
     have hsx := hX.size
     replace B := B.trans (hbn.mono B.size)
     replace hX := hX.trans (hbn.mono hX.size)
     try replace p3 := p3.below hbn
     try replace p4 := p4.below hbn
     refine hK _ _ ⟨fun _ => ⟨_, ov_of hX⟩, ?_⟩
     clear hK K
     try simp only [gelS]
     simp only [putS]
     refine anyX_next 15 rfl (by kernel_rfl) rfl (fun K hK => ?_)
     try simp only [gelS]
     refine owp_allocBk (t := 105) _ (run_alloc_Ps _ _ rfl) ?_
     intro b_p4 wn hle hge ht hbn hzn
     have hsz := B.size
     have hsx := hX.size
     replace B := B.trans (hbn.mono (by omega))
     replace hX := hX.trans (hbn.mono (by omega))
     try first | (have hlt := p3.lt; replace p3 := p3.of_eq (hbn.block _ (by omega))) | replace p3 := p3.below (hbn.mono hle)
     try first | (have hlt := p4.lt; replace p4 := p4.of_eq (hbn.block _ (by omega))) | replace p4 := p4.below (hbn.mono hle)
     have p4 := ht
     clear ht
     refine hK _ _ ⟨fun _ => ⟨_, ov_of hX⟩, ?_⟩
     clear hK K
     try simp only [gelS]
     simp only [putS]
     refine anyX_seq (by kernel_rfl) (by kernel_rfl) ?_
     simp only [List.drop_succ_cons, List.drop_zero]
     go_wp2_with (first | (refine wpList_storeB (t := 105) rfl _ _ rfl _ rfl _ rfl p3 (by kernel_rfl) rfl (by simp [Value.oneCell']) ?_; clear p3; intro wn ht hcn hzn; have hsz := B.size; replace hzn := Nat.le_of_eq hzn.symm; replace B := Chg.below B hcn (by omega) B.size; (try replace p4 := p4.of_eq (hcn.block _ p4.lt (by omega))); have p3 := ht; clear ht; simp only [putS]) | (refine wpList_storeB (t := 105) rfl _ _ rfl _ rfl _ rfl p4 (by kernel_rfl) rfl (by simp [Value.oneCell']) ?_; clear p4; intro wn ht hcn hzn; have hsz := B.size; replace hzn := Nat.le_of_eq hzn.symm; replace B := Chg.below B hcn (by omega) B.size; (try replace p3 := p3.of_eq (hcn.block _ p3.lt (by omega))); have p4 := ht; clear ht; simp only [putS]) | fail)
     refine NoPan.normal ?_
     go_wp2_with fail
     go_meet
     exact ⟨b_p3, b_p4, rfl, rfl, B, by omega, by omega, p3, p4⟩
    ·skip
     try simp only [gelS]
     refine owp_allocBk (t := 105) _ (run_alloc_Ps _ _ rfl) ?_
     intro b_p4 wn hle hge ht hbn hzn
     have hsz := B.size
     have hsx := hX.size
     replace B := B.trans (hbn.mono (by omega))
     replace hX := hX.trans (hbn.mono (by omega))
     try first | (have hlt := p3.lt; replace p3 := p3.of_eq (hbn.block _ (by omega))) | replace p3 := p3.below (hbn.mono hle)
     try first | (have hlt := p4.lt; replace p4 := p4.of_eq (hbn.block _ (by omega))) | replace p4 := p4.below (hbn.mono hle)
     have p4 := ht
     clear ht
     refine hK _ _ ⟨fun _ => ⟨_, ov_of hX⟩, ?_⟩
     clear hK K
     try simp only [gelS]
     simp only [putS]
     refine anyX_next 13 rfl (by kernel_rfl) rfl (fun K hK => ?_)
     try simp only [gelS]
     go_simp
     go_at_call 71
     refine (P_AtO (c.x1 - 1) (c.y1 - 1) _ wf3.out wf4.out).mono ?_
     rintro e wn ⟨rfl, hbn⟩
     have hsz := B.size
     have hzn := hbn.size
     have hsx := hX.size
     replace B := B.trans (hbn.mono B.size)
     replace hX := hX.trans (hbn.mono hX.size)
     try replace p3 := p3.below hbn
     try replace p4 := p4.below hbn
     refine hK _ _ ⟨fun _ => ⟨_, ov_of hX⟩, ?_⟩
     clear hK K
     try simp only [gelS]
     simp only [putS]
     refine anyX_seq (by kernel_rfl) (by kernel_rfl) ?_
     simp only [List.drop_succ_cons, List.drop_zero]
     go_wp2_with (first | (refine wpList_storeB (t := 105) rfl _ _ rfl _ rfl _ rfl p3 (by kernel_rfl) rfl (by simp [Value.oneCell']) ?_; clear p3; intro wn ht hcn hzn; have hsz := B.size; replace hzn := Nat.le_of_eq hzn.symm; replace B := Chg.below B hcn (by omega) B.size; (try replace p4 := p4.of_eq (hcn.block _ p4.lt (by omega))); have p3 := ht; clear ht; simp only [putS]) | (refine wpList_storeB (t := 105) rfl _ _ rfl _ rfl _ rfl p4 (by kernel_rfl) rfl (by simp [Value.oneCell']) ?_; clear p4; intro wn ht hcn hzn; have hsz := B.size; replace hzn := Nat.le_of_eq hzn.symm; replace B := Chg.below B hcn (by omega) B.size; (try replace p3 := p3.of_eq (hcn.block _ p3.lt (by omega))); have p4 := ht; clear ht; simp only [putS]) | fail)
     refine NoPan.normal ?_
     go_wp2_with fail
     go_meet
     exact ⟨b_p3, b_p4, rfl, rfl, B, by omega, by omega, p3, p4⟩
   ·skip
    try simp only [gelS]
    refine owp_allocBk (t := 105) _ (run_alloc_Ps _ _ rfl) ?_
    intro b_p4 wn hle hge ht hbn hzn
    have hsz := B.size
    have hsx := hX.size
    replace B := B.trans (hbn.mono (by omega))
    replace hX := hX.trans (hbn.mono (by omega))
    try first | (have hlt := p3.lt; replace p3 := p3.of_eq (hbn.block _ (by omega))) | replace p3 := p3.below (hbn.mono hle)
    try first | (have hlt := p4.lt; replace p4 := p4.of_eq (hbn.block _ (by omega))) | replace p4 := p4.below (hbn.mono hle)
    have p4 := ht
    clear ht
    refine hK _ _ ⟨fun _ => ⟨_, ov_of hX⟩, ?_⟩
    clear hK K
    try simp only [gelS]
    simp only [putS]
    refine anyX_next 5 rfl (by kernel_rfl) rfl (fun K hK => ?_)
    try simp only [gelS]
    go_simp
    go_at_call 71
    refine (P_AtO c.x0 c.y0 _ wf1.out wf2.out).mono ?_
    rintro e wn ⟨rfl, hbn⟩
    have hsz := B.size
    have hzn := hbn.size
    have hsx := hX.size
    replace B := B.trans (hbn.mono B.size)
    replace hX := hX.trans (hbn.mono hX.size)
    try replace p3 := p3.below hbn
    try replace p4 := p4.below hbn
    refine hK _ _ ⟨fun _ => ⟨_, ov_of hX⟩, ?_⟩
    clear hK K
    try simp only [gelS]
    simp only [putS]
    refine anyX_next 13 rfl (by kernel_rfl) rfl (fun K hK => ?_)
    try simp only [gelS]
    go_simp
    go_at_call 71
    refine (P_AtO (c.x1 - 1) (c.y1 - 1) _ wf3.out wf4.out).mono ?_
    rintro e wn ⟨rfl, hbn⟩
    have hsz := B.size
    have hzn := hbn.size
    have hsx := hX.size
    replace B := B.trans (hbn.mono B.size)
    replace hX := hX.trans (hbn.mono hX.size)
    try replace p3 := p3.below hbn
    try replace p4 := p4.below hbn
    refine hK _ _ ⟨fun _ => ⟨_, ov_of hX⟩, ?_⟩
    clear hK K
    try simp only [gelS]
    simp only [putS]
    refine anyX_seq (by kernel_rfl) (by kernel_rfl) ?_
    simp only [List.drop_succ_cons, List.drop_zero]
    go_wp2_with (first | (refine wpList_storeB (t := 105) rfl _ _ rfl _ rfl _ rfl p3 (by kernel_rfl) rfl (by simp [Value.oneCell']) ?_; clear p3; intro wn ht hcn hzn; have hsz := B.size; replace hzn := Nat.le_of_eq hzn.symm; replace B := Chg.below B hcn (by omega) B.size; (try replace p4 := p4.of_eq (hcn.block _ p4.lt (by omega))); have p3 := ht; clear ht; simp only [putS]) | (refine wpList_storeB (t := 105) rfl _ _ rfl _ rfl _ rfl p4 (by kernel_rfl) rfl (by simp [Value.oneCell']) ?_; clear p4; intro wn ht hcn hzn; have hsz := B.size; replace hzn := Nat.le_of_eq hzn.symm; replace B := Chg.below B hcn (by omega) B.size; (try replace p3 := p3.of_eq (hcn.block _ p3.lt (by omega))); have p4 := ht; clear ht; simp only [putS]) | fail)
    refine NoPan.normal ?_
    go_wp2_with fail
    go_meet
    exact ⟨b_p3, b_p4, rfl, rfl, B, by omega, by omega, p3, p4⟩
  ·skip
   try simp only [gelS]
   refine owp_allocBk (t := 105) _ (run_alloc_Ps _ _ rfl) ?_
   intro b_p4 wn hle hge ht hbn hzn
   have hsz := B.size
   have hsx := hX.size
   replace B := B.trans (hbn.mono (by omega))
   replace hX := hX.trans (hbn.mono (by omega))
   try first | (have hlt := p3.lt; replace p3 := p3.of_eq (hbn.block _ (by omega))) | replace p3 := p3.below (hbn.mono hle)
   try first | (have hlt := p4.lt; replace p4 := p4.of_eq (hbn.block _ (by omega))) | replace p4 := p4.below (hbn.mono hle)
   have p4 := ht
   clear ht
   refine hK _ _ ⟨fun _ => ⟨_, ov_of hX⟩, ?_⟩
   clear hK K
   try simp only [gelS]
   simp only [putS]
   refine anyX_two 5 14 rfl rfl (by kernel_rfl) rfl rfl (fun K hK => ?_) (fun K hK => ?_)
   ·skip
    try simp only [gelS]
    go_simp
    go_at_call 71
    refine (P_AtO c.x0 c.y0 _ wf1.out wf2.out).mono ?_
    rintro e wn ⟨rfl, hbn⟩
    have hsz := B.size
    have hzn := hbn.size
    have hsx := hX.size
    replace B := B.trans (hbn.mono B.size)
    replace hX := hX.trans (hbn.mono hX.size)
    try replace p3 := p3.below hbn
    try replace p4 := p4.below hbn
    refine hK _ _ ⟨fun _ => ⟨_, ov_of hX⟩, ?_⟩
    clear hK K
    try simp only [gelS]
    simp only [putS]
    refine anyX_two 13 14 rfl rfl (by kernel_rfl) rfl rfl (fun K hK => ?_) (fun K hK => ?_)
    ·skip
     try simp only [gelS]
     go_simp
     go_at_call 71
     refine (P_AtO (c.x1 - 1) (c.y1 - 1) _ wf3.out wf4.out).mono ?_
     rintro e wn ⟨rfl, hbn⟩
     have hsz := B.size
     have hzn := hbn.size
     have hsx := hX.size
     replace B := B.trans (hbn.mono B.size)
     replace hX := hX.trans (hbn.mono hX.size)
     try replace p3 := p3.below hbn
     try replace p4 := p4.below hbn
     refine hK _ _ ⟨fun _ => ⟨_, ov_of hX⟩, ?_⟩
     clear hK K
     try simp only [gelS]
     simp only [putS]
     refine anyX_next 14 rfl (by kernel_rfl) rfl (fun K hK => ?_)
     try simp only [gelS]
     refine owp_allocBk (t := 105) _ (run_alloc_Ps _ _ rfl) ?_
     intro b_p3 wn hle hge ht hbn hzn
     have hsz := B.size
     have hsx := hX.size
     replace B := B.trans (hbn.mono (by omega))
     replace hX := hX.trans (hbn.mono (by omega))
     try first | (have hlt := p3.lt; replace p3 := p3.of_eq (hbn.block _ (by omega))) | replace p3 := p3.below (hbn.mono hle)
     try first | (have hlt := p4.lt; replace p4 := p4.of_eq (hbn.block _ (by omega))) | replace p4 := p4.below (hbn.mono hle)
     have p3 := ht
     clear ht
     refine hK _ _ ⟨fun _ => ⟨_, ov_of hX⟩, ?_⟩
     clear hK K
     try simp only [gelS]
     simp only [putS]
     refine anyX_seq (by kernel_rfl) (by kernel_rfl) ?_
     simp only [List.drop_succ_cons, List.drop_zero]
     go_wp2_with (first | (refine wpList_storeB (t := 105) rfl _ _ rfl _ rfl _ rfl p3 (by kernel_rfl) rfl (by simp [Value.oneCell']) ?_; clear p3; intro wn ht hcn hzn; have hsz := B.size; replace hzn := Nat.le_of_eq hzn.symm; replace B := Chg.below B hcn (by omega) B.size; (try replace p4 := p4.of_eq (hcn.block _ p4.lt (by omega))); have p3 := ht; clear ht; simp only [putS]) | (refine wpList_storeB (t := 105) rfl _ _ rfl _ rfl _ rfl p4 (by kernel_rfl) rfl (by simp [Value.oneCell']) ?_; clear p4; intro wn ht hcn hzn; have hsz := B.size; replace hzn := Nat.le_of_eq hzn.symm; replace B := Chg.below B hcn (by omega) B.size; (try replace p3 := p3.of_eq (hcn.block _ p3.lt (by omega))); have p4 := ht; clear ht; simp only [putS]) | fail)
     refine NoPan.normal ?_
     go_wp2_with fail
     go_meet
     exact ⟨b_p3, b_p4, rfl, rfl, B, by omega, by omega, p3, p4⟩
    ·skip
     try simp only [gelS]
     refine owp_allocBk (t := 105) _ (run_alloc_Ps _ _ rfl) ?_
     intro b_p3 wn hle hge ht hbn hzn
     have hsz := B.size
     have hsx := hX.size
     replace B := B.trans (hbn.mono (by omega))
     replace hX := hX.trans (hbn.mono (by omega))
     try first | (have hlt := p3.lt; replace p3 := p3.of_eq (hbn.block _ (by omega))) | replace p3 := p3.below (hbn.mono hle)
     try first | (have hlt := p4.lt; replace p4 := p4.of_eq (hbn.block _ (by omega))) | replace p4 := p4.below (hbn.mono hle)
     have p3 := ht
     clear ht
     refine hK _ _ ⟨fun _ => ⟨_, ov_of hX⟩, ?_⟩
     clear hK K
     try simp only [gelS]
     simp only [putS]
     refine anyX_next 13 rfl (by kernel_rfl) rfl (fun K hK => ?_)
     try simp only [gelS]
     go_simp
     go_at_call 71
     refine (P_AtO (c.x1 - 1) (c.y1 - 1) _ wf3.out wf4.out).mono ?_
     rintro e wn ⟨rfl, hbn⟩
     have hsz := B.size
     have hzn := hbn.size
     have hsx := hX.size
     replace B := B.trans (hbn.mono B.size)
     replace hX := hX.trans (hbn.mono hX.size)
     try replace p3 := p3.below hbn
     try replace p4 := p4.below hbn
     refine hK _ _ ⟨fun _ => ⟨_, ov_of hX⟩, ?_⟩
     clear hK K
     try simp only [gelS]
     simp only [putS]
     refine anyX_seq (by kernel_rfl) (by kernel_rfl) ?_
     simp only [List.drop_succ_cons, List.drop_zero]
     go_wp2_with (first | (refine wpList_storeB (t := 105) rfl _ _ rfl _ rfl _ rfl p3 (by kernel_rfl) rfl (by simp [Value.oneCell']) ?_; clear p3; intro wn ht hcn hzn; have hsz := B.size; replace hzn := Nat.le_of_eq hzn.symm; replace B := Chg.below B hcn (by omega) B.size; (try replace p4 := p4.of_eq (hcn.block _ p4.lt (by omega))); have p3 := ht; clear ht; simp only [putS]) | (refine wpList_storeB (t := 105) rfl _ _ rfl _ rfl _ rfl p4 (by kernel_rfl) rfl (by simp [Value.oneCell']) ?_; clear p4; intro wn ht hcn hzn; have hsz := B.size; replace hzn := Nat.le_of_eq hzn.symm; replace B := Chg.below B hcn (by omega) B.size; (try replace p3 := p3.of_eq (hcn.block _ p3.lt (by omega))); have p4 := ht; clear ht; simp only [putS]) | fail)
     refine NoPan.normal ?_
     go_wp2_with fail
     go_meet
     exact ⟨b_p3, b_p4, rfl, rfl, B, by omega, by omega, p3, p4⟩
   ·skip
    try simp only [gelS]
    refine owp_allocBk (t := 105) _ (run_alloc_Ps _ _ rfl) ?_
    intro b_p3 wn hle hge ht hbn hzn
    have hsz := B.size
    have hsx := hX.size
    replace B := B.trans (hbn.mono (by omega))
    replace hX := hX.trans (hbn.mono (by omega))
    try first | (have hlt := p3.lt; replace p3 := p3.of_eq (hbn.block _ (by omega))) | replace p3 := p3.below (hbn.mono hle)
    try first | (have hlt := p4.lt; replace p4 := p4.of_eq (hbn.block _ (by omega))) | replace p4 := p4.below (hbn.mono hle)
    have p3 := ht
    clear ht
    refine hK _ _ ⟨fun _ => ⟨_, ov_of hX⟩, ?_⟩
    clear hK K
    try simp only [gelS]
    simp only [putS]
    refine anyX_next 5 rfl (by kernel_rfl) rfl (fun K hK => ?_)
    try simp only [gelS]
    go_simp
    go_at_call 71
    refine (P_AtO c.x0 c.y0 _ wf1.out wf2.out).mono ?_
    rintro e wn ⟨rfl, hbn⟩
    have hsz := B.size
    have hzn := hbn.size
    have hsx := hX.size
    replace B := B.trans (hbn.mono B.size)
    replace hX := hX.trans (hbn.mono hX.size)
    try replace p3 := p3.below hbn
    try replace p4 := p4.below hbn
    refine hK _ _ ⟨fun _ => ⟨_, ov_of hX⟩, ?_⟩
    clear hK K
    try simp only [gelS]
    simp only [putS]
    refine anyX_next 13 rfl (by kernel_rfl) rfl (fun K hK => ?_)
    try simp only [gelS]
    go_simp
    go_at_call 71
    refine (P_AtO (c.x1 - 1) (c.y1 - 1) _ wf3.out wf4.out).mono ?_
    rintro e wn ⟨rfl, hbn⟩
    have hsz := B.size
    have hzn := hbn.size
    have hsx := hX.size
    replace B := B.trans (hbn.mono B.size)
    replace hX := hX.trans (hbn.mono hX.size)
    try replace p3 := p3.below hbn
    try replace p4 := p4.below hbn
    refine hK _ _ ⟨fun _ => ⟨_, ov_of hX⟩, ?_⟩
    clear hK K
    try simp only [gelS]
    simp only [putS]
    refine anyX_seq (by kernel_rfl) (by kernel_rfl) ?_
    simp only [List.drop_succ_cons, List.drop_zero]
    go_wp2_with (first | (refine wpList_storeB (t := 105) rfl _ _ rfl _ rfl _ rfl p3 (by kernel_rfl) rfl (by simp [Value.oneCell']) ?_; clear p3; intro wn ht hcn hzn; have hsz := B.size; replace hzn := Nat.le_of_eq hzn.symm; replace B := Chg.below B hcn (by omega) B.size; (try replace p4 := p4.of_eq (hcn.block _ p4.lt (by omega))); have p3 := ht; clear ht; simp only [putS]) | (refine wpList_storeB (t := 105) rfl _ _ rfl _ rfl _ rfl p4 (by kernel_rfl) rfl (by simp [Value.oneCell']) ?_; clear p4; intro wn ht hcn hzn; have hsz := B.size; replace hzn := Nat.le_of_eq hzn.symm; replace B := Chg.below B hcn (by omega) B.size; (try replace p3 := p3.of_eq (hcn.block _ p3.lt (by omega))); have p4 := ht; clear ht; simp only [putS]) | fail)
    refine NoPan.normal ?_
    go_wp2_with fail
    go_meet
    exact ⟨b_p3, b_p4, rfl, rfl, B, by omega, by omega, p3, p4⟩
 case rest =>
 clear B r0 r0B
 obtain ⟨b_p3, b_p4, rfl, rfl, B, k3, k4, p3, p4⟩ := hcut
 have hJ := HJ.out _ B
 have n3 : b_p3 ≠ b8 := by omega
 have n4 : b_p4 ≠ b8 := by omega
 clear B HJ
 go_upto_region 2 with fail
 refine wp_region_lit ?_
 try simp only [gelS]
 refine wpList_chunk 7 (by kernel_rfl) ?_
 simp only [takS, Nat.reduceAdd]
 repeat (first | go_big_quiet_skip | (go_big_quiet_want; first | (refine quiet_loadAny (t := 3) rfl _ _ _ rfl (fun w hw => run_load_int ((ov_B p3 w hw).cellL 0 rfl)) (by rfl) ?_; simp only [putS]; go_big_quiet_on) | (refine quiet_loadAny (t := 3) rfl _ _ _ rfl (fun w hw => run_load_int ((ov_B p3 w hw).cellL 1 rfl)) (by rfl) ?_; simp only [putS]; go_big_quiet_on) | (refine quiet_loadAny (t := 3) rfl _ _ _ rfl (fun w hw => run_load_int ((ov_B p4 w hw).cellL 0 rfl)) (by rfl) ?_; simp only [putS]; go_big_quiet_on) | (refine quiet_loadAny (t := 3) rfl _ _ _ rfl (fun w hw => run_load_int ((ov_B p4 w hw).cellL 1 rfl)) (by rfl) ?_; simp only [putS]; go_big_quiet_on) | (go_big_quiet_op; go_big_quiet_on)))
 refine wpQuiet_nil ?_
 refine wpList_nil ?_
 go_wp2
 go_loopw [5, 6, 29] (fun _ _ iv wr => ∃ k : Nat, k ≤ H ∧ iv = .int .i64 (k : Int) ∧ J (fpre (tlN c) (W * k)) wr ∧ AtB 105 wr b_p3 #[.int .i64 (c.x0 / 8), .int .i64 (c.y0 / 8)] ∧ AtB 105 wr b_p4 #[.int .i64 ((c.x1 - 1) / 8), .int .i64 ((c.y1 - 1) / 8)]) (fun _ _ iv _ => (H - intOf iv).toNat)
 case atStart => exact ⟨0, by omega, by simp, by rw [Nat.mul_zero, fpre_zero]; exact hJ, p3, p4⟩
 case round =>
  clear p3 p4 hJ
  obtain ⟨k, hk, rfl, hJ, p3, p4⟩ := hrel
  by_cases hkH : k < H
  ·have q1 : decide ((k : Int) < (c.y1 - 1) / 8 - c.y0 / 8 + 1) = true := decide_eq_true (by omega)
   have hn2 : W * k + W ≤ W * H := by
    have := Nat.mul_le_mul_left W (show k + 1 ≤ H from hkH)
    rw [Nat.mul_succ] at this
    exact this
   go_upto_region 3 with fail
   refine wp_region_lit ?_
   try simp only [gelS]
   refine wpList_chunk 1 (by kernel_rfl) ?_
   simp only [takS, Nat.reduceAdd]
   repeat (first | go_big_quiet_skip | (go_big_quiet_want; go_big_quiet_op; go_big_quiet_on))
   refine wpQuiet_nil ?_
   refine wpList_nil ?_
   go_upto_region 4 with fail
   refine wp_region_lit ?_
   try simp only [gelS]
   refine wpList_chunk 2 (by kernel_rfl) ?_
   simp only [takS, Nat.reduceAdd]
   repeat (first | go_big_quiet_skip | (go_big_quiet_want; go_big_quiet_op; go_big_quiet_on))
   refine wpQuiet_nil ?_
   refine wpList_nil ?_
   go_upto_region 5 with fail
   refine wp_region_lit ?_
   try simp only [gelS]
   refine wpList_chunk 7 (by kernel_rfl) ?_
   simp only [takS, Nat.reduceAdd]
   repeat (first | go_big_quiet_skip | (go_big_quiet_want; first | (refine quiet_loadAny (t := 3) rfl _ _ _ rfl (fun w hw => run_load_int ((ov_B p3 w hw).cellL 0 rfl)) (by rfl) ?_; simp only [putS]; go_big_quiet_on) | (refine quiet_loadAny (t := 3) rfl _ _ _ rfl (fun w hw => run_load_int ((ov_B p3 w hw).cellL 1 rfl)) (by rfl) ?_; simp only [putS]; go_big_quiet_on) | (refine quiet_loadAny (t := 3) rfl _ _ _ rfl (fun w hw => run_load_int ((ov_B p4 w hw).cellL 0 rfl)) (by rfl) ?_; simp only [putS]; go_big_quiet_on) | (refine quiet_loadAny (t := 3) rfl _ _ _ rfl (fun w hw => run_load_int ((ov_B p4 w hw).cellL 1 rfl)) (by rfl) ?_; simp only [putS]; go_big_quiet_on) | (go_big_quiet_op; go_big_quiet_on)))
   refine wpQuiet_nil ?_
   refine wpList_nil ?_
   go_wp2
   go_loopw [6, 38] (fun _ iv wr => ∃ j : Nat, j ≤ W ∧ iv = .int .i64 (j : Int) ∧ J (fpre (tlN c) (W * k + j)) wr ∧ AtB 105 wr b_p3 #[.int .i64 (c.x0 / 8), .int .i64 (c.y0 / 8)] ∧ AtB 105 wr b_p4 #[.int .i64 ((c.x1 - 1) / 8), .int .i64 ((c.y1 - 1) / 8)]) (fun _ iv _ => (W - intOf iv).toNat)
   case atStart => exact ⟨0, by omega, by simp, hJ, p3, p4⟩
   case round =>
    clear p3 p4 hJ
    obtain ⟨j, hj, rfl, hJ, p3, p4⟩ := hrel
    by_cases hjW : j < W
    ·have q2 : decide ((j : Int) < (c.x1 - 1) / 8 - c.x0 / 8 + 1) = true := decide_eq_true (by omega)
     have hlt : W * k + j < tlN c := by omega
     go_upto_region 6 with fail
     refine wp_region_lit ?_
     try simp only [gelS]
     refine wpList_chunk 1 (by kernel_rfl) ?_
     simp only [takS, Nat.reduceAdd]
     repeat (first | go_big_quiet_skip | (go_big_quiet_want; go_big_quiet_op; go_big_quiet_on))
     refine wpQuiet_nil ?_
     refine wpList_nil ?_
     go_upto_region 7 with fail
     refine wp_region_lit ?_
     try simp only [gelS]
     refine wpList_chunk 2 (by kernel_rfl) ?_
     simp only [takS, Nat.reduceAdd]
     repeat (first | go_big_quiet_skip | (go_big_quiet_want; go_big_quiet_op; go_big_quiet_on))
     refine wpQuiet_nil ?_
     refine wpList_nil ?_
     go_upto_region 8 with fail
     obtain ⟨fn, tmps, assign, body, hy, hR⟩ := HY.out (fpre (tlN c) (W * k + j)) ⟨W * k + j, hlt⟩ _ hJ (by rw [fpre_length (by omega)]; exact hlt)
     have ep : posF c ⟨W * k + j, hlt⟩ = (c.x0 / 8 + (j : Int), c.y0 / 8 + (k : Int)) := HR.out k j hjW
     rw [ep] at hy
     try dsimp only at hy
     rw [← fpre_succ hlt] at hR
     have c0 := p3.cellL 0 rfl
     have c1 := p3.cellL 1 rfl
     try dsimp only at c0 c1
     refine (wpIn_wide (n := n)).1 ?_
     gi_wp2
     refine hR.mono ?_
     rintro e W1 (⟨rfl, hJ1, hkp⟩ | ⟨rfl, hx1⟩)
     ·replace p3 := hkp.atB n3 p3
      replace p4 := hkp.atB n4 p4
      clear c0 c1
      gi_wp2
      go_wp2
      go_roundw
      case rel => exact ⟨j + 1, by omega, by go_num, hJ1, p3, p4⟩
      case measure => simp [intOf]; omega
     ·gi_wp2
      go_wp2
      refine bodyPost_ret (results_none rfl _ _ _) rfl ?_
      exact ⟨⟨_, rfl⟩, .inr ⟨_, trivial, hx1⟩⟩
    ·obtain rfl : j = W := by omega
     have q2 : decide ((j : Int) < (c.x1 - 1) / 8 - c.x0 / 8 + 1) = false := decide_eq_false (by omega)
     go_upto_region 6 with fail
     refine wp_region_lit ?_
     try simp only [gelS]
     refine wpList_chunk 1 (by kernel_rfl) ?_
     simp only [takS, Nat.reduceAdd]
     repeat (first | go_big_quiet_skip | (go_big_quiet_want; go_big_quiet_op; go_big_quiet_on))
     refine wpQuiet_nil ?_
     refine wpList_nil ?_
     go_upto_region 10 with fail
     refine wp_region_lit ?_
     try simp only [gelS]
     refine wpList_chunk 2 (by kernel_rfl) ?_
     simp only [takS, Nat.reduceAdd]
     repeat (first | go_big_quiet_skip | (go_big_quiet_want; go_big_quiet_op; go_big_quiet_on))
     refine wpQuiet_nil ?_
     refine wpList_nil ?_
     go_wp2
     go_roundw
     case rel => exact ⟨k + 1, by omega, by go_num, by rw [Nat.mul_succ]; exact hJ, p3, p4⟩
     case measure => simp [intOf]; omega
  ·obtain rfl : k = H := by omega
   have q1 : decide ((k : Int) < (c.y1 - 1) / 8 - c.y0 / 8 + 1) = false := decide_eq_false (by omega)
   go_upto_region 3 with fail
   refine wp_region_lit ?_
   try simp only [gelS]
   refine wpList_chunk 1 (by kernel_rfl) ?_
   simp only [takS, Nat.reduceAdd]
   repeat (first | go_big_quiet_skip | (go_big_quiet_want; go_big_quiet_op; go_big_quiet_on))
   refine wpQuiet_nil ?_
   refine wpList_nil ?_
   go_wp2
   go_end0
   have eF : fpre (tlN c) (W * k) = List.finRange (tlN c) := by rw [← hew]; exact fpre_all _
   rw [eF] at hJ
   exact ⟨⟨_, rfl⟩, .inl ⟨_, rfl, hJ⟩⟩
/- Contract of Paste of package raster, where the rectangle fits. -/
attribute [local go_sem] Oper.semAt_some
set_option linter.unusedVariables false
set_option linter.unusedSimpArgs false
set_option maxRecDepth 20000
theorem run_alloc_Sl (w : World) (o : Oper) (ho : o.op = .alloc 34) (ev : Operand → Value) : (execOp ev o).run Try.prog w = .ok (.value (.pointer (some ⟨w.heap.size, 0, none⟩))) (w.alloc (.cells #[.slice none 0 0] 34)) := by
 obtain ⟨d, p, t, ps, af, gd⟩ := o
 simp only at ho
 subst ho
 kernel_rfl
/-- A slice stored into its own cell. -/
theorem wpList_storeSl {v : Value} {ops : Array Oper} {rest : List Oper} {o : Oper} {a : Act} {w : World} {Q : Exit → Act → World → Prop} (hg : o.guard = none) (x y : Operand) (ho : o.op = .store 34 x y) (b : Nat) (hx : a.eval x = .pointer (some ⟨b, 0, none⟩)) (a' : Option Addr) (n' c' : Nat) (hy : a.eval y = .slice a' n' c') (ht : AtB 34 w b #[v])
  (h : ∀ w', AtB 34 w' b #[.slice a' n' c'] → Chg b w w' → w'.heap.size = w.heap.size → wpList Try.prog ops Q rest (a.put o.dst undef) w') : wpList Try.prog ops Q (o :: rest) a w := by
 have c0 := ht.cell 0 rfl
 have f0 := ht.frozen 0
 refine wpList_storeAny hg x y ho (w.setCell ⟨b, 0, none⟩ (.slice a' n' c')) ?_ (h _ ?_ ((Chg.refl b w).setCell _) (by simp only [World.size_setCell]))
 ·rw [hx, hy]
  simp [go_sem, c0, f0]
 ·exact heap_setCell_same w b 0 #[v] _ _ ht
theorem wpList_val {ops : Array Oper} {rest : List Oper} {o : Oper} {a : Act} {w : World} {Q : Exit → Act → World → Prop} (hg : o.guard = none) (v : Value) (hrun : (execOp a.eval o).run Try.prog w = .ok (.value v) w)
  (h : wpList Try.prog ops Q rest (a.put o.dst v) w) : wpList Try.prog ops Q (o :: rest) a w :=
 wpList_plain hg fun K hK => by
  unfold Oper.wp
  rw [hrun]
  exact hK _ _ h
theorem fill_TA0 (x y : Int) : Instr.fill (fun i => #[(0, 2), (2, 256)][i]?) zTA [(0, Ps.v x y)] = some (taC ⟨x, y, zT⟩) := by
 obtain ⟨r, hs, hr, e⟩ := fill_cons (place := fun i => #[(0, 2), (2, 256)][i]?) (cells := zTA) (i := 0) (v := Ps.v x y) (rest := []) (off := 0) (sz := 2) rfl (by rw [cells_ps]; rfl) (by rw [size_zTA]; omega)
 rw [e]
 show some r = _
 congr 1
 apply Array.ext_getElem?
 intro k
 rw [hr k, taC_get, cells_ps]
 by_cases h2 : k < 2
 ·rw [if_pos (by omega), if_pos h2, Nat.sub_zero]
 ·rw [if_neg (by omega), if_neg h2]
  have hz : zTA[k]? = (tileC zT)[k - 2]? := by
   have e : zTA = #[.int .i64 0, .int .i64 0] ++ tileC zT := by unfold zTA; kernel_rfl
   rw [e, Array.getElem?_append_right (by simp; omega)]
   rfl
  exact hz
theorem run_build_TA0 (w : World) (x y : Int) : (Instr.build 112 #[(0, Ps.v x y)]).run Try.prog w = .ok (.agg (taC ⟨x, y, zT⟩)) w :=
 run_build w 112 #[(0, Ps.v x y)] _ ((built_TA _).trans (fill_TA0 x y))
theorem quiet_buildTA0 {o : Oper} {a : Act} {C : World → Prop} {K : Act → Prop} {p : Operand} (h : o.op = .build 112 #[(0, p)]) (x y : Int) (hp : a.eval p = .agg #[.int .i64 x, .int .i64 y]) (hk : K (a.put o.dst (.agg (taC ⟨x, y, zT⟩)))) : o.quiet Try.prog a C K :=
 ⟨_, fun w hw => by
  have r := run_build_TA0 w x y
  simp only [Ps.v] at r
  unfold Oper.quietAt execOp
  simp only [h, List.map_toArray, List.map_cons, List.map_nil, hp, Sem.run_bind, r, Result.andThen_ok, Sem.run_pure]
  exact ⟨rfl, rfl⟩, hk⟩
theorem below_same {b : Nat} {w w' : World} (h : Chg b w w') (e : w'.heap[b]? = w.heap[b]?) : Below w.heap.size w w' :=
 ⟨h.os, h.tape, h.output, h.size, fun k hk => by
  by_cases hb : k = b
  ·subst hb; exact e
  ·exact h.block k hk hb⟩
theorem RCellsE.ownP {g o : Nat} {ls : List Px} {A B : World} {row : Option Nat} (h : RCellsE pxE g o ls A) (hn : 0 < ls.length) (hg : A.grownBy B row) (hr : ∀ r, row = some r → ∃ o : Obj, A.heap[r]? = some o ∧ o.isCells = false) : RCellsE pxE g o ls B := by
 refine h.of_eq (hg.block g h.lt fun e => ?_)
 obtain ⟨x, hx, hc⟩ := hr g e.symm
 have h0 := h.2 0 _ (List.getElem?_eq_getElem hn) 0 (by omega)
 have hs : ∃ v, (pxE.enc ls[0])[0]? = some v := ⟨_, rfl⟩
 obtain ⟨v, hv⟩ := hs
 rw [hv] at h0
 have := cell_not h0 x hx
 rw [hc] at this
 cases this
/-- The pixels of one tile turned by the paste. -/
theorem P_mapPst (c : Rc) (hf : Fits c) (L : List Px) (hL : L.length = areaN c) (okL : OkL L) (e : TA) (a : Option Addr) (cp0 : Nat) (bc bm cb g o cp : Nat) (z : Nat → Px) (w : World) (rs : RS (.slice a 1 cp0) [e] w) (tk : Tok e.t) (hw : withinB e.x e.y = true) (r0 : AtB 31 w bc (rcA c)) (m0 : AtB 134 w bm (imgC c (.slice (some ⟨g, o, none⟩) (areaN c) cp))) (ce : RCellsE pxE g o L w) (tz : TileAt w cb z) (hsep : (Value.slice a 1 cp0).ownBlock ≠ some cb) :
  Calls Try.prog 72 #[.slice a 1 cp0, .func (.func 132) #[] #[.pointer (some ⟨bc, 0, none⟩), .pointer (some ⟨bm, 0, none⟩)]] w fun e' w' => ∃ a' cp', e' = .returned (.slice a' (newA e.x e.y (pstT c L e.x e.y e.t)).length cp') ∧ RS (.slice a' (newA e.x e.y (pstT c L e.x e.y e.t)).length cp') (newA e.x e.y (pstT c L e.x e.y e.t)) w' ∧ Below w.heap.size w w' := by
 have eg := enters_of Try.func132 (by kernel_rfl) rfl
 have l1 := r0.lt
 have l2 := m0.lt
 have l3 := ce.lt
 have l4 := tz.lt
 refine (P_mapped (pstF c L) (fun _ W => AtB 31 W bc (rcA c) ∧ AtB 134 W bm (imgC c (.slice (some ⟨g, o, none⟩) (areaN c) cp)) ∧ RCellsE pxE g o L W ∧ TileAt W cb z) cb 132 #[.pointer (some ⟨bc, 0, none⟩), .pointer (some ⟨bm, 0, none⟩)] eg _ [e] () w rs (fun x hx => by rcases List.mem_singleton.1 hx with rfl; exact tk) (by simp) (fun x hx => by rcases List.mem_singleton.1 hx with rfl; exact hw) l4 (fun _ => hsep) ⟨r0, m0, ce, tz⟩
  (fun s W W' hI hk => ⟨hI.1.of_eq (hk _ l1), hI.2.1.of_eq (hk _ l2), hI.2.2.1.of_eq (hk _ l3), hI.2.2.2.of_eq (hk _ l4)⟩)
  (fun s W x y p _ hI h1 h2 h3 h4 hp => (P_Paste1 c hf L hL okL x y p hp bc bm g o cp W hI.1 hI.2.1 hI.2.2.1).mono fun e' W' ⟨he, hb⟩ => ⟨he, ⟨hI.1.of_eq (hb.block _ hI.1.lt), hI.2.1.of_eq (hb.block _ hI.2.1.lt), hI.2.2.1.of_eq (hb.block _ hI.2.2.1.lt), hI.2.2.2.of_eq (hb.block _ hI.2.2.2.lt)⟩, Chg.of_below hb⟩)
  (fun s x y p hp => pstP_ok okL x y p hp)).mono ?_
 rintro e' w' ⟨v', rfl, od, hI, hcc⟩
 have hm : (mapK (pstF c L) [e] () [e].length).2 = newA e.x e.y (pstT c L e.x e.y e.t) := mapK_pst c L e
 rw [hm] at od
 have hb := below_same hcc (by rw [show w'.heap[cb]? = _ from hI.2.2.2, show w.heap[cb]? = _ from tz])
 obtain ⟨a', cp', rfl, _⟩ := od.len
 exact ⟨a', cp', rfl, od.rs, hb⟩
theorem P_findB (v : Value) (ls : List TA) (x y : Int) (k : Nat) (b : Bool) (w : World) (h : RS v ls w) (hs : Srt ls) (hn : ls.length ≤ 1000000) (hk : cutL ls x y = k) (hb : hitL ls x y = b) : Calls Try.prog 131 #[v, .agg #[.int .i64 x, .int .i64 y]] w fun e w' => e = .returned (.tuple #[.int .i64 (k : Int), .bool b]) ∧ Below w.heap.size w w' := by
 subst hk hb
 exact P_find v ls x y w h hs hn
theorem zip1_wp {F : Fence} {n : Nat} {P : Program} {c : Code} {Q : Exit → Act → World → Prop} {W : World} {t : Array Value} {p : Tmp} {v : Value} (h : c.wpIn F n P Q { tmps := t.setIfInBounds p v, defers := [] } W) :
  c.wpIn F n P Q { tmps := (#[p].zip #[v]).foldl (fun t (p, v) => t.setIfInBounds p v) t, defers := [] } W := by
 have e : (#[p].zip #[v]).foldl (fun t (p, v) => t.setIfInBounds p v) t = t.setIfInBounds p v := by
  show Array.foldl _ t (Array.zip (List.toArray [p]) (List.toArray [v])) = _
  rw [List.zip_toArray]
  simp
 rw [e]
 exact h
theorem arr_fn (t : Array Value) (n : Nat) (h : t.size = n) : ∃ U : Nat → Value, t = ((List.range n).map U).toArray ∧ ∀ i, U i = t.getD i undef := by
 refine ⟨fun i => t.getD i undef, ?_, fun _ => rfl⟩
 apply Array.ext_getElem?
 intro k
 by_cases hk : k < n
 ·simp [hk, h]
 ·simp [hk, h]
/-- A block of deferred calls, empty. -/
def DefAt (w : World) (D : Nat) : Prop := w.heap[D]? = some (.deferred (some []))
theorem DefAt.of_eq {w w' : World} {D : Nat} (h : DefAt w D) (e : w'.heap[D]? = w.heap[D]?) : DefAt w' D := e.trans h
theorem DefAt.lt {w : World} {D : Nat} (h : DefAt w D) : D < w.heap.size := (Array.getElem?_eq_some_iff.1 h).1
theorem DefAt.below {w w' : World} {D : Nat} (h : DefAt w D) (e : Below w.heap.size w w') : DefAt w' D := h.of_eq (e.block _ h.lt)
theorem DefAt.ne {w : World} {D b : Nat} {t : TypeId} {cs : Array Value} (h : DefAt w D) (k : AtB t w b cs) : b ≠ D := fun e => by
 subst e
 have k' : w.heap[b]? = _ := k
 rw [show w.heap[b]? = _ from h] at k'
 cases k'
theorem rs_mid {g o : Nat} {ls : List TA} {w : World} (sc : RCells g o ls w) {k : Nat} (hk : k < ls.length) : RS (.slice (some ⟨g, o + k * 258, none⟩) 1 1) [aT ls k] w := by
 refine .inr ⟨g, o + k * 258, 1, rfl, Nat.le_refl _, fun _ => ⟨sc.1, fun i hi j hj => ?_⟩⟩
 obtain rfl : i = 0 := by simpa using hi
 have := sc.2 k hk j hj
 rw [show o + k * 258 + (0 * 258 + j) = o + (k * 258 + j) by omega, this]
 rfl
set_option maxHeartbeats 8000000 in
theorem P_Paste_ok (v : Value) (ls : List TA) (c : Rc) (u : Value) (L : List Px) (w : World) (h : RS v ls w) (tk : TokL ls) (hn : ls.length ≤ maxLen) (hE : fitsE c = 0) (hu : RSE pxE u L w) (hL : L.length = areaN c) (okL : OkL L) : Calls Try.prog 103 #[.agg #[v], .agg (imgC c u)] w fun e w' => ∃ a cp, e = .returned (.tuple #[.agg #[.slice a (manyL (pstL c L (fineL ls) (posL c))).length cp], .int .i64 (manyE (pstL c L (fineL ls) (posL c)))]) ∧ RS (.slice a (manyL (pstL c L (fineL ls) (posL c))).length cp) (manyL (pstL c L (fineL ls) (posL c))) w' ∧ Below w.heap.size w w' := by
 have B := Below.refl w.heap.size w
 obtain ⟨a', c', hT⟩ := P_tiles v ls w h tk hn
 have HT := Lib.hid hT
 clear hT
 obtain ⟨a, cpv, rfl, hc⟩ := h.len
 have HF := fitsE_zero hE
 have FT := Lib.hid HF
 obtain ⟨an1, an2⟩ := area_bd HF
 have hAN := Lib.hid (area_N HF)
 have HV := Lib.hid HF.valid
 obtain ⟨ad, cu, rfl, hcu⟩ := hu.len
 obtain ⟨g, o, rfl, ce⟩ := hu.at (by have := area_N HF; omega)
 have SR := Lib.hid (validL_srt (fineL_valid ls))
 have TK := Lib.hid (fineL_tok tk)
 have hfl := fineL_length ls
 have hNle := tlN_le HF
 have OK := Lib.hid okL
 have HL := Lib.hid hL
 have HEE := Lib.hid hE
 have d1 : ((areaN c : Int) != (areaN c : Int)) = false := by simp
 rw [hL]
 rw [hL] at hcu
 clear h tk hu okL hL hE HF
 generalize hks : fineL ls = KS at *
 refine (callsIn_wide (n := 3)).1 ?_
 refine callsIn_of_wp_marks Try.func103 rfl trivial ?_ rfl
 simp only [Try.ntmps103, List.size_toArray, List.length_cons, List.length_nil, Nat.reduceAdd, Nat.reduceSub, Array.replicate_succ, Array.replicate_zero, List.push_toArray, List.append_toArray, List.nil_append, List.cons_append]
 refine wpIn_wide.2 ?_
 go_upto_region 0 with fail
 refine wp_region_lit ?_
 try simp only [gelS]
 (refine wpList_boxB (t := 36) rfl _ rfl _ rfl ?_; intro b_r2 wn hle hge ht hbn hzn; have hsz := B.size; replace B := B.trans (hbn.mono (by omega)); have hln := Nat.lt_of_lt_of_eq (Nat.lt_succ_self _) hzn.symm; clear hzn; (try have hlt := ce.lt); (try replace ce := ce.below (hbn.mono hle)); have r2 := ht; clear ht; simp only [putS])
 (refine wpList_boxB (t := 134) rfl _ rfl _ rfl ?_; intro b_m3 wn hle hge ht hbn hzn; have hsz := B.size; replace B := B.trans (hbn.mono (by omega)); have hln := Nat.lt_of_lt_of_eq (Nat.lt_succ_self _) hzn.symm; clear hzn; (try have hlt := r2.lt); (try replace r2 := r2.below (hbn.mono hle)); (try have hlt := ce.lt); (try replace ce := ce.below (hbn.mono hle)); have m3 := ht; clear ht; simp only [putS])
 (refine wpList_allocBk (t := 36) rfl _ (run_alloc_R _ _ rfl) ?_; intro b_r4 wn hle hge ht hbn hzn; have hsz := B.size; replace B := B.trans (hbn.mono (by omega)); have hln := Nat.lt_of_lt_of_eq (Nat.lt_succ_self _) hzn.symm; clear hzn; (try have hlt := r2.lt); (try replace r2 := r2.below (hbn.mono hle)); (try have hlt := m3.lt); (try replace m3 := m3.below (hbn.mono hle)); (try have hlt := ce.lt); (try replace ce := ce.below (hbn.mono hle)); have r4 := ht; clear ht; simp only [putS])
 refine wpList_chunk 1 (by kernel_rfl) ?_
 simp only [takS, Nat.reduceAdd]
 repeat (first | go_big_quiet_skip | (go_big_quiet_want; go_big_quiet_op; go_big_quiet_on))
 refine wpQuiet_nil ?_
 refine wpList_nil ?_
 go_upto_region 1 with fail
 refine wp_region_lit ?_
 try simp only [gelS]
 refine wpList_chunk 2 (by kernel_rfl) ?_
 simp only [takS, Nat.reduceAdd]
 repeat (first | go_big_quiet_skip | (go_big_quiet_want; first | (refine quiet_loadAny (t := 31) rfl _ _ _ rfl (fun w hw => run_load_imR (ov_B m3 w hw)) (by first | rfl | omega) ?_; simp only [putS]; go_big_quiet_on) | (refine quiet_loadAny (t := 31) rfl _ _ _ rfl (fun w hw => run_load_B (ov_B c6 w hw) Try.isAgg31 (by kernel_rfl)) (by rfl) ?_; simp only [putS]; go_big_quiet_on) | (go_big_quiet_op; go_big_quiet_on)))
 refine wpQuiet_nil ?_
 (refine wpList_allocBk (t := 31) rfl _ (run_alloc_Rc _ _ rfl) ?_; intro b_c6 wn hle hge ht hbn hzn; have hsz := B.size; replace B := B.trans (hbn.mono (by omega)); have hln := Nat.lt_of_lt_of_eq (Nat.lt_succ_self _) hzn.symm; clear hzn; (try have hlt := r2.lt); (try replace r2 := r2.below (hbn.mono hle)); (try have hlt := m3.lt); (try replace m3 := m3.below (hbn.mono hle)); (try have hlt := r4.lt); (try replace r4 := r4.below (hbn.mono hle)); (try have hlt := c6.lt); (try replace c6 := c6.below (hbn.mono hle)); (try have hlt := ce.lt); (try replace ce := ce.below (hbn.mono hle)); have c6 := ht; clear ht; simp only [putS])
 (refine wpList_storeB (t := 31) rfl _ _ rfl _ rfl _ rfl c6 (by kernel_rfl) rfl (by simp [rcA, imgC, Value.oneCell']) ?_; clear c6; intro wn ht hcn hzn; have hsz := B.size; replace hzn := Nat.le_of_eq hzn.symm; replace B := Chg.below B hcn (by omega) B.size; (try replace r2 := r2.of_eq (hcn.block _ r2.lt (by omega))); (try replace m3 := m3.of_eq (hcn.block _ m3.lt (by omega))); (try replace r4 := r4.of_eq (hcn.block _ r4.lt (by omega))); (try replace ce := ce.of_eq (hcn.block _ ce.lt (by omega))); have c6 := ht; clear ht; simp only [putS])
 refine wpList_nil ?_
 replace c6 : AtB 31 _ b_c6 (rcA c) := c6
 go_upto_region 2 with fail
 try simp only [gelS]
 try have lx_r2 := r2.lt
 try have lx_m3 := m3.lt
 try have lx_r4 := r4.lt
 try have lx_c6 := c6.lt
 try have lx_ce := ce.lt
 refine wp_region_RL 11 [(1, detS ?v1_1), (6, detS ?v1_6), (8, detS ?v1_8)] (by kernel_rfl) (by kernel_rfl) (by kernel_rfl) ?_
 rotate_left 3
 simp only [takS, Nat.reduceAdd]
 refine wpRL_chunk 1 (by kernel_rfl) ?_
 simp only [takS, Nat.reduceAdd]
 repeat (first | go_big_quiet_skip | (go_big_quiet_want; first | (refine quiet_loadAny (t := 31) rfl _ _ _ rfl (fun w hw => run_load_imR (ov_B m3 w hw)) (by first | rfl | omega) ?_; simp only [putS]; go_big_quiet_on) | (refine quiet_loadAny (t := 31) rfl _ _ _ rfl (fun w hw => run_load_B (ov_B c6 w hw) Try.isAgg31 (by kernel_rfl)) (by rfl) ?_; simp only [putS]; go_big_quiet_on) | (go_big_quiet_op; go_big_quiet_on)))
 refine wpQuiet_nil ?_
 refine wpRL_callB (by rfl) (by first | rfl | simp [Region.wanted, yielded]) ?_ ?_
 ·intro wn hbn hE Kx hKx
  have hsz := B.size
  have hzn := hbn.size
  replace B := B.trans (hbn.mono B.size)
  (try replace r2 := r2.below hbn)
  (try replace m3 := m3.below hbn)
  (try replace r4 := r4.below hbn)
  (try replace c6 := c6.below hbn)
  (try replace ce := ce.below hbn)
  refine wp_callF rfl (enters_of Try.func60 (by kernel_rfl) rfl) (by simp only [Act.eval, evlS]; rfl) ?_
  refine (P_ValidRB c true _ HV.out).mono ?_
  rintro e wm ⟨rfl, hbm⟩
  refine ⟨_, rfl, ?_⟩
  have hz := hKx () wm trivial hbm
  dsimp only [detS] at hz
  exact hz
 rintro ⟨⟩
 dsimp only [detS]
 simp only [putS]
 refine wpRL_chunk 4 (by kernel_rfl) ?_
 simp only [takS, Nat.reduceAdd]
 repeat (first | go_big_quiet_skip | (go_big_quiet_want; first | (refine quiet_loadAny (t := 132) rfl _ _ _ rfl (fun w hw => run_load_slp (imgC_u (ov_B m3 w hw))) (by first | rfl | omega) ?_; simp only [putS]; go_big_quiet_on) | (go_big_quiet_op; go_big_quiet_on)))
 refine wpQuiet_nil ?_
 refine wpRL_callB (by rfl) ?hw1_6 ?_ ?_
 case hw1_6 => kernel_rfl
 ·intro wn hbn hE Kx hKx
  have hsz := B.size
  have hzn := hbn.size
  replace B := B.trans (hbn.mono B.size)
  (try replace r2 := r2.below hbn)
  (try replace m3 := m3.below hbn)
  (try replace r4 := r4.below hbn)
  (try replace c6 := c6.below hbn)
  (try replace ce := ce.below hbn)
  refine wp_lenS rfl Try.underlying132 rfl ?_
  exact hKx () _ trivial (Below.refl _ _)
 rintro ⟨⟩
 dsimp only [detS]
 simp only [putS]
 refine wpRL_chunk 1 (by kernel_rfl) ?_
 simp only [takS, Nat.reduceAdd]
 repeat (first | go_big_quiet_skip | (go_big_quiet_want; first | (refine quiet_loadAny (t := 31) rfl _ _ _ rfl (fun w hw => run_load_imR (ov_B m3 w hw)) (by first | rfl | omega) ?_; simp only [putS]; go_big_quiet_on) | (refine quiet_loadAny (t := 31) rfl _ _ _ rfl (fun w hw => run_load_B (ov_B c6 w hw) Try.isAgg31 (by kernel_rfl)) (by rfl) ?_; simp only [putS]; go_big_quiet_on) | (go_big_quiet_op; go_big_quiet_on)))
 refine wpQuiet_nil ?_
 refine wpRL_callB (by rfl) ?hw1_8 ?_ ?_
 case hw1_8 => kernel_rfl
 ·intro wn hbn hE Kx hKx
  have hsz := B.size
  have hzn := hbn.size
  replace B := B.trans (hbn.mono B.size)
  (try replace r2 := r2.below hbn)
  (try replace m3 := m3.below hbn)
  (try replace r4 := r4.below hbn)
  (try replace c6 := c6.below hbn)
  (try replace ce := ce.below hbn)
  refine wp_callF rfl (enters_of Try.func128 (by kernel_rfl) rfl) (by simp only [Act.eval, evlS]; rfl) ?_
  refine (P_AreaB c (areaN c : Int) _ HV.out hAN.out).mono ?_
  rintro e wm ⟨rfl, hbm⟩
  refine ⟨_, rfl, ?_⟩
  have hz := hKx () wm trivial hbm
  dsimp only [detS] at hz
  exact hz
 rintro ⟨⟩
 dsimp only [detS]
 simp only [putS]
 refine wpRL_chunk 2 (by kernel_rfl) ?_
 simp only [takS, Nat.reduceAdd]
 repeat (first | go_big_quiet_skip | (go_big_quiet_want; go_big_quiet_op; go_big_quiet_on))
 refine wpQuiet_nil ?_
 refine wpRL_nil ?_
 intro wn hbn hE
 have hsz := B.size
 have hzn := hbn.size
 replace B := B.trans (hbn.mono B.size)
 (try replace r2 := r2.below hbn)
 (try replace m3 := m3.below hbn)
 (try replace r4 := r4.below hbn)
 (try replace c6 := c6.below hbn)
 (try replace ce := ce.below hbn)
 clear hE
 try simp only [List.drop_succ_cons, List.drop_zero]
 refine NoPan.normal ?_
 go_upto_region 4 with fail
 refine wp_region_lit ?_
 try simp only [gelS]
 refine wpList_chunk 1 (by kernel_rfl) ?_
 simp only [takS, Nat.reduceAdd]
 repeat (first | go_big_quiet_skip | (go_big_quiet_want; first | (refine quiet_loadAny (t := 31) rfl _ _ _ rfl (fun w hw => run_load_imR (ov_B m3 w hw)) (by first | rfl | omega) ?_; simp only [putS]; go_big_quiet_on) | (refine quiet_loadAny (t := 31) rfl _ _ _ rfl (fun w hw => run_load_B (ov_B c6 w hw) Try.isAgg31 (by kernel_rfl)) (by rfl) ?_; simp only [putS]; go_big_quiet_on) | (go_big_quiet_op; go_big_quiet_on)))
 refine wpQuiet_nil ?_
 refine wpList_callF (by first | rfl | simp [Region.wanted, yielded]) rfl (enters_of Try.func129 (by kernel_rfl) rfl) (by simp only [Act.eval, evlS]; rfl) ?_
 refine (P_fitsB c 0 _ HEE.out).mono ?_
 rintro e wn ⟨rfl, hbn⟩
 have hsz := B.size
 have hzn := hbn.size
 replace B := B.trans (hbn.mono B.size)
 (try replace r2 := r2.below hbn)
 (try replace m3 := m3.below hbn)
 (try replace r4 := r4.below hbn)
 (try replace c6 := c6.below hbn)
 (try replace ce := ce.below hbn)
 refine ⟨_, rfl, ?_⟩
 simp only [putS]
 refine wpList_chunk 1 (by kernel_rfl) ?_
 simp only [takS, Nat.reduceAdd]
 repeat (first | go_big_quiet_skip | (go_big_quiet_want; go_big_quiet_op; go_big_quiet_on))
 refine wpQuiet_nil ?_
 refine wpList_nil ?_
 go_upto_region 5 with fail
 refine wp_region_lit ?_
 try simp only [gelS]
 refine wpList_chunk 2 (by kernel_rfl) ?_
 simp only [takS, Nat.reduceAdd]
 repeat (first | go_big_quiet_skip | (go_big_quiet_want; go_big_quiet_op; go_big_quiet_on))
 refine wpQuiet_nil ?_
 refine wpList_nil ?_
 go_upto_region 7 with fail
 have rs1 := (HT.out _ B).2
 refine wp_region_lit ?_
 try simp only [gelS]
 refine wpList_chunk 1 (by kernel_rfl) ?_
 simp only [takS, Nat.reduceAdd]
 repeat (first | go_big_quiet_skip | (go_big_quiet_want; first | (refine quiet_loadAny (t := 36) rfl _ _ _ rfl (fun w hw => run_load_B (ov_B r2 w hw) Try.isAgg36 (by kernel_rfl)) (by rfl) ?_; simp only [putS]; go_big_quiet_on) | (go_big_quiet_op; go_big_quiet_on)))
 refine wpQuiet_nil ?_
 refine wpList_callF (by first | rfl | simp [Region.wanted, yielded]) rfl (enters_of Try.func73 (by kernel_rfl) rfl) (by simp only [Act.eval, evlS]; rfl) ?_
 refine ((HT.out _ B).1).mono ?_
 rintro e wn ⟨rfl, hbn⟩
 have hsz := B.size
 have hzn := hbn.size
 replace B := B.trans (hbn.mono B.size)
 (try replace r2 := r2.below hbn)
 (try replace m3 := m3.below hbn)
 (try replace r4 := r4.below hbn)
 (try replace c6 := c6.below hbn)
 (try replace ce := ce.below hbn)
 replace rs1 := rs1.below hbn
 refine ⟨_, rfl, ?_⟩
 simp only [putS]
 (refine wpList_allocBk (t := 34) rfl _ (run_alloc_Sl _ _ rfl) ?_; intro b_l8 wn hle hge ht hbn hzn; have hsz := B.size; replace B := B.trans (hbn.mono (by omega)); have hln := Nat.lt_of_lt_of_eq (Nat.lt_succ_self _) hzn.symm; clear hzn; (try have hlt := r2.lt); (try replace r2 := r2.below (hbn.mono hle)); (try have hlt := m3.lt); (try replace m3 := m3.below (hbn.mono hle)); (try have hlt := r4.lt); (try replace r4 := r4.below (hbn.mono hle)); (try have hlt := c6.lt); (try replace c6 := c6.below (hbn.mono hle)); (try have hlt := ce.lt); (try replace ce := ce.below (hbn.mono hle)); (try have hlt := rs1.lt); (try replace rs1 := rs1.below (hbn.mono hle)); have l8 := ht; clear ht; simp only [putS])
 (refine wpList_storeSl rfl _ _ rfl _ rfl _ _ _ rfl l8 ?_; have l8o := l8; clear l8; intro wn ht hcn hzn; (try replace rs1 := rs1.chg l8o (by simp) hcn); have hsz := B.size; replace hzn := Nat.le_of_eq hzn.symm; replace B := Chg.below B hcn (by omega) B.size; (try replace r2 := r2.of_eq (hcn.block _ r2.lt (by omega))); (try replace m3 := m3.of_eq (hcn.block _ m3.lt (by omega))); (try replace r4 := r4.of_eq (hcn.block _ r4.lt (by omega))); (try replace c6 := c6.of_eq (hcn.block _ c6.lt (by omega))); (try replace ce := ce.of_eq (hcn.block _ ce.lt (by omega))); have l8 := ht; clear ht; simp only [putS])
 refine wpList_nil ?_
 have k2 : w.heap.size ≤ b_r2 := by omega
 have k3 : b_r2 < b_m3 := by have := r2.lt; omega
 have k4 : b_m3 < b_r4 := by have := m3.lt; omega
 have k6 : b_r4 < b_c6 := by have := r4.lt; omega
 have k8 : b_c6 < b_l8 := by have := c6.lt; omega
 have k9 := l8.lt
 have kg := ce.lt
 go_upto_region 8 with fail
 refine wp_region_lit ?_
 try simp only [gelS]
 refine wpList_chunk 1 (by kernel_rfl) ?_
 simp only [takS, Nat.reduceAdd]
 repeat (first | go_big_quiet_skip | (go_big_quiet_want; first | (refine quiet_loadAny (t := 31) rfl _ _ _ rfl (fun w hw => run_load_imR (ov_B m3 w hw)) (by first | rfl | omega) ?_; simp only [putS]; go_big_quiet_on) | (refine quiet_loadAny (t := 31) rfl _ _ _ rfl (fun w hw => run_load_B (ov_B c6 w hw) Try.isAgg31 (by kernel_rfl)) (by rfl) ?_; simp only [putS]; go_big_quiet_on) | (go_big_quiet_op; go_big_quiet_on)))
 refine wpQuiet_nil ?_
 refine wpList_callF (by first | rfl | simp [Region.wanted, yielded]) rfl (enters_of Try.func130 (by kernel_rfl) rfl) (by simp only [Act.eval, evlS]; rfl) ?_
 refine (P_Tiles c _).mono ?_
 rintro e wn ⟨b_t, rfl, hbt, rt, hbn⟩
 have hsz := B.size
 have hzn := hbn.size
 replace B := B.trans (hbn.mono B.size)
 (try replace m3 := m3.below hbn)
 (try replace r4 := r4.below hbn)
 (try replace c6 := c6.below hbn)
 (try replace ce := ce.below hbn)
 (try replace l8 := l8.below hbn)
 (try replace rs1 := rs1.below hbn)
 refine ⟨_, rfl, ?_⟩
 simp only [putS]
 refine wpList_nil ?_
 go_wp2
 refine (wpIn_wide (n := 3)).1 ?_
 refine rangeFunc_made (F := Fence.wide) rfl (by omega) (gf := 138) (lb := #[.pointer (some ⟨b_t, 0, none⟩)]) rfl trivial (enters_of Try.func138 (by kernel_rfl) rfl) (tiles_stops c FT.out b_t b_l8 _ (by omega) _ rt l8.lt) (fun h k => KpB.trans h k) (fun W l o o' _ hl ho _ => KpB.putObj b_l8 o' hl ho) (fun A B h => KpB.below h) (Below.refl _ _) (fun _ => rfl)
  (fun pre W => ∃ (a : Option Addr) (cp : Nat), AtB 34 W b_l8 #[.slice a (pstL c L KS (pre.map (posF c))).length cp] ∧ RS (.slice a (pstL c L KS (pre.map (posF c))).length cp) (pstL c L KS (pre.map (posF c))) W ∧ AtB 134 W b_m3 (imgC c (.slice (some ⟨g, o, none⟩) (areaN c) cu)) ∧ AtB 31 W b_c6 (rcA c) ∧ AtB 36 W b_r4 #[.slice none 0 0] ∧ RCellsE pxE g o L W ∧ Below w.heap.size w W)
  (fun pre W W' row hI hg hr => ?own)
  ⟨a', c', l8, rs1, m3, c6, r4, ce, B⟩
  (fun x a' W => ∃ b9 : Nat, a'.defers = [] ∧ a'.tmps.size = 78 ∧ a'.tmps.getD 3 undef = .pointer (some ⟨b_m3, 0, none⟩) ∧ a'.tmps.getD 6 undef = .pointer (some ⟨b_c6, 0, none⟩) ∧ a'.tmps.getD 8 undef = .pointer (some ⟨b_l8, 0, none⟩) ∧ a'.tmps.getD 9 undef = .pointer (some ⟨b9, 0, none⟩) ∧ AtB 105 W b9 #[.int .i64 (posF c x).1, .int .i64 (posF c x).2] ∧ b_l8 < b9)
  (fun x a' W W' row hA hg hr => ?own2) ?assign ?body ?done
 case own =>
  obtain ⟨a, cp, h1, h2, h3, h4, h5, h6, h7⟩ := hI
  have hr' : ∀ r, row = some r → ∃ o : Obj, W.heap[r]? = some o ∧ o.isCells = false := fun r e => (hr r e).2
  have hsz1 := B.size
  exact ⟨a, cp, h1.own hg hr', h2.own hg hr', h3.own hg hr', h4.own hg hr', h5.own hg hr', h6.ownP (by rw [HL.out]; omega) hg hr', below_own h7 h7.size hg (fun r e => Nat.le_trans hsz1 (hr r e).1)⟩
 case own2 =>
  obtain ⟨b9, e1, e2, e3, e4, e5, e6, h1, h2⟩ := hA
  exact ⟨b9, e1, e2, e3, e4, e5, e6, h1.own hg (fun r e => (hr r e).2), h2⟩
 case assign =>
  intro l pre x W K ⟨_, _, hl8, _⟩ hK
  have B := Below.refl W.heap.size W
  have hl := hl8.lt
  obtain ⟨⟨X, Y⟩, hxy⟩ : ∃ p, posF c x = p := ⟨_, rfl⟩
  rw [hxy] at hK
  dsimp only at hK
  rw [hxy]
  dsimp only
  refine zip1_wp ?_
  simp only [List.setIfInBounds_toArray, List.set_cons_succ, List.set_cons_zero]
  refine round_lit (by kernel_rfl) ?_
  try simp only [gelS]
  (refine wpList_allocBk (t := 105) rfl _ (run_alloc_Ps _ _ rfl) ?_; intro b_p9 wn hle hge ht hbn hzn; have hsz := B.size; replace B := B.trans (hbn.mono (by omega)); have hln := Nat.lt_of_lt_of_eq (Nat.lt_succ_self _) hzn.symm; clear hzn; have p9 := ht; clear ht; simp only [putS])
  (refine wpList_storeB (t := 105) rfl _ _ rfl _ rfl _ rfl p9 (by kernel_rfl) rfl (by simp [Value.oneCell']) ?_; clear p9; intro wn ht hcn hzn; have hsz := B.size; replace hzn := Nat.le_of_eq hzn.symm; replace B := Chg.below B hcn (by omega) B.size; have p9 := ht; clear ht; simp only [putS])
  refine wpList_nil ?_
  refine Only.at ?_
  refine hK _ _ B ⟨_, rfl, rfl, rfl, rfl, rfl, rfl, p9, by omega⟩
 case body =>
  rintro l pre x W ⟨tm, df⟩ ⟨a, cp, l8, rs1, m3, c6, r4, ce, BW⟩ ⟨b9, e1, e2, e3, e4, e5, e6, p9, k10⟩ hpre
  obtain ⟨U, hU, hUi⟩ := arr_fn tm 78 e2
  rw [← hUi] at e3 e4 e5 e6
  have eL : ((List.range 78).map U).toArray = #[U 0, U 1, U 2, U 3, U 4, U 5, U 6, U 7, U 8, U 9, U 10, U 11, U 12, U 13, U 14, U 15, U 16, U 17, U 18, U 19, U 20, U 21, U 22, U 23, U 24, U 25, U 26, U 27, U 28, U 29, U 30, U 31, U 32, U 33, U 34, U 35, U 36, U 37, U 38, U 39, U 40, U 41, U 42, U 43, U 44, U 45, U 46, U 47, U 48, U 49, U 50, U 51, U 52, U 53, U 54, U 55, U 56, U 57, U 58, U 59, U 60, U 61, U 62, U 63, U 64, U 65, U 66, U 67, U 68, U 69, U 70, U 71, U 72, U 73, U 74, U 75, U 76, U 77] := rfl
  rw [eL] at hU
  rw [e3, e4, e5, e6] at hU
  subst hU
  have e1 : df = [] := e1
  subst e1
  clear e2 e3 e4 e5 e6 hUi eL
  obtain ⟨⟨X, Y⟩, hxy⟩ : ∃ p, posF c x = p := ⟨_, rfl⟩
  have hwi := posP_in FT.out x.isLt
  rw [show posP c x.val = (X, Y) from hxy] at hwi
  have HWI := Lib.hid hwi
  rw [hxy] at p9
  dsimp only at p9
  have hMn := pstL_len c L (pre.map (posF c)) KS
  rw [List.length_map] at hMn
  have SM0 := pstL_srt c L (pre.map (posF c)) KS SR.out
  have TM0 := pstL_tok OK.out (pre.map (posF c)) KS TK.out (c := c)
  have HNEW0 : pstL c L KS ((pre ++ [x]).map (posF c)) = putL (pstL c L KS (pre.map (posF c))) X Y (pstT c L X Y (tileL (pstL c L KS (pre.map (posF c))) X Y)) := by
   rw [List.map_append, show [x].map (posF c) = [(X, Y)] from by rw [← hxy]; rfl, pstL_snoc]
   rfl
  generalize pstL c L KS (pre.map (posF c)) = M at *
  have SM := Lib.hid SM0
  have TM := Lib.hid TM0
  have HNEW := Lib.hid HNEW0
  have L8 := Lib.hid l8
  have HTK := Lib.hid (tileL_tok TM0 X Y)
  have HTT := Lib.hid (pstT_tok OK.out X Y (tileL_tok TM0 X Y) (c := c))
  have hM3 : M.length ≤ 3000 := by omega
  have hws := BW.size
  have l8lt := l8.lt
  have m3lt := m3.lt
  have c6lt := c6.lt
  have r4lt := r4.lt
  have p9lt := p9.lt
  have hpl := putL_length M X Y (pstT c L X Y (tileL M X Y))
  obtain ⟨_, _, e1, hcp⟩ := rs1.len
  simp only [Value.slice.injEq] at e1
  obtain ⟨rfl, _, rfl⟩ := e1
  have RS1W := Lib.hid rs1
  have B := Exc.refl b_l8 W
  clear SM0 TM0 HNEW0 hMn hwi hxy
  cases hh : hitL M X Y with
  | true =>
   have HH := Lib.hid hh
   obtain ⟨hc1, hc2⟩ := hit_at SM.out hh
   obtain ⟨k, hk⟩ : ∃ k, cutL M X Y = k := ⟨_, rfl⟩
   rw [hk] at hc1 hc2
   have HK := Lib.hid hk
   obtain ⟨gg, oo, rfl, rc⟩ := rs1.at (by omega)
   have HC2 := Lib.hid hc2
   clear hh hk hc2
   gi_upto_region 10 with fail
   refine round_lit (by kernel_rfl) ?_
   try simp only [gelS]
   refine wpList_chunk 2 (by kernel_rfl) ?_
   simp only [takS, Nat.reduceAdd]
   repeat (first | go_big_quiet_skip | (go_big_quiet_want; first | (refine quiet_loadAny (t := 34) rfl _ _ _ rfl (fun w hw => run_load_sl ((ov_B l8 w hw).cellL 0 rfl)) (by rfl) ?_; simp only [putS]; go_big_quiet_on) | (refine quiet_loadAny (t := 105) rfl _ _ _ rfl (fun w hw => run_load_B (ov_B p9 w hw) Try.isAgg105 (by kernel_rfl)) (by rfl) ?_; simp only [putS]; go_big_quiet_on) | (refine quiet_buildTA0 rfl X Y rfl ?_; simp only [putS]; go_big_quiet_on) | (go_big_quiet_op; go_big_quiet_on)))
   refine wpQuiet_nil ?_
   refine wpList_callF (by first | rfl | simp [Region.wanted, yielded]) rfl (enters_of Try.func131 (by kernel_rfl) rfl) (by simp only [Act.eval, evlS]; rfl) ?_
   refine (P_findB _ M X Y k true _ rs1 SM.out (by omega) HK.out HH.out).mono ?_
   rintro e wn ⟨rfl, hbn⟩
   have hsz := B.size
   have hzn := hbn.size
   replace B := B.trans (hbn.mono B.size)
   (try replace l8 := l8.below hbn)
   (try replace m3 := m3.below hbn)
   (try replace c6 := c6.below hbn)
   (try replace r4 := r4.below hbn)
   (try replace ce := ce.below hbn)
   (try replace p9 := p9.below hbn)
   (try replace rs1 := rs1.below hbn)
   refine ⟨_, rfl, ?_⟩
   simp only [putS]
   refine wpList_chunk 5 (by kernel_rfl) ?_
   simp only [takS, Nat.reduceAdd]
   repeat (first | go_big_quiet_skip | (go_big_quiet_want; first | (refine quiet_buildTA0 rfl X Y rfl ?_; simp only [putS]; go_big_quiet_on) | (go_big_quiet_op; go_big_quiet_on)))
   refine wpQuiet_nil ?_
   refine wpList_nil ?_
   refine Only.at ?_
   try dsimp only
   gi_upto_region 11 with fail
   refine round_lit (by kernel_rfl) ?_
   try simp only [gelS]
   refine wpList_chunk 2 (by kernel_rfl) ?_
   simp only [takS, Nat.reduceAdd]
   repeat (first | go_big_quiet_skip | (go_big_quiet_want; first | (refine quiet_loadAny (t := 105) rfl _ _ _ rfl (fun w hw => run_load_B (ov_B p9 w hw) Try.isAgg105 (by kernel_rfl)) (by rfl) ?_; simp only [putS]; go_big_quiet_on) | (refine quiet_buildTA0 rfl X Y rfl ?_; simp only [putS]; go_big_quiet_on) | (go_big_quiet_op; go_big_quiet_on)))
   refine wpQuiet_nil ?_
   (refine wpList_bs1T rfl _ rfl ⟨X, Y, zT⟩ (by rfl) ?_; intro b_s1 wn hle hge ht hbn hzn; have hsz := B.size; replace B := B.trans (hbn.mono (by omega)); have hln := Nat.lt_of_lt_of_eq (Nat.lt_succ_self _) hzn.symm; clear hzn; (try have hlt := l8.lt); (try replace l8 := l8.below (hbn.mono hle)); (try have hlt := m3.lt); (try replace m3 := m3.below (hbn.mono hle)); (try have hlt := c6.lt); (try replace c6 := c6.below (hbn.mono hle)); (try have hlt := r4.lt); (try replace r4 := r4.below (hbn.mono hle)); (try have hlt := ce.lt); (try replace ce := ce.below (hbn.mono hle)); (try have hlt := p9.lt); (try replace p9 := p9.below (hbn.mono hle)); (try have hlt := rs1.lt); (try replace rs1 := rs1.below (hbn.mono hle)); have s1 := ht; clear ht; simp only [putS])
   refine wpList_chunk 1 (by kernel_rfl) ?_
   simp only [takS, Nat.reduceAdd]
   repeat (first | go_big_quiet_skip | (go_big_quiet_want; first | (refine quiet_buildTA0 rfl X Y rfl ?_; simp only [putS]; go_big_quiet_on) | (go_big_quiet_op; go_big_quiet_on)))
   refine wpQuiet_nil ?_
   refine wpList_nil ?_
   refine Only.at ?_
   try dsimp only
   gi_upto_region 12 with fail
   refine round_lit (by kernel_rfl) ?_
   try simp only [gelS]
   refine wpList_chunk 1 (by kernel_rfl) ?_
   simp only [takS, Nat.reduceAdd]
   repeat (first | go_big_quiet_skip | (go_big_quiet_want; first | (refine quiet_buildTA0 rfl X Y rfl ?_; simp only [putS]; go_big_quiet_on) | (go_big_quiet_op; go_big_quiet_on)))
   refine wpQuiet_nil ?_
   refine wpList_nil ?_
   refine Only.at ?_
   try dsimp only
   gi_upto_region 13 with fail
   refine round_lit (by kernel_rfl) ?_
   try simp only [gelS]
   refine wpList_chunk 8 (by kernel_rfl) ?_
   simp only [takS, Nat.reduceAdd]
   repeat (first | go_big_quiet_skip | (go_big_quiet_want; first | (refine quiet_loadAny (t := 34) rfl _ _ _ rfl (fun w hw => run_load_sl ((ov_B l8 w hw).cellL 0 rfl)) (by rfl) ?_; simp only [putS]; go_big_quiet_on) | (refine quiet_buildTA0 rfl X Y rfl ?_; simp only [putS]; go_big_quiet_on) | (go_big_quiet_op; go_big_quiet_on)))
   refine wpQuiet_nil ?_
   refine wpList_nil ?_
   refine Only.at ?_
   try dsimp only
   obtain ⟨g2, o2, e2, rc'⟩ := rs1.at (by omega)
   obtain ⟨rfl, rfl⟩ : gg = g2 ∧ oo = o2 := by simpa using e2
   have rsm := rs_mid rc' hc1
   rw [HC2.out] at rsm
   have rsm0 := rsm
   gi_upto_region 14 with fail
   refine round_lit (by kernel_rfl) ?_
   try simp only [gelS]
   (refine wpList_allocT' rfl rfl ?_; intro b_t13 wn hle hge ht hbn hzn; have hsz := B.size; replace B := B.trans (hbn.mono (by omega)); have hln := Nat.lt_of_lt_of_eq (Nat.lt_succ_self _) hzn.symm; clear hzn; (try have hlt := l8.lt); (try replace l8 := l8.below (hbn.mono hle)); (try have hlt := m3.lt); (try replace m3 := m3.below (hbn.mono hle)); (try have hlt := c6.lt); (try replace c6 := c6.below (hbn.mono hle)); (try have hlt := r4.lt); (try replace r4 := r4.below (hbn.mono hle)); (try have hlt := ce.lt); (try replace ce := ce.below (hbn.mono hle)); (try have hlt := p9.lt); (try replace p9 := p9.below (hbn.mono hle)); (try have hlt := rs1.lt); (try replace rs1 := rs1.below (hbn.mono hle)); (try have hlt := rsm.lt); (try replace rsm := rsm.below (hbn.mono hle)); have t13 := ht; clear ht; simp only [putS])
   refine wpList_nil ?_
   refine Only.at ?_
   try dsimp only
   have HSEP := Lib.hid (rs_sep rsm0 hle (by simp))
   clear rsm0
   gi_upto_region 15 with fail
   refine round_lit (by kernel_rfl) ?_
   try simp only [gelS]
   refine wpList_chunk 1 (by kernel_rfl) ?_
   simp only [takS, Nat.reduceAdd]
   repeat (first | go_big_quiet_skip | (go_big_quiet_want; first | (refine quiet_buildTA0 rfl X Y rfl ?_; simp only [putS]; go_big_quiet_on) | (go_big_quiet_op; go_big_quiet_on)))
   refine wpQuiet_nil ?_
   (refine wpList_val rfl (.func (.func 132) #[] #[.pointer (some ⟨b_c6, 0, none⟩), .pointer (some ⟨b_m3, 0, none⟩)]) (by first | rfl | simp [go_sem, Act.eval]) ?_; simp only [putS])
   refine wpList_callF (by first | rfl | simp [Region.wanted, yielded]) rfl (enters_of Try.func72 (by kernel_rfl) rfl) (by simp only [Act.eval, evlS]; rfl) ?_
   refine (P_mapPst c FT.out L HL.out OK.out ⟨X, Y, tileL M X Y⟩ _ _ b_c6 b_m3 b_t13 g o cu _ _ rsm HTK.out HWI.out c6 m3 ce t13 HSEP.out).mono ?_
   rintro e wn ⟨a5, cp5, rfl, rs5, hbn⟩
   have hsz := B.size
   have hzn := hbn.size
   replace B := B.trans (hbn.mono B.size)
   (try replace l8 := l8.below hbn)
   (try replace m3 := m3.below hbn)
   (try replace c6 := c6.below hbn)
   (try replace r4 := r4.below hbn)
   (try replace ce := ce.below hbn)
   (try replace p9 := p9.below hbn)
   (try replace t13 := t13.below hbn)
   (try replace rs1 := rs1.below hbn)
   (try replace rsm := rsm.below hbn)
   refine ⟨_, rfl, ?_⟩
   simp only [putS]
   refine wpList_lenS (by first | rfl | simp [Region.wanted, yielded]) rfl Try.underlying34 rfl ?_
   simp only [putS]
   refine wpList_chunk 1 (by kernel_rfl) ?_
   simp only [takS, Nat.reduceAdd]
   repeat (first | go_big_quiet_skip | (go_big_quiet_want; first | (refine quiet_buildTA0 rfl X Y rfl ?_; simp only [putS]; go_big_quiet_on) | (go_big_quiet_op; go_big_quiet_on)))
   refine wpQuiet_nil ?_
   refine wpList_nil ?_
   refine Only.at ?_
   try dsimp only
   clear rsm HSEP
   cases hz : zeroB (pstT c L X Y (tileL M X Y)) with
   | true =>
    have HN : newA X Y (pstT c L X Y (tileL M X Y)) = [] := by unfold newA; rw [hz]; rfl
    rw [HN] at rs5
    simp only [HN, List.length_nil]
    clear rs5 HN
    have HZ := Lib.hid hz
    clear hz
    gi_wp2
    refine wpIn_loop_rounds 2 ?_
    rw [roundsIn_succ]
    gi_upto_region 16 with fail
    refine round_lit (by kernel_rfl) ?_
    try simp only [gelS]
    refine wpList_chunk 1 (by kernel_rfl) ?_
    simp only [takS, Nat.reduceAdd]
    repeat (first | go_big_quiet_skip | (go_big_quiet_want; first | (refine quiet_buildTA0 rfl X Y rfl ?_; simp only [putS]; go_big_quiet_on) | (go_big_quiet_op; go_big_quiet_on)))
    refine wpQuiet_nil ?_
    refine wpList_nil ?_
    refine Only.at ?_
    try dsimp only
    clear rs1
    have rs1 := RS1W.out.chg L8.out (by simp) B.toChg
    gi_upto_region 20 with fail
    refine round_lit (by kernel_rfl) ?_
    try simp only [gelS]
    refine wpList_chunk 3 (by kernel_rfl) ?_
    simp only [takS, Nat.reduceAdd]
    repeat (first | go_big_quiet_skip | (go_big_quiet_want; first | (refine quiet_loadAny (t := 34) rfl _ _ _ rfl (fun w hw => run_load_sl ((ov_B l8 w hw).cellL 0 rfl)) (by rfl) ?_; simp only [putS]; go_big_quiet_on) | (refine quiet_loadAny (t := 105) rfl _ _ _ rfl (fun w hw => run_load_B (ov_B p9 w hw) Try.isAgg105 (by kernel_rfl)) (by rfl) ?_; simp only [putS]; go_big_quiet_on) | (refine quiet_buildTA0 rfl X Y rfl ?_; simp only [putS]; go_big_quiet_on) | (refine quiet_loadT rfl _ rfl (ov_tile t13) ?_; simp only [putS]; go_big_quiet_on) | (refine quiet_loadAny (t := 103) rfl _ _ _ rfl (fun w hw => ta_tile (ov_B t15 w hw)) (by first | rfl | omega) ?_; simp only [putS]; go_big_quiet_on) | (go_big_quiet_op; go_big_quiet_on)))
    refine wpQuiet_nil ?_
    refine wpList_callF (by first | rfl | simp [Region.wanted, yielded]) rfl (enters_of Try.func117 (by kernel_rfl) rfl) (by simp only [Act.eval, evlS]; rfl) ?_
    refine (P_with _ M X Y (fun _ => Px.zero) _ rs1 SM.out (fun i _ => Px.zero_ok) (by omega)).mono ?_
    rintro e wn ⟨v8, rfl, rs8, hbn⟩
    have hsz := B.size
    have hzn := hbn.size
    replace B := B.trans (hbn.mono B.size)
    (try replace l8 := l8.below hbn)
    (try replace m3 := m3.below hbn)
    (try replace c6 := c6.below hbn)
    (try replace r4 := r4.below hbn)
    (try replace ce := ce.below hbn)
    (try replace p9 := p9.below hbn)
    (try replace t13 := t13.below hbn)
    (try replace t15 := t15.below hbn)
    (try replace rs1 := rs1.below hbn)
    (try replace rsm := rsm.below hbn)
    obtain ⟨a8, c8, rfl, hc8⟩ := rs8.len
    refine ⟨_, rfl, ?_⟩
    simp only [putS]
    (refine wpList_storeSl rfl _ _ rfl _ rfl _ _ _ rfl l8 ?_; have l8o := l8; clear l8; intro wn ht hcn hzn; (try replace rs8 := rs8.chg l8o (by simp) hcn); have hsz := B.size; replace hzn := Nat.le_of_eq hzn.symm; replace B := Exc.chg B hcn; (try replace m3 := m3.of_eq (hcn.block _ m3.lt (by omega))); (try replace c6 := c6.of_eq (hcn.block _ c6.lt (by omega))); (try replace r4 := r4.of_eq (hcn.block _ r4.lt (by omega))); (try replace ce := ce.of_eq (hcn.block _ ce.lt (by omega))); (try replace p9 := p9.of_eq (hcn.block _ p9.lt (by omega))); (try replace t13 := t13.of_eq (hcn.block _ t13.lt (by omega))); (try replace t15 := t15.of_eq (hcn.block _ t15.lt (by omega))); have l8 := ht; clear ht; simp only [putS])
    refine wpList_nil ?_
    refine Only.at ?_
    try dsimp only
    gi_wp2
    refine ⟨KeepsOthers.chgB B.toChg L8.out, KpB.chg B.toChg, ?_⟩
    dsimp only
    rw [HNEW.out]
    have e := putL_zero M X Y (t := fun _ => Px.zero) (u := pstT c L X Y (tileL M X Y)) ((zeroB_iff _).2 fun _ _ => rfl) HZ.out
    rw [e] at rs8 l8
    exact ⟨a8, c8, l8, rs8, m3, c6, r4, ce, Chg.below BW B.toChg (by omega) BW.size⟩
   | false =>
    have HN : newA X Y (pstT c L X Y (tileL M X Y)) = [⟨X, Y, pstT c L X Y (tileL M X Y)⟩] := by unfold newA; rw [hz]; rfl
    rw [HN] at rs5
    simp only [HN, List.length_cons, List.length_nil, Nat.zero_add]
    obtain ⟨g5, o5, rfl, rc5⟩ := rs5.at (by simp)
    clear rs5 HN hz
    have hlen1 : 0 < [(⟨X, Y, pstT c L X Y (tileL M X Y)⟩ : TA)].length := by simp
    gi_wp2
    refine wpIn_loop_rounds 2 ?_
    rw [roundsIn_succ]
    gi_upto_region 16 with fail
    refine round_lit (by kernel_rfl) ?_
    try simp only [gelS]
    refine wpList_chunk 1 (by kernel_rfl) ?_
    simp only [takS, Nat.reduceAdd]
    repeat (first | go_big_quiet_skip | (go_big_quiet_want; first | (refine quiet_buildTA0 rfl X Y rfl ?_; simp only [putS]; go_big_quiet_on) | (go_big_quiet_op; go_big_quiet_on)))
    refine wpQuiet_nil ?_
    refine wpList_nil ?_
    refine Only.at ?_
    try dsimp only
    gi_upto_region 17 with fail
    refine round_lit (by kernel_rfl) ?_
    try simp only [gelS]
    refine wpList_chunk 2 (by kernel_rfl) ?_
    simp only [takS, Nat.reduceAdd]
    repeat (first | go_big_quiet_skip | (go_big_quiet_want; first | (refine quiet_buildTA0 rfl X Y rfl ?_; simp only [putS]; go_big_quiet_on) | (refine quiet_loadAny (t := 112) rfl _ _ _ rfl (fun w hw => rc_ta (ov_rc rc5 w hw) hlen1 rfl) (by first | rfl | omega) ?_; simp only [putS]; go_big_quiet_on) | (go_big_quiet_op; go_big_quiet_on)))
    refine wpQuiet_nil ?_
    (refine wpList_allocBk (t := 112) rfl _ (run_alloc_TA _ _ rfl) ?_; intro b_t15 wn hle hge ht hbn hzn; have hsz := B.size; replace B := B.trans (hbn.mono (by omega)); have hln := Nat.lt_of_lt_of_eq (Nat.lt_succ_self _) hzn.symm; clear hzn; (try have hlt := l8.lt); (try replace l8 := l8.below (hbn.mono hle)); (try have hlt := m3.lt); (try replace m3 := m3.below (hbn.mono hle)); (try have hlt := c6.lt); (try replace c6 := c6.below (hbn.mono hle)); (try have hlt := r4.lt); (try replace r4 := r4.below (hbn.mono hle)); (try have hlt := ce.lt); (try replace ce := ce.below (hbn.mono hle)); (try have hlt := p9.lt); (try replace p9 := p9.below (hbn.mono hle)); (try have hlt := t13.lt); (try replace t13 := t13.below (hbn.mono hle)); (try have hlt := t15.lt); (try replace t15 := t15.below (hbn.mono hle)); (try have hlt := rs1.lt); (try replace rs1 := rs1.below (hbn.mono hle)); (try have hlt := rsm.lt); (try replace rsm := rsm.below (hbn.mono hle)); (try have hlt := rc5.lt); (try replace rc5 := rc5.below (hbn.mono hle)); have t15 := ht; clear ht; simp only [putS])
    (refine wpList_storeB (t := 112) rfl _ _ rfl _ rfl _ rfl t15 (by rw [size_taC]; kernel_rfl) (by simp only [size_taC, size_zTA]) (taC_all _) ?_; clear t15; intro wn ht hcn hzn; have hsz := B.size; replace hzn := Nat.le_of_eq hzn.symm; replace B := Exc.store B hcn (by omega); (try replace l8 := l8.of_eq (hcn.block _ l8.lt (by omega))); (try replace m3 := m3.of_eq (hcn.block _ m3.lt (by omega))); (try replace c6 := c6.of_eq (hcn.block _ c6.lt (by omega))); (try replace r4 := r4.of_eq (hcn.block _ r4.lt (by omega))); (try replace ce := ce.of_eq (hcn.block _ ce.lt (by omega))); (try replace p9 := p9.of_eq (hcn.block _ p9.lt (by omega))); (try replace t13 := t13.of_eq (hcn.block _ t13.lt (by omega))); (try replace rs1 := rs1.of_eq (hcn.block _ rs1.lt (by omega))); (try replace rsm := rsm.of_eq (hcn.block _ rsm.lt (by omega))); (try replace rc5 := rc5.of_eq (hcn.block _ rc5.lt (by omega))); have t15 := ht; clear ht; simp only [putS])
    refine wpList_nil ?_
    refine Only.at ?_
    try dsimp only
    replace t15 : AtB 112 _ b_t15 (taC ⟨X, Y, pstT c L X Y (tileL M X Y)⟩) := t15
    gi_upto_region 18 with fail
    refine round_lit (by kernel_rfl) ?_
    try simp only [gelS]
    refine wpList_chunk 2 (by kernel_rfl) ?_
    simp only [takS, Nat.reduceAdd]
    repeat (first | go_big_quiet_skip | (go_big_quiet_want; first | (refine quiet_buildTA0 rfl X Y rfl ?_; simp only [putS]; go_big_quiet_on) | (refine quiet_loadT rfl _ rfl (ov_tile t13) ?_; simp only [putS]; go_big_quiet_on) | (refine quiet_loadAny (t := 103) rfl _ _ _ rfl (fun w hw => ta_tile (ov_B t15 w hw)) (by first | rfl | omega) ?_; simp only [putS]; go_big_quiet_on) | (go_big_quiet_op; go_big_quiet_on)))
    refine wpQuiet_nil ?_
    (refine wpList_storeT rfl _ _ rfl _ rfl _ rfl t13 ?_; clear t13; intro wn ht hcn hzn; have hsz := B.size; replace hzn := Nat.le_of_eq hzn.symm; replace B := Exc.store B hcn (by omega); (try replace l8 := l8.of_eq (hcn.block _ l8.lt (by omega))); (try replace m3 := m3.of_eq (hcn.block _ m3.lt (by omega))); (try replace c6 := c6.of_eq (hcn.block _ c6.lt (by omega))); (try replace r4 := r4.of_eq (hcn.block _ r4.lt (by omega))); (try replace ce := ce.of_eq (hcn.block _ ce.lt (by omega))); (try replace p9 := p9.of_eq (hcn.block _ p9.lt (by omega))); (try replace t15 := t15.of_eq (hcn.block _ t15.lt (by omega))); (try replace rs1 := rs1.of_eq (hcn.block _ rs1.lt (by omega))); (try replace rsm := rsm.of_eq (hcn.block _ rsm.lt (by omega))); (try replace rc5 := rc5.of_eq (hcn.block _ rc5.lt (by omega))); have t13 := ht; clear ht; simp only [putS])
    refine wpList_nil ?_
    refine Only.at ?_
    try dsimp only
    gi_upto_region 19 with fail
    refine round_lit (by kernel_rfl) ?_
    try simp only [gelS]
    refine wpList_chunk 2 (by kernel_rfl) ?_
    simp only [takS, Nat.reduceAdd]
    repeat (first | go_big_quiet_skip | (go_big_quiet_want; first | (refine quiet_buildTA0 rfl X Y rfl ?_; simp only [putS]; go_big_quiet_on) | (go_big_quiet_op; go_big_quiet_on)))
    refine wpQuiet_nil ?_
    refine wpList_nil ?_
    refine Only.at ?_
    try dsimp only
    gi_wp2
    rw [roundsIn_succ]
    gi_upto_region 16 with fail
    refine round_lit (by kernel_rfl) ?_
    try simp only [gelS]
    refine wpList_chunk 1 (by kernel_rfl) ?_
    simp only [takS, Nat.reduceAdd]
    repeat (first | go_big_quiet_skip | (go_big_quiet_want; first | (refine quiet_buildTA0 rfl X Y rfl ?_; simp only [putS]; go_big_quiet_on) | (go_big_quiet_op; go_big_quiet_on)))
    refine wpQuiet_nil ?_
    refine wpList_nil ?_
    refine Only.at ?_
    try dsimp only
    clear rs1
    have rs1 := RS1W.out.chg L8.out (by simp) B.toChg
    gi_upto_region 20 with fail
    refine round_lit (by kernel_rfl) ?_
    try simp only [gelS]
    refine wpList_chunk 3 (by kernel_rfl) ?_
    simp only [takS, Nat.reduceAdd]
    repeat (first | go_big_quiet_skip | (go_big_quiet_want; first | (refine quiet_loadAny (t := 34) rfl _ _ _ rfl (fun w hw => run_load_sl ((ov_B l8 w hw).cellL 0 rfl)) (by rfl) ?_; simp only [putS]; go_big_quiet_on) | (refine quiet_loadAny (t := 105) rfl _ _ _ rfl (fun w hw => run_load_B (ov_B p9 w hw) Try.isAgg105 (by kernel_rfl)) (by rfl) ?_; simp only [putS]; go_big_quiet_on) | (refine quiet_buildTA0 rfl X Y rfl ?_; simp only [putS]; go_big_quiet_on) | (refine quiet_loadT rfl _ rfl (ov_tile t13) ?_; simp only [putS]; go_big_quiet_on) | (refine quiet_loadAny (t := 103) rfl _ _ _ rfl (fun w hw => ta_tile (ov_B t15 w hw)) (by first | rfl | omega) ?_; simp only [putS]; go_big_quiet_on) | (go_big_quiet_op; go_big_quiet_on)))
    refine wpQuiet_nil ?_
    refine wpList_callF (by first | rfl | simp [Region.wanted, yielded]) rfl (enters_of Try.func117 (by kernel_rfl) rfl) (by simp only [Act.eval, evlS]; rfl) ?_
    refine (P_with _ M X Y (pstT c L X Y (tileL M X Y)) _ rs1 SM.out HTT.out (by omega)).mono ?_
    rintro e wn ⟨v8, rfl, rs8, hbn⟩
    have hsz := B.size
    have hzn := hbn.size
    replace B := B.trans (hbn.mono B.size)
    (try replace l8 := l8.below hbn)
    (try replace m3 := m3.below hbn)
    (try replace c6 := c6.below hbn)
    (try replace r4 := r4.below hbn)
    (try replace ce := ce.below hbn)
    (try replace p9 := p9.below hbn)
    (try replace t13 := t13.below hbn)
    (try replace t15 := t15.below hbn)
    (try replace rs1 := rs1.below hbn)
    (try replace rsm := rsm.below hbn)
    (try replace rc5 := rc5.below hbn)
    obtain ⟨a8, c8, rfl, hc8⟩ := rs8.len
    refine ⟨_, rfl, ?_⟩
    simp only [putS]
    (refine wpList_storeSl rfl _ _ rfl _ rfl _ _ _ rfl l8 ?_; have l8o := l8; clear l8; intro wn ht hcn hzn; (try replace rs8 := rs8.chg l8o (by simp) hcn); have hsz := B.size; replace hzn := Nat.le_of_eq hzn.symm; replace B := Exc.chg B hcn; (try replace m3 := m3.of_eq (hcn.block _ m3.lt (by omega))); (try replace c6 := c6.of_eq (hcn.block _ c6.lt (by omega))); (try replace r4 := r4.of_eq (hcn.block _ r4.lt (by omega))); (try replace ce := ce.of_eq (hcn.block _ ce.lt (by omega))); (try replace p9 := p9.of_eq (hcn.block _ p9.lt (by omega))); (try replace t13 := t13.of_eq (hcn.block _ t13.lt (by omega))); (try replace t15 := t15.of_eq (hcn.block _ t15.lt (by omega))); (try replace rc5 := rc5.of_eq (hcn.block _ rc5.lt (by omega))); have l8 := ht; clear ht; simp only [putS])
    refine wpList_nil ?_
    refine Only.at ?_
    try dsimp only
    gi_wp2
    refine ⟨KeepsOthers.chgB B.toChg L8.out, KpB.chg B.toChg, ?_⟩
    dsimp only
    rw [HNEW.out]
    exact ⟨a8, c8, l8, rs8, m3, c6, r4, ce, Chg.below BW B.toChg (by omega) BW.size⟩
  | false =>
   have HH := Lib.hid hh
   have hz0 := Lib.hid (hit_not SM.out hh)
   obtain ⟨k, hk⟩ : ∃ k, cutL M X Y = k := ⟨_, rfl⟩
   have HK := Lib.hid hk
   have hkl := cutL_le M X Y
   rw [hk] at hkl
   clear hh hk
   gi_upto_region 10 with fail
   refine round_lit (by kernel_rfl) ?_
   try simp only [gelS]
   refine wpList_chunk 2 (by kernel_rfl) ?_
   simp only [takS, Nat.reduceAdd]
   repeat (first | go_big_quiet_skip | (go_big_quiet_want; first | (refine quiet_loadAny (t := 34) rfl _ _ _ rfl (fun w hw => run_load_sl ((ov_B l8 w hw).cellL 0 rfl)) (by rfl) ?_; simp only [putS]; go_big_quiet_on) | (refine quiet_loadAny (t := 105) rfl _ _ _ rfl (fun w hw => run_load_B (ov_B p9 w hw) Try.isAgg105 (by kernel_rfl)) (by rfl) ?_; simp only [putS]; go_big_quiet_on) | (refine quiet_buildTA0 rfl X Y rfl ?_; simp only [putS]; go_big_quiet_on) | (go_big_quiet_op; go_big_quiet_on)))
   refine wpQuiet_nil ?_
   refine wpList_callF (by first | rfl | simp [Region.wanted, yielded]) rfl (enters_of Try.func131 (by kernel_rfl) rfl) (by simp only [Act.eval, evlS]; rfl) ?_
   refine (P_findB _ M X Y k false _ rs1 SM.out (by omega) HK.out HH.out).mono ?_
   rintro e wn ⟨rfl, hbn⟩
   have hsz := B.size
   have hzn := hbn.size
   replace B := B.trans (hbn.mono B.size)
   (try replace l8 := l8.below hbn)
   (try replace m3 := m3.below hbn)
   (try replace c6 := c6.below hbn)
   (try replace r4 := r4.below hbn)
   (try replace ce := ce.below hbn)
   (try replace p9 := p9.below hbn)
   (try replace t13 := t13.below hbn)
   (try replace t15 := t15.below hbn)
   (try replace rs1 := rs1.below hbn)
   (try replace rsm := rsm.below hbn)
   (try replace rc5 := rc5.below hbn)
   refine ⟨_, rfl, ?_⟩
   simp only [putS]
   refine wpList_chunk 5 (by kernel_rfl) ?_
   simp only [takS, Nat.reduceAdd]
   repeat (first | go_big_quiet_skip | (go_big_quiet_want; first | (refine quiet_buildTA0 rfl X Y rfl ?_; simp only [putS]; go_big_quiet_on) | (go_big_quiet_op; go_big_quiet_on)))
   refine wpQuiet_nil ?_
   refine wpList_nil ?_
   refine Only.at ?_
   try dsimp only
   gi_upto_region 11 with fail
   refine round_lit (by kernel_rfl) ?_
   try simp only [gelS]
   refine wpList_chunk 2 (by kernel_rfl) ?_
   simp only [takS, Nat.reduceAdd]
   repeat (first | go_big_quiet_skip | (go_big_quiet_want; first | (refine quiet_loadAny (t := 105) rfl _ _ _ rfl (fun w hw => run_load_B (ov_B p9 w hw) Try.isAgg105 (by kernel_rfl)) (by rfl) ?_; simp only [putS]; go_big_quiet_on) | (refine quiet_buildTA0 rfl X Y rfl ?_; simp only [putS]; go_big_quiet_on) | (go_big_quiet_op; go_big_quiet_on)))
   refine wpQuiet_nil ?_
   (refine wpList_bs1T rfl _ rfl ⟨X, Y, zT⟩ (by rfl) ?_; intro b_s1 wn hle hge ht hbn hzn; have hsz := B.size; replace B := B.trans (hbn.mono (by omega)); have hln := Nat.lt_of_lt_of_eq (Nat.lt_succ_self _) hzn.symm; clear hzn; (try have hlt := l8.lt); (try replace l8 := l8.below (hbn.mono hle)); (try have hlt := m3.lt); (try replace m3 := m3.below (hbn.mono hle)); (try have hlt := c6.lt); (try replace c6 := c6.below (hbn.mono hle)); (try have hlt := r4.lt); (try replace r4 := r4.below (hbn.mono hle)); (try have hlt := ce.lt); (try replace ce := ce.below (hbn.mono hle)); (try have hlt := p9.lt); (try replace p9 := p9.below (hbn.mono hle)); (try have hlt := t13.lt); (try replace t13 := t13.below (hbn.mono hle)); (try have hlt := t15.lt); (try replace t15 := t15.below (hbn.mono hle)); (try have hlt := rs1.lt); (try replace rs1 := rs1.below (hbn.mono hle)); (try have hlt := rsm.lt); (try replace rsm := rsm.below (hbn.mono hle)); (try have hlt := rc5.lt); (try replace rc5 := rc5.below (hbn.mono hle)); have s1 := ht; clear ht; simp only [putS])
   refine wpList_chunk 1 (by kernel_rfl) ?_
   simp only [takS, Nat.reduceAdd]
   repeat (first | go_big_quiet_skip | (go_big_quiet_want; first | (refine quiet_buildTA0 rfl X Y rfl ?_; simp only [putS]; go_big_quiet_on) | (go_big_quiet_op; go_big_quiet_on)))
   refine wpQuiet_nil ?_
   refine wpList_nil ?_
   refine Only.at ?_
   try dsimp only
   gi_upto_region 12 with fail
   refine round_lit (by kernel_rfl) ?_
   try simp only [gelS]
   refine wpList_chunk 1 (by kernel_rfl) ?_
   simp only [takS, Nat.reduceAdd]
   repeat (first | go_big_quiet_skip | (go_big_quiet_want; first | (refine quiet_buildTA0 rfl X Y rfl ?_; simp only [putS]; go_big_quiet_on) | (go_big_quiet_op; go_big_quiet_on)))
   refine wpQuiet_nil ?_
   refine wpList_nil ?_
   refine Only.at ?_
   try dsimp only
   have rsm := RS.one s1
   have rsm0 := rsm
   gi_upto_region 14 with fail
   refine round_lit (by kernel_rfl) ?_
   try simp only [gelS]
   (refine wpList_allocT' rfl rfl ?_; intro b_t13 wn hle hge ht hbn hzn; have hsz := B.size; replace B := B.trans (hbn.mono (by omega)); have hln := Nat.lt_of_lt_of_eq (Nat.lt_succ_self _) hzn.symm; clear hzn; (try have hlt := l8.lt); (try replace l8 := l8.below (hbn.mono hle)); (try have hlt := m3.lt); (try replace m3 := m3.below (hbn.mono hle)); (try have hlt := c6.lt); (try replace c6 := c6.below (hbn.mono hle)); (try have hlt := r4.lt); (try replace r4 := r4.below (hbn.mono hle)); (try have hlt := ce.lt); (try replace ce := ce.below (hbn.mono hle)); (try have hlt := p9.lt); (try replace p9 := p9.below (hbn.mono hle)); (try have hlt := t13.lt); (try replace t13 := t13.below (hbn.mono hle)); (try have hlt := t15.lt); (try replace t15 := t15.below (hbn.mono hle)); (try have hlt := rs1.lt); (try replace rs1 := rs1.below (hbn.mono hle)); (try have hlt := rsm.lt); (try replace rsm := rsm.below (hbn.mono hle)); (try have hlt := rc5.lt); (try replace rc5 := rc5.below (hbn.mono hle)); have t13 := ht; clear ht; simp only [putS])
   refine wpList_nil ?_
   refine Only.at ?_
   try dsimp only
   have HSEP := Lib.hid (rs_sep rsm0 hle (by simp))
   clear rsm0
   gi_upto_region 15 with fail
   refine round_lit (by kernel_rfl) ?_
   try simp only [gelS]
   refine wpList_chunk 1 (by kernel_rfl) ?_
   simp only [takS, Nat.reduceAdd]
   repeat (first | go_big_quiet_skip | (go_big_quiet_want; first | (refine quiet_buildTA0 rfl X Y rfl ?_; simp only [putS]; go_big_quiet_on) | (go_big_quiet_op; go_big_quiet_on)))
   refine wpQuiet_nil ?_
   (refine wpList_val rfl (.func (.func 132) #[] #[.pointer (some ⟨b_c6, 0, none⟩), .pointer (some ⟨b_m3, 0, none⟩)]) (by first | rfl | simp [go_sem, Act.eval]) ?_; simp only [putS])
   refine wpList_callF (by first | rfl | simp [Region.wanted, yielded]) rfl (enters_of Try.func72 (by kernel_rfl) rfl) (by simp only [Act.eval, evlS]; rfl) ?_
   refine (P_mapPst c FT.out L HL.out OK.out ⟨X, Y, zT⟩ _ _ b_c6 b_m3 b_t13 g o cu _ _ rsm (fun i _ => Px.zero_ok) HWI.out c6 m3 ce t13 HSEP.out).mono ?_
   rintro e wn ⟨a5, cp5, rfl, rs5, hbn⟩
   have hsz := B.size
   have hzn := hbn.size
   replace B := B.trans (hbn.mono B.size)
   (try replace l8 := l8.below hbn)
   (try replace m3 := m3.below hbn)
   (try replace c6 := c6.below hbn)
   (try replace r4 := r4.below hbn)
   (try replace ce := ce.below hbn)
   (try replace p9 := p9.below hbn)
   (try replace t13 := t13.below hbn)
   (try replace t15 := t15.below hbn)
   (try replace rs1 := rs1.below hbn)
   (try replace rsm := rsm.below hbn)
   (try replace rc5 := rc5.below hbn)
   refine ⟨_, rfl, ?_⟩
   simp only [putS]
   refine wpList_lenS (by first | rfl | simp [Region.wanted, yielded]) rfl Try.underlying34 rfl ?_
   simp only [putS]
   refine wpList_chunk 1 (by kernel_rfl) ?_
   simp only [takS, Nat.reduceAdd]
   repeat (first | go_big_quiet_skip | (go_big_quiet_want; first | (refine quiet_buildTA0 rfl X Y rfl ?_; simp only [putS]; go_big_quiet_on) | (go_big_quiet_op; go_big_quiet_on)))
   refine wpQuiet_nil ?_
   refine wpList_nil ?_
   refine Only.at ?_
   try dsimp only
   rw [← hz0.out] at rs5
   simp only [← hz0.out]
   clear rsm HSEP
   cases hz : zeroB (pstT c L X Y (tileL M X Y)) with
   | true =>
    have HN : newA X Y (pstT c L X Y (tileL M X Y)) = [] := by unfold newA; rw [hz]; rfl
    rw [HN] at rs5
    simp only [HN, List.length_nil]
    clear rs5 HN
    have HZ := Lib.hid hz
    clear hz
    gi_wp2
    refine wpIn_loop_rounds 2 ?_
    rw [roundsIn_succ]
    gi_upto_region 16 with fail
    refine round_lit (by kernel_rfl) ?_
    try simp only [gelS]
    refine wpList_chunk 1 (by kernel_rfl) ?_
    simp only [takS, Nat.reduceAdd]
    repeat (first | go_big_quiet_skip | (go_big_quiet_want; first | (refine quiet_buildTA0 rfl X Y rfl ?_; simp only [putS]; go_big_quiet_on) | (go_big_quiet_op; go_big_quiet_on)))
    refine wpQuiet_nil ?_
    refine wpList_nil ?_
    refine Only.at ?_
    try dsimp only
    clear rs1
    have rs1 := RS1W.out.chg L8.out (by simp) B.toChg
    gi_upto_region 20 with fail
    refine round_lit (by kernel_rfl) ?_
    try simp only [gelS]
    refine wpList_chunk 3 (by kernel_rfl) ?_
    simp only [takS, Nat.reduceAdd]
    repeat (first | go_big_quiet_skip | (go_big_quiet_want; first | (refine quiet_loadAny (t := 34) rfl _ _ _ rfl (fun w hw => run_load_sl ((ov_B l8 w hw).cellL 0 rfl)) (by rfl) ?_; simp only [putS]; go_big_quiet_on) | (refine quiet_loadAny (t := 105) rfl _ _ _ rfl (fun w hw => run_load_B (ov_B p9 w hw) Try.isAgg105 (by kernel_rfl)) (by rfl) ?_; simp only [putS]; go_big_quiet_on) | (refine quiet_buildTA0 rfl X Y rfl ?_; simp only [putS]; go_big_quiet_on) | (refine quiet_loadT rfl _ rfl (ov_tile t13) ?_; simp only [putS]; go_big_quiet_on) | (refine quiet_loadAny (t := 103) rfl _ _ _ rfl (fun w hw => ta_tile (ov_B t15 w hw)) (by first | rfl | omega) ?_; simp only [putS]; go_big_quiet_on) | (go_big_quiet_op; go_big_quiet_on)))
    refine wpQuiet_nil ?_
    refine wpList_callF (by first | rfl | simp [Region.wanted, yielded]) rfl (enters_of Try.func117 (by kernel_rfl) rfl) (by simp only [Act.eval, evlS]; rfl) ?_
    refine (P_with _ M X Y (fun _ => Px.zero) _ rs1 SM.out (fun i _ => Px.zero_ok) (by omega)).mono ?_
    rintro e wn ⟨v8, rfl, rs8, hbn⟩
    have hsz := B.size
    have hzn := hbn.size
    replace B := B.trans (hbn.mono B.size)
    (try replace l8 := l8.below hbn)
    (try replace m3 := m3.below hbn)
    (try replace c6 := c6.below hbn)
    (try replace r4 := r4.below hbn)
    (try replace ce := ce.below hbn)
    (try replace p9 := p9.below hbn)
    (try replace t13 := t13.below hbn)
    (try replace t15 := t15.below hbn)
    (try replace rs1 := rs1.below hbn)
    (try replace rc5 := rc5.below hbn)
    obtain ⟨a8, c8, rfl, hc8⟩ := rs8.len
    refine ⟨_, rfl, ?_⟩
    simp only [putS]
    (refine wpList_storeSl rfl _ _ rfl _ rfl _ _ _ rfl l8 ?_; have l8o := l8; clear l8; intro wn ht hcn hzn; (try replace rs8 := rs8.chg l8o (by simp) hcn); have hsz := B.size; replace hzn := Nat.le_of_eq hzn.symm; replace B := Exc.chg B hcn; (try replace m3 := m3.of_eq (hcn.block _ m3.lt (by omega))); (try replace c6 := c6.of_eq (hcn.block _ c6.lt (by omega))); (try replace r4 := r4.of_eq (hcn.block _ r4.lt (by omega))); (try replace ce := ce.of_eq (hcn.block _ ce.lt (by omega))); (try replace p9 := p9.of_eq (hcn.block _ p9.lt (by omega))); (try replace t13 := t13.of_eq (hcn.block _ t13.lt (by omega))); (try replace t15 := t15.of_eq (hcn.block _ t15.lt (by omega))); (try replace rc5 := rc5.of_eq (hcn.block _ rc5.lt (by omega))); have l8 := ht; clear ht; simp only [putS])
    refine wpList_nil ?_
    refine Only.at ?_
    try dsimp only
    gi_wp2
    refine ⟨KeepsOthers.chgB B.toChg L8.out, KpB.chg B.toChg, ?_⟩
    dsimp only
    rw [HNEW.out]
    have e := putL_zero M X Y (t := fun _ => Px.zero) (u := pstT c L X Y (tileL M X Y)) ((zeroB_iff _).2 fun _ _ => rfl) HZ.out
    rw [e] at rs8 l8
    exact ⟨a8, c8, l8, rs8, m3, c6, r4, ce, Chg.below BW B.toChg (by omega) BW.size⟩
   | false =>
    have HN : newA X Y (pstT c L X Y (tileL M X Y)) = [⟨X, Y, pstT c L X Y (tileL M X Y)⟩] := by unfold newA; rw [hz]; rfl
    rw [HN] at rs5
    simp only [HN, List.length_cons, List.length_nil, Nat.zero_add]
    obtain ⟨g5, o5, rfl, rc5⟩ := rs5.at (by simp)
    clear rs5 HN hz
    have hlen1 : 0 < [(⟨X, Y, pstT c L X Y (tileL M X Y)⟩ : TA)].length := by simp
    gi_wp2
    refine wpIn_loop_rounds 2 ?_
    rw [roundsIn_succ]
    gi_upto_region 16 with fail
    refine round_lit (by kernel_rfl) ?_
    try simp only [gelS]
    refine wpList_chunk 1 (by kernel_rfl) ?_
    simp only [takS, Nat.reduceAdd]
    repeat (first | go_big_quiet_skip | (go_big_quiet_want; first | (refine quiet_buildTA0 rfl X Y rfl ?_; simp only [putS]; go_big_quiet_on) | (go_big_quiet_op; go_big_quiet_on)))
    refine wpQuiet_nil ?_
    refine wpList_nil ?_
    refine Only.at ?_
    try dsimp only
    gi_upto_region 17 with fail
    refine round_lit (by kernel_rfl) ?_
    try simp only [gelS]
    refine wpList_chunk 2 (by kernel_rfl) ?_
    simp only [takS, Nat.reduceAdd]
    repeat (first | go_big_quiet_skip | (go_big_quiet_want; first | (refine quiet_buildTA0 rfl X Y rfl ?_; simp only [putS]; go_big_quiet_on) | (refine quiet_loadAny (t := 112) rfl _ _ _ rfl (fun w hw => rc_ta (ov_rc rc5 w hw) hlen1 rfl) (by first | rfl | omega) ?_; simp only [putS]; go_big_quiet_on) | (go_big_quiet_op; go_big_quiet_on)))
    refine wpQuiet_nil ?_
    (refine wpList_allocBk (t := 112) rfl _ (run_alloc_TA _ _ rfl) ?_; intro b_t15 wn hle hge ht hbn hzn; have hsz := B.size; replace B := B.trans (hbn.mono (by omega)); have hln := Nat.lt_of_lt_of_eq (Nat.lt_succ_self _) hzn.symm; clear hzn; (try have hlt := l8.lt); (try replace l8 := l8.below (hbn.mono hle)); (try have hlt := m3.lt); (try replace m3 := m3.below (hbn.mono hle)); (try have hlt := c6.lt); (try replace c6 := c6.below (hbn.mono hle)); (try have hlt := r4.lt); (try replace r4 := r4.below (hbn.mono hle)); (try have hlt := ce.lt); (try replace ce := ce.below (hbn.mono hle)); (try have hlt := p9.lt); (try replace p9 := p9.below (hbn.mono hle)); (try have hlt := t13.lt); (try replace t13 := t13.below (hbn.mono hle)); (try have hlt := t15.lt); (try replace t15 := t15.below (hbn.mono hle)); (try have hlt := rs1.lt); (try replace rs1 := rs1.below (hbn.mono hle)); (try have hlt := rsm.lt); (try have hlt := rc5.lt); have t15 := ht; clear ht; simp only [putS])
    (refine wpList_storeB (t := 112) rfl _ _ rfl _ rfl _ rfl t15 (by rw [size_taC]; kernel_rfl) (by simp only [size_taC, size_zTA]) (taC_all _) ?_; clear t15; intro wn ht hcn hzn; have hsz := B.size; replace hzn := Nat.le_of_eq hzn.symm; replace B := Exc.store B hcn (by omega); (try replace l8 := l8.of_eq (hcn.block _ l8.lt (by omega))); (try replace m3 := m3.of_eq (hcn.block _ m3.lt (by omega))); (try replace c6 := c6.of_eq (hcn.block _ c6.lt (by omega))); (try replace r4 := r4.of_eq (hcn.block _ r4.lt (by omega))); (try replace ce := ce.of_eq (hcn.block _ ce.lt (by omega))); (try replace p9 := p9.of_eq (hcn.block _ p9.lt (by omega))); (try replace t13 := t13.of_eq (hcn.block _ t13.lt (by omega))); (try replace rs1 := rs1.of_eq (hcn.block _ rs1.lt (by omega))); have t15 := ht; clear ht; simp only [putS])
    refine wpList_nil ?_
    refine Only.at ?_
    try dsimp only
    replace t15 : AtB 112 _ b_t15 (taC ⟨X, Y, pstT c L X Y (tileL M X Y)⟩) := t15
    gi_upto_region 18 with fail
    refine round_lit (by kernel_rfl) ?_
    try simp only [gelS]
    refine wpList_chunk 2 (by kernel_rfl) ?_
    simp only [takS, Nat.reduceAdd]
    repeat (first | go_big_quiet_skip | (go_big_quiet_want; first | (refine quiet_buildTA0 rfl X Y rfl ?_; simp only [putS]; go_big_quiet_on) | (refine quiet_loadT rfl _ rfl (ov_tile t13) ?_; simp only [putS]; go_big_quiet_on) | (refine quiet_loadAny (t := 103) rfl _ _ _ rfl (fun w hw => ta_tile (ov_B t15 w hw)) (by first | rfl | omega) ?_; simp only [putS]; go_big_quiet_on) | (go_big_quiet_op; go_big_quiet_on)))
    refine wpQuiet_nil ?_
    (refine wpList_storeT rfl _ _ rfl _ rfl _ rfl t13 ?_; clear t13; intro wn ht hcn hzn; have hsz := B.size; replace hzn := Nat.le_of_eq hzn.symm; replace B := Exc.store B hcn (by omega); (try replace l8 := l8.of_eq (hcn.block _ l8.lt (by omega))); (try replace m3 := m3.of_eq (hcn.block _ m3.lt (by omega))); (try replace c6 := c6.of_eq (hcn.block _ c6.lt (by omega))); (try replace r4 := r4.of_eq (hcn.block _ r4.lt (by omega))); (try replace ce := ce.of_eq (hcn.block _ ce.lt (by omega))); (try replace p9 := p9.of_eq (hcn.block _ p9.lt (by omega))); (try replace t15 := t15.of_eq (hcn.block _ t15.lt (by omega))); (try replace rs1 := rs1.of_eq (hcn.block _ rs1.lt (by omega))); have t13 := ht; clear ht; simp only [putS])
    refine wpList_nil ?_
    refine Only.at ?_
    try dsimp only
    gi_upto_region 19 with fail
    refine round_lit (by kernel_rfl) ?_
    try simp only [gelS]
    refine wpList_chunk 2 (by kernel_rfl) ?_
    simp only [takS, Nat.reduceAdd]
    repeat (first | go_big_quiet_skip | (go_big_quiet_want; first | (refine quiet_buildTA0 rfl X Y rfl ?_; simp only [putS]; go_big_quiet_on) | (go_big_quiet_op; go_big_quiet_on)))
    refine wpQuiet_nil ?_
    refine wpList_nil ?_
    refine Only.at ?_
    try dsimp only
    gi_wp2
    rw [roundsIn_succ]
    gi_upto_region 16 with fail
    refine round_lit (by kernel_rfl) ?_
    try simp only [gelS]
    refine wpList_chunk 1 (by kernel_rfl) ?_
    simp only [takS, Nat.reduceAdd]
    repeat (first | go_big_quiet_skip | (go_big_quiet_want; first | (refine quiet_buildTA0 rfl X Y rfl ?_; simp only [putS]; go_big_quiet_on) | (go_big_quiet_op; go_big_quiet_on)))
    refine wpQuiet_nil ?_
    refine wpList_nil ?_
    refine Only.at ?_
    try dsimp only
    clear rs1
    have rs1 := RS1W.out.chg L8.out (by simp) B.toChg
    gi_upto_region 20 with fail
    refine round_lit (by kernel_rfl) ?_
    try simp only [gelS]
    refine wpList_chunk 3 (by kernel_rfl) ?_
    simp only [takS, Nat.reduceAdd]
    repeat (first | go_big_quiet_skip | (go_big_quiet_want; first | (refine quiet_loadAny (t := 34) rfl _ _ _ rfl (fun w hw => run_load_sl ((ov_B l8 w hw).cellL 0 rfl)) (by rfl) ?_; simp only [putS]; go_big_quiet_on) | (refine quiet_loadAny (t := 105) rfl _ _ _ rfl (fun w hw => run_load_B (ov_B p9 w hw) Try.isAgg105 (by kernel_rfl)) (by rfl) ?_; simp only [putS]; go_big_quiet_on) | (refine quiet_buildTA0 rfl X Y rfl ?_; simp only [putS]; go_big_quiet_on) | (refine quiet_loadT rfl _ rfl (ov_tile t13) ?_; simp only [putS]; go_big_quiet_on) | (refine quiet_loadAny (t := 103) rfl _ _ _ rfl (fun w hw => ta_tile (ov_B t15 w hw)) (by first | rfl | omega) ?_; simp only [putS]; go_big_quiet_on) | (go_big_quiet_op; go_big_quiet_on)))
    refine wpQuiet_nil ?_
    refine wpList_callF (by first | rfl | simp [Region.wanted, yielded]) rfl (enters_of Try.func117 (by kernel_rfl) rfl) (by simp only [Act.eval, evlS]; rfl) ?_
    refine (P_with _ M X Y (pstT c L X Y (tileL M X Y)) _ rs1 SM.out HTT.out (by omega)).mono ?_
    rintro e wn ⟨v8, rfl, rs8, hbn⟩
    have hsz := B.size
    have hzn := hbn.size
    replace B := B.trans (hbn.mono B.size)
    (try replace l8 := l8.below hbn)
    (try replace m3 := m3.below hbn)
    (try replace c6 := c6.below hbn)
    (try replace r4 := r4.below hbn)
    (try replace ce := ce.below hbn)
    (try replace rs1 := rs1.below hbn)
    obtain ⟨a8, c8, rfl, hc8⟩ := rs8.len
    refine ⟨_, rfl, ?_⟩
    simp only [putS]
    (refine wpList_storeSl rfl _ _ rfl _ rfl _ _ _ rfl l8 ?_; have l8o := l8; clear l8; intro wn ht hcn hzn; (try replace rs8 := rs8.chg l8o (by simp) hcn); have hsz := B.size; replace hzn := Nat.le_of_eq hzn.symm; replace B := Exc.chg B hcn; (try replace m3 := m3.of_eq (hcn.block _ m3.lt (by omega))); (try replace c6 := c6.of_eq (hcn.block _ c6.lt (by omega))); (try replace r4 := r4.of_eq (hcn.block _ r4.lt (by omega))); (try replace ce := ce.of_eq (hcn.block _ ce.lt (by omega))); have l8 := ht; clear ht; simp only [putS])
    refine wpList_nil ?_
    refine Only.at ?_
    try dsimp only
    gi_wp2
    refine ⟨KeepsOthers.chgB B.toChg L8.out, KpB.chg B.toChg, ?_⟩
    dsimp only
    rw [HNEW.out]
    exact ⟨a8, c8, l8, rs8, m3, c6, r4, ce, Chg.below BW B.toChg (by omega) BW.size⟩
 case done =>
  have hszB := B.size
  rintro D xs W hD rfl ⟨a, cp, l8, rs1, m3, c6, r4, ce, BW⟩ hDD
  have kd : DefAt W D := hDD
  rw [posF_all] at l8 rs1
  have B := BW
  have hMn := pstL_len c L (posL c) KS
  rw [posL_len] at hMn
  obtain ⟨M, hM⟩ : ∃ M, pstL c L KS (posL c) = M := ⟨_, rfl⟩
  rw [hM] at l8 rs1 hMn
  have HM := Lib.hid hM
  clear hM
  have hwD : w.heap.size ≤ D := by omega
  have hne := kd.ne r4
  clear BW m3 c6 ce hD
  go_upto_region 21 with fail
  by_cases hm : M.length ≤ 1024
  ·have e1 : manyL M = M := if_pos hm
   have e2 : manyE M = 0 := if_pos hm
   refine wp_region_lit ?_
   try simp only [gelS]
   refine wpList_chunk 1 (by kernel_rfl) ?_
   simp only [takS, Nat.reduceAdd]
   repeat (first | go_big_quiet_skip | (go_big_quiet_want; first | (refine quiet_loadAny (t := 34) rfl _ _ _ rfl (fun w hw => run_load_sl ((ov_B l8 w hw).cellL 0 rfl)) (by rfl) ?_; simp only [putS]; go_big_quiet_on) | (go_big_quiet_op; go_big_quiet_on)))
   refine wpQuiet_nil ?_
   refine wpList_callF (by first | rfl | simp [Region.wanted, yielded]) rfl (enters_of Try.func133 (by kernel_rfl) rfl) (by simp only [Act.eval, evlS]; rfl) ?_
   refine (P_CloneO _ M _ rs1 (by omega)).mono ?_
   rintro e wn ⟨v2, b2, rfl, _, _, od2, hbn⟩
   have hsz := B.size
   have hzn := hbn.size
   replace B := B.trans (hbn.mono B.size)
   (try replace l8 := l8.below hbn)
   (try replace r4 := r4.below hbn)
   (try replace kd := kd.below hbn)
   have rs2 := od2.rs
   clear od2
   obtain ⟨a2, c2, rfl, hc2⟩ := rs2.len
   refine ⟨_, rfl, ?_⟩
   simp only [putS]
   refine wpList_callF (by first | rfl | simp [Region.wanted, yielded]) rfl (enters_of Try.func116 (by kernel_rfl) rfl) (by simp only [Act.eval, evlS]; rfl) ?_
   refine (P_made _ _ _ _ (by unfold maxLen; omega)).mono ?_
   rintro e wn ⟨rfl, hbn⟩
   have hsz := B.size
   have hzn := hbn.size
   replace B := B.trans (hbn.mono B.size)
   (try replace l8 := l8.below hbn)
   (try replace r4 := r4.below hbn)
   (try replace kd := kd.below hbn)
   replace rs2 := rs2.below hbn
   rw [if_pos hm]
   refine ⟨_, rfl, ?_⟩
   simp only [putS]
   refine wpList_chunk 2 (by kernel_rfl) ?_
   simp only [takS, Nat.reduceAdd]
   repeat (first | go_big_quiet_skip | (go_big_quiet_want; go_big_quiet_op; go_big_quiet_on))
   refine wpQuiet_nil ?_
   (refine wpList_storeB (t := 36) rfl _ _ rfl _ rfl _ rfl r4 (by kernel_rfl) rfl (by simp [Value.oneCell']) ?_; have r4o := r4; clear r4; intro wn ht hcn hzn; (try replace rs2 := rs2.chg r4o (by simp) hcn); have hsz := B.size; replace hzn := Nat.le_of_eq hzn.symm; replace B := Chg.below B hcn (by omega) B.size; (try replace l8 := l8.of_eq (hcn.block _ l8.lt (by omega))); (try replace kd := kd.of_eq (hcn.block _ kd.lt (by omega))); have r4 := ht; clear ht; simp only [putS])
   refine wpList_chunk 1 (by kernel_rfl) ?_
   simp only [takS, Nat.reduceAdd]
   repeat (first | go_big_quiet_skip | (go_big_quiet_want; go_big_quiet_op; go_big_quiet_on))
   refine wpQuiet_nil ?_
   refine wpList_nil ?_
   go_wp2
   refine ⟨by simp, .inl ⟨_, _, rfl, run_takeDeferred kd, ?_⟩⟩
   refine ⟨_, results_B2 (t := 36) rfl _ _ b_r4 rfl _ rfl ((World.putObj_heap_other (fun e => hne (by omega))).trans r4) Try.isAgg36 (by kernel_rfl), ?_⟩
   have BF := B.trans (belowK_b (w := w) (Nat.le_refl _) wn D _ (.deferred none) hwD kd rfl rfl)
   dsimp only
   rw [HM.out, e1, e2]
   exact ⟨_, _, rfl, rs2.own (grownBy_putObj' _ _ _) (fun r e => by cases e; exact ⟨_, kd, rfl⟩), BF⟩
  ·have e1 : manyL M = [] := if_neg hm
   have e2 : manyE M = 2 := if_neg hm
   refine wp_region_lit ?_
   try simp only [gelS]
   refine wpList_chunk 1 (by kernel_rfl) ?_
   simp only [takS, Nat.reduceAdd]
   repeat (first | go_big_quiet_skip | (go_big_quiet_want; first | (refine quiet_loadAny (t := 34) rfl _ _ _ rfl (fun w hw => run_load_sl ((ov_B l8 w hw).cellL 0 rfl)) (by rfl) ?_; simp only [putS]; go_big_quiet_on) | (go_big_quiet_op; go_big_quiet_on)))
   refine wpQuiet_nil ?_
   refine wpList_callF (by first | rfl | simp [Region.wanted, yielded]) rfl (enters_of Try.func133 (by kernel_rfl) rfl) (by simp only [Act.eval, evlS]; rfl) ?_
   refine (P_CloneO _ M _ rs1 (by omega)).mono ?_
   rintro e wn ⟨v2, b2, rfl, _, _, od2, hbn⟩
   have hsz := B.size
   have hzn := hbn.size
   replace B := B.trans (hbn.mono B.size)
   (try replace r4 := r4.below hbn)
   (try replace kd := kd.below hbn)
   have rs2 := od2.rs
   clear od2
   obtain ⟨a2, c2, rfl, hc2⟩ := rs2.len
   refine ⟨_, rfl, ?_⟩
   simp only [putS]
   refine wpList_callF (by first | rfl | simp [Region.wanted, yielded]) rfl (enters_of Try.func116 (by kernel_rfl) rfl) (by simp only [Act.eval, evlS]; rfl) ?_
   refine (P_made _ _ _ _ (by unfold maxLen; omega)).mono ?_
   rintro e wn ⟨rfl, hbn⟩
   have hsz := B.size
   have hzn := hbn.size
   replace B := B.trans (hbn.mono B.size)
   (try replace r4 := r4.below hbn)
   (try replace kd := kd.below hbn)
   replace rs2 := rs2.below hbn
   rw [if_neg hm]
   refine ⟨_, rfl, ?_⟩
   simp only [putS]
   refine wpList_chunk 2 (by kernel_rfl) ?_
   simp only [takS, Nat.reduceAdd]
   repeat (first | go_big_quiet_skip | (go_big_quiet_want; go_big_quiet_op; go_big_quiet_on))
   refine wpQuiet_nil ?_
   (refine wpList_storeB (t := 36) rfl _ _ rfl _ rfl _ rfl r4 (by kernel_rfl) rfl (by simp [Value.oneCell']) ?_; have r4o := r4; clear r4; intro wn ht hcn hzn; have hsz := B.size; replace hzn := Nat.le_of_eq hzn.symm; replace B := Chg.below B hcn (by omega) B.size; (try replace kd := kd.of_eq (hcn.block _ kd.lt (by omega))); have r4 := ht; clear ht; simp only [putS])
   refine wpList_chunk 1 (by kernel_rfl) ?_
   simp only [takS, Nat.reduceAdd]
   repeat (first | go_big_quiet_skip | (go_big_quiet_want; go_big_quiet_op; go_big_quiet_on))
   refine wpQuiet_nil ?_
   refine wpList_nil ?_
   go_wp2
   refine ⟨by simp, .inl ⟨_, _, rfl, run_takeDeferred kd, ?_⟩⟩
   refine ⟨_, results_B2 (t := 36) rfl _ _ b_r4 rfl _ rfl ((World.putObj_heap_other (fun e => hne (by omega))).trans r4) Try.isAgg36 (by kernel_rfl), ?_⟩
   have BF := B.trans (belowK_b (w := w) (Nat.le_refl _) wn D _ (.deferred none) hwD kd rfl rfl)
   dsimp only
   rw [HM.out, e1, e2]
   exact ⟨_, _, rfl, RS.nil _, BF⟩
end Go.Proofs.Ytamgpfblhlfhaaa
/- The set of an outline (the closure of Outline), its boundary's edges; the reference's in, edge. -/
namespace Go.Proofs.Ytamgpfblhlfhaaa
open Go.RowKit Go.Shelf Pl
set_option linter.unusedVariables false
set_option linter.unusedSimpArgs false
set_option maxRecDepth 20000
/-- The closure of Outline: its raster and its threshold lie in blocks. -/
def InB (r t : Nat) (ls : List TA) (th : Int) (w : World) : Prop := ∃ v, AtB 36 w r #[v] ∧ AtB 3 w t #[.int .i64 th] ∧ RS v ls w
theorem InB.below {r t : Nat} {ls : List TA} {th : Int} {w w' : World} (h : InB r t ls th w) (hb : Below w.heap.size w w') : InB r t ls th w' := by
 obtain ⟨v, h1, h2, h3⟩ := h
 exact ⟨v, AtB.of_eq h1 (hb.block _ (AtB.lt h1)), AtB.of_eq h2 (hb.block _ (AtB.lt h2)), h3.below hb⟩
def fB (r t : Nat) : Value := .func (.func 50) #[] #[.pointer (some ⟨r, 0, none⟩), .pointer (some ⟨t, 0, none⟩)]
theorem P_GetO (v : Value) (ls : List TA) (x y : Int) (pr pg pb pa : Int) (w : World) (h : RS v ls w) (hn : ls.length ≤ maxLen) (hx : (Lit.int .i64 x).wf = true) (hy : (Lit.int .i64 y).wf = true) (e1 : getL ls x y = ⟨pr, pg, pb, pa⟩) : Calls Try.prog 30 #[.agg #[v], .int .i64 x, .int .i64 y] w fun e w' => e = .returned (.agg #[.int .u8 pr, .int .u8 pg, .int .u8 pb, .int .u8 pa]) ∧ Below w.heap.size w w' := by
 have h0 := P_GetR v ls x y w h hn hx hy
 rw [e1] at h0
 exact h0
theorem R_GetO (v : Value) (ls : List TA) (x y : Int) (pr pg pb pa : Int) (w : World) (h : RS v ls w) (hn : ls.length ≤ maxLen) (hx : (Lit.int .i64 x).wf = true) (hy : (Lit.int .i64 y).wf = true) (e1 : getL ls x y = ⟨pr, pg, pb, pa⟩) : Calls Try.prog 104 #[.agg #[v], .int .i64 x, .int .i64 y] w fun e w' => e = .returned (.agg #[.int .u8 pr, .int .u8 pg, .int .u8 pb, .int .u8 pa]) ∧ Below w.heap.size w w' := by
 have h0 := R_GetR v ls x y w h hn hx hy
 rw [e1] at h0
 exact h0
set_option maxHeartbeats 2000000 in
theorem P_in (r t : Nat) (ls : List TA) (th x y : Int) (b : Bool) (w : World) (h : InB r t ls th w) (tk : TokL ls) (hn : ls.length ≤ maxLen) (hx : (Lit.int .i64 x).wf = true) (hy : (Lit.int .i64 y).wf = true) (e : setG ls th x y = b) : Calls Try.prog 50 #[.int .i64 x, .int .i64 y, .pointer (some ⟨r, 0, none⟩), .pointer (some ⟨t, 0, none⟩)] w fun e w' => e = .returned (.bool b) ∧ Below w.heap.size w w' := by
 have B := Below.refl w.heap.size w
 obtain ⟨v, r2, r3, rs⟩ := h
 obtain ⟨⟨pr, pg, pb, pa⟩, hp⟩ : ∃ p, getL ls x y = p := ⟨_, rfl⟩
 have ok := getL_okL tk x y
 rw [hp] at ok
 have o1 : 0 ≤ pa ∧ pa ≤ 255 := ok.2.2.2
 have he : decide (th ≤ pa) = b := by rw [← e]; unfold setG; rw [hp]
 clear e ok
 go_enter Try.func50, Try.ntmps50
 go_upto_region 1 with fail
 try simp only [gelS]
 try have lx_r2 := r2.lt
 try have lx_r3 := r3.lt
 try have lx_rs := rs.lt
 refine wp_region_RL 9 [(3, detS ?v1_3)] (by kernel_rfl) (by kernel_rfl) (by kernel_rfl) ?_
 rotate_left 1
 simp only [takS, Nat.reduceAdd]
 refine wpRL_chunk 3 (by kernel_rfl) ?_
 simp only [takS, Nat.reduceAdd]
 repeat (first | go_big_quiet_skip | (go_big_quiet_want; first | (refine quiet_loadAny (t := 36) rfl _ _ _ rfl (fun w hw => run_load_ras ((ov_B r2 w hw).cell 0 rfl)) (by first | rfl | omega) ?_; simp only [putS]; go_big_quiet_on) | (go_big_quiet_op; go_big_quiet_on)))
 refine wpQuiet_nil ?_
 refine wpRL_callB (by rfl) (by first | rfl | simp [Region.wanted, yielded]) ?_ ?_
 ·intro wn hbn hE Kx hKx
  have hsz := B.size
  have hzn := hbn.size
  replace B := B.trans (hbn.mono B.size)
  (try replace r3 := r3.below hbn)
  (try replace rs := rs.below hbn)
  refine wp_callF rfl (enters_of Try.func30 (by kernel_rfl) rfl) (by simp only [Act.eval, evlS]; rfl) ?_
  refine (P_GetO v ls x y pr pg pb pa _ rs hn hx hy hp).mono ?_
  rintro e wm ⟨rfl, hbm⟩
  refine ⟨_, rfl, ?_⟩
  have hz := hKx () wm trivial hbm
  dsimp only [detS] at hz
  exact hz
 rintro ⟨⟩
 dsimp only [detS]
 simp only [putS]
 refine wpRL_chunk 5 (by kernel_rfl) ?_
 simp only [takS, Nat.reduceAdd]
 repeat (first | go_big_quiet_skip | (go_big_quiet_want; first | (refine quiet_loadAny (t := 3) rfl _ _ _ rfl (fun w hw => run_load_int ((ov_B r3 w hw).cell 0 rfl)) (by first | rfl | omega) ?_; simp only [putS]; go_big_quiet_on) | (go_big_quiet_op; go_big_quiet_on)))
 refine wpQuiet_nil ?_
 refine wpRL_nil ?_
 intro wn hbn hE
 have hsz := B.size
 have hzn := hbn.size
 replace B := B.trans (hbn.mono B.size)
 clear hE
 try simp only [List.drop_succ_cons, List.drop_zero]
 refine NoPan.normal ?_
 go_wp2
 go_ret
 exact ⟨by rw [← he]; try rfl, B⟩
theorem run_load_fn {w : World} {b j : Nat} {f : Fn} {x y : Array Value} (h : w.cell? ⟨b, j, none⟩ = some (.func f x y)) : (Instr.loadAt 78 (.pointer (some ⟨b, j, none⟩))).run Try.prog w = .ok (.func f x y) w := by
 simp [go_sem, h]
set_option maxHeartbeats 4000000 in
theorem P_has (r t : Nat) (ls : List TA) (th x y d : Int) (b : Bool) (w : World) (hI : InB r t ls th w) (tk : TokL ls) (hn : ls.length ≤ maxLen) (hx : -100000 ≤ x ∧ x ≤ 100000) (hy : -100000 ≤ y ∧ y ≤ 100000) (hd : 0 ≤ d ∧ d ≤ 3) (e : hasE (setG ls th) x y d = b) : Calls Try.prog 51 #[.agg #[fB r t], .agg #[.int .i64 x, .int .i64 y, .int .i64 d]] w fun e w' => e = .returned (.bool b) ∧ Below w.heap.size w w' := by
 have B := Below.refl w.heap.size w
 have wx := wf_mk (x := x) (by omega) (by omega)
 have wy := wf_mk (x := y) (by omega) (by omega)
 have wx1 := wf_mk (x := x - 1) (by omega) (by omega)
 have wy1 := wf_mk (x := y - 1) (by omega) (by omega)
 have HE := Lib.hid e
 clear e
 unfold fB
 go_enter Try.func51, Try.ntmps51
 go_upto_region 0 with fail
 refine wp_region_lit ?_
 try simp only [gelS]
 (refine wpList_boxB (t := 80) rfl _ rfl _ rfl ?_; intro b_r2 wn hle hge ht hbn hzn; have hsz := B.size; replace B := B.trans (hbn.mono (by omega)); have hln := Nat.lt_of_lt_of_eq (Nat.lt_succ_self _) hzn.symm; clear hzn; (try have hlt := hI.lt); (try replace hI := hI.below (hbn.mono hle)); have r2 := ht; clear ht; simp only [putS])
 (refine wpList_boxB (t := 83) rfl _ rfl _ rfl ?_; intro b_r3 wn hle hge ht hbn hzn; have hsz := B.size; replace B := B.trans (hbn.mono (by omega)); have hln := Nat.lt_of_lt_of_eq (Nat.lt_succ_self _) hzn.symm; clear hzn; (try have hlt := hI.lt); (try replace hI := hI.below (hbn.mono hle)); (try have hlt := r2.lt); (try replace r2 := r2.below (hbn.mono hle)); have r3 := ht; clear ht; simp only [putS])
 refine wpList_chunk 1 (by kernel_rfl) ?_
 simp only [takS, Nat.reduceAdd]
 repeat (first | go_big_quiet_skip | (go_big_quiet_want; go_big_quiet_op; go_big_quiet_on))
 refine wpQuiet_nil ?_
 refine wpList_nil ?_
 go_upto_region 1 with fail
 try simp only [gelS]
 try have lx_r2 := r2.lt
 try have lx_r3 := r3.lt
 try have lx_hI := hI.lt
 refine wp_region_RL 36 [(7, detS ?v2_7), (14, detS ?v2_14), (23, detS ?v2_23), (31, detS ?v2_31)] (by kernel_rfl) (by kernel_rfl) (by kernel_rfl) ?_
 rotate_left 4
 simp only [takS, Nat.reduceAdd]
 refine wpRL_chunk 7 (by kernel_rfl) ?_
 simp only [takS, Nat.reduceAdd]
 repeat (first | go_big_quiet_skip | (go_big_quiet_want; first | (refine quiet_loadAny (t := 78) rfl _ _ _ rfl (fun w hw => run_load_fn ((ov_B r2 w hw).cellL 0 rfl)) (by first | rfl | omega) ?_; simp only [putS]; go_big_quiet_on) | (refine quiet_loadAny (t := 3) rfl _ _ _ rfl (fun w hw => run_load_int ((ov_B r3 w hw).cellL 0 rfl)) (by first | rfl | omega) ?_; simp only [putS]; go_big_quiet_on) | (refine quiet_loadAny (t := 3) rfl _ _ _ rfl (fun w hw => run_load_int ((ov_B r3 w hw).cellL 1 rfl)) (by first | rfl | omega) ?_; simp only [putS]; go_big_quiet_on) | (refine quiet_loadAny (t := 3) rfl _ _ _ rfl (fun w hw => run_load_int ((ov_B r3 w hw).cellL 2 rfl)) (by first | rfl | omega) ?_; simp only [putS]; go_big_quiet_on) | (go_big_quiet_op; go_big_quiet_on)))
 refine wpQuiet_nil ?_
 refine wpRL_callB (by rfl) (by first | rfl | simp [Region.wanted, yielded]) ?_ ?_
 ·intro wn hbn hE Kx hKx
  have hsz := B.size
  have hzn := hbn.size
  replace B := B.trans (hbn.mono B.size)
  (try replace r2 := r2.below hbn)
  (try replace r3 := r3.below hbn)
  (try replace hI := hI.below hbn)
  refine wp_callV rfl (by simp only [Act.eval, evlS]; rfl) (enters_of Try.func50 (by kernel_rfl) rfl) (by simp only [Act.eval, evlS]; rfl) ?_
  refine (P_in r t ls th (x - 1) (y) _ _ hI tk hn wx1 wy rfl).mono ?_
  rintro e wm ⟨rfl, hbm⟩
  refine ⟨_, rfl, ?_⟩
  have hz := hKx () wm trivial hbm
  dsimp only [detS] at hz
  exact hz
 rintro ⟨⟩
 dsimp only [detS]
 simp only [putS]
 refine wpRL_chunk 6 (by kernel_rfl) ?_
 simp only [takS, Nat.reduceAdd]
 repeat (first | go_big_quiet_skip | (go_big_quiet_want; first | (refine quiet_loadAny (t := 78) rfl _ _ _ rfl (fun w hw => run_load_fn ((ov_B r2 w hw).cellL 0 rfl)) (by first | rfl | omega) ?_; simp only [putS]; go_big_quiet_on) | (refine quiet_loadAny (t := 3) rfl _ _ _ rfl (fun w hw => run_load_int ((ov_B r3 w hw).cellL 0 rfl)) (by first | rfl | omega) ?_; simp only [putS]; go_big_quiet_on) | (refine quiet_loadAny (t := 3) rfl _ _ _ rfl (fun w hw => run_load_int ((ov_B r3 w hw).cellL 1 rfl)) (by first | rfl | omega) ?_; simp only [putS]; go_big_quiet_on) | (refine quiet_loadAny (t := 3) rfl _ _ _ rfl (fun w hw => run_load_int ((ov_B r3 w hw).cellL 2 rfl)) (by first | rfl | omega) ?_; simp only [putS]; go_big_quiet_on) | (go_big_quiet_op; go_big_quiet_on)))
 refine wpQuiet_nil ?_
 refine wpRL_callB (by rfl) (by first | rfl | simp [Region.wanted, yielded]) ?_ ?_
 ·intro wn hbn hE Kx hKx
  have hsz := B.size
  have hzn := hbn.size
  replace B := B.trans (hbn.mono B.size)
  (try replace r2 := r2.below hbn)
  (try replace r3 := r3.below hbn)
  (try replace hI := hI.below hbn)
  refine wp_callV rfl (by simp only [Act.eval, evlS]; rfl) (enters_of Try.func50 (by kernel_rfl) rfl) (by simp only [Act.eval, evlS]; rfl) ?_
  refine (P_in r t ls th (x) (y) _ _ hI tk hn wx wy rfl).mono ?_
  rintro e wm ⟨rfl, hbm⟩
  refine ⟨_, rfl, ?_⟩
  have hz := hKx () wm trivial hbm
  dsimp only [detS] at hz
  exact hz
 rintro ⟨⟩
 dsimp only [detS]
 simp only [putS]
 refine wpRL_chunk 8 (by kernel_rfl) ?_
 simp only [takS, Nat.reduceAdd]
 repeat (first | go_big_quiet_skip | (go_big_quiet_want; first | (refine quiet_loadAny (t := 78) rfl _ _ _ rfl (fun w hw => run_load_fn ((ov_B r2 w hw).cellL 0 rfl)) (by first | rfl | omega) ?_; simp only [putS]; go_big_quiet_on) | (refine quiet_loadAny (t := 3) rfl _ _ _ rfl (fun w hw => run_load_int ((ov_B r3 w hw).cellL 0 rfl)) (by first | rfl | omega) ?_; simp only [putS]; go_big_quiet_on) | (refine quiet_loadAny (t := 3) rfl _ _ _ rfl (fun w hw => run_load_int ((ov_B r3 w hw).cellL 1 rfl)) (by first | rfl | omega) ?_; simp only [putS]; go_big_quiet_on) | (refine quiet_loadAny (t := 3) rfl _ _ _ rfl (fun w hw => run_load_int ((ov_B r3 w hw).cellL 2 rfl)) (by first | rfl | omega) ?_; simp only [putS]; go_big_quiet_on) | (go_big_quiet_op; go_big_quiet_on)))
 refine wpQuiet_nil ?_
 refine wpRL_callB (by rfl) (by first | rfl | simp [Region.wanted, yielded]) ?_ ?_
 ·intro wn hbn hE Kx hKx
  have hsz := B.size
  have hzn := hbn.size
  replace B := B.trans (hbn.mono B.size)
  (try replace r2 := r2.below hbn)
  (try replace r3 := r3.below hbn)
  (try replace hI := hI.below hbn)
  refine wp_callV rfl (by simp only [Act.eval, evlS]; rfl) (enters_of Try.func50 (by kernel_rfl) rfl) (by simp only [Act.eval, evlS]; rfl) ?_
  refine (P_in r t ls th (x - 1) (y - 1) _ _ hI tk hn wx1 wy1 rfl).mono ?_
  rintro e wm ⟨rfl, hbm⟩
  refine ⟨_, rfl, ?_⟩
  have hz := hKx () wm trivial hbm
  dsimp only [detS] at hz
  exact hz
 rintro ⟨⟩
 dsimp only [detS]
 simp only [putS]
 refine wpRL_chunk 7 (by kernel_rfl) ?_
 simp only [takS, Nat.reduceAdd]
 repeat (first | go_big_quiet_skip | (go_big_quiet_want; first | (refine quiet_loadAny (t := 78) rfl _ _ _ rfl (fun w hw => run_load_fn ((ov_B r2 w hw).cellL 0 rfl)) (by first | rfl | omega) ?_; simp only [putS]; go_big_quiet_on) | (refine quiet_loadAny (t := 3) rfl _ _ _ rfl (fun w hw => run_load_int ((ov_B r3 w hw).cellL 0 rfl)) (by first | rfl | omega) ?_; simp only [putS]; go_big_quiet_on) | (refine quiet_loadAny (t := 3) rfl _ _ _ rfl (fun w hw => run_load_int ((ov_B r3 w hw).cellL 1 rfl)) (by first | rfl | omega) ?_; simp only [putS]; go_big_quiet_on) | (refine quiet_loadAny (t := 3) rfl _ _ _ rfl (fun w hw => run_load_int ((ov_B r3 w hw).cellL 2 rfl)) (by first | rfl | omega) ?_; simp only [putS]; go_big_quiet_on) | (go_big_quiet_op; go_big_quiet_on)))
 refine wpQuiet_nil ?_
 refine wpRL_callB (by rfl) (by first | rfl | simp [Region.wanted, yielded]) ?_ ?_
 ·intro wn hbn hE Kx hKx
  have hsz := B.size
  have hzn := hbn.size
  replace B := B.trans (hbn.mono B.size)
  (try replace r3 := r3.below hbn)
  (try replace hI := hI.below hbn)
  refine wp_callV rfl (by simp only [Act.eval, evlS]; rfl) (enters_of Try.func50 (by kernel_rfl) rfl) (by simp only [Act.eval, evlS]; rfl) ?_
  refine (P_in r t ls th (x) (y - 1) _ _ hI tk hn wx wy1 rfl).mono ?_
  rintro e wm ⟨rfl, hbm⟩
  refine ⟨_, rfl, ?_⟩
  have hz := hKx () wm trivial hbm
  dsimp only [detS] at hz
  exact hz
 rintro ⟨⟩
 dsimp only [detS]
 simp only [putS]
 refine wpRL_chunk 4 (by kernel_rfl) ?_
 simp only [takS, Nat.reduceAdd]
 repeat (first | go_big_quiet_skip | (go_big_quiet_want; go_big_quiet_op; go_big_quiet_on))
 refine wpQuiet_nil ?_
 refine wpRL_nil ?_
 intro wn hbn hE
 have hsz := B.size
 have hzn := hbn.size
 replace B := B.trans (hbn.mono B.size)
 (try replace r3 := r3.below hbn)
 clear hE
 try simp only [List.drop_succ_cons, List.drop_zero]
 refine NoPan.normal ?_
 go_upto_region 2 with fail
 have he := Lib.hid (show outD (setG ls th (x - 1) (y - 1)) (setG ls th x (y - 1)) (setG ls th (x - 1) y) (setG ls th x y) d = b from HE.out)
 generalize setG ls th (x - 1) y = b1 at *
 generalize setG ls th x y = b2 at *
 generalize setG ls th (x - 1) (y - 1) = b3 at *
 generalize setG ls th x (y - 1) = b4 at *
 clear HE wx wy wx1 wy1 hx hy
 cases b1 <;> cases b2 <;> cases b3 <;> cases b4 <;> (
  refine wp_region_lit ?_
  try simp only [gelS]
  refine wpList_chunk 23 (by kernel_rfl) ?_
  simp only [takS, Nat.reduceAdd]
  repeat (first | go_big_quiet_skip | (go_big_quiet_want; first | (refine quiet_loadAny (t := 3) rfl _ _ _ rfl (fun w hw => run_load_int ((ov_B r3 w hw).cellL 2 rfl)) (by first | rfl | omega) ?_; simp only [putS]; go_big_quiet_on) | (go_big_quiet_op; go_big_quiet_on)))
  refine wpQuiet_nil ?_
  rcases dir4 hd with rfl | rfl | rfl | rfl <;> (
   refine wpList_val rfl (.bool b) (by rw [← he.out]; kernel_rfl) ?_
   simp only [putS]
   try simp only [gelS]
   refine wpList_chunk 1 (by kernel_rfl) ?_
   simp only [takS, Nat.reduceAdd]
   repeat (first | go_big_quiet_skip | (go_big_quiet_want; go_big_quiet_op; go_big_quiet_on))
   refine wpQuiet_nil ?_
   refine wpList_nil ?_
   go_wp2
   go_ret
   exact ⟨rfl, B⟩))
/- The end of an edge; the reference's in, edge. -/
section
variable {o : Oper} {a : Act} {C : World → Prop} {K : Act → Prop}
theorem quiet_indexA {t : TypeId} {x i : Operand} (h : o.op = .index t x i) (vs : Array Value) (hx : a.eval x = .agg vs) (j : Int) (hi : a.eval i = .int .i64 j) (u : Value) (hr : ∀ w, (Instr.index t (.agg vs) (.int .i64 j)).run Try.prog w = .ok u w) (hk : K (a.put o.dst u)) : o.quiet Try.prog a C K :=
 ⟨_, fun w hw => by unfold Oper.quietAt execOp; simp only [h, hx, hi, hr w, Sem.run_bind, Sem.run_pure, Result.andThen_ok]; exact ⟨rfl, rfl⟩, hk⟩
end
set_option maxHeartbeats 2000000 in
theorem P_on (x y d : Int) (w : World) (hx : -100000 ≤ x ∧ x ≤ 100000) (hy : -100000 ≤ y ∧ y ≤ 100000) (hd : 0 ≤ d ∧ d ≤ 3) : Calls Try.prog 97 #[.agg #[.int .i64 x, .int .i64 y, .int .i64 d]] w fun e w' => e = .returned (.tuple #[.int .i64 (x + dxE d), .int .i64 (y + dyE d)]) ∧ Below w.heap.size w w' := by
 have B := Below.refl w.heap.size w
 rcases dir4 hd with rfl | rfl | rfl | rfl
 ·go_enter Try.func97, Try.ntmps97
  go_upto_region 0 with fail
  refine wp_region_lit ?_
  try simp only [gelS]
  (refine wpList_boxB (t := 83) rfl _ rfl _ rfl ?_; intro b_r1 wn hle hge ht hbn hzn; have hsz := B.size; replace B := B.trans (hbn.mono (by omega)); have hln := Nat.lt_of_lt_of_eq (Nat.lt_succ_self _) hzn.symm; clear hzn; have r1 := ht; clear ht; simp only [putS])
  refine wpList_chunk 2 (by kernel_rfl) ?_
  simp only [takS, Nat.reduceAdd]
  repeat (first | go_big_quiet_skip | (go_big_quiet_want; go_big_quiet_op; go_big_quiet_on))
  refine wpQuiet_nil ?_
  refine wpList_nil ?_
  go_upto_region 1 with fail
  try simp only [gelS]
  try have lx_r1 := r1.lt
  refine wp_region_RL 16 [] (by kernel_rfl) (by kernel_rfl) (by kernel_rfl) ?_
  rotate_left 0
  simp only [takS, Nat.reduceAdd]
  refine wpRL_chunk 16 (by kernel_rfl) ?_
  simp only [takS, Nat.reduceAdd]
  repeat (first | go_big_quiet_skip | (go_big_quiet_want; first | (refine quiet_loadAny (t := 3) rfl _ _ _ rfl (fun w hw => run_load_int ((ov_B r1 w hw).cellL 0 rfl)) (by first | rfl | omega) ?_; simp only [putS]; go_big_quiet_on) | (refine quiet_loadAny (t := 3) rfl _ _ _ rfl (fun w hw => run_load_int ((ov_B r1 w hw).cellL 1 rfl)) (by first | rfl | omega) ?_; simp only [putS]; go_big_quiet_on) | (refine quiet_loadAny (t := 3) rfl _ _ _ rfl (fun w hw => run_load_int ((ov_B r1 w hw).cellL 2 rfl)) (by first | rfl | omega) ?_; simp only [putS]; go_big_quiet_on) | (refine quiet_indexA rfl #[.int .i64 1, .int .i64 0, .int .i64 (-1), .int .i64 0] rfl _ rfl (.int .i64 (1)) (fun w => by kernel_rfl) ?_; simp only [putS]; go_big_quiet_on) | (refine quiet_indexA rfl #[.int .i64 0, .int .i64 1, .int .i64 0, .int .i64 (-1)] rfl _ rfl (.int .i64 (0)) (fun w => by kernel_rfl) ?_; simp only [putS]; go_big_quiet_on) | (go_big_quiet_op; go_big_quiet_on)))
  refine wpQuiet_nil ?_
  refine wpRL_nil ?_
  intro wn hbn hE
  have hsz := B.size
  have hzn := hbn.size
  replace B := B.trans (hbn.mono B.size)
  (try replace r1 := r1.below hbn)
  clear hE
  try simp only [List.drop_succ_cons, List.drop_zero]
  refine NoPan.normal ?_
  go_wp2
  go_ret2
  exact ⟨by simp [dxE, dyE] <;> omega, B⟩
 ·go_enter Try.func97, Try.ntmps97
  go_upto_region 0 with fail
  refine wp_region_lit ?_
  try simp only [gelS]
  (refine wpList_boxB (t := 83) rfl _ rfl _ rfl ?_; intro b_r1 wn hle hge ht hbn hzn; have hsz := B.size; replace B := B.trans (hbn.mono (by omega)); have hln := Nat.lt_of_lt_of_eq (Nat.lt_succ_self _) hzn.symm; clear hzn; have r1 := ht; clear ht; simp only [putS])
  refine wpList_chunk 2 (by kernel_rfl) ?_
  simp only [takS, Nat.reduceAdd]
  repeat (first | go_big_quiet_skip | (go_big_quiet_want; go_big_quiet_op; go_big_quiet_on))
  refine wpQuiet_nil ?_
  refine wpList_nil ?_
  go_upto_region 1 with fail
  try simp only [gelS]
  try have lx_r1 := r1.lt
  refine wp_region_RL 16 [] (by kernel_rfl) (by kernel_rfl) (by kernel_rfl) ?_
  rotate_left 0
  simp only [takS, Nat.reduceAdd]
  refine wpRL_chunk 16 (by kernel_rfl) ?_
  simp only [takS, Nat.reduceAdd]
  repeat (first | go_big_quiet_skip | (go_big_quiet_want; first | (refine quiet_loadAny (t := 3) rfl _ _ _ rfl (fun w hw => run_load_int ((ov_B r1 w hw).cellL 0 rfl)) (by first | rfl | omega) ?_; simp only [putS]; go_big_quiet_on) | (refine quiet_loadAny (t := 3) rfl _ _ _ rfl (fun w hw => run_load_int ((ov_B r1 w hw).cellL 1 rfl)) (by first | rfl | omega) ?_; simp only [putS]; go_big_quiet_on) | (refine quiet_loadAny (t := 3) rfl _ _ _ rfl (fun w hw => run_load_int ((ov_B r1 w hw).cellL 2 rfl)) (by first | rfl | omega) ?_; simp only [putS]; go_big_quiet_on) | (refine quiet_indexA rfl #[.int .i64 1, .int .i64 0, .int .i64 (-1), .int .i64 0] rfl _ rfl (.int .i64 (0)) (fun w => by kernel_rfl) ?_; simp only [putS]; go_big_quiet_on) | (refine quiet_indexA rfl #[.int .i64 0, .int .i64 1, .int .i64 0, .int .i64 (-1)] rfl _ rfl (.int .i64 (1)) (fun w => by kernel_rfl) ?_; simp only [putS]; go_big_quiet_on) | (go_big_quiet_op; go_big_quiet_on)))
  refine wpQuiet_nil ?_
  refine wpRL_nil ?_
  intro wn hbn hE
  have hsz := B.size
  have hzn := hbn.size
  replace B := B.trans (hbn.mono B.size)
  (try replace r1 := r1.below hbn)
  clear hE
  try simp only [List.drop_succ_cons, List.drop_zero]
  refine NoPan.normal ?_
  go_wp2
  go_ret2
  exact ⟨by simp [dxE, dyE] <;> omega, B⟩
 ·go_enter Try.func97, Try.ntmps97
  go_upto_region 0 with fail
  refine wp_region_lit ?_
  try simp only [gelS]
  (refine wpList_boxB (t := 83) rfl _ rfl _ rfl ?_; intro b_r1 wn hle hge ht hbn hzn; have hsz := B.size; replace B := B.trans (hbn.mono (by omega)); have hln := Nat.lt_of_lt_of_eq (Nat.lt_succ_self _) hzn.symm; clear hzn; have r1 := ht; clear ht; simp only [putS])
  refine wpList_chunk 2 (by kernel_rfl) ?_
  simp only [takS, Nat.reduceAdd]
  repeat (first | go_big_quiet_skip | (go_big_quiet_want; go_big_quiet_op; go_big_quiet_on))
  refine wpQuiet_nil ?_
  refine wpList_nil ?_
  go_upto_region 1 with fail
  try simp only [gelS]
  try have lx_r1 := r1.lt
  refine wp_region_RL 16 [] (by kernel_rfl) (by kernel_rfl) (by kernel_rfl) ?_
  rotate_left 0
  simp only [takS, Nat.reduceAdd]
  refine wpRL_chunk 16 (by kernel_rfl) ?_
  simp only [takS, Nat.reduceAdd]
  repeat (first | go_big_quiet_skip | (go_big_quiet_want; first | (refine quiet_loadAny (t := 3) rfl _ _ _ rfl (fun w hw => run_load_int ((ov_B r1 w hw).cellL 0 rfl)) (by first | rfl | omega) ?_; simp only [putS]; go_big_quiet_on) | (refine quiet_loadAny (t := 3) rfl _ _ _ rfl (fun w hw => run_load_int ((ov_B r1 w hw).cellL 1 rfl)) (by first | rfl | omega) ?_; simp only [putS]; go_big_quiet_on) | (refine quiet_loadAny (t := 3) rfl _ _ _ rfl (fun w hw => run_load_int ((ov_B r1 w hw).cellL 2 rfl)) (by first | rfl | omega) ?_; simp only [putS]; go_big_quiet_on) | (refine quiet_indexA rfl #[.int .i64 1, .int .i64 0, .int .i64 (-1), .int .i64 0] rfl _ rfl (.int .i64 (-1)) (fun w => by kernel_rfl) ?_; simp only [putS]; go_big_quiet_on) | (refine quiet_indexA rfl #[.int .i64 0, .int .i64 1, .int .i64 0, .int .i64 (-1)] rfl _ rfl (.int .i64 (0)) (fun w => by kernel_rfl) ?_; simp only [putS]; go_big_quiet_on) | (go_big_quiet_op; go_big_quiet_on)))
  refine wpQuiet_nil ?_
  refine wpRL_nil ?_
  intro wn hbn hE
  have hsz := B.size
  have hzn := hbn.size
  replace B := B.trans (hbn.mono B.size)
  (try replace r1 := r1.below hbn)
  clear hE
  try simp only [List.drop_succ_cons, List.drop_zero]
  refine NoPan.normal ?_
  go_wp2
  go_ret2
  exact ⟨by simp [dxE, dyE] <;> omega, B⟩
 ·go_enter Try.func97, Try.ntmps97
  go_upto_region 0 with fail
  refine wp_region_lit ?_
  try simp only [gelS]
  (refine wpList_boxB (t := 83) rfl _ rfl _ rfl ?_; intro b_r1 wn hle hge ht hbn hzn; have hsz := B.size; replace B := B.trans (hbn.mono (by omega)); have hln := Nat.lt_of_lt_of_eq (Nat.lt_succ_self _) hzn.symm; clear hzn; have r1 := ht; clear ht; simp only [putS])
  refine wpList_chunk 2 (by kernel_rfl) ?_
  simp only [takS, Nat.reduceAdd]
  repeat (first | go_big_quiet_skip | (go_big_quiet_want; go_big_quiet_op; go_big_quiet_on))
  refine wpQuiet_nil ?_
  refine wpList_nil ?_
  go_upto_region 1 with fail
  try simp only [gelS]
  try have lx_r1 := r1.lt
  refine wp_region_RL 16 [] (by kernel_rfl) (by kernel_rfl) (by kernel_rfl) ?_
  rotate_left 0
  simp only [takS, Nat.reduceAdd]
  refine wpRL_chunk 16 (by kernel_rfl) ?_
  simp only [takS, Nat.reduceAdd]
  repeat (first | go_big_quiet_skip | (go_big_quiet_want; first | (refine quiet_loadAny (t := 3) rfl _ _ _ rfl (fun w hw => run_load_int ((ov_B r1 w hw).cellL 0 rfl)) (by first | rfl | omega) ?_; simp only [putS]; go_big_quiet_on) | (refine quiet_loadAny (t := 3) rfl _ _ _ rfl (fun w hw => run_load_int ((ov_B r1 w hw).cellL 1 rfl)) (by first | rfl | omega) ?_; simp only [putS]; go_big_quiet_on) | (refine quiet_loadAny (t := 3) rfl _ _ _ rfl (fun w hw => run_load_int ((ov_B r1 w hw).cellL 2 rfl)) (by first | rfl | omega) ?_; simp only [putS]; go_big_quiet_on) | (refine quiet_indexA rfl #[.int .i64 1, .int .i64 0, .int .i64 (-1), .int .i64 0] rfl _ rfl (.int .i64 (0)) (fun w => by kernel_rfl) ?_; simp only [putS]; go_big_quiet_on) | (refine quiet_indexA rfl #[.int .i64 0, .int .i64 1, .int .i64 0, .int .i64 (-1)] rfl _ rfl (.int .i64 (-1)) (fun w => by kernel_rfl) ?_; simp only [putS]; go_big_quiet_on) | (go_big_quiet_op; go_big_quiet_on)))
  refine wpQuiet_nil ?_
  refine wpRL_nil ?_
  intro wn hbn hE
  have hsz := B.size
  have hzn := hbn.size
  replace B := B.trans (hbn.mono B.size)
  clear hE
  try simp only [List.drop_succ_cons, List.drop_zero]
  refine NoPan.normal ?_
  go_wp2
  go_ret2
  exact ⟨by simp [dxE, dyE] <;> omega, B⟩
end Go.Proofs.Ytamgpfblhlfhaaa
/- A range over an iterator that keeps a block of its own and writes it between two rounds; a body that writes a map. Marks of several such statements. -/
namespace Go.Proofs.Ytamgpfblhlfhaaa
open Go Go.RowKit
set_option linter.unusedVariables false
set_option linter.unusedSimpArgs false
/-- The turn of block c is borne. -/
def AbidesOwn {β : Type} (c : Nat) (J : β → World → Prop) : Prop :=
 ∀ s W W' row, J s W → W.grownBy W' row → (∀ r, row = some r → r = c) → J s W'
theorem AbidesOwn.below {β : Type} {c : Nat} {J : β → World → Prop} (h : AbidesOwn c J) {s : β} {W W' : World} (hs : J s W) (hb : Below W.heap.size W W') : J s W' :=
 h s W W' none hs (grown_of_below hb) (fun r e => by cases e)
/-- An iterator whose call lays a block of its own first: what it hands over, each time what Al says. -/
def SeqOwn {α : Type} (F : Fence) (n : Nat) (P : Program) (g : Nat) (lb : Array Value) (encs : α → Array Value) (Kp : Nat → World → World → Prop) (S : List α → Prop) (Al : List α → α → Prop) (w : World) : Prop :=
 ∀ (l : Nat) (J : List α → World → Prop) (W : World), Below w.heap.size w W → AbidesOwn W.heap.size J →
  (∀ pre x W1, J pre W1 → Al pre x → W.heap.size < W1.heap.size → YieldAt F (n - 1) P l (encs x) W1 fun e W' => e = .returned (.bool true) ∧ J (pre ++ [x]) W' ∧ Kp W.heap.size W1 W') →
  J [] W →
  CallsIn F n P g (#[.func (.yield l) #[] #[]] ++ lb) W fun e W' => (∃ v, e = .returned v) ∧ ∃ xs, S xs ∧ J xs W'
/-- How the body of a round is left: it goes on; the two blocks from B on lie as they lay. -/
def ownPostT {α : Type} (B : Nat) (Kp : World → World → Prop) (I : List α → World → Prop) (xs : List α) (W : World) : Exit → Act → World → Prop
 | .normal, _, W' => (∀ k o, B ≤ k → k < B + 2 → W.heap[k]? = some o → W'.heap[k]? = some o) ∧ Kp W W' ∧ I xs W'
 | _, _, _ => False
section
variable {F : Fence} {n : Nat} {P : Program}
theorem rangeFunc_own {α : Type} {g : Operand} {ps : Array Tmp} {assign body : Code} {Q : Exit → Act → World → Prop} {a : Act} {w : World}
  (hro : F.round = none) (h1 : 1 ≤ n) {gf : Nat} {lb : Array Value} (hg : a.eval g = .func (.func gf) #[] lb) (hFg : F.fn gf) (eg : ∀ args w, (callFunc gf args).run P w = .ok (.enter gf args) w)
  {encs : α → Array Value} {Kp : Nat → World → World → Prop} {S : List α → Prop} {Al : List α → α → Prop} {w0 : World} (hseq : SeqOwn F (n - 1) P gf lb encs Kp S Al w0)
  (hKt : ∀ {A B C : World}, Kp (w.heap.size + 2) A B → Kp (w.heap.size + 2) B C → Kp (w.heap.size + 2) A C) (hKb : ∀ (W : World) (l : Nat) (o o' : Obj), W.heap[l]? = some o → o.isCells = false → Kp (w.heap.size + 2) W (W.putObj l o'))
  (hKg : ∀ (A B : World), Below A.heap.size A B → Kp (w.heap.size + 2) A B) (hb0 : Below w0.heap.size w0 w) (hps : ∀ x, (encs x).size = ps.size)
  (I : List α → World → Prop) (hI : OwnFrom w.heap.size I) (hIo : AbidesOwn (w.heap.size + 2) I) (h0 : I [] w) (As : α → Act → World → Prop) (hAs : ∀ x, OwnFrom w.heap.size (As x))
  (hassign : ∀ (l : Nat) (pre : List α) (x : α) (W : World) (K : Act → World → Prop), I pre W → w.heap.size + 2 < W.heap.size → (∀ a' W', Below W.heap.size W W' → As x a' W' → K a' W') →
   assign.wpIn (F.inRound l) (n - 1 - 1) P (Exit.then K (fun _ _ _ => False)) { tmps := (ps.zip (encs x)).foldl (fun t (p, v) => t.setIfInBounds p v) a.tmps, defers := [] } W)
  (hbody : ∀ (l : Nat) (pre : List α) (x : α) (W : World) (a' : Act), I pre W → As x a' W → Al pre x → w.heap.size + 2 < W.heap.size → body.wpIn (F.inRound l) (n - 1 - 1) P (ownPostT w.heap.size (Kp (w.heap.size + 2)) I (pre ++ [x]) W) a' W)
  (hdone : ∀ (D : Nat) (xs : List α) (W : World), w.heap.size ≤ D → S xs → I xs W → W.heap[D]? = some (.deferred (some [])) → Q .normal { a with defers := { target := .collected D, args := #[] } :: a.defers } W) :
  (Code.rangeFunc g ps assign body).wpIn F n P Q a w := by
 refine wpIn_rangeFunc fun fn hfn => ?_
 rw [hro]
 obtain ⟨rc, hrc⟩ : ∃ rc : LoopState → Option Code → Loop, rc = fun st pe => { state := st, pending := pe, fn, tmps := a.tmps, params := ps, assign, body, defers := w.heap.size } := ⟨_, rfl⟩
 obtain ⟨W1, hW1⟩ : ∃ W1, (w.alloc (.deferred (some []))).alloc (.loop (rc .ready none)) = W1 := ⟨_, rfl⟩
 have blkL : W1.heap[w.heap.size + 1]? = some (.loop (rc .ready none)) := by
  have := World.alloc_heap_new (w.alloc (.deferred (some []))) (.loop (rc .ready none))
  rw [← hW1]
  rwa [World.size_alloc] at this
 have blkD : W1.heap[w.heap.size]? = some (.deferred (some [])) := by
  rw [← hW1]
  exact (Below.heap_alloc _ _ _ (by simp)).trans (World.alloc_heap_new w _)
 have grown : Below w0.heap.size w0 W1 := by
  rw [← hW1]
  exact hb0.trans ((((Below.refl _ w).alloc (Nat.le_refl _) _).alloc (by simp) _).mono hb0.size)
 have szW1 : W1.heap.size = w.heap.size + 2 := by rw [← hW1]; simp [World.size_alloc]
 have start : I [] W1 := by rw [← hW1]; exact hI.alloc _ (hI.alloc _ h0)
 refine ⟨w.heap.size + 1, [{ target := .collected w.heap.size, args := #[] }], W1, { target := .fn (.func gf) lb, args := #[.func (.yield (w.heap.size + 1)) #[] #[]] }, W1, gf,
  #[.func (.yield (w.heap.size + 1)) #[] #[]] ++ lb, W1, ?_, ?_, ?_, ?_, fun _ => h1, ?_⟩
 ·rw [← hW1, hrc]; exact run_enterLoop_outer _ _ _ _ _
 ·simp only [resolve, hg]
  simp [go_sem]
 ·intro f' hf'
  simp [Target.leads] at hf'
  subst hf'
  exact hFg
 ·simp [invoke, go_sem, eg]
 refine (hseq (w.heap.size + 1)
  (fun pre W => I pre W ∧ W.heap[w.heap.size + 1]? = some (.loop (rc .ready none)) ∧ W.heap[w.heap.size]? = some (.deferred (some [])))
  W1 grown
  (fun s A B row hs hg' hr => ⟨hIo s A B row hs.1 hg' (fun r e => (hr r e).trans szW1), (hg'.block _ (Array.getElem?_eq_some_iff.1 hs.2.1).1 (fun e => by have := hr _ e.symm; omega)).trans hs.2.1, (hg'.block _ (Array.getElem?_eq_some_iff.1 hs.2.2).1 (fun e => by have := hr _ e.symm; omega)).trans hs.2.2⟩)
  ?_ ⟨start, blkL, blkD⟩).mono ?_
 ·rintro pre x W ⟨hi, hl, hk⟩ hal hgt
  rw [szW1] at hgt ⊢
  have hy := run_yield (P := P) (args := encs x) hl (by rw [hrc]; exact hps x)
  rw [hrc] at hy
  refine ⟨fn, _, assign, body, hy, roundIn_of_wpIn hfn (hassign _ pre x W _ hi hgt fun a' V hb ha => ?_)⟩
  have hlV : V.heap[w.heap.size + 1]? = some (.loop (rc .ready none)) := (hb.block _ (Array.getElem?_eq_some_iff.1 hl).1).trans hl
  have hkV : V.heap[w.heap.size]? = some (.deferred (some [])) := (hb.block _ (Array.getElem?_eq_some_iff.1 hk).1).trans hk
  have hiV : I pre V := hI pre W V none hi (grown_of_below hb) (fun r e => by cases e)
  refine ⟨_, run_beginRound hlV (by rw [hrc]), ?_⟩
  obtain ⟨V1, hV1⟩ : ∃ V1, V.putObj (w.heap.size + 1) (.loop { rc .ready none with state := .busy }) = V1 := ⟨_, rfl⟩
  have hl1 : V1.heap[w.heap.size + 1]? = some (.loop { rc .ready none with state := .busy }) := by rw [← hV1]; exact World.putObj_heap_same (Array.getElem?_eq_some_iff.1 hlV).1
  have hk1 : V1.heap[w.heap.size]? = some (.deferred (some [])) := by rw [← hV1]; exact (World.putObj_heap_other (by omega)).trans hkV
  have hKp1 : Kp (w.heap.size + 2) W V1 := hKt (hKg _ _ hb) (by rw [← hV1]; exact hKb _ _ _ _ hlV rfl)
  have hi1 : I pre V1 := by rw [← hV1]; exact hI.putObj _ hiV (by omega) hlV rfl
  have ha1 : As x a' V1 := by rw [← hV1]; exact (hAs x).putObj _ ha (by omega) hlV rfl
  have hgt1 : w.heap.size + 2 < V1.heap.size := by
   have := hb.size
   rw [← hV1, World.putObj_size]; omega
  rw [hV1]
  refine wpIn_mono (hbody _ pre x V1 a' hi1 ha1 hal hgt1) ?_
  rintro e a3 W3 hp
  cases e with
  | normal =>
   obtain ⟨ko, kp, hi3⟩ := hp
   have hl3 := ko _ _ (by omega) (by omega) hl1
   have hk3 := ko _ _ (Nat.le_refl _) (by omega) hk1
   have he := run_endRound (P := P) none hl3
   rw [hrc] at he
   refine ⟨_, _, he, rfl, ⟨hI.putObj _ hi3 (by omega) hl3 rfl, ?_, (World.putObj_heap_other (by omega)).trans hk3⟩, hKt (hKt hKp1 kp) (hKb _ _ _ _ hl3 rfl)⟩
   rw [World.putObj_heap_same (Array.getElem?_eq_some_iff.1 hl3).1, hrc]
   rfl
  | ret => exact hp.elim
  | exit id => exact hp.elim
  | goto t => exact hp.elim
  | panic ch => exact hp.elim
  | outgrown => exact hp.elim
 ·rintro e W2 ⟨⟨v, rfl⟩, xs, hS, hi, hl, hk⟩
  have he := run_endLoop (P := P) hl (by rw [hrc]; simp)
  rw [hrc] at he
  exact ⟨none, _, he, hdone _ xs _ (Nat.le_refl _) hS (hI.putObj _ hi (by omega) hl rfl) ((World.putObj_heap_other (by omega)).trans hk)⟩
end
end Go.Proofs.Ytamgpfblhlfhaaa
/- The iterator over the edges of a polygon: its contract. -/
namespace Go.Proofs.Ytamgpfblhlfhaaa
open Go.RowKit Go.Shelf Pl
attribute [local go_sem] Oper.semAt_some
set_option linter.unusedVariables false
set_option linter.unusedSimpArgs false
set_option maxRecDepth 20000
/-- The cells below n lie as they lay. -/
def HoldC (n : Nat) (W W' : World) : Prop := ∀ (k : Nat) (o : Obj), k < n → W.heap[k]? = some o → o.isCells = true → W'.heap[k]? = some o
theorem HoldC.of_below {n : Nat} {W W' : World} (h : Below n W W') : HoldC n W W' := fun k o hk ho _ => (h.block k hk).trans ho
theorem HoldC.below {n : Nat} {A B C : World} (h : HoldC n A B) (hb : Below B.heap.size B C) : HoldC n A C := fun k o hk ho hc => by
 have h1 := h k o hk ho hc
 exact (hb.block k (Array.getElem?_eq_some_iff.1 h1).1).trans h1
theorem HoldC.chg {n b : Nat} {t : TypeId} {cs : Array Value} {A B C : World} (h : HoldC n A B) (ho : AtB t B b cs) (hb : n ≤ b) (hc : Chg b B C) : HoldC n A C := fun k o hk ho hcl => by
 have h1 := h k o hk ho hcl
 exact (hc.block k (Array.getElem?_eq_some_iff.1 h1).1 (by omega)).trans h1
theorem AtB.hold {n b : Nat} {t : TypeId} {cs : Array Value} {W W' : World} (h : AtB t W b cs) (hb : b < n) (hc : HoldC n W W') : AtB t W' b cs := hc b _ hb h rfl
theorem cells_obj {W : World} {g o : Nat} {v : Value} (h : W.cell? ⟨g, o, none⟩ = some v) : ∃ x : Obj, W.heap[g]? = some x ∧ x.isCells = true := by
 unfold World.cell? at h
 cases hx : W.heap[g]? with
 | none => simp [hx] at h
 | some x => exact ⟨x, rfl, cell_not (by unfold World.cell?; exact h) x hx⟩
theorem RS.hold {v : Value} {ls : List TA} {n : Nat} {W W' : World} (h : RS v ls W) (hn : W.heap.size ≤ n) (hc : HoldC n W W') : RS v ls W' := by
 rcases h with h | ⟨g, o, c, e, hcp, sc⟩
 ·exact .inl h
 ·refine .inr ⟨g, o, c, e, hcp, fun hl => ?_⟩
  have rc := sc hl
  have h0 := rc.2 0 hl 0 (by omega)
  obtain ⟨v, hv⟩ : ∃ v, (taC (aT ls 0))[0]? = some v := ⟨_, taC_x _⟩
  rw [hv] at h0
  obtain ⟨x, hx, hxc⟩ := cells_obj h0
  exact rc.of_eq ((hc g x (by have := rc.lt; omega) hx hxc).trans hx.symm)
theorem InB.hold {r t : Nat} {ls : List TA} {th : Int} {W W' : World} (h : InB r t ls th W) (hc : HoldC W.heap.size W W') : InB r t ls th W' := by
 obtain ⟨v, h1, h2, h3⟩ := h
 exact ⟨v, h1.hold h1.lt hc, h2.hold h2.lt hc, h3.hold (Nat.le_refl _) hc⟩
/-- What a round of a body keeps that writes the block bl: the cells below n, the block c. -/
def KpO (n bl c : Nat) (W W' : World) : Prop := W.heap.size ≤ W'.heap.size ∧ ∀ (k : Nat) (o : Obj), (k < n ∧ k ≠ bl ∨ k = c) → W.heap[k]? = some o → o.isCells = true → W'.heap[k]? = some o
theorem KpO.trans {n bl c : Nat} {A B C : World} (h : KpO n bl c A B) (k : KpO n bl c B C) : KpO n bl c A C := ⟨Nat.le_trans h.1 k.1, fun i o hi ho hc => k.2 i o hi (h.2 i o hi ho hc) hc⟩
theorem KpO.putObj {n bl c : Nat} {W : World} {l : Nat} {o : Obj} (o' : Obj) (hl : W.heap[l]? = some o) (ho : o.isCells = false) : KpO n bl c W (W.putObj l o') :=
 ⟨by simp [World.putObj], fun k x hk hx hc => by
  have : k ≠ l := fun e => by rw [e, hl] at hx; cases hx; rw [ho] at hc; cases hc
  exact (World.putObj_heap_other (by omega)).trans hx⟩
theorem KpO.below {n bl c : Nat} {W W' : World} (h : Below W.heap.size W W') : KpO n bl c W W' := ⟨h.size, fun k o _ ho _ => (h.block k (Array.getElem?_eq_some_iff.1 ho).1).trans ho⟩
theorem KpO.atB {n bl c b : Nat} {t : TypeId} {cs : Array Value} {W W' : World} (h : KpO n bl c W W') (hb : b < n ∧ b ≠ bl ∨ b = c) (ha : AtB t W b cs) : AtB t W' b cs := h.2 b _ hb ha rfl
theorem HoldC.kpo {m n bl c : Nat} {A W W' : World} (h : HoldC m A W) (hm : m ≤ n) (hb : m ≤ bl) (k : KpO n bl c W W') : HoldC m A W' := fun i o hi ho hc => k.2 i o (.inl ⟨by omega, by omega⟩) (h i o hi ho hc) hc
section
variable {F : Fence} {n : Nat} {P : Program} {ops : Array Oper} {rest : List Oper} {o : Oper} {a : Act} {w : World} {Q : Exit → Act → World → Prop}
theorem wpListIn_ld {t : TypeId} {x : Operand} (hg : o.guard = none) (hop : o.op = .load t x) (p : Value) (hx : a.eval x = p) (v : Value) (hr : (Instr.loadAt t p).run P w = .ok v w) (h : wpListIn F n P ops Q rest (a.put o.dst v) w) : wpListIn F n P ops Q (o :: rest) a w := by
 refine wpListIn_plain hg fun K' hK' => ?_
 unfold Oper.wpIn
 refine ⟨by simp [Oper.about, hop], ?_⟩
 rw [Oper.semAt_plain F _ _ (by rw [hop]; intro c hc'; cases hc')]
 simp [execOp, hop, hx, hr, Result.andThen]
 exact hK' _ _ h
theorem wpListIn_mv {x : Operand} (hg : o.guard = none) (hop : o.op = .move x) (v : Value) (hx : a.eval x = v) (h : wpListIn F n P ops Q rest (a.put o.dst v) w) : wpListIn F n P ops Q (o :: rest) a w := by
 refine wpListIn_plain hg fun K' hK' => ?_
 unfold Oper.wpIn
 refine ⟨by simp [Oper.about, hop], ?_⟩
 rw [Oper.semAt_plain F _ _ (by rw [hop]; intro c hc'; cases hc')]
 simp [execOp, hop, hx, Result.andThen]
 exact hK' _ _ h
end
theorem least_ex {p : Nat → Prop} (h : ∃ m, p m) : ∃ m, p m ∧ ∀ j, p j → m ≤ j := by
 obtain ⟨m, hm⟩ := h
 induction m using Nat.strongRecOn with
 | _ m ih =>
  by_cases hx : ∃ j, j < m ∧ p j
  ·obtain ⟨j, hj, hp⟩ := hx
   exact ih j hj hp
  ·exact ⟨m, hm, fun j hj => Nat.le_of_not_lt fun hlt => hx ⟨j, hlt, hj⟩⟩
/-- m is the least number of which p holds. -/
def LeastP (p : Nat → Prop) (m : Nat) : Prop := p m ∧ ∀ j, p j → m ≤ j
theorem eps_least {p : Nat → Prop} (h : ∃ m, p m) : LeastP p (Classical.epsilon (LeastP p)) := Classical.epsilon_spec (least_ex h)
theorem eps_le {p : Nat → Prop} {m : Nat} (h : p m) : Classical.epsilon (LeastP p) ≤ m := (eps_least ⟨m, h⟩).2 m h
theorem P_onO (x y d x' y' : Int) (w : World) (hx : -100000 ≤ x ∧ x ≤ 100000) (hy : -100000 ≤ y ∧ y ≤ 100000) (hd : 0 ≤ d ∧ d ≤ 3) (e1 : x + dxE d = x') (e2 : y + dyE d = y') : Calls Try.prog 97 #[.agg #[.int .i64 x, .int .i64 y, .int .i64 d]] w fun e w' => e = .returned (.tuple #[.int .i64 x', .int .i64 y']) ∧ Below w.heap.size w w' := e1 ▸ e2 ▸ P_on x y d w hx hy hd
def edC (e : Ed) : Array Value := #[.int .i64 e.x, .int .i64 e.y, .int .i64 e.d]
theorem equalIn_stS (d : Nat) (e f : Ed) (w : World) : (Op.equalIn (d + 2) 83 (.agg (edC e)) (.agg (edC f))).run Try.prog w = .ok (decide (e = f)) w := by
 obtain ⟨x, y, z⟩ := e
 obtain ⟨x', y', z'⟩ := f
 have h : (Op.equalIn (d + 2) 83 (.agg (edC ⟨x, y, z⟩)) (.agg (edC ⟨x', y', z'⟩))).run Try.prog w = .ok (x == x' && (y == y' && z == z')) w := by
  simp only [edC]
  by_cases h1 : x = x' <;> by_cases h2 : y = y' <;> by_cases h3 : z = z' <;> simp [go_sem, h1, h2, h3]
 rw [h]
 congr 1
 rw [Bool.eq_iff_iff]
 simp
theorem eql_stS (e f : Ed) (w : World) : (binOp .eql 83 (.agg (edC e)) (.agg (edC f))).run Try.prog w = .ok (.bool (decide (e = f))) w := by
 have h := run_eql_struct (P := Try.prog) w 83 (edC e) (edC f)
 rw [h, equalIn_stS 9998 e f w]; rfl
@[go_sem] theorem guard_stS (op : BinOp) (p q : Operand) (cs ds : Array Value) (w : World) : (eqGuard op 83 p q (.agg cs) (.agg ds)).run Try.prog w = .ok () w := run_eqGuard_agg w op 83 p q _ _ (by kernel_rfl)
section
variable {o : Oper} {a : Act} {C : World → Prop} {K : Act → Prop}
theorem quiet_eqlS {x y : Operand} {t2 : TypeId} (h : o.op = .binOp .eql 83 x y t2) (e f : Ed) (hx : a.eval x = .agg (edC e)) (hy : a.eval y = .agg (edC f)) (b : Bool) (hb : decide (e = f) = b) (hk : K (a.put o.dst (.bool b))) : o.quiet Try.prog a C K :=
 ⟨_, fun w hw => by unfold Oper.quietAt execOp; simp only [h, hx, hy, guard_stS, eql_stS, hb, Sem.run_bind, Sem.run_pure, Result.andThen_ok]; exact ⟨rfl, rfl⟩, hk⟩
end
@[go_sem] theorem guard_stR (op : BinOp) (p q : Operand) (cs ds : Array Value) (w : World) : (eqGuard op 92 p q (.agg cs) (.agg ds)).run Try.prog w = .ok () w := run_eqGuard_agg w op 92 p q _ _ (by kernel_rfl)
section
variable {o : Oper} {a : Act} {C : World → Prop} {K : Act → Prop}
end
theorem run_alloc_St (w : World) (o : Oper) (ho : o.op = .alloc 83) (ev : Operand → Value) : (execOp ev o).run Try.prog w = .ok (.value (.pointer (some ⟨w.heap.size, 0, none⟩))) (w.alloc (.cells #[.int .i64 0, .int .i64 0, .int .i64 0] 83)) := by
 obtain ⟨d, op, ty, pos, af, g⟩ := o
 simp only at ho
 subst ho
 kernel_rfl
theorem P_from (r t : Nat) (x y d : Int) (w : World) : Calls Try.prog 52 #[.agg #[fB r t], .agg #[.int .i64 x, .int .i64 y, .int .i64 d]] w fun v w' => ∃ bs bb, v = .returned (.func (.func 96) #[] #[.pointer (some ⟨bs, 0, none⟩), .pointer (some ⟨bb, 0, none⟩)]) ∧ w.heap.size ≤ bs ∧ w.heap.size ≤ bb ∧ AtB 83 w' bs #[.int .i64 x, .int .i64 y, .int .i64 d] ∧ AtB 80 w' bb #[fB r t] ∧ Below w.heap.size w w' := by
 have B := Below.refl w.heap.size w
 go_enter Try.func52, Try.ntmps52
 go_upto_region 0 with fail
 refine wp_region_lit ?_
 try simp only [gelS]
 (refine wpList_boxB (t := 80) rfl _ rfl _ rfl ?_; intro b_p2 wn hle hge ht hbn hzn; have hsz := B.size; replace B := B.trans (hbn.mono (by omega)); have hln := Nat.lt_of_lt_of_eq (Nat.lt_succ_self _) hzn.symm; clear hzn; have p2 := ht; clear ht; simp only [putS])
 (refine wpList_boxB (t := 83) rfl _ rfl _ rfl ?_; intro b_p1 wn hle hge ht hbn hzn; have hsz := B.size; replace B := B.trans (hbn.mono (by omega)); have hln := Nat.lt_of_lt_of_eq (Nat.lt_succ_self _) hzn.symm; clear hzn; (try have hlt := p2.lt); (try replace p2 := p2.below (hbn.mono hle)); have p1 := ht; clear ht; simp only [putS])
 refine wpList_chunk 1 (by kernel_rfl) ?_
 simp only [takS, Nat.reduceAdd]
 repeat (first | go_big_quiet_skip | (go_big_quiet_want; go_big_quiet_op; go_big_quiet_on))
 refine wpQuiet_nil ?_
 refine wpList_nil ?_
 go_upto_region 1 with fail
 refine wp_region_lit ?_
 try simp only [gelS]
 (refine wpList_val rfl (.func (.func 96) #[] #[.pointer (some ⟨b_p1, 0, none⟩), .pointer (some ⟨b_p2, 0, none⟩)]) (by first | rfl | simp [go_sem, Act.eval]) ?_; simp only [putS])
 refine wpList_chunk 1 (by kernel_rfl) ?_
 simp only [takS, Nat.reduceAdd]
 repeat (first | go_big_quiet_skip | (go_big_quiet_want; go_big_quiet_op; go_big_quiet_on))
 refine wpQuiet_nil ?_
 refine wpList_nil ?_
 go_wp2
 go_ret
 exact ⟨_, _, rfl, by omega, by omega, p1, p2, B⟩
set_option maxHeartbeats 4000000 in
theorem from_stops (r t : Nat) (ls : List TA) (th : Int) (tk : TokL ls) (hn : ls.length ≤ maxLen) (R : Rc) (hR : -65536 ≤ R.x0 ∧ R.x1 ≤ 65536 ∧ -65536 ≤ R.y0 ∧ R.y1 ≤ 65536) (hbx : BoxE (setG ls th) R) (s : Ed) (hs : Bnd (setG ls th) s) (bs bb bl n : Nat) (hn1 : 1 ≤ n) (w wI : World)
  (p1 : AtB 83 w bs (edC s)) (p2 : AtB 80 w bb #[fB r t]) (hI : InB r t ls th wI) (hw : HoldC wI.heap.size wI w) (hwI : wI.heap.size ≤ w.heap.size) (hbl : wI.heap.size ≤ bl) (h1 : bs ≠ bl) (h2 : bb ≠ bl) :
  SeqOwn Fence.wide n Try.prog 96 #[.pointer (some ⟨bs, 0, none⟩), .pointer (some ⟨bb, 0, none⟩)] (fun e : Ed => #[.agg (edC e)]) (KpO w.heap.size bl) (fun xs => xs = folE (setG ls th) R s) (fun pre x => ∃ k, k < perE (setG ls th) R s ∧ pre = orbK (setG ls th) s k ∧ x = orbE (setG ls th) s k) w := fun l J W0 hW hJa hY hJ => by
 have hl1 := p1.lt
 have hl2 := p2.lt
 replace p1 := p1.of_eq (hW.block _ p1.lt)
 replace p2 := p2.of_eq (hW.block _ p2.lt)
 have HW := hw.below hW
 have hwW := hW.size
 have HI := Lib.hid hI
 have HJ := Lib.hid (fun (s : List Ed) (X Y : World) (hs : J s X) (hb : Exc W0.heap.size X.heap.size X Y) => hJa s X Y (some W0.heap.size) hs ⟨hb.os, hb.tape, hb.output, hb.grow, fun k hk hne => hb.block k hk (fun e => hne (by rw [e]))⟩ (fun r e => by cases e; rfl))
 have HJB := Lib.hid (fun (s : List Ed) (X Y : World) (hs : J s X) (hb : Below X.heap.size X Y) => hJa.below hs hb)
 have HY := Lib.hid hY
 have HP := Lib.hid (perE_spec hbx hs)
 have HB := Lib.hid (fun k => orb_bnd hs k)
 have HX := Lib.hid hbx
 clear hI hJa hY hbx
 refine callsIn_wide.2 ?_
 show Calls Try.prog 96 #[.func (.yield l) #[] #[], .pointer (some ⟨bs, 0, none⟩), .pointer (some ⟨bb, 0, none⟩)] W0 _
 have B := Below.refl W0.heap.size W0
 go_enter Try.func96, Try.ntmps96
 go_upto_region 0 with fail
 refine wp_region_lit ?_
 try simp only [gelS]
 refine wpList_chunk 1 (by kernel_rfl) ?_
 simp only [takS, Nat.reduceAdd]
 repeat (first | go_big_quiet_skip | (go_big_quiet_want; first | (refine quiet_loadAny (t := 83) rfl _ _ _ rfl (fun w hw => run_load_B (ov_B p1 w hw) Try.isAgg83 (by kernel_rfl)) (by rfl) ?_; simp only [putS]; go_big_quiet_on) | (go_big_quiet_op; go_big_quiet_on)))
 refine wpQuiet_nil ?_
 (refine wpList_allocBk (t := 83) rfl _ (run_alloc_St _ _ rfl) ?_; intro b_p4 wn hle hge ht hbn hzn; have hsz := B.size; replace B := B.trans (hbn.mono (by omega)); have hln := Nat.lt_of_lt_of_eq (Nat.lt_succ_self _) hzn.symm; clear hzn; (try have hlt := p1.lt); (try replace p1 := p1.below (hbn.mono hle)); (try have hlt := p2.lt); (try replace p2 := p2.below (hbn.mono hle)); (try have hlt := HW.lt); (try replace HW := HW.below (hbn.mono hle)); have p4 := ht; clear ht; simp only [putS])
 (refine wpList_storeB (t := 83) rfl _ _ rfl _ rfl _ rfl p4 (by kernel_rfl) rfl (by simp [edC, Value.oneCell']) ?_; have p4o := p4; clear p4; intro wn ht hcn hzn; (try replace HW := HW.chg p4o (by omega) hcn); have hsz := B.size; replace hzn := Nat.le_of_eq hzn.symm; replace B := Chg.below B hcn (by omega) B.size; (try replace p1 := p1.of_eq (hcn.block _ p1.lt (by omega))); (try replace p2 := p2.of_eq (hcn.block _ p2.lt (by omega))); (try replace HW := HW.of_eq (hcn.block _ HW.lt (by omega))); have p4 := ht; clear ht; simp only [putS])
 refine wpList_nil ?_
 have hb4 : b_p4 = W0.heap.size := by omega
 have hbsz := B.size
 have hJ1 := HJB.out _ _ _ hJ B
 have k4 := p4.lt
 replace hJ := hJ1
 clear hJ1 B hW
 have HS4 := Lib.hid (show b_p4 = W0.heap.size ∧ wI.heap.size ≤ b_p4 from ⟨hb4, by omega⟩)
 have n14 : bs < b_p4 := by omega
 have n24 : bb < b_p4 := by omega
 have hbI : wI.heap.size ≤ b_p4 := HS4.out.2
 clear HS4
 subst hb4
 generalize W0.heap.size = c at *
 go_wp2
 go_loopw [5, 6, 8, 9, 19, 20] (fun _ _ _ _ _ _ wr => ∃ m, (∃ k, m + k = perE (setG ls th) R s ∧ 0 < m ∧ J (orbK (setG ls th) s k) wr ∧ AtB 83 wr c (edC (orbE (setG ls th) s k)) ∧ AtB 83 wr bs (edC s) ∧ AtB 80 wr bb #[fB r t] ∧ HoldC wI.heap.size wI wr)) (fun _ _ _ _ _ _ wr => Classical.epsilon (LeastP fun m => (∃ k, m + k = perE (setG ls th) R s ∧ 0 < m ∧ J (orbK (setG ls th) s k) wr ∧ AtB 83 wr c (edC (orbE (setG ls th) s k)) ∧ AtB 83 wr bs (edC s) ∧ AtB 80 wr bb #[fB r t] ∧ HoldC wI.heap.size wI wr)))
 case atStart => exact ⟨perE (setG ls th) R s, 0, by omega, HP.out.2.1, hJ, p4, p1, p2, HW⟩
 case round =>
  clear hJ p4 p1 p2 HW
  have hleast := (eps_least hrel).1
  generalize hm : Classical.epsilon (LeastP fun m => (∃ k, m + k = perE (setG ls th) R s ∧ 0 < m ∧ J (orbK (setG ls th) s k) wr ∧ AtB 83 wr c (edC (orbE (setG ls th) s k)) ∧ AtB 83 wr bs (edC s) ∧ AtB 80 wr bb #[fB r t] ∧ HoldC wI.heap.size wI wr)) = m at hleast
  obtain ⟨k, hmk, hm0, hJ, p4, p1, p2, HW⟩ := hleast
  obtain ⟨fn, tmps, assign, body, hy, hR⟩ := HY.out (orbK (setG ls th) s k) (orbE (setG ls th) s k) _ hJ ⟨k, by omega, rfl, rfl⟩ p4.lt
  go_upto_region 1 with fail
  refine (wpIn_wide (n := n)).1 ?_
  refine wpIn_region_lit ?_
  try simp only [gelS]
  refine wpListIn_mv rfl rfl (.func (.yield l) #[] #[]) rfl ?_
  simp only [putS]
  refine wpListIn_ld rfl rfl _ rfl _ (run_load_B p4 Try.isAgg83 (by kernel_rfl)) ?_
  simp only [putS]
  gi_wp2
  refine hR.mono ?_
  rintro e W1 ⟨rfl, hJ1, hkp⟩
  replace p4 := hkp.atB (.inr rfl) p4
  replace p1 := hkp.atB (.inl ⟨hl1, h1⟩) p1
  replace p2 := hkp.atB (.inl ⟨hl2, h2⟩) p2
  replace HW := HW.kpo hwI hbl hkp
  rw [← orbK_snoc] at hJ1
  have hbd := HB.out k
  have hcs := next_cases hbd
  have hnx : orbE (setG ls th) s (k + 1) = nextE (setG ls th) (orbE (setG ls th) s k) := rfl
  have hbx := HX.out _ hbd
  have hbn1 := HX.out _ (HB.out (k + 1))
  have hend := Lib.hid (show k + 1 = perE (setG ls th) R s → orbE (setG ls th) s (k + 1) = s from fun e => by rw [e]; exact HP.out.1)
  have hgo := Lib.hid (show k + 1 < perE (setG ls th) R s → orbE (setG ls th) s (k + 1) ≠ s from fun e => HP.out.2.2.2 _ (by omega) e)
  have HM := Lib.hid hm
  clear hm hJ hy hR hkp hrel
  obtain ⟨⟨x, y, d⟩, he⟩ : ∃ e, orbE (setG ls th) s k = e := ⟨_, rfl⟩
  rw [he] at p4 hbd hcs hbx hnx
  obtain ⟨⟨x', y', d'⟩, he'⟩ : ∃ e, orbE (setG ls th) s (k + 1) = e := ⟨_, rfl⟩
  rw [he'] at hnx hbn1 hend hgo
  rw [← hnx] at hcs
  simp only at hcs hbx hbn1
  obtain ⟨hx', hy', hb', hcs⟩ := hcs
  have hd : 0 ≤ d ∧ d ≤ 3 := hbd.1
  rw [← hx', ← hy'] at hcs
  replace p4 : AtB 83 W1 c #[.int .i64 x, .int .i64 y, .int .i64 d] := p4
  obtain ⟨q1, hq1⟩ : ∃ q, (d + 1) % 4 = q := ⟨_, rfl⟩
  obtain ⟨q3, hq3⟩ : ∃ q, (d + 3) % 4 = q := ⟨_, rfl⟩
  have ht1 : Int.tmod (d + 1) 4 = q1 := by rw [Int.tmod_eq_emod_of_nonneg (by omega)]; exact hq1
  have ht3 : Int.tmod (d + 3) 4 = q3 := by rw [Int.tmod_eq_emod_of_nonneg (by omega)]; exact hq3
  have ht0 : Int.tmod d 4 = d := by rw [Int.tmod_eq_emod_of_nonneg (by omega)]; omega
  have b1 : 0 ≤ q1 ∧ q1 ≤ 3 := by omega
  have b3 : 0 ≤ q3 ∧ q3 ≤ 3 := by omega
  rw [hq1, hq3] at hcs
  have bx : -100000 ≤ x ∧ x ≤ 100000 := by omega
  have by_ : -100000 ≤ y ∧ y ≤ 100000 := by omega
  have bx' : -100000 ≤ x' ∧ x' ≤ 100000 := by omega
  have by' : -100000 ≤ y' ∧ y' ≤ 100000 := by omega
  have HON := Lib.hid (show x + dxE d = x' ∧ y + dyE d = y' from ⟨hx'.symm, hy'.symm⟩)
  have HE' := Lib.hid he'
  clear he he' hx' hy' hbx hbn1 hbd hb' hnx
  have B := Exc.refl c W1
  have k4 := p4.lt
  gi_wp2
  go_upto_region 2 with fail
  refine wp_region_lit ?_
  try simp only [gelS]
  refine wpList_chunk 1 (by kernel_rfl) ?_
  simp only [takS, Nat.reduceAdd]
  repeat (first | go_big_quiet_skip | (go_big_quiet_want; first | (refine quiet_loadAny (t := 83) rfl _ _ _ rfl (fun w hw => run_load_B (ov_B p4 w hw) Try.isAgg83 (by kernel_rfl)) (by rfl) ?_; simp only [putS]; go_big_quiet_on) | (go_big_quiet_op; go_big_quiet_on)))
  refine wpQuiet_nil ?_
  refine wpList_callF (by first | rfl | simp [Region.wanted, yielded]) rfl (enters_of Try.func97 (by kernel_rfl) rfl) (by simp only [Act.eval, evlS]; rfl) ?_
  refine (P_onO x y d x' y' _ bx by_ hd HON.out.1 HON.out.2).mono ?_
  rintro e wn ⟨rfl, hbn⟩
  have hsz := B.size
  have hzn := hbn.size
  replace B := B.trans (hbn.mono B.size)
  (try replace p4 := p4.below hbn)
  (try replace p1 := p1.below hbn)
  (try replace p2 := p2.below hbn)
  (try replace HW := HW.below hbn)
  refine ⟨_, rfl, ?_⟩
  simp only [putS]
  refine wpList_chunk 5 (by kernel_rfl) ?_
  simp only [takS, Nat.reduceAdd]
  repeat (first | go_big_quiet_skip | (go_big_quiet_want; go_big_quiet_op; go_big_quiet_on))
  refine wpQuiet_nil ?_
  refine wpList_nil ?_
  go_upto_region 3 with fail
  refine wp_region_lit ?_
  try simp only [gelS]
  refine wpList_chunk 2 (by kernel_rfl) ?_
  simp only [takS, Nat.reduceAdd]
  repeat (first | go_big_quiet_skip | (go_big_quiet_want; go_big_quiet_op; go_big_quiet_on))
  refine wpQuiet_nil ?_
  refine wpList_nil ?_
  go_wp2
  refine wp_loop_rounds 3 ?_
  rw [rounds_succ]
  rcases hcs with ⟨hd', c1⟩ | ⟨hd', c1, c2⟩ | ⟨hd', c1, c2, c3⟩
  ·have HD := Lib.hid hd'
   clear hd'
   go_upto_region 4 with fail
   refine wp_region_lit ?_
   try simp only [gelS]
   refine wpList_chunk 1 (by kernel_rfl) ?_
   simp only [takS, Nat.reduceAdd]
   repeat (first | go_big_quiet_skip | (go_big_quiet_want; go_big_quiet_op; go_big_quiet_on))
   refine wpQuiet_nil ?_
   refine wpList_nil ?_
   go_upto_region 5 with fail
   refine wp_region_lit ?_
   try simp only [gelS]
   refine wpList_chunk 2 (by kernel_rfl) ?_
   simp only [takS, Nat.reduceAdd]
   repeat (first | go_big_quiet_skip | (go_big_quiet_want; first | (refine quiet_indexA rfl #[.int .i64 1, .int .i64 0, .int .i64 3] rfl (0) rfl (.int .i64 (1)) (fun w => by kernel_rfl) ?_; simp only [putS]; go_big_quiet_on) | (go_big_quiet_op; go_big_quiet_on)))
   refine wpQuiet_nil ?_
   refine wpList_nil ?_
   go_upto_region 6 with fail
   refine wp_region_lit ?_
   try simp only [gelS]
   refine wpList_chunk 8 (by kernel_rfl) ?_
   simp only [takS, Nat.reduceAdd]
   repeat (first | go_big_quiet_skip | (go_big_quiet_want; first | (refine quiet_loadAny (t := 3) rfl _ _ _ rfl (fun w hw => run_load_int ((ov_B p4 w hw).cellL 2 rfl)) (by rfl) ?_; simp only [putS]; go_big_quiet_on) | (go_big_quiet_op; go_big_quiet_on)))
   refine wpQuiet_nil ?_
   (refine wpList_allocBk (t := 83) rfl _ (run_alloc_St _ _ rfl) ?_; intro b_p9 wn hle hge ht hbn hzn; have hsz := B.size; replace B := B.trans (hbn.mono (by omega)); have hln := Nat.lt_of_lt_of_eq (Nat.lt_succ_self _) hzn.symm; clear hzn; (try have hlt := p4.lt); (try replace p4 := p4.below (hbn.mono hle)); (try have hlt := p1.lt); (try replace p1 := p1.below (hbn.mono hle)); (try have hlt := p2.lt); (try replace p2 := p2.below (hbn.mono hle)); (try have hlt := HW.lt); (try replace HW := HW.below (hbn.mono hle)); have p9 := ht; clear ht; simp only [putS])
   (refine wpList_storeB (t := 83) rfl _ _ rfl _ rfl _ rfl p9 (by kernel_rfl) rfl (by simp [edC, Value.oneCell']) ?_; have p9o := p9; clear p9; intro wn ht hcn hzn; (try replace HW := HW.chg p9o (by omega) hcn); have hsz := B.size; replace hzn := Nat.le_of_eq hzn.symm; replace B := Exc.store B hcn (by omega); (try replace p4 := p4.of_eq (hcn.block _ p4.lt (by omega))); (try replace p1 := p1.of_eq (hcn.block _ p1.lt (by omega))); (try replace p2 := p2.of_eq (hcn.block _ p2.lt (by omega))); (try replace HW := HW.of_eq (hcn.block _ HW.lt (by omega))); have p9 := ht; clear ht; simp only [putS])
   refine wpList_nil ?_
   replace p9 : AtB 83 _ b_p9 #[.int .i64 x', .int .i64 y', .int .i64 q1] := p9
   have hI := HI.out.hold HW
   have k9 := p9.lt
   go_upto_region 7 with fail
   refine wp_region_lit ?_
   try simp only [gelS]
   refine wpList_chunk 2 (by kernel_rfl) ?_
   simp only [takS, Nat.reduceAdd]
   repeat (first | go_big_quiet_skip | (go_big_quiet_want; first | (refine quiet_loadAny (t := 83) rfl _ _ _ rfl (fun w hw => run_load_B (ov_B p9 w hw) Try.isAgg83 (by kernel_rfl)) (by rfl) ?_; simp only [putS]; go_big_quiet_on) | (refine quiet_loadAny (t := 80) rfl _ _ _ rfl (fun w hw => run_load_B (ov_B p2 w hw) Try.isAgg80 (by kernel_rfl)) (by rfl) ?_; simp only [putS]; go_big_quiet_on) | (go_big_quiet_op; go_big_quiet_on)))
   refine wpQuiet_nil ?_
   refine wpList_callF (by first | rfl | simp [Region.wanted, yielded]) rfl (enters_of Try.func51 (by kernel_rfl) rfl) (by simp only [Act.eval, evlS]; rfl) ?_
   refine (P_has r t ls th x' y' q1 true _ hI tk hn bx' by' b1 c1).mono ?_
   rintro e wn ⟨rfl, hbn⟩
   have hsz := B.size
   have hzn := hbn.size
   replace B := B.trans (hbn.mono B.size)
   (try replace p4 := p4.below hbn)
   (try replace p1 := p1.below hbn)
   (try replace p2 := p2.below hbn)
   (try replace HW := HW.below hbn)
   (try replace p9 := p9.below hbn)
   refine ⟨_, rfl, ?_⟩
   simp only [putS]
   refine wpList_nil ?_
   clear hI
   go_upto_region 8 with fail
   refine wp_region_lit ?_
   try simp only [gelS]
   refine wpList_chunk 1 (by kernel_rfl) ?_
   simp only [takS, Nat.reduceAdd]
   repeat (first | go_big_quiet_skip | (go_big_quiet_want; first | (refine quiet_loadAny (t := 83) rfl _ _ _ rfl (fun w hw => run_load_B (ov_B p9 w hw) Try.isAgg83 (by kernel_rfl)) (by rfl) ?_; simp only [putS]; go_big_quiet_on) | (go_big_quiet_op; go_big_quiet_on)))
   refine wpQuiet_nil ?_
   (refine wpList_storeB (t := 83) rfl _ _ rfl _ rfl _ rfl p4 (by kernel_rfl) rfl (by simp [edC, Value.oneCell']) ?_; have p4o := p4; clear p4; intro wn ht hcn hzn; (try replace HW := HW.chg p4o (by omega) hcn); have hsz := B.size; replace hzn := Nat.le_of_eq hzn.symm; replace B := Exc.chg B hcn; (try replace p1 := p1.of_eq (hcn.block _ p1.lt (by omega))); (try replace p2 := p2.of_eq (hcn.block _ p2.lt (by omega))); (try replace HW := HW.of_eq (hcn.block _ HW.lt (by omega))); (try replace p9 := p9.of_eq (hcn.block _ p9.lt (by omega))); have p4 := ht; clear ht; simp only [putS])
   refine wpList_nil ?_
   replace p4 : AtB 83 _ c #[.int .i64 x', .int .i64 y', .int .i64 q1] := p4
   replace p4 : AtB 83 _ c (edC ⟨x', y', q1⟩) := p4
   rw [← HD.out] at p4
   go_upto_region 10 with fail
   by_cases hlast : k + 1 = perE (setG ls th) R s
   ·have he2 := hend.out hlast
    have q2 : decide ((⟨x', y', d'⟩ : Ed) = s) = true := decide_eq_true he2
    refine wp_region_lit ?_
    try simp only [gelS]
    refine wpList_chunk 3 (by kernel_rfl) ?_
    simp only [takS, Nat.reduceAdd]
    repeat (first | go_big_quiet_skip | (go_big_quiet_want; first | (refine quiet_loadAny (t := 83) rfl _ _ _ rfl (fun w hw => run_load_B (ov_B p4 w hw) Try.isAgg83 (by kernel_rfl)) (by rfl) ?_; simp only [putS]; go_big_quiet_on) | (refine quiet_loadAny (t := 83) rfl _ _ _ rfl (fun w hw => run_load_B (ov_B p1 w hw) Try.isAgg83 (by kernel_rfl)) (by rfl) ?_; simp only [putS]; go_big_quiet_on) | (refine quiet_eqlS rfl ⟨x', y', d'⟩ s rfl rfl _ q2 ?_; simp only [putS]; go_big_quiet_on) | (go_big_quiet_op; go_big_quiet_on)))
    refine wpQuiet_nil ?_
    refine wpList_nil ?_
    go_wp2
    refine bodyPost_ret (results_none rfl _ _ _) rfl ?_
    exact ⟨⟨_, rfl⟩, _, rfl, by unfold folE; rw [← hlast]; exact HJ.out _ _ _ hJ1 B⟩
   ·have q2 : decide ((⟨x', y', d'⟩ : Ed) = s) = false := decide_eq_false (hgo.out (by omega))
    refine wp_region_lit ?_
    try simp only [gelS]
    refine wpList_chunk 3 (by kernel_rfl) ?_
    simp only [takS, Nat.reduceAdd]
    repeat (first | go_big_quiet_skip | (go_big_quiet_want; first | (refine quiet_loadAny (t := 83) rfl _ _ _ rfl (fun w hw => run_load_B (ov_B p4 w hw) Try.isAgg83 (by kernel_rfl)) (by rfl) ?_; simp only [putS]; go_big_quiet_on) | (refine quiet_loadAny (t := 83) rfl _ _ _ rfl (fun w hw => run_load_B (ov_B p1 w hw) Try.isAgg83 (by kernel_rfl)) (by rfl) ?_; simp only [putS]; go_big_quiet_on) | (refine quiet_eqlS rfl ⟨x', y', d'⟩ s rfl rfl _ q2 ?_; simp only [putS]; go_big_quiet_on) | (go_big_quiet_op; go_big_quiet_on)))
    refine wpQuiet_nil ?_
    refine wpList_nil ?_
    go_wp2
    have hR2 : ∃ k, (m - 1) + k = perE (setG ls th) R s ∧ 0 < (m - 1) ∧ J (orbK (setG ls th) s k) wn ∧ AtB 83 wn c (edC (orbE (setG ls th) s k)) ∧ AtB 83 wn bs (edC s) ∧ AtB 80 wn bb #[fB r t] ∧ HoldC wI.heap.size wI wn :=
     ⟨k + 1, by omega, by omega, HJ.out _ _ _ hJ1 B, by rw [HE'.out]; exact p4, p1, p2, HW⟩
    go_roundw
    case rel => exact ⟨_, hR2⟩
    case measure => exact Nat.lt_of_le_of_lt (eps_le hR2) (by omega)
  ·have HD := Lib.hid hd'
   clear hd'
   go_upto_region 4 with fail
   refine wp_region_lit ?_
   try simp only [gelS]
   refine wpList_chunk 1 (by kernel_rfl) ?_
   simp only [takS, Nat.reduceAdd]
   repeat (first | go_big_quiet_skip | (go_big_quiet_want; go_big_quiet_op; go_big_quiet_on))
   refine wpQuiet_nil ?_
   refine wpList_nil ?_
   go_upto_region 5 with fail
   refine wp_region_lit ?_
   try simp only [gelS]
   refine wpList_chunk 2 (by kernel_rfl) ?_
   simp only [takS, Nat.reduceAdd]
   repeat (first | go_big_quiet_skip | (go_big_quiet_want; first | (refine quiet_indexA rfl #[.int .i64 1, .int .i64 0, .int .i64 3] rfl (0) rfl (.int .i64 (1)) (fun w => by kernel_rfl) ?_; simp only [putS]; go_big_quiet_on) | (go_big_quiet_op; go_big_quiet_on)))
   refine wpQuiet_nil ?_
   refine wpList_nil ?_
   go_upto_region 6 with fail
   refine wp_region_lit ?_
   try simp only [gelS]
   refine wpList_chunk 8 (by kernel_rfl) ?_
   simp only [takS, Nat.reduceAdd]
   repeat (first | go_big_quiet_skip | (go_big_quiet_want; first | (refine quiet_loadAny (t := 3) rfl _ _ _ rfl (fun w hw => run_load_int ((ov_B p4 w hw).cellL 2 rfl)) (by rfl) ?_; simp only [putS]; go_big_quiet_on) | (go_big_quiet_op; go_big_quiet_on)))
   refine wpQuiet_nil ?_
   (refine wpList_allocBk (t := 83) rfl _ (run_alloc_St _ _ rfl) ?_; intro b_p9 wn hle hge ht hbn hzn; have hsz := B.size; replace B := B.trans (hbn.mono (by omega)); have hln := Nat.lt_of_lt_of_eq (Nat.lt_succ_self _) hzn.symm; clear hzn; (try have hlt := p4.lt); (try replace p4 := p4.below (hbn.mono hle)); (try have hlt := p1.lt); (try replace p1 := p1.below (hbn.mono hle)); (try have hlt := p2.lt); (try replace p2 := p2.below (hbn.mono hle)); (try have hlt := HW.lt); (try replace HW := HW.below (hbn.mono hle)); have p9 := ht; clear ht; simp only [putS])
   (refine wpList_storeB (t := 83) rfl _ _ rfl _ rfl _ rfl p9 (by kernel_rfl) rfl (by simp [edC, Value.oneCell']) ?_; have p9o := p9; clear p9; intro wn ht hcn hzn; (try replace HW := HW.chg p9o (by omega) hcn); have hsz := B.size; replace hzn := Nat.le_of_eq hzn.symm; replace B := Exc.store B hcn (by omega); (try replace p4 := p4.of_eq (hcn.block _ p4.lt (by omega))); (try replace p1 := p1.of_eq (hcn.block _ p1.lt (by omega))); (try replace p2 := p2.of_eq (hcn.block _ p2.lt (by omega))); (try replace HW := HW.of_eq (hcn.block _ HW.lt (by omega))); have p9 := ht; clear ht; simp only [putS])
   refine wpList_nil ?_
   replace p9 : AtB 83 _ b_p9 #[.int .i64 x', .int .i64 y', .int .i64 q1] := p9
   have hI := HI.out.hold HW
   have k9 := p9.lt
   go_upto_region 7 with fail
   refine wp_region_lit ?_
   try simp only [gelS]
   refine wpList_chunk 2 (by kernel_rfl) ?_
   simp only [takS, Nat.reduceAdd]
   repeat (first | go_big_quiet_skip | (go_big_quiet_want; first | (refine quiet_loadAny (t := 83) rfl _ _ _ rfl (fun w hw => run_load_B (ov_B p9 w hw) Try.isAgg83 (by kernel_rfl)) (by rfl) ?_; simp only [putS]; go_big_quiet_on) | (refine quiet_loadAny (t := 80) rfl _ _ _ rfl (fun w hw => run_load_B (ov_B p2 w hw) Try.isAgg80 (by kernel_rfl)) (by rfl) ?_; simp only [putS]; go_big_quiet_on) | (go_big_quiet_op; go_big_quiet_on)))
   refine wpQuiet_nil ?_
   refine wpList_callF (by first | rfl | simp [Region.wanted, yielded]) rfl (enters_of Try.func51 (by kernel_rfl) rfl) (by simp only [Act.eval, evlS]; rfl) ?_
   refine (P_has r t ls th x' y' q1 false _ hI tk hn bx' by' b1 c1).mono ?_
   rintro e wn ⟨rfl, hbn⟩
   have hsz := B.size
   have hzn := hbn.size
   replace B := B.trans (hbn.mono B.size)
   (try replace p4 := p4.below hbn)
   (try replace p1 := p1.below hbn)
   (try replace p2 := p2.below hbn)
   (try replace HW := HW.below hbn)
   (try replace p9 := p9.below hbn)
   refine ⟨_, rfl, ?_⟩
   simp only [putS]
   refine wpList_nil ?_
   clear hI
   go_upto_region 9 with fail
   refine wp_region_lit ?_
   try simp only [gelS]
   refine wpList_chunk 2 (by kernel_rfl) ?_
   simp only [takS, Nat.reduceAdd]
   repeat (first | go_big_quiet_skip | (go_big_quiet_want; go_big_quiet_op; go_big_quiet_on))
   refine wpQuiet_nil ?_
   refine wpList_nil ?_
   clear p9 k9
   go_wp2
   rw [rounds_succ]
   go_upto_region 4 with fail
   refine wp_region_lit ?_
   try simp only [gelS]
   refine wpList_chunk 1 (by kernel_rfl) ?_
   simp only [takS, Nat.reduceAdd]
   repeat (first | go_big_quiet_skip | (go_big_quiet_want; go_big_quiet_op; go_big_quiet_on))
   refine wpQuiet_nil ?_
   refine wpList_nil ?_
   go_upto_region 5 with fail
   refine wp_region_lit ?_
   try simp only [gelS]
   refine wpList_chunk 2 (by kernel_rfl) ?_
   simp only [takS, Nat.reduceAdd]
   repeat (first | go_big_quiet_skip | (go_big_quiet_want; first | (refine quiet_indexA rfl #[.int .i64 1, .int .i64 0, .int .i64 3] rfl (1) rfl (.int .i64 (0)) (fun w => by kernel_rfl) ?_; simp only [putS]; go_big_quiet_on) | (go_big_quiet_op; go_big_quiet_on)))
   refine wpQuiet_nil ?_
   refine wpList_nil ?_
   go_upto_region 6 with fail
   refine wp_region_lit ?_
   try simp only [gelS]
   refine wpList_chunk 8 (by kernel_rfl) ?_
   simp only [takS, Nat.reduceAdd]
   repeat (first | go_big_quiet_skip | (go_big_quiet_want; first | (refine quiet_loadAny (t := 3) rfl _ _ _ rfl (fun w hw => run_load_int ((ov_B p4 w hw).cellL 2 rfl)) (by rfl) ?_; simp only [putS]; go_big_quiet_on) | (go_big_quiet_op; go_big_quiet_on)))
   refine wpQuiet_nil ?_
   (refine wpList_allocBk (t := 83) rfl _ (run_alloc_St _ _ rfl) ?_; intro b_p9 wn hle hge ht hbn hzn; have hsz := B.size; replace B := B.trans (hbn.mono (by omega)); have hln := Nat.lt_of_lt_of_eq (Nat.lt_succ_self _) hzn.symm; clear hzn; (try have hlt := p4.lt); (try replace p4 := p4.below (hbn.mono hle)); (try have hlt := p1.lt); (try replace p1 := p1.below (hbn.mono hle)); (try have hlt := p2.lt); (try replace p2 := p2.below (hbn.mono hle)); (try have hlt := HW.lt); (try replace HW := HW.below (hbn.mono hle)); have p9 := ht; clear ht; simp only [putS])
   (refine wpList_storeB (t := 83) rfl _ _ rfl _ rfl _ rfl p9 (by kernel_rfl) rfl (by simp [edC, Value.oneCell']) ?_; have p9o := p9; clear p9; intro wn ht hcn hzn; (try replace HW := HW.chg p9o (by omega) hcn); have hsz := B.size; replace hzn := Nat.le_of_eq hzn.symm; replace B := Exc.store B hcn (by omega); (try replace p4 := p4.of_eq (hcn.block _ p4.lt (by omega))); (try replace p1 := p1.of_eq (hcn.block _ p1.lt (by omega))); (try replace p2 := p2.of_eq (hcn.block _ p2.lt (by omega))); (try replace HW := HW.of_eq (hcn.block _ HW.lt (by omega))); have p9 := ht; clear ht; simp only [putS])
   refine wpList_nil ?_
   replace p9 : AtB 83 _ b_p9 #[.int .i64 x', .int .i64 y', .int .i64 d] := p9
   have hI := HI.out.hold HW
   have k9 := p9.lt
   go_upto_region 7 with fail
   refine wp_region_lit ?_
   try simp only [gelS]
   refine wpList_chunk 2 (by kernel_rfl) ?_
   simp only [takS, Nat.reduceAdd]
   repeat (first | go_big_quiet_skip | (go_big_quiet_want; first | (refine quiet_loadAny (t := 83) rfl _ _ _ rfl (fun w hw => run_load_B (ov_B p9 w hw) Try.isAgg83 (by kernel_rfl)) (by rfl) ?_; simp only [putS]; go_big_quiet_on) | (refine quiet_loadAny (t := 80) rfl _ _ _ rfl (fun w hw => run_load_B (ov_B p2 w hw) Try.isAgg80 (by kernel_rfl)) (by rfl) ?_; simp only [putS]; go_big_quiet_on) | (go_big_quiet_op; go_big_quiet_on)))
   refine wpQuiet_nil ?_
   refine wpList_callF (by first | rfl | simp [Region.wanted, yielded]) rfl (enters_of Try.func51 (by kernel_rfl) rfl) (by simp only [Act.eval, evlS]; rfl) ?_
   refine (P_has r t ls th x' y' d true _ hI tk hn bx' by' hd c2).mono ?_
   rintro e wn ⟨rfl, hbn⟩
   have hsz := B.size
   have hzn := hbn.size
   replace B := B.trans (hbn.mono B.size)
   (try replace p4 := p4.below hbn)
   (try replace p1 := p1.below hbn)
   (try replace p2 := p2.below hbn)
   (try replace HW := HW.below hbn)
   (try replace p9 := p9.below hbn)
   refine ⟨_, rfl, ?_⟩
   simp only [putS]
   refine wpList_nil ?_
   clear hI
   go_upto_region 8 with fail
   refine wp_region_lit ?_
   try simp only [gelS]
   refine wpList_chunk 1 (by kernel_rfl) ?_
   simp only [takS, Nat.reduceAdd]
   repeat (first | go_big_quiet_skip | (go_big_quiet_want; first | (refine quiet_loadAny (t := 83) rfl _ _ _ rfl (fun w hw => run_load_B (ov_B p9 w hw) Try.isAgg83 (by kernel_rfl)) (by rfl) ?_; simp only [putS]; go_big_quiet_on) | (go_big_quiet_op; go_big_quiet_on)))
   refine wpQuiet_nil ?_
   (refine wpList_storeB (t := 83) rfl _ _ rfl _ rfl _ rfl p4 (by kernel_rfl) rfl (by simp [edC, Value.oneCell']) ?_; have p4o := p4; clear p4; intro wn ht hcn hzn; (try replace HW := HW.chg p4o (by omega) hcn); have hsz := B.size; replace hzn := Nat.le_of_eq hzn.symm; replace B := Exc.chg B hcn; (try replace p1 := p1.of_eq (hcn.block _ p1.lt (by omega))); (try replace p2 := p2.of_eq (hcn.block _ p2.lt (by omega))); (try replace HW := HW.of_eq (hcn.block _ HW.lt (by omega))); (try replace p9 := p9.of_eq (hcn.block _ p9.lt (by omega))); have p4 := ht; clear ht; simp only [putS])
   refine wpList_nil ?_
   replace p4 : AtB 83 _ c #[.int .i64 x', .int .i64 y', .int .i64 d] := p4
   replace p4 : AtB 83 _ c (edC ⟨x', y', d⟩) := p4
   rw [← HD.out] at p4
   go_upto_region 10 with fail
   by_cases hlast : k + 1 = perE (setG ls th) R s
   ·have he2 := hend.out hlast
    have q2 : decide ((⟨x', y', d'⟩ : Ed) = s) = true := decide_eq_true he2
    refine wp_region_lit ?_
    try simp only [gelS]
    refine wpList_chunk 3 (by kernel_rfl) ?_
    simp only [takS, Nat.reduceAdd]
    repeat (first | go_big_quiet_skip | (go_big_quiet_want; first | (refine quiet_loadAny (t := 83) rfl _ _ _ rfl (fun w hw => run_load_B (ov_B p4 w hw) Try.isAgg83 (by kernel_rfl)) (by rfl) ?_; simp only [putS]; go_big_quiet_on) | (refine quiet_loadAny (t := 83) rfl _ _ _ rfl (fun w hw => run_load_B (ov_B p1 w hw) Try.isAgg83 (by kernel_rfl)) (by rfl) ?_; simp only [putS]; go_big_quiet_on) | (refine quiet_eqlS rfl ⟨x', y', d'⟩ s rfl rfl _ q2 ?_; simp only [putS]; go_big_quiet_on) | (go_big_quiet_op; go_big_quiet_on)))
    refine wpQuiet_nil ?_
    refine wpList_nil ?_
    go_wp2
    refine bodyPost_ret (results_none rfl _ _ _) rfl ?_
    exact ⟨⟨_, rfl⟩, _, rfl, by unfold folE; rw [← hlast]; exact HJ.out _ _ _ hJ1 B⟩
   ·have q2 : decide ((⟨x', y', d'⟩ : Ed) = s) = false := decide_eq_false (hgo.out (by omega))
    refine wp_region_lit ?_
    try simp only [gelS]
    refine wpList_chunk 3 (by kernel_rfl) ?_
    simp only [takS, Nat.reduceAdd]
    repeat (first | go_big_quiet_skip | (go_big_quiet_want; first | (refine quiet_loadAny (t := 83) rfl _ _ _ rfl (fun w hw => run_load_B (ov_B p4 w hw) Try.isAgg83 (by kernel_rfl)) (by rfl) ?_; simp only [putS]; go_big_quiet_on) | (refine quiet_loadAny (t := 83) rfl _ _ _ rfl (fun w hw => run_load_B (ov_B p1 w hw) Try.isAgg83 (by kernel_rfl)) (by rfl) ?_; simp only [putS]; go_big_quiet_on) | (refine quiet_eqlS rfl ⟨x', y', d'⟩ s rfl rfl _ q2 ?_; simp only [putS]; go_big_quiet_on) | (go_big_quiet_op; go_big_quiet_on)))
    refine wpQuiet_nil ?_
    refine wpList_nil ?_
    go_wp2
    have hR2 : ∃ k, (m - 1) + k = perE (setG ls th) R s ∧ 0 < (m - 1) ∧ J (orbK (setG ls th) s k) wn ∧ AtB 83 wn c (edC (orbE (setG ls th) s k)) ∧ AtB 83 wn bs (edC s) ∧ AtB 80 wn bb #[fB r t] ∧ HoldC wI.heap.size wI wn :=
     ⟨k + 1, by omega, by omega, HJ.out _ _ _ hJ1 B, by rw [HE'.out]; exact p4, p1, p2, HW⟩
    go_roundw
    case rel => exact ⟨_, hR2⟩
    case measure => exact Nat.lt_of_le_of_lt (eps_le hR2) (by omega)
  ·have HD := Lib.hid hd'
   clear hd'
   go_upto_region 4 with fail
   refine wp_region_lit ?_
   try simp only [gelS]
   refine wpList_chunk 1 (by kernel_rfl) ?_
   simp only [takS, Nat.reduceAdd]
   repeat (first | go_big_quiet_skip | (go_big_quiet_want; go_big_quiet_op; go_big_quiet_on))
   refine wpQuiet_nil ?_
   refine wpList_nil ?_
   go_upto_region 5 with fail
   refine wp_region_lit ?_
   try simp only [gelS]
   refine wpList_chunk 2 (by kernel_rfl) ?_
   simp only [takS, Nat.reduceAdd]
   repeat (first | go_big_quiet_skip | (go_big_quiet_want; first | (refine quiet_indexA rfl #[.int .i64 1, .int .i64 0, .int .i64 3] rfl (0) rfl (.int .i64 (1)) (fun w => by kernel_rfl) ?_; simp only [putS]; go_big_quiet_on) | (go_big_quiet_op; go_big_quiet_on)))
   refine wpQuiet_nil ?_
   refine wpList_nil ?_
   go_upto_region 6 with fail
   refine wp_region_lit ?_
   try simp only [gelS]
   refine wpList_chunk 8 (by kernel_rfl) ?_
   simp only [takS, Nat.reduceAdd]
   repeat (first | go_big_quiet_skip | (go_big_quiet_want; first | (refine quiet_loadAny (t := 3) rfl _ _ _ rfl (fun w hw => run_load_int ((ov_B p4 w hw).cellL 2 rfl)) (by rfl) ?_; simp only [putS]; go_big_quiet_on) | (go_big_quiet_op; go_big_quiet_on)))
   refine wpQuiet_nil ?_
   (refine wpList_allocBk (t := 83) rfl _ (run_alloc_St _ _ rfl) ?_; intro b_p9 wn hle hge ht hbn hzn; have hsz := B.size; replace B := B.trans (hbn.mono (by omega)); have hln := Nat.lt_of_lt_of_eq (Nat.lt_succ_self _) hzn.symm; clear hzn; (try have hlt := p4.lt); (try replace p4 := p4.below (hbn.mono hle)); (try have hlt := p1.lt); (try replace p1 := p1.below (hbn.mono hle)); (try have hlt := p2.lt); (try replace p2 := p2.below (hbn.mono hle)); (try have hlt := HW.lt); (try replace HW := HW.below (hbn.mono hle)); have p9 := ht; clear ht; simp only [putS])
   (refine wpList_storeB (t := 83) rfl _ _ rfl _ rfl _ rfl p9 (by kernel_rfl) rfl (by simp [edC, Value.oneCell']) ?_; have p9o := p9; clear p9; intro wn ht hcn hzn; (try replace HW := HW.chg p9o (by omega) hcn); have hsz := B.size; replace hzn := Nat.le_of_eq hzn.symm; replace B := Exc.store B hcn (by omega); (try replace p4 := p4.of_eq (hcn.block _ p4.lt (by omega))); (try replace p1 := p1.of_eq (hcn.block _ p1.lt (by omega))); (try replace p2 := p2.of_eq (hcn.block _ p2.lt (by omega))); (try replace HW := HW.of_eq (hcn.block _ HW.lt (by omega))); have p9 := ht; clear ht; simp only [putS])
   refine wpList_nil ?_
   replace p9 : AtB 83 _ b_p9 #[.int .i64 x', .int .i64 y', .int .i64 q1] := p9
   have hI := HI.out.hold HW
   have k9 := p9.lt
   go_upto_region 7 with fail
   refine wp_region_lit ?_
   try simp only [gelS]
   refine wpList_chunk 2 (by kernel_rfl) ?_
   simp only [takS, Nat.reduceAdd]
   repeat (first | go_big_quiet_skip | (go_big_quiet_want; first | (refine quiet_loadAny (t := 83) rfl _ _ _ rfl (fun w hw => run_load_B (ov_B p9 w hw) Try.isAgg83 (by kernel_rfl)) (by rfl) ?_; simp only [putS]; go_big_quiet_on) | (refine quiet_loadAny (t := 80) rfl _ _ _ rfl (fun w hw => run_load_B (ov_B p2 w hw) Try.isAgg80 (by kernel_rfl)) (by rfl) ?_; simp only [putS]; go_big_quiet_on) | (go_big_quiet_op; go_big_quiet_on)))
   refine wpQuiet_nil ?_
   refine wpList_callF (by first | rfl | simp [Region.wanted, yielded]) rfl (enters_of Try.func51 (by kernel_rfl) rfl) (by simp only [Act.eval, evlS]; rfl) ?_
   refine (P_has r t ls th x' y' q1 false _ hI tk hn bx' by' b1 c1).mono ?_
   rintro e wn ⟨rfl, hbn⟩
   have hsz := B.size
   have hzn := hbn.size
   replace B := B.trans (hbn.mono B.size)
   (try replace p4 := p4.below hbn)
   (try replace p1 := p1.below hbn)
   (try replace p2 := p2.below hbn)
   (try replace HW := HW.below hbn)
   (try replace p9 := p9.below hbn)
   refine ⟨_, rfl, ?_⟩
   simp only [putS]
   refine wpList_nil ?_
   clear hI
   go_upto_region 9 with fail
   refine wp_region_lit ?_
   try simp only [gelS]
   refine wpList_chunk 2 (by kernel_rfl) ?_
   simp only [takS, Nat.reduceAdd]
   repeat (first | go_big_quiet_skip | (go_big_quiet_want; go_big_quiet_op; go_big_quiet_on))
   refine wpQuiet_nil ?_
   refine wpList_nil ?_
   clear p9 k9
   go_wp2
   rw [rounds_succ]
   go_upto_region 4 with fail
   refine wp_region_lit ?_
   try simp only [gelS]
   refine wpList_chunk 1 (by kernel_rfl) ?_
   simp only [takS, Nat.reduceAdd]
   repeat (first | go_big_quiet_skip | (go_big_quiet_want; go_big_quiet_op; go_big_quiet_on))
   refine wpQuiet_nil ?_
   refine wpList_nil ?_
   go_upto_region 5 with fail
   refine wp_region_lit ?_
   try simp only [gelS]
   refine wpList_chunk 2 (by kernel_rfl) ?_
   simp only [takS, Nat.reduceAdd]
   repeat (first | go_big_quiet_skip | (go_big_quiet_want; first | (refine quiet_indexA rfl #[.int .i64 1, .int .i64 0, .int .i64 3] rfl (1) rfl (.int .i64 (0)) (fun w => by kernel_rfl) ?_; simp only [putS]; go_big_quiet_on) | (go_big_quiet_op; go_big_quiet_on)))
   refine wpQuiet_nil ?_
   refine wpList_nil ?_
   go_upto_region 6 with fail
   refine wp_region_lit ?_
   try simp only [gelS]
   refine wpList_chunk 8 (by kernel_rfl) ?_
   simp only [takS, Nat.reduceAdd]
   repeat (first | go_big_quiet_skip | (go_big_quiet_want; first | (refine quiet_loadAny (t := 3) rfl _ _ _ rfl (fun w hw => run_load_int ((ov_B p4 w hw).cellL 2 rfl)) (by rfl) ?_; simp only [putS]; go_big_quiet_on) | (go_big_quiet_op; go_big_quiet_on)))
   refine wpQuiet_nil ?_
   (refine wpList_allocBk (t := 83) rfl _ (run_alloc_St _ _ rfl) ?_; intro b_p9 wn hle hge ht hbn hzn; have hsz := B.size; replace B := B.trans (hbn.mono (by omega)); have hln := Nat.lt_of_lt_of_eq (Nat.lt_succ_self _) hzn.symm; clear hzn; (try have hlt := p4.lt); (try replace p4 := p4.below (hbn.mono hle)); (try have hlt := p1.lt); (try replace p1 := p1.below (hbn.mono hle)); (try have hlt := p2.lt); (try replace p2 := p2.below (hbn.mono hle)); (try have hlt := HW.lt); (try replace HW := HW.below (hbn.mono hle)); have p9 := ht; clear ht; simp only [putS])
   (refine wpList_storeB (t := 83) rfl _ _ rfl _ rfl _ rfl p9 (by kernel_rfl) rfl (by simp [edC, Value.oneCell']) ?_; have p9o := p9; clear p9; intro wn ht hcn hzn; (try replace HW := HW.chg p9o (by omega) hcn); have hsz := B.size; replace hzn := Nat.le_of_eq hzn.symm; replace B := Exc.store B hcn (by omega); (try replace p4 := p4.of_eq (hcn.block _ p4.lt (by omega))); (try replace p1 := p1.of_eq (hcn.block _ p1.lt (by omega))); (try replace p2 := p2.of_eq (hcn.block _ p2.lt (by omega))); (try replace HW := HW.of_eq (hcn.block _ HW.lt (by omega))); have p9 := ht; clear ht; simp only [putS])
   refine wpList_nil ?_
   replace p9 : AtB 83 _ b_p9 #[.int .i64 x', .int .i64 y', .int .i64 d] := p9
   have hI := HI.out.hold HW
   have k9 := p9.lt
   go_upto_region 7 with fail
   refine wp_region_lit ?_
   try simp only [gelS]
   refine wpList_chunk 2 (by kernel_rfl) ?_
   simp only [takS, Nat.reduceAdd]
   repeat (first | go_big_quiet_skip | (go_big_quiet_want; first | (refine quiet_loadAny (t := 83) rfl _ _ _ rfl (fun w hw => run_load_B (ov_B p9 w hw) Try.isAgg83 (by kernel_rfl)) (by rfl) ?_; simp only [putS]; go_big_quiet_on) | (refine quiet_loadAny (t := 80) rfl _ _ _ rfl (fun w hw => run_load_B (ov_B p2 w hw) Try.isAgg80 (by kernel_rfl)) (by rfl) ?_; simp only [putS]; go_big_quiet_on) | (go_big_quiet_op; go_big_quiet_on)))
   refine wpQuiet_nil ?_
   refine wpList_callF (by first | rfl | simp [Region.wanted, yielded]) rfl (enters_of Try.func51 (by kernel_rfl) rfl) (by simp only [Act.eval, evlS]; rfl) ?_
   refine (P_has r t ls th x' y' d false _ hI tk hn bx' by' hd c2).mono ?_
   rintro e wn ⟨rfl, hbn⟩
   have hsz := B.size
   have hzn := hbn.size
   replace B := B.trans (hbn.mono B.size)
   (try replace p4 := p4.below hbn)
   (try replace p1 := p1.below hbn)
   (try replace p2 := p2.below hbn)
   (try replace HW := HW.below hbn)
   (try replace p9 := p9.below hbn)
   refine ⟨_, rfl, ?_⟩
   simp only [putS]
   refine wpList_nil ?_
   clear hI
   go_upto_region 9 with fail
   refine wp_region_lit ?_
   try simp only [gelS]
   refine wpList_chunk 2 (by kernel_rfl) ?_
   simp only [takS, Nat.reduceAdd]
   repeat (first | go_big_quiet_skip | (go_big_quiet_want; go_big_quiet_op; go_big_quiet_on))
   refine wpQuiet_nil ?_
   refine wpList_nil ?_
   clear p9 k9
   go_wp2
   rw [rounds_succ]
   go_upto_region 4 with fail
   refine wp_region_lit ?_
   try simp only [gelS]
   refine wpList_chunk 1 (by kernel_rfl) ?_
   simp only [takS, Nat.reduceAdd]
   repeat (first | go_big_quiet_skip | (go_big_quiet_want; go_big_quiet_op; go_big_quiet_on))
   refine wpQuiet_nil ?_
   refine wpList_nil ?_
   go_upto_region 5 with fail
   refine wp_region_lit ?_
   try simp only [gelS]
   refine wpList_chunk 2 (by kernel_rfl) ?_
   simp only [takS, Nat.reduceAdd]
   repeat (first | go_big_quiet_skip | (go_big_quiet_want; first | (refine quiet_indexA rfl #[.int .i64 1, .int .i64 0, .int .i64 3] rfl (2) rfl (.int .i64 (3)) (fun w => by kernel_rfl) ?_; simp only [putS]; go_big_quiet_on) | (go_big_quiet_op; go_big_quiet_on)))
   refine wpQuiet_nil ?_
   refine wpList_nil ?_
   go_upto_region 6 with fail
   refine wp_region_lit ?_
   try simp only [gelS]
   refine wpList_chunk 8 (by kernel_rfl) ?_
   simp only [takS, Nat.reduceAdd]
   repeat (first | go_big_quiet_skip | (go_big_quiet_want; first | (refine quiet_loadAny (t := 3) rfl _ _ _ rfl (fun w hw => run_load_int ((ov_B p4 w hw).cellL 2 rfl)) (by rfl) ?_; simp only [putS]; go_big_quiet_on) | (go_big_quiet_op; go_big_quiet_on)))
   refine wpQuiet_nil ?_
   (refine wpList_allocBk (t := 83) rfl _ (run_alloc_St _ _ rfl) ?_; intro b_p9 wn hle hge ht hbn hzn; have hsz := B.size; replace B := B.trans (hbn.mono (by omega)); have hln := Nat.lt_of_lt_of_eq (Nat.lt_succ_self _) hzn.symm; clear hzn; (try have hlt := p4.lt); (try replace p4 := p4.below (hbn.mono hle)); (try have hlt := p1.lt); (try replace p1 := p1.below (hbn.mono hle)); (try have hlt := p2.lt); (try replace p2 := p2.below (hbn.mono hle)); (try have hlt := HW.lt); (try replace HW := HW.below (hbn.mono hle)); have p9 := ht; clear ht; simp only [putS])
   (refine wpList_storeB (t := 83) rfl _ _ rfl _ rfl _ rfl p9 (by kernel_rfl) rfl (by simp [edC, Value.oneCell']) ?_; have p9o := p9; clear p9; intro wn ht hcn hzn; (try replace HW := HW.chg p9o (by omega) hcn); have hsz := B.size; replace hzn := Nat.le_of_eq hzn.symm; replace B := Exc.store B hcn (by omega); (try replace p4 := p4.of_eq (hcn.block _ p4.lt (by omega))); (try replace p1 := p1.of_eq (hcn.block _ p1.lt (by omega))); (try replace p2 := p2.of_eq (hcn.block _ p2.lt (by omega))); (try replace HW := HW.of_eq (hcn.block _ HW.lt (by omega))); have p9 := ht; clear ht; simp only [putS])
   refine wpList_nil ?_
   replace p9 : AtB 83 _ b_p9 #[.int .i64 x', .int .i64 y', .int .i64 q3] := p9
   have hI := HI.out.hold HW
   have k9 := p9.lt
   go_upto_region 7 with fail
   refine wp_region_lit ?_
   try simp only [gelS]
   refine wpList_chunk 2 (by kernel_rfl) ?_
   simp only [takS, Nat.reduceAdd]
   repeat (first | go_big_quiet_skip | (go_big_quiet_want; first | (refine quiet_loadAny (t := 83) rfl _ _ _ rfl (fun w hw => run_load_B (ov_B p9 w hw) Try.isAgg83 (by kernel_rfl)) (by rfl) ?_; simp only [putS]; go_big_quiet_on) | (refine quiet_loadAny (t := 80) rfl _ _ _ rfl (fun w hw => run_load_B (ov_B p2 w hw) Try.isAgg80 (by kernel_rfl)) (by rfl) ?_; simp only [putS]; go_big_quiet_on) | (go_big_quiet_op; go_big_quiet_on)))
   refine wpQuiet_nil ?_
   refine wpList_callF (by first | rfl | simp [Region.wanted, yielded]) rfl (enters_of Try.func51 (by kernel_rfl) rfl) (by simp only [Act.eval, evlS]; rfl) ?_
   refine (P_has r t ls th x' y' q3 true _ hI tk hn bx' by' b3 c3).mono ?_
   rintro e wn ⟨rfl, hbn⟩
   have hsz := B.size
   have hzn := hbn.size
   replace B := B.trans (hbn.mono B.size)
   (try replace p4 := p4.below hbn)
   (try replace p1 := p1.below hbn)
   (try replace p2 := p2.below hbn)
   (try replace HW := HW.below hbn)
   (try replace p9 := p9.below hbn)
   refine ⟨_, rfl, ?_⟩
   simp only [putS]
   refine wpList_nil ?_
   clear hI
   go_upto_region 8 with fail
   refine wp_region_lit ?_
   try simp only [gelS]
   refine wpList_chunk 1 (by kernel_rfl) ?_
   simp only [takS, Nat.reduceAdd]
   repeat (first | go_big_quiet_skip | (go_big_quiet_want; first | (refine quiet_loadAny (t := 83) rfl _ _ _ rfl (fun w hw => run_load_B (ov_B p9 w hw) Try.isAgg83 (by kernel_rfl)) (by rfl) ?_; simp only [putS]; go_big_quiet_on) | (go_big_quiet_op; go_big_quiet_on)))
   refine wpQuiet_nil ?_
   (refine wpList_storeB (t := 83) rfl _ _ rfl _ rfl _ rfl p4 (by kernel_rfl) rfl (by simp [edC, Value.oneCell']) ?_; have p4o := p4; clear p4; intro wn ht hcn hzn; (try replace HW := HW.chg p4o (by omega) hcn); have hsz := B.size; replace hzn := Nat.le_of_eq hzn.symm; replace B := Exc.chg B hcn; (try replace p1 := p1.of_eq (hcn.block _ p1.lt (by omega))); (try replace p2 := p2.of_eq (hcn.block _ p2.lt (by omega))); (try replace HW := HW.of_eq (hcn.block _ HW.lt (by omega))); have p4 := ht; clear ht; simp only [putS])
   refine wpList_nil ?_
   replace p4 : AtB 83 _ c #[.int .i64 x', .int .i64 y', .int .i64 q3] := p4
   replace p4 : AtB 83 _ c (edC ⟨x', y', q3⟩) := p4
   rw [← HD.out] at p4
   go_upto_region 10 with fail
   by_cases hlast : k + 1 = perE (setG ls th) R s
   ·have he2 := hend.out hlast
    have q2 : decide ((⟨x', y', d'⟩ : Ed) = s) = true := decide_eq_true he2
    refine wp_region_lit ?_
    try simp only [gelS]
    refine wpList_chunk 3 (by kernel_rfl) ?_
    simp only [takS, Nat.reduceAdd]
    repeat (first | go_big_quiet_skip | (go_big_quiet_want; first | (refine quiet_loadAny (t := 83) rfl _ _ _ rfl (fun w hw => run_load_B (ov_B p4 w hw) Try.isAgg83 (by kernel_rfl)) (by rfl) ?_; simp only [putS]; go_big_quiet_on) | (refine quiet_loadAny (t := 83) rfl _ _ _ rfl (fun w hw => run_load_B (ov_B p1 w hw) Try.isAgg83 (by kernel_rfl)) (by rfl) ?_; simp only [putS]; go_big_quiet_on) | (refine quiet_eqlS rfl ⟨x', y', d'⟩ s rfl rfl _ q2 ?_; simp only [putS]; go_big_quiet_on) | (go_big_quiet_op; go_big_quiet_on)))
    refine wpQuiet_nil ?_
    refine wpList_nil ?_
    go_wp2
    refine bodyPost_ret (results_none rfl _ _ _) rfl ?_
    exact ⟨⟨_, rfl⟩, _, rfl, by unfold folE; rw [← hlast]; exact HJ.out _ _ _ hJ1 B⟩
   ·have q2 : decide ((⟨x', y', d'⟩ : Ed) = s) = false := decide_eq_false (hgo.out (by omega))
    refine wp_region_lit ?_
    try simp only [gelS]
    refine wpList_chunk 3 (by kernel_rfl) ?_
    simp only [takS, Nat.reduceAdd]
    repeat (first | go_big_quiet_skip | (go_big_quiet_want; first | (refine quiet_loadAny (t := 83) rfl _ _ _ rfl (fun w hw => run_load_B (ov_B p4 w hw) Try.isAgg83 (by kernel_rfl)) (by rfl) ?_; simp only [putS]; go_big_quiet_on) | (refine quiet_loadAny (t := 83) rfl _ _ _ rfl (fun w hw => run_load_B (ov_B p1 w hw) Try.isAgg83 (by kernel_rfl)) (by rfl) ?_; simp only [putS]; go_big_quiet_on) | (refine quiet_eqlS rfl ⟨x', y', d'⟩ s rfl rfl _ q2 ?_; simp only [putS]; go_big_quiet_on) | (go_big_quiet_op; go_big_quiet_on)))
    refine wpQuiet_nil ?_
    refine wpList_nil ?_
    go_wp2
    have hR2 : ∃ k, (m - 1) + k = perE (setG ls th) R s ∧ 0 < (m - 1) ∧ J (orbK (setG ls th) s k) wn ∧ AtB 83 wn c (edC (orbE (setG ls th) s k)) ∧ AtB 83 wn bs (edC s) ∧ AtB 80 wn bb #[fB r t] ∧ HoldC wI.heap.size wI wn :=
     ⟨k + 1, by omega, by omega, HJ.out _ _ _ hJ1 B, by rw [HE'.out]; exact p4, p1, p2, HW⟩
    go_roundw
    case rel => exact ⟨_, hR2⟩
    case measure => exact Nat.lt_of_le_of_lt (eps_le hR2) (by omega)
end Go.Proofs.Ytamgpfblhlfhaaa
/- The map of the edges that are done; marks of several ranges. -/
namespace Go.Proofs.Ytamgpfblhlfhaaa
open Go.RowKit Go.Shelf Pl
set_option linter.unusedVariables false
set_option linter.unusedSimpArgs false
set_option maxRecDepth 20000
theorem laidP : laidOutB Try.prog = true := by kernel_rfl
theorem stepK : Go.Maps.Keyed Try.prog 83 := Go.Maps.Keyed.of_law (deep_law_gate laidP (of_decide_eq_true (by kernel_rfl)) (of_decide_eq_true (by kernel_rfl)) (by kernel_rfl) (by rw [Try.underlying83]))
def keyE (e : Ed) : Lit := .string (keyBytes [.int .i64 e.x, .int .i64 e.y, .int .i64 e.d])
def WfE (e : Ed) : Prop := (Lit.int .i64 e.x).wf = true ∧ (Lit.int .i64 e.y).wf = true ∧ (Lit.int .i64 e.d).wf = true
theorem key_at {e : Ed} (h : WfE e) : keyOf Try.prog 83 (.agg (edC e)) = some (keyE e) := by
 obtain ⟨h1, h2, h3⟩ := h
 have ht : Try.prog.keyType 83 = true := by kernel_rfl
 have hc : Try.prog.cellsOf 83 = 3 := by kernel_rfl
 have hi : Try.prog.cellsOf 3 = 1 := by kernel_rfl
 unfold keyOf
 rw [Try.underlying83]
 simp only [ht]
 have hf : (Value.agg (edC e)).formed Try.prog 83 = true := by simp [Value.formed, Try.underlying83, hc, edC]
 rw [hf]
 have hpos : 1 ≤ Try.prog.types.size := of_decide_eq_true (by kernel_rfl)
 obtain ⟨M, hM⟩ : ∃ M, Try.prog.types.size = M + 1 := ⟨Try.prog.types.size - 1, by omega⟩
 rw [hM]
 simp only [Bool.and_self, if_true, Program.keyLits, Try.underlying83, hc]
 simp [edC, Value.cells, hi, Try.underlying3, h1, h2, h3, keyE]
theorem key_inj {e f : Ed} (he : WfE e) (hf : WfE f) (h : keyE e = keyE f) : e = f := by
 have h1 := key_at he
 rw [h] at h1
 have := stepK.inj h1 (key_at hf)
 obtain ⟨x, y, d⟩ := e
 obtain ⟨x', y', d'⟩ := f
 simpa [edC] using this
/-- The block b is the map of the edges L. -/
def DoneM (b : Nat) (L : List Ed) (w : World) : Prop := (∀ e ∈ L, WfE e) ∧ ∃ n, n ≤ L.length ∧ w.ownsMap Try.prog 83 (plainElem (H := Unit) Try.prog 4) b n (Maps.setOf (.lit (.bool true)) (L.map keyE))
theorem DoneM.lt {b : Nat} {L : List Ed} {w : World} (h : DoneM b L w) : b < w.heap.size := by
 obtain ⟨_, n, _, h⟩ := h
 exact h.lt
theorem DoneM.kept {b : Nat} {L : List Ed} {w w' : World} {row : Option Nat} (h : DoneM b L w) (hg : w.grownBy w' row) (hne : some b ≠ row) : DoneM b L w' := by
 obtain ⟨h1, n, h2, h⟩ := h
 exact ⟨h1, n, h2, h.kept hg hne⟩
theorem DoneM.below {b : Nat} {L : List Ed} {w w' : World} (h : DoneM b L w) (hb : Below w.heap.size w w') : DoneM b L w' := h.kept (grown_of_below hb) (fun e => by cases e)
theorem DoneM.obj {b : Nat} {L : List Ed} {w : World} (h : DoneM b L w) : ∃ es c, w.heap[b]? = some (.map es c) := by
 obtain ⟨_, n, _, es, c, h, _⟩ := h
 exact ⟨es, c, h⟩
theorem DoneM.chg {b c : Nat} {L : List Ed} {t : TypeId} {cs : Array Value} {w w' : World} (h : DoneM b L w) (ha : AtB t w c cs) (_ : True) (hc : Chg c w w') : DoneM b L w' :=
 h.kept (row := some c) ⟨hc.os, hc.tape, hc.output, hc.size, fun k hk hne => hc.block k hk (fun e => hne (by rw [e]))⟩ (fun e => by
  injection e with e
  obtain ⟨es, cl, ho⟩ := h.obj
  rw [e, show w.heap[c]? = _ from ha] at ho
  cases ho)
theorem DoneM.nil {b : Nat} {w : World} (h : w.heap[b]? = some (.map #[] 0)) : DoneM b [] w := ⟨fun e he => (by cases he), 0, Nat.le_refl _, Go.Joins.ownsMap_empty h⟩
theorem atKey_fold (u z : DataW Unit) (k : Lit) : ∀ (acc : List Lit) (m : DataW Unit), Maps.IsMap m → (∀ x ∈ acc, WideAt.IsKeyLit x) → (k ∈ acc → (acc.foldl (fun m x => m.put x u) m).atKey k z = u) ∧ (k ∉ acc → (acc.foldl (fun m x => m.put x u) m).atKey k z = m.atKey k z)
 | [], m, _, _ => ⟨fun h => (by cases h), fun _ => rfl⟩
 | x :: r, m, hm, h => by
  rw [List.foldl_cons]
  obtain ⟨i1, i2⟩ := atKey_fold u z k r (m.put x u) (hm.put x u) (fun y hy => h y (by simp [hy]))
  refine ⟨fun hk => ?_, fun hk => ?_⟩
  ·by_cases hr : k ∈ r
   ·exact i1 hr
   ·rw [i2 hr]
    rcases List.mem_cons.1 hk with e | e
    ·subst e
     exact Maps.atKey_put_same hm (h k (by simp)) u z
    ·exact absurd e hr
  ·rw [i2 (fun hr => hk (List.mem_cons_of_mem _ hr)), Maps.atKey_put_other (fun e => hk (by rw [e]; simp))]
theorem atKey_done {L : List Ed} {e : Ed} (hL : ∀ f ∈ L, WfE f) (he : WfE e) : (Maps.setOf (.lit (.bool true)) (L.map keyE) : DataW Unit).atKey (keyE e) (.lit (.bool false)) = .lit (.bool (decide (e ∈ L))) := by
 unfold Maps.setOf
 obtain ⟨i1, i2⟩ := atKey_fold (.lit (.bool true)) (.lit (.bool false)) (keyE e) (L.map keyE) (.map []) Maps.isMap_empty (fun x hx => by
  obtain ⟨f, hf, rfl⟩ := List.mem_map.1 hx
  exact stepK.key (key_at (hL f hf)))
 by_cases h : e ∈ L
 ·rw [i1 (List.mem_map.2 ⟨e, h, rfl⟩), decide_eq_true h]
 ·rw [i2 (fun hm => by
   obtain ⟨f, hf, hk⟩ := List.mem_map.1 hm
   exact h (key_inj (hL f hf) he hk ▸ hf)), decide_eq_false h]
  rfl
theorem DoneM.look {b : Nat} {L : List Ed} {w : World} (h : DoneM b L w) {e : Ed} (he : WfE e) : (Instr.lookup 81 (.map (some b)) (.agg (edC e)) false).run Try.prog w = .ok (.bool (decide (e ∈ L))) w := by
 obtain ⟨h1, n, _, ho⟩ := h
 obtain ⟨v, ps, hr, hv⟩ := ho.lookup (t := 81) (e := 4) stepK Try.underlying81 (z := .bool false) (by kernel_rfl) (zd := .lit (.bool false)) (zp := []) (by unfold plainElem; rw [Try.underlying4]) (key_at he)
 rw [atKey_done h1 he] at hv
 rw [hr]
 unfold plainElem at hv
 rw [Try.underlying4] at hv
 cases v <;> simp at hv
 rw [hv.1]
section
variable {ops : Array Oper} {rest : List Oper} {o : Oper} {a : Act} {w : World} {Q : Exit → Act → World → Prop}
theorem wpList_done (hg : o.guard = none) (m x : Operand) (hop : o.op = .mapUpdate 81 m x (.const (.bool true))) {b : Nat} {L : List Ed} (hm : a.eval m = .map (some b)) (hd : DoneM b L w) (e : Ed) (hx : a.eval x = .agg (edC e)) (he : WfE e) (hn : L.length < maxLen)
  (h : ∀ w', DoneM b (L ++ [e]) w' → w.grownBy w' (some b) → wpList Try.prog ops Q rest (a.put o.dst undef) w') : wpList Try.prog ops Q (o :: rest) a w := by
 obtain ⟨h1, n, hnl, ho⟩ := hd
 refine wpList_mapUpdate_own (H := Unit) w hg m x (.const (.bool true)) 81 hop 83 4 stepK Try.underlying81 _ b n _ hm ho (by omega) _ (.bool true) _ hx rfl (key_at he) (.lit (.bool true)) [] (by unfold plainElem; rw [Try.underlying4]) fun w' h2 h3 => h w' ⟨fun f hf => ?_, n + 1, by rw [List.length_append]; simp; omega, ?_⟩ h3
 ·rcases List.mem_append.1 hf with hf | hf
  ·exact h1 f hf
  ·rw [List.mem_singleton.1 hf]; exact he
 ·rw [List.map_append, List.map_singleton, Maps.setOf_snoc]
  exact h2
end
/-! ### Marks -/
/-- The marks that ranges have left: blocks from n on, each another. -/
def Marks (n : Nat) : List Deferred → World → Prop
 | [], _ => True
 | d :: ds, w => (∃ D, d = { target := .collected D, args := #[] } ∧ n ≤ D ∧ DefAt w D ∧ ∀ D', { target := .collected D', args := #[] } ∈ ds → D' ≠ D) ∧ Marks n ds w
theorem Marks.kept {n : Nat} {w w' : World} : ∀ {ds : List Deferred}, Marks n ds w → (∀ D, DefAt w D → { target := .collected D, args := #[] } ∈ ds → DefAt w' D) → Marks n ds w'
 | [], _, _ => trivial
 | d :: ds, ⟨⟨D, e, hn, hD, hne⟩, h⟩, hk => ⟨⟨D, e, hn, hk D hD (by rw [e]; simp), hne⟩, Marks.kept h (fun D' h1 h2 => hk D' h1 (by simp [h2]))⟩
theorem Marks.below {n : Nat} {w w' : World} {ds : List Deferred} (h : Marks n ds w) (hb : Below w.heap.size w w') : Marks n ds w' := h.kept fun D hD _ => hD.of_eq (hb.block _ hD.lt)
theorem Marks.chg {n c : Nat} {ds : List Deferred} {t : TypeId} {cs : Array Value} {w w' : World} (h : Marks n ds w) (ha : AtB t w c cs) (_ : True) (hc : Chg c w w') : Marks n ds w' := h.kept fun D hD _ => hD.of_eq (hc.block _ hD.lt (fun e => hD.ne ha e.symm))
theorem Marks.lt {n : Nat} {w : World} : ∀ {ds : List Deferred}, Marks n ds w → ∀ D, { target := .collected D, args := #[] } ∈ ds → D < w.heap.size
 | d :: ds, ⟨⟨D, e, hn, hD, hne⟩, h⟩, D', hm => by
  rcases List.mem_cons.1 hm with hm | hm
  ·rw [e] at hm
   simp at hm
   rw [hm]; exact hD.lt
  ·exact Marks.lt h D' hm
theorem Marks.leaves {F : Fence} {m : Nat} {P : Program} {fn : Func} {tmps : Array Value} {R : Ending → World → Prop} {n : Nat} {I : World → Prop} (hI : ∀ w D, n ≤ D → DefAt w D → I w → I (w.putObj D (.deferred none))) (hR : ∀ w, I w → LeavesIn F m P fn tmps R [] .returning w) :
  ∀ {ds : List Deferred} {w : World}, Marks n ds w → I w → LeavesInM F m P fn tmps R ds .returning w
 | [], w, _, h => hR w h
 | d :: ds, w, ⟨⟨D, e, hn, hD, hne⟩, h⟩, hi => by
  refine ⟨by simp, .inl ⟨D, _, by rw [e], run_takeDeferred hD, ?_⟩⟩
  refine Marks.leaves hI hR (h.kept fun D' h1 h2 => ?_) (hI w D hn hD hi)
  exact (World.putObj_heap_other (hne D' h2)).trans h1
/- Lists of edges; lists of polygons: slices of slices that the call owns. -/
def edE : Elt Ed 3 83 85 where
 enc := edC
 bytes := 24
 zero := ⟨0, 0, 0⟩
 size := fun _ => rfl
 one := fun x u hu => by
  have : u ∈ [Value.int .i64 x.x, .int .i64 x.y, .int .i64 x.d] := hu
  rcases List.mem_cons.1 this with rfl | this
  ·rfl
  ·rcases List.mem_cons.1 this with rfl | this
   ·rfl
   ·rw [List.mem_singleton.1 this]; rfl
 pos := by omega
 small := by omega
 und := Try.underlying85
 info := by kernel_rfl
 zer := by kernel_rfl
def rdE : Elt Ed 3 92 90 where
 enc := edC
 bytes := 24
 zero := ⟨0, 0, 0⟩
 size := fun _ => rfl
 one := fun x u hu => by
  have : u ∈ [Value.int .i64 x.x, .int .i64 x.y, .int .i64 x.d] := hu
  rcases List.mem_cons.1 this with rfl | this
  ·rfl
  ·rcases List.mem_cons.1 this with rfl | this
   ·rfl
   ·rw [List.mem_singleton.1 this]; rfl
 pos := by omega
 small := by omega
 und := Try.underlying90
 info := by kernel_rfl
 zer := by kernel_rfl
structure Slc where
 a : Option Addr
 n : Nat
 c : Nat
def Slc.v (s : Slc) : Value := .slice s.a s.n s.c
def slE : Elt Slc 1 22 39 where
 enc := fun s => #[s.v]
 bytes := 24
 zero := ⟨none, 0, 0⟩
 size := fun _ => rfl
 one := fun x u hu => by
  have : u ∈ [x.v] := hu
  rw [List.mem_singleton.1 this]; rfl
 pos := by omega
 small := by omega
 und := Try.underlying39
 info := by kernel_rfl
 zer := by kernel_rfl
section
variable {α β : Type} {k k' : Nat} {T ST T' ST' : TypeId} {E : Elt α k T ST} {E' : Elt β k' T' ST'} {B B' : Nat} {v v' : Value} {ls : List α} {ls' : List β} {w w' : World}
theorem OwnE.kept {row : Option Nat} (h : OwnE E B v ls w) (hg : w.grownBy w' row) (hne : v.ownBlock = none ∨ v.ownBlock ≠ row) : OwnE E B v ls w' := World.ownsRow.kept h hg hne
theorem OwnE.obj {g : Nat} (h : OwnE E B v ls w) (hv : v.ownBlock = some g) : ∃ cur, w.heap[g]? = some (.cells cur T (0, 0)) := by
 obtain ⟨_, h2⟩ := h
 rcases h2 with ⟨rfl, _⟩ | ⟨g', cap, cur, rfl, _, hg, _⟩
 ·cases hv
 ·have : g' = g := by simpa [Value.ownBlock] using hv
  rw [← this]
  exact ⟨cur, hg⟩
theorem OwnE.ne_obj {o : Obj} {r : Nat} (h : OwnE E B v ls w) (hr : w.heap[r]? = some o) (hT : ∀ cur, o ≠ .cells cur T (0, 0)) : v.ownBlock = none ∨ v.ownBlock ≠ some r := by
 cases hv : v.ownBlock with
 | none => exact .inl rfl
 | some g =>
  right
  intro e
  injection e with e
  obtain ⟨cur, hc⟩ := h.obj hv
  rw [e, hr] at hc
  injection hc with hc
  exact hT cur hc
theorem OwnE.ne_of (hT : T ≠ T') (h : OwnE E B v ls w) (h' : OwnE E' B' v' ls' w) : v.ownBlock = none ∨ v.ownBlock ≠ v'.ownBlock := by
 cases hv' : v'.ownBlock with
 | none =>
  cases hv : v.ownBlock with
  | none => exact .inl rfl
  | some g => exact .inr (by simp)
 | some r =>
  obtain ⟨cur, hc⟩ := h'.obj hv'
  exact h.ne_obj hc (fun cur' e => by
   injection e with _ e
   exact hT e.symm)
theorem OwnE.blk (h : OwnE E B v ls w) {g : Nat} (hv : v.ownBlock = some g) : B ≤ g ∧ g < w.heap.size := World.ownsRow.lt h g hv
variable {ops : Array Oper} {rest : List Oper} {o : Oper} {a : Act} {Q : Exit → Act → World → Prop}
/-- A slice appended to a row of the call's own: which block is turned. -/
theorem wpList_appendXB (hg : o.guard = none) (s x : Operand) (ho : o.op = .call { callee := .builtin .append, args := #[s, x], argTypes := #[ST, ST] }) (v u : Value) (hs : a.eval s = v) (hx : a.eval x = u) {ks : List α} (hown : OwnE E B v ls w) (hu : RSE E u ks w) (hks : 0 < ks.length) (hlen : ls.length + ks.length ≤ maxLen) (hby' : (ls.length + ks.length) * E.bytes ≤ 140737488355328) (hB : B ≤ w.heap.size)
  (h : ∀ v' w', OwnE E B v' (ls ++ ks) w' → w.grownBy w' v.ownBlock → wpList Try.prog ops Q rest (a.put o.dst v') w') : wpList Try.prog ops Q (o :: rest) a w := by
 obtain ⟨i, z, hi, hz, hsz, hby, hzc⟩ := E.facts
 have hzs : z.cells.size = k := by rw [hzc, E.size]
 obtain ⟨ad, c, rfl, hc⟩ := hu.len
 obtain ⟨g, of, rfl, sc⟩ := hu.at hks
 refine wpList_append_own (P := Try.prog) w hg s x ST ho B T i z k E.bytes E.und hi hz hsz hby hzs E.pos v ls.length (rowE E ls) hs hown ⟨g, of, none⟩ ks.length c (rowE E ks) hx (rowE_length E ks) ?_ (rowE_oneCell E ks) hlen hby' hB ?_
 ·intro j u hu
  have e : (⟨g, of, none⟩ : Addr).add j = ⟨g, of + j, none⟩ := by unfold Addr.add; split <;> simp_all
  rw [e]
  exact sc.row j u hu
 ·intro v' w' h1 h2 h3
  refine h v' w' ?_ h2
  unfold OwnE
  rw [rowE_append, List.length_append]
  exact h1
/-- A slice appended to a row of the call's own: which block is turned. -/
theorem wpList_appendX (hg : o.guard = none) (s x : Operand) (ho : o.op = .call { callee := .builtin .append, args := #[s, x], argTypes := #[ST, ST] }) (v u : Value) (hs : a.eval s = v) (hx : a.eval x = u) {ks : List α} (hown : OwnE E B v ls w) (hu : RSE E u ks w) (hks : 0 < ks.length) (hlen : ls.length + ks.length ≤ 100000000) (hB : B ≤ w.heap.size)
  (h : ∀ v' w', OwnE E B v' (ls ++ ks) w' → w.grownBy w' v.ownBlock → wpList Try.prog ops Q rest (a.put o.dst v') w') : wpList Try.prog ops Q (o :: rest) a w := by
 refine wpList_appendXB hg s x ho v u hs hx hown hu hks (by unfold maxLen; omega) ?_ hB h
 have := Nat.mul_le_mul hlen E.small
 omega
end
/-- v is a list of the polygons P: rows that the call owns. -/
def OwnP (B : Nat) (v : Value) (P : List (List Pnt)) (w : World) : Prop := ∃ vs : List Slc, OwnE slE B v vs w ∧ vs.length = P.length ∧ ∀ (i : Nat) (s : Slc) (l : List Pnt), vs[i]? = some s → P[i]? = some l → OwnE ptE B s.v l w
/-- v is a list of the polygons P. -/
def RPoly (v : Value) (P : List (List Pnt)) (w : World) : Prop := ∃ vs : List Slc, RSE slE v vs w ∧ vs.length = P.length ∧ ∀ (i : Nat) (s : Slc) (l : List Pnt), vs[i]? = some s → P[i]? = some l → RSE ptE s.v l w
section
variable {B : Nat} {v : Value} {P : List (List Pnt)} {w w' : World}
theorem OwnP.nil (B : Nat) (w : World) : OwnP B (.slice none 0 0) [] w := ⟨[], OwnE.nil B w, rfl, fun i s l h => (by simp at h)⟩
theorem OwnP.kept {row : Option Nat} (h : OwnP B v P w) (hg : w.grownBy w' row) (hr : ∀ r, row = some r → ∃ o : Obj, w.heap[r]? = some o ∧ (∀ cur, o ≠ .cells cur 22 (0, 0)) ∧ ∀ cur, o ≠ .cells cur 44 (0, 0)) : OwnP B v P w' := by
 obtain ⟨vs, h1, h2, h3⟩ := h
 have key : ∀ {α : Type} {k : Nat} {T ST : TypeId} {E : Elt α k T ST} {v : Value} {ls : List α}, OwnE E B v ls w → (∀ r, row = some r → ∃ o : Obj, w.heap[r]? = some o ∧ ∀ cur, o ≠ .cells cur T (0, 0)) → OwnE E B v ls w' := fun ho hrr => by
  refine ho.kept hg ?_
  cases hrow : row with
  | none =>
   rename_i v _
   cases hv : v.ownBlock with
   | none => exact .inl rfl
   | some g => exact .inr (by simp)
  | some r =>
   obtain ⟨o, h4, h5⟩ := hrr r hrow
   exact ho.ne_obj h4 h5
 exact ⟨vs, key h1 (fun r e => let ⟨o, a, b, _⟩ := hr r e; ⟨o, a, b⟩), h2, fun i s l a b => key (h3 i s l a b) (fun r e => let ⟨o, a, _, b⟩ := hr r e; ⟨o, a, b⟩)⟩
theorem OwnP.below (h : OwnP B v P w) (hb : Below w.heap.size w w') : OwnP B v P w' := h.kept (grown_of_below hb) (fun r e => by cases e)
theorem OwnP.mono {B' : Nat} (h : OwnP B v P w) (hb : B' ≤ B) : OwnP B' v P w := by
 obtain ⟨vs, h1, h2, h3⟩ := h
 exact ⟨vs, h1.mono hb, h2, fun i s l a b => (h3 i s l a b).mono hb⟩
theorem OwnP.len (h : OwnP B v P w) : ∃ a c, v = .slice a P.length c ∧ P.length ≤ c := by
 obtain ⟨vs, h1, h2, h3⟩ := h
 rw [← h2]
 exact h1.len
theorem OwnP.blk (h : OwnP B v P w) {g : Nat} (hv : v.ownBlock = some g) : B ≤ g ∧ g < w.heap.size ∧ ∃ cur, w.heap[g]? = some (.cells cur 22 (0, 0)) := by
 obtain ⟨vs, h1, h2, h3⟩ := h
 exact ⟨(h1.blk hv).1, (h1.blk hv).2, h1.obj hv⟩
theorem OwnP.rs (h : OwnP B v P w) : RPoly v P w := by
 obtain ⟨vs, h1, h2, h3⟩ := h
 exact ⟨vs, h1.rs, h2, fun i s l a b => (h3 i s l a b).rs⟩
theorem RPoly.below (h : RPoly v P w) (hb : Below w.heap.size w w') : RPoly v P w' := by
 obtain ⟨vs, h1, h2, h3⟩ := h
 exact ⟨vs, h1.below hb, h2, fun i s l a b => (h3 i s l a b).below hb⟩
theorem RPoly.len (h : RPoly v P w) : ∃ a c, v = .slice a P.length c ∧ P.length ≤ c := by
 obtain ⟨vs, h1, h2, h3⟩ := h
 rw [← h2]
 exact h1.len
variable {ops : Array Oper} {rest : List Oper} {o : Oper} {a : Act} {Q : Exit → Act → World → Prop}
/-- A polygon appended. -/
theorem wpList_appendP (hg : o.guard = none) (s x : Operand) (ho : o.op = .call { callee := .builtin .append, args := #[s, x], argTypes := #[39, 39] }) (v : Value) (hs : a.eval s = v) (sl : Slc) (l : List Pnt) {b : Nat} (hx : a.eval x = .slice (some ⟨b, 0, none⟩) 1 1) (hown : OwnP B v P w) (hb : AtB 22 w b #[sl.v]) (hl : OwnE ptE B sl.v l w) (hlen : P.length + 1 ≤ 100000000) (hB : B ≤ w.heap.size)
  (h : ∀ v' w', OwnP B v' (P ++ [l]) w' → w.grownBy w' v.ownBlock → wpList Try.prog ops Q rest (a.put o.dst v') w') : wpList Try.prog ops Q (o :: rest) a w := by
 obtain ⟨vs, h1, h2, h3⟩ := hown
 refine wpList_appendX (E := slE) hg s x ho v _ hs hx h1 (RSE.one (E := slE) (x := sl) hb) (by simp) (by rw [h2]; simpa using hlen) hB fun v' w' h4 h5 => h v' w' ⟨vs ++ [sl], h4, by simp [h2], fun i s l' hi hl' => ?_⟩ h5
 rw [List.getElem?_append] at hi hl'
 by_cases hlt : i < vs.length
 ·rw [if_pos hlt] at hi
  rw [if_pos (by omega)] at hl'
  exact (h3 i s l' hi hl').kept h5 ((h3 i s l' hi hl').ne_of (by decide) h1)
 ·rw [if_neg hlt] at hi
  rw [if_neg (by omega)] at hl'
  have e : i - vs.length = 0 := by
   have := (List.getElem?_eq_some_iff.1 hi).1
   simp at this
   omega
  rw [e] at hi
  rw [show i - P.length = 0 by omega] at hl'
  have e1 : sl = s := by simpa using hi
  have e2 : l = l' := by simpa using hl'
  subst e1 e2
  exact hl.kept h5 (hl.ne_of (by decide) h1)
end
end Go.Proofs.Ytamgpfblhlfhaaa
/- Plain: how many edges, how many polygons a scan has. -/
namespace Go.Proofs.Ytamgpfblhlfhaaa
open Go.RowKit Pl
set_option linter.unusedVariables false
set_option linter.unusedSimpArgs false
theorem scan1_len {S : Int → Int → Bool} {r : Rc} (hb : BoxE S r) (st : ScSt) (x y : Int) : (scan1 S r st x y).1.length ≤ st.1.length + boxN r ∧ (scan1 S r st x y).2.length ≤ st.2.length + 1 := by
 unfold scan1
 by_cases h : (decide ((⟨x, y, 0⟩ : Ed) ∈ st.1) || !hasE S x y 0) = true
 ·rw [if_pos h]; omega
 ·rw [if_neg h]
  simp only [Bool.or_eq_true, not_or, Bool.not_eq_true', Bool.not_eq_false] at h
  have hB : Bnd S ⟨x, y, 0⟩ := ⟨⟨Int.le_refl _, by show (0 : Int) ≤ 3; omega⟩, h.2⟩
  have := (perE_spec hb hB).2.2.1
  simp only [List.length_append, List.length_cons, List.length_nil]
  unfold folE
  rw [orbK_len]
  omega
theorem scanX_len {S : Int → Int → Bool} {r : Rc} (hb : BoxE S r) (y : Int) (st : ScSt) : ∀ k, (scanX S r y st k).1.length ≤ st.1.length + k * boxN r ∧ (scanX S r y st k).2.length ≤ st.2.length + k
 | 0 => by show st.1.length ≤ _ ∧ st.2.length ≤ _; omega
 | k + 1 => by
  have ih := scanX_len hb y st k
  have h1 := scan1_len hb (scanX S r y st k) (r.x0 + (k : Int)) y
  show (scan1 S r (scanX S r y st k) (r.x0 + (k : Int)) y).1.length ≤ _ ∧ _
  rw [Nat.succ_mul]
  exact ⟨by omega, by have h2 := h1.2; show (scan1 S r (scanX S r y st k) (r.x0 + (k : Int)) y).2.length ≤ _; omega⟩
theorem scanY_len {S : Int → Int → Bool} {r : Rc} (hb : BoxE S r) : ∀ k, (scanY S r k).1.length ≤ k * ((r.x1 - r.x0).toNat * boxN r) ∧ (scanY S r k).2.length ≤ k * (r.x1 - r.x0).toNat
 | 0 => by show (0 : Nat) ≤ _ ∧ (0 : Nat) ≤ _; omega
 | k + 1 => by
  have ih := scanY_len hb k
  have h1 := scanX_len hb (r.y0 + (k : Int)) (scanY S r k) (r.x1 - r.x0).toNat
  show (scanX S r (r.y0 + (k : Int)) (scanY S r k) (r.x1 - r.x0).toNat).1.length ≤ _ ∧ (scanX S r (r.y0 + (k : Int)) (scanY S r k) (r.x1 - r.x0).toNat).2.length ≤ _
  rw [Nat.succ_mul, Nat.succ_mul]
  omega
/-- In a small box. -/
theorem box_small {r : Rc} (h : -100 ≤ r.x0 ∧ r.x1 ≤ 100 ∧ -100 ≤ r.y0 ∧ r.y1 ≤ 100) : boxN r ≤ 161604 ∧ (r.x1 - r.x0).toNat ≤ 200 ∧ (r.y1 - r.y0).toNat ≤ 200 := by
 have h1 : (r.x1 - r.x0).toNat ≤ 200 := by omega
 have h2 : (r.y1 - r.y0).toNat ≤ 200 := by omega
 refine ⟨?_, h1, h2⟩
 unfold boxN
 have h3 := Nat.mul_le_mul (show 4 * ((r.x1 - r.x0).toNat + 1) ≤ 804 by omega) (show (r.y1 - r.y0).toNat + 1 ≤ 201 by omega)
 omega
theorem scan_small {S : Int → Int → Bool} {r : Rc} (hb : BoxE S r) (h : -100 ≤ r.x0 ∧ r.x1 ≤ 100 ∧ -100 ≤ r.y0 ∧ r.y1 ≤ 100) {i j : Nat} (hi : i ≤ (r.y1 - r.y0).toNat) (hj : j ≤ (r.x1 - r.x0).toNat) (y : Int) :
  (scanX S r y (scanY S r i) j).1.length ≤ 7000000000 ∧ (scanX S r y (scanY S r i) j).2.length ≤ 50000 := by
 obtain ⟨b1, b2, b3⟩ := box_small h
 have h1 := scanX_len hb y (scanY S r i) j
 have h2 := scanY_len hb i
 have m1 : j * boxN r ≤ 200 * 161604 := Nat.mul_le_mul (by omega) b1
 have m2 : (r.x1 - r.x0).toNat * boxN r ≤ 200 * 161604 := Nat.mul_le_mul b2 b1
 have m3 : i * ((r.x1 - r.x0).toNat * boxN r) ≤ 200 * (200 * 161604) := Nat.mul_le_mul (by omega) m2
 have m4 : i * (r.x1 - r.x0).toNat ≤ 200 * 200 := Nat.mul_le_mul (by omega) b2
 omega
/-- The direction that is tried j-th. -/
def dirF (d : Int) (j : Nat) : Int := (d + 1 + 3 * (j : Int)) % 4
/-- The first direction, of those tried so far, in which an edge goes on; -1 where none does. -/
def nxF (S : Int → Int → Bool) (x y d : Int) : Nat → Int
 | 0 => -1
 | j + 1 => if (hasE S x y (dirF d j) && decide (nxF S x y d j < 0)) = true then dirF d j else nxF S x y d j
end Go.Proofs.Ytamgpfblhlfhaaa
