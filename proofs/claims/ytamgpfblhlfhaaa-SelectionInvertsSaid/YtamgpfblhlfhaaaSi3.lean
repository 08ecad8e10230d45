import Derived.Test.YtamgpfblhlfhaaaSi2
import Derived.Deep.CutBlock
import Derived.Deep.DeepCutAuto
import Derived.Deep.MidRow
import Derived.Deep.Upon
import Derived.RangeFuncNested
import Derived.RangeFuncBound
import Derived.RangeFuncCalls
import Derived.RangeFuncLeaves
import Derived.OrdersIn
import Derived.OwnWalkIn
import Derived.TacticsInMore
import Derived.LoopNIn
import Derived.LoopIn

/- Contracts of the reference's Get, Put, Set; of equal, Equal. -/
namespace Go.Proofs.Ytamgpfblhlfhaaa
open Go.RowKit Go.Shelf Pl
set_option linter.unusedVariables false
set_option linter.unusedSimpArgs false
set_option maxRecDepth 20000
section
variable {o : Oper} {a : Act} {w : World} {Q : Exit → Act → World → Prop} {K : Act → World → Prop}
theorem owp_allocTb (ho : o.op = .alloc 103)
  (h : ∀ b w', w.heap.size ≤ b → b ≤ w.heap.size → TileAt w' b (fun _ => Px.zero) → Below b w w' → w'.heap.size = b + 1 → K (a.put o.dst (.pointer (some ⟨b, 0, none⟩))) w') : o.wp Try.prog a w K Q := by
 unfold Oper.wp
 rw [run_alloc_tile w o ho]
 exact h _ _ (Nat.le_refl _) (Nat.le_refl _) (by unfold TileAt; rw [heap_get_alloc, if_pos rfl]) ((Below.refl _ _).alloc (Nat.le_refl _) _) (World.size_alloc _ _)
theorem owp_allocBk {t : TypeId} (cs : Array Value) (hrun : ∀ ev, (execOp ev o).run Try.prog w = .ok (.value (.pointer (some ⟨w.heap.size, 0, none⟩))) (w.alloc (.cells cs t)))
  (h : ∀ b w', w.heap.size ≤ b → b ≤ w.heap.size → AtB t w' b cs → Below b w w' → w'.heap.size = b + 1 → K (a.put o.dst (.pointer (some ⟨b, 0, none⟩))) w') : o.wp Try.prog a w K Q := by
 unfold Oper.wp
 rw [hrun]
 exact h _ _ (Nat.le_refl _) (Nat.le_refl _) (by unfold AtB; rw [heap_get_alloc, if_pos rfl]) ((Below.refl _ _).alloc (Nat.le_refl _) _) (World.size_alloc _ _)
end
set_option maxHeartbeats 1000000 in
theorem R_PutR (v : Value) (ls : List TA) (x y : Int) (t : Nat → Px) (w : World) (h : RS v ls w) (tk : TokL ls) (hn : ls.length ≤ maxLen) (ht : Tok t) : Calls Try.prog 94 #[.agg #[v], .agg #[.int .i64 x, .int .i64 y], Tile.v t] w fun e w' => ∃ v', e = .returned (.agg #[v', .int .i64 (putE ls x y t)]) ∧ RS v' (putR ls x y t) w' ∧ Below w.heap.size w w' := by
 have B := Below.refl w.heap.size w
 obtain ⟨a', c', hT⟩ := R_Of v ls w h tk hn
 have HT := Lib.hid hT
 clear hT
 obtain ⟨a, c, rfl, hc⟩ := h.len
 cases hw : withinB x y with
 | false =>
  have e1 : putE ls x y t = 1 := by unfold putE; rw [hw]; rfl
  have e2 : putR ls x y t = [] := by unfold putR; rw [hw]; rfl
  rw [e1, e2]
  clear e1 e2
  go_enter Try.func94, Try.ntmps94
  go_wp2_with (first | (refine wpList_storeB (t := 76) rfl _ _ rfl _ rfl _ rfl g2 (by kernel_rfl) rfl (by simp [Value.oneCell']) ?_; clear g2; intro wn ht hcn hzn; have hsz := B.size; replace hzn := Nat.le_of_eq hzn.symm; replace B := Chg.below B hcn (by omega) B.size; (try replace r1 := r1.of_eq (hcn.block _ r1.lt (by omega))); (try replace p1 := p1.of_eq (hcn.block _ p1.lt (by omega))); (try replace u1 := u1.of_eq (hcn.block _ u1.lt (by omega))); have g2 := ht; clear ht; simp only [putS]) | (go_at_call 119; refine (R_within x y _).mono ?_; rintro e wn ⟨rfl, hbn⟩; have hsz := B.size; have hzn := hbn.size; replace B := B.trans (hbn.mono B.size); (try replace r1 := r1.below hbn); (try replace p1 := p1.below hbn); (try replace u1 := u1.below hbn); (try replace g2 := g2.below hbn)) | (refine wpList_loadAny (t := 105) rfl _ rfl _ _ _ rfl (run_load_B p1 Try.isAgg105 (by kernel_rfl)) (by rfl) ?_; simp only [putS]) | (have _ := u1; refine wpList_allocBk (t := 76) rfl _ (run_alloc_G _ _ rfl) ?_; intro b_g2 wn hle hge ht hbn hzn; have hsz := B.size; replace B := B.trans (hbn.mono (by omega)); have hln := Nat.lt_of_lt_of_eq (Nat.lt_succ_self _) hzn.symm; clear hzn; (try have hlt := r1.lt); (try replace r1 := r1.below (hbn.mono hle)); (try have hlt := p1.lt); (try replace p1 := p1.below (hbn.mono hle)); (try have hlt := u1.lt); (try replace u1 := u1.below (hbn.mono hle)); (try have hlt := g2.lt); (try replace g2 := g2.below (hbn.mono hle)); have g2 := ht; clear ht; simp only [putS]) | (have _ := p1; refine wpList_boxT' rfl _ rfl _ rfl ?_; intro b_u1 wn hle hge ht hbn hzn; have hsz := B.size; replace B := B.trans (hbn.mono (by omega)); have hln := Nat.lt_of_lt_of_eq (Nat.lt_succ_self _) hzn.symm; clear hzn; (try have hlt := r1.lt); (try replace r1 := r1.below (hbn.mono hle)); (try have hlt := p1.lt); (try replace p1 := p1.below (hbn.mono hle)); (try have hlt := u1.lt); (try replace u1 := u1.below (hbn.mono hle)); (try have hlt := g2.lt); (try replace g2 := g2.below (hbn.mono hle)); have u1 := ht; clear ht; simp only [putS]) | (have _ := r1; refine wpList_boxB (t := 105) rfl _ rfl _ rfl ?_; intro b_p1 wn hle hge ht hbn hzn; have hsz := B.size; replace B := B.trans (hbn.mono (by omega)); have hln := Nat.lt_of_lt_of_eq (Nat.lt_succ_self _) hzn.symm; clear hzn; (try have hlt := r1.lt); (try replace r1 := r1.below (hbn.mono hle)); (try have hlt := p1.lt); (try replace p1 := p1.below (hbn.mono hle)); (try have hlt := u1.lt); (try replace u1 := u1.below (hbn.mono hle)); (try have hlt := g2.lt); (try replace g2 := g2.below (hbn.mono hle)); have p1 := ht; clear ht; simp only [putS]) | (refine wpList_boxB (t := 36) rfl _ rfl _ rfl ?_; intro b_r1 wn hle hge ht hbn hzn; have hsz := B.size; replace B := B.trans (hbn.mono (by omega)); have hln := Nat.lt_of_lt_of_eq (Nat.lt_succ_self _) hzn.symm; clear hzn; (try have hlt := r1.lt); (try replace r1 := r1.below (hbn.mono hle)); (try have hlt := p1.lt); (try replace p1 := p1.below (hbn.mono hle)); (try have hlt := u1.lt); (try replace u1 := u1.below (hbn.mono hle)); (try have hlt := g2.lt); (try replace g2 := g2.below (hbn.mono hle)); have r1 := ht; clear ht; simp only [putS]) | fail)
  refine bodyPost_ret (results_B (t := 76) rfl _ _ (b_g2) rfl g2 Try.isAgg76 (by kernel_rfl)) rfl ?_
  exact ⟨_, rfl, RS.nil _, B⟩
 | true =>
  have SR := Lib.hid (validL_srt (fineL_valid ls))
  have CT : Hid (Tok (cleanT t)) := Lib.hid (fun i hi => cleanP_ok (ht i hi))
  have hfl := fineL_length ls
  have hpl := putL_length (fineL ls) x y (cleanT t)
  by_cases hm : (putL (fineL ls) x y (cleanT t)).length ≤ 1024
  ·have e1 : putE ls x y t = 0 := by unfold putE manyE; rw [hw, if_pos rfl, if_pos hm]
   have e2 := Lib.hid (show putR ls x y t = putL (fineL ls) x y (cleanT t) by unfold putR manyL; rw [hw, if_pos rfl, if_pos hm])
   rw [e1]
   clear e1
   go_enter Try.func94, Try.ntmps94
   go_wp2_with (first | (go_at_call 119; refine (R_within x y _).mono ?_; rintro e wn ⟨rfl, hbn⟩; have hsz := B.size; have hzn := hbn.size; replace B := B.trans (hbn.mono B.size); (try replace r1 := r1.below hbn); (try replace p1 := p1.below hbn); (try replace u1 := u1.below hbn); (try replace g2 := g2.below hbn)) | (refine wpList_loadAny (t := 105) rfl _ rfl _ _ _ rfl (run_load_B p1 Try.isAgg105 (by kernel_rfl)) (by rfl) ?_; simp only [putS]) | (have _ := u1; refine wpList_allocBk (t := 76) rfl _ (run_alloc_G _ _ rfl) ?_; intro b_g2 wn hle hge ht hbn hzn; have hsz := B.size; replace B := B.trans (hbn.mono (by omega)); have hln := Nat.lt_of_lt_of_eq (Nat.lt_succ_self _) hzn.symm; clear hzn; (try have hlt := r1.lt); (try replace r1 := r1.below (hbn.mono hle)); (try have hlt := p1.lt); (try replace p1 := p1.below (hbn.mono hle)); (try have hlt := u1.lt); (try replace u1 := u1.below (hbn.mono hle)); (try have hlt := g2.lt); (try replace g2 := g2.below (hbn.mono hle)); have g2 := ht; clear ht; simp only [putS]) | (have _ := p1; refine wpList_boxT' rfl _ rfl _ rfl ?_; intro b_u1 wn hle hge ht hbn hzn; have hsz := B.size; replace B := B.trans (hbn.mono (by omega)); have hln := Nat.lt_of_lt_of_eq (Nat.lt_succ_self _) hzn.symm; clear hzn; (try have hlt := r1.lt); (try replace r1 := r1.below (hbn.mono hle)); (try have hlt := p1.lt); (try replace p1 := p1.below (hbn.mono hle)); (try have hlt := u1.lt); (try replace u1 := u1.below (hbn.mono hle)); (try have hlt := g2.lt); (try replace g2 := g2.below (hbn.mono hle)); have u1 := ht; clear ht; simp only [putS]) | (have _ := r1; refine wpList_boxB (t := 105) rfl _ rfl _ rfl ?_; intro b_p1 wn hle hge ht hbn hzn; have hsz := B.size; replace B := B.trans (hbn.mono (by omega)); have hln := Nat.lt_of_lt_of_eq (Nat.lt_succ_self _) hzn.symm; clear hzn; (try have hlt := r1.lt); (try replace r1 := r1.below (hbn.mono hle)); (try have hlt := p1.lt); (try replace p1 := p1.below (hbn.mono hle)); (try have hlt := u1.lt); (try replace u1 := u1.below (hbn.mono hle)); (try have hlt := g2.lt); (try replace g2 := g2.below (hbn.mono hle)); have p1 := ht; clear ht; simp only [putS]) | (refine wpList_boxB (t := 36) rfl _ rfl _ rfl ?_; intro b_r1 wn hle hge ht hbn hzn; have hsz := B.size; replace B := B.trans (hbn.mono (by omega)); have hln := Nat.lt_of_lt_of_eq (Nat.lt_succ_self _) hzn.symm; clear hzn; (try have hlt := r1.lt); (try replace r1 := r1.below (hbn.mono hle)); (try have hlt := p1.lt); (try replace p1 := p1.below (hbn.mono hle)); (try have hlt := u1.lt); (try replace u1 := u1.below (hbn.mono hle)); (try have hlt := g2.lt); (try replace g2 := g2.below (hbn.mono hle)); have r1 := ht; clear ht; simp only [putS]) | fail)
   refine wp_region_ov_tail 4 (by kernel_rfl) (by kernel_rfl) ?_
   simp only [List.take_succ_cons, List.take_zero, List.drop_succ_cons, List.drop_zero]
   repeat (first | go_big_quiet_skip | (go_big_quiet_want; first | (refine quiet_loadAny (t := 36) rfl _ _ _ rfl (fun w hw => run_load_B (ov_B r1 w hw) Try.isAgg36 (by kernel_rfl)) (by rfl) ?_; simp only [putS]; go_big_quiet_on) | (refine quiet_loadAny (t := 105) rfl _ _ _ rfl (fun w hw => run_load_B (ov_B p1 w hw) Try.isAgg105 (by kernel_rfl)) (by rfl) ?_; simp only [putS]; go_big_quiet_on) | (refine quiet_loadT rfl _ rfl (ov_tile u1) ?_; simp only [putS]; go_big_quiet_on) | (go_big_quiet_op; first | go_big_quiet_on | go_big_quiet_call ((first | (go_at_call 53; exact calls_ov (HT.out _ (below_ov B B.size _)).1))))))
   refine wpQuiet_nil ?_
   intro wn hbn
   have hsz := B.size
   have hzn := hbn.size
   replace B := B.trans (hbn.mono B.size)
   try replace r1 := r1.below hbn
   try replace p1 := p1.below hbn
   try replace u1 := u1.below hbn
   try replace g2 := g2.below hbn
   go_wp2_with (first | (refine wpList_storeB (t := 76) rfl _ _ rfl _ rfl _ rfl g2 (by kernel_rfl) rfl (by simp [Value.oneCell']) ?_; have g2o := g2; clear g2; intro wn ht hcn hzn; replace rs1 := rs1.chg g2o (by simp) hcn; have hsz := B.size; replace hzn := Nat.le_of_eq hzn.symm; replace B := Chg.below B hcn (by omega) B.size; (try replace r1 := r1.of_eq (hcn.block _ r1.lt (by omega))); (try replace p1 := p1.of_eq (hcn.block _ p1.lt (by omega))); (try replace u1 := u1.of_eq (hcn.block _ u1.lt (by omega))); have g2 := ht; clear ht; simp only [putS]) | (go_at_call 120; refine (R_many _ _ _ _ (by unfold maxLen; omega)).mono ?_; rintro e wn ⟨rfl, hbn⟩; rw [if_pos hm]; have hsz := B.size; have hzn := hbn.size; replace B := B.trans (hbn.mono B.size); (try replace r1 := r1.below hbn); (try replace p1 := p1.below hbn); (try replace u1 := u1.below hbn); (try replace g2 := g2.below hbn); (try replace rs1 := rs1.below hbn)) | (go_at_call 121; refine (R_put _ (fineL ls) x y t (cleanT t) _ (HT.out _ B).2 SR.out ht rfl (by omega)).mono ?_; rintro e wn ⟨v1, rfl, rs1, hbn⟩; obtain ⟨a1, c1, rfl, hc1⟩ := rs1.len; have hsz := B.size; have hzn := hbn.size; replace B := B.trans (hbn.mono B.size); (try replace r1 := r1.below hbn); (try replace p1 := p1.below hbn); (try replace u1 := u1.below hbn); (try replace g2 := g2.below hbn)) | fail)
   refine bodyPost_ret (results_B (t := 76) rfl _ _ (b_g2) rfl g2 Try.isAgg76 (by kernel_rfl)) rfl ?_
   exact ⟨_, rfl, by rw [e2.out]; exact rs1, B⟩
  ·have e1 : putE ls x y t = 2 := by unfold putE manyE; rw [hw, if_pos rfl, if_neg hm]
   have e2 := Lib.hid (show putR ls x y t = [] by unfold putR manyL; rw [hw, if_pos rfl, if_neg hm])
   rw [e1]
   clear e1
   go_enter Try.func94, Try.ntmps94
   go_wp2_with (first | (go_at_call 119; refine (R_within x y _).mono ?_; rintro e wn ⟨rfl, hbn⟩; have hsz := B.size; have hzn := hbn.size; replace B := B.trans (hbn.mono B.size); (try replace r1 := r1.below hbn); (try replace p1 := p1.below hbn); (try replace u1 := u1.below hbn); (try replace g2 := g2.below hbn)) | (refine wpList_loadAny (t := 105) rfl _ rfl _ _ _ rfl (run_load_B p1 Try.isAgg105 (by kernel_rfl)) (by rfl) ?_; simp only [putS]) | (have _ := u1; refine wpList_allocBk (t := 76) rfl _ (run_alloc_G _ _ rfl) ?_; intro b_g2 wn hle hge ht hbn hzn; have hsz := B.size; replace B := B.trans (hbn.mono (by omega)); have hln := Nat.lt_of_lt_of_eq (Nat.lt_succ_self _) hzn.symm; clear hzn; (try have hlt := r1.lt); (try replace r1 := r1.below (hbn.mono hle)); (try have hlt := p1.lt); (try replace p1 := p1.below (hbn.mono hle)); (try have hlt := u1.lt); (try replace u1 := u1.below (hbn.mono hle)); (try have hlt := g2.lt); (try replace g2 := g2.below (hbn.mono hle)); have g2 := ht; clear ht; simp only [putS]) | (have _ := p1; refine wpList_boxT' rfl _ rfl _ rfl ?_; intro b_u1 wn hle hge ht hbn hzn; have hsz := B.size; replace B := B.trans (hbn.mono (by omega)); have hln := Nat.lt_of_lt_of_eq (Nat.lt_succ_self _) hzn.symm; clear hzn; (try have hlt := r1.lt); (try replace r1 := r1.below (hbn.mono hle)); (try have hlt := p1.lt); (try replace p1 := p1.below (hbn.mono hle)); (try have hlt := u1.lt); (try replace u1 := u1.below (hbn.mono hle)); (try have hlt := g2.lt); (try replace g2 := g2.below (hbn.mono hle)); have u1 := ht; clear ht; simp only [putS]) | (have _ := r1; refine wpList_boxB (t := 105) rfl _ rfl _ rfl ?_; intro b_p1 wn hle hge ht hbn hzn; have hsz := B.size; replace B := B.trans (hbn.mono (by omega)); have hln := Nat.lt_of_lt_of_eq (Nat.lt_succ_self _) hzn.symm; clear hzn; (try have hlt := r1.lt); (try replace r1 := r1.below (hbn.mono hle)); (try have hlt := p1.lt); (try replace p1 := p1.below (hbn.mono hle)); (try have hlt := u1.lt); (try replace u1 := u1.below (hbn.mono hle)); (try have hlt := g2.lt); (try replace g2 := g2.below (hbn.mono hle)); have p1 := ht; clear ht; simp only [putS]) | (refine wpList_boxB (t := 36) rfl _ rfl _ rfl ?_; intro b_r1 wn hle hge ht hbn hzn; have hsz := B.size; replace B := B.trans (hbn.mono (by omega)); have hln := Nat.lt_of_lt_of_eq (Nat.lt_succ_self _) hzn.symm; clear hzn; (try have hlt := r1.lt); (try replace r1 := r1.below (hbn.mono hle)); (try have hlt := p1.lt); (try replace p1 := p1.below (hbn.mono hle)); (try have hlt := u1.lt); (try replace u1 := u1.below (hbn.mono hle)); (try have hlt := g2.lt); (try replace g2 := g2.below (hbn.mono hle)); have r1 := ht; clear ht; simp only [putS]) | fail)
   refine wp_region_ov_tail 4 (by kernel_rfl) (by kernel_rfl) ?_
   simp only [List.take_succ_cons, List.take_zero, List.drop_succ_cons, List.drop_zero]
   repeat (first | go_big_quiet_skip | (go_big_quiet_want; first | (refine quiet_loadAny (t := 36) rfl _ _ _ rfl (fun w hw => run_load_B (ov_B r1 w hw) Try.isAgg36 (by kernel_rfl)) (by rfl) ?_; simp only [putS]; go_big_quiet_on) | (refine quiet_loadAny (t := 105) rfl _ _ _ rfl (fun w hw => run_load_B (ov_B p1 w hw) Try.isAgg105 (by kernel_rfl)) (by rfl) ?_; simp only [putS]; go_big_quiet_on) | (refine quiet_loadT rfl _ rfl (ov_tile u1) ?_; simp only [putS]; go_big_quiet_on) | (go_big_quiet_op; first | go_big_quiet_on | go_big_quiet_call ((first | (go_at_call 53; exact calls_ov (HT.out _ (below_ov B B.size _)).1))))))
   refine wpQuiet_nil ?_
   intro wn hbn
   have hsz := B.size
   have hzn := hbn.size
   replace B := B.trans (hbn.mono B.size)
   try replace g2 := g2.below hbn
   go_wp2_with (first | (refine wpList_storeB (t := 76) rfl _ _ rfl _ rfl _ rfl g2 (by kernel_rfl) rfl (by simp [Value.oneCell']) ?_; have g2o := g2; clear g2; intro wn ht hcn hzn; replace rs1 := rs1.chg g2o (by simp) hcn; have hsz := B.size; replace hzn := Nat.le_of_eq hzn.symm; replace B := Chg.below B hcn (by omega) B.size; have g2 := ht; clear ht; simp only [putS]) | (go_at_call 120; refine (R_many _ _ _ _ (by unfold maxLen; omega)).mono ?_; rintro e wn ⟨rfl, hbn⟩; rw [if_neg hm]; have hsz := B.size; have hzn := hbn.size; replace B := B.trans (hbn.mono B.size); (try replace g2 := g2.below hbn); (try replace rs1 := rs1.below hbn)) | (go_at_call 121; refine (R_put _ (fineL ls) x y t (cleanT t) _ (HT.out _ B).2 SR.out ht rfl (by omega)).mono ?_; rintro e wn ⟨v1, rfl, rs1, hbn⟩; obtain ⟨a1, c1, rfl, hc1⟩ := rs1.len; have hsz := B.size; have hzn := hbn.size; replace B := B.trans (hbn.mono B.size); (try replace g2 := g2.below hbn)) | fail)
   refine bodyPost_ret (results_B (t := 76) rfl _ _ (b_g2) rfl g2 Try.isAgg76 (by kernel_rfl)) rfl ?_
   exact ⟨_, rfl, by rw [e2.out]; exact RS.nil _, B⟩
set_option maxHeartbeats 1000000 in
theorem R_GetR (v : Value) (ls : List TA) (x y : Int) (w : World) (h : RS v ls w) (hn : ls.length ≤ maxLen) (hx : (Lit.int .i64 x).wf = true) (hy : (Lit.int .i64 y).wf = true) : Calls Try.prog 104 #[.agg #[v], .int .i64 x, .int .i64 y] w fun e w' => e = .returned (Px.v (getL ls x y)) ∧ Below w.heap.size w w' := by
 have B := Below.refl w.heap.size w
 obtain ⟨a, c, rfl, hc⟩ := h.len
 have HS := Lib.hid h
 clear h
 rw [← getT_getL]
 obtain ⟨l1, l2⟩ := wf_bd hx
 obtain ⟨l3, l4⟩ := wf_bd hy
 obtain ⟨q, hq⟩ : ∃ q, q = x / 8 := ⟨_, rfl⟩
 obtain ⟨q', hq'⟩ : ∃ q, q = y / 8 := ⟨_, rfl⟩
 have hAt : ∀ w, Calls Try.prog 92 #[.int .i64 x, .int .i64 y] w fun e w' => e = .returned (Ps.v q q') ∧ Below w.heap.size w w' := fun w => by rw [hq, hq']; exact R_At x y w hx hy
 have AT := Lib.hid hAt
 rw [← hq, ← hq']
 have e1 : x - 8 * q = x % 8 := by omega
 have e2 : y - 8 * q' = y % 8 := by omega
 have b1 : -9223372036854775808 ≤ 8 * q := by omega
 have b2 : 8 * q ≤ 9223372036854775807 := by omega
 have b3 : -9223372036854775808 ≤ 8 * q' := by omega
 have b4 : 8 * q' ≤ 9223372036854775807 := by omega
 clear hAt hq hq' hx hy
 go_enter Try.func104, Try.ntmps104
 go_wp2_with (first | (refine wpList_storePx rfl _ _ rfl _ rfl (_) rfl q1 ?_; clear q1; intro wn ht hcn hzn; have hsz := B.size; replace hzn := Nat.le_of_eq hzn.symm; replace B := Chg.below B hcn (by omega) B.size; (try replace r1 := r1.of_eq (hcn.block _ r1.lt (by omega))); (try replace p2 := p2.of_eq (hcn.block _ p2.lt (by omega))); (try replace u2 := u2.of_eq (hcn.block _ u2.lt (by omega))); have q1 := ht; clear ht; simp only [putS]) | (go_at_call 134; refine (R_Get _ _ _ _).mono ?_; rintro e wn ⟨rfl, hbn⟩; have hsz := B.size; have hzn := hbn.size; replace B := B.trans (hbn.mono B.size); (try replace r1 := r1.below hbn); (try replace q1 := q1.below hbn); (try replace p2 := p2.below hbn); (try replace u2 := u2.below hbn)) | (refine wpList_loadAny (t := 3) rfl _ rfl _ _ _ rfl (run_load_int (p2.cell 0 rfl)) (by rfl) ?_; simp only [putS]) | (refine wpList_loadAny (t := 3) rfl _ rfl _ _ _ rfl (run_load_int (p2.cell 1 rfl)) (by rfl) ?_; simp only [putS]) | (refine wpList_loadT rfl _ rfl _ rfl u2 ?_; simp only [putS]) | (refine wpList_storeT rfl _ _ rfl _ rfl _ rfl u2 ?_; clear u2; intro wn ht hcn hzn; have hsz := B.size; replace hzn := Nat.le_of_eq hzn.symm; replace B := Chg.below B hcn (by omega) B.size; (try replace r1 := r1.of_eq (hcn.block _ r1.lt (by omega))); (try replace q1 := q1.of_eq (hcn.block _ q1.lt (by omega))); (try replace p2 := p2.of_eq (hcn.block _ p2.lt (by omega))); have u2 := ht; clear ht; simp only [putS]) | (have _ := p2; refine wpList_allocT' rfl rfl ?_; intro b_u2 wn hle hge ht hbn hzn; have hsz := B.size; replace B := B.trans (hbn.mono (by omega)); have hln := Nat.lt_of_lt_of_eq (Nat.lt_succ_self _) hzn.symm; clear hzn; (try have hlt := r1.lt); (try replace r1 := r1.below (hbn.mono hle)); (try have hlt := q1.lt); (try replace q1 := q1.below (hbn.mono hle)); (try have hlt := p2.lt); (try replace p2 := p2.below (hbn.mono hle)); (try have hlt := u2.lt); (try replace u2 := u2.below (hbn.mono hle)); have u2 := ht; clear ht; simp only [putS]) | (go_at_call 93; refine (R_Tile _ ls q q' _ (HS.out.below B) hn).mono ?_; rintro e wn ⟨rfl, hbn⟩; have hsz := B.size; have hzn := hbn.size; replace B := B.trans (hbn.mono B.size); (try replace r1 := r1.below hbn); (try replace q1 := q1.below hbn); (try replace p2 := p2.below hbn); (try replace u2 := u2.below hbn)) | (refine wpList_loadAny (t := 36) rfl _ rfl _ _ _ rfl (run_load_B r1 Try.isAgg36 (by kernel_rfl)) (by rfl) ?_; simp only [putS]) | (refine wpList_loadAny (t := 105) rfl _ rfl _ _ _ rfl (run_load_B p2 Try.isAgg105 (by kernel_rfl)) (by rfl) ?_; simp only [putS]) | (refine wpList_storeB (t := 105) rfl _ _ rfl _ rfl _ rfl p2 (by kernel_rfl) rfl (by simp [Value.oneCell']) ?_; clear p2; intro wn ht hcn hzn; have hsz := B.size; replace hzn := Nat.le_of_eq hzn.symm; replace B := Chg.below B hcn (by omega) B.size; (try replace r1 := r1.of_eq (hcn.block _ r1.lt (by omega))); (try replace q1 := q1.of_eq (hcn.block _ q1.lt (by omega))); (try replace u2 := u2.of_eq (hcn.block _ u2.lt (by omega))); have p2 := ht; clear ht; simp only [putS]) | (have _ := q1; refine wpList_allocBk (t := 105) rfl _ (run_alloc_Ps _ _ rfl) ?_; intro b_p2 wn hle hge ht hbn hzn; have hsz := B.size; replace B := B.trans (hbn.mono (by omega)); have hln := Nat.lt_of_lt_of_eq (Nat.lt_succ_self _) hzn.symm; clear hzn; (try have hlt := r1.lt); (try replace r1 := r1.below (hbn.mono hle)); (try have hlt := q1.lt); (try replace q1 := q1.below (hbn.mono hle)); (try have hlt := p2.lt); (try replace p2 := p2.below (hbn.mono hle)); (try have hlt := u2.lt); (try replace u2 := u2.below (hbn.mono hle)); have p2 := ht; clear ht; simp only [putS]) | (go_at_call 92; refine (AT.out _).mono ?_; rintro e wn ⟨rfl, hbn⟩; have hsz := B.size; have hzn := hbn.size; replace B := B.trans (hbn.mono B.size); (try replace r1 := r1.below hbn); (try replace q1 := q1.below hbn); (try replace p2 := p2.below hbn); (try replace u2 := u2.below hbn)) | (have _ := r1; refine wpList_allocPx' rfl rfl ?_; intro b_q1 wn hle hge ht hbn hzn; have hsz := B.size; replace B := B.trans (hbn.mono (by omega)); have hln := Nat.lt_of_lt_of_eq (Nat.lt_succ_self _) hzn.symm; clear hzn; (try have hlt := r1.lt); (try replace r1 := r1.below (hbn.mono hle)); (try have hlt := q1.lt); (try replace q1 := q1.below (hbn.mono hle)); (try have hlt := p2.lt); (try replace p2 := p2.below (hbn.mono hle)); (try have hlt := u2.lt); (try replace u2 := u2.below (hbn.mono hle)); have q1 := ht; clear ht; simp only [putS]) | (refine wpList_boxB (t := 36) rfl _ rfl _ rfl ?_; intro b_r1 wn hle hge ht hbn hzn; have hsz := B.size; replace B := B.trans (hbn.mono (by omega)); have hln := Nat.lt_of_lt_of_eq (Nat.lt_succ_self _) hzn.symm; clear hzn; (try have hlt := r1.lt); (try replace r1 := r1.below (hbn.mono hle)); (try have hlt := q1.lt); (try replace q1 := q1.below (hbn.mono hle)); (try have hlt := p2.lt); (try replace p2 := p2.below (hbn.mono hle)); (try have hlt := u2.lt); (try replace u2 := u2.below (hbn.mono hle)); have r1 := ht; clear ht; simp only [putS]) | fail)
 refine bodyPost_ret (results_px rfl _ _ (b_q1) rfl q1) rfl ?_
 exact ⟨rfl, B⟩
set_option maxHeartbeats 2000000 in
theorem R_SetR (v : Value) (ls : List TA) (x y : Int) (p : Px) (w : World) (h : RS v ls w) (tk : TokL ls) (hn : ls.length ≤ maxLen) (hx : (Lit.int .i64 x).wf = true) (hy : (Lit.int .i64 y).wf = true) (hp : p.ok) : Calls Try.prog 49 #[.agg #[v], .int .i64 x, .int .i64 y, Px.v p] w fun e w' => ∃ v', e = .returned (.agg #[v', .int .i64 (setE ls x y p)]) ∧ RS v' (setR ls x y p) w' ∧ Below w.heap.size w w' := by
 have B := Below.refl w.heap.size w
 obtain ⟨a', c', hT⟩ := R_Of v ls w h tk hn
 have HT := Lib.hid hT
 clear hT
 obtain ⟨a, c, rfl, hc⟩ := h.len
 have HS := Lib.hid h
 have TK := Lib.hid tk
 have hfl : (fineL ls).length ≤ maxLen := by have := fineL_le ls; omega
 obtain ⟨l1, l2⟩ := wf_bd hx
 obtain ⟨l3, l4⟩ := wf_bd hy
 obtain ⟨q, hq⟩ : ∃ q, q = x / 8 := ⟨_, rfl⟩
 obtain ⟨q', hq'⟩ : ∃ q, q = y / 8 := ⟨_, rfl⟩
 have KK : Hid (Tok (setT (tileL (fineL ls) q q') (x % 8) (y % 8) p)) := Lib.hid (by rw [hq, hq']; exact setS_tok tk hp)
 have e1 := Lib.hid (show setE ls x y p = putE ls q q' (setT (tileL (fineL ls) q q') (x % 8) (y % 8) p) from by rw [hq, hq']; rfl)
 have e2 := Lib.hid (show setR ls x y p = putR ls q q' (setT (tileL (fineL ls) q q') (x % 8) (y % 8) p) from by rw [hq, hq']; rfl)
 have hAt : ∀ w, Calls Try.prog 92 #[.int .i64 x, .int .i64 y] w fun e w' => e = .returned (Ps.v q q') ∧ Below w.heap.size w w' := fun w => by rw [hq, hq']; exact R_At x y w hx hy
 have AT := Lib.hid hAt
 have f1 : x - 8 * q = x % 8 := by omega
 have f2 : y - 8 * q' = y % 8 := by omega
 have b1 : -9223372036854775808 ≤ 8 * q := by omega
 have b2 : 8 * q ≤ 9223372036854775807 := by omega
 have b3 : -9223372036854775808 ≤ 8 * q' := by omega
 have b4 : 8 * q' ≤ 9223372036854775807 := by omega
 clear hAt hq hq' hx hy tk h
 go_enter Try.func49, Try.ntmps49
 go_upto_region 2 with (first | (refine wpList_loadAny (t := 105) rfl _ rfl _ _ _ rfl (run_load_B p2 Try.isAgg105 (by kernel_rfl)) (by rfl) ?_; simp only [putS]) | (refine wpList_storeB (t := 105) rfl _ _ rfl _ rfl _ rfl p2 (by kernel_rfl) rfl (by simp [Value.oneCell']) ?_; clear p2; intro wn ht hcn hzn; have hsz := B.size; replace hzn := Nat.le_of_eq hzn.symm; replace B := Chg.below B hcn (by omega) B.size; (try replace r1 := r1.of_eq (hcn.block _ r1.lt (by omega))); (try replace q1 := q1.of_eq (hcn.block _ q1.lt (by omega))); (try replace g2 := g2.of_eq (hcn.block _ g2.lt (by omega))); (try replace u2 := u2.of_eq (hcn.block _ u2.lt (by omega))); have p2 := ht; clear ht; simp only [putS]) | (have _ := g2; refine wpList_allocBk (t := 105) rfl _ (run_alloc_Ps _ _ rfl) ?_; intro b_p2 wn hle hge ht hbn hzn; have hsz := B.size; replace B := B.trans (hbn.mono (by omega)); have hln := Nat.lt_of_lt_of_eq (Nat.lt_succ_self _) hzn.symm; clear hzn; (try have hlt := r1.lt); (try replace r1 := r1.below (hbn.mono hle)); (try have hlt := q1.lt); (try replace q1 := q1.below (hbn.mono hle)); (try have hlt := g2.lt); (try replace g2 := g2.below (hbn.mono hle)); (try have hlt := p2.lt); (try replace p2 := p2.below (hbn.mono hle)); (try have hlt := u2.lt); (try replace u2 := u2.below (hbn.mono hle)); have p2 := ht; clear ht; simp only [putS]) | (go_at_call 92; refine (AT.out _).mono ?_; rintro e wn ⟨rfl, hbn⟩; have hsz := B.size; have hzn := hbn.size; replace B := B.trans (hbn.mono B.size); (try replace r1 := r1.below hbn); (try replace q1 := q1.below hbn); (try replace g2 := g2.below hbn); (try replace p2 := p2.below hbn); (try replace u2 := u2.below hbn)) | (have _ := q1; refine wpList_allocBk (t := 76) rfl _ (run_alloc_G _ _ rfl) ?_; intro b_g2 wn hle hge ht hbn hzn; have hsz := B.size; replace B := B.trans (hbn.mono (by omega)); have hln := Nat.lt_of_lt_of_eq (Nat.lt_succ_self _) hzn.symm; clear hzn; (try have hlt := r1.lt); (try replace r1 := r1.below (hbn.mono hle)); (try have hlt := q1.lt); (try replace q1 := q1.below (hbn.mono hle)); (try have hlt := g2.lt); (try replace g2 := g2.below (hbn.mono hle)); (try have hlt := p2.lt); (try replace p2 := p2.below (hbn.mono hle)); (try have hlt := u2.lt); (try replace u2 := u2.below (hbn.mono hle)); have g2 := ht; clear ht; simp only [putS]) | (have _ := r1; refine wpList_boxPx' rfl _ rfl _ rfl ?_; intro b_q1 wn hle hge ht hbn hzn; have hsz := B.size; replace B := B.trans (hbn.mono (by omega)); have hln := Nat.lt_of_lt_of_eq (Nat.lt_succ_self _) hzn.symm; clear hzn; (try have hlt := r1.lt); (try replace r1 := r1.below (hbn.mono hle)); (try have hlt := q1.lt); (try replace q1 := q1.below (hbn.mono hle)); (try have hlt := g2.lt); (try replace g2 := g2.below (hbn.mono hle)); (try have hlt := p2.lt); (try replace p2 := p2.below (hbn.mono hle)); (try have hlt := u2.lt); (try replace u2 := u2.below (hbn.mono hle)); have q1 := ht; clear ht; simp only [putS]) | (refine wpList_boxB (t := 36) rfl _ rfl _ rfl ?_; intro b_r1 wn hle hge ht hbn hzn; have hsz := B.size; replace B := B.trans (hbn.mono (by omega)); have hln := Nat.lt_of_lt_of_eq (Nat.lt_succ_self _) hzn.symm; clear hzn; (try have hlt := r1.lt); (try replace r1 := r1.below (hbn.mono hle)); (try have hlt := q1.lt); (try replace q1 := q1.below (hbn.mono hle)); (try have hlt := g2.lt); (try replace g2 := g2.below (hbn.mono hle)); (try have hlt := p2.lt); (try replace p2 := p2.below (hbn.mono hle)); (try have hlt := u2.lt); (try replace u2 := u2.below (hbn.mono hle)); have r1 := ht; clear ht; simp only [putS]) | fail)
 have hp2 := p2.lt
 go_cut [10] from 14 to 17 (fun s wx => ∃ b, s = .pointer (some ⟨b, 0, none⟩) ∧ TileAt wx b (tileL (fineL ls) q q') ∧ Below w.heap.size w wx ∧ b_p2 < b ∧ AtB 36 wx b_r1 #[.slice a ls.length c] ∧ PixAt wx b_q1 p ∧ AtB 76 wx b_g2 #[.slice none 0 0, .int .i64 0] ∧ AtB 105 wx b_p2 #[.int .i64 q, .int .i64 q'])
 case first =>
  try have r1B := r1
  try have q1B := q1
  try have g2B := g2
  try have p2B := p2
  try have u2B := u2
  refine wp_region_X0 5 #[false, false, false, false, false, false] (by kernel_rfl) (by kernel_rfl) ?_
  intro wn hbn
  have hX := hbn
  have hsz := B.size
  have hzn := hbn.size
  replace B := B.trans (hbn.mono B.size)
  try replace r1 := r1.below hbn
  try replace q1 := q1.below hbn
  try replace g2 := g2.below hbn
  try replace p2 := p2.below hbn
  try replace u2 := u2.below hbn
  simp only [List.length_cons, List.length_nil, Nat.reduceAdd]
  refine anyX_take 0 rfl (by kernel_rfl) ⟨_, ov_of hX⟩ ?_
  intro K hK
  try simp only [gelS]
  (first | (refine quiet_loadAny (t := 36) rfl _ _ _ rfl (fun w hw => run_load_B (ov_B r1B w hw) Try.isAgg36 (by kernel_rfl)) (by rfl) ?_; simp only [putS]; go_big_quiet_on) | (refine quiet_loadAny (t := 105) rfl _ _ _ rfl (fun w hw => run_load_B (ov_B p2B w hw) Try.isAgg105 (by kernel_rfl)) (by rfl) ?_; simp only [putS]; go_big_quiet_on) | (go_big_quiet_op; go_big_quiet_on))
  simp only [putS]
  refine anyX_take 2 rfl (by kernel_rfl) ⟨_, ov_of hX⟩ ?_
  intro K hK
  try simp only [gelS]
  (first | (refine quiet_loadAny (t := 36) rfl _ _ _ rfl (fun w hw => run_load_B (ov_B r1B w hw) Try.isAgg36 (by kernel_rfl)) (by rfl) ?_; simp only [putS]; go_big_quiet_on) | (refine quiet_loadAny (t := 105) rfl _ _ _ rfl (fun w hw => run_load_B (ov_B p2B w hw) Try.isAgg105 (by kernel_rfl)) (by rfl) ?_; simp only [putS]; go_big_quiet_on) | (go_big_quiet_op; go_big_quiet_on))
  simp only [putS]
  refine anyX_two 1 4 rfl rfl (by kernel_rfl) rfl rfl (fun K hK => ?_) (fun K hK => ?_)
  ·skip
   try simp only [gelS]
   go_simp
   go_at_call 53
   refine ((HT.out _ B).1).mono ?_
   rintro e wn ⟨rfl, hbn⟩
   have hsz := B.size
   have hzn := hbn.size
   have hsx := hX.size
   replace B := B.trans (hbn.mono B.size)
   replace hX := hX.trans (hbn.mono hX.size)
   try replace r1 := r1.below hbn
   try replace q1 := q1.below hbn
   try replace g2 := g2.below hbn
   try replace p2 := p2.below hbn
   try replace u2 := u2.below hbn
   refine hK _ _ ⟨fun _ => ⟨_, ov_of hX⟩, ?_⟩
   clear hK K
   try simp only [gelS]
   simp only [putS]
   refine anyX_two 3 4 rfl rfl (by kernel_rfl) rfl rfl (fun K hK => ?_) (fun K hK => ?_)
   ·skip
    try simp only [gelS]
    go_simp
    go_at_call 93
    refine (R_Tile _ (fineL ls) q q' _ (HT.out _ B).2 hfl).mono ?_
    rintro e wn ⟨rfl, hbn⟩
    have hsz := B.size
    have hzn := hbn.size
    have hsx := hX.size
    replace B := B.trans (hbn.mono B.size)
    replace hX := hX.trans (hbn.mono hX.size)
    try replace r1 := r1.below hbn
    try replace q1 := q1.below hbn
    try replace g2 := g2.below hbn
    try replace p2 := p2.below hbn
    try replace u2 := u2.below hbn
    refine hK _ _ ⟨fun _ => ⟨_, ov_of hX⟩, ?_⟩
    clear hK K
    try simp only [gelS]
    simp only [putS]
    refine anyX_next 4 rfl (by kernel_rfl) rfl (fun K hK => ?_)
    try simp only [gelS]
    refine owp_allocTb rfl ?_
    intro b_u2 wn hle hge ht hbn hzn
    have hsz := B.size
    have hsx := hX.size
    replace B := B.trans (hbn.mono (by omega))
    replace hX := hX.trans (hbn.mono (by omega))
    try first | (have hlt := r1.lt; replace r1 := r1.of_eq (hbn.block _ (by omega))) | replace r1 := r1.below (hbn.mono hle)
    try first | (have hlt := q1.lt; replace q1 := q1.of_eq (hbn.block _ (by omega))) | replace q1 := q1.below (hbn.mono hle)
    try first | (have hlt := g2.lt; replace g2 := g2.of_eq (hbn.block _ (by omega))) | replace g2 := g2.below (hbn.mono hle)
    try first | (have hlt := p2.lt; replace p2 := p2.of_eq (hbn.block _ (by omega))) | replace p2 := p2.below (hbn.mono hle)
    try first | (have hlt := u2.lt; replace u2 := u2.of_eq (hbn.block _ (by omega))) | replace u2 := u2.below (hbn.mono hle)
    have u2 := ht
    clear ht
    refine hK _ _ ⟨fun _ => ⟨_, ov_of hX⟩, ?_⟩
    clear hK K
    try simp only [gelS]
    simp only [putS]
    refine anyX_seq (by kernel_rfl) (by kernel_rfl) ?_
    simp only [List.drop_succ_cons, List.drop_zero]
    go_wp2_with (first | (refine wpList_storeT rfl _ _ rfl _ rfl _ rfl u2 ?_; clear u2; intro wn ht hcn hzn; have hsz := B.size; replace hzn := Nat.le_of_eq hzn.symm; replace B := Chg.below B hcn (by omega) B.size; (try replace r1 := r1.of_eq (hcn.block _ r1.lt (by omega))); (try replace q1 := q1.of_eq (hcn.block _ q1.lt (by omega))); (try replace g2 := g2.of_eq (hcn.block _ g2.lt (by omega))); (try replace p2 := p2.of_eq (hcn.block _ p2.lt (by omega))); have u2 := ht; clear ht; simp only [putS]) | fail)
    refine NoPan.normal ?_
    go_wp2_with fail
    go_meet
    exact ⟨_, rfl, u2, B, by omega, r1, q1, g2, p2⟩
   ·skip
    try simp only [gelS]
    refine owp_allocTb rfl ?_
    intro b_u2 wn hle hge ht hbn hzn
    have hsz := B.size
    have hsx := hX.size
    replace B := B.trans (hbn.mono (by omega))
    replace hX := hX.trans (hbn.mono (by omega))
    try first | (have hlt := r1.lt; replace r1 := r1.of_eq (hbn.block _ (by omega))) | replace r1 := r1.below (hbn.mono hle)
    try first | (have hlt := q1.lt; replace q1 := q1.of_eq (hbn.block _ (by omega))) | replace q1 := q1.below (hbn.mono hle)
    try first | (have hlt := g2.lt; replace g2 := g2.of_eq (hbn.block _ (by omega))) | replace g2 := g2.below (hbn.mono hle)
    try first | (have hlt := p2.lt; replace p2 := p2.of_eq (hbn.block _ (by omega))) | replace p2 := p2.below (hbn.mono hle)
    try first | (have hlt := u2.lt; replace u2 := u2.of_eq (hbn.block _ (by omega))) | replace u2 := u2.below (hbn.mono hle)
    have u2 := ht
    clear ht
    refine hK _ _ ⟨fun _ => ⟨_, ov_of hX⟩, ?_⟩
    clear hK K
    try simp only [gelS]
    simp only [putS]
    refine anyX_next 3 rfl (by kernel_rfl) rfl (fun K hK => ?_)
    try simp only [gelS]
    go_simp
    go_at_call 93
    refine (R_Tile _ (fineL ls) q q' _ (HT.out _ B).2 hfl).mono ?_
    rintro e wn ⟨rfl, hbn⟩
    have hsz := B.size
    have hzn := hbn.size
    have hsx := hX.size
    replace B := B.trans (hbn.mono B.size)
    replace hX := hX.trans (hbn.mono hX.size)
    try replace r1 := r1.below hbn
    try replace q1 := q1.below hbn
    try replace g2 := g2.below hbn
    try replace p2 := p2.below hbn
    try replace u2 := u2.below hbn
    refine hK _ _ ⟨fun _ => ⟨_, ov_of hX⟩, ?_⟩
    clear hK K
    try simp only [gelS]
    simp only [putS]
    refine anyX_seq (by kernel_rfl) (by kernel_rfl) ?_
    simp only [List.drop_succ_cons, List.drop_zero]
    go_wp2_with (first | (refine wpList_storeT rfl _ _ rfl _ rfl _ rfl u2 ?_; clear u2; intro wn ht hcn hzn; have hsz := B.size; replace hzn := Nat.le_of_eq hzn.symm; replace B := Chg.below B hcn (by omega) B.size; (try replace r1 := r1.of_eq (hcn.block _ r1.lt (by omega))); (try replace q1 := q1.of_eq (hcn.block _ q1.lt (by omega))); (try replace g2 := g2.of_eq (hcn.block _ g2.lt (by omega))); (try replace p2 := p2.of_eq (hcn.block _ p2.lt (by omega))); have u2 := ht; clear ht; simp only [putS]) | fail)
    refine NoPan.normal ?_
    go_wp2_with fail
    go_meet
    exact ⟨_, rfl, u2, B, by omega, r1, q1, g2, p2⟩
  ·skip
   try simp only [gelS]
   refine owp_allocTb rfl ?_
   intro b_u2 wn hle hge ht hbn hzn
   have hsz := B.size
   have hsx := hX.size
   replace B := B.trans (hbn.mono (by omega))
   replace hX := hX.trans (hbn.mono (by omega))
   try first | (have hlt := r1.lt; replace r1 := r1.of_eq (hbn.block _ (by omega))) | replace r1 := r1.below (hbn.mono hle)
   try first | (have hlt := q1.lt; replace q1 := q1.of_eq (hbn.block _ (by omega))) | replace q1 := q1.below (hbn.mono hle)
   try first | (have hlt := g2.lt; replace g2 := g2.of_eq (hbn.block _ (by omega))) | replace g2 := g2.below (hbn.mono hle)
   try first | (have hlt := p2.lt; replace p2 := p2.of_eq (hbn.block _ (by omega))) | replace p2 := p2.below (hbn.mono hle)
   try first | (have hlt := u2.lt; replace u2 := u2.of_eq (hbn.block _ (by omega))) | replace u2 := u2.below (hbn.mono hle)
   have u2 := ht
   clear ht
   refine hK _ _ ⟨fun _ => ⟨_, ov_of hX⟩, ?_⟩
   clear hK K
   try simp only [gelS]
   simp only [putS]
   refine anyX_next 1 rfl (by kernel_rfl) rfl (fun K hK => ?_)
   try simp only [gelS]
   go_simp
   go_at_call 53
   refine ((HT.out _ B).1).mono ?_
   rintro e wn ⟨rfl, hbn⟩
   have hsz := B.size
   have hzn := hbn.size
   have hsx := hX.size
   replace B := B.trans (hbn.mono B.size)
   replace hX := hX.trans (hbn.mono hX.size)
   try replace r1 := r1.below hbn
   try replace q1 := q1.below hbn
   try replace g2 := g2.below hbn
   try replace p2 := p2.below hbn
   try replace u2 := u2.below hbn
   refine hK _ _ ⟨fun _ => ⟨_, ov_of hX⟩, ?_⟩
   clear hK K
   try simp only [gelS]
   simp only [putS]
   refine anyX_next 3 rfl (by kernel_rfl) rfl (fun K hK => ?_)
   try simp only [gelS]
   go_simp
   go_at_call 93
   refine (R_Tile _ (fineL ls) q q' _ (HT.out _ B).2 hfl).mono ?_
   rintro e wn ⟨rfl, hbn⟩
   have hsz := B.size
   have hzn := hbn.size
   have hsx := hX.size
   replace B := B.trans (hbn.mono B.size)
   replace hX := hX.trans (hbn.mono hX.size)
   try replace r1 := r1.below hbn
   try replace q1 := q1.below hbn
   try replace g2 := g2.below hbn
   try replace p2 := p2.below hbn
   try replace u2 := u2.below hbn
   refine hK _ _ ⟨fun _ => ⟨_, ov_of hX⟩, ?_⟩
   clear hK K
   try simp only [gelS]
   simp only [putS]
   refine anyX_seq (by kernel_rfl) (by kernel_rfl) ?_
   simp only [List.drop_succ_cons, List.drop_zero]
   go_wp2_with (first | (refine wpList_storeT rfl _ _ rfl _ rfl _ rfl u2 ?_; clear u2; intro wn ht hcn hzn; have hsz := B.size; replace hzn := Nat.le_of_eq hzn.symm; replace B := Chg.below B hcn (by omega) B.size; (try replace r1 := r1.of_eq (hcn.block _ r1.lt (by omega))); (try replace q1 := q1.of_eq (hcn.block _ q1.lt (by omega))); (try replace g2 := g2.of_eq (hcn.block _ g2.lt (by omega))); (try replace p2 := p2.of_eq (hcn.block _ p2.lt (by omega))); have u2 := ht; clear ht; simp only [putS]) | fail)
   refine NoPan.normal ?_
   go_wp2_with fail
   go_meet
   exact ⟨_, rfl, u2, B, by omega, r1, q1, g2, p2⟩
 case rest =>
  obtain ⟨b_u2, rfl, u2, B, hb2, r1, q1, g2, p2⟩ := hcut
  go_wp2
  refine wp_region_ov_tail 15 (by kernel_rfl) (by kernel_rfl) ?_
  simp only [List.take_succ_cons, List.take_zero, List.drop_succ_cons, List.drop_zero]
  repeat (first | go_big_quiet_skip | (go_big_quiet_want; first | (refine quiet_loadAny (t := 36) rfl _ _ _ rfl (fun w hw => run_load_B (ov_B r1 w hw) Try.isAgg36 (by kernel_rfl)) (by rfl) ?_; simp only [putS]; go_big_quiet_on) | (refine quiet_loadAny (t := 3) rfl _ _ _ rfl (fun w hw => run_load_int ((ov_B p2 w hw).cell 0 rfl)) (by rfl) ?_; simp only [putS]; go_big_quiet_on) | (refine quiet_loadAny (t := 3) rfl _ _ _ rfl (fun w hw => run_load_int ((ov_B p2 w hw).cell 1 rfl)) (by rfl) ?_; simp only [putS]; go_big_quiet_on) | (refine quiet_loadAny (t := 105) rfl _ _ _ rfl (fun w hw => run_load_B (ov_B p2 w hw) Try.isAgg105 (by kernel_rfl)) (by rfl) ?_; simp only [putS]; go_big_quiet_on) | (refine quiet_loadT rfl _ rfl (ov_tile u2) ?_; simp only [putS]; go_big_quiet_on) | (refine quiet_loadPx rfl _ rfl (ov_px q1) ?_; simp only [putS]; go_big_quiet_on) | (go_big_quiet_op; first | go_big_quiet_on | go_big_quiet_call ((first | (go_at_call 95; exact calls_ov (R_Set _ _ _ _ _)))))))
  refine wpQuiet_nil ?_
  intro wn hbn
  have hsz := B.size
  have hzn := hbn.size
  replace B := B.trans (hbn.mono B.size)
  try replace g2 := g2.below hbn
  go_wp2_with (first | (refine wpList_storeB (t := 76) rfl _ _ rfl _ rfl _ rfl g2 (by kernel_rfl) rfl (by simp [Value.oneCell']) ?_; have g2o := g2; clear g2; intro wn ht hcn hzn; replace rs1 := rs1.chg g2o (by simp) hcn; have hsz := B.size; replace hzn := Nat.le_of_eq hzn.symm; replace B := Chg.below B hcn (by omega) B.size; have g2 := ht; clear ht; simp only [putS]) | (go_at_call 94; refine (R_PutR _ ls q q' _ _ (HS.out.below B) TK.out hn KK.out).mono ?_; rintro e wn ⟨v1, rfl, rs1, hbn⟩; obtain ⟨a1, c1, rfl, hc1⟩ := rs1.len; have hsz := B.size; have hzn := hbn.size; replace B := B.trans (hbn.mono B.size); (try replace g2 := g2.below hbn)) | fail)
  refine bodyPost_ret (results_B (t := 76) rfl _ _ (b_g2) rfl g2 Try.isAgg76 (by kernel_rfl)) rfl ?_
  refine ⟨_, by rw [e1.out]; try rfl, ?_, B⟩
  rw [e2.out]
  exact rs1
/- '==' of tiles at a position; contracts of Equal of package raster and of its reference. -/
theorem eqItems_tileD (d : Nat) (f g : Nat → Px) (w : World) : ∀ is : List Nat, (∀ i ∈ is, i < 64) → (Op.eqItems (d + 2) 59 4 (tileC f) (tileC g) is).run Try.prog w = .ok (decide (∀ i ∈ is, f i = g i)) w
 | [], _ => by simp [Op.eqItems]
 | i :: is, h => by
  have hi : i < 64 := h i (by simp)
  simp only [Op.eqItems, Sem.run_bind, part_tile f i hi, part_tile g i hi, Result.andThen_ok, equalIn_px d]
  by_cases e : f i = g i
  ·simp [e, eqItems_tileD d f g w is (fun j hj => h j (by simp [hj]))]
  ·simp [e]
theorem equalIn_tileD (d : Nat) (f g : Nat → Px) (w : World) : (Op.equalIn (d + 3) 103 (Tile.v f) (Tile.v g)).run Try.prog w = .ok (eqT f g) w := by
 obtain ⟨i, hi⟩ : ∃ i, Try.prog.info? 59 = some i := by
  cases h : Try.prog.info? 59 with
  | some i => exact ⟨i, rfl⟩
  | none =>
   have e : (Try.prog.info? 59).isSome = true := by kernel_rfl
   rw [h] at e; cases e
 unfold Tile.v
 refine (run_equalIn_array w (d + 2) (tileC f) (tileC g) Try.underlying103 hi).trans ?_
 rw [cellsOf_px, eqItems_tileD d f g w _ (fun i hi => List.mem_range.1 hi)]
 rfl
theorem sizeOf_pos (w : World) : (sizeOf 105).run Try.prog w = .ok 2 w := by kernel_rfl
theorem sizeOf_tl (w : World) : (sizeOf 103).run Try.prog w = .ok 256 w := by kernel_rfl
theorem part_pos (e : TA) (w : World) : (Go.part 105 (taC e) 0).run Try.prog w = .ok (Ps.v e.x e.y) w := by
 unfold Go.part
 simp only [Sem.run_bind, Try.isAgg105, Result.andThen_ok, if_true, sizeOf_pos, Sem.run_pure, Ps.v]
 congr 2
 apply Array.ext_getElem?
 intro k
 rw [Array.getElem?_extract]
 obtain ⟨x, y, t⟩ := e
 by_cases h : k < 2
 ·rw [if_pos (by rw [size_taC]; omega), Nat.zero_add, taC_get, if_pos h]
 ·rw [if_neg (by omega)]
  exact (Array.getElem?_eq_none (by simp; omega)).symm
theorem part_tl (e : TA) (w : World) : (Go.part 103 (taC e) 2).run Try.prog w = .ok (Tile.v e.t) w := by
 unfold Go.part
 simp only [Sem.run_bind, Try.isAgg103, Result.andThen_ok, if_true, sizeOf_tl, Sem.run_pure, Tile.v]
 congr 2
 apply Array.ext_getElem?
 intro k
 rw [Array.getElem?_extract]
 by_cases h : k < 256
 ·rw [if_pos (by rw [size_taC]; omega), taC_t]
 ·rw [if_neg (by omega)]
  exact (Array.getElem?_eq_none (by rw [size_tileC]; omega)).symm
def eqA (a b : TA) : Bool := eqB a.x a.y b.x b.y && eqT a.t b.t
theorem fields_ta : (Try.prog.fieldsOf 112).toList.map (fun f => (f.name == "_", f.type, f.offset)) = [(false, 105, 0), (false, 103, 2)] := by kernel_rfl
theorem equalIn_ta (d : Nat) (a b : TA) (w : World) : (Op.equalIn (d + 4) 112 (.agg (taC a)) (.agg (taC b))).run Try.prog w = .ok (eqA a b) w := by
 rw [run_equalIn_struct w (d + 3) 112 (taC a) (taC b) (by kernel_rfl) (by kernel_rfl)]
 have hf := fields_ta
 generalize (Try.prog.fieldsOf 112).toList = fs at hf
 obtain ⟨f, fs, rfl, hf1, hf⟩ := List.map_eq_cons_iff.1 hf
 obtain ⟨g, fs, rfl, hf2, hf⟩ := List.map_eq_cons_iff.1 hf
 obtain rfl := List.map_eq_nil_iff.1 hf
 simp only [Prod.mk.injEq] at hf1 hf2
 obtain ⟨n1, t1, o1⟩ := hf1
 obtain ⟨n2, t2, o2⟩ := hf2
 have n1 : f.name ≠ "_" := by simpa using n1
 have n2 : g.name ≠ "_" := by simpa using n2
 have p1 := fun w => part_pos a w
 simp only [Op.eqFields, n1, n2, t1, t2, o1, o2, ne_eq, not_false_eq_true, if_true, Sem.run_bind, part_pos, part_tl, Result.andThen_ok, equalIn_pos (d + 1), equalIn_tileD d]
 unfold eqA
 cases h1 : eqB a.x a.y b.x b.y <;> cases h2 : eqT a.t b.t <;> simp [part_tl, equalIn_tileD d, h1, h2]
theorem neq_ta (a b : TA) (w : World) : (binOp .neq 112 (.agg (taC a)) (.agg (taC b))).run Try.prog w = .ok (.bool (!eqA a b)) w := by
 have h := run_neq_struct (P := Try.prog) w 112 (taC a) (taC b)
 rw [h, equalIn_ta 9996]; rfl
@[go_sem] theorem guard_ta (op : BinOp) (p q : Operand) (a b : TA) (w : World) : (eqGuard op 112 p q (.agg (taC a)) (.agg (taC b))).run Try.prog w = .ok () w := run_eqGuard_agg w op 112 p q _ _ (by kernel_rfl)
/-- Two lists of tiles are equal. -/
def eqL (ls ks : List TA) : Bool := decide (ls.length = ks.length) && decide (∀ i ∈ List.range ls.length, eqA (aT ls i) (aT ks i) = true)
theorem eqL_len {ls ks : List TA} (h : ¬ ls.length = ks.length) : eqL ls ks = false := by unfold eqL; rw [decide_eq_false h]; rfl
theorem eqL_no {ls ks : List TA} {j : Nat} (hj : j < ls.length) (h : eqA (aT ls j) (aT ks j) = false) : eqL ls ks = false := by
 unfold eqL
 rw [Bool.and_eq_false_iff]
 right
 exact decide_eq_false fun e => by rw [e j (List.mem_range.2 hj)] at h; cases h
theorem eqL_yes {ls ks : List TA} (h : ls.length = ks.length) (k : ∀ j, j < ls.length → eqA (aT ls j) (aT ks j) = true) : eqL ls ks = true := by
 unfold eqL
 rw [decide_eq_true h, Bool.true_and]
 exact decide_eq_true fun j hj => k j (List.mem_range.1 hj)
set_option maxHeartbeats 1000000 in
theorem R_equal (v u : Value) (ls ks : List TA) (w : World) (h : RS v ls w) (h' : RS u ks w) (hn : ls.length ≤ maxLen) (hn' : ks.length ≤ maxLen) : Calls Try.prog 66 #[.agg #[v], .agg #[u]] w fun e w' => e = .returned (.bool (eqL ls ks)) ∧ Below w.heap.size w w' := by
 unfold maxLen at hn hn'
 obtain ⟨a, c, rfl, hc⟩ := h.len
 obtain ⟨a', c', rfl, hc'⟩ := h'.len
 have B := Below.refl w.heap.size w
 have HS := Lib.hid h
 have HS' := Lib.hid h'
 clear h h'
 by_cases hlen : ls.length = ks.length
 ·have HL := Lib.hid hlen
  obtain ⟨n, hnl⟩ : ∃ n, n = ls.length := ⟨_, rfl⟩
  have e1 : ls.length = n := hnl.symm
  have e2 : ks.length = n := by omega
  rw [e1, e2]
  rw [e1] at hn hc
  rw [e2] at hn' hc'
  have E1 := Lib.hid e1
  have E2 := Lib.hid e2
  clear hlen hnl e1 e2
  go_enter Try.func66, Try.ntmps66
  go_wp2_with (first | (refine wpList_loadAny (t := 34) rfl _ rfl _ _ _ rfl (run_load_sl r1.cell0) (by rfl) ?_; simp only [putS]) | (refine wpList_loadAny (t := 34) rfl _ rfl _ _ _ rfl (run_load_sl r2.cell0) (by rfl) ?_; simp only [putS]) | (have _ := r1; refine wpList_boxB (t := 36) rfl _ rfl _ rfl ?_; intro b_r2 wn hle hge ht hbn hzn; have hsz := B.size; replace B := B.trans (hbn.mono (by omega)); have hln := Nat.lt_of_lt_of_eq (Nat.lt_succ_self _) hzn.symm; clear hzn; (try have hlt := r1.lt); (try replace r1 := r1.below (hbn.mono hle)); (try have hlt := r2.lt); (try replace r2 := r2.below (hbn.mono hle)); (try have hlt := rc.lt); (try replace rc := rc.below (hbn.mono hle)); (try have hlt := rd.lt); (try replace rd := rd.below (hbn.mono hle)); have r2 := ht; clear ht; simp only [putS]) | (refine wpList_boxB (t := 36) rfl _ rfl _ rfl ?_; intro b_r1 wn hle hge ht hbn hzn; have hsz := B.size; replace B := B.trans (hbn.mono (by omega)); have hln := Nat.lt_of_lt_of_eq (Nat.lt_succ_self _) hzn.symm; clear hzn; (try have hlt := r1.lt); (try replace r1 := r1.below (hbn.mono hle)); (try have hlt := r2.lt); (try replace r2 := r2.below (hbn.mono hle)); (try have hlt := rc.lt); (try replace rc := rc.below (hbn.mono hle)); (try have hlt := rd.lt); (try replace rd := rd.below (hbn.mono hle)); have r1 := ht; clear ht; simp only [putS]) | fail)
  go_loopw [5] (fun i wr => ∃ k : Nat, k ≤ n ∧ i = .int .i64 k ∧ Below w.heap.size w wr ∧ AtB 36 wr b_r1 #[.slice a n c] ∧ AtB 36 wr b_r2 #[.slice a' n c'] ∧ ∀ j, j < k → eqA (aT ls j) (aT ks j) = true) (fun i _ => (n - intOf i).toNat)
  case atStart => exact ⟨0, by omega, rfl, B, r1, r2, fun j hj => by omega⟩
  case round =>
   clear B r1 r2
   obtain ⟨k, hk, rfl, B, r1, r2, hst⟩ := hrel
   have HST := Lib.hid hst
   clear hst
   by_cases hkn : k < n
   ·have hkl : k < ls.length := by rw [E1.out]; exact hkn
    have hkk : k < ks.length := by rw [E2.out]; exact hkn
    obtain ⟨g, o, rfl, rc0⟩ := (E1.out ▸ HS.out).at (by omega)
    obtain ⟨g', o', rfl, rd0⟩ := (E2.out ▸ HS'.out).at (by omega)
    have hg0 := rc0.lt
    have hg1 := rd0.lt
    have rc := rc0.of_eq (B.block _ rc0.lt)
    have rd := rd0.of_eq (B.block _ rd0.lt)
    clear rc0 rd0
    obtain ⟨e, he⟩ : ∃ e, aT ls k = e := ⟨_, rfl⟩
    obtain ⟨e', he'⟩ : ∃ e, aT ks k = e := ⟨_, rfl⟩
    have hneq : ∀ w, (binOp .neq 112 (.agg (taC e)) (.agg (taC e'))).run Try.prog w = .ok (.bool (!eqA e e')) w := fun w => neq_ta _ _ w
    cases hq : eqA e e' with
    | true =>
     go_wp2_with (first | (refine wpList_loadAny (t := 34) rfl _ rfl _ _ _ rfl (run_load_sl r1.cell0) (by rfl) ?_; simp only [putS]) | (refine wpList_loadAny (t := 34) rfl _ rfl _ _ _ rfl (run_load_sl r2.cell0) (by rfl) ?_; simp only [putS]) | fail)
     refine wp_region_ov (by kernel_rfl) (by kernel_rfl) ?_
     repeat (first | go_big_quiet_skip | (go_big_quiet_want; first | (refine quiet_loadAny (t := 112) rfl _ _ _ rfl (fun w hw => rc_ta (ov_rc rc w hw) hkl he) (by first | rfl | omega) ?_; simp only [putS]; go_big_quiet_on) | (refine quiet_loadAny (t := 112) rfl _ _ _ rfl (fun w hw => rc_ta (ov_rc rd w hw) hkk he') (by first | rfl | omega) ?_; simp only [putS]; go_big_quiet_on) | (refine quiet_loadAny (t := 34) rfl _ _ _ rfl (fun w hw => run_load_sl (ov_B r1 w hw).cell0) (by rfl) ?_; simp only [putS]; go_big_quiet_on) | (refine quiet_loadAny (t := 34) rfl _ _ _ rfl (fun w hw => run_load_sl (ov_B r2 w hw).cell0) (by rfl) ?_; simp only [putS]; go_big_quiet_on) | (go_big_quiet_op; first | go_big_quiet_on | go_big_quiet_call ((fail)))))
     refine wpQuiet_nil ?_
     intro wn hbn
     have hsz := B.size
     have hzn := hbn.size
     replace B := B.trans (hbn.mono B.size)
     try replace r1 := r1.below hbn
     try replace r2 := r2.below hbn
     try replace rc := rc.below hbn
     try replace rd := rd.below hbn
     go_wp2
     go_roundw
     case rel => exact ⟨k + 1, by omega, by go_num, B, r1, r2, fun j hj => by
      by_cases ej : j = k
      ·rw [ej, he, he', hq]
      ·exact HST.out j (by omega)⟩
     case measure => simp [intOf]; omega
    | false =>
     have EN := Lib.hid (eqL_no (ks := ks) hkl (by rw [he, he', hq]))
     go_wp2_with (first | (refine wpList_loadAny (t := 34) rfl _ rfl _ _ _ rfl (run_load_sl r1.cell0) (by rfl) ?_; simp only [putS]) | (refine wpList_loadAny (t := 34) rfl _ rfl _ _ _ rfl (run_load_sl r2.cell0) (by rfl) ?_; simp only [putS]) | fail)
     refine wp_region_ov (by kernel_rfl) (by kernel_rfl) ?_
     repeat (first | go_big_quiet_skip | (go_big_quiet_want; first | (refine quiet_loadAny (t := 112) rfl _ _ _ rfl (fun w hw => rc_ta (ov_rc rc w hw) hkl he) (by first | rfl | omega) ?_; simp only [putS]; go_big_quiet_on) | (refine quiet_loadAny (t := 112) rfl _ _ _ rfl (fun w hw => rc_ta (ov_rc rd w hw) hkk he') (by first | rfl | omega) ?_; simp only [putS]; go_big_quiet_on) | (refine quiet_loadAny (t := 34) rfl _ _ _ rfl (fun w hw => run_load_sl (ov_B r1 w hw).cell0) (by rfl) ?_; simp only [putS]; go_big_quiet_on) | (refine quiet_loadAny (t := 34) rfl _ _ _ rfl (fun w hw => run_load_sl (ov_B r2 w hw).cell0) (by rfl) ?_; simp only [putS]; go_big_quiet_on) | (go_big_quiet_op; first | go_big_quiet_on | go_big_quiet_call ((fail)))))
     refine wpQuiet_nil ?_
     intro wn hbn
     have hsz := B.size
     have hzn := hbn.size
     replace B := B.trans (hbn.mono B.size)
     try replace r1 := r1.below hbn
     try replace r2 := r2.below hbn
     go_wp2
     go_ret
     exact ⟨by rw [EN.out]; try rfl, B⟩
   ·have EY := Lib.hid (eqL_yes HL.out (fun j hj => HST.out j (by have := E1.out; omega)))
    go_wp2_with (first | (refine wpList_loadAny (t := 34) rfl _ rfl _ _ _ rfl (run_load_sl r1.cell0) (by rfl) ?_; simp only [putS]) | (refine wpList_loadAny (t := 34) rfl _ rfl _ _ _ rfl (run_load_sl r2.cell0) (by rfl) ?_; simp only [putS]) | fail)
    go_ret
    exact ⟨by rw [EY.out]; try rfl, B⟩
 ·rw [eqL_len hlen]
  have hne : ((ls.length : Int) != (ks.length : Int)) = true := by simp; omega
  clear hlen
  go_enter Try.func66, Try.ntmps66
  go_wp2_with (first | (refine wpList_loadAny (t := 34) rfl _ rfl _ _ _ rfl (run_load_sl r1.cell0) (by rfl) ?_; simp only [putS]) | (refine wpList_loadAny (t := 34) rfl _ rfl _ _ _ rfl (run_load_sl r2.cell0) (by rfl) ?_; simp only [putS]) | (have _ := r1; refine wpList_boxB (t := 36) rfl _ rfl _ rfl ?_; intro b_r2 wn hle hge ht hbn hzn; have hsz := B.size; replace B := B.trans (hbn.mono (by omega)); have hln := Nat.lt_of_lt_of_eq (Nat.lt_succ_self _) hzn.symm; clear hzn; (try have hlt := r1.lt); (try replace r1 := r1.below (hbn.mono hle)); (try have hlt := r2.lt); (try replace r2 := r2.below (hbn.mono hle)); (try have hlt := rc.lt); (try have hlt := rd.lt); have r2 := ht; clear ht; simp only [putS]) | (refine wpList_boxB (t := 36) rfl _ rfl _ rfl ?_; intro b_r1 wn hle hge ht hbn hzn; have hsz := B.size; replace B := B.trans (hbn.mono (by omega)); have hln := Nat.lt_of_lt_of_eq (Nat.lt_succ_self _) hzn.symm; clear hzn; (try have hlt := r1.lt); (try replace r1 := r1.below (hbn.mono hle)); (try have hlt := r2.lt); (try replace r2 := r2.below (hbn.mono hle)); (try have hlt := rc.lt); (try have hlt := rd.lt); have r1 := ht; clear ht; simp only [putS]) | fail)
  go_ret
  exact ⟨rfl, B⟩
theorem R_Equal (v u : Value) (ls ks : List TA) (w : World) (h : RS v ls w) (h' : RS u ks w) (tk : TokL ls) (tk' : TokL ks) (hn : ls.length ≤ maxLen) (hn' : ks.length ≤ maxLen) : Calls Try.prog 26 #[.agg #[v], .agg #[u]] w fun e w' => e = .returned (.bool (eqL (fineL ls) (fineL ks))) ∧ Below w.heap.size w w' := by
 have B := Below.refl w.heap.size w
 obtain ⟨a1, c1, hT⟩ := R_Of v ls w h tk hn
 obtain ⟨a2, c2, hU⟩ := R_Of u ks w h' tk' hn'
 have HT := Lib.hid hT
 have HU := Lib.hid hU
 clear hT hU
 obtain ⟨a, c, rfl, hc⟩ := h.len
 obtain ⟨a', c', rfl, hc'⟩ := h'.len
 have hf1 : (fineL ls).length ≤ maxLen := by have := fineL_le ls; omega
 have hf2 : (fineL ks).length ≤ maxLen := by have := fineL_le ks; omega
 clear h h' tk tk'
 go_enter Try.func26, Try.ntmps26
 go_wp2_with (first | (have _ := r1; refine wpList_boxB (t := 36) rfl _ rfl _ rfl ?_; intro b_r2 wn hle hge ht hbn hzn; have hsz := B.size; replace B := B.trans (hbn.mono (by omega)); have hln := Nat.lt_of_lt_of_eq (Nat.lt_succ_self _) hzn.symm; clear hzn; (try have hlt := r1.lt); (try replace r1 := r1.below (hbn.mono hle)); (try have hlt := r2.lt); (try replace r2 := r2.below (hbn.mono hle)); have r2 := ht; clear ht; simp only [putS]) | (refine wpList_boxB (t := 36) rfl _ rfl _ rfl ?_; intro b_r1 wn hle hge ht hbn hzn; have hsz := B.size; replace B := B.trans (hbn.mono (by omega)); have hln := Nat.lt_of_lt_of_eq (Nat.lt_succ_self _) hzn.symm; clear hzn; (try have hlt := r1.lt); (try replace r1 := r1.below (hbn.mono hle)); (try have hlt := r2.lt); (try replace r2 := r2.below (hbn.mono hle)); have r1 := ht; clear ht; simp only [putS]) | fail)
 refine wp_region_ov (by kernel_rfl) (by kernel_rfl) ?_
 repeat (first | go_big_quiet_skip | (go_big_quiet_want; first | (refine quiet_loadAny (t := 36) rfl _ _ _ rfl (fun w hw => run_load_B (ov_B r1 w hw) Try.isAgg36 (by kernel_rfl)) (by rfl) ?_; simp only [putS]; go_big_quiet_on) | (refine quiet_loadAny (t := 36) rfl _ _ _ rfl (fun w hw => run_load_B (ov_B r2 w hw) Try.isAgg36 (by kernel_rfl)) (by rfl) ?_; simp only [putS]; go_big_quiet_on) | (go_big_quiet_op; first | go_big_quiet_on | go_big_quiet_call ((first | (go_at_call 66; exact calls_ov (R_equal _ _ _ _ _ (HT.out _ (below_ov B B.size _)).2 (HU.out _ (below_ov B B.size _)).2 hf1 hf2)) | (go_at_call 53; with_reducible exact calls_ov (HT.out _ (below_ov B B.size _)).1) | (go_at_call 53; with_reducible exact calls_ov (HU.out _ (below_ov B B.size _)).1))))))
 refine wpQuiet_nil ?_
 intro wn hbn
 have hsz := B.size
 have hzn := hbn.size
 replace B := B.trans (hbn.mono B.size)
 go_wp2
 go_ret
 exact ⟨rfl, B⟩
/- Contract of mapped of package raster, for whatever function that turns at most one block. -/
/-- Below n, block c aside, what was there is as it was. -/
structure Exc (c n : Nat) (w w' : World) : Prop where
 os : w'.os = w.os
 tape : w'.tape = w.tape
 output : w'.output = w.output
 size : n ≤ w'.heap.size
 grow : w.heap.size ≤ w'.heap.size
 block : ∀ k, k < n → k ≠ c → w'.heap[k]? = w.heap[k]?
theorem Exc.refl (c : Nat) (w : World) : Exc c w.heap.size w w := ⟨rfl, rfl, rfl, Nat.le_refl _, Nat.le_refl _, fun _ _ _ => rfl⟩
theorem Exc.trans {c n : Nat} {w1 w2 w3 : World} (h : Exc c n w1 w2) (k : Below n w2 w3) : Exc c n w1 w3 :=
 ⟨k.os.trans h.os, k.tape.trans h.tape, k.output.trans h.output, Nat.le_trans h.size k.size, Nat.le_trans h.grow k.size, fun i hi hc => (k.block i hi).trans (h.block i hi hc)⟩
theorem Exc.store {c n b : Nat} {w1 w2 w3 : World} (h : Exc c n w1 w2) (k : Chg b w2 w3) (hb : n ≤ b) : Exc c n w1 w3 :=
 ⟨k.os.trans h.os, k.tape.trans h.tape, k.output.trans h.output, Nat.le_trans h.size k.size, Nat.le_trans h.grow k.size, fun i hi hc => (k.block i (Nat.lt_of_lt_of_le hi h.size) (by omega)).trans (h.block i hi hc)⟩
theorem Exc.chg {c n : Nat} {w1 w2 w3 : World} (h : Exc c n w1 w2) (k : Chg c w2 w3) : Exc c n w1 w3 :=
 ⟨k.os.trans h.os, k.tape.trans h.tape, k.output.trans h.output, Nat.le_trans h.size k.size, Nat.le_trans h.grow k.size, fun i hi hc => (k.block i (Nat.lt_of_lt_of_le hi h.size) hc).trans (h.block i hi hc)⟩
theorem Exc.toChg {c : Nat} {w w' : World} (h : Exc c w.heap.size w w') : Chg c w w' := ⟨h.os, h.tape, h.output, h.grow, h.block⟩
theorem set_taC (x y : Int) (u : Nat → Px) (i : Nat) (p : Px) (hi : i < 64) : ((((taC ⟨x, y, u⟩).setIfInBounds (2 + i * 4) (.int .u8 p.r)).setIfInBounds (2 + i * 4 + 1) (.int .u8 p.g)).setIfInBounds (2 + i * 4 + 2) (.int .u8 p.b)).setIfInBounds (2 + i * 4 + 3) (.int .u8 p.a) = taC ⟨x, y, upd u i p⟩ := by
 apply Array.ext_getElem?
 intro k
 rw [taC_get, ← set_tileC u i p hi]
 by_cases h2 : k < 2
 ·rw [if_pos h2]
  rw [Array.getElem?_setIfInBounds, if_neg (by omega), Array.getElem?_setIfInBounds, if_neg (by omega), Array.getElem?_setIfInBounds, if_neg (by omega), Array.getElem?_setIfInBounds, if_neg (by omega), taC_get, if_pos h2]
 ·rw [if_neg h2]
  have hs : (taC ⟨x, y, u⟩).size = 258 := size_taC _
  have ht : (tileC u).size = 256 := size_tileC _
  simp only [Array.getElem?_setIfInBounds, Array.size_setIfInBounds, hs, ht, taC_get, if_neg h2]
  have e : ∀ j, (2 + i * 4 + j = k) ↔ (i * 4 + j = k - 2) := fun j => by omega
  by_cases c3 : 2 + i * 4 + 3 = k
  ·rw [if_pos c3, if_pos ((e 3).1 c3), if_pos (by omega), if_pos (by omega)]
  ·rw [if_neg c3, if_neg (fun h => c3 ((e 3).2 h))]
   by_cases c2 : 2 + i * 4 + 2 = k
   ·rw [if_pos c2, if_pos ((e 2).1 c2), if_pos (by omega), if_pos (by omega)]
   ·rw [if_neg c2, if_neg (fun h => c2 ((e 2).2 h))]
    by_cases c1 : 2 + i * 4 + 1 = k
    ·rw [if_pos c1, if_pos ((e 1).1 c1), if_pos (by omega), if_pos (by omega)]
    ·rw [if_neg c1, if_neg (fun h => c1 ((e 1).2 h))]
     by_cases c0 : 2 + i * 4 = k
     ·rw [if_pos c0, if_pos (by omega), if_pos (by omega), if_pos (by omega)]
     ·rw [if_neg c0, if_neg (by omega)]
theorem run_store_TAp {w : World} {b i : Nat} {x y : Int} {u : Nat → Px} (h : AtB 112 w b (taC ⟨x, y, u⟩)) (hi : i < 64) (p : Px) : (Instr.storeAt 59 (.pointer (some ⟨b, 2 + i * 4, none⟩)) (Px.v p)).run Try.prog w =
  .ok () ((((w.setCell ⟨b, 2 + i * 4, none⟩ (.int .u8 p.r)).setCell ⟨b, 2 + i * 4 + 1, none⟩ (.int .u8 p.g)).setCell ⟨b, 2 + i * 4 + 2, none⟩ (.int .u8 p.b)).setCell ⟨b, 2 + i * 4 + 3, none⟩ (.int .u8 p.a)) := by
 have hc : ∀ j, j < 4 → w.cell? ⟨b, 2 + i * 4 + j, none⟩ = (tileC u)[i * 4 + j]? := fun j hj => by
  rw [(cells_of_block h).1, taC_get, if_neg (by omega), show 2 + i * 4 + j - 2 = i * 4 + j by omega]
 have c0 := (hc 0 (by omega)).trans (tileC_at u i 0 hi (by omega))
 have c1 := (hc 1 (by omega)).trans (tileC_at u i 1 hi (by omega))
 have c2 := (hc 2 (by omega)).trans (tileC_at u i 2 hi (by omega))
 have c3 := (hc 3 (by omega)).trans (tileC_at u i 3 hi (by omega))
 have hf := fun j => h.frozen j
 rw [Nat.add_zero] at c0
 simp [go_sem, c0, c1, c2, c3, hf, Px.v]
theorem AtB.set4 {w : World} {b i : Nat} {x y : Int} {u : Nat → Px} (h : AtB 112 w b (taC ⟨x, y, u⟩)) (hi : i < 64) (p : Px) :
  AtB 112 ((((w.setCell ⟨b, 2 + i * 4, none⟩ (.int .u8 p.r)).setCell ⟨b, 2 + i * 4 + 1, none⟩ (.int .u8 p.g)).setCell ⟨b, 2 + i * 4 + 2, none⟩ (.int .u8 p.b)).setCell ⟨b, 2 + i * 4 + 3, none⟩ (.int .u8 p.a)) b (taC ⟨x, y, upd u i p⟩) := by
 unfold AtB
 rw [← set_taC x y u i p hi]
 exact heap_setCell_same _ _ _ _ _ _ (heap_setCell_same _ _ _ _ _ _ (heap_setCell_same _ _ _ _ _ _ (heap_setCell_same _ _ _ _ _ _ h)))
theorem wpList_storeTAp {ops : Array Oper} {rest : List Oper} {o : Oper} {a : Act} {w : World} {Q : Exit → Act → World → Prop} (hg : o.guard = none) (x y : Operand) (ho : o.op = .store 59 x y) (b j : Nat) (hx : a.eval x = .pointer (some ⟨b, j, none⟩)) (q : Px) (hy : a.eval y = Px.v q) {px py : Int} {u : Nat → Px} (ht : AtB 112 w b (taC ⟨px, py, u⟩)) (i : Nat) (hi : i < 64) (hj : j = 2 + i * 4)
  (h : ∀ w', AtB 112 w' b (taC ⟨px, py, upd u i q⟩) → Chg b w w' → w'.heap.size = w.heap.size → wpList Try.prog ops Q rest (a.put o.dst undef) w') : wpList Try.prog ops Q (o :: rest) a w := by
 subst hj
 refine wpList_storeAny hg x y ho _ ?_ (h _ (ht.set4 hi q) (((((Chg.refl b w).setCell _).setCell _).setCell _).setCell _) (by simp only [World.size_setCell]))
 rw [hx, hy]
 exact run_store_TAp ht hi q
/-! ### mapped -/
/-- The first k pixels of a tile mapped: the state behind them, the tile. -/
def runT {σ : Type} (F : σ → Int → Int → Px → σ × Px) (e : TA) : Nat → σ → σ × (Nat → Px)
 | 0, s => (s, e.t)
 | k + 1, s => ((F (runT F e k s).1 (e.x * 8 + (k : Int) % 8) (e.y * 8 + (k : Int) / 8) (e.t k)).1, upd (runT F e k s).2 k (F (runT F e k s).1 (e.x * 8 + (k : Int) % 8) (e.y * 8 + (k : Int) / 8) (e.t k)).2)
/-- The first k tiles mapped: the state behind them, the tiles that are not transparent. -/
def mapK {σ : Type} (F : σ → Int → Int → Px → σ × Px) (ls : List TA) (s : σ) : Nat → σ × List TA
 | 0 => (s, [])
 | k + 1 => ((runT F (aT ls k) 64 (mapK F ls s k).1).1, (mapK F ls s k).2 ++ newA (aT ls k).x (aT ls k).y (runT F (aT ls k) 64 (mapK F ls s k).1).2)
theorem mapK_length {σ : Type} (F : σ → Int → Int → Px → σ × Px) (ls : List TA) (s : σ) (k : Nat) : (mapK F ls s k).2.length ≤ k := by
 induction k with
 | zero => exact Nat.le_refl _
 | succ k ih =>
  show ((mapK F ls s k).2 ++ newA _ _ _).length ≤ _
  rw [List.length_append]
  have := newA_length (aT ls k).x (aT ls k).y (runT F (aT ls k) 64 (mapK F ls s k).1).2
  omega
theorem runT_tok {σ : Type} {F : σ → Int → Int → Px → σ × Px} (hF : ∀ s x y p, p.ok → (F s x y p).2.ok) {e : TA} (h : Tok e.t) (s : σ) : ∀ k, k ≤ 64 → Tok (runT F e k s).2
 | 0, _ => h
 | k + 1, hk => fun i hi => by
  show (upd _ k _ i).ok
  unfold upd
  split
  ·exact hF _ _ _ _ (h k (by omega))
  ·exact runT_tok hF h s k (by omega) i hi
theorem OwnT.ownlt {B : Nat} {v : Value} {ls : List TA} {w : World} (h : OwnT B v ls w) : ∀ k, v.ownBlock = some k → k < w.heap.size := by
 intro k hk
 obtain ⟨_, h2⟩ := h
 rcases h2 with ⟨rfl, h0⟩ | ⟨g, cap, cur, rfl, hb, hg, _⟩
 ·cases hk
 ·have e : some g = some k := hk
  injection e with e
  subst e
  exact (Array.getElem?_eq_some_iff.1 hg).1
theorem OwnT.chgN {B b : Nat} {v : Value} {ls : List TA} {w w' : World} (h : OwnT B v ls w) (hc : Chg b w w') (hne : ∀ k, v.ownBlock = some k → k ≠ b) : OwnT B v ls w' := by
 refine World.ownsRow.kept (row := some b) h ⟨hc.os, hc.tape, hc.output, hc.size, fun k hk hn => hc.block k hk (fun e => hn (by rw [e]))⟩ ?_
 cases hv : v.ownBlock with
 | none => exact .inl rfl
 | some k =>
  right
  intro e
  injection e with e
  exact hne k hv e
set_option maxHeartbeats 4000000 in
theorem P_mapped {σ : Type} (F : σ → Int → Int → Px → σ × Px) (I : σ → World → Prop) (cb gf : Nat) (lb : Array Value) (eg : Enters Try.prog gf) (v : Value) (ls : List TA) (s0 : σ) (w : World) (hs : RS v ls w) (tk : TokL ls) (hn : ls.length ≤ 2000) (hpos : ∀ e ∈ ls, withinB e.x e.y = true)
  (hcb : cb < w.heap.size) (hsep : 0 < ls.length → v.ownBlock ≠ some cb) (hI0 : I s0 w)
  (hIb : ∀ s W W', I s W → (∀ k, k < w.heap.size → W'.heap[k]? = W.heap[k]?) → I s W')
  (hF : ∀ (s : σ) (W : World) (x y : Int) (p : Px), w.heap.size ≤ W.heap.size → I s W → -65536 ≤ x → x ≤ 65535 → -65536 ≤ y → y ≤ 65535 → p.ok →
   Calls Try.prog gf (#[.int .i64 x, .int .i64 y, Px.v p] ++ lb) W fun e W' => e = .returned (Px.v (F s x y p).2) ∧ I (F s x y p).1 W' ∧ Chg cb W W')
  (hok : ∀ s x y p, p.ok → (F s x y p).2.ok) :
  Calls Try.prog 72 #[v, .func (.func gf) #[] lb] w fun e w' => ∃ v', e = .returned v' ∧ OwnT w.heap.size v' (mapK F ls s0 ls.length).2 w' ∧ I (mapK F ls s0 ls.length).1 w' ∧ Chg cb w w' := by
 have eg' : ∀ args w, (callFunc gf args).run Try.prog w = .ok (.enter gf args) w := eg
 obtain ⟨a, c, rfl, hc⟩ := hs.len
 have HS := Lib.hid hs
 have HK := Lib.hid tk
 have HP := Lib.hid hpos
 have HF := Lib.hid hF
 have HI := Lib.hid hIb
 have HO := Lib.hid hok
 have SEP := Lib.hid hsep
 have B := Exc.refl cb w
 have od := OwnT.nil w.heap.size w
 have hI := hI0
 clear hs tk hpos hF hIb hok hI0 hsep
 go_enter Try.func72, Try.ntmps72
 go_wp2
 go_loopw [5, 7, 8, 9, 12] (fun out _ _ _ i wr => ∃ (k : Nat) (a5 : Option Addr) (n5 c5 : Nat), k ≤ ls.length ∧ i = .int .i64 k ∧ out = .slice a5 n5 c5 ∧ n5 = (mapK F ls s0 k).2.length ∧ Exc cb w.heap.size w wr ∧ OwnT w.heap.size (.slice a5 n5 c5) (mapK F ls s0 k).2 wr ∧ I (mapK F ls s0 k).1 wr) (fun _ _ _ _ i _ => (ls.length - intOf i).toNat)
 case atStart => exact ⟨0, none, 0, 0, by omega, rfl, rfl, rfl, B, od, hI⟩
 case round =>
  clear B od hI
  obtain ⟨k, a5, n5, c5, hk, rfl, rfl, hn5, B, od, hI⟩ := hrel
  have HN5 := Lib.hid hn5
  clear hn5
  have hml := mapK_length F ls s0 k
  obtain ⟨⟨s, acc⟩, hsm⟩ : ∃ m, mapK F ls s0 k = m := ⟨_, rfl⟩
  rw [hsm] at od hI hml
  have HN5' := Lib.hid (show n5 = acc.length from by have := HN5.out; rw [hsm] at this; exact this)
  have HSM := Lib.hid hsm
  clear hsm HN5
  have od : OwnT w.heap.size (.slice a5 n5 c5) acc _ := od
  have hI : I s _ := hI
  have hml : acc.length ≤ k := hml
  by_cases hkl : k < ls.length
  ·obtain ⟨gg, o, rfl, rc0⟩ := HS.out.at (by omega)
   have hg0 := rc0.lt
   have hgc : gg ≠ cb := fun e => (SEP.out (by omega)) (by rw [e]; rfl)
   have rc := rc0.of_eq (B.block _ rc0.lt hgc)
   clear rc0
   obtain ⟨⟨x, y, t⟩, he⟩ : ∃ e, aT ls k = e := ⟨_, rfl⟩
   have htk : Tok t := by have := HK.out.at hkl; rw [he] at this; exact this
   have hT := Lib.hid htk
   have hw := HP.out _ (List.mem_iff_getElem?.2 ⟨k, aT_at hkl⟩)
   rw [he] at hw
   have hw := of_decide_eq_true hw
   obtain ⟨w1, w2, w3, w4⟩ := hw
   have HOB := Lib.hid od.ownlt
   have hsz0 := B.size
   go_wp2_with (first | (refine wpList_loadAny (t := 103) rfl _ rfl _ _ _ rfl (ta_tile t1) (by first | rfl | omega) ?_; simp only [putS]) | (refine wpList_storeB (t := 112) rfl _ _ rfl _ rfl _ rfl t1 (by rw [size_taC]; kernel_rfl) (by simp only [size_taC, size_zTA]) (taC_all _) ?_; clear t1; intro wn ht hcn hzn; have hsz := B.size; replace hzn := Nat.le_of_eq hzn.symm; replace B := Exc.store B hcn (by omega); replace hI := HI.out _ _ _ hI (fun k hk => hcn.block k (by omega) (by omega)); replace od := od.chgN hcn (fun kk hkk => Nat.ne_of_lt (Nat.lt_of_lt_of_le (HOB.out kk hkk) (by omega))); (try replace q1 := q1.of_eq (hcn.block _ q1.lt (by omega))); (try replace od := od.of_eq (hcn.block _ od.lt (by omega))); have t1 := ht; clear ht; simp only [putS]) | (refine wpList_allocBk (t := 112) rfl _ (run_alloc_TA _ _ rfl) ?_; intro b_t1 wn hle hge ht hbn hzn; have hsz := B.size; replace B := B.trans (hbn.mono (by omega)); replace hI := HI.out _ _ _ hI (fun k hk => hbn.block k (by omega)); have hln := Nat.lt_of_lt_of_eq (Nat.lt_succ_self _) hzn.symm; clear hzn; (try have hlt := t1.lt); (try replace t1 := t1.below (hbn.mono hle)); (try have hlt := q1.lt); (try replace q1 := q1.below (hbn.mono hle)); (try have hlt := od.lt); (try replace od := od.below (hbn.mono hle)); have t1 := ht; clear ht; simp only [putS]) | (refine wpList_loadAny (t := 112) rfl _ rfl _ _ _ rfl (rc_ta rc hkl he) (by first | rfl | omega) ?_; simp only [putS]) | fail)
   have hb1 := hle
   have hmul1 : (2 : Nat) ≤ 2 := Nat.le_refl _
   go_loopw [8, 9, 18] (fun _ _ j wx => ∃ i : Nat, i ≤ 64 ∧ j = .int .i64 i ∧ Exc cb w.heap.size w wx ∧ b_t1 < wx.heap.size ∧ AtB 112 wx b_t1 (taC ⟨x, y, (runT F ⟨x, y, t⟩ i s).2⟩) ∧ OwnT w.heap.size (.slice a5 n5 c5) acc wx ∧ I (runT F ⟨x, y, t⟩ i s).1 wx) (fun _ _ j _ => (64 - intOf j).toNat)
   case atStart => exact ⟨0, by omega, rfl, B, t1.lt, t1, od, hI⟩
   case round =>
    clear B t1 od hI
    obtain ⟨i, hi, rfl, B, hbl, t1, od, hI⟩ := hrel
    by_cases hil : i < 64
    ·have hix := index_tile t i hil
     have hpk : (t i).ok := hT.out i hil
     have d8 : (0 : Int) ≤ (i : Int) % 8 ∧ (i : Int) % 8 < 8 := by omega
     have d9 : (0 : Int) ≤ (i : Int) / 8 ∧ (i : Int) / 8 < 8 := by omega
     obtain ⟨u, hu⟩ : ∃ u, runT F ⟨x, y, t⟩ i s = u := ⟨_, rfl⟩
     rw [hu] at t1 hI
     have HU := Lib.hid hu
     clear hu
     go_wp2_with (first | (refine wpList_storeTAp rfl _ _ rfl _ _ rfl (_) rfl t1 (i) (hil) (by first | rfl | omega) ?_; clear t1; intro wn ht hcn hzn; have hsz := B.size; replace hzn := Nat.le_of_eq hzn.symm; replace B := Exc.store B hcn (by omega); replace hI := HI.out _ _ _ hI (fun k hk => hcn.block k (by omega) (by omega)); replace od := od.chgN hcn (fun kk hkk => Nat.ne_of_lt (Nat.lt_of_lt_of_le (HOB.out kk hkk) (by omega))); (try replace q1 := q1.of_eq (hcn.block _ q1.lt (by omega))); have t1 := ht; clear ht; simp only [putS]) | (go_at_fn gf; refine (HF.out _ _ _ _ _ (by omega) hI (by omega) (by omega) (by omega) (by omega) hpk).mono ?_; rintro e' wn ⟨rfl, hI, hcc⟩; have hsz := B.size; have hzn := hcc.size; replace B := B.chg hcc; replace t1 := t1.of_eq (hcc.block _ t1.lt (by omega)); replace od := od.chg hcc hcb) | (refine wpList_loadAny (t := 3) rfl _ rfl _ _ _ rfl (run_load_int (t1.cell 0 (taC_x _))) (by first | rfl | omega) ?_; simp only [putS]) | (refine wpList_loadAny (t := 3) rfl _ rfl _ _ _ rfl (run_load_int (t1.cell 1 (taC_y _))) (by first | rfl | omega) ?_; simp only [putS]) | (refine wpList_loadPx rfl _ rfl _ rfl q1 ?_; simp only [putS]) | (refine wpList_storePx rfl _ _ rfl _ rfl (_) rfl q1 ?_; clear q1; intro wn ht hcn hzn; have hsz := B.size; replace hzn := Nat.le_of_eq hzn.symm; replace B := Exc.store B hcn (by omega); replace hI := HI.out _ _ _ hI (fun k hk => hcn.block k (by omega) (by omega)); replace od := od.chgN hcn (fun kk hkk => Nat.ne_of_lt (Nat.lt_of_lt_of_le (HOB.out kk hkk) (by omega))); (try replace t1 := t1.of_eq (hcn.block _ t1.lt (by omega))); have q1 := ht; clear ht; simp only [putS]) | (refine wpList_allocPx' rfl rfl ?_; intro b_q1 wn hle hge ht hbn hzn; have hsz := B.size; replace B := B.trans (hbn.mono (by omega)); replace hI := HI.out _ _ _ hI (fun k hk => hbn.block k (by omega)); have hln := Nat.lt_of_lt_of_eq (Nat.lt_succ_self _) hzn.symm; clear hzn; (try replace od := od.below (hbn.mono hle)); (try have hlt := t1.lt); (try replace t1 := t1.below (hbn.mono hle)); (try have hlt := q1.lt); (try replace q1 := q1.below (hbn.mono hle)); (try have hlt := od.lt); (try replace od := od.below (hbn.mono hle)); have q1 := ht; clear ht; simp only [putS]) | fail)
     go_roundw
     case rel => exact ⟨i + 1, by omega, by go_num, B, by have := t1.lt; omega, by show AtB _ _ _ (taC ⟨x, y, upd (runT F ⟨x, y, t⟩ i s).2 i (F (runT F ⟨x, y, t⟩ i s).1 (x * 8 + (i : Int) % 8) (y * 8 + (i : Int) / 8) (t i)).2⟩); rw [HU.out]; exact t1, od, by show I (F (runT F ⟨x, y, t⟩ i s).1 (x * 8 + (i : Int) % 8) (y * 8 + (i : Int) / 8) (t i)).1 _; rw [HU.out]; exact hI⟩
     case measure => simp [intOf]; omega
    ·obtain rfl : i = 64 := by omega
     obtain ⟨⟨s', u⟩, hu⟩ : ∃ u, runT F ⟨x, y, t⟩ 64 s = u := ⟨_, rfl⟩
     have hut : Tok u := by have := runT_tok (e := ⟨x, y, t⟩) HO.out hT.out s 64 (Nat.le_refl _); rw [hu] at this; exact this
     rw [hu] at t1 hI
     have HU := Lib.hid hu
     clear hu
     have t1 : AtB 112 _ b_t1 (taC ⟨x, y, u⟩) := t1
     have hI : I s' _ := hI
     have es := Lib.hid (show mapK F ls s0 (k + 1) = (s', acc ++ newA x y u) from by
      show ((runT F (aT ls k) 64 (mapK F ls s0 k).1).1, (mapK F ls s0 k).2 ++ newA (aT ls k).x (aT ls k).y (runT F (aT ls k) 64 (mapK F ls s0 k).1).2) = _
      rw [HSM.out, he, HU.out])
     cases hz : zeroB u with
     | true =>
      have HN := Lib.hid (show newA x y u = [] from by unfold newA; rw [hz]; rfl)
      go_wp2_with (first | (go_at_call 84; refine (P_Zero _ _ hut).mono ?_; rintro e wn ⟨rfl, hbn⟩; have hsz := B.size; have hzn := hbn.size; replace B := B.trans (hbn.mono B.size); replace hI := HI.out _ _ _ hI (fun k hk => hbn.block k (by omega)); (try replace t1 := t1.below hbn); (try replace od := od.below hbn)) | (refine wpList_loadAny (t := 103) rfl _ rfl _ _ _ rfl (ta_tile t1) (by first | rfl | omega) ?_; simp only [putS]) | fail)
      go_roundw
      case rel => exact ⟨k + 1, _, _, _, by omega, by go_num, rfl, by rw [es.out, HN.out]; simp [HN5'.out], B, by rw [es.out, HN.out]; simpa using od, by rw [es.out]; exact hI⟩
      case measure => simp [intOf]; omega
     | false =>
      have HN := Lib.hid (show newA x y u = [⟨x, y, u⟩] from by unfold newA; rw [hz]; rfl)
      have hlen : acc.length + 1 ≤ 100000 := by omega
      have hn5 := HN5'.out
      clear HN5'
      subst hn5
      go_wp2_with (first | (at_builtin; refine wpList_appendT rfl _ _ rfl _ _ rfl rfl od ((RS.one s1)) (by simp only [List.length_cons, List.length_nil]; omega) (by omega) ?_; intro v_od wn ht hbn; have hsz := B.size; have hzn := hbn.size; replace B := B.trans (hbn.mono (by omega)); replace hI := HI.out _ _ _ hI (fun k hk => hbn.block k (by omega)); clear od; have od := ht; clear ht; obtain ⟨a_od, c_od, hv, hco⟩ := od.len; (try simp only [List.length_append, List.length_cons, List.length_nil, Nat.zero_add] at hv hco); subst hv; simp only [putS]) | (refine wpList_bs1T rfl _ rfl ⟨x, y, u⟩ (by rfl) ?_; intro b_s1 wn hle hge ht hbn hzn; have hsz := B.size; replace B := B.trans (hbn.mono (by omega)); replace hI := HI.out _ _ _ hI (fun k hk => hbn.block k (by omega)); have hln := Nat.lt_of_lt_of_eq (Nat.lt_succ_self _) hzn.symm; clear hzn; (try have hlt := od.lt); (try replace od := od.below (hbn.mono hle)); have s1 := ht; clear ht; simp only [putS]) | (refine wpList_loadAny (t := 112) rfl _ rfl _ _ _ rfl (run_load_B t1 Try.isAgg112 (ta_size _)) (by rfl) ?_; simp only [putS]) | (go_at_call 84; refine (P_Zero _ _ hut).mono ?_; rintro e wn ⟨rfl, hbn⟩; have hsz := B.size; have hzn := hbn.size; replace B := B.trans (hbn.mono B.size); replace hI := HI.out _ _ _ hI (fun k hk => hbn.block k (by omega)); (try replace t1 := t1.below hbn); (try replace od := od.below hbn)) | (refine wpList_loadAny (t := 103) rfl _ rfl _ _ _ rfl (ta_tile t1) (by first | rfl | omega) ?_; simp only [putS]) | fail)
      go_roundw
      case rel => exact ⟨k + 1, _, _, _, by omega, by go_num, rfl, by rw [es.out, HN.out]; simp, B, by rw [es.out, HN.out]; exact od, by rw [es.out]; exact hI⟩
      case measure => simp [intOf]; omega
  ·obtain rfl : k = ls.length := by omega
   go_wp2
   go_ret
   exact ⟨_, rfl, by rw [HSM.out]; exact od, by rw [HSM.out]; exact hI, B.toChg⟩
/- Contracts of Bounds and Crop of package raster. -/
def rcA (r : Rc) : Array Value := #[.int .i64 r.x0, .int .i64 r.y0, .int .i64 r.x1, .int .i64 r.y1]
theorem Rc.v_A (r : Rc) : Rc.v r = .agg (rcA r) := rfl
def boundF (s : Rc) (x y : Int) (p : Px) : Rc × Px := (if 0 < p.a then unionR s ⟨x, y, x + 1, y + 1⟩ else s, p)
def boundL (ls : List TA) : Rc := (mapK boundF ls Rc.zero ls.length).1
def cropF (c : Rc) (s : Unit) (x y : Int) (p : Px) : Unit × Px := ((), if hasR c x y = true then p else Px.zero)
def cropL (c : Rc) (ls : List TA) : List TA := (mapK (cropF c) ls () ls.length).2
theorem boundF_ok (s : Rc) (x y : Int) (p : Px) (h : p.ok) : (boundF s x y p).2.ok := h
theorem rs_sep {v : Value} {ls : List TA} {w : World} (h : RS v ls w) {cb : Nat} (hc : w.heap.size ≤ cb) : 0 < ls.length → v.ownBlock ≠ some cb := by
 intro hn e
 rcases h with ⟨rfl, rfl⟩ | ⟨g, o, c, rfl, _, sc⟩
 ·exact absurd hn (by decide)
 ·have e : some g = some cb := e
  injection e with e
  have := (sc hn).lt
  omega
theorem fine_pos (ls : List TA) : ∀ e ∈ fineL ls, withinB e.x e.y = true := fun e he => by
 have := validL_good (fineL_valid ls) e he
 unfold goodA at this
 exact (Bool.and_eq_true_iff.1 this).1
theorem px_a {w : World} {b : Nat} {p : Px} (h : PixAt w b p) : w.cell? ⟨b, 3, none⟩ = some (.int .u8 p.a) := ((cells_of_block h).1 3).trans rfl
theorem P_Bounds1 (s : Rc) (x y : Int) (p : Px) (cb : Nat) (w : World) (r0 : AtB 31 w cb (rcA s)) (hx0 : -65536 ≤ x) (hx : x ≤ 65535) (hy0 : -65536 ≤ y) (hy : y ≤ 65535) (hp : p.ok) : Calls Try.prog 74 #[.int .i64 x, .int .i64 y, Px.v p, .pointer (some ⟨cb, 0, none⟩)] w fun e w' => e = .returned (Px.v (boundF s x y p).2) ∧ AtB 31 w' cb (rcA (boundF s x y p).1) ∧ Chg cb w w' := by
 have B := Exc.refl cb w
 have hcb := r0.lt
 obtain ⟨_, _, _, hp1, hp2⟩ := hp
 by_cases ha : 0 < p.a
 ·have e1 := Lib.hid (show boundF s x y p = (unionR s ⟨x, y, x + 1, y + 1⟩, p) from by unfold boundF; rw [if_pos ha])
  have d1 : decide (0 < p.a) = true := decide_eq_true ha
  go_enter Try.func74, Try.ntmps74
  go_wp2_with (first | (refine wpList_storePx rfl _ _ rfl _ rfl (_) rfl q2 ?_; clear q2; intro wn ht hcn hzn; have hsz := B.size; replace hzn := Nat.le_of_eq hzn.symm; replace B := Exc.store B hcn (by omega); (try replace r0 := r0.of_eq (hcn.block _ r0.lt (by omega))); (try replace q1 := q1.of_eq (hcn.block _ q1.lt (by omega))); have q2 := ht; clear ht; simp only [putS]) | (refine wpList_loadPx rfl _ rfl _ rfl q1 ?_; simp only [putS]) | (refine wpList_storeB (t := 31) rfl _ _ rfl _ rfl _ rfl r0 (by kernel_rfl) rfl (by simp [Value.oneCell']) ?_; clear r0; intro wn ht hcn hzn; have hsz := B.size; replace hzn := Nat.le_of_eq hzn.symm; replace B := Exc.chg B hcn; (try replace q1 := q1.of_eq (hcn.block _ q1.lt (by omega))); (try replace q2 := q2.of_eq (hcn.block _ q2.lt (by omega))); have r0 := ht; clear ht; simp only [putS]) | (go_at_call 75; refine (P_Union s ⟨x, y, x + 1, y + 1⟩ _).mono ?_; rintro e wn ⟨rfl, hbn⟩; have hsz := B.size; have hzn := hbn.size; replace B := B.trans (hbn.mono B.size); (try replace r0 := r0.below hbn); (try replace q1 := q1.below hbn); (try replace q2 := q2.below hbn)) | (refine wpList_loadAny (t := 31) rfl _ rfl _ _ _ rfl (run_load_B r0 Try.isAgg31 (by kernel_rfl)) (by rfl) ?_; simp only [putS]) | (refine wpList_loadAny (t := 5) rfl _ rfl _ _ _ rfl (run_load_u8 (px_a q1)) (by rfl) ?_; simp only [putS]) | (have _ := q1; refine wpList_allocPx' rfl rfl ?_; intro b_q2 wn hle hge ht hbn hzn; have hsz := B.size; replace B := B.trans (hbn.mono (by omega)); have hln := Nat.lt_of_lt_of_eq (Nat.lt_succ_self _) hzn.symm; clear hzn; (try have hlt := r0.lt); (try replace r0 := r0.below (hbn.mono hle)); (try have hlt := q1.lt); (try replace q1 := q1.below (hbn.mono hle)); (try have hlt := q2.lt); (try replace q2 := q2.below (hbn.mono hle)); have q2 := ht; clear ht; simp only [putS]) | (refine wpList_boxPx' rfl _ rfl _ rfl ?_; intro b_q1 wn hle hge ht hbn hzn; have hsz := B.size; replace B := B.trans (hbn.mono (by omega)); have hln := Nat.lt_of_lt_of_eq (Nat.lt_succ_self _) hzn.symm; clear hzn; (try have hlt := r0.lt); (try replace r0 := r0.below (hbn.mono hle)); (try have hlt := q1.lt); (try replace q1 := q1.below (hbn.mono hle)); (try have hlt := q2.lt); (try replace q2 := q2.below (hbn.mono hle)); have q1 := ht; clear ht; simp only [putS]) | fail)
  refine bodyPost_ret (results_px rfl _ _ (b_q2) rfl q2) rfl ?_
  exact ⟨by rw [e1.out], by rw [e1.out]; exact r0, B.toChg⟩
 ·have e1 := Lib.hid (show boundF s x y p = (s, p) from by unfold boundF; rw [if_neg ha])
  have d1 : decide (0 < p.a) = false := decide_eq_false ha
  go_enter Try.func74, Try.ntmps74
  go_wp2_with (first | (refine wpList_storePx rfl _ _ rfl _ rfl (_) rfl q2 ?_; clear q2; intro wn ht hcn hzn; have hsz := B.size; replace hzn := Nat.le_of_eq hzn.symm; replace B := Exc.store B hcn (by omega); (try replace r0 := r0.of_eq (hcn.block _ r0.lt (by omega))); (try replace q1 := q1.of_eq (hcn.block _ q1.lt (by omega))); have q2 := ht; clear ht; simp only [putS]) | (refine wpList_loadPx rfl _ rfl _ rfl q1 ?_; simp only [putS]) | (refine wpList_loadAny (t := 5) rfl _ rfl _ _ _ rfl (run_load_u8 (px_a q1)) (by rfl) ?_; simp only [putS]) | (have _ := q1; refine wpList_allocPx' rfl rfl ?_; intro b_q2 wn hle hge ht hbn hzn; have hsz := B.size; replace B := B.trans (hbn.mono (by omega)); have hln := Nat.lt_of_lt_of_eq (Nat.lt_succ_self _) hzn.symm; clear hzn; (try have hlt := r0.lt); (try replace r0 := r0.below (hbn.mono hle)); (try have hlt := q1.lt); (try replace q1 := q1.below (hbn.mono hle)); (try have hlt := q2.lt); (try replace q2 := q2.below (hbn.mono hle)); have q2 := ht; clear ht; simp only [putS]) | (refine wpList_boxPx' rfl _ rfl _ rfl ?_; intro b_q1 wn hle hge ht hbn hzn; have hsz := B.size; replace B := B.trans (hbn.mono (by omega)); have hln := Nat.lt_of_lt_of_eq (Nat.lt_succ_self _) hzn.symm; clear hzn; (try have hlt := r0.lt); (try replace r0 := r0.below (hbn.mono hle)); (try have hlt := q1.lt); (try replace q1 := q1.below (hbn.mono hle)); (try have hlt := q2.lt); (try replace q2 := q2.below (hbn.mono hle)); have q1 := ht; clear ht; simp only [putS]) | fail)
  refine bodyPost_ret (results_px rfl _ _ (b_q2) rfl q2) rfl ?_
  exact ⟨by rw [e1.out], by rw [e1.out]; exact r0, B.toChg⟩
set_option maxHeartbeats 1000000 in
theorem P_BoundsR (v : Value) (ls : List TA) (w : World) (h : RS v ls w) (tk : TokL ls) (hn : ls.length ≤ maxLen) : Calls Try.prog 31 #[.agg #[v]] w fun e w' => e = .returned (Rc.v (boundL (fineL ls))) ∧ Below w.heap.size w w' := by
 have B := Below.refl w.heap.size w
 obtain ⟨a', c', hT⟩ := P_tiles v ls w h tk hn
 have HR0 := Lib.hid (hT w (Below.refl _ _)).2
 have HT := Lib.hid hT
 clear hT
 obtain ⟨a, c, rfl, hc⟩ := h.len
 have TK := Lib.hid (fineL_tok tk)
 have HP := Lib.hid (fine_pos ls)
 have hfl := fineL_length ls
 have eg := enters_of Try.func74 (by kernel_rfl) rfl
 go_enter Try.func31, Try.ntmps31
 go_upto_region 2 with (first | (have _ := r2; refine wpList_allocBk (t := 31) rfl _ (run_alloc_Rc _ _ rfl) ?_; intro b_r0 wn hle hge ht hbn hzn; have hsz := B.size; replace B := B.trans (hbn.mono (by omega)); have hln := Nat.lt_of_lt_of_eq (Nat.lt_succ_self _) hzn.symm; clear hzn; (try have hlt := r1.lt); (try replace r1 := r1.below (hbn.mono hle)); (try have hlt := r2.lt); (try replace r2 := r2.below (hbn.mono hle)); (try have hlt := r0.lt); (try replace r0 := r0.below (hbn.mono hle)); have r0 := ht; clear ht; simp only [putS]) | (have _ := r1; refine wpList_allocBk (t := 31) rfl _ (run_alloc_Rc _ _ rfl) ?_; intro b_r2 wn hle hge ht hbn hzn; have hsz := B.size; replace B := B.trans (hbn.mono (by omega)); have hln := Nat.lt_of_lt_of_eq (Nat.lt_succ_self _) hzn.symm; clear hzn; (try have hlt := r1.lt); (try replace r1 := r1.below (hbn.mono hle)); (try have hlt := r2.lt); (try replace r2 := r2.below (hbn.mono hle)); (try have hlt := r0.lt); (try replace r0 := r0.below (hbn.mono hle)); have r2 := ht; clear ht; simp only [putS]) | (refine wpList_boxB (t := 36) rfl _ rfl _ rfl ?_; intro b_r1 wn hle hge ht hbn hzn; have hsz := B.size; replace B := B.trans (hbn.mono (by omega)); have hln := Nat.lt_of_lt_of_eq (Nat.lt_succ_self _) hzn.symm; clear hzn; (try have hlt := r1.lt); (try replace r1 := r1.below (hbn.mono hle)); (try have hlt := r2.lt); (try replace r2 := r2.below (hbn.mono hle)); (try have hlt := r0.lt); (try replace r0 := r0.below (hbn.mono hle)); have r1 := ht; clear ht; simp only [putS]) | fail)
 have k0 : w.heap.size ≤ b_r0 := by omega
 have k1 : b_r2 < b_r0 := by have := r2.lt; omega
 go_wp2_with (first | (go_at_call 72; have hr0 := r0.lt; have hsp := rs_sep HR0.out k0; have hsz := B.size; refine (P_mapped boundF (fun s W => AtB 31 W b_r0 (rcA s)) b_r0 74 #[.pointer (some ⟨b_r0, 0, none⟩)] eg _ (fineL ls) Rc.zero _ (HT.out _ B).2 TK.out (by omega) HP.out hr0 hsp r0 (fun s W W' hI hk => hI.of_eq (hk _ hr0)) (fun s W x y p _ hI h1 h2 h3 h4 hp => P_Bounds1 s x y p b_r0 W hI h1 h2 h3 h4 hp) boundF_ok).mono ?_; rintro e wn ⟨v1, rfl, _, hI, hcc⟩; have hzn := hcc.size; replace r2 := r2.of_eq (hcc.block _ r2.lt (by omega)); replace B := Chg.below B hcc k0 hsz; have r0 := hI; clear hI) | (go_at_call 73; refine (HT.out _ B).1.mono ?_; rintro e wn ⟨rfl, hbn⟩; have hsz := B.size; have hzn := hbn.size; replace B := B.trans (hbn.mono B.size); (try replace r1 := r1.below hbn); (try replace r2 := r2.below hbn); (try replace r0 := r0.below hbn)) | (refine wpList_loadAny (t := 36) rfl _ rfl _ _ _ rfl (run_load_B r1 Try.isAgg36 (by kernel_rfl)) (by rfl) ?_; simp only [putS]) | (refine wpList_loadAny (t := 31) rfl _ rfl _ _ _ rfl (run_load_B r0 Try.isAgg31 (by kernel_rfl)) (by rfl) ?_; simp only [putS]) | (refine wpList_storeB (t := 31) rfl _ _ rfl _ rfl _ rfl r2 (by kernel_rfl) rfl (by simp [rcA, Value.oneCell']) ?_; clear r2; intro wn ht hcn hzn; have hsz := B.size; replace hzn := Nat.le_of_eq hzn.symm; replace B := Chg.below B hcn (by omega) B.size; (try replace r1 := r1.of_eq (hcn.block _ r1.lt (by omega))); (try replace r0 := r0.of_eq (hcn.block _ r0.lt (by omega))); have r2 := ht; clear ht; simp only [putS]) | fail)
 refine bodyPost_ret (results_B (t := 31) rfl _ _ (b_r2) rfl r2 Try.isAgg31 (by kernel_rfl)) rfl ?_
 exact ⟨rfl, B⟩
/- Contracts of the reference's Bounds and Crop. -/
/- Rows of pixels; images; contract of the closure of Image of package raster. -/
def pxE : Elt Px 4 59 132 where
 enc := pxA
 bytes := 4
 zero := Px.zero
 size := fun _ => rfl
 one := fun x u hu => by
  have : u ∈ [Value.int .u8 x.r, .int .u8 x.g, .int .u8 x.b, .int .u8 x.a] := hu
  simp at this
  rcases this with rfl | rfl | rfl | rfl <;> rfl
 pos := by omega
 small := by omega
 und := Try.underlying132
 info := by kernel_rfl
 zer := by kernel_rfl
theorem rowE_set (ls : List Px) : ∀ (i : Nat) (p : Px), i < ls.length → ((((rowE pxE ls).set (i * 4) (.int .u8 p.r)).set (i * 4 + 1) (.int .u8 p.g)).set (i * 4 + 2) (.int .u8 p.b)).set (i * 4 + 3) (.int .u8 p.a) = rowE pxE (ls.set i p) := by
 induction ls with
 | nil => intro i p h; exact absurd h (Nat.not_lt_zero _)
 | cons q r ih =>
  intro i p h
  cases i with
  | zero => rfl
  | succ i =>
   have e : ∀ j, (i + 1) * 4 + j = (i * 4 + j) + 4 := fun j => by omega
   have := ih i p (by simpa using h)
   show ((((((Value.int .u8 q.r :: .int .u8 q.g :: .int .u8 q.b :: .int .u8 q.a :: rowE pxE r).set ((i + 1) * 4) _).set ((i + 1) * 4 + 1) _).set ((i + 1) * 4 + 2) _).set ((i + 1) * 4 + 3) _)) = Value.int .u8 q.r :: .int .u8 q.g :: .int .u8 q.b :: .int .u8 q.a :: rowE pxE (r.set i p)
   rw [show (i + 1) * 4 = (i * 4) + 4 by omega, show i * 4 + 4 + 1 = i * 4 + 1 + 4 by omega, show i * 4 + 4 + 2 = i * 4 + 2 + 4 by omega, show i * 4 + 4 + 3 = i * 4 + 3 + 4 by omega]
   simp only [List.set_cons_succ]
   rw [this]
theorem RowAt.set4 {w : World} {b i : Nat} {ls : List Px} (h : RowAt pxE w b ls) (hi : i < ls.length) (p : Px) :
  RowAt pxE ((((w.setCell ⟨b, i * 4, none⟩ (.int .u8 p.r)).setCell ⟨b, i * 4 + 1, none⟩ (.int .u8 p.g)).setCell ⟨b, i * 4 + 2, none⟩ (.int .u8 p.b)).setCell ⟨b, i * 4 + 3, none⟩ (.int .u8 p.a)) b (ls.set i p) := by
 unfold RowAt AtB
 rw [← rowE_set ls i p hi]
 have := heap_setCell_same _ b (i * 4 + 3) _ _ (.int .u8 p.a) (heap_setCell_same _ b (i * 4 + 2) _ _ (.int .u8 p.b) (heap_setCell_same _ b (i * 4 + 1) _ _ (.int .u8 p.g) (heap_setCell_same _ b (i * 4) _ _ (.int .u8 p.r) h)))
 simpa only [List.setIfInBounds_toArray] using this
/-! ### The closure of Image -/
def idxI (c : Rc) (x y : Int) : Int := (y - c.y0) * (c.x1 - c.x0) + x - c.x0
def imgF (c : Rc) (s : List Px) (x y : Int) (p : Px) : List Px × Px := (if hasR c x y = true then s.set (idxI c x y).toNat p else s, p)
def imgC (c : Rc) (u : Value) : Array Value := #[.int .i64 c.x0, .int .i64 c.y0, .int .i64 c.x1, .int .i64 c.y1, u]
/-- A rectangle that fits. -/
structure Fits (c : Rc) : Prop where
 h1 : c.x0 < c.x1
 h2 : c.y0 < c.y1
 h3 : -65536 ≤ c.x0
 h4 : -65536 ≤ c.y0
 h5 : c.x1 ≤ 65536
 h6 : c.y1 ≤ 65536
 h7 : c.x1 - c.x0 ≤ 256
 h8 : c.y1 - c.y0 ≤ 256
theorem fitsE_zero {c : Rc} (h : fitsE c = 0) : Fits c := by
 unfold fitsE at h
 split at h
 ·rename_i hv
  obtain ⟨⟨a1, a2⟩, a3, a4, a5, a6⟩ := (validR_iff c).1 hv
  split at h
  ·cases h
  ·exact ⟨a1, a2, a3, a4, a5, a6, by omega, by omega⟩
 ·cases h
theorem Fits.valid {c : Rc} (h : Fits c) : validR c = true := (validR_iff c).2 ⟨⟨h.h1, h.h2⟩, h.h3, h.h4, h.h5, h.h6⟩
def areaN (c : Rc) : Nat := ((c.x1 - c.x0) * (c.y1 - c.y0)).toNat
theorem idxI_bd {c : Rc} (hf : Fits c) {x y : Int} (hh : hasR c x y = true) : 0 ≤ (y - c.y0) * (c.x1 - c.x0) ∧ (y - c.y0) * (c.x1 - c.x0) ≤ 65536 ∧ 0 ≤ idxI c x y ∧ (idxI c x y).toNat < areaN c := by
 have hh := of_decide_eq_true hh
 obtain ⟨a1, a2, a3, a4, a5, a6, a7, a8⟩ := hf
 unfold idxI areaN
 obtain ⟨W, hW⟩ : ∃ W : Nat, c.x1 - c.x0 = W := ⟨(c.x1 - c.x0).toNat, by omega⟩
 obtain ⟨Y, hY⟩ : ∃ Y : Nat, y - c.y0 = Y := ⟨(y - c.y0).toNat, by omega⟩
 obtain ⟨H, hH⟩ : ∃ H : Nat, c.y1 - c.y0 = H := ⟨(c.y1 - c.y0).toNat, by omega⟩
 obtain ⟨X, hX⟩ : ∃ X : Nat, x - c.x0 = X := ⟨(x - c.x0).toNat, by omega⟩
 rw [hW, hY, hH]
 have e1 : ((Y : Int) * (W : Int)) + x - c.x0 = ((Y * W + X : Nat) : Int) := by rw [Int.natCast_add, Int.natCast_mul]; omega
 have e2 : ((W : Int) * (H : Int)) = ((W * H : Nat) : Int) := by rw [Int.natCast_mul]
 have e3 : ((Y : Int) * (W : Int)) = ((Y * W : Nat) : Int) := by rw [Int.natCast_mul]
 rw [e1, e2, e3]
 have m1 : Y * W ≤ 256 * 256 := Nat.mul_le_mul (by omega) (by omega)
 have m2 : (Y + 1) * W ≤ H * W := Nat.mul_le_mul_right W (by omega)
 rw [Nat.succ_mul] at m2
 have m3 : W * H = H * W := Nat.mul_comm _ _
 omega
theorem imgC_u {w : World} {b : Nat} {c : Rc} {u : Value} (h : AtB 134 w b (imgC c u)) : w.cell? ⟨b, 4, none⟩ = some u := h.cell 4 rfl
theorem run_load_slp {w : World} {b j : Nat} {v : Value} (h : w.cell? ⟨b, j, none⟩ = some v) : (Instr.loadAt 132 (.pointer (some ⟨b, j, none⟩))).run Try.prog w = .ok v w := by
 simp [go_sem, h]
/- Contract of Image of package raster. -/
/-- The pixels that Image of package raster makes. -/
def imgPL (c : Rc) (ks : List TA) : List Px := (mapK (imgF c) ks (List.replicate (areaN c) Px.zero) ks.length).1
theorem run_load_img {w : World} {b : Nat} {c : Rc} {u : Value} (h : AtB 134 w b (imgC c u)) : (Instr.loadAt 134 (.pointer (some ⟨b, 0, none⟩))).run Try.prog w = .ok (.agg #[.int .i64 c.x0, .int .i64 c.y0, .int .i64 c.x1, .int .i64 c.y1, u]) w :=
 run_load_B h Try.isAgg134 (by kernel_rfl)
theorem run_alloc_Im (w : World) (o : Oper) (ho : o.op = .alloc 134) (ev : Operand → Value) : (execOp ev o).run Try.prog w = .ok (.value (.pointer (some ⟨w.heap.size, 0, none⟩))) (w.alloc (.cells (imgC Rc.zero (.slice none 0 0)) 134)) := by
 obtain ⟨d, p, t, ps, af, gd⟩ := o
 simp only at ho
 subst ho
 kernel_rfl
theorem area_N {c : Rc} (hf : Fits c) : areaR c = (areaN c : Int) := by
 obtain ⟨a1, a2, a3, a4, a5, a6, a7, a8⟩ := hf
 have hE : emptyR c = false := by unfold emptyR; exact decide_eq_false (by omega)
 have hm := mul_bd (a := c.x1 - c.x0) (b := c.y1 - c.y0) (m := 256) (k := 256) (by omega) (by omega) (by omega) (by omega)
 unfold areaR areaN
 rw [hE]
 show (c.x1 - c.x0) * (c.y1 - c.y0) = _
 omega
theorem area_bd {c : Rc} (hf : Fits c) : 1 ≤ areaN c ∧ areaN c ≤ 65536 := by
 obtain ⟨a1, a2, a3, a4, a5, a6, a7, a8⟩ := hf
 unfold areaN
 have hm := mul_bd (a := c.x1 - c.x0) (b := c.y1 - c.y0) (m := 256) (k := 256) (by omega) (by omega) (by omega) (by omega)
 have hp : 0 < (c.x1 - c.x0) * (c.y1 - c.y0) := Int.mul_pos (by omega) (by omega)
 omega
/- The sanity check of the raster laws: its values. -/
def sP : Px := ⟨9, 0, 0, 255⟩
def sQ : Px := ⟨1, 0, 0, 0⟩
def sC : Rc := ⟨-2, 9, 0, 10⟩
theorem s1 : setE [] (-1) 9 sP = 0 := by decide
theorem s2 : setR [] (-1) 9 sP = [⟨-1, 1, cleanT (setT zT 7 1 sP)⟩] := by rfl
def sR1 : List TA := [⟨-1, 1, cleanT (setT zT 7 1 sP)⟩]
theorem s3 : validL sR1 = true := by decide
theorem s4 : fineL sR1 = sR1 := fineL_of s3
theorem s10 : getL sR1 (-1) 9 = sP := by decide
/-! ### '==' of rectangles -/
instance decRc : DecidableEq Rc := fun a b =>
 if h : a.x0 = b.x0 ∧ a.y0 = b.y0 ∧ a.x1 = b.x1 ∧ a.y1 = b.y1 then isTrue (by obtain ⟨a1, a2, a3, a4⟩ := a; obtain ⟨b1, b2, b3, b4⟩ := b; obtain ⟨rfl, rfl, rfl, rfl⟩ := h; rfl)
 else isFalse fun e => h (by rw [e]; exact ⟨rfl, rfl, rfl, rfl⟩)
@[go_sem] theorem guard_rc (op : BinOp) (p q : Operand) (a b : Array Value) (w : World) : (eqGuard op 31 p q (.agg a) (.agg b)).run Try.prog w = .ok () w := run_eqGuard_agg w op 31 p q _ _ (by kernel_rfl)
theorem rce_px {g o : Nat} {ls : List Px} {w : World} (h : RCellsE pxE g o ls w) {i : Nat} {x : Px} (hi : ls[i]? = some x) : (Instr.loadAt 59 (.pointer (some ⟨g, o + i * 4, none⟩))).run Try.prog w = .ok (Px.v x) w :=
 h.load Try.isAgg59 hi
/-! ### The walk -/
/- Contracts of gouacheref04.Made, gouacheref07.Made. -/
section
variable {ops : Array Oper} {rest : List Oper} {o : Oper} {a : Act} {w : World} {Q : Exit → Act → World → Prop}
end
def madeA (u : Int) : Int := if u % 5 = 1 then 255 else if u % 5 = 3 then 0 else u / 16777216
def madeP (x : Int) : Px := ⟨x % 256, x % 4294967296 / 256 % 256, x % 4294967296 / 65536 % 256, madeA (x % 4294967296)⟩
/- Slices of integers; contracts of gouacheref07.Made, pick. -/
def inE : Elt Int 1 3 23 where
 enc := fun x => #[.int .i64 x]
 bytes := 8
 zero := 0
 size := fun _ => rfl
 one := fun x u hu => by
  have : u ∈ [Value.int .i64 x] := hu
  rw [List.mem_singleton.1 this]; rfl
 pos := by omega
 small := by omega
 und := Try.underlying23
 info := by kernel_rfl
 zer := by kernel_rfl
theorem rci_int {g o : Nat} {L : List Int} {w : World} (h : RCellsE inE g o L w) {i : Nat} {x : Int} (hi : L[i]? = some x) : w.cell? ⟨g, o + i, none⟩ = some (.int .i64 x) := by
 have := h.2 i x hi 0 (by omega)
 rw [Nat.mul_one, Nat.add_zero] at this
 exact this
def getI (L : List Int) (i : Nat) : Int := L.getD i 0
theorem getD_some {L : List Int} {i : Nat} (h : i < L.length) : L[i]? = some (getI L i) := by
 unfold getI
 rw [List.getD_eq_getElem?_getD, List.getElem?_eq_getElem h]; rfl
def madeS (L : List Int) (i : Nat) : Int := getI L (i * L.length / 64)
def madeQ (L : List Int) (i : Nat) : Px := if madeS L i % 4 = 2 then cleanP (madeP (madeS L i + 7919 * i)) else cleanP (madeP (madeS L i))
def madeT (L : List Int) : Nat → Px := if L.length = 0 then zT else madeQ L
def pickI (L : List Int) (i : Nat) (m : Int) : Int := if i < L.length then getI L i % 1048576 % m else 0
end Go.Proofs.Ytamgpfblhlfhaaa
/- Plain: polygons: which rays cross an edge, the coverage of a pixel, the rectangle from the least to the greatest coordinates. -/
namespace Go.Proofs.Ytamgpfblhlfhaaa
open Go.RowKit Pl
set_option linter.unusedVariables false
set_option linter.unusedSimpArgs false
abbrev Pnt := Int × Int
def farP (p : Pnt) : Bool := decide (p.1 < -65536 ∨ p.2 < -65536 ∨ 65536 < p.1 ∨ 65536 < p.2)
def nearL (l : List Pnt) : Prop := ∀ p ∈ l, farP p = false
def validG (l : List Pnt) : Bool := decide (3 ≤ l.length ∧ l.length ≤ 64) && l.all fun p => !farP p
theorem farP_no {p : Pnt} : farP p = false ↔ (-65536 ≤ p.1 ∧ p.1 ≤ 65536 ∧ -65536 ≤ p.2 ∧ p.2 ≤ 65536) := by
 unfold farP
 rw [decide_eq_false_iff_not]
 omega
theorem validG_iff {l : List Pnt} : validG l = true ↔ (3 ≤ l.length ∧ l.length ≤ 64) ∧ nearL l := by
 unfold validG nearL
 rw [Bool.and_eq_true_iff, decide_eq_true_iff, List.all_eq_true]
 simp
/-- The ray from (u, v) to the right crosses the edge from a up to b. -/
def crs0 (a b : Pnt) (u v : Int) : Bool := decide (a.2 ≤ v ∧ v < b.2 ∧ (u - a.1) * (b.2 - a.2) < (b.1 - a.1) * (v - a.2))
def crs (a b : Pnt) (u v : Int) : Bool := if b.2 < a.2 then crs0 b a u v else crs0 a b u v
def pt8 (p : Pnt) : Pnt := (8 * p.1, 8 * p.2)
def ptG (l : List Pnt) (i : Nat) : Pnt := l.getD i (0, 0)
def edgeB (l : List Pnt) (u v : Int) (i : Nat) : Bool := crs (pt8 (ptG l i)) (pt8 (ptG l ((i + 1) % l.length))) u v
/-- The parity of a sequence of answers. -/
def parK (f : Nat → Bool) : Nat → Bool
 | 0 => false
 | k + 1 => Bool.xor (parK f k) (f k)
def oddG (l : List Pnt) (u v : Int) : Bool := parK (edgeB l u v) l.length
def smpG (l : List Pnt) (x y : Int) (i : Nat) : Bool := oddG l (8 * x + 2 * ((i : Int) % 4) + 1) (8 * y + 2 * ((i : Int) / 4) + 1)
def cntK (f : Nat → Bool) : Nat → Nat
 | 0 => 0
 | k + 1 => cntK f k + (if f k = true then 1 else 0)
theorem cntK_le (f : Nat → Bool) : ∀ k, cntK f k ≤ k
 | 0 => Nat.le_refl _
 | k + 1 => by
  have := cntK_le f k
  show cntK f k + (if f k = true then 1 else 0) ≤ _
  split <;> omega
def covI (n : Nat) : Int := (255 * (n : Int) + 8) / 16
def covG (l : List Pnt) (x y : Int) : Int := covI (cntK (smpG l x y) 16)
/-! ### The rectangle from the least to the greatest coordinates -/
def growR (r : Rc) (p : Pnt) : Rc := ⟨min r.x0 p.1, min r.y0 p.2, max r.x1 p.1, max r.y1 p.2⟩
def ptR (p : Pnt) : Rc := ⟨p.1, p.2, p.1, p.2⟩
def hullG : List Pnt → Rc
 | [] => Rc.zero
 | p :: r => r.foldl growR (ptR p)
theorem growR_self (p : Pnt) : growR (ptR p) p = ptR p := by
 unfold growR ptR
 simp
/-- Each point lies within the rectangle; each side bears one. -/
structure Around (r : Rc) (l : List Pnt) : Prop where
 h1 : ∀ p ∈ l, r.x0 ≤ p.1 ∧ p.1 ≤ r.x1 ∧ r.y0 ≤ p.2 ∧ p.2 ≤ r.y1
 l1 : ∃ p ∈ l, p.1 = r.x0
 l2 : ∃ p ∈ l, p.1 = r.x1
 l3 : ∃ p ∈ l, p.2 = r.y0
 l4 : ∃ p ∈ l, p.2 = r.y1
theorem Around.grow {r : Rc} {l : List Pnt} (h : Around r l) (p : Pnt) : Around (growR r p) (l ++ [p]) := by
 obtain ⟨h1, ⟨a, ha, ea⟩, ⟨b, hb, eb⟩, ⟨c, hc, ec⟩, ⟨d, hd, ed⟩⟩ := h
 have hp : p ∈ l ++ [p] := List.mem_append_right _ (List.mem_cons_self ..)
 have hl : ∀ {q}, q ∈ l → q ∈ l ++ [p] := fun hq => List.mem_append_left _ hq
 unfold growR
 constructor
 ·intro q hq
  show min r.x0 p.1 ≤ q.1 ∧ q.1 ≤ max r.x1 p.1 ∧ min r.y0 p.2 ≤ q.2 ∧ q.2 ≤ max r.y1 p.2
  rcases List.mem_append.1 hq with hq | hq
  ·have := h1 q hq; omega
  ·obtain rfl : q = p := by simpa using hq
   omega
 ·show ∃ q ∈ l ++ [p], q.1 = min r.x0 p.1
  by_cases h : r.x0 ≤ p.1
  ·exact ⟨a, hl ha, by omega⟩
  ·exact ⟨p, hp, by omega⟩
 ·show ∃ q ∈ l ++ [p], q.1 = max r.x1 p.1
  by_cases h : p.1 ≤ r.x1
  ·exact ⟨b, hl hb, by omega⟩
  ·exact ⟨p, hp, by omega⟩
 ·show ∃ q ∈ l ++ [p], q.2 = min r.y0 p.2
  by_cases h : r.y0 ≤ p.2
  ·exact ⟨c, hl hc, by omega⟩
  ·exact ⟨p, hp, by omega⟩
 ·show ∃ q ∈ l ++ [p], q.2 = max r.y1 p.2
  by_cases h : p.2 ≤ r.y1
  ·exact ⟨d, hl hd, by omega⟩
  ·exact ⟨p, hp, by omega⟩
/-- What the program's loop has behind k points; its first round takes the first point anew. -/
def hullK (l : List Pnt) (k : Nat) : Rc := (l.take k).foldl growR (ptR (ptG l 0))
theorem take_ptG {l : List Pnt} {k : Nat} (h : k < l.length) : l.take (k + 1) = l.take k ++ [ptG l k] := by
 unfold ptG
 rw [List.take_add_one, List.getD_eq_getElem?_getD, List.getElem?_eq_getElem h]
 rfl
theorem hullK_step {l : List Pnt} {k : Nat} (h : k < l.length) : hullK l (k + 1) = growR (hullK l k) (ptG l k) := by
 unfold hullK
 rw [take_ptG h, List.foldl_append]
 rfl
theorem hullK_all {l : List Pnt} (h : l ≠ []) : hullK l l.length = hullG l := by
 unfold hullK
 rw [List.take_length]
 cases l with
 | nil => exact absurd rfl h
 | cons p r =>
  show r.foldl growR (growR (ptR p) p) = _
  rw [growR_self]
  rfl
def boundG (l : List Pnt) : Rc := if validG l = true then normR (hullG l) else Rc.zero
/-! ### A pixel outside of the rectangle is not covered -/
theorem ptG_mem {l : List Pnt} {i : Nat} (h : i < l.length) : ptG l i ∈ l := by
 unfold ptG
 rw [List.getD_eq_getElem?_getD, List.getElem?_eq_getElem h]
 exact List.getElem_mem h
def coverP (l : List Pnt) (x y : Int) : Int := if hasR (boundG l) x y = true then covG l x y else 0
def coverR (l : List Pnt) (x y : Int) : Int := if validG l = true ∧ -70000 ≤ x ∧ -70000 ≤ y ∧ x ≤ 70000 ∧ y ≤ 70000 then covG l x y else 0
/- Plain: a polygon shifted, turned round, told from another point or in the other order: the same coverage. -/
def shp (d : Pnt) (p : Pnt) : Pnt := (p.1 + d.1, p.2 + d.2)
/-- The list of the points at k, k + 1 .. of another one, shifted. -/
def rotG (l : List Pnt) (k : Nat) (d : Pnt) : List Pnt := (List.range l.length).map fun i => shp d (ptG l ((i + k) % l.length))
def revG (l : List Pnt) (k : Nat) : List Pnt := (List.range l.length).map fun i => ptG l ((l.length + k - i) % l.length)
/-! ### The polygon that numbers describe -/
def numI (q : List Int) (i : Nat) : Int := q.getD i 0
def pathN (q : List Int) : Nat := min (q.length / 2) 12
def pathP (q : List Int) (j : Nat) : Pnt := (numI q (2 * j) % 28 - 8, numI q (2 * j + 1) % 28 - 8)
def pathK (q : List Int) (k : Nat) : List Pnt := (List.range k).map (pathP q)
def pathG (q : List Int) : List Pnt := pathK q (pathN q)
end Go.Proofs.Ytamgpfblhlfhaaa
/- Slices of points; calls of function values. -/
namespace Go.Proofs.Ytamgpfblhlfhaaa
open Go.RowKit Go.Shelf Pl
set_option linter.unusedVariables false
set_option linter.unusedSimpArgs false
set_option maxRecDepth 20000
def ptE : Elt (Int × Int) 2 44 22 where
 enc := fun x => #[.int .i64 x.1, .int .i64 x.2]
 bytes := 16
 zero := (0, 0)
 size := fun _ => rfl
 one := fun x u hu => by
  have : u ∈ [Value.int .i64 x.1, .int .i64 x.2] := hu
  rcases List.mem_cons.1 this with rfl | this
  ·rfl
  ·rw [List.mem_singleton.1 this]; rfl
 pos := by omega
 small := by omega
 und := Try.underlying22
 info := by kernel_rfl
 zer := by kernel_rfl
theorem rce_pt {g o : Nat} {ls : List (Int × Int)} {w : World} (h : RCellsE ptE g o ls w) {i : Nat} {x y : Int} (hi : ls[i]? = some (x, y)) : (Instr.loadAt 44 (.pointer (some ⟨g, o + i * 2, none⟩))).run Try.prog w = .ok (.agg #[.int .i64 x, .int .i64 y]) w :=
 h.load Try.isAgg44 hi
theorem rce_ptx {g o : Nat} {ls : List (Int × Int)} {w : World} (h : RCellsE ptE g o ls w) {i : Nat} {x y : Int} (hi : ls[i]? = some (x, y)) : (Instr.loadAt 3 (.pointer (some ⟨g, o + i * 2, none⟩))).run Try.prog w = .ok (.int .i64 x) w :=
 run_load_int (by have := h.2 i _ hi 0 (by omega); rw [Nat.add_zero] at this; exact this)
theorem rce_pty {g o : Nat} {ls : List (Int × Int)} {w : World} (h : RCellsE ptE g o ls w) {i : Nat} {x y : Int} (hi : ls[i]? = some (x, y)) : (Instr.loadAt 3 (.pointer (some ⟨g, o + i * 2 + 1, none⟩))).run Try.prog w = .ok (.int .i64 y) w :=
 run_load_int (by have := h.2 i _ hi 1 (by omega); rw [← Nat.add_assoc] at this; exact this)
section
variable {P : Program} {ops : Array Oper} {Q : Exit → Act → World → Prop} {w : World}
theorem wp_callV {g : FuncId} {x : Operand} {xs : Array Operand} {ats : Array TypeId} {o : Oper} {a : Act} {K : Act → World → Prop} {vals lb : Array Value} (ho : o.op = .call { callee := .value x, args := xs, argTypes := ats }) (hx : a.eval x = .func (.func g) #[] lb) (eg : Go.Proofs.Enters P g) (hv : xs.map a.eval = vals)
  (h : Calls P g (vals ++ lb) w fun e w' => ∃ v, e = .returned v ∧ K (a.put o.dst v) w') : o.wp P a w K Q := by
 subst hv
 obtain ⟨dst, op, ty, pos, after, guard⟩ := o
 simp only at ho
 subst ho
 unfold Oper.wp
 have key : ∀ ρ : Operand → Value, ρ x = .func (.func g) #[] lb → (execOp ρ { dst, op := .call { callee := .value x, args := xs, argTypes := ats }, type := ty, pos, after, guard : Oper }).run P w = .ok (.enter g (xs.map ρ ++ lb)) w := fun ρ hρ => by
  have := eg (xs.map ρ ++ lb) w
  simp [go_sem, hρ, this]
 rw [key a.eval hx]
 exact Calls.mono h fun e w' ⟨v, he, hk⟩ => by subst he; exact hk
theorem wpList_minI {x y : Operand} {t : TypeId} {ty : TypeId} {o : Oper} {r : List Oper} {a : Act} {p q : Int} (hw : Region.wanted o (yielded ops a.tmps) = true) (ho : o.op = .call { callee := .builtin .min, args := #[x, y], argTypes := #[t, t] }) (hty : o.type = ty) (ht : P.underlying ty = some (.int .i64)) (hx : a.eval x = .int .i64 p) (hy : a.eval y = .int .i64 q)
  (h : wpList P ops Q r (a.put o.dst (.int .i64 (min p q))) w) : wpList P ops Q (o :: r) a w := by
 unfold wpList
 rw [if_pos hw]
 left
 obtain ⟨dst, op, type, pos, after, guard⟩ := o
 simp only at ho hty
 subst ho
 subst hty
 unfold Oper.wp
 have hu := run_underlying ht w
 have key : ∀ ρ : Operand → Value, ρ x = .int .i64 p → ρ y = .int .i64 q → (execOp ρ { dst, op := .call { callee := .builtin .min, args := #[x, y], argTypes := #[t, t] }, type, pos, after, guard : Oper }).run P w = .ok (.value (.int .i64 (min p q))) w := fun ρ h1 h2 => by
  simp [go_sem, h1, h2, hu, Builtin.min_, Builtin.min2, ht]; (split <;> omega)
 rw [key a.eval hx hy]
 exact h
theorem wpList_maxI {x y : Operand} {t : TypeId} {ty : TypeId} {o : Oper} {r : List Oper} {a : Act} {p q : Int} (hw : Region.wanted o (yielded ops a.tmps) = true) (ho : o.op = .call { callee := .builtin .max, args := #[x, y], argTypes := #[t, t] }) (hty : o.type = ty) (ht : P.underlying ty = some (.int .i64)) (hx : a.eval x = .int .i64 p) (hy : a.eval y = .int .i64 q)
  (h : wpList P ops Q r (a.put o.dst (.int .i64 (max p q))) w) : wpList P ops Q (o :: r) a w := by
 unfold wpList
 rw [if_pos hw]
 left
 obtain ⟨dst, op, type, pos, after, guard⟩ := o
 simp only at ho hty
 subst ho
 subst hty
 unfold Oper.wp
 have hu := run_underlying ht w
 have key : ∀ ρ : Operand → Value, ρ x = .int .i64 p → ρ y = .int .i64 q → (execOp ρ { dst, op := .call { callee := .builtin .max, args := #[x, y], argTypes := #[t, t] }, type, pos, after, guard : Oper }).run P w = .ok (.value (.int .i64 (max p q))) w := fun ρ h1 h2 => by
  simp [go_sem, h1, h2, hu, Builtin.max_, Builtin.max2, ht]; (split <;> omega)
 rw [key a.eval hx hy]
 exact h
end
end Go.Proofs.Ytamgpfblhlfhaaa
/- Contracts of far, crosses of package selection and of its reference; of rest. -/
namespace Go.Proofs.Ytamgpfblhlfhaaa
open Go.RowKit Pl
set_option linter.unusedVariables false
set_option linter.unusedSimpArgs false
set_option maxRecDepth 20000
theorem P_far (x y : Int) (w : World) : Calls Try.prog 40 #[.agg #[.int .i64 x, .int .i64 y]] w fun e w' => e = .returned (.bool (farP (x, y))) ∧ Below w.heap.size w w' := by
 by_cases h0 : min x y < -65536
 ·rw [show farP (x, y) = true from by unfold farP; exact decide_eq_true (by simp only; omega)]
  have d0 : decide (min x y < -65536) = true := decide_eq_true h0
  go_enter Try.func40, Try.ntmps40
  go_wp2
  go_ret
  exact ⟨rfl, by go_grown⟩
 ·by_cases h1 : 65536 < max x y
  ·rw [show farP (x, y) = true from by unfold farP; exact decide_eq_true (by simp only; omega)]
   have d0 : decide (min x y < -65536) = false := decide_eq_false h0
   have d1 : decide (65536 < max x y) = true := decide_eq_true h1
   go_enter Try.func40, Try.ntmps40
   go_wp2
   go_ret
   exact ⟨rfl, by go_grown⟩
  ·rw [show farP (x, y) = false from by unfold farP; exact decide_eq_false (by simp only; omega)]
   have d0 : decide (min x y < -65536) = false := decide_eq_false h0
   have d1 : decide (65536 < max x y) = false := decide_eq_false h1
   go_enter Try.func40, Try.ntmps40
   go_wp2
   go_ret
   exact ⟨rfl, by go_grown⟩
theorem mulS_bd {p q M : Int} (hp : -M ≤ p ∧ p ≤ M) (hq : -M ≤ q ∧ q ≤ M) : -(M * M) ≤ p * q ∧ p * q ≤ M * M := by
 have h1 : 0 ≤ (M - p) * (M + q) := Int.mul_nonneg (by omega) (by omega)
 have h2 : 0 ≤ (M + p) * (M - q) := Int.mul_nonneg (by omega) (by omega)
 have h3 : 0 ≤ (M - p) * (M - q) := Int.mul_nonneg (by omega) (by omega)
 have h4 : 0 ≤ (M + p) * (M + q) := Int.mul_nonneg (by omega) (by omega)
 simp only [Int.sub_mul, Int.mul_sub, Int.add_mul, Int.mul_add] at h1 h2 h3 h4
 constructor <;> omega
set_option maxHeartbeats 4000000 in
theorem P_crosses (ax ay bx bv u v : Int) (h1 : -600000 ≤ ax ∧ ax ≤ 600000) (h2 : -600000 ≤ ay ∧ ay ≤ 600000) (h3 : -600000 ≤ bx ∧ bx ≤ 600000) (h4 : -600000 ≤ bv ∧ bv ≤ 600000) (h5 : -600000 ≤ u ∧ u ≤ 600000) (h6 : -600000 ≤ v ∧ v ≤ 600000) (w : World) : Calls Try.prog 113 #[.agg #[.int .i64 ax, .int .i64 ay], .agg #[.int .i64 bx, .int .i64 bv], .int .i64 u, .int .i64 v] w fun e w' => e = .returned (.bool (crs (ax, ay) (bx, bv) u v)) ∧ Below w.heap.size w w' := by
 have g1 := h1
 have g2 := h2
 have g3 := h3
 have g4 := h4
 have g5 := h5
 have g6 := h6
 clear h1 h2 h3 h4 h5 h6
 by_cases hs : bv < ay
 ·rw [show crs (ax, ay) (bx, bv) u v = crs0 (bx, bv) (ax, ay) u v from if_pos hs]
  have ds : decide (bv < ay) = true := decide_eq_true hs
  by_cases h0 : bv ≤ v
  ·by_cases h1 : v < ay
   ·by_cases h2 : (u - bx) * (ay - bv) < (ax - bx) * (v - bv)
    ·rw [show crs0 (bx, bv) (ax, ay) u v = true from by unfold crs0; exact decide_eq_true (by simp only; omega)]
     have d0 : decide (bv ≤ v) = true := decide_eq_true h0
     have d1 : decide (v < ay) = true := decide_eq_true h1
     have d2 : decide ((u - bx) * (ay - bv) < (ax - bx) * (v - bv)) = true := decide_eq_true h2
     obtain ⟨m1, m2⟩ := mulS_bd (M := 1600000) (p := u - bx) (q := ay - bv) (by omega) (by omega)
     obtain ⟨m3, m4⟩ := mulS_bd (M := 1600000) (p := ax - bx) (q := v - bv) (by omega) (by omega)
     go_enter Try.func113, Try.ntmps113
     go_wp2
     go_ret
     exact ⟨rfl, by go_grown⟩
    ·rw [show crs0 (bx, bv) (ax, ay) u v = false from by unfold crs0; exact decide_eq_false (by simp only; omega)]
     have d0 : decide (bv ≤ v) = true := decide_eq_true h0
     have d1 : decide (v < ay) = true := decide_eq_true h1
     have d2 : decide ((u - bx) * (ay - bv) < (ax - bx) * (v - bv)) = false := decide_eq_false h2
     obtain ⟨m1, m2⟩ := mulS_bd (M := 1600000) (p := u - bx) (q := ay - bv) (by omega) (by omega)
     obtain ⟨m3, m4⟩ := mulS_bd (M := 1600000) (p := ax - bx) (q := v - bv) (by omega) (by omega)
     go_enter Try.func113, Try.ntmps113
     go_wp2
     go_ret
     exact ⟨rfl, by go_grown⟩
   ·rw [show crs0 (bx, bv) (ax, ay) u v = false from by unfold crs0; exact decide_eq_false (by simp only; omega)]
    have d0 : decide (bv ≤ v) = true := decide_eq_true h0
    have d1 : decide (v < ay) = false := decide_eq_false h1
    obtain ⟨m1, m2⟩ := mulS_bd (M := 1600000) (p := u - bx) (q := ay - bv) (by omega) (by omega)
    obtain ⟨m3, m4⟩ := mulS_bd (M := 1600000) (p := ax - bx) (q := v - bv) (by omega) (by omega)
    go_enter Try.func113, Try.ntmps113
    go_wp2
    go_ret
    exact ⟨rfl, by go_grown⟩
  ·rw [show crs0 (bx, bv) (ax, ay) u v = false from by unfold crs0; exact decide_eq_false (by simp only; omega)]
   have d0 : decide (bv ≤ v) = false := decide_eq_false h0
   obtain ⟨m1, m2⟩ := mulS_bd (M := 1600000) (p := u - bx) (q := ay - bv) (by omega) (by omega)
   obtain ⟨m3, m4⟩ := mulS_bd (M := 1600000) (p := ax - bx) (q := v - bv) (by omega) (by omega)
   go_enter Try.func113, Try.ntmps113
   go_wp2
   go_ret
   exact ⟨rfl, by go_grown⟩
 ·rw [show crs (ax, ay) (bx, bv) u v = crs0 (ax, ay) (bx, bv) u v from if_neg hs]
  have ds : decide (bv < ay) = false := decide_eq_false hs
  by_cases h0 : ay ≤ v
  ·by_cases h1 : v < bv
   ·by_cases h2 : (u - ax) * (bv - ay) < (bx - ax) * (v - ay)
    ·rw [show crs0 (ax, ay) (bx, bv) u v = true from by unfold crs0; exact decide_eq_true (by simp only; omega)]
     have d0 : decide (ay ≤ v) = true := decide_eq_true h0
     have d1 : decide (v < bv) = true := decide_eq_true h1
     have d2 : decide ((u - ax) * (bv - ay) < (bx - ax) * (v - ay)) = true := decide_eq_true h2
     obtain ⟨m1, m2⟩ := mulS_bd (M := 1600000) (p := u - ax) (q := bv - ay) (by omega) (by omega)
     obtain ⟨m3, m4⟩ := mulS_bd (M := 1600000) (p := bx - ax) (q := v - ay) (by omega) (by omega)
     go_enter Try.func113, Try.ntmps113
     go_wp2
     go_ret
     exact ⟨rfl, by go_grown⟩
    ·rw [show crs0 (ax, ay) (bx, bv) u v = false from by unfold crs0; exact decide_eq_false (by simp only; omega)]
     have d0 : decide (ay ≤ v) = true := decide_eq_true h0
     have d1 : decide (v < bv) = true := decide_eq_true h1
     have d2 : decide ((u - ax) * (bv - ay) < (bx - ax) * (v - ay)) = false := decide_eq_false h2
     obtain ⟨m1, m2⟩ := mulS_bd (M := 1600000) (p := u - ax) (q := bv - ay) (by omega) (by omega)
     obtain ⟨m3, m4⟩ := mulS_bd (M := 1600000) (p := bx - ax) (q := v - ay) (by omega) (by omega)
     go_enter Try.func113, Try.ntmps113
     go_wp2
     go_ret
     exact ⟨rfl, by go_grown⟩
   ·rw [show crs0 (ax, ay) (bx, bv) u v = false from by unfold crs0; exact decide_eq_false (by simp only; omega)]
    have d0 : decide (ay ≤ v) = true := decide_eq_true h0
    have d1 : decide (v < bv) = false := decide_eq_false h1
    obtain ⟨m1, m2⟩ := mulS_bd (M := 1600000) (p := u - ax) (q := bv - ay) (by omega) (by omega)
    obtain ⟨m3, m4⟩ := mulS_bd (M := 1600000) (p := bx - ax) (q := v - ay) (by omega) (by omega)
    go_enter Try.func113, Try.ntmps113
    go_wp2
    go_ret
    exact ⟨rfl, by go_grown⟩
  ·rw [show crs0 (ax, ay) (bx, bv) u v = false from by unfold crs0; exact decide_eq_false (by simp only; omega)]
   have d0 : decide (ay ≤ v) = false := decide_eq_false h0
   obtain ⟨m1, m2⟩ := mulS_bd (M := 1600000) (p := u - ax) (q := bv - ay) (by omega) (by omega)
   obtain ⟨m3, m4⟩ := mulS_bd (M := 1600000) (p := bx - ax) (q := v - ay) (by omega) (by omega)
   go_enter Try.func113, Try.ntmps113
   go_wp2
   go_ret
   exact ⟨rfl, by go_grown⟩
theorem R15_rest (x n : Int) (hn : 0 < n ∧ n ≤ 1000000) (w : World) : Calls Try.prog 38 #[.int .i64 x, .int .i64 n] w fun e w' => e = .returned (.int .i64 (x % n)) ∧ Below w.heap.size w w' := by
 have e1 : Int.tmod (Int.tmod x n + n) n = x % n := by
  rw [Int.tmod_eq_emod_of_nonneg (a := Int.tmod x n + n) (by have := Int.lt_tmod_of_pos x (show 0 < n by omega); omega), Int.add_emod_right]
  have := Int.tmod_def x n
  rw [this, Int.sub_eq_add_neg, ← Int.mul_neg, Int.add_mul_emod_self_left]
 have b1 := Int.lt_tmod_of_pos x (show 0 < n by omega)
 have b2 := Int.tmod_lt_of_pos x (show 0 < n by omega)
 have e0 : n ≠ 0 := by omega
 go_enter Try.func38, Try.ntmps38
 go_wp2
 go_ret
 exact ⟨by first | rfl | (rw [e1]) | skip, by go_grown⟩
theorem R3_rest (x n : Int) (hn : 0 < n ∧ n ≤ 1000000) (w : World) : Calls Try.prog 59 #[.int .i64 x, .int .i64 n] w fun e w' => e = .returned (.int .i64 (x % n)) ∧ Below w.heap.size w w' := by
 have e1 : Int.tmod (Int.tmod x n + n) n = x % n := by
  rw [Int.tmod_eq_emod_of_nonneg (a := Int.tmod x n + n) (by have := Int.lt_tmod_of_pos x (show 0 < n by omega); omega), Int.add_emod_right]
  have := Int.tmod_def x n
  rw [this, Int.sub_eq_add_neg, ← Int.mul_neg, Int.add_mul_emod_self_left]
 have b1 := Int.lt_tmod_of_pos x (show 0 < n by omega)
 have b2 := Int.tmod_lt_of_pos x (show 0 < n by omega)
 have e0 : n ≠ 0 := by omega
 go_enter Try.func59, Try.ntmps59
 go_wp2
 go_ret
 exact ⟨by first | rfl | (rw [e1]) | skip, by go_grown⟩
end Go.Proofs.Ytamgpfblhlfhaaa
/- Contract of gouacheref08.Made. -/
namespace Go.Proofs.Ytamgpfblhlfhaaa
open Go.RowKit Go.Shelf Pl
set_option linter.unusedVariables false
set_option linter.unusedSimpArgs false
set_option maxRecDepth 20000
/-- The raster that Made of gouacheref08 builds, after k rounds. -/
def madeK (L : List Int) : Nat → List TA
 | 0 => []
 | k + 1 => if 3 * k + 2 < L.length then setR (madeK L k) (pickI L (3 * k) 48 - 20) (pickI L (3 * k + 1) 48 - 20) (madeP (getI L (3 * k + 2))) else madeK L k
def madeL (L : List Int) : List TA := madeK L 40
theorem run_load_ras {w : World} {b j : Nat} {v : Value} (h : w.cell? ⟨b, j, none⟩ = some v) : (Instr.loadAt 36 (.pointer (some ⟨b, j, none⟩))).run Try.prog w = .ok (.agg #[v]) w := by
 simp [go_sem, h]
/- Stores into a row of tiles at positions. -/
theorem aT_set (ls : List TA) (i k : Nat) (e : TA) (hi : i < ls.length) : aT (ls.set i e) k = if k = i then e else aT ls k := by
 unfold aT
 rw [List.getD_eq_getElem?_getD, List.getD_eq_getElem?_getD, List.getElem?_set]
 by_cases h : i = k
 ·subst h; simp [hi]
 ·rw [if_neg h, if_neg (Ne.symm h)]
theorem sz_setCells (b : Nat) : ∀ (vs : List Value) (o : Nat) (w : World), (w.setCells b o vs).heap.size = w.heap.size
 | [], _, _ => rfl
 | v :: r, o, w => by
  show ((w.setCell ⟨b, o, none⟩ v).setCells b (o + 1) r).heap.size = _
  rw [sz_setCells b r, World.size_setCell]
theorem RCells.put {g o i s : Nat} {ls : List TA} {w : World} {vs : List Value} (h : RCells g o ls w) (e' : TA) (hi : i < ls.length) (hs : s + vs.length ≤ 258)
  (he : ∀ j, j < 258 → (taC e')[j]? = if s ≤ j ∧ j < s + vs.length then vs[j - s]? else (taC (aT ls i))[j]?) : RCells g o (ls.set i e') (w.setCells g (o + i * 258 + s) vs) := by
 refine ⟨by rw [sz_setCells]; exact h.1, fun k hk j hj => ?_⟩
 rw [List.length_set] at hk
 rw [aT_set ls i k e' hi]
 have hsome : ∀ j, j < vs.length → (w.cell? ⟨g, o + i * 258 + s + j, none⟩).isSome = true := fun j hj => by
  have := h.2 i hi (s + j) (by omega)
  rw [show o + i * 258 + s + j = o + (i * 258 + (s + j)) by omega, this, Array.getElem?_eq_getElem (by rw [size_taC]; omega)]
  rfl
 by_cases hki : k = i
 ·subst hki
  rw [if_pos rfl, he j hj]
  by_cases hj2 : s ≤ j ∧ j < s + vs.length
  ·rw [if_pos hj2, show o + (k * 258 + j) = o + k * 258 + s + (j - s) by omega, World.cell?_setCells_in g vs _ w hsome (j - s) (by omega), List.getElem?_eq_getElem]
  ·rw [if_neg hj2, World.cell?_setCells_out g vs _ w _ (fun _ _ => by show o + (k * 258 + j) < o + k * 258 + s ∨ o + k * 258 + s + vs.length ≤ o + (k * 258 + j); omega)]
   exact h.2 k hk j hj
 ·rw [if_neg hki, World.cell?_setCells_out g vs _ w _ (fun _ _ => by
   show o + (k * 258 + j) < o + i * 258 + s ∨ o + i * 258 + s + vs.length ≤ o + (k * 258 + j)
   rcases Nat.lt_or_gt_of_ne hki with hh | hh
   ·left; have : (k + 1) * 258 ≤ i * 258 := Nat.mul_le_mul_right _ hh; omega
   ·right; have : (i + 1) * 258 ≤ k * 258 := Nat.mul_le_mul_right _ hh; omega)]
  exact h.2 k hk j hj
/-- An owned row of tiles: its cells may be written. -/
theorem OwnT.row {B : Nat} {v : Value} {ls : List TA} {w : World} (h : OwnT B v ls w) (hl : 0 < ls.length) : ∃ g c, v = .slice (some ⟨g, 0, none⟩) ls.length c ∧ B ≤ g ∧ RCells g 0 ls w ∧ ∀ j, w.frozen? ⟨g, j, none⟩ = false := by
 have hr := h.rs
 obtain ⟨h1, h2⟩ := h
 rcases h2 with ⟨rfl, h0⟩ | ⟨g, cap, cur, rfl, hb, hg, hn, hm, hs, ht⟩
 ·exact absurd hl (by omega)
 ·obtain ⟨g', o', e, rc⟩ := hr.at hl
  injection e with e
  injection e with e1 e2
  subst e1; subst e2
  exact ⟨g, cap, rfl, hb, rc, fun j => AtB.frozen (t := 112) hg j⟩
section
variable {ops : Array Oper} {rest : List Oper} {o : Oper} {a : Act} {w : World} {Q : Exit → Act → World → Prop} {ls : List TA} {g : Nat}
end
/- Contract of `of` of the law package of rasters. -/
/-- What Raw describes (its two slices aside). -/
structure RawQ where
 at_ : Int
 px : Int
 py : Int
 how : Int
def ninT (t : Nat → Px) : Nat → Px := upd t 5 ⟨9, (t 5).g, (t 5).b, (t 5).a⟩
def turnA (q : RawQ) (T : List Int) (e : TA) : TA :=
 if q.how % 8 = 1 then ⟨q.px, q.py, e.t⟩ else if q.how % 8 = 2 then ⟨e.x, e.y, madeT T⟩ else if q.how % 8 = 3 then ⟨e.x, e.y, ninT e.t⟩ else e
def ofI (q : RawQ) (n : Nat) : Nat := (q.at_ % 65536).toNat % n
def ofR (q : RawQ) (T : List Int) (r : List TA) : List TA :=
 if r.length = 0 then r else if q.how % 8 = 4 then r ++ [aT r (ofI q r.length)] else r.set (ofI q r.length) (turnA q T (aT r (ofI q r.length)))
def ofRL (q : RawQ) (L T : List Int) : List TA := ofR q T (madeL L)
/- Contract of `of` of the law package of rasters: the walk. -/
/- Contracts of `of` of the law package whole. -/
/- Contract of gouacheref08.Full. -/
def fullA (i : Nat) : TA := ⟨(i : Int) % 40, (i : Int) / 40, fillT ⟨(i : Int) % 256, 0, 0, 255⟩⟩
def fullL (n : Nat) : List TA := (List.range n).map fullA
end Go.Proofs.Ytamgpfblhlfhaaa
/- Plain laws of rasters: cropping, bounds. -/
namespace Go.Proofs.Ytamgpfblhlfhaaa
open Go.RowKit Pl
set_option linter.unusedVariables false
set_option linter.unusedSimpArgs false
/-- A tile cropped. -/
def cropT (c : Rc) (x y : Int) (t : Nat → Px) : Nat → Px := fun i => if i < 64 then (if hasR c (x * 8 + (i : Int) % 8) (y * 8 + (i : Int) / 8) = true then t i else Px.zero) else t i
def cropE (c : Rc) (e : TA) : List TA := newA e.x e.y (cropT c e.x e.y e.t)
theorem hasR_iff (r : Rc) (x y : Int) : hasR r x y = true ↔ (r.x0 ≤ x ∧ x < r.x1 ∧ r.y0 ≤ y ∧ y < r.y1) := by unfold hasR; exact decide_eq_true_iff
theorem emptyR_iff (r : Rc) : emptyR r = true ↔ (r.x1 ≤ r.x0 ∨ r.y1 ≤ r.y0) := by unfold emptyR; exact decide_eq_true_iff
theorem emptyR_not (r : Rc) : emptyR r = false ↔ (r.x0 < r.x1 ∧ r.y0 < r.y1) := by
 rw [← Bool.not_eq_true, emptyR_iff]; omega
theorem zeroB_iff (t : Nat → Px) : zeroB t = true ↔ ∀ i, i < 64 → (t i).a = 0 := by
 unfold zeroB
 rw [decide_eq_true_iff]
 exact ⟨fun h i hi => h i (List.mem_range.2 hi), fun h i hi => h i (List.mem_range.1 hi)⟩
theorem goodA_iff (e : TA) : goodA e = true ↔ withinB e.x e.y = true ∧ zeroB e.t = false ∧ eqT (cleanT e.t) e.t = true := by
 unfold goodA
 rw [Bool.and_eq_true, Bool.and_eq_true, Bool.not_eq_true']
theorem eqT_at {t u : Nat → Px} (h : eqT t u = true) {i : Nat} (hi : i < 64) : t i = u i := by
 unfold eqT at h
 exact of_decide_eq_true h i (List.mem_range.2 hi)
theorem eqA_refl (e : TA) : eqA e e = true := by
 unfold eqA eqB
 rw [eqT_refl, decide_eq_true ⟨rfl, rfl⟩]
 rfl
theorem eqL_refl (ls : List TA) : eqL ls ls = true := eqL_yes rfl fun j _ => eqA_refl _
/-! ### Bounds -/
/-- A pixel that is not transparent. -/
def Vis (ls : List TA) (x y : Int) : Prop := ∃ e, e ∈ ls ∧ ∃ i : Nat, i < 64 ∧ 0 < (e.t i).a ∧ x = e.x * 8 + (i : Int) % 8 ∧ y = e.y * 8 + (i : Int) / 8
/-- The least rectangle around V. -/
def Tight (V : Int → Int → Prop) (r : Rc) : Prop := (r = Rc.zero ∧ ∀ x y, ¬ V x y) ∨ (emptyR r = false ∧ (∀ x y, V x y → hasR r x y = true) ∧ (∃ y, V r.x0 y) ∧ (∃ x, V x r.y0) ∧ (∃ y, V (r.x1 - 1) y) ∧ ∃ x, V x (r.y1 - 1))
theorem Tight.iff {V V' : Int → Int → Prop} {r : Rc} (h : Tight V r) (k : ∀ x y, V x y ↔ V' x y) : Tight V' r := by
 have e : V = V' := funext fun x => funext fun y => propext (k x y)
 rw [← e]; exact h
theorem Tight.add {V : Int → Int → Prop} {r : Rc} (h : Tight V r) (x y : Int) : Tight (fun a b => V a b ∨ (a = x ∧ b = y)) (unionR r ⟨x, y, x + 1, y + 1⟩) := by
 have h1 : emptyR ⟨x, y, x + 1, y + 1⟩ = false := (emptyR_not _).2 ⟨by show x < x + 1; omega, by show y < y + 1; omega⟩
 rcases h with ⟨rfl, hn⟩ | ⟨he, hin, ⟨ya, ha⟩, ⟨xb, hb⟩, ⟨yc, hc⟩, ⟨xd, hd⟩⟩
 ·have e : unionR Rc.zero ⟨x, y, x + 1, y + 1⟩ = ⟨x, y, x + 1, y + 1⟩ := by
   unfold unionR normR
   rw [if_pos (by decide), h1]
   rfl
  rw [e]
  refine .inr ⟨h1, fun a b hv => ?_, ⟨y, .inr ⟨rfl, rfl⟩⟩, ⟨x, .inr ⟨rfl, rfl⟩⟩, ⟨y, .inr ⟨by show x + 1 - 1 = x; omega, rfl⟩⟩, ⟨x, .inr ⟨rfl, by show y + 1 - 1 = y; omega⟩⟩⟩
  rcases hv with hv | ⟨rfl, rfl⟩
  ·exact absurd hv (hn a b)
  ·rw [hasR_iff]; simp only; omega
 ·have e : unionR r ⟨x, y, x + 1, y + 1⟩ = ⟨min r.x0 x, min r.y0 y, max r.x1 (x + 1), max r.y1 (y + 1)⟩ := by
   unfold unionR
   rw [he, h1, if_neg (by decide), if_neg (by decide)]
  rw [e]
  have hen := (emptyR_not r).1 he
  refine .inr ⟨(emptyR_not _).2 ⟨by show min r.x0 x < max r.x1 (x + 1); omega, by show min r.y0 y < max r.y1 (y + 1); omega⟩, fun a b hv => ?_, ?_, ?_, ?_, ?_⟩
  ·rw [hasR_iff]
   simp only
   rcases hv with hv | ⟨rfl, rfl⟩
   ·have := (hasR_iff r a b).1 (hin a b hv)
    omega
   ·omega
  ·show ∃ b, V (min r.x0 x) b ∨ (min r.x0 x = x ∧ b = y)
   by_cases hh : r.x0 ≤ x
   ·exact ⟨ya, .inl (by rw [Int.min_eq_left hh]; exact ha)⟩
   ·exact ⟨y, .inr ⟨by omega, rfl⟩⟩
  ·show ∃ a, V a (min r.y0 y) ∨ (a = x ∧ min r.y0 y = y)
   by_cases hh : r.y0 ≤ y
   ·exact ⟨xb, .inl (by rw [Int.min_eq_left hh]; exact hb)⟩
   ·exact ⟨x, .inr ⟨rfl, by omega⟩⟩
  ·show ∃ b, V (max r.x1 (x + 1) - 1) b ∨ (max r.x1 (x + 1) - 1 = x ∧ b = y)
   by_cases hh : x + 1 ≤ r.x1
   ·exact ⟨yc, .inl (by rw [Int.max_eq_left hh]; exact hc)⟩
   ·exact ⟨y, .inr ⟨by omega, rfl⟩⟩
  ·show ∃ a, V a (max r.y1 (y + 1) - 1) ∨ (a = x ∧ max r.y1 (y + 1) - 1 = y)
   by_cases hh : y + 1 ≤ r.y1
   ·exact ⟨xd, .inl (by rw [Int.max_eq_left hh]; exact hd)⟩
   ·exact ⟨x, .inr ⟨rfl, by omega⟩⟩
theorem runT_bound (e : TA) {V : Int → Int → Prop} {s : Rc} (h : Tight V s) : ∀ k, Tight (fun a b => V a b ∨ ∃ i : Nat, i < k ∧ 0 < (e.t i).a ∧ a = e.x * 8 + (i : Int) % 8 ∧ b = e.y * 8 + (i : Int) / 8) (runT boundF e k s).1
 | 0 => h.iff fun a b => ⟨.inl, fun hv => by
   rcases hv with hv | ⟨i, hi, _⟩
   ·exact hv
   ·omega⟩
 | k + 1 => by
  have ih := runT_bound e h k
  show Tight _ (if 0 < (e.t k).a then unionR (runT boundF e k s).1 ⟨e.x * 8 + (k : Int) % 8, e.y * 8 + (k : Int) / 8, e.x * 8 + (k : Int) % 8 + 1, e.y * 8 + (k : Int) / 8 + 1⟩ else (runT boundF e k s).1)
  by_cases ha : 0 < (e.t k).a
  ·rw [if_pos ha]
   refine (ih.add _ _).iff fun a b => ⟨fun hv => ?_, fun hv => ?_⟩
   ·rcases hv with (hv | ⟨i, hi, hr⟩) | ⟨rfl, rfl⟩
    ·exact .inl hv
    ·exact .inr ⟨i, by omega, hr⟩
    ·exact .inr ⟨k, by omega, ha, rfl, rfl⟩
   ·rcases hv with hv | ⟨i, hi, hr⟩
    ·exact .inl (.inl hv)
    ·by_cases hik : i = k
     ·subst hik; exact .inr hr.2
     ·exact .inl (.inr ⟨i, by omega, hr⟩)
  ·rw [if_neg ha]
   refine ih.iff fun a b => ⟨fun hv => ?_, fun hv => ?_⟩
   ·rcases hv with hv | ⟨i, hi, hr⟩
    ·exact .inl hv
    ·exact .inr ⟨i, by omega, hr⟩
   ·rcases hv with hv | ⟨i, hi, hr⟩
    ·exact .inl hv
    ·by_cases hik : i = k
     ·subst hik; exact absurd hr.1 ha
     ·exact .inr ⟨i, by omega, hr⟩
theorem mapK_bound (ls : List TA) : ∀ k, k ≤ ls.length → Tight (Vis (ls.take k)) (mapK boundF ls Rc.zero k).1
 | 0, _ => .inl ⟨rfl, fun x y ⟨e, he, _⟩ => by simp at he⟩
 | k + 1, hk => by
  refine (runT_bound (aT ls k) (mapK_bound ls k (by omega)) 64).iff fun a b => ?_
  rw [List.take_add_one, aT_at (show k < ls.length from hk)]
  unfold Vis
  constructor
  ·rintro (⟨e, he, hr⟩ | ⟨i, hi, hr⟩)
   ·exact ⟨e, List.mem_append_left _ he, hr⟩
   ·exact ⟨aT ls k, List.mem_append_right _ (by simp), i, hi, hr⟩
  ·rintro ⟨e, he, i, hi, hr⟩
   rcases List.mem_append.1 he with he | he
   ·exact .inl ⟨e, he, i, hi, hr⟩
   ·obtain rfl : e = aT ls k := by simpa using he
    exact .inr ⟨i, hi, hr⟩
theorem boundL_tight (ls : List TA) : Tight (Vis ls) (boundL ls) := by
 have := mapK_bound ls ls.length (Nat.le_refl _)
 rw [List.take_length] at this
 exact this
theorem tileL_some (ls : List TA) (x y : Int) : tileL ls x y = zT ∨ ∃ e, e ∈ ls ∧ e.x = x ∧ e.y = y ∧ tileL ls x y = e.t := by
 induction ls with
 | nil => exact .inl rfl
 | cons e r ih =>
  unfold tileL
  by_cases h : eqB e.x e.y x y = true
  ·rw [if_pos h]
   have := of_decide_eq_true h
   exact .inr ⟨e, List.mem_cons_self .., this.1, this.2, rfl⟩
  ·rw [if_neg h]
   rcases ih with ih | ⟨k, hk, hr⟩
   ·exact .inl ih
   ·exact .inr ⟨k, List.mem_cons_of_mem _ hk, hr⟩
theorem getL_vis {ls : List TA} {x y : Int} (h : 0 < (getL ls x y).a) : Vis ls x y := by
 unfold getL at h
 rcases tileL_some ls (x / 8) (y / 8) with e | ⟨e, he, e1, e2, e3⟩
 ·rw [e] at h
  have h : (0 : Int) < 0 := h
  omega
 ·rw [e3] at h
  exact ⟨e, he, (8 * (y % 8) + x % 8).toNat, by omega, h, by omega, by omega⟩
theorem boundL_has {ls : List TA} {x y : Int} (h : Vis ls x y) : hasR (boundL ls) x y = true := by
 rcases boundL_tight ls with ⟨_, hn⟩ | ⟨_, hin, _⟩
 ·exact absurd h (hn x y)
 ·exact hin x y h
end Go.Proofs.Ytamgpfblhlfhaaa
/- Specifications of values that are rasters, for regions that draw their order; the full raster's validity. -/
namespace Go.Proofs.Ytamgpfblhlfhaaa
open Go.RowKit Go.Shelf Pl
set_option linter.unusedVariables false
set_option linter.unusedSimpArgs false
set_option maxRecDepth 20000
def rasS (L : List TA) : NSpec := ⟨Option Addr × Nat, ⟨(none, 0)⟩, fun x => .agg #[.slice x.1 L.length x.2], fun x w => RS (.slice x.1 L.length x.2) L w, fun _ _ _ hb h => h.below hb⟩
def tupS (L : List TA) (n : Int) : NSpec := ⟨Option Addr × Nat, ⟨(none, 0)⟩, fun x => .tuple #[.agg #[.slice x.1 L.length x.2], .int .i64 n], fun x w => RS (.slice x.1 L.length x.2) L w, fun _ _ _ hb h => h.below hb⟩
def gotS (L : List TA) (n : Int) : NSpec := ⟨Option Addr × Nat, ⟨(none, 0)⟩, fun x => .agg #[.slice x.1 L.length x.2, .int .i64 n], fun x w => RS (.slice x.1 L.length x.2) L w, fun _ _ _ hb h => h.below hb⟩
def ptrS (n : Nat) (t : TypeId) (cs : Array Value) : NSpec := ⟨Nat, ⟨0⟩, fun b => .pointer (some ⟨b, 0, none⟩), fun b w => n ≤ b ∧ AtB t w b cs, fun _ _ _ hb h => ⟨h.1, h.2.of_eq (hb.block _ h.2.lt)⟩⟩
theorem len_maxLen {n : Nat} (h : n ≤ 2000) : n ≤ maxLen := by unfold maxLen; omega
/-! ### The contracts at lists that are known to be valid; results told by another word -/
theorem P_ValidB (v : Value) (ls : List TA) (r : Bool) (w : World) (h : RS v ls w) (tk : TokL ls) (hn : ls.length ≤ maxLen) (e : validL ls = r) : Calls Try.prog 36 #[.agg #[v]] w fun e w' => e = .returned (.bool r) ∧ Below w.heap.size w w' := e ▸ P_Valid v ls w h tk hn
theorem P_BoundsV (v : Value) (ls : List TA) (w : World) (h : RS v ls w) (tk : TokL ls) (hn : ls.length ≤ maxLen) (hv : validL ls = true) : Calls Try.prog 31 #[.agg #[v]] w fun e w' => e = .returned (Rc.v (boundL ls)) ∧ Below w.heap.size w w' := by
 have := P_BoundsR v ls w h tk hn
 rw [fineL_of hv] at this
 exact this
/- Contract of gouacheref08.Near. -/
def nearR (c : Rc) : Rc := ⟨c.x0 % 64 - 30, c.y0 % 64 - 30, c.x0 % 64 - 30 + 1 + c.x1 % 32, c.y0 % 64 - 30 + 1 + c.y1 % 32⟩
@[go_sem] theorem run_field_a (p0 p1 p2 pa : Int) (w : World) : (Instr.field 59 (.agg #[.int .u8 p0, .int .u8 p1, .int .u8 p2, .int .u8 pa]) 3).run Try.prog w = .ok (.int .u8 pa) w := by kernel_rfl
/- Pairs of integers as blocks; one byte of a tile stored; contracts of Set and Put with a result told. -/
def i2 (a b : Int) (k : Nat) : Int := if k = 0 then a else b
theorem AtB.cellL {t : TypeId} {w : World} {b : Nat} {l : List Value} (h : AtB t w b l.toArray) (i : Nat) {v : Value} (hv : l[i]? = some v) : w.cell? ⟨b, i, none⟩ = some v := h.cell i (by simpa using hv)
theorem setR_valid (ls : List TA) (x y : Int) (p : Px) : validL (setR ls x y p) = true := putR_valid _ _ _ _
theorem run_load_err {w : World} {b j : Nat} {n : Int} (h : w.cell? ⟨b, j, none⟩ = some (.int .i64 n)) : (Instr.loadAt 48 (.pointer (some ⟨b, j, none⟩))).run Try.prog w = .ok (.int .i64 n) w := by simp [go_sem, h]
theorem RS.chgT {v : Value} {ls : List TA} {b : Nat} {f : Nat → Px} {w w' : World} (h : RS v ls w) (hb : TileAt w b f) (hc : Chg b w w') : RS v ls w' :=
 RS.chg (t := 103) (cs := tileC f) h hb (by rw [size_tileC]; omega) hc
end Go.Proofs.Ytamgpfblhlfhaaa
/- Plain laws: how many tiles there are behind put; the full raster. -/
namespace Go.Proofs.Ytamgpfblhlfhaaa
open Go.RowKit Pl
set_option linter.unusedVariables false
set_option linter.unusedSimpArgs false
theorem srt_at {ls : List TA} (h : Srt ls) {i j : Nat} (hij : i < j) (hj : j < ls.length) : beforeA (aT ls i) (aT ls j) = true := by
 have hi : i < ls.length := Nat.lt_trans hij hj
 have e : ∀ k (hk : k < ls.length), aT ls k = ls[k] := fun k hk => by
  have := aT_at hk
  rw [List.getElem?_eq_getElem hk] at this
  exact (Option.some.inj this).symm
 rw [e i hi, e j hj]
 exact List.pairwise_iff_getElem.1 h i j hi hj hij
/-- The tile of the law: its first pixel full. -/
def limT (Ls : List Int) : Nat → Px := upd (madeT Ls) 0 ⟨0, 0, 3, 255⟩
def F24 : List TA := fullL 1024
/- Plain: the pixels that Image makes are the raster's pixels, row by row. -/
/-- The pixel number j of a rectangle. -/
def widN (c : Rc) : Nat := (c.x1 - c.x0).toNat
def pxX (c : Rc) (j : Nat) : Int := c.x0 + ((j % widN c : Nat) : Int)
def pxY (c : Rc) (j : Nat) : Int := c.y0 + ((j / widN c : Nat) : Int)
def imgL (c : Rc) (ks : List TA) : List Px := (List.range (areaN c)).map fun j => getL ks (pxX c j) (pxY c j)
theorem area_wid {c : Rc} (hf : Fits c) : areaN c = widN c * (c.y1 - c.y0).toNat ∧ 0 < widN c := by
 have h1 := hf.h1
 have h2 := hf.h2
 obtain ⟨W, hW⟩ : ∃ W : Nat, c.x1 - c.x0 = (W : Int) := ⟨(c.x1 - c.x0).toNat, by omega⟩
 obtain ⟨H, hH⟩ : ∃ H : Nat, c.y1 - c.y0 = (H : Int) := ⟨(c.y1 - c.y0).toNat, by omega⟩
 unfold areaN widN
 rw [hW, hH, ← Int.natCast_mul, Int.toNat_natCast, Int.toNat_natCast, Int.toNat_natCast]
 exact ⟨rfl, by omega⟩
theorem px_in {c : Rc} (hf : Fits c) {j : Nat} (hj : j < areaN c) : hasR c (pxX c j) (pxY c j) = true := by
 obtain ⟨ea, hw⟩ := area_wid hf
 have hm := Nat.mod_lt j hw
 have hd : j / widN c < (c.y1 - c.y0).toNat := Nat.div_lt_of_lt_mul (by rw [← ea]; exact hj)
 rw [hasR_iff]
 unfold pxX pxY
 have hw' : widN c = (c.x1 - c.x0).toNat := rfl
 generalize j % widN c = u at hm ⊢
 generalize j / widN c = v at hd ⊢
 have := hf.h1
 have := hf.h2
 omega
/-- The place of a pixel in its tile. -/
def inT (x y : Int) : Nat := (8 * (y % 8) + x % 8).toNat
/- Plain: a raster after pixel updates, by its pixels; grids of 32 times 32 pixels. -/
/-- A pixel update, as the law sends it. -/
structure Dt where
 x : Int
 y : Int
 p : Px
/-- All positions lie near the origin. -/
def Small (r : List TA) : Prop := ∀ e ∈ r, -2 ≤ e.x ∧ e.x ≤ 1 ∧ -2 ≤ e.y ∧ e.y ≤ 1
theorem inc_len : ∀ (l : List Nat) (m n : Nat), l.Pairwise (· < ·) → (∀ x ∈ l, m ≤ x ∧ x < n) → l.length ≤ n - m
 | [], _, _, _, _ => Nat.zero_le _
 | a :: t, m, n, hp, hb => by
  have ha := hb a (List.mem_cons_self ..)
  have h1 := List.pairwise_cons.1 hp
  have := inc_len t (a + 1) n h1.2 fun x hx => ⟨h1.1 x hx, (hb x (List.mem_cons_of_mem _ hx)).2⟩
  rw [List.length_cons]
  omega
theorem small_len {r : List TA} (hs : Srt r) (h : Small r) : r.length ≤ 16 := by
 have hp : (r.map fun e => ((e.y + 2) * 4 + (e.x + 2)).toNat).Pairwise (· < ·) := by
  rw [List.pairwise_map]
  refine hs.imp_of_mem fun {a b} ha hb hab => ?_
  have := h a ha
  have := h b hb
  have hh := of_decide_eq_true hab
  omega
 have := inc_len _ 0 16 hp fun x hx => by
  obtain ⟨e, he, rfl⟩ := List.mem_map.1 hx
  have := h e he
  omega
 simpa using this
theorem putL_small {r : List TA} (h : Small r) {x y : Int} {t : Nat → Px} (hx : -2 ≤ x ∧ x ≤ 1 ∧ -2 ≤ y ∧ y ≤ 1) : Small (putL r x y t) := fun e he => by
 rcases putL_mem he with he | ⟨rfl, _⟩
 ·exact h e he
 ·exact hx
theorem cleanP_idem (p : Px) : cleanP (cleanP p) = cleanP p := by
 unfold cleanP
 split
 ·split <;> rfl
 ·rfl
/-- What stands in a valid raster is clean. -/
theorem tileL_clean {r : List TA} (h : validL r = true) (x y : Int) {i : Nat} (hi : i < 64) : cleanP (tileL r x y i) = tileL r x y i := by
 rcases tileL_some r x y with e | ⟨e, he, _, _, ht⟩
 ·rw [e]; rfl
 ·rw [ht]
  exact eqT_at ((goodA_iff e).1 (validL_good h e he)).2.2 hi
section
variable {r : List TA} {X Y : Int} {p : Px} (hv : validL r = true) (hs : Small r) (hX : -16 ≤ X ∧ X ≤ 15) (hY : -16 ≤ Y ∧ Y ≤ 15)
theorem near_within {X Y : Int} (hX : -16 ≤ X ∧ X ≤ 15) (hY : -16 ≤ Y ∧ Y ≤ 15) : withinB (X / 8) (Y / 8) = true := decide_eq_true (by omega)
theorem dot_len {r : List TA} {X Y : Int} (hv : validL r = true) (hs : Small r) (hX : -16 ≤ X ∧ X ≤ 15) (hY : -16 ≤ Y ∧ Y ≤ 15) (t : Nat → Px) : (putL r (X / 8) (Y / 8) t).length ≤ 1024 := by
 have := small_len (putL_srt (validL_srt hv) (x := X / 8) (y := Y / 8) (t := t)) (putL_small hs (by omega))
 omega
theorem dot_set {r : List TA} {X Y : Int} (hv : validL r = true) (hs : Small r) (hX : -16 ≤ X ∧ X ≤ 15) (hY : -16 ≤ Y ∧ Y ≤ 15) (p : Px) : setR r X Y p = putL r (X / 8) (Y / 8) (cleanT (setT (tileL r (X / 8) (Y / 8)) (X % 8) (Y % 8) p)) := by
 unfold setR putR manyL setS
 rw [near_within hX hY, if_pos rfl, fineL_of hv, if_pos (dot_len hv hs hX hY _)]
theorem dot_small {r : List TA} {X Y : Int} (hv : validL r = true) (hs : Small r) (hX : -16 ≤ X ∧ X ≤ 15) (hY : -16 ≤ Y ∧ Y ≤ 15) (p : Px) : Small (setR r X Y p) := by
 rw [dot_set hv hs hX hY]
 exact putL_small hs (by omega)
theorem dot_get {r : List TA} {X Y : Int} (hv : validL r = true) (hs : Small r) (hX : -16 ≤ X ∧ X ≤ 15) (hY : -16 ≤ Y ∧ Y ≤ 15) (p : Px) (x y : Int) : getL (setR r X Y p) x y = if x = X ∧ y = Y then cleanP p else getL r x y := by
 rw [dot_set hv hs hX hY]
 unfold getL
 have hi : (8 * (y % 8) + x % 8).toNat < 64 := by omega
 by_cases h : eqB (X / 8) (Y / 8) (x / 8) (y / 8) = true
 ·have h' := of_decide_eq_true h
  rw [← h'.1, ← h'.2, tileL_put_same (validL_srt hv)]
  have hz : ∀ t : Nat → Px, (if zeroB (cleanT t) = true then zT else cleanT t) (8 * (y % 8) + x % 8).toNat = cleanP (t (8 * (y % 8) + x % 8).toNat) := fun t => by
   split
   ·rename_i hz
    have ha := (zeroB_iff _).1 hz _ hi
    show Px.zero = cleanP (t _)
    unfold cleanT at ha
    unfold cleanP at ha ⊢
    split
    ·rfl
    ·rename_i hne
     rw [if_neg hne] at ha
     exact absurd ha hne
   ·rfl
  rw [hz]
  have hin : insB (X % 8) (Y % 8) = true := decide_eq_true (by omega)
  unfold setT
  rw [hin, if_pos rfl]
  unfold upd
  by_cases hxy : x = X ∧ y = Y
  ·rw [if_pos hxy, hxy.1, hxy.2, if_pos (by unfold posI; rfl)]
  ·rw [if_neg hxy, if_neg (by unfold posI; omega)]
   exact tileL_clean hv _ _ hi
 ·have h2 : eqB (X / 8) (Y / 8) (x / 8) (y / 8) = false := by simpa using h
  rw [tileL_put_other _ _ _ _ h2, if_neg (fun hh => by
   rw [hh.1, hh.2] at h2
   simp [eqB] at h2)]
end
/-- The raster after the first k updates. -/
def dotX (d : Dt) : Int := d.x % 32 - 16
def dotY (d : Dt) : Int := d.y % 32 - 16
def dAt (l : List Dt) (k : Nat) : Dt := l.getD k ⟨0, 0, Px.zero⟩
def dotR (l : List Dt) : Nat → List TA
 | 0 => []
 | k + 1 => setR (dotR l k) (dotX (dAt l k)) (dotY (dAt l k)) (dAt l k).p
/-- The pixels wanted. -/
def dotW (l : List Dt) : Nat → Nat → Px
 | 0 => fun _ => Px.zero
 | k + 1 => upd (dotW l k) (((dAt l k).y % 32).toNat * 32 + ((dAt l k).x % 32).toNat) (cleanP (dAt l k).p)
/-! ### Grids -/
def gridC (f : Nat → Px) : Array Value := Array.ofFn (n := 4096) fun k => pxC (f (k.val / 4)) (k.val % 4)
end Go.Proofs.Ytamgpfblhlfhaaa
/- The pixel at a column and a row of a rectangle. -/
namespace Go.Proofs.Ytamgpfblhlfhaaa
open Go.RowKit Go.Shelf Pl
theorem px_xy {c : Rc} (hf : Fits c) {X Y : Nat} (hX : (X : Int) < c.x1 - c.x0) (hY : (Y : Int) < c.y1 - c.y0) : ∃ k : Nat, (k : Int) = (Y : Int) * (c.x1 - c.x0) + (X : Int) ∧ k < areaN c ∧ pxX c k = c.x0 + X ∧ pxY c k = c.y0 + Y := by
 obtain ⟨ea, hw⟩ := area_wid hf
 have hwi : c.x1 - c.x0 = (widN c : Int) := by unfold widN; have := hf.h1; omega
 have hX' : X < widN c := by omega
 refine ⟨Y * widN c + X, by rw [hwi]; simp, ?_, ?_, ?_⟩
 ·have h : (Y + 1) * widN c ≤ (c.y1 - c.y0).toNat * widN c := Nat.mul_le_mul_right _ (by omega)
  rw [Nat.add_mul, Nat.one_mul] at h
  rw [ea, Nat.mul_comm (widN c)]
  omega
 ·unfold pxX
  rw [Nat.add_comm, Nat.add_mul_mod_self_right, Nat.mod_eq_of_lt hX']
 ·unfold pxY
  rw [Nat.add_comm, Nat.add_mul_div_right _ _ hw, Nat.div_eq_of_lt hX', Nat.zero_add]
end Go.Proofs.Ytamgpfblhlfhaaa
/- Plain: the positions of a rectangle's tiles; what Paste computes. -/
namespace Go.Proofs.Ytamgpfblhlfhaaa
open Go.RowKit Pl
set_option linter.unusedVariables false
set_option linter.unusedSimpArgs false
/-- The rectangle of the tiles that a rectangle meets. -/
def tlR (c : Rc) : Rc := ⟨c.x0 / 8, c.y0 / 8, (c.x1 - 1) / 8 + 1, (c.y1 - 1) / 8 + 1⟩
theorem tl_fits {c : Rc} (h : Fits c) : Fits (tlR c) := by
 obtain ⟨a1, a2, a3, a4, a5, a6, a7, a8⟩ := h
 refine ⟨?_, ?_, ?_, ?_, ?_, ?_, ?_, ?_⟩ <;> (unfold tlR; simp only; omega)
def tlN (c : Rc) : Nat := areaN (tlR c)
theorem tlN_le {c : Rc} (h : Fits c) : tlN c ≤ 1089 := by
 have e := (area_wid (tl_fits h)).1
 obtain ⟨a1, a2, a3, a4, a5, a6, a7, a8⟩ := h
 unfold tlN
 rw [e]
 have h1 : widN (tlR c) ≤ 33 := by unfold widN tlR; simp only; omega
 have h2 : ((tlR c).y1 - (tlR c).y0).toNat ≤ 33 := by unfold tlR; simp only; omega
 exact Nat.mul_le_mul h1 h2
def posP (c : Rc) (k : Nat) : Int × Int := (pxX (tlR c) k, pxY (tlR c) k)
def posL (c : Rc) : List (Int × Int) := (List.range (tlN c)).map (posP c)
theorem posL_len (c : Rc) : (posL c).length = tlN c := by unfold posL; rw [List.length_map, List.length_range]
theorem posP_in {c : Rc} (hf : Fits c) {k : Nat} (hk : k < tlN c) : withinB (posP c k).1 (posP c k).2 = true := by
 have h := (hasR_iff _ _ _).1 (px_in (tl_fits hf) hk)
 have h3 := hf.h3
 have h4 := hf.h4
 have h5 := hf.h5
 have h6 := hf.h6
 unfold posP
 refine decide_eq_true ?_
 unfold tlR at h
 simp only at h ⊢
 unfold tlR
 omega
theorem posL_in {c : Rc} (hf : Fits c) : ∀ p ∈ posL c, withinB p.1 p.2 = true := fun p hp => by
 obtain ⟨k, hk, rfl⟩ := List.mem_map.1 hp
 exact posP_in hf (List.mem_range.1 hk)
theorem posP_inj {c : Rc} (hf : Fits c) {j k : Nat} (h : posP c j = posP c k) : j = k := by
 have hw := (area_wid (tl_fits hf)).2
 unfold posP pxX pxY at h
 injection h with h1 h2
 have e1 : j % widN (tlR c) = k % widN (tlR c) := by omega
 have e2 : j / widN (tlR c) = k / widN (tlR c) := by omega
 rw [← Nat.div_add_mod j (widN (tlR c)), ← Nat.div_add_mod k (widN (tlR c)), e1, e2]
theorem posL_nodup {c : Rc} (hf : Fits c) : (posL c).Nodup := by
 unfold posL
 exact List.Pairwise.map _ (fun a b hab e => hab (posP_inj hf e)) List.nodup_range
/-! ### Pasting -/
def pixL (c : Rc) (L : List Px) (X Y : Int) : Px := L.getD (idxI c X Y).toNat Px.zero
def pstP (c : Rc) (L : List Px) (X Y : Int) (p : Px) : Px := if hasR c X Y = true then cleanP (pixL c L X Y) else p
def pstT (c : Rc) (L : List Px) (x y : Int) (t : Nat → Px) : Nat → Px := fun i => if i < 64 then pstP c L (x * 8 + (i : Int) % 8) (y * 8 + (i : Int) / 8) (t i) else t i
def pstF (c : Rc) (L : List Px) (_ : Unit) (X Y : Int) (p : Px) : Unit × Px := ((), pstP c L X Y p)
theorem runT_pst (c : Rc) (L : List Px) (e : TA) : ∀ k, ∀ i, (runT (pstF c L) e k ()).2 i = if i < k then pstP c L (e.x * 8 + (i : Int) % 8) (e.y * 8 + (i : Int) / 8) (e.t i) else e.t i
 | 0, i => by rw [if_neg (by omega)]; rfl
 | k + 1, i => by
  show upd (runT (pstF c L) e k ()).2 k (pstP c L (e.x * 8 + (k : Int) % 8) (e.y * 8 + (k : Int) / 8) (e.t k)) i = _
  unfold upd
  by_cases h : i = k
  ·subst h
   rw [if_pos rfl, if_pos (Nat.lt_succ_self _)]
  ·rw [if_neg h, runT_pst c L e k i]
   by_cases h2 : i < k
   ·rw [if_pos h2, if_pos (Nat.lt_succ_of_lt h2)]
   ·rw [if_neg h2, if_neg (show ¬ i < k + 1 from by omega)]
theorem runT_pst64 (c : Rc) (L : List Px) (e : TA) : (runT (pstF c L) e 64 ()).2 = pstT c L e.x e.y e.t := funext fun i => runT_pst c L e 64 i
theorem mapK_pst (c : Rc) (L : List Px) (e : TA) : (mapK (pstF c L) [e] () 1).2 = newA e.x e.y (pstT c L e.x e.y e.t) := by
 show [] ++ newA (aT [e] 0).x (aT [e] 0).y (runT (pstF c L) (aT [e] 0) 64 ()).2 = _
 have h : aT [e] 0 = e := rfl
 rw [h, runT_pst64, List.nil_append]
def OkL (L : List Px) : Prop := ∀ p ∈ L, p.ok
theorem pixL_ok {c : Rc} {L : List Px} (h : OkL L) (X Y : Int) : (pixL c L X Y).ok := by
 unfold pixL
 rw [List.getD_eq_getElem?_getD]
 cases hk : L[(idxI c X Y).toNat]? with
 | none => exact Px.zero_ok
 | some p => exact h p (List.mem_of_getElem? hk)
theorem pstP_ok {c : Rc} {L : List Px} (h : OkL L) (X Y : Int) (p : Px) (hp : p.ok) : (pstP c L X Y p).ok := by
 unfold pstP
 split
 ·exact cleanP_ok (pixL_ok h X Y)
 ·exact hp
theorem pstT_tok {c : Rc} {L : List Px} (h : OkL L) (x y : Int) {t : Nat → Px} (ht : Tok t) : Tok (pstT c L x y t) := fun i hi => by
 unfold pstT
 rw [if_pos hi]
 exact pstP_ok h _ _ _ (ht i hi)
def CleanL (ls : List TA) : Prop := ∀ e ∈ ls, eqT (cleanT e.t) e.t = true
theorem tileL_cleanL {ls : List TA} (h : CleanL ls) (x y : Int) {i : Nat} (hi : i < 64) : cleanP (tileL ls x y i) = tileL ls x y i := by
 rcases tileL_some ls x y with e | ⟨e, he, _, _, ht⟩
 ·rw [e]; rfl
 ·rw [ht]
  exact eqT_at (h e he) hi
theorem valid_clean {ls : List TA} (h : validL ls = true) : CleanL ls := fun e he => ((goodA_iff e).1 (validL_good h e he)).2.2
theorem pstT_clean (c : Rc) (L : List Px) (x y : Int) {t : Nat → Px} (h : ∀ i, i < 64 → cleanP (t i) = t i) : ∀ i, i < 64 → cleanP (pstT c L x y t i) = pstT c L x y t i := fun i hi => by
 unfold pstT
 rw [if_pos hi]
 unfold pstP
 split
 ·exact cleanP_idem _
 ·exact h i hi
def pst1 (c : Rc) (L : List Px) (ls : List TA) (p : Int × Int) : List TA := putL ls p.1 p.2 (pstT c L p.1 p.2 (tileL ls p.1 p.2))
def pstL (c : Rc) (L : List Px) (ls : List TA) (ps : List (Int × Int)) : List TA := ps.foldl (pst1 c L) ls
theorem pstL_snoc (c : Rc) (L : List Px) (ls : List TA) (ps : List (Int × Int)) (p : Int × Int) : pstL c L ls (ps ++ [p]) = pst1 c L (pstL c L ls ps) p := by unfold pstL; rw [List.foldl_append]; rfl
theorem pstL_cons (c : Rc) (L : List Px) (ls : List TA) (p : Int × Int) (ps : List (Int × Int)) : pstL c L ls (p :: ps) = pstL c L (pst1 c L ls p) ps := rfl
theorem pstL_len (c : Rc) (L : List Px) (ps : List (Int × Int)) : ∀ ls, (pstL c L ls ps).length ≤ ls.length + ps.length := by
 induction ps with
 | nil => intro ls; exact Nat.le_refl _
 | cons p r ih =>
  intro ls
  rw [pstL_cons]
  have h1 := ih (pst1 c L ls p)
  have h2 := putL_length ls p.1 p.2 (pstT c L p.1 p.2 (tileL ls p.1 p.2))
  rw [List.length_cons]
  unfold pst1 at h1 ⊢
  omega
theorem pstL_srt (c : Rc) (L : List Px) (ps : List (Int × Int)) : ∀ ls, Srt ls → Srt (pstL c L ls ps) := by
 induction ps with
 | nil => intro ls h; exact h
 | cons p r ih => intro ls h; exact ih _ (putL_srt h)
theorem pstL_tok {c : Rc} {L : List Px} (hL : OkL L) (ps : List (Int × Int)) : ∀ ls, TokL ls → TokL (pstL c L ls ps) := by
 induction ps with
 | nil => intro ls h; exact h
 | cons p r ih => intro ls h; exact ih _ (putL_tok h (pstT_tok hL _ _ (tileL_tok h _ _)))
theorem pstL_good (c : Rc) (L : List Px) (ps : List (Int × Int)) : ∀ ls, (∀ e ∈ ls, goodA e = true) → (∀ p ∈ ps, withinB p.1 p.2 = true) → ∀ e ∈ pstL c L ls ps, goodA e = true := by
 induction ps with
 | nil => intro ls h _; exact h
 | cons p r ih =>
  intro ls h hp
  refine ih _ (putL_good h (hp p (List.mem_cons_self ..)) ?_) (fun q hq => hp q (List.mem_cons_of_mem _ hq))
  exact eqT_true fun i hi => pstT_clean c L _ _ (fun j hj => tileL_cleanL (fun e he => ((goodA_iff e).1 (h e he)).2.2) _ _ hj) i hi
/-- The tile at a position behind a paste. -/
theorem tileL_pst_out (c : Rc) (L : List Px) {X Y : Int} (ps : List (Int × Int)) : ∀ ls, (X, Y) ∉ ps → tileL (pstL c L ls ps) X Y = tileL ls X Y := by
 induction ps with
 | nil => intro ls _; rfl
 | cons p r ih =>
  intro ls h
  rw [pstL_cons, ih _ (fun e => h (List.mem_cons_of_mem _ e))]
  refine tileL_put_other _ _ _ _ (decide_eq_false fun e => h ?_)
  have : p = (X, Y) := Prod.ext e.1 e.2
  rw [this]
  exact List.mem_cons_self ..
theorem tileL_pst_in (c : Rc) (L : List Px) {X Y : Int} (ps : List (Int × Int)) : ∀ ls, Srt ls → ps.Nodup → (X, Y) ∈ ps → tileL (pstL c L ls ps) X Y = if zeroB (pstT c L X Y (tileL ls X Y)) = true then zT else pstT c L X Y (tileL ls X Y) := by
 induction ps with
 | nil => intro ls _ _ h; cases h
 | cons p r ih =>
  intro ls hs hn h
  obtain ⟨h1, h2⟩ := List.pairwise_cons.1 hn
  rw [pstL_cons]
  by_cases hp : p = (X, Y)
  ·subst hp
   rw [tileL_pst_out c L r _ (fun e => h1 _ e rfl)]
   exact tileL_put_same hs _ _ _
  ·rcases List.mem_cons.1 h with e | e
   ·exact absurd e.symm hp
   ·rw [ih (pst1 c L ls p) (putL_srt hs) h2 e]
    have : tileL (pst1 c L ls p) X Y = tileL ls X Y := tileL_put_other _ _ _ _ (decide_eq_false fun e => hp (Prod.ext e.1 e.2))
    rw [this]
theorem posL_mem {c : Rc} (hf : Fits c) {X Y : Int} : (X, Y) ∈ posL c ↔ hasR (tlR c) X Y = true := by
 constructor
 ·intro h
  obtain ⟨k, hk, e⟩ := List.mem_map.1 h
  have := px_in (tl_fits hf) (List.mem_range.1 hk)
  unfold posP at e
  injection e with e1 e2
  rw [← e1, ← e2]
  exact this
 ·intro h
  have hr := (hasR_iff _ _ _).1 h
  obtain ⟨k, _, hk, e1, e2⟩ := px_xy (tl_fits hf) (X := (X - (tlR c).x0).toNat) (Y := (Y - (tlR c).y0).toNat) (by omega) (by omega)
  refine List.mem_map.2 ⟨k, List.mem_range.2 hk, ?_⟩
  unfold posP
  rw [e1, e2]
  exact Prod.ext (by simp only; omega) (by simp only; omega)
/-- A pixel behind a paste. -/
theorem getL_pst {c : Rc} (hf : Fits c) (L : List Px) {ls : List TA} (hs : Srt ls) (hc : CleanL ls) (x y : Int) : getL (pstL c L ls (posL c)) x y = if hasR c x y = true then cleanP (pixL c L x y) else getL ls x y := by
 have hi : (8 * (y % 8) + x % 8).toNat < 64 := by omega
 have ex : x / 8 * 8 + (((8 * (y % 8) + x % 8).toNat : Nat) : Int) % 8 = x := by omega
 have ey : y / 8 * 8 + (((8 * (y % 8) + x % 8).toNat : Nat) : Int) / 8 = y := by omega
 have hp : pstT c L (x / 8) (y / 8) (tileL ls (x / 8) (y / 8)) (8 * (y % 8) + x % 8).toNat = if hasR c x y = true then cleanP (pixL c L x y) else getL ls x y := by
  unfold pstT
  rw [if_pos hi, ex, ey]
  rfl
 unfold getL at hp ⊢
 by_cases hm : (x / 8, y / 8) ∈ posL c
 ·rw [tileL_pst_in c L _ _ hs (posL_nodup hf) hm]
  by_cases hz : zeroB (pstT c L (x / 8) (y / 8) (tileL ls (x / 8) (y / 8))) = true
  ·rw [if_pos hz, ← hp]
   have h0 := (zeroB_iff _).1 hz _ hi
   have h1 := pstT_clean c L (x / 8) (y / 8) (t := tileL ls (x / 8) (y / 8)) (fun j hj => tileL_cleanL hc _ _ hj) _ hi
   rw [← h1]
   unfold cleanP
   rw [if_pos h0]
   rfl
  ·rw [if_neg hz, hp]
 ·rw [tileL_pst_out c L _ _ hm]
  rw [if_neg]
  intro hh
  apply hm
  rw [posL_mem hf, hasR_iff]
  have := (hasR_iff _ _ _).1 hh
  unfold tlR
  simp only
  omega
def pstE (c : Rc) (L : List Px) (ls : List TA) : Int := if validR c = true ∧ (L.length : Int) = areaR c then (if fitsE c = 0 then manyE (pstL c L (fineL ls) (posL c)) else fitsE c) else 1
def pstR (c : Rc) (L : List Px) (ls : List TA) : List TA := if validR c = true ∧ (L.length : Int) = areaR c then (if fitsE c = 0 then manyL (pstL c L (fineL ls) (posL c)) else []) else []
theorem pstR_valid (c : Rc) (L : List Px) (ls : List TA) : validL (pstR c L ls) = true := by
 unfold pstR
 split
 ·split
  ·rename_i hE
   unfold manyL
   split
   ·rename_i h
    exact validL_mk h (pstL_good c L _ _ (validL_good (fineL_valid ls)) (posL_in (fitsE_zero hE))) (pstL_srt c L _ _ (validL_srt (fineL_valid ls)))
   ·exact validL_nil
  ·exact validL_nil
 ·exact validL_nil
theorem pstR_tok {c : Rc} {L : List Px} {ls : List TA} (hL : OkL L) (h : TokL ls) : TokL (pstR c L ls) := by
 unfold pstR
 split
 ·split
  ·unfold manyL
   split
   ·exact pstL_tok hL _ _ (fineL_tok h)
   ·exact TokL.nil
  ·exact TokL.nil
 ·exact TokL.nil
/-- The cut of a sorted list: what stands there. -/
theorem hit_at {ls : List TA} (hs : Srt ls) {x y : Int} (h : hitL ls x y = true) : cutL ls x y < ls.length ∧ aT ls (cutL ls x y) = ⟨x, y, tileL ls x y⟩ := by
 unfold hitL at h
 obtain ⟨h1, h2⟩ := Bool.and_eq_true_iff.1 h
 have h1 := of_decide_eq_true h1
 have h2 := of_decide_eq_true h2
 refine ⟨h1, ?_⟩
 have hm : aT ls (cutL ls x y) ∈ ls := List.mem_of_getElem? (aT_at h1)
 have ht := tileL_mem hs hm
 rw [h2.1, h2.2] at ht
 rw [ht]
 obtain ⟨e1, e2⟩ := h2
 generalize aT ls (cutL ls x y) = e at *
 obtain ⟨ex, ey, et⟩ := e
 simp only at e1 e2
 subst e1 e2
 rfl
theorem hit_not {ls : List TA} (hs : Srt ls) {x y : Int} (h : hitL ls x y = false) : tileL ls x y = zT := by
 refine tileL_none fun e he => ?_
 obtain ⟨j, hj⟩ := List.mem_iff_getElem?.1 he
 have hjl : j < ls.length := (List.getElem?_eq_some_iff.1 hj).1
 rw [aT_at hjl] at hj
 obtain rfl := Option.some.inj hj
 by_cases hc : j < cutL ls x y
 ·have := of_decide_eq_true (cutL_lt hc)
  exact decide_eq_false (by omega)
 ·unfold hitL at h
  have hcl : cutL ls x y < ls.length := by omega
  rw [decide_eq_true hcl, Bool.true_and] at h
  by_cases e : j = cutL ls x y
  ·rw [e]; exact h
  ·have h1 := of_decide_eq_true (srt_at hs (show cutL ls x y < j by omega) hjl)
   have h2 := of_decide_eq_false (cutL_at hcl)
   exact decide_eq_false (by omega)
theorem RS.congr {v : Value} {ls ks : List TA} {w : World} (h : RS v ls w) (hl : ls.length = ks.length) (hr : rowC ls = rowC ks) : RS v ks w := by
 rcases h with ⟨h1, rfl⟩ | ⟨g, o, c, e, hc, sc⟩
 ·exact .inl ⟨h1, List.eq_nil_of_length_eq_zero hl.symm⟩
 ·refine .inr ⟨g, o, c, by rw [← hl]; exact e, by omega, fun hn => ⟨(sc (by omega)).1, fun i hi j hj => ?_⟩⟩
  rw [(sc (by omega)).2 i (by omega) j hj, ← rowC_at ls i j (by omega) hj, hr, rowC_at ks i j hi hj]
theorem putL_zero (ls : List TA) (x y : Int) {t u : Nat → Px} (ht : zeroB t = true) (hu : zeroB u = true) : putL ls x y t = putL ls x y u := by
 rw [putL_cut, putL_cut]
 unfold newA
 rw [if_pos ht, if_pos hu]
end Go.Proofs.Ytamgpfblhlfhaaa
/- Contract of the reference's Same at equal images. -/
namespace Go.Proofs.Ytamgpfblhlfhaaa
open Go.RowKit Go.Shelf Pl
set_option linter.unusedVariables false
set_option linter.unusedSimpArgs false
set_option maxRecDepth 20000
/- Contract of the reference's Image. -/
def shC (c : Rc) (u : Value) (n : Int) : Array Value := #[.int .i64 c.x0, .int .i64 c.y0, .int .i64 c.x1, .int .i64 c.y1, u, .int .i64 n]
/-- The slice of an image stored. -/
theorem wpList_storeU {ops : Array Oper} {rest : List Oper} {o : Oper} {a : Act} {w : World} {Q : Exit → Act → World → Prop} (hg : o.guard = none) (x y : Operand) (ho : o.op = .store 132 x y) (b : Nat) (hx : a.eval x = .pointer (some ⟨b, 4, none⟩)) (ad : Option Addr) (n cp : Nat) (hy : a.eval y = .slice ad n cp) {c : Rc} {u : Value} (ht : AtB 134 w b (imgC c u))
  (h : ∀ w', AtB 134 w' b (imgC c (.slice ad n cp)) → Chg b w w' → w'.heap.size = w.heap.size → wpList Try.prog ops Q rest (a.put o.dst undef) w') : wpList Try.prog ops Q (o :: rest) a w := by
 have e : AtB 134 (w.setCell ⟨b, 4, none⟩ (.slice ad n cp)) b (imgC c (.slice ad n cp)) := by
  have e1 : (imgC c u).setIfInBounds 4 (.slice ad n cp) = imgC c (.slice ad n cp) := rfl
  unfold AtB
  rw [← e1]
  exact heap_setCell_same _ _ _ _ _ _ ht
 refine wpList_storeAny hg x y ho _ ?_ (h _ e ((Chg.refl b w).setCell _) (by simp only [World.size_setCell]))
 rw [hx, hy]
 have c0 := imgC_u ht
 have f0 := ht.frozen 4
 simp [go_sem, c0, f0]
section
variable {o : Oper} {a : Act} {C : World → Prop} {K : Act → Prop}
theorem run_build_Im (w : World) (c : Rc) : (Instr.build 134 #[(0, .agg (rcA c))]).run Try.prog w = .ok (.agg (imgC c (.slice none 0 0))) w := by kernel_rfl
theorem quiet_buildIm {x : Operand} (h : o.op = .build 134 #[(0, x)]) (c : Rc) (hx : a.eval x = .agg (rcA c)) (hk : K (a.put o.dst (.agg (imgC c (.slice none 0 0))))) : o.quiet Try.prog a C K :=
 ⟨_, fun w hw => by
  unfold Oper.quietAt execOp
  simp only [h, List.map_toArray, List.map_cons, List.map_nil, hx, Sem.run_bind, run_build_Im, Result.andThen_ok, Sem.run_pure]
  exact ⟨rfl, rfl⟩, hk⟩
end
theorem px_row {c : Rc} (hf : Fits c) {k j : Nat} (hj : j < widN c) : pxX c (widN c * k + j) = c.x0 + (j : Int) ∧ pxY c (widN c * k + j) = c.y0 + (k : Int) := by
 have hw := (area_wid hf).2
 unfold pxX pxY
 rw [Nat.mul_add_mod, Nat.mod_eq_of_lt hj, Nat.mul_add_div hw, Nat.div_eq_of_lt hj, Nat.add_zero]
 exact ⟨rfl, rfl⟩
theorem OwnE.chgB {α : Type} {k : Nat} {T S : TypeId} {E : Elt α k T S} {B b : Nat} {v : Value} {ls : List α} {w w' : World} (h : OwnE E B v ls w) (hc : Chg b w w') (hne : ∀ k, v.ownBlock = some k → k ≠ b) : OwnE E B v ls w' := by
 refine World.ownsRow.kept (row := some b) h ⟨hc.os, hc.tape, hc.output, hc.size, fun k hk hn => hc.block k hk (fun e => hn (by rw [e]))⟩ ?_
 cases hv : v.ownBlock with
 | none => exact .inl rfl
 | some k =>
  right
  intro e
  injection e with e
  exact hne k hv e
/- The positions of a rectangle's tiles: the reference's Tiles. -/
theorem tl_row {c : Rc} (hf : Fits c) {k j : Nat} (hj : j < widN (tlR c)) : posP c (widN (tlR c) * k + j) = (c.x0 / 8 + (j : Int), c.y0 / 8 + (k : Int)) := by
 obtain ⟨h1, h2⟩ := px_row (tl_fits hf) (k := k) hj
 unfold posP
 rw [h1, h2]
 rfl
end Go.Proofs.Ytamgpfblhlfhaaa
/- Regions within a round of a range over a function: walked as anywhere. What a loop's body keeps. -/
namespace Go.Proofs.Ytamgpfblhlfhaaa
open Go.RowKit
set_option linter.unusedVariables false
set_option linter.unusedSimpArgs false
/-- The walk goes on, and in no other way. -/
def Only (K : Act → World → Prop) : Exit → Act → World → Prop
 | .normal, a, w => K a w
 | _, _, _ => False
theorem Only.out (K : Act → World → Prop) : ¬ LetsOut (Only K) := fun ⟨_, _, h⟩ => h
theorem Only.at {K : Act → World → Prop} {a : Act} {w : World} (h : K a w) : Only K .normal a w := h
def noDefer (l : List Oper) : Bool := l.all fun o => match o.op with
 | .defer _ => false
 | _ => true
theorem noDefer_at {l : List Oper} (h : noDefer l = true) {o : Oper} (ho : o ∈ l) : ∀ c, o.op ≠ .defer c := fun c e => by
 have := List.all_eq_true.1 h o ho
 rw [e] at this
 cases this
section
variable {P : Program} {r n : Nat}
theorem opIn_of {o : Oper} {a : Act} {w : World} {K K' : Act → World → Prop} {M : Act → World → Prop} {Q : Exit → Act → World → Prop} (hd : ∀ c, o.op ≠ .defer c) (hK : ∀ a w, K' a w → K a w) (h : o.wp P a w K' (Only M)) : o.wpIn (Fence.wide.inRound r) n P a w K Q := by
 refine ⟨fun _ _ => trivial, ?_⟩
 rw [Oper.semAt_eq _ _ _ hd]
 unfold Oper.wp at h
 generalize (execOp a.eval o).run P w = z at *
 cases z with
 | ok x w' =>
  cases x with
  | value v => exact hK _ _ h
  | skip => exact hK _ _ h
  | defer d => exact hK _ _ h
  | enter f args =>
   refine ⟨fun h => (by cases h), CallsIn.inRound r (callsIn_wide.2 (Calls.mono h fun e w'' he => ?_))⟩
   cases e with
   | returned v => exact hK _ _ he
   | panicked c => exact he.elim
   | outgrown => exact absurd he (Only.out M)
  | row s args =>
   refine ⟨fun h => (by cases h), fun c cs _ => ?_⟩
   obtain ⟨v, w'', h1, h2⟩ := h c cs
   exact ⟨v, w'', hK _ _ h1, stepsIn_wide.2 h2⟩
  | _ => exact absurd h (by simp [Oper.upon])
 | halt x w' =>
  cases x with
  | panic v => exact absurd h (by simp [Oper.upon, Only])
  | _ => exact absurd h (by simp [Oper.upon])
theorem wpListIn_of {ops : Array Oper} {K : Act → World → Prop} {Q : Exit → Act → World → Prop} (hK : ∀ a w, K a w → Q .normal a w) : ∀ (l : List Oper) (a : Act) (w : World), (∀ o ∈ l, ∀ c, o.op ≠ .defer c) → wpList P ops (Only K) l a w → wpListIn (Fence.wide.inRound r) n P ops Q l a w
 | [], a, w, _, h => hK _ _ h
 | o :: rest, a, w, hd, h => by
  unfold wpList at h
  unfold wpListIn
  have ih := wpListIn_of (ops := ops) hK rest
  by_cases hw : Region.wanted o (yielded ops a.tmps) = true
  ·rw [if_pos hw] at h ⊢
   rcases h with h | h
   ·exact opIn_of (hd o (List.mem_cons_self ..)) (fun a w hh => ih a w (fun o ho => hd o (List.mem_cons_of_mem _ ho)) hh) h
   ·exact absurd h.2 (Only.out K)
  ·rw [if_neg hw] at h ⊢
   exact ⟨fun _ _ => trivial, ih _ _ (fun o ho => hd o (List.mem_cons_of_mem _ ho)) h⟩
/-- A region within a round. -/
theorem round_lit {id : Nat} {l : List Oper} {Q : Exit → Act → World → Prop} {a : Act} {w : World} (hd : noDefer l = true) (h : wpList P l.toArray (Only fun a w => Q .normal a w) l a w) : (Code.region id l.toArray false).wpIn (Fence.wide.inRound r) n P Q a w :=
 wpIn_region_lit (wpListIn_of (fun _ _ h => h) l a w (fun o ho => noDefer_at hd ho) h)
end
/-! ### What a body keeps that turns one block b of cells -/
structure KpB (b : Nat) (W W' : World) : Prop where
 size : W.heap.size ≤ W'.heap.size
 same : ∀ (k : Nat) (o : Obj), k ≠ b → W.heap[k]? = some o → o.isCells = true → W'.heap[k]? = some o
theorem KpB.trans {b : Nat} {X Y Z : World} (h : KpB b X Y) (k : KpB b Y Z) : KpB b X Z := ⟨Nat.le_trans h.size k.size, fun i o hi ho hc => k.same i o hi (h.same i o hi ho hc) hc⟩
theorem KpB.refl (b : Nat) (W : World) : KpB b W W := ⟨Nat.le_refl _, fun _ _ _ h _ => h⟩
theorem KpB.putObj (b : Nat) {W : World} {l : Nat} {o : Obj} (o' : Obj) (hl : W.heap[l]? = some o) (ho : o.isCells = false) : KpB b W (W.putObj l o') :=
 ⟨by simp [World.putObj], fun k x hk hx hc => by
  have : k ≠ l := fun e => by rw [e, hl] at hx; cases hx; rw [ho] at hc; cases hc
  exact (World.putObj_heap_other (by omega)).trans hx⟩
theorem KpB.chg {b : Nat} {W W' : World} (h : Chg b W W') : KpB b W W' :=
 ⟨h.size, fun k o hk ho _ => (h.block k (Array.getElem?_eq_some_iff.1 ho).1 hk).trans ho⟩
theorem KpB.atB {b k : Nat} {t : TypeId} {cs : Array Value} {W W' : World} (h : KpB b W W') (hk : k ≠ b) (ha : AtB t W k cs) : AtB t W' k cs := h.same k _ hk ha rfl
theorem KeepsFrom.chg {B b : Nat} {W W' : World} (h : Chg b W W') (hb : b < B) : KeepsFrom B W W' :=
 ⟨h.size, fun k o hB hk _ => (h.block k (Array.getElem?_eq_some_iff.1 hk).1 (by omega)).trans hk⟩
theorem grown_of_below {W W' : World} (h : Below W.heap.size W W') : W.grownBy W' none :=
 ⟨h.os, h.tape, h.output, h.size, fun k hk _ => h.block k hk⟩
theorem AbidesFrom.below {β : Type} {B : Nat} {J : β → World → Prop} (h : AbidesFrom B J) {s : β} {W W' : World} (hs : J s W) (hb : Below W.heap.size W W') : J s W' :=
 h s W W' none hs (grown_of_below hb) (fun r e => by cases e)
/-! ### Facts of cells abide the turn of what is no cells -/
theorem AtB.own {t : TypeId} {A B : World} {b : Nat} {cs : Array Value} {row : Option Nat} (h : AtB t A b cs) (hg : A.grownBy B row) (hr : ∀ r, row = some r → ∃ o : Obj, A.heap[r]? = some o ∧ o.isCells = false) : AtB t B b cs :=
 (hg.block b h.lt (fun e => by
  obtain ⟨o, ho, hc⟩ := hr b e.symm
  rw [show A.heap[b]? = _ from h] at ho
  cases ho
  cases hc)).trans h
theorem cell_not {w : World} {g o : Nat} {v : Value} (h : w.cell? ⟨g, o, none⟩ = some v) : ∀ x : Obj, w.heap[g]? = some x → x.isCells = true := fun x hx => by
 unfold World.cell? at h
 simp only [hx] at h
 cases x <;> first | rfl | (simp at h)
theorem below_own {n : Nat} {w A B : World} {row : Option Nat} (h : Below n w A) (hn : n ≤ A.heap.size) (hg : A.grownBy B row) (hr : ∀ r, row = some r → n ≤ r) : Below n w B :=
 ⟨hg.os.trans h.os, hg.tape.trans h.tape, hg.output.trans h.output, Nat.le_trans h.size hg.size, fun k hk => (hg.block k (by omega) (fun e => by have := hr k e.symm; omega)).trans (h.block k hk)⟩
end Go.Proofs.Ytamgpfblhlfhaaa
/- Paste of package raster: what it does to one pixel; the iterator over the tiles of a rectangle. -/
namespace Go.Proofs.Ytamgpfblhlfhaaa
open Go.RowKit Go.Shelf Pl
set_option linter.unusedVariables false
set_option linter.unusedSimpArgs false
set_option maxRecDepth 20000
theorem P_EmptyB (r : Rc) (b : Bool) (w : World) (e : emptyR r = b) : Calls Try.prog 101 #[.agg (rcA r)] w fun e w' => e = .returned (.bool b) ∧ Below w.heap.size w w' := by
 subst e
 exact P_Empty r w
theorem P_HasO (r : Rc) (x y : Int) (b : Bool) (w : World) (e : hasR r x y = b) : Calls Try.prog 42 #[.agg (rcA r), .agg #[.int .i64 x, .int .i64 y]] w fun e w' => e = .returned (.bool b) ∧ Below w.heap.size w w' := by
 subst e
 exact P_Has r x y w
theorem P_AtO (x y : Int) (w : World) (hx : (Lit.int .i64 x).wf = true) (hy : (Lit.int .i64 y).wf = true) : Calls Try.prog 71 #[.agg #[.int .i64 x, .int .i64 y]] w fun e w' => e = .returned (.agg #[.int .i64 (x / 8), .int .i64 (y / 8)]) ∧ Below w.heap.size w w' := P_At x y w hx hy
theorem P_CleanB (p : Px) (w : World) (hp : p.ok) : Calls Try.prog 106 #[Px.v p] w fun e w' => e = .returned (Px.v (cleanP p)) ∧ Below w.heap.size w w' := P_Clean p w hp
set_option maxHeartbeats 2000000 in
theorem P_Paste1 (c : Rc) (hf : Fits c) (L : List Px) (hL : L.length = areaN c) (okL : OkL L) (x y : Int) (p : Px) (hp : p.ok) (bc bm g o cp : Nat) (w : World) (r0 : AtB 31 w bc (rcA c)) (m0 : AtB 134 w bm (imgC c (.slice (some ⟨g, o, none⟩) (areaN c) cp))) (ce : RCellsE pxE g o L w) :
  Calls Try.prog 132 #[.int .i64 x, .int .i64 y, Px.v p, .pointer (some ⟨bc, 0, none⟩), .pointer (some ⟨bm, 0, none⟩)] w fun e w' => e = .returned (Px.v (pstP c L x y p)) ∧ Below w.heap.size w w' := by
 have B := Below.refl w.heap.size w
 have hb1 := r0.lt
 have hb2 := m0.lt
 have hb3 := ce.lt
 have OKL := Lib.hid okL
 cases hh : hasR c x y with
 | true =>
  have e1 := Lib.hid (show pstP c L x y p = cleanP (pixL c L x y) from by unfold pstP; rw [hh]; rfl)
  obtain ⟨m1, m2, m3, m4⟩ := idxI_bd hf hh
  have hix : (idxI c x y).toNat < L.length := by rw [hL]; exact m4
  have hpx : L[(idxI c x y).toNat]? = some (pixL c L x y) := by
   unfold pixL
   rw [List.getD_eq_getElem?_getD, List.getElem?_eq_getElem hix]
   rfl
  have hok := Lib.hid (pixL_ok okL (c := c) x y)
  generalize pixL c L x y = pp at *
  have hh2 := of_decide_eq_true hh
  obtain ⟨g1, g2, g3, g4⟩ := hh2
  obtain ⟨a1, a2, a3, a4, a5, a6, a7, a8⟩ := hf
  have hidx : (y - c.y0) * (c.x1 - c.x0) + x - c.x0 = idxI c x y := rfl
  have m5 : idxI c x y < (areaN c : Int) := by omega
  have m6 : (areaN c : Int) ≤ 65536 := by
   unfold areaN
   have := mul_bd (a := c.x1 - c.x0) (b := c.y1 - c.y0) (m := 256) (k := 256) (by omega) (by omega) (by omega) (by omega)
   omega
  have HH := Lib.hid hh
  clear okL hL hh
  go_enter Try.func132, Try.ntmps132
  go_upto_region 0 with fail
  refine wp_region_lit ?_
  try simp only [gelS]
  (refine wpList_boxPx' rfl _ rfl _ rfl ?_; intro b_q7 wn hle hge ht hbn hzn; have hsz := B.size; replace B := B.trans (hbn.mono (by omega)); have hln := Nat.lt_of_lt_of_eq (Nat.lt_succ_self _) hzn.symm; clear hzn; (try have hlt := r0.lt); (try replace r0 := r0.below (hbn.mono hle)); (try have hlt := m0.lt); (try replace m0 := m0.below (hbn.mono hle)); (try have hlt := ce.lt); (try replace ce := ce.below (hbn.mono hle)); have q7 := ht; clear ht; simp only [putS])
  (refine wpList_allocPx' rfl rfl ?_; intro b_q8 wn hle hge ht hbn hzn; have hsz := B.size; replace B := B.trans (hbn.mono (by omega)); have hln := Nat.lt_of_lt_of_eq (Nat.lt_succ_self _) hzn.symm; clear hzn; (try have hlt := r0.lt); (try replace r0 := r0.below (hbn.mono hle)); (try have hlt := m0.lt); (try replace m0 := m0.below (hbn.mono hle)); (try have hlt := ce.lt); (try replace ce := ce.below (hbn.mono hle)); (try have hlt := q7.lt); (try replace q7 := q7.below (hbn.mono hle)); have q8 := ht; clear ht; simp only [putS])
  refine wpList_nil ?_
  go_upto_region 1 with fail
  refine wp_region_lit ?_
  try simp only [gelS]
  refine wpList_chunk 4 (by kernel_rfl) ?_
  simp only [takS, Nat.reduceAdd]
  repeat (first | go_big_quiet_skip | (go_big_quiet_want; first | (refine quiet_loadAny (t := 31) rfl _ _ _ rfl (fun w hw => run_load_B (ov_B r0 w hw) Try.isAgg31 (by kernel_rfl)) (by rfl) ?_; simp only [putS]; go_big_quiet_on) | (go_big_quiet_op; go_big_quiet_on)))
  refine wpQuiet_nil ?_
  refine wpList_callF (by first | rfl | simp [Region.wanted, yielded]) rfl (enters_of Try.func42 (by kernel_rfl) rfl) (by simp only [Act.eval, evlS]; rfl) ?_
  refine (P_HasO c x y true _ HH.out).mono ?_
  rintro e wn ⟨rfl, hbn⟩
  have hsz := B.size
  have hzn := hbn.size
  replace B := B.trans (hbn.mono B.size)
  (try replace r0 := r0.below hbn)
  (try replace m0 := m0.below hbn)
  (try replace ce := ce.below hbn)
  (try replace q7 := q7.below hbn)
  (try replace q8 := q8.below hbn)
  refine ⟨_, rfl, ?_⟩
  simp only [putS]
  refine wpList_nil ?_
  go_upto_region 2 with fail
  refine wp_region_lit ?_
  try simp only [gelS]
  refine wpList_chunk 19 (by kernel_rfl) ?_
  simp only [takS, Nat.reduceAdd]
  repeat (first | go_big_quiet_skip | (go_big_quiet_want; first | (refine quiet_loadAny (t := 132) rfl _ _ _ rfl (fun w hw => run_load_slp (imgC_u (ov_B m0 w hw))) (by first | rfl | omega) ?_; simp only [putS]; go_big_quiet_on) | (refine quiet_loadAny (t := 59) rfl _ _ _ rfl (fun w hw => rce_px (ov_rce ce w hw) hpx) (by first | rfl | omega) ?_; simp only [putS]; go_big_quiet_on) | (refine quiet_loadPx rfl _ rfl (ov_px q7) ?_; simp only [putS]; go_big_quiet_on) | (refine quiet_loadAny (t := 3) rfl _ _ _ rfl (fun w hw => run_load_int ((ov_B r0 w hw).cellL 0 rfl)) (by rfl) ?_; simp only [putS]; go_big_quiet_on) | (refine quiet_loadAny (t := 3) rfl _ _ _ rfl (fun w hw => run_load_int ((ov_B r0 w hw).cellL 1 rfl)) (by rfl) ?_; simp only [putS]; go_big_quiet_on) | (refine quiet_loadAny (t := 3) rfl _ _ _ rfl (fun w hw => run_load_int ((ov_B r0 w hw).cellL 2 rfl)) (by rfl) ?_; simp only [putS]; go_big_quiet_on) | (go_big_quiet_op; go_big_quiet_on)))
  refine wpQuiet_nil ?_
  refine wpList_callF (by first | rfl | simp [Region.wanted, yielded]) rfl (enters_of Try.func106 (by kernel_rfl) rfl) (by simp only [Act.eval, evlS]; rfl) ?_
  refine (P_CleanB pp _ hok.out).mono ?_
  rintro e wn ⟨rfl, hbn⟩
  have hsz := B.size
  have hzn := hbn.size
  replace B := B.trans (hbn.mono B.size)
  (try replace r0 := r0.below hbn)
  (try replace ce := ce.below hbn)
  (try replace q7 := q7.below hbn)
  (try replace q8 := q8.below hbn)
  refine ⟨_, rfl, ?_⟩
  simp only [putS]
  (refine wpList_storePx rfl _ _ rfl _ rfl (_) rfl q8 ?_; clear q8; intro wn ht hcn hzn; have hsz := B.size; replace hzn := Nat.le_of_eq hzn.symm; replace B := Chg.below B hcn (by omega) B.size; (try replace r0 := r0.of_eq (hcn.block _ r0.lt (by omega))); (try replace ce := ce.of_eq (hcn.block _ ce.lt (by omega))); (try replace q7 := q7.of_eq (hcn.block _ q7.lt (by omega))); have q8 := ht; clear ht; simp only [putS])
  refine wpList_nil ?_
  go_wp2
  refine bodyPost_ret (results_px rfl _ _ (b_q8) rfl q8) rfl ?_
  exact ⟨by rw [e1.out], B⟩
 | false =>
  have e1 := Lib.hid (show pstP c L x y p = p from by unfold pstP; rw [hh]; rfl)
  have HH := Lib.hid hh
  clear okL hL hh
  go_enter Try.func132, Try.ntmps132
  go_upto_region 0 with fail
  refine wp_region_lit ?_
  try simp only [gelS]
  (refine wpList_boxPx' rfl _ rfl _ rfl ?_; intro b_q7 wn hle hge ht hbn hzn; have hsz := B.size; replace B := B.trans (hbn.mono (by omega)); have hln := Nat.lt_of_lt_of_eq (Nat.lt_succ_self _) hzn.symm; clear hzn; (try have hlt := r0.lt); (try replace r0 := r0.below (hbn.mono hle)); (try have hlt := m0.lt); (try have hlt := ce.lt); (try replace ce := ce.below (hbn.mono hle)); (try have hlt := q7.lt); (try replace q7 := q7.below (hbn.mono hle)); (try have hlt := q8.lt); (try replace q8 := q8.below (hbn.mono hle)); have q7 := ht; clear ht; simp only [putS])
  (refine wpList_allocPx' rfl rfl ?_; intro b_q8 wn hle hge ht hbn hzn; have hsz := B.size; replace B := B.trans (hbn.mono (by omega)); have hln := Nat.lt_of_lt_of_eq (Nat.lt_succ_self _) hzn.symm; clear hzn; (try have hlt := r0.lt); (try replace r0 := r0.below (hbn.mono hle)); (try have hlt := m0.lt); (try have hlt := ce.lt); (try replace ce := ce.below (hbn.mono hle)); (try have hlt := q7.lt); (try replace q7 := q7.below (hbn.mono hle)); (try have hlt := q8.lt); (try replace q8 := q8.below (hbn.mono hle)); have q8 := ht; clear ht; simp only [putS])
  refine wpList_nil ?_
  go_upto_region 1 with fail
  refine wp_region_lit ?_
  try simp only [gelS]
  refine wpList_chunk 4 (by kernel_rfl) ?_
  simp only [takS, Nat.reduceAdd]
  repeat (first | go_big_quiet_skip | (go_big_quiet_want; first | (refine quiet_loadAny (t := 31) rfl _ _ _ rfl (fun w hw => run_load_B (ov_B r0 w hw) Try.isAgg31 (by kernel_rfl)) (by rfl) ?_; simp only [putS]; go_big_quiet_on) | (go_big_quiet_op; go_big_quiet_on)))
  refine wpQuiet_nil ?_
  refine wpList_callF (by first | rfl | simp [Region.wanted, yielded]) rfl (enters_of Try.func42 (by kernel_rfl) rfl) (by simp only [Act.eval, evlS]; rfl) ?_
  refine (P_HasO c x y false _ HH.out).mono ?_
  rintro e wn ⟨rfl, hbn⟩
  have hsz := B.size
  have hzn := hbn.size
  replace B := B.trans (hbn.mono B.size)
  (try replace ce := ce.below hbn)
  (try replace q7 := q7.below hbn)
  (try replace q8 := q8.below hbn)
  refine ⟨_, rfl, ?_⟩
  simp only [putS]
  refine wpList_nil ?_
  go_upto_region 3 with fail
  refine wp_region_lit ?_
  try simp only [gelS]
  refine wpList_chunk 1 (by kernel_rfl) ?_
  simp only [takS, Nat.reduceAdd]
  repeat (first | go_big_quiet_skip | (go_big_quiet_want; first | (refine quiet_loadAny (t := 59) rfl _ _ _ rfl (fun w hw => rce_px (ov_rce ce w hw) hpx) (by first | rfl | omega) ?_; simp only [putS]; go_big_quiet_on) | (refine quiet_loadPx rfl _ rfl (ov_px q7) ?_; simp only [putS]; go_big_quiet_on) | (go_big_quiet_op; go_big_quiet_on)))
  refine wpQuiet_nil ?_
  (refine wpList_storePx rfl _ _ rfl _ rfl (_) rfl q8 ?_; clear q8; intro wn ht hcn hzn; have hsz := B.size; replace hzn := Nat.le_of_eq hzn.symm; replace B := Chg.below B hcn (by omega) B.size; have q8 := ht; clear ht; simp only [putS])
  refine wpList_nil ?_
  go_wp2
  refine bodyPost_ret (results_px rfl _ _ (b_q8) rfl q8) rfl ?_
  exact ⟨by rw [e1.out], B⟩
theorem P_Tiles (c : Rc) (w : World) : Calls Try.prog 130 #[.agg (rcA c)] w fun e w' => ∃ b, e = .returned (.func (.func 138) #[] #[.pointer (some ⟨b, 0, none⟩)]) ∧ w.heap.size ≤ b ∧ AtB 31 w' b (rcA c) ∧ Below w.heap.size w w' := by
 have B := Below.refl w.heap.size w
 go_enter Try.func130, Try.ntmps130
 go_upto_region 0 with fail
 refine wp_region_lit ?_
 try simp only [gelS]
 (refine wpList_boxB (t := 31) rfl _ rfl _ rfl ?_; intro b_r1 wn hle hge ht hbn hzn; have hsz := B.size; replace B := B.trans (hbn.mono (by omega)); have hln := Nat.lt_of_lt_of_eq (Nat.lt_succ_self _) hzn.symm; clear hzn; have r1 := ht; clear ht; simp only [putS])
 refine wpList_chunk 1 (by kernel_rfl) ?_
 simp only [takS, Nat.reduceAdd]
 repeat (first | go_big_quiet_skip | (go_big_quiet_want; go_big_quiet_op; go_big_quiet_on))
 refine wpQuiet_nil ?_
 refine wpList_nil ?_
 go_wp2
 go_ret
 exact ⟨_, rfl, by omega, r1, B⟩
/- Contracts of IndexFunc, ContainsFunc at points, of Valid, hull, Bounds of package selection and of its reference. -/
theorem pt_at {l : List Pnt} {k : Nat} (h : k < l.length) {x y : Int} (he : ptG l k = (x, y)) : l[k]? = some (x, y) := by
 rw [← he]
 unfold ptG
 rw [List.getD_eq_getElem?_getD, List.getElem?_eq_getElem h]
 rfl
theorem any_yes {l : List Pnt} {k : Nat} (h : k < l.length) (hf : farP (ptG l k) = true) : (l.any fun p => farP p) = true := List.any_eq_true.2 ⟨_, ptG_mem h, hf⟩
theorem any_no {l : List Pnt} (hf : ∀ i, i < l.length → farP (ptG l i) = false) : (l.any fun p => farP p) = false := by
 rw [List.any_eq_false]
 intro p hp
 obtain ⟨i, hi, rfl⟩ := List.getElem_of_mem hp
 have := hf i hi
 unfold ptG at this
 rw [List.getD_eq_getElem?_getD, List.getElem?_eq_getElem hi] at this
 have this : farP l[i] = false := this
 rw [this]; decide
theorem validG_eq (l : List Pnt) : validG l = (decide (3 ≤ l.length ∧ l.length ≤ 64) && !(l.any fun p => farP p)) := by
 unfold validG
 congr 1
 induction l with
 | nil => rfl
 | cons p r ih => rw [List.all_cons, List.any_cons, ih, Bool.not_or]
set_option maxHeartbeats 1000000 in
theorem P_IndexFar (v : Value) (l : List Pnt) (w : World) (h : RSE ptE v l w) (hn : l.length ≤ maxLen) : Calls Try.prog 89 #[v, .func (.func 40) #[] #[]] w fun e w' => ∃ n : Int, e = .returned (.int .i64 n) ∧ decide (0 ≤ n) = (l.any fun p => farP p) ∧ Below w.heap.size w w' := by
 unfold maxLen at hn
 obtain ⟨a, c, rfl, hc⟩ := h.len
 have B := Below.refl w.heap.size w
 have HS := Lib.hid h
 have eg := enters_of Try.func40 (by kernel_rfl) rfl
 clear h
 go_enter Try.func89, Try.ntmps89
 go_wp2
 go_loopw [5, 8] (fun _ i wr => ∃ k : Nat, k ≤ l.length ∧ i = .int .i64 k ∧ (∀ i, i < k → farP (ptG l i) = false) ∧ Below w.heap.size w wr) (fun _ i _ => (l.length - intOf i).toNat)
 case atStart => exact ⟨0, by omega, rfl, fun i hi => absurd hi (by omega), B⟩
 case round =>
  clear B
  obtain ⟨k, hk, rfl, hno, B⟩ := hrel
  have HNO := Lib.hid hno
  clear hno
  by_cases hkl : k < l.length
  ·obtain ⟨g, o, rfl, rc0⟩ := HS.out.at (by omega)
   have rc := rc0.of_eq (B.block _ rc0.lt)
   clear rc0
   obtain ⟨⟨x, y⟩, he⟩ : ∃ e, ptG l k = e := ⟨_, rfl⟩
   have hp := pt_at hkl he
   cases hf : farP (x, y) with
   | false =>
    have HN2 := Lib.hid (show ∀ i, i < k + 1 → farP (ptG l i) = false from fun i hi => by
     by_cases e : i = k
     ·rw [e, he]; exact hf
     ·exact HNO.out i (by omega))
    go_wp2_with (first | (go_at_call 40; refine (P_far x y _).mono ?_; rintro e' wn ⟨rfl, hbn⟩; replace B := B.trans (hbn.mono B.size)) | (refine wpList_loadAny (t := 44) rfl _ rfl _ _ _ rfl (rce_pt rc hp) (by first | rfl | omega) ?_; simp only [putS]) | fail)
    go_roundw
    case rel => exact ⟨k + 1, by omega, by go_num, HN2.out, B⟩
    case measure => simp [intOf]; omega
   | true =>
    have H := Lib.hid (any_yes hkl (by rw [he]; exact hf))
    go_wp2_with (first | (go_at_call 40; refine (P_far x y _).mono ?_; rintro e' wn ⟨rfl, hbn⟩; replace B := B.trans (hbn.mono B.size)) | (refine wpList_loadAny (t := 44) rfl _ rfl _ _ _ rfl (rce_pt rc hp) (by first | rfl | omega) ?_; simp only [putS]) | fail)
    go_ret
    exact ⟨k, rfl, by rw [H.out]; exact decide_eq_true (by omega), B⟩
  ·obtain rfl : k = l.length := by omega
   have H := Lib.hid (any_no HNO.out)
   go_wp2
   go_ret
   exact ⟨-1, rfl, by rw [H.out]; rfl, B⟩
theorem P_ContainsFar (v : Value) (l : List Pnt) (w : World) (h : RSE ptE v l w) (hn : l.length ≤ maxLen) : Calls Try.prog 39 #[v, .func (.func 40) #[] #[]] w fun e w' => e = .returned (.bool (l.any fun p => farP p)) ∧ Below w.heap.size w w' := by
 have B := Below.refl w.heap.size w
 go_enter Try.func39, Try.ntmps39
 go_upto_region 1 with fail
 refine wp_region_lit ?_
 try simp only [gelS]
 refine wpList_chunk 2 (by kernel_rfl) ?_
 simp only [takS, Nat.reduceAdd]
 repeat (first | go_big_quiet_skip | (go_big_quiet_want; go_big_quiet_op; go_big_quiet_on))
 refine wpQuiet_nil ?_
 refine wpList_callF (by first | rfl | simp [Region.wanted, yielded]) rfl (enters_of Try.func89 (by kernel_rfl) rfl) (by simp only [Act.eval, evlS]; rfl) ?_
 refine (P_IndexFar _ l _ h hn).mono ?_
 rintro e wn ⟨n, rfl, hnn, hbn⟩
 have hsz := B.size
 have hzn := hbn.size
 replace B := B.trans (hbn.mono B.size)
 refine ⟨_, rfl, ?_⟩
 simp only [putS]
 refine wpList_chunk 2 (by kernel_rfl) ?_
 simp only [takS, Nat.reduceAdd]
 repeat (first | go_big_quiet_skip | (go_big_quiet_want; go_big_quiet_op; go_big_quiet_on))
 refine wpQuiet_nil ?_
 refine wpList_nil ?_
 iterate 3 go_step
 go_ret
 exact ⟨by rw [← hnn]; try rfl, B⟩
theorem P_ValidG (v : Value) (l : List Pnt) (w : World) (h : RSE ptE v l w) (hn : l.length ≤ maxLen) : Calls Try.prog 13 #[v] w fun e w' => e = .returned (.bool (validG l)) ∧ Below w.heap.size w w' := by
 have B := Below.refl w.heap.size w
 obtain ⟨a, c, rfl, hc⟩ := h.len
 have H := Lib.hid h
 have HV := Lib.hid (validG_eq l)
 clear h
 by_cases h1 : 3 ≤ l.length
 ·have d1 : decide (3 ≤ (l.length : Int)) = true := decide_eq_true (by omega)
  have d1' : decide (3 ≤ l.length) = true := decide_eq_true h1
  by_cases h2 : l.length ≤ 64
  ·have d2 : decide ((l.length : Int) ≤ 64) = true := decide_eq_true (by omega)
   have d2' : decide (l.length ≤ 64) = true := decide_eq_true h2
   have HW := Lib.hid (show validG l = !(l.any fun p => farP p) from by rw [HV.out, decide_eq_true ⟨h1, h2⟩, Bool.true_and])
   go_enter Try.func13, Try.ntmps13
   go_wp2_with (first | (go_at_call 39; refine (P_ContainsFar _ l _ H.out hn).mono ?_; rintro e' wn ⟨rfl, hbn⟩; replace B := B.trans (hbn.mono B.size)) | fail)
   go_ret
   exact ⟨by rw [HW.out]; try rfl, B⟩
  ·have d2 : decide ((l.length : Int) ≤ 64) = false := decide_eq_false (by omega)
   have d2' : decide (l.length ≤ 64) = false := decide_eq_false h2
   have HW := Lib.hid (show validG l = false from by rw [HV.out, decide_eq_false (fun k => h2 k.2), Bool.false_and])
   go_enter Try.func13, Try.ntmps13
   go_wp2_with (first | (go_at_call 39; refine (P_ContainsFar _ l _ H.out hn).mono ?_; rintro e' wn ⟨rfl, hbn⟩; replace B := B.trans (hbn.mono B.size)) | fail)
   go_ret
   exact ⟨by rw [HW.out]; try rfl, B⟩
 ·have d1 : decide (3 ≤ (l.length : Int)) = false := decide_eq_false (by omega)
  have d1' : decide (3 ≤ l.length) = false := decide_eq_false h1
  have HW := Lib.hid (show validG l = false from by rw [HV.out, decide_eq_false (fun k => h1 k.1), Bool.false_and])
  go_enter Try.func13, Try.ntmps13
  go_wp2_with (first | (go_at_call 39; refine (P_ContainsFar _ l _ H.out hn).mono ?_; rintro e' wn ⟨rfl, hbn⟩; replace B := B.trans (hbn.mono B.size)) | fail)
  go_ret
  exact ⟨by rw [HW.out]; try rfl, B⟩
/- Contracts of hull, Bounds of package selection and of its reference. -/
set_option maxHeartbeats 4000000 in
theorem P_hull (v : Value) (l : List Pnt) (w : World) (h : RSE ptE v l w) (hne : 0 < l.length) (hn : l.length ≤ 17592186044416) : Calls Try.prog 46 #[v] w fun e w' => e = .returned (.agg (rcA (hullG l))) ∧ Below w.heap.size w w' := by
 have B := Below.refl w.heap.size w
 obtain ⟨a, c, rfl, hc⟩ := h.len
 obtain ⟨g, o, rfl, pc⟩ := h.at hne
 clear h
 have PC := Lib.hid pc
 have HK := Lib.hid (fun k (hk : k < l.length) => hullK_step hk)
 have HA := Lib.hid (hullK_all (List.length_pos_iff.1 hne))
 obtain ⟨⟨x0, y0⟩, he0⟩ : ∃ e, ptG l 0 = e := ⟨_, rfl⟩
 have hp0 := pt_at hne he0
 have H0 := Lib.hid (show hullK l 0 = ⟨x0, y0, x0, y0⟩ from by show ptR (ptG l 0) = _; rw [he0]; rfl)
 have q0 : decide (0 < l.length) = true := decide_eq_true hne
 clear he0
 go_enter Try.func46, Try.ntmps46
 go_upto_region 0 with fail
 refine wp_region_lit ?_
 try simp only [gelS]
 (refine wpList_allocBk (t := 31) rfl _ (run_alloc_Rc _ _ rfl) ?_; intro b_r2 wn hle hge ht hbn hzn; have hsz := B.size; replace B := B.trans (hbn.mono (by omega)); have hln := Nat.lt_of_lt_of_eq (Nat.lt_succ_self _) hzn.symm; clear hzn; (try have hlt := pc.lt); (try replace pc := pc.below (hbn.mono hle)); have r2 := ht; clear ht; simp only [putS])
 refine wpList_nil ?_
 go_upto_region 1 with fail
 try simp only [gelS]
 try have lx_r2 := r2.lt
 try have lx_pc := pc.lt
 refine wp_region_RL 18 [(17, ptrS (wn.heap.size) 31 #[.int .i64 0, .int .i64 0, .int .i64 0, .int .i64 0])] (by kernel_rfl) (by kernel_rfl) (by kernel_rfl) ?_
 rotate_left 0
 simp only [takS, Nat.reduceAdd]
 refine wpRL_chunk 17 (by kernel_rfl) ?_
 simp only [takS, Nat.reduceAdd]
 repeat (first | go_big_quiet_skip | (go_big_quiet_want; first | (refine quiet_loadAny (t := 3) rfl _ _ _ rfl (fun w hw => rce_ptx (ov_rce pc w hw) hp0) (by first | rfl | omega) ?_; simp only [putS]; go_big_quiet_on) | (refine quiet_loadAny (t := 3) rfl _ _ _ rfl (fun w hw => rce_pty (ov_rce pc w hw) hp0) (by first | rfl | omega) ?_; simp only [putS]; go_big_quiet_on) | (go_big_quiet_op; go_big_quiet_on)))
 refine wpQuiet_nil ?_
 refine wpRL_callB (by rfl) (by first | rfl | simp [Region.wanted, yielded]) ?_ ?_
 ·intro wn hbn hE Kx hKx
  have hsz := B.size
  have hzn := hbn.size
  replace B := B.trans (hbn.mono B.size)
  (try replace r2 := r2.below hbn)
  (try replace pc := pc.below hbn)
  refine owp_allocBk (t := 31) _ (run_alloc_Rc _ _ rfl) ?_
  intro b wm h1 h2 ht hbm hzm
  exact hKx b wm ⟨Nat.le_trans hbn.size h1, ht⟩ (hbm.mono h1)
 rintro b_r3
 dsimp only [detS, ptrS]
 simp only [putS]
 refine wpRL_nil ?_
 intro wn hbn hE
 have hsz := B.size
 have hzn := hbn.size
 replace B := B.trans (hbn.mono B.size)
 (try replace r2 := r2.below hbn)
 (try replace pc := pc.below hbn)
 obtain ⟨hge_r3, r3⟩ : _ ∧ AtB _ _ _ _ := hE 17
 clear hE
 try simp only [List.drop_succ_cons, List.drop_zero]
 go_wp2_with (first | (refine wpList_storeB (t := 31) rfl _ _ rfl _ rfl _ rfl r3 (by kernel_rfl) rfl (by simp [rcA, Value.oneCell']) ?_; clear r3; intro wn ht hcn hzn; have hsz := B.size; replace hzn := Nat.le_of_eq hzn.symm; replace B := Chg.below B hcn (by omega) B.size; (try replace r2 := r2.of_eq (hcn.block _ r2.lt (by omega))); (try replace p5 := p5.of_eq (hcn.block _ p5.lt (by omega))); (try replace pc := pc.of_eq (hcn.block _ pc.lt (by omega))); have r3 := ht; clear ht; simp only [putS]) | fail)
 refine NoPan.normal ?_
 replace r3 : AtB 31 wn b_r3 (rcA (hullK l 0)) := by rw [H0.out]; exact r3
 have k2 := r2.lt
 have k3 := r3.lt
 clear hp0 q0
 go_upto_region 2 with fail
 refine wp_region_lit ?_
 try simp only [gelS]
 refine wpList_chunk 1 (by kernel_rfl) ?_
 simp only [takS, Nat.reduceAdd]
 repeat (first | go_big_quiet_skip | (go_big_quiet_want; go_big_quiet_op; go_big_quiet_on))
 refine wpQuiet_nil ?_
 refine wpList_lenS (by first | rfl | simp [Region.wanted, yielded]) rfl Try.underlying22 rfl ?_
 simp only [putS]
 refine wpList_chunk 1 (by kernel_rfl) ?_
 simp only [takS, Nat.reduceAdd]
 repeat (first | go_big_quiet_skip | (go_big_quiet_want; go_big_quiet_op; go_big_quiet_on))
 refine wpQuiet_nil ?_
 refine wpList_nil ?_
 go_wp2
 go_loopw [5, 25] (fun _ iv wr => ∃ k : Nat, k ≤ l.length ∧ iv = .int .i64 (k : Int) ∧ Below w.heap.size w wr ∧ AtB 31 wr b_r2 #[.int .i64 0, .int .i64 0, .int .i64 0, .int .i64 0] ∧ AtB 31 wr b_r3 (rcA (hullK l k))) (fun _ iv _ => (l.length - intOf iv).toNat)
 case atStart => exact ⟨0, by omega, rfl, B, r2, r3⟩
 case round =>
  clear B r2 r3 k2 k3 pc
  obtain ⟨k, hk, rfl, B, r2, r3⟩ := hrel
  have k2 := r2.lt
  have k3 := r3.lt
  have pc := PC.out.of_eq (B.block _ PC.out.lt)
  by_cases hkl : k < l.length
  ·have q1 : decide ((k : Int) < (l.length : Int)) = true := decide_eq_true (by omega)
   have q2 : decide (k < l.length) = true := decide_eq_true hkl
   obtain ⟨⟨x, y⟩, he⟩ : ∃ e, ptG l k = e := ⟨_, rfl⟩
   have hp := pt_at hkl he
   obtain ⟨⟨x1, y1, x2, y2⟩, hR⟩ : ∃ r, hullK l k = r := ⟨_, rfl⟩
   have HNX := Lib.hid (show hullK l (k + 1) = ⟨min x1 x, min y1 y, max x2 x, max y2 y⟩ from by rw [HK.out k hkl, hR, he]; rfl)
   rw [hR] at r3
   replace r3 : AtB 31 _ b_r3 #[.int .i64 x1, .int .i64 y1, .int .i64 x2, .int .i64 y2] := r3
   clear he hR
   go_upto_region 3 with fail
   refine wp_region_lit ?_
   try simp only [gelS]
   refine wpList_chunk 1 (by kernel_rfl) ?_
   simp only [takS, Nat.reduceAdd]
   repeat (first | go_big_quiet_skip | (go_big_quiet_want; go_big_quiet_op; go_big_quiet_on))
   refine wpQuiet_nil ?_
   refine wpList_nil ?_
   go_upto_region 4 with fail
   refine wp_region_lit ?_
   try simp only [gelS]
   refine wpList_chunk 2 (by kernel_rfl) ?_
   simp only [takS, Nat.reduceAdd]
   repeat (first | go_big_quiet_skip | (go_big_quiet_want; first | (refine quiet_loadAny (t := 44) rfl _ _ _ rfl (fun w hw => rce_pt (ov_rce pc w hw) hp) (by first | rfl | omega) ?_; simp only [putS]; go_big_quiet_on) | (go_big_quiet_op; go_big_quiet_on)))
   refine wpQuiet_nil ?_
   (refine wpList_allocBk (t := 44) rfl _ (run_alloc_Pt _ _ rfl) ?_; intro b_p5 wn hle hge ht hbn hzn; have hsz := B.size; replace B := B.trans (hbn.mono (by omega)); have hln := Nat.lt_of_lt_of_eq (Nat.lt_succ_self _) hzn.symm; clear hzn; (try have hlt := r2.lt); (try replace r2 := r2.below (hbn.mono hle)); (try have hlt := r3.lt); (try replace r3 := r3.below (hbn.mono hle)); (try have hlt := pc.lt); have p5 := ht; clear ht; simp only [putS])
   (refine wpList_storeB (t := 44) rfl _ _ rfl _ rfl _ rfl p5 (by kernel_rfl) rfl (by simp [rcA, Value.oneCell']) ?_; clear p5; intro wn ht hcn hzn; have hsz := B.size; replace hzn := Nat.le_of_eq hzn.symm; replace B := Chg.below B hcn (by omega) B.size; (try replace r2 := r2.of_eq (hcn.block _ r2.lt (by omega))); (try replace r3 := r3.of_eq (hcn.block _ r3.lt (by omega))); have p5 := ht; clear ht; simp only [putS])
   refine wpList_nil ?_
   replace p5 : AtB 44 _ b_p5 #[.int .i64 x, .int .i64 y] := p5
   go_upto_region 5 with fail
   refine wp_region_lit ?_
   try simp only [gelS]
   refine wpList_chunk 4 (by kernel_rfl) ?_
   simp only [takS, Nat.reduceAdd]
   repeat (first | go_big_quiet_skip | (go_big_quiet_want; first | (refine quiet_loadAny (t := 3) rfl _ _ _ rfl (fun w hw => run_load_int ((ov_B r3 w hw).cellL 0 rfl)) (by rfl) ?_; simp only [putS]; go_big_quiet_on) | (refine quiet_loadAny (t := 3) rfl _ _ _ rfl (fun w hw => run_load_int ((ov_B r3 w hw).cellL 1 rfl)) (by rfl) ?_; simp only [putS]; go_big_quiet_on) | (refine quiet_loadAny (t := 3) rfl _ _ _ rfl (fun w hw => run_load_int ((ov_B r3 w hw).cellL 2 rfl)) (by rfl) ?_; simp only [putS]; go_big_quiet_on) | (refine quiet_loadAny (t := 3) rfl _ _ _ rfl (fun w hw => run_load_int ((ov_B r3 w hw).cellL 3 rfl)) (by rfl) ?_; simp only [putS]; go_big_quiet_on) | (refine quiet_loadAny (t := 3) rfl _ _ _ rfl (fun w hw => run_load_int ((ov_B p5 w hw).cellL 0 rfl)) (by rfl) ?_; simp only [putS]; go_big_quiet_on) | (refine quiet_loadAny (t := 3) rfl _ _ _ rfl (fun w hw => run_load_int ((ov_B p5 w hw).cellL 1 rfl)) (by rfl) ?_; simp only [putS]; go_big_quiet_on) | (go_big_quiet_op; go_big_quiet_on)))
   refine wpQuiet_nil ?_
   refine wpList_minI (by first | rfl | simp [Region.wanted, yielded]) rfl rfl Try.underlying3 rfl rfl ?_
   simp only [putS]
   refine wpList_chunk 4 (by kernel_rfl) ?_
   simp only [takS, Nat.reduceAdd]
   repeat (first | go_big_quiet_skip | (go_big_quiet_want; first | (refine quiet_loadAny (t := 3) rfl _ _ _ rfl (fun w hw => run_load_int ((ov_B r3 w hw).cellL 0 rfl)) (by rfl) ?_; simp only [putS]; go_big_quiet_on) | (refine quiet_loadAny (t := 3) rfl _ _ _ rfl (fun w hw => run_load_int ((ov_B r3 w hw).cellL 1 rfl)) (by rfl) ?_; simp only [putS]; go_big_quiet_on) | (refine quiet_loadAny (t := 3) rfl _ _ _ rfl (fun w hw => run_load_int ((ov_B r3 w hw).cellL 2 rfl)) (by rfl) ?_; simp only [putS]; go_big_quiet_on) | (refine quiet_loadAny (t := 3) rfl _ _ _ rfl (fun w hw => run_load_int ((ov_B r3 w hw).cellL 3 rfl)) (by rfl) ?_; simp only [putS]; go_big_quiet_on) | (refine quiet_loadAny (t := 3) rfl _ _ _ rfl (fun w hw => run_load_int ((ov_B p5 w hw).cellL 0 rfl)) (by rfl) ?_; simp only [putS]; go_big_quiet_on) | (refine quiet_loadAny (t := 3) rfl _ _ _ rfl (fun w hw => run_load_int ((ov_B p5 w hw).cellL 1 rfl)) (by rfl) ?_; simp only [putS]; go_big_quiet_on) | (go_big_quiet_op; go_big_quiet_on)))
   refine wpQuiet_nil ?_
   refine wpList_minI (by first | rfl | simp [Region.wanted, yielded]) rfl rfl Try.underlying3 rfl rfl ?_
   simp only [putS]
   refine wpList_chunk 4 (by kernel_rfl) ?_
   simp only [takS, Nat.reduceAdd]
   repeat (first | go_big_quiet_skip | (go_big_quiet_want; first | (refine quiet_loadAny (t := 3) rfl _ _ _ rfl (fun w hw => run_load_int ((ov_B r3 w hw).cellL 0 rfl)) (by rfl) ?_; simp only [putS]; go_big_quiet_on) | (refine quiet_loadAny (t := 3) rfl _ _ _ rfl (fun w hw => run_load_int ((ov_B r3 w hw).cellL 1 rfl)) (by rfl) ?_; simp only [putS]; go_big_quiet_on) | (refine quiet_loadAny (t := 3) rfl _ _ _ rfl (fun w hw => run_load_int ((ov_B r3 w hw).cellL 2 rfl)) (by rfl) ?_; simp only [putS]; go_big_quiet_on) | (refine quiet_loadAny (t := 3) rfl _ _ _ rfl (fun w hw => run_load_int ((ov_B r3 w hw).cellL 3 rfl)) (by rfl) ?_; simp only [putS]; go_big_quiet_on) | (refine quiet_loadAny (t := 3) rfl _ _ _ rfl (fun w hw => run_load_int ((ov_B p5 w hw).cellL 0 rfl)) (by rfl) ?_; simp only [putS]; go_big_quiet_on) | (refine quiet_loadAny (t := 3) rfl _ _ _ rfl (fun w hw => run_load_int ((ov_B p5 w hw).cellL 1 rfl)) (by rfl) ?_; simp only [putS]; go_big_quiet_on) | (go_big_quiet_op; go_big_quiet_on)))
   refine wpQuiet_nil ?_
   refine wpList_maxI (by first | rfl | simp [Region.wanted, yielded]) rfl rfl Try.underlying3 rfl rfl ?_
   simp only [putS]
   refine wpList_chunk 4 (by kernel_rfl) ?_
   simp only [takS, Nat.reduceAdd]
   repeat (first | go_big_quiet_skip | (go_big_quiet_want; first | (refine quiet_loadAny (t := 3) rfl _ _ _ rfl (fun w hw => run_load_int ((ov_B r3 w hw).cellL 0 rfl)) (by rfl) ?_; simp only [putS]; go_big_quiet_on) | (refine quiet_loadAny (t := 3) rfl _ _ _ rfl (fun w hw => run_load_int ((ov_B r3 w hw).cellL 1 rfl)) (by rfl) ?_; simp only [putS]; go_big_quiet_on) | (refine quiet_loadAny (t := 3) rfl _ _ _ rfl (fun w hw => run_load_int ((ov_B r3 w hw).cellL 2 rfl)) (by rfl) ?_; simp only [putS]; go_big_quiet_on) | (refine quiet_loadAny (t := 3) rfl _ _ _ rfl (fun w hw => run_load_int ((ov_B r3 w hw).cellL 3 rfl)) (by rfl) ?_; simp only [putS]; go_big_quiet_on) | (refine quiet_loadAny (t := 3) rfl _ _ _ rfl (fun w hw => run_load_int ((ov_B p5 w hw).cellL 0 rfl)) (by rfl) ?_; simp only [putS]; go_big_quiet_on) | (refine quiet_loadAny (t := 3) rfl _ _ _ rfl (fun w hw => run_load_int ((ov_B p5 w hw).cellL 1 rfl)) (by rfl) ?_; simp only [putS]; go_big_quiet_on) | (go_big_quiet_op; go_big_quiet_on)))
   refine wpQuiet_nil ?_
   refine wpList_maxI (by first | rfl | simp [Region.wanted, yielded]) rfl rfl Try.underlying3 rfl rfl ?_
   simp only [putS]
   refine wpList_chunk 1 (by kernel_rfl) ?_
   simp only [takS, Nat.reduceAdd]
   repeat (first | go_big_quiet_skip | (go_big_quiet_want; go_big_quiet_op; go_big_quiet_on))
   refine wpQuiet_nil ?_
   (refine wpList_storeB (t := 31) rfl _ _ rfl _ rfl _ rfl r3 (by kernel_rfl) rfl (by simp [rcA, Value.oneCell']) ?_; clear r3; intro wn ht hcn hzn; have hsz := B.size; replace hzn := Nat.le_of_eq hzn.symm; replace B := Chg.below B hcn (by omega) B.size; (try replace r2 := r2.of_eq (hcn.block _ r2.lt (by omega))); have r3 := ht; clear ht; simp only [putS])
   refine wpList_nil ?_
   go_wp2
   go_roundw
   case rel => exact ⟨k + 1, by omega, by go_num, B, r2, by rw [HNX.out]; exact r3⟩
   case measure => simp [intOf]; omega
  ·obtain rfl : k = l.length := by omega
   have q1 : decide (((l.length : Nat) : Int) < (l.length : Int)) = false := decide_eq_false (by omega)
   have q2 : decide (l.length < l.length) = false := decide_eq_false (by omega)
   rw [HA.out] at r3
   go_upto_region 3 with fail
   refine wp_region_lit ?_
   try simp only [gelS]
   refine wpList_chunk 1 (by kernel_rfl) ?_
   simp only [takS, Nat.reduceAdd]
   repeat (first | go_big_quiet_skip | (go_big_quiet_want; go_big_quiet_op; go_big_quiet_on))
   refine wpQuiet_nil ?_
   refine wpList_nil ?_
   go_upto_region 7 with fail
   refine wp_region_lit ?_
   try simp only [gelS]
   refine wpList_chunk 1 (by kernel_rfl) ?_
   simp only [takS, Nat.reduceAdd]
   repeat (first | go_big_quiet_skip | (go_big_quiet_want; first | (refine quiet_loadAny (t := 31) rfl _ _ _ rfl (fun w hw => run_load_B (ov_B r3 w hw) Try.isAgg31 (by kernel_rfl)) (by rfl) ?_; simp only [putS]; go_big_quiet_on) | (go_big_quiet_op; go_big_quiet_on)))
   refine wpQuiet_nil ?_
   (refine wpList_storeB (t := 31) rfl _ _ rfl _ rfl _ rfl r2 (by kernel_rfl) rfl (by simp [rcA, Value.oneCell']) ?_; clear r2; intro wn ht hcn hzn; have hsz := B.size; replace hzn := Nat.le_of_eq hzn.symm; replace B := Chg.below B hcn (by omega) B.size; have r2 := ht; clear ht; simp only [putS])
   refine wpList_nil ?_
   go_wp2
   refine bodyPost_ret (results_B (t := 31) rfl _ _ (b_r2) rfl r2 Try.isAgg31 (by kernel_rfl)) rfl ?_
   exact ⟨rfl, B⟩
theorem P_InterO (r s : Rc) (q : Rc) (w : World) (e : interR r s = q) : Calls Try.prog 45 #[.agg (rcA r), .agg (rcA s)] w fun e w' => e = .returned (.agg (rcA q)) ∧ Below w.heap.size w w' := e ▸ P_Intersect r s w
theorem inter_self (r : Rc) : interR r r = normR r := by
 unfold interR
 congr 1
 obtain ⟨a, b, c, d⟩ := r
 simp
theorem P_ValidO (v : Value) (l : List Pnt) (b : Bool) (w : World) (h : RSE ptE v l w) (hn : l.length ≤ maxLen) (e : validG l = b) : Calls Try.prog 13 #[v] w fun e w' => e = .returned (.bool b) ∧ Below w.heap.size w w' := e ▸ P_ValidG v l w h hn
theorem run_build_Rc0 (w : World) : (Instr.build 31 #[]).run Try.prog w = .ok (.agg (rcA Rc.zero)) w := by kernel_rfl
theorem quiet_buildRc0 {o : Oper} {a : Act} {C : World → Prop} {K : Act → Prop} (h : o.op = .build 31 #[]) (hk : K (a.put o.dst (.agg (rcA Rc.zero)))) : o.quiet Try.prog a C K :=
 ⟨_, fun w hw => by
  unfold Oper.quietAt execOp
  simp only [h, List.map_toArray, List.map_nil, Sem.run_bind, run_build_Rc0, Result.andThen_ok, Sem.run_pure]
  exact ⟨rfl, rfl⟩, hk⟩
set_option maxHeartbeats 4000000 in
theorem P_BoundG (v : Value) (l : List Pnt) (w : World) (h : RSE ptE v l w) (hn : l.length ≤ maxLen) : Calls Try.prog 17 #[v] w fun e w' => e = .returned (.agg (rcA (boundG l))) ∧ Below w.heap.size w w' := by
 have B := Below.refl w.heap.size w
 have HS := Lib.hid h
 clear h
 cases hv : validG l with
 | true =>
  have HV := Lib.hid hv
  have e1 : boundG l = normR (hullG l) := by unfold boundG; rw [if_pos hv]
  have hl := (validG_iff.1 hv).1
  rw [e1]
  clear hv e1
  go_enter Try.func17, Try.ntmps17
  go_upto_region 0 with fail
  refine wp_region_lit ?_
  try simp only [gelS]
  (refine wpList_allocBk (t := 31) rfl _ (run_alloc_Rc _ _ rfl) ?_; intro b_r2 wn hle hge ht hbn hzn; have hsz := B.size; replace B := B.trans (hbn.mono (by omega)); have hln := Nat.lt_of_lt_of_eq (Nat.lt_succ_self _) hzn.symm; clear hzn; have r2 := ht; clear ht; simp only [putS])
  refine wpList_nil ?_
  go_upto_region 1 with fail
  refine wp_region_lit ?_
  try simp only [gelS]
  refine wpList_chunk 1 (by kernel_rfl) ?_
  simp only [takS, Nat.reduceAdd]
  repeat (first | go_big_quiet_skip | (go_big_quiet_want; go_big_quiet_op; go_big_quiet_on))
  refine wpQuiet_nil ?_
  refine wpList_callF (by first | rfl | simp [Region.wanted, yielded]) rfl (enters_of Try.func13 (by kernel_rfl) rfl) (by simp only [Act.eval, evlS]; rfl) ?_
  refine (P_ValidO _ l true _ (HS.out.below B) hn HV.out).mono ?_
  rintro e wn ⟨rfl, hbn⟩
  have hsz := B.size
  have hzn := hbn.size
  replace B := B.trans (hbn.mono B.size)
  (try replace r2 := r2.below hbn)
  refine ⟨_, rfl, ?_⟩
  simp only [putS]
  refine wpList_chunk 1 (by kernel_rfl) ?_
  simp only [takS, Nat.reduceAdd]
  repeat (first | go_big_quiet_skip | (go_big_quiet_want; go_big_quiet_op; go_big_quiet_on))
  refine wpQuiet_nil ?_
  refine wpList_nil ?_
  go_upto_region 3 with fail
  refine wp_region_lit ?_
  try simp only [gelS]
  refine wpList_chunk 1 (by kernel_rfl) ?_
  simp only [takS, Nat.reduceAdd]
  repeat (first | go_big_quiet_skip | (go_big_quiet_want; go_big_quiet_op; go_big_quiet_on))
  refine wpQuiet_nil ?_
  refine wpList_callF (by first | rfl | simp [Region.wanted, yielded]) rfl (enters_of Try.func46 (by kernel_rfl) rfl) (by simp only [Act.eval, evlS]; rfl) ?_
  refine (P_hull _ l _ (HS.out.below B) (by omega) (by omega)).mono ?_
  rintro e wn ⟨rfl, hbn⟩
  have hsz := B.size
  have hzn := hbn.size
  replace B := B.trans (hbn.mono B.size)
  (try replace r2 := r2.below hbn)
  refine ⟨_, rfl, ?_⟩
  simp only [putS]
  refine wpList_chunk 1 (by kernel_rfl) ?_
  simp only [takS, Nat.reduceAdd]
  repeat (first | go_big_quiet_skip | (go_big_quiet_want; go_big_quiet_op; go_big_quiet_on))
  refine wpQuiet_nil ?_
  refine wpList_callF (by first | rfl | simp [Region.wanted, yielded]) rfl (enters_of Try.func46 (by kernel_rfl) rfl) (by simp only [Act.eval, evlS]; rfl) ?_
  refine (P_hull _ l _ (HS.out.below B) (by omega) (by omega)).mono ?_
  rintro e wn ⟨rfl, hbn⟩
  have hsz := B.size
  have hzn := hbn.size
  replace B := B.trans (hbn.mono B.size)
  (try replace r2 := r2.below hbn)
  refine ⟨_, rfl, ?_⟩
  simp only [putS]
  refine wpList_callF (by first | rfl | simp [Region.wanted, yielded]) rfl (enters_of Try.func45 (by kernel_rfl) rfl) (by simp only [Act.eval, evlS]; rfl) ?_
  refine (P_InterO _ _ _ _ (inter_self (hullG l))).mono ?_
  rintro e wn ⟨rfl, hbn⟩
  have hsz := B.size
  have hzn := hbn.size
  replace B := B.trans (hbn.mono B.size)
  (try replace r2 := r2.below hbn)
  refine ⟨_, rfl, ?_⟩
  simp only [putS]
  (refine wpList_storeB (t := 31) rfl _ _ rfl _ rfl _ rfl r2 (by kernel_rfl) rfl (by simp [rcA, Value.oneCell']) ?_; clear r2; intro wn ht hcn hzn; have hsz := B.size; replace hzn := Nat.le_of_eq hzn.symm; replace B := Chg.below B hcn (by omega) B.size; have r2 := ht; clear ht; simp only [putS])
  refine wpList_nil ?_
  go_wp2
  refine bodyPost_ret (results_B (t := 31) rfl _ _ (b_r2) rfl r2 Try.isAgg31 (by kernel_rfl)) rfl ?_
  exact ⟨rfl, B⟩
 | false =>
  have HV := Lib.hid hv
  have e1 : boundG l = Rc.zero := by unfold boundG; rw [hv]; rfl
  rw [e1]
  clear hv e1
  go_enter Try.func17, Try.ntmps17
  go_upto_region 0 with fail
  refine wp_region_lit ?_
  try simp only [gelS]
  (refine wpList_allocBk (t := 31) rfl _ (run_alloc_Rc _ _ rfl) ?_; intro b_r2 wn hle hge ht hbn hzn; have hsz := B.size; replace B := B.trans (hbn.mono (by omega)); have hln := Nat.lt_of_lt_of_eq (Nat.lt_succ_self _) hzn.symm; clear hzn; (try have hlt := r2.lt); (try replace r2 := r2.below (hbn.mono hle)); have r2 := ht; clear ht; simp only [putS])
  refine wpList_nil ?_
  go_upto_region 1 with fail
  refine wp_region_lit ?_
  try simp only [gelS]
  refine wpList_chunk 1 (by kernel_rfl) ?_
  simp only [takS, Nat.reduceAdd]
  repeat (first | go_big_quiet_skip | (go_big_quiet_want; go_big_quiet_op; go_big_quiet_on))
  refine wpQuiet_nil ?_
  refine wpList_callF (by first | rfl | simp [Region.wanted, yielded]) rfl (enters_of Try.func13 (by kernel_rfl) rfl) (by simp only [Act.eval, evlS]; rfl) ?_
  refine (P_ValidO _ l false _ (HS.out.below B) hn HV.out).mono ?_
  rintro e wn ⟨rfl, hbn⟩
  have hsz := B.size
  have hzn := hbn.size
  replace B := B.trans (hbn.mono B.size)
  (try replace r2 := r2.below hbn)
  refine ⟨_, rfl, ?_⟩
  simp only [putS]
  refine wpList_chunk 1 (by kernel_rfl) ?_
  simp only [takS, Nat.reduceAdd]
  repeat (first | go_big_quiet_skip | (go_big_quiet_want; go_big_quiet_op; go_big_quiet_on))
  refine wpQuiet_nil ?_
  refine wpList_nil ?_
  go_upto_region 2 with fail
  refine wp_region_lit ?_
  try simp only [gelS]
  refine wpList_chunk 1 (by kernel_rfl) ?_
  simp only [takS, Nat.reduceAdd]
  repeat (first | go_big_quiet_skip | (go_big_quiet_want; first | (refine quiet_buildRc0 rfl ?_; simp only [putS]; go_big_quiet_on) | (go_big_quiet_op; go_big_quiet_on)))
  refine wpQuiet_nil ?_
  (refine wpList_storeB (t := 31) rfl _ _ rfl _ rfl _ rfl r2 (by kernel_rfl) rfl (by simp [rcA, Value.oneCell']) ?_; clear r2; intro wn ht hcn hzn; have hsz := B.size; replace hzn := Nat.le_of_eq hzn.symm; replace B := Chg.below B hcn (by omega) B.size; have r2 := ht; clear ht; simp only [putS])
  refine wpList_nil ?_
  go_wp2
  refine bodyPost_ret (results_B (t := 31) rfl _ _ (b_r2) rfl r2 Try.isAgg31 (by kernel_rfl)) rfl ?_
  exact ⟨rfl, B⟩
/- Contracts of odd, cover, Cover of package selection and of its reference; of Path. -/
theorem P_crossesO (ax ay bx bv u v : Int) (b : Bool) (h1 : -600000 ≤ ax ∧ ax ≤ 600000) (h2 : -600000 ≤ ay ∧ ay ≤ 600000) (h3 : -600000 ≤ bx ∧ bx ≤ 600000) (h4 : -600000 ≤ bv ∧ bv ≤ 600000) (h5 : -600000 ≤ u ∧ u ≤ 600000) (h6 : -600000 ≤ v ∧ v ≤ 600000) (w : World) (e : crs (ax, ay) (bx, bv) u v = b) : Calls Try.prog 113 #[.agg #[.int .i64 ax, .int .i64 ay], .agg #[.int .i64 bx, .int .i64 bv], .int .i64 u, .int .i64 v] w fun e w' => e = .returned (.bool b) ∧ Below w.heap.size w w' := e ▸ P_crosses ax ay bx bv u v h1 h2 h3 h4 h5 h6 w
theorem parK_step {f : Nat → Bool} {k : Nat} {b c : Bool} (h : parK f k = c) (hf : f k = b) : parK f (k + 1) = if b = true then !c else c := by
 show Bool.xor (parK f k) (f k) = _
 rw [h, hf]
 cases b <;> cases c <;> rfl
set_option maxHeartbeats 8000000 in
theorem P_odd (v : Value) (l : List Pnt) (u vv : Int) (w : World) (h : RSE ptE v l w) (hn : l.length ≤ 17592186044416) (hnear : nearL l) (hu : -600000 ≤ u ∧ u ≤ 600000) (hv : -600000 ≤ vv ∧ vv ≤ 600000) : Calls Try.prog 82 #[v, .int .i64 u, .int .i64 vv] w fun e w' => e = .returned (.bool (oddG l u vv)) ∧ Below w.heap.size w w' := by
 have B := Below.refl w.heap.size w
 obtain ⟨a, c, rfl, hc⟩ := h.len
 have HS := Lib.hid h
 have HN := Lib.hid hnear
 have hu1 := hu
 have hv1 := hv
 clear h hnear hu hv
 go_enter Try.func82, Try.ntmps82
 go_upto_region 2 with fail
 refine wp_region_lit ?_
 try simp only [gelS]
 refine wpList_chunk 1 (by kernel_rfl) ?_
 simp only [takS, Nat.reduceAdd]
 repeat (first | go_big_quiet_skip | (go_big_quiet_want; go_big_quiet_op; go_big_quiet_on))
 refine wpQuiet_nil ?_
 refine wpList_lenS (by first | rfl | simp [Region.wanted, yielded]) rfl Try.underlying22 rfl ?_
 simp only [putS]
 refine wpList_chunk 1 (by kernel_rfl) ?_
 simp only [takS, Nat.reduceAdd]
 repeat (first | go_big_quiet_skip | (go_big_quiet_want; go_big_quiet_op; go_big_quiet_on))
 refine wpQuiet_nil ?_
 refine wpList_nil ?_
 go_wp2
 go_loopw [7, 8, 9, 10, 13] (fun iv _ _ _ kv wr => ∃ k : Nat, k ≤ l.length ∧ kv = .int .i64 (k : Int) ∧ iv = .bool (parK (edgeB l u vv) k) ∧ Below w.heap.size w wr) (fun iv _ _ _ kv _ => (l.length - intOf kv).toNat)
 case atStart => exact ⟨0, by omega, rfl, rfl, B⟩
 case round =>
  clear B
  obtain ⟨k, hk, rfl, rfl, B⟩ := hrel
  by_cases hkl : k < l.length
  ·have q1 : decide ((k : Int) < (l.length : Int)) = true := decide_eq_true (by omega)
   have q2 : decide (k < l.length) = true := decide_eq_true hkl
   obtain ⟨g, o, rfl, rc0⟩ := HS.out.at (by omega)
   have pc := rc0.of_eq (B.block _ rc0.lt)
   clear rc0
   obtain ⟨j, hj⟩ : ∃ j, (k + 1) % l.length = j := ⟨_, rfl⟩
   have hjl : j < l.length := by rw [← hj]; exact Nat.mod_lt _ (by omega)
   have hm : ((k : Int) + 1) % (l.length : Int) = (j : Int) := by rw [← hj, Int.natCast_emod]; rfl
   have hmt : Int.tmod ((k : Int) + 1) (l.length : Int) = (j : Int) := by rw [Int.tmod_eq_emod_of_nonneg (by omega), hm]
   have hn0 : (l.length : Int) ≠ 0 := by omega
   have q3 : decide (j < l.length) = true := decide_eq_true hjl
   obtain ⟨⟨x, y⟩, he⟩ : ∃ e, ptG l k = e := ⟨_, rfl⟩
   obtain ⟨⟨x2, y2⟩, he2⟩ : ∃ e, ptG l j = e := ⟨_, rfl⟩
   have hp := pt_at hkl he
   have hp2 := pt_at hjl he2
   obtain ⟨b1, b2, b3, b4⟩ := farP_no.1 (HN.out _ (ptG_mem hkl))
   obtain ⟨b5, b6, b7, b8⟩ := farP_no.1 (HN.out _ (ptG_mem hjl))
   rw [he] at b1 b2 b3 b4
   rw [he2] at b5 b6 b7 b8
   dsimp only at b1 b2 b3 b4 b5 b6 b7 b8
   have HEB := Lib.hid (show edgeB l u vv k = crs (8 * x, 8 * y) (8 * x2, 8 * y2) u vv from by unfold edgeB; rw [hj, he, he2]; rfl)
   clear hj he he2
   obtain ⟨P0, hP0⟩ : ∃ b, parK (edgeB l u vv) k = b := ⟨_, rfl⟩
   rw [hP0]
   have HP0 := Lib.hid hP0
   clear hP0
   cases hcr : crs (8 * x, 8 * y) (8 * x2, 8 * y2) u vv with
   | true =>
    have HC := Lib.hid hcr
    have HST := Lib.hid (parK_step HP0.out (HEB.out.trans hcr))
    clear hcr
    go_upto_region 3 with fail
    refine wp_region_lit ?_
    try simp only [gelS]
    refine wpList_chunk 1 (by kernel_rfl) ?_
    simp only [takS, Nat.reduceAdd]
    repeat (first | go_big_quiet_skip | (go_big_quiet_want; go_big_quiet_op; go_big_quiet_on))
    refine wpQuiet_nil ?_
    refine wpList_nil ?_
    go_upto_region 4 with fail
    refine wp_region_lit ?_
    try simp only [gelS]
    refine wpList_chunk 3 (by kernel_rfl) ?_
    simp only [takS, Nat.reduceAdd]
    repeat (first | go_big_quiet_skip | (go_big_quiet_want; first | (refine quiet_loadAny (t := 44) rfl _ _ _ rfl (fun w hw => rce_pt (ov_rce pc w hw) hp) (by first | rfl | omega) ?_; simp only [putS]; go_big_quiet_on) | (go_big_quiet_op; go_big_quiet_on)))
    refine wpQuiet_nil ?_
    (refine wpList_allocBk (t := 44) rfl _ (run_alloc_Pt _ _ rfl) ?_; intro b_p9 wn hle hge ht hbn hzn; have hsz := B.size; replace B := B.trans (hbn.mono (by omega)); have hln := Nat.lt_of_lt_of_eq (Nat.lt_succ_self _) hzn.symm; clear hzn; (try have hlt := pc.lt); (try replace pc := pc.below (hbn.mono hle)); have p9 := ht; clear ht; simp only [putS])
    refine wpList_chunk 1 (by kernel_rfl) ?_
    simp only [takS, Nat.reduceAdd]
    repeat (first | go_big_quiet_skip | (go_big_quiet_want; go_big_quiet_op; go_big_quiet_on))
    refine wpQuiet_nil ?_
    (refine wpList_storeB (t := 44) rfl _ _ rfl _ rfl _ rfl p9 (by kernel_rfl) rfl (by simp [Value.oneCell']) ?_; clear p9; intro wn ht hcn hzn; have hsz := B.size; replace hzn := Nat.le_of_eq hzn.symm; replace B := Chg.below B hcn (by omega) B.size; (try replace pc := pc.of_eq (hcn.block _ pc.lt (by omega))); have p9 := ht; clear ht; simp only [putS])
    refine wpList_nil ?_
    replace p9 : AtB 44 _ b_p9 #[.int .i64 x, .int .i64 y] := p9
    go_upto_region 5 with fail
    refine wp_region_lit ?_
    try simp only [gelS]
    refine wpList_chunk 4 (by kernel_rfl) ?_
    simp only [takS, Nat.reduceAdd]
    repeat (first | go_big_quiet_skip | (go_big_quiet_want; go_big_quiet_op; go_big_quiet_on))
    refine wpQuiet_nil ?_
    refine wpList_lenS (by first | rfl | simp [Region.wanted, yielded]) rfl Try.underlying22 rfl ?_
    simp only [putS]
    refine wpList_chunk 3 (by kernel_rfl) ?_
    simp only [takS, Nat.reduceAdd]
    repeat (first | go_big_quiet_skip | (go_big_quiet_want; first | (refine quiet_loadAny (t := 44) rfl _ _ _ rfl (fun w hw => rce_pt (ov_rce pc w hw) hp2) (by first | rfl | omega) ?_; simp only [putS]; go_big_quiet_on) | (go_big_quiet_op; go_big_quiet_on)))
    refine wpQuiet_nil ?_
    (refine wpList_allocBk (t := 44) rfl _ (run_alloc_Pt _ _ rfl) ?_; intro b_p10 wn hle hge ht hbn hzn; have hsz := B.size; replace B := B.trans (hbn.mono (by omega)); have hln := Nat.lt_of_lt_of_eq (Nat.lt_succ_self _) hzn.symm; clear hzn; (try have hlt := p9.lt); (try replace p9 := p9.below (hbn.mono hle)); (try have hlt := pc.lt); (try replace pc := pc.below (hbn.mono hle)); have p10 := ht; clear ht; simp only [putS])
    (refine wpList_storeB (t := 44) rfl _ _ rfl _ rfl _ rfl p10 (by kernel_rfl) rfl (by simp [Value.oneCell']) ?_; clear p10; intro wn ht hcn hzn; have hsz := B.size; replace hzn := Nat.le_of_eq hzn.symm; replace B := Chg.below B hcn (by omega) B.size; (try replace p9 := p9.of_eq (hcn.block _ p9.lt (by omega))); (try replace pc := pc.of_eq (hcn.block _ pc.lt (by omega))); have p10 := ht; clear ht; simp only [putS])
    refine wpList_nil ?_
    replace p10 : AtB 44 _ b_p10 #[.int .i64 x2, .int .i64 y2] := p10
    go_upto_region 6 with fail
    refine wp_region_lit ?_
    try simp only [gelS]
    refine wpList_chunk 16 (by kernel_rfl) ?_
    simp only [takS, Nat.reduceAdd]
    repeat (first | go_big_quiet_skip | (go_big_quiet_want; first | (refine quiet_loadAny (t := 3) rfl _ _ _ rfl (fun w hw => run_load_int ((ov_B p9 w hw).cellL 0 rfl)) (by rfl) ?_; simp only [putS]; go_big_quiet_on) | (refine quiet_loadAny (t := 3) rfl _ _ _ rfl (fun w hw => run_load_int ((ov_B p9 w hw).cellL 1 rfl)) (by rfl) ?_; simp only [putS]; go_big_quiet_on) | (refine quiet_loadAny (t := 3) rfl _ _ _ rfl (fun w hw => run_load_int ((ov_B p10 w hw).cellL 0 rfl)) (by rfl) ?_; simp only [putS]; go_big_quiet_on) | (refine quiet_loadAny (t := 3) rfl _ _ _ rfl (fun w hw => run_load_int ((ov_B p10 w hw).cellL 1 rfl)) (by rfl) ?_; simp only [putS]; go_big_quiet_on) | (go_big_quiet_op; go_big_quiet_on)))
    refine wpQuiet_nil ?_
    refine wpList_callF (by first | rfl | simp [Region.wanted, yielded]) rfl (enters_of Try.func113 (by kernel_rfl) rfl) (by simp only [Act.eval, evlS]; rfl) ?_
    refine (P_crossesO (8 * x) (8 * y) (8 * x2) (8 * y2) u vv true (by omega) (by omega) (by omega) (by omega) hu1 hv1 _ HC.out).mono ?_
    rintro e wn ⟨rfl, hbn⟩
    have hsz := B.size
    have hzn := hbn.size
    replace B := B.trans (hbn.mono B.size)
    (try replace p9 := p9.below hbn)
    (try replace p10 := p10.below hbn)
    (try replace pc := pc.below hbn)
    refine ⟨_, rfl, ?_⟩
    simp only [putS]
    refine wpList_nil ?_
    go_wp2
    go_roundw
    case rel => exact ⟨k + 1, by omega, by go_num, by rw [HST.out]; try rfl, B⟩
    case measure => simp [intOf]; omega
   | false =>
    have HC := Lib.hid hcr
    have HST := Lib.hid (parK_step HP0.out (HEB.out.trans hcr))
    clear hcr
    go_upto_region 3 with fail
    refine wp_region_lit ?_
    try simp only [gelS]
    refine wpList_chunk 1 (by kernel_rfl) ?_
    simp only [takS, Nat.reduceAdd]
    repeat (first | go_big_quiet_skip | (go_big_quiet_want; go_big_quiet_op; go_big_quiet_on))
    refine wpQuiet_nil ?_
    refine wpList_nil ?_
    go_upto_region 4 with fail
    refine wp_region_lit ?_
    try simp only [gelS]
    refine wpList_chunk 3 (by kernel_rfl) ?_
    simp only [takS, Nat.reduceAdd]
    repeat (first | go_big_quiet_skip | (go_big_quiet_want; first | (refine quiet_loadAny (t := 44) rfl _ _ _ rfl (fun w hw => rce_pt (ov_rce pc w hw) hp) (by first | rfl | omega) ?_; simp only [putS]; go_big_quiet_on) | (go_big_quiet_op; go_big_quiet_on)))
    refine wpQuiet_nil ?_
    (refine wpList_allocBk (t := 44) rfl _ (run_alloc_Pt _ _ rfl) ?_; intro b_p9 wn hle hge ht hbn hzn; have hsz := B.size; replace B := B.trans (hbn.mono (by omega)); have hln := Nat.lt_of_lt_of_eq (Nat.lt_succ_self _) hzn.symm; clear hzn; (try have hlt := p9.lt); (try replace p9 := p9.below (hbn.mono hle)); (try have hlt := p10.lt); (try replace p10 := p10.below (hbn.mono hle)); (try have hlt := pc.lt); (try replace pc := pc.below (hbn.mono hle)); have p9 := ht; clear ht; simp only [putS])
    refine wpList_chunk 1 (by kernel_rfl) ?_
    simp only [takS, Nat.reduceAdd]
    repeat (first | go_big_quiet_skip | (go_big_quiet_want; go_big_quiet_op; go_big_quiet_on))
    refine wpQuiet_nil ?_
    (refine wpList_storeB (t := 44) rfl _ _ rfl _ rfl _ rfl p9 (by kernel_rfl) rfl (by simp [Value.oneCell']) ?_; clear p9; intro wn ht hcn hzn; have hsz := B.size; replace hzn := Nat.le_of_eq hzn.symm; replace B := Chg.below B hcn (by omega) B.size; (try replace p10 := p10.of_eq (hcn.block _ p10.lt (by omega))); (try replace pc := pc.of_eq (hcn.block _ pc.lt (by omega))); have p9 := ht; clear ht; simp only [putS])
    refine wpList_nil ?_
    replace p9 : AtB 44 _ b_p9 #[.int .i64 x, .int .i64 y] := p9
    go_upto_region 5 with fail
    refine wp_region_lit ?_
    try simp only [gelS]
    refine wpList_chunk 4 (by kernel_rfl) ?_
    simp only [takS, Nat.reduceAdd]
    repeat (first | go_big_quiet_skip | (go_big_quiet_want; go_big_quiet_op; go_big_quiet_on))
    refine wpQuiet_nil ?_
    refine wpList_lenS (by first | rfl | simp [Region.wanted, yielded]) rfl Try.underlying22 rfl ?_
    simp only [putS]
    refine wpList_chunk 3 (by kernel_rfl) ?_
    simp only [takS, Nat.reduceAdd]
    repeat (first | go_big_quiet_skip | (go_big_quiet_want; first | (refine quiet_loadAny (t := 44) rfl _ _ _ rfl (fun w hw => rce_pt (ov_rce pc w hw) hp2) (by first | rfl | omega) ?_; simp only [putS]; go_big_quiet_on) | (go_big_quiet_op; go_big_quiet_on)))
    refine wpQuiet_nil ?_
    (refine wpList_allocBk (t := 44) rfl _ (run_alloc_Pt _ _ rfl) ?_; intro b_p10 wn hle hge ht hbn hzn; have hsz := B.size; replace B := B.trans (hbn.mono (by omega)); have hln := Nat.lt_of_lt_of_eq (Nat.lt_succ_self _) hzn.symm; clear hzn; (try have hlt := p9.lt); (try replace p9 := p9.below (hbn.mono hle)); (try have hlt := p10.lt); (try replace p10 := p10.below (hbn.mono hle)); (try have hlt := pc.lt); have p10 := ht; clear ht; simp only [putS])
    (refine wpList_storeB (t := 44) rfl _ _ rfl _ rfl _ rfl p10 (by kernel_rfl) rfl (by simp [Value.oneCell']) ?_; clear p10; intro wn ht hcn hzn; have hsz := B.size; replace hzn := Nat.le_of_eq hzn.symm; replace B := Chg.below B hcn (by omega) B.size; (try replace p9 := p9.of_eq (hcn.block _ p9.lt (by omega))); have p10 := ht; clear ht; simp only [putS])
    refine wpList_nil ?_
    replace p10 : AtB 44 _ b_p10 #[.int .i64 x2, .int .i64 y2] := p10
    go_upto_region 6 with fail
    refine wp_region_lit ?_
    try simp only [gelS]
    refine wpList_chunk 16 (by kernel_rfl) ?_
    simp only [takS, Nat.reduceAdd]
    repeat (first | go_big_quiet_skip | (go_big_quiet_want; first | (refine quiet_loadAny (t := 3) rfl _ _ _ rfl (fun w hw => run_load_int ((ov_B p9 w hw).cellL 0 rfl)) (by rfl) ?_; simp only [putS]; go_big_quiet_on) | (refine quiet_loadAny (t := 3) rfl _ _ _ rfl (fun w hw => run_load_int ((ov_B p9 w hw).cellL 1 rfl)) (by rfl) ?_; simp only [putS]; go_big_quiet_on) | (refine quiet_loadAny (t := 3) rfl _ _ _ rfl (fun w hw => run_load_int ((ov_B p10 w hw).cellL 0 rfl)) (by rfl) ?_; simp only [putS]; go_big_quiet_on) | (refine quiet_loadAny (t := 3) rfl _ _ _ rfl (fun w hw => run_load_int ((ov_B p10 w hw).cellL 1 rfl)) (by rfl) ?_; simp only [putS]; go_big_quiet_on) | (go_big_quiet_op; go_big_quiet_on)))
    refine wpQuiet_nil ?_
    refine wpList_callF (by first | rfl | simp [Region.wanted, yielded]) rfl (enters_of Try.func113 (by kernel_rfl) rfl) (by simp only [Act.eval, evlS]; rfl) ?_
    refine (P_crossesO (8 * x) (8 * y) (8 * x2) (8 * y2) u vv false (by omega) (by omega) (by omega) (by omega) hu1 hv1 _ HC.out).mono ?_
    rintro e wn ⟨rfl, hbn⟩
    have hsz := B.size
    have hzn := hbn.size
    replace B := B.trans (hbn.mono B.size)
    refine ⟨_, rfl, ?_⟩
    simp only [putS]
    refine wpList_nil ?_
    go_wp2
    go_roundw
    case rel => exact ⟨k + 1, by omega, by go_num, by rw [HST.out]; try rfl, B⟩
    case measure => simp [intOf]; omega
  ·obtain rfl : k = l.length := by omega
   have q1 : decide (((l.length : Nat) : Int) < (l.length : Int)) = false := decide_eq_false (by omega)
   have q2 : decide (l.length < l.length) = false := decide_eq_false (by omega)
   go_wp2
   go_ret
   exact ⟨rfl, B⟩
theorem P_oddO (v : Value) (l : List Pnt) (u vv : Int) (b : Bool) (w : World) (h : RSE ptE v l w) (hn : l.length ≤ 17592186044416) (hnear : nearL l) (hu : -600000 ≤ u ∧ u ≤ 600000) (hv : -600000 ≤ vv ∧ vv ≤ 600000) (e : oddG l u vv = b) : Calls Try.prog 82 #[v, .int .i64 u, .int .i64 vv] w fun e w' => e = .returned (.bool b) ∧ Below w.heap.size w w' := e ▸ P_odd v l u vv w h hn hnear hu hv
/- Contracts of cover, Cover of package selection and of its reference; of Path. -/
theorem cntK_step {f : Nat → Bool} {k c : Nat} {b : Bool} (h : cntK f k = c) (hf : f k = b) : cntK f (k + 1) = if b = true then c + 1 else c := by
 show cntK f k + (if f k = true then 1 else 0) = _
 rw [h, hf]
 cases b <;> rfl
set_option maxHeartbeats 4000000 in
theorem P_cover (v : Value) (l : List Pnt) (x y : Int) (w : World) (h : RSE ptE v l w) (hn : l.length ≤ 17592186044416) (hnear : nearL l) (hx : -70000 ≤ x ∧ x ≤ 70000) (hy : -70000 ≤ y ∧ y ≤ 70000) : Calls Try.prog 43 #[v, .int .i64 x, .int .i64 y] w fun e w' => e = .returned (.int .i64 (covG l x y)) ∧ Below w.heap.size w w' := by
 have B := Below.refl w.heap.size w
 have HS := Lib.hid h
 have HN := Lib.hid hnear
 have hx1 := hx
 have hy1 := hy
 clear h hnear hx hy
 have HC := Lib.hid (show covG l x y = (255 * (cntK (smpG l x y) 16 : Int) + 8) / 16 from rfl)
 go_enter Try.func43, Try.ntmps43
 go_wp2
 go_loopw [7, 8, 9] (fun nv _ kv wr => ∃ k : Nat, k ≤ 16 ∧ kv = .int .i64 (k : Int) ∧ nv = .int .i64 (cntK (smpG l x y) k : Int) ∧ Below w.heap.size w wr) (fun _ _ kv _ => (16 - intOf kv).toNat)
 case atStart => exact ⟨0, by omega, rfl, rfl, B⟩
 case round =>
  clear B
  obtain ⟨k, hk, rfl, rfl, B⟩ := hrel
  have hcl := cntK_le (smpG l x y) k
  obtain ⟨c, hc⟩ : ∃ c, cntK (smpG l x y) k = c := ⟨_, rfl⟩
  rw [hc] at hcl ⊢
  have HCN := Lib.hid hc
  clear hc
  by_cases hk6 : k < 16
  ·have q1 : decide ((k : Int) < 16) = true := decide_eq_true (by omega)
   have q2 : decide (k < 16) = true := decide_eq_true hk6
   cases ho : oddG l (8 * x + 2 * ((k : Int) % 4) + 1) (8 * y + 2 * ((k : Int) / 4) + 1) with
   | true =>
    have HO := Lib.hid ho
    have HST := Lib.hid (cntK_step HCN.out (show smpG l x y k = true from ho))
    clear ho
    go_upto_region 3 with fail
    refine wp_region_lit ?_
    try simp only [gelS]
    refine wpList_chunk 1 (by kernel_rfl) ?_
    simp only [takS, Nat.reduceAdd]
    repeat (first | go_big_quiet_skip | (go_big_quiet_want; go_big_quiet_op; go_big_quiet_on))
    refine wpQuiet_nil ?_
    refine wpList_nil ?_
    go_upto_region 5 with fail
    refine wp_region_lit ?_
    try simp only [gelS]
    refine wpList_chunk 15 (by kernel_rfl) ?_
    simp only [takS, Nat.reduceAdd]
    repeat (first | go_big_quiet_skip | (go_big_quiet_want; go_big_quiet_op; go_big_quiet_on))
    refine wpQuiet_nil ?_
    refine wpList_callF (by first | rfl | simp [Region.wanted, yielded]) rfl (enters_of Try.func82 (by kernel_rfl) rfl) (by simp only [Act.eval, evlS]; rfl) ?_
    refine (P_oddO _ l (8 * x + 2 * ((k : Int) % 4) + 1) (8 * y + 2 * ((k : Int) / 4) + 1) true _ (HS.out.below B) (by omega) HN.out (by omega) (by omega) HO.out).mono ?_
    rintro e wn ⟨rfl, hbn⟩
    have hsz := B.size
    have hzn := hbn.size
    replace B := B.trans (hbn.mono B.size)
    refine ⟨_, rfl, ?_⟩
    simp only [putS]
    refine wpList_nil ?_
    go_wp2
    go_roundw
    case rel => exact ⟨k + 1, by omega, by go_num, by rw [HST.out]; try (first | rfl | go_num), B⟩
    case measure => simp [intOf]; omega
   | false =>
    have HO := Lib.hid ho
    have HST := Lib.hid (cntK_step HCN.out (show smpG l x y k = false from ho))
    clear ho
    go_upto_region 3 with fail
    refine wp_region_lit ?_
    try simp only [gelS]
    refine wpList_chunk 1 (by kernel_rfl) ?_
    simp only [takS, Nat.reduceAdd]
    repeat (first | go_big_quiet_skip | (go_big_quiet_want; go_big_quiet_op; go_big_quiet_on))
    refine wpQuiet_nil ?_
    refine wpList_nil ?_
    go_upto_region 5 with fail
    refine wp_region_lit ?_
    try simp only [gelS]
    refine wpList_chunk 15 (by kernel_rfl) ?_
    simp only [takS, Nat.reduceAdd]
    repeat (first | go_big_quiet_skip | (go_big_quiet_want; go_big_quiet_op; go_big_quiet_on))
    refine wpQuiet_nil ?_
    refine wpList_callF (by first | rfl | simp [Region.wanted, yielded]) rfl (enters_of Try.func82 (by kernel_rfl) rfl) (by simp only [Act.eval, evlS]; rfl) ?_
    refine (P_oddO _ l (8 * x + 2 * ((k : Int) % 4) + 1) (8 * y + 2 * ((k : Int) / 4) + 1) false _ (HS.out.below B) (by omega) HN.out (by omega) (by omega) HO.out).mono ?_
    rintro e wn ⟨rfl, hbn⟩
    have hsz := B.size
    have hzn := hbn.size
    replace B := B.trans (hbn.mono B.size)
    refine ⟨_, rfl, ?_⟩
    simp only [putS]
    refine wpList_nil ?_
    go_wp2
    go_roundw
    case rel => exact ⟨k + 1, by omega, by go_num, by rw [HST.out]; try (first | rfl | go_num), B⟩
    case measure => simp [intOf]; omega
  ·obtain rfl : k = 16 := by omega
   have q1 : decide (((16 : Nat) : Int) < 16) = false := rfl
   rw [HCN.out] at HC
   go_wp2
   go_ret
   exact ⟨by rw [HC.out]; try rfl, B⟩
set_option maxHeartbeats 4000000 in
theorem P_CoverG (v : Value) (l : List Pnt) (x y : Int) (w : World) (h : RSE ptE v l w) (hn : l.length ≤ maxLen) (hx : -70000 ≤ x ∧ x ≤ 70000) (hy : -70000 ≤ y ∧ y ≤ 70000) : Calls Try.prog 15 #[v, .int .i64 x, .int .i64 y] w fun e w' => e = .returned (.int .i64 (coverP l x y)) ∧ Below w.heap.size w w' := by
 have B := Below.refl w.heap.size w
 have HS := Lib.hid h
 have hx1 := hx
 have hy1 := hy
 clear h hx hy
 cases hh : hasR (boundG l) x y with
 | true =>
  have HH := Lib.hid hh
  have e1 : coverP l x y = covG l x y := if_pos hh
  have hv : validG l = true := by
   cases hv : validG l with
   | true => rfl
   | false =>
    have : boundG l = Rc.zero := by unfold boundG; rw [hv]; rfl
    rw [this] at hh
    have := of_decide_eq_true hh
    simp only [Rc.zero] at this
    omega
  obtain ⟨⟨hl1, hl2⟩, hne⟩ := validG_iff.1 hv
  have HN := Lib.hid hne
  rw [e1]
  clear hh hv hne e1
  go_enter Try.func15, Try.ntmps15
  go_upto_region 1 with fail
  refine wp_region_lit ?_
  try simp only [gelS]
  refine wpList_chunk 1 (by kernel_rfl) ?_
  simp only [takS, Nat.reduceAdd]
  repeat (first | go_big_quiet_skip | (go_big_quiet_want; go_big_quiet_op; go_big_quiet_on))
  refine wpQuiet_nil ?_
  refine wpList_callF (by first | rfl | simp [Region.wanted, yielded]) rfl (enters_of Try.func17 (by kernel_rfl) rfl) (by simp only [Act.eval, evlS]; rfl) ?_
  refine (P_BoundG _ l _ (HS.out.below B) hn).mono ?_
  rintro e wn ⟨rfl, hbn⟩
  have hsz := B.size
  have hzn := hbn.size
  replace B := B.trans (hbn.mono B.size)
  refine ⟨_, rfl, ?_⟩
  simp only [putS]
  refine wpList_chunk 3 (by kernel_rfl) ?_
  simp only [takS, Nat.reduceAdd]
  repeat (first | go_big_quiet_skip | (go_big_quiet_want; go_big_quiet_op; go_big_quiet_on))
  refine wpQuiet_nil ?_
  refine wpList_callF (by first | rfl | simp [Region.wanted, yielded]) rfl (enters_of Try.func42 (by kernel_rfl) rfl) (by simp only [Act.eval, evlS]; rfl) ?_
  refine (P_HasO (boundG l) x y true _ HH.out).mono ?_
  rintro e wn ⟨rfl, hbn⟩
  have hsz := B.size
  have hzn := hbn.size
  replace B := B.trans (hbn.mono B.size)
  refine ⟨_, rfl, ?_⟩
  simp only [putS]
  refine wpList_chunk 1 (by kernel_rfl) ?_
  simp only [takS, Nat.reduceAdd]
  repeat (first | go_big_quiet_skip | (go_big_quiet_want; go_big_quiet_op; go_big_quiet_on))
  refine wpQuiet_nil ?_
  refine wpList_nil ?_
  go_upto_region 3 with fail
  refine wp_region_lit ?_
  try simp only [gelS]
  refine wpList_chunk 3 (by kernel_rfl) ?_
  simp only [takS, Nat.reduceAdd]
  repeat (first | go_big_quiet_skip | (go_big_quiet_want; go_big_quiet_op; go_big_quiet_on))
  refine wpQuiet_nil ?_
  refine wpList_callF (by first | rfl | simp [Region.wanted, yielded]) rfl (enters_of Try.func43 (by kernel_rfl) rfl) (by simp only [Act.eval, evlS]; rfl) ?_
  refine (P_cover _ l x y _ (HS.out.below B) (by omega) HN.out hx1 hy1).mono ?_
  rintro e wn ⟨rfl, hbn⟩
  have hsz := B.size
  have hzn := hbn.size
  replace B := B.trans (hbn.mono B.size)
  refine ⟨_, rfl, ?_⟩
  simp only [putS]
  refine wpList_chunk 1 (by kernel_rfl) ?_
  simp only [takS, Nat.reduceAdd]
  repeat (first | go_big_quiet_skip | (go_big_quiet_want; go_big_quiet_op; go_big_quiet_on))
  refine wpQuiet_nil ?_
  refine wpList_nil ?_
  iterate 3 go_step
  go_ret
  exact ⟨by try rfl, B⟩
 | false =>
  have HH := Lib.hid hh
  have e1 : coverP l x y = 0 := if_neg (by rw [hh]; decide)
  rw [e1]
  clear hh e1
  go_enter Try.func15, Try.ntmps15
  go_upto_region 1 with fail
  refine wp_region_lit ?_
  try simp only [gelS]
  refine wpList_chunk 1 (by kernel_rfl) ?_
  simp only [takS, Nat.reduceAdd]
  repeat (first | go_big_quiet_skip | (go_big_quiet_want; go_big_quiet_op; go_big_quiet_on))
  refine wpQuiet_nil ?_
  refine wpList_callF (by first | rfl | simp [Region.wanted, yielded]) rfl (enters_of Try.func17 (by kernel_rfl) rfl) (by simp only [Act.eval, evlS]; rfl) ?_
  refine (P_BoundG _ l _ (HS.out.below B) hn).mono ?_
  rintro e wn ⟨rfl, hbn⟩
  have hsz := B.size
  have hzn := hbn.size
  replace B := B.trans (hbn.mono B.size)
  refine ⟨_, rfl, ?_⟩
  simp only [putS]
  refine wpList_chunk 3 (by kernel_rfl) ?_
  simp only [takS, Nat.reduceAdd]
  repeat (first | go_big_quiet_skip | (go_big_quiet_want; go_big_quiet_op; go_big_quiet_on))
  refine wpQuiet_nil ?_
  refine wpList_callF (by first | rfl | simp [Region.wanted, yielded]) rfl (enters_of Try.func42 (by kernel_rfl) rfl) (by simp only [Act.eval, evlS]; rfl) ?_
  refine (P_HasO (boundG l) x y false _ HH.out).mono ?_
  rintro e wn ⟨rfl, hbn⟩
  have hsz := B.size
  have hzn := hbn.size
  replace B := B.trans (hbn.mono B.size)
  refine ⟨_, rfl, ?_⟩
  simp only [putS]
  refine wpList_chunk 1 (by kernel_rfl) ?_
  simp only [takS, Nat.reduceAdd]
  repeat (first | go_big_quiet_skip | (go_big_quiet_want; go_big_quiet_op; go_big_quiet_on))
  refine wpQuiet_nil ?_
  refine wpList_nil ?_
  go_wp2
  go_ret
  exact ⟨by try rfl, B⟩
end Go.Proofs.Ytamgpfblhlfhaaa
/- Plain: the positions at which two rasters differ, in order; replacing them. -/
namespace Go.Proofs.Ytamgpfblhlfhaaa
open Go.RowKit Pl
set_option linter.unusedVariables false
set_option linter.unusedSimpArgs false
def ltP (a b : Int × Int) : Bool := lessB a.1 a.2 b.1 b.2
def posA (e : TA) : Int × Int := (e.x, e.y)
def SrtP (l : List (Int × Int)) : Prop := l.Pairwise fun a b => ltP a b = true
theorem lessB_iff {a b c d : Int} : lessB a b c d = true ↔ (b < d ∨ (b = d ∧ a < c)) := by unfold lessB; exact decide_eq_true_iff
theorem ltP_iff {a b : Int × Int} : ltP a b = true ↔ (a.2 < b.2 ∨ (a.2 = b.2 ∧ a.1 < b.1)) := lessB_iff
theorem ltP_trans {a b c : Int × Int} (h : ltP a b = true) (k : ltP b c = true) : ltP a c = true := by
 rw [ltP_iff] at *
 omega
theorem ltP_irr (a : Int × Int) : ¬ ltP a a = true := by rw [ltP_iff]; omega
theorem ltP_tri {a b : Int × Int} (h : ¬ a = b) (k : ¬ ltP a b = true) : ltP b a = true := by
 rw [ltP_iff] at *
 have : ¬ (a.1 = b.1 ∧ a.2 = b.2) := fun e => h (Prod.ext e.1 e.2)
 omega
theorem eqT_symm {t u : Nat → Px} (h : eqT t u = true) : eqT u t = true := eqT_true fun i hi => (eqT_at h hi).symm
theorem eqT_comm (t u : Nat → Px) : eqT t u = eqT u t := by
 rw [Bool.eq_iff_iff]
 exact ⟨eqT_symm, eqT_symm⟩
theorem eqT_zero {t : Nat → Px} (h : zeroB t = false) : eqT t zT = false := by
 by_cases e : eqT t zT = true
 ·exfalso
  have : zeroB t = true := (zeroB_iff t).2 fun i hi => by rw [eqT_at e hi]; rfl
  rw [h] at this
  cases this
 ·simpa using e
/-- No tile without a visible pixel. -/
def Nz (ls : List TA) : Prop := ∀ e ∈ ls, zeroB e.t = false
theorem valid_nz {ls : List TA} (h : validL ls = true) : Nz ls := fun e he => ((goodA_iff e).1 (validL_good h e he)).2.1
def Diff (a b : List TA) (p : Int × Int) : Prop := eqT (tileL a p.1 p.2) (tileL b p.1 p.2) = false
theorem Diff.symm {a b : List TA} {p : Int × Int} (h : Diff a b p) : Diff b a p := by unfold Diff at *; rw [eqT_comm]; exact h
theorem diff_in {a b : List TA} {p : Int × Int} (h : Diff a b p) : (∃ e ∈ a, posA e = p) ∨ ∃ e ∈ b, posA e = p := by
 rcases tileL_some a p.1 p.2 with e | ⟨e, he, e1, e2, _⟩
 ·rcases tileL_some b p.1 p.2 with f | ⟨f, hf, f1, f2, _⟩
  ·unfold Diff at h
   rw [e, f, eqT_refl] at h
   cases h
  ·exact .inr ⟨f, hf, Prod.ext f1 f2⟩
 ·exact .inl ⟨e, he, Prod.ext e1 e2⟩
/-! ### Changed of package raster: two lists merged -/
def chgP : List TA → List TA → List (Int × Int)
 | [], [] => []
 | [], e :: r => posA e :: chgP [] r
 | d :: q, [] => posA d :: chgP q []
 | d :: q, e :: r => if lessB d.x d.y e.x e.y = true then posA d :: chgP q (e :: r) else if lessB e.x e.y d.x d.y = true then posA e :: chgP (d :: q) r else (if eqT d.t e.t = true then [] else [posA d]) ++ chgP q r
termination_by a b => a.length + b.length
theorem chgP_nil2 : chgP [] [] = [] := by rw [chgP]
theorem chgP_right (e : TA) (r : List TA) : chgP [] (e :: r) = posA e :: chgP [] r := by rw [chgP]
theorem chgP_left (d : TA) (q : List TA) : chgP (d :: q) [] = posA d :: chgP q [] := by rw [chgP]
theorem chgP_both (d : TA) (q : List TA) (e : TA) (r : List TA) : chgP (d :: q) (e :: r) = if lessB d.x d.y e.x e.y = true then posA d :: chgP q (e :: r) else if lessB e.x e.y d.x d.y = true then posA e :: chgP (d :: q) r else (if eqT d.t e.t = true then [] else [posA d]) ++ chgP q r := by rw [chgP]
theorem srt_cons {d : TA} {q : List TA} (h : Srt (d :: q)) : Srt q ∧ ∀ e ∈ q, ltP (posA d) (posA e) = true := by
 obtain ⟨h1, h2⟩ := List.pairwise_cons.1 h
 exact ⟨h2, h1⟩
theorem posA_ne {p : Int × Int} {e : TA} (h : ¬ posA e = p) : eqB e.x e.y p.1 p.2 = false := decide_eq_false fun k => h (Prod.ext k.1 k.2)
theorem tileL_head (d : TA) (q : List TA) : tileL (d :: q) d.x d.y = d.t := by
 show (if _ then _ else _) = _
 rw [if_pos (show eqB d.x d.y d.x d.y = true from decide_eq_true ⟨rfl, rfl⟩)]
theorem tileL_tail (d : TA) (q : List TA) {p : Int × Int} (h : ¬ posA d = p) : tileL (d :: q) p.1 p.2 = tileL q p.1 p.2 := by
 show (if _ then _ else _) = _
 rw [if_neg (by rw [posA_ne h]; decide)]
theorem tileL_lt {p : Int × Int} {q : List TA} (h : ∀ e ∈ q, ltP p (posA e) = true) : tileL q p.1 p.2 = zT :=
 tileL_none fun e he => posA_ne fun k => ltP_irr p (by have := h e he; rw [k] at this; exact this)
theorem chgP_spec : ∀ (a b : List TA), Srt a → Srt b → Nz a → Nz b → SrtP (chgP a b) ∧ ∀ p, p ∈ chgP a b ↔ Diff a b p := by
 intro a b
 induction a, b using chgP.induct with
 | case1 =>
  intro _ _ _ _
  rw [chgP_nil2]
  refine ⟨List.Pairwise.nil, fun p => ⟨fun h => (by cases h), fun h => ?_⟩⟩
  unfold Diff at h
  rw [show tileL ([] : List TA) p.1 p.2 = zT from rfl, eqT_refl] at h
  cases h
 | case2 e r ih =>
  intro ha hb na nb
  obtain ⟨hr, hlt⟩ := srt_cons hb
  obtain ⟨i1, i2⟩ := ih ha hr na (fun x hx => nb x (List.mem_cons_of_mem _ hx))
  rw [chgP_right]
  refine ⟨List.Pairwise.cons (fun p hp => ?_) i1, fun p => ?_⟩
  ·rcases diff_in ((i2 p).1 hp) with ⟨_, h, _⟩ | ⟨x, hx, rfl⟩
   ·cases h
   ·exact hlt x hx
  ·by_cases hp : posA e = p
   ·subst hp
    refine ⟨fun _ => ?_, fun _ => List.mem_cons_self ..⟩
    unfold Diff
    rw [show tileL ([] : List TA) (posA e).1 (posA e).2 = zT from rfl, show tileL (e :: r) (posA e).1 (posA e).2 = e.t from tileL_head e r, eqT_comm]
    exact eqT_zero (nb e (List.mem_cons_self ..))
   ·have : Diff [] (e :: r) p ↔ Diff [] r p := by unfold Diff; rw [tileL_tail e r hp]
    rw [this, ← i2, List.mem_cons]
    exact ⟨fun h => h.resolve_left (fun e => hp e.symm), .inr⟩
 | case3 d q ih =>
  intro ha hb na nb
  obtain ⟨hq, hlt⟩ := srt_cons ha
  obtain ⟨i1, i2⟩ := ih hq hb (fun x hx => na x (List.mem_cons_of_mem _ hx)) nb
  rw [chgP_left]
  refine ⟨List.Pairwise.cons (fun p hp => ?_) i1, fun p => ?_⟩
  ·rcases diff_in ((i2 p).1 hp) with ⟨x, hx, rfl⟩ | ⟨_, h, _⟩
   ·exact hlt x hx
   ·cases h
  ·by_cases hp : posA d = p
   ·subst hp
    refine ⟨fun _ => ?_, fun _ => List.mem_cons_self ..⟩
    unfold Diff
    rw [show tileL ([] : List TA) (posA d).1 (posA d).2 = zT from rfl, show tileL (d :: q) (posA d).1 (posA d).2 = d.t from tileL_head d q]
    exact eqT_zero (na d (List.mem_cons_self ..))
   ·have : Diff (d :: q) [] p ↔ Diff q [] p := by unfold Diff; rw [tileL_tail d q hp]
    rw [this, ← i2, List.mem_cons]
    exact ⟨fun h => h.resolve_left (fun e => hp e.symm), .inr⟩
 | case4 d q e r h ih =>
  intro ha hb na nb
  obtain ⟨hq, hlt⟩ := srt_cons ha
  obtain ⟨hr, hlr⟩ := srt_cons hb
  obtain ⟨i1, i2⟩ := ih hq hb (fun x hx => na x (List.mem_cons_of_mem _ hx)) nb
  have hde : ltP (posA d) (posA e) = true := h
  have hall : ∀ x ∈ e :: r, ltP (posA d) (posA x) = true := fun x hx => by
   rcases List.mem_cons.1 hx with rfl | hx
   ·exact hde
   ·exact ltP_trans hde (hlr x hx)
  rw [chgP_both, if_pos h]
  refine ⟨List.Pairwise.cons (fun p hp => ?_) i1, fun p => ?_⟩
  ·rcases diff_in ((i2 p).1 hp) with ⟨x, hx, rfl⟩ | ⟨x, hx, rfl⟩
   ·exact hlt x hx
   ·exact hall x hx
  ·by_cases hp : posA d = p
   ·subst hp
    refine ⟨fun _ => ?_, fun _ => List.mem_cons_self ..⟩
    unfold Diff
    rw [tileL_lt hall, show tileL (d :: q) (posA d).1 (posA d).2 = d.t from tileL_head d q]
    exact eqT_zero (na d (List.mem_cons_self ..))
   ·have : Diff (d :: q) (e :: r) p ↔ Diff q (e :: r) p := by unfold Diff; rw [tileL_tail d q hp]
    rw [this, ← i2, List.mem_cons]
    exact ⟨fun h => h.resolve_left (fun e => hp e.symm), .inr⟩
 | case5 d q e r h k ih =>
  intro ha hb na nb
  obtain ⟨hq, hlt⟩ := srt_cons ha
  obtain ⟨hr, hlr⟩ := srt_cons hb
  obtain ⟨i1, i2⟩ := ih ha hr na (fun x hx => nb x (List.mem_cons_of_mem _ hx))
  have hed : ltP (posA e) (posA d) = true := k
  have hall : ∀ x ∈ d :: q, ltP (posA e) (posA x) = true := fun x hx => by
   rcases List.mem_cons.1 hx with rfl | hx
   ·exact hed
   ·exact ltP_trans hed (hlt x hx)
  rw [chgP_both, if_neg h, if_pos k]
  refine ⟨List.Pairwise.cons (fun p hp => ?_) i1, fun p => ?_⟩
  ·rcases diff_in ((i2 p).1 hp) with ⟨x, hx, rfl⟩ | ⟨x, hx, rfl⟩
   ·exact hall x hx
   ·exact hlr x hx
  ·by_cases hp : posA e = p
   ·subst hp
    refine ⟨fun _ => ?_, fun _ => List.mem_cons_self ..⟩
    unfold Diff
    rw [tileL_lt hall, show tileL (e :: r) (posA e).1 (posA e).2 = e.t from tileL_head e r, eqT_comm]
    exact eqT_zero (nb e (List.mem_cons_self ..))
   ·have : Diff (d :: q) (e :: r) p ↔ Diff (d :: q) r p := by unfold Diff; rw [tileL_tail e r hp]
    rw [this, ← i2, List.mem_cons]
    exact ⟨fun h => h.resolve_left (fun e => hp e.symm), .inr⟩
 | case6 d q e r h k ih =>
  intro ha hb na nb
  obtain ⟨hq, hlt⟩ := srt_cons ha
  obtain ⟨hr, hlr⟩ := srt_cons hb
  obtain ⟨i1, i2⟩ := ih hq hr (fun x hx => na x (List.mem_cons_of_mem _ hx)) (fun x hx => nb x (List.mem_cons_of_mem _ hx))
  have hpe : posA d = posA e := by
   by_cases hh : posA d = posA e
   ·exact hh
   ·exact absurd (ltP_tri hh h) k
  rw [← hpe] at hlr
  have hall : ∀ p ∈ chgP q r, ltP (posA d) p = true := fun p hp => by
   rcases diff_in ((i2 p).1 hp) with ⟨x, hx, rfl⟩ | ⟨x, hx, rfl⟩
   ·exact hlt x hx
   ·exact hlr x hx
  have hno : ¬ posA d ∈ chgP q r := fun hm => ltP_irr _ (hall _ hm)
  have hev : Diff (d :: q) (e :: r) (posA d) ↔ ¬ eqT d.t e.t = true := by
   unfold Diff
   have h2 : tileL (e :: r) (posA d).1 (posA d).2 = e.t := by rw [hpe]; exact tileL_head e r
   rw [show tileL (d :: q) (posA d).1 (posA d).2 = d.t from tileL_head d q, h2]
   simp
  have hnt : ∀ p, ¬ posA d = p → (Diff (d :: q) (e :: r) p ↔ Diff q r p) := fun p hp => by
   unfold Diff
   rw [tileL_tail d q hp, tileL_tail e r (by rw [← hpe]; exact hp)]
  rw [chgP_both, if_neg h, if_neg k]
  by_cases ht : eqT d.t e.t = true
  ·rw [if_pos ht, List.nil_append]
   refine ⟨i1, fun p => ?_⟩
   by_cases hp : posA d = p
   ·subst hp
    exact ⟨fun hm => absurd hm hno, fun hm => absurd ht (hev.1 hm)⟩
   ·rw [hnt p hp, i2]
  ·rw [if_neg ht]
   refine ⟨List.Pairwise.cons hall i1, fun p => ?_⟩
   show p ∈ posA d :: chgP q r ↔ _
   by_cases hp : posA d = p
   ·subst hp
    exact ⟨fun _ => hev.2 ht, fun _ => List.mem_cons_self ..⟩
   ·rw [hnt p hp, ← i2, List.mem_cons]
    exact ⟨fun h => h.resolve_left (fun e => hp e.symm), .inr⟩
/-! ### Changed of the reference: what differs of the first, then the second's inserted -/
def insP : List (Int × Int) → Int × Int → List (Int × Int)
 | [], p => [p]
 | q :: r, p => if q = p then q :: r else if ltP p q = true then p :: q :: r else q :: insP r p
def chg1 (a b : List TA) : List (Int × Int) := (a.filter fun e => !eqT e.t (tileL b e.x e.y)).map posA
def chg2 (a : List TA) (o : List (Int × Int)) (b : List TA) : List (Int × Int) := b.foldl (fun o e => if eqT e.t (tileL a e.x e.y) = true then o else insP o (posA e)) o
def chgR (a b : List TA) : List (Int × Int) := chg2 a (chg1 a b) b
theorem eqL_cons (d : TA) (q : List TA) (e : TA) (r : List TA) : eqL (d :: q) (e :: r) = (eqA d e && eqL q r) := by
 rw [Bool.eq_iff_iff, Bool.and_eq_true_iff]
 unfold eqL
 rw [Bool.and_eq_true_iff, Bool.and_eq_true_iff, decide_eq_true_iff, decide_eq_true_iff, decide_eq_true_iff, decide_eq_true_iff]
 simp only [List.length_cons, List.mem_range, Nat.add_right_cancel_iff]
 constructor
 ·rintro ⟨h1, h2⟩
  exact ⟨h2 0 (by omega), h1, fun i hi => h2 (i + 1) (by omega)⟩
 ·rintro ⟨h1, h2, h3⟩
  refine ⟨h2, fun i hi => ?_⟩
  cases i with
  | zero => exact h1
  | succ i => exact h3 i (by omega)
theorem chgP_eqL : ∀ (a b : List TA), (chgP a b = []) ↔ eqL a b = true := by
 intro a b
 induction a, b using chgP.induct with
 | case1 => rw [chgP_nil2]; exact ⟨fun _ => eqL_refl _, fun _ => rfl⟩
 | case2 e r ih =>
  rw [chgP_right, eqL_len (by simp)]
  exact ⟨fun h => (by cases h), fun h => by cases h⟩
 | case3 d q ih =>
  rw [chgP_left, eqL_len (by simp)]
  exact ⟨fun h => (by cases h), fun h => by cases h⟩
 | case4 d q e r h ih =>
  rw [chgP_both, if_pos h, eqL_cons]
  refine ⟨fun k => (by cases k), fun k => ?_⟩
  have k := (Bool.and_eq_true_iff.1 k).1
  unfold eqA eqB at k
  have k := of_decide_eq_true (Bool.and_eq_true_iff.1 k).1
  have h := lessB_iff.1 h
  omega
 | case5 d q e r h h' ih =>
  rw [chgP_both, if_neg h, if_pos h', eqL_cons]
  refine ⟨fun k => (by cases k), fun k => ?_⟩
  have k := (Bool.and_eq_true_iff.1 k).1
  unfold eqA eqB at k
  have k := of_decide_eq_true (Bool.and_eq_true_iff.1 k).1
  have h := lessB_iff.1 h'
  omega
 | case6 d q e r h k ih =>
  rw [chgP_both, if_neg h, if_neg k, eqL_cons, Bool.and_eq_true_iff, ← ih]
  have hpe : d.x = e.x ∧ d.y = e.y := by
   rw [lessB_iff] at h k
   omega
  have hA : eqA d e = eqT d.t e.t := by
   unfold eqA eqB
   rw [decide_eq_true hpe, Bool.true_and]
  rw [hA]
  by_cases ht : eqT d.t e.t = true
  ·rw [if_pos ht, List.nil_append]
   exact ⟨fun h => ⟨ht, h⟩, fun h => h.2⟩
  ·rw [if_neg ht]
   exact ⟨fun h => (by cases h), fun h => absurd h.1 ht⟩
/-! ### The changed tiles replaced -/
def mv1 (b : List TA) (s : List TA) (p : Int × Int) : List TA := putR s p.1 p.2 (tileL b p.1 p.2)
def mvL (b : List TA) (s : List TA) (ps : List (Int × Int)) : List TA := ps.foldl (mv1 b) s
/- Plain: an image of one raster pasted into another. -/
theorem getL_okL {ls : List TA} (h : TokL ls) (x y : Int) : (getL ls x y).ok := tileL_tok h _ _ _ (by omega)
theorem tile_get (ls : List TA) (X Y : Int) {i : Nat} (hi : i < 64) : tileL ls X Y i = getL ls (X * 8 + (i : Int) % 8) (Y * 8 + (i : Int) / 8) := by
 unfold getL
 have e1 : (X * 8 + (i : Int) % 8) / 8 = X := by omega
 have e2 : (Y * 8 + (i : Int) / 8) / 8 = Y := by omega
 have e3 : (8 * ((Y * 8 + (i : Int) / 8) % 8) + (X * 8 + (i : Int) % 8) % 8).toNat = i := by omega
 rw [e1, e2, e3]
theorem eqL_get {a b : List TA} (ha : validL a = true) (hb : validL b = true) (h : ∀ x y, getL a x y = getL b x y) : eqL a b = true := by
 rw [← chgP_eqL]
 obtain ⟨_, k2⟩ := chgP_spec a b (validL_srt ha) (validL_srt hb) (valid_nz ha) (valid_nz hb)
 refine List.eq_nil_iff_forall_not_mem.2 fun p hp => ?_
 have hd := (k2 p).1 hp
 unfold Diff at hd
 have : eqT (tileL a p.1 p.2) (tileL b p.1 p.2) = true := eqT_true fun i hi => by rw [tile_get a _ _ hi, tile_get b _ _ hi, h]
 rw [this] at hd
 cases hd
/- Plain: the boundary of a set of pixels: edges, the edge that follows, the closed lists of edges, their corners. -/
structure Ed where
 x : Int
 y : Int
 d : Int
deriving DecidableEq
def dxE (d : Int) : Int := if d = 0 then 1 else if d = 2 then -1 else 0
def dyE (d : Int) : Int := if d = 1 then 1 else if d = 3 then -1 else 0
def hasE (S : Int → Int → Bool) (x y d : Int) : Bool :=
 if d = 0 then S x y && !S x (y - 1) else if d = 1 then S (x - 1) y && !S x y else if d = 2 then S (x - 1) (y - 1) && !S (x - 1) y else S x (y - 1) && !S (x - 1) (y - 1)
def nextE (S : Int → Int → Bool) (e : Ed) : Ed :=
 if hasE S (e.x + dxE e.d) (e.y + dyE e.d) ((e.d + 1) % 4) = true then ⟨e.x + dxE e.d, e.y + dyE e.d, (e.d + 1) % 4⟩
 else if hasE S (e.x + dxE e.d) (e.y + dyE e.d) e.d = true then ⟨e.x + dxE e.d, e.y + dyE e.d, e.d⟩
 else if hasE S (e.x + dxE e.d) (e.y + dyE e.d) ((e.d + 3) % 4) = true then ⟨e.x + dxE e.d, e.y + dyE e.d, (e.d + 3) % 4⟩
 else e
/-- The edge belongs to the boundary. -/
def Bnd (S : Int → Int → Bool) (e : Ed) : Prop := (0 ≤ e.d ∧ e.d ≤ 3) ∧ hasE S e.x e.y e.d = true
theorem dir4 {d : Int} (h : 0 ≤ d ∧ d ≤ 3) : d = 0 ∨ d = 1 ∨ d = 2 ∨ d = 3 := by omega
theorem has0 (S : Int → Int → Bool) (x y : Int) : hasE S x y 0 = (S x y && !S x (y - 1)) := rfl
theorem has1 (S : Int → Int → Bool) (x y : Int) : hasE S x y 1 = (S (x - 1) y && !S x y) := rfl
theorem has2 (S : Int → Int → Bool) (x y : Int) : hasE S x y 2 = (S (x - 1) (y - 1) && !S (x - 1) y) := rfl
theorem has3 (S : Int → Int → Bool) (x y : Int) : hasE S x y 3 = (S x (y - 1) && !S (x - 1) (y - 1)) := rfl
/-- What is known of the edge that follows: it starts where this one ends, its direction is the first one of the three. -/
theorem next_cases {S : Int → Int → Bool} {e : Ed} (h : Bnd S e) :
  (nextE S e).x = e.x + dxE e.d ∧ (nextE S e).y = e.y + dyE e.d ∧ Bnd S (nextE S e) ∧
  ((nextE S e).d = (e.d + 1) % 4 ∧ hasE S (e.x + dxE e.d) (e.y + dyE e.d) ((e.d + 1) % 4) = true ∨
   (nextE S e).d = e.d ∧ hasE S (e.x + dxE e.d) (e.y + dyE e.d) ((e.d + 1) % 4) = false ∧ hasE S (e.x + dxE e.d) (e.y + dyE e.d) e.d = true ∨
   (nextE S e).d = (e.d + 3) % 4 ∧ hasE S (e.x + dxE e.d) (e.y + dyE e.d) ((e.d + 1) % 4) = false ∧ hasE S (e.x + dxE e.d) (e.y + dyE e.d) e.d = false ∧ hasE S (e.x + dxE e.d) (e.y + dyE e.d) ((e.d + 3) % 4) = true) := by
 obtain ⟨x, y, d⟩ := e
 obtain ⟨hd, hh⟩ := h
 simp only at hd hh
 have three : hasE S (x + dxE d) (y + dyE d) ((d + 1) % 4) = true ∨ hasE S (x + dxE d) (y + dyE d) d = true ∨ hasE S (x + dxE d) (y + dyE d) ((d + 3) % 4) = true := by
  rcases dir4 hd with rfl | rfl | rfl | rfl
  · show hasE S (x + 1) (y + 0) 1 = true ∨ hasE S (x + 1) (y + 0) 0 = true ∨ hasE S (x + 1) (y + 0) 3 = true
    rw [has0] at hh
    rw [has1, has0, has3, Int.add_zero, show x + 1 - 1 = x by omega]
    cases h1 : S x y <;> cases h2 : S x (y - 1) <;> rw [h1, h2] at hh <;> first | (cases hh; done) | (cases S (x + 1) y <;> cases S (x + 1) (y - 1) <;> simp)
  · show hasE S (x + 0) (y + 1) 2 = true ∨ hasE S (x + 0) (y + 1) 1 = true ∨ hasE S (x + 0) (y + 1) 0 = true
    rw [has1] at hh
    rw [has2, has1, has0, Int.add_zero, show y + 1 - 1 = y by omega]
    cases h1 : S (x - 1) y <;> cases h2 : S x y <;> rw [h1, h2] at hh <;> first | (cases hh; done) | (cases S (x - 1) (y + 1) <;> cases S x (y + 1) <;> simp)
  · show hasE S (x + -1) (y + 0) 3 = true ∨ hasE S (x + -1) (y + 0) 2 = true ∨ hasE S (x + -1) (y + 0) 1 = true
    rw [has2] at hh
    rw [has3, has2, has1, Int.add_zero, show x + -1 = x - 1 by omega]
    cases h1 : S (x - 1) (y - 1) <;> cases h2 : S (x - 1) y <;> rw [h1, h2] at hh <;> first | (cases hh; done) | (cases S (x - 1 - 1) y <;> cases S (x - 1 - 1) (y - 1) <;> simp)
  · show hasE S (x + 0) (y + -1) 0 = true ∨ hasE S (x + 0) (y + -1) 3 = true ∨ hasE S (x + 0) (y + -1) 2 = true
    rw [has3] at hh
    rw [has0, has3, has2, Int.add_zero, show y + -1 = y - 1 by omega]
    cases h1 : S x (y - 1) <;> cases h2 : S (x - 1) (y - 1) <;> rw [h1, h2] at hh <;> first | (cases hh; done) | (cases S x (y - 1 - 1) <;> cases S (x - 1) (y - 1 - 1) <;> simp)
 have m1 : 0 ≤ (d + 1) % 4 ∧ (d + 1) % 4 ≤ 3 := by omega
 have m3 : 0 ≤ (d + 3) % 4 ∧ (d + 3) % 4 ≤ 3 := by omega
 unfold nextE
 simp only
 by_cases c1 : hasE S (x + dxE d) (y + dyE d) ((d + 1) % 4) = true
 ·rw [if_pos c1]
  exact ⟨rfl, rfl, ⟨m1, c1⟩, .inl ⟨rfl, c1⟩⟩
 ·rw [if_neg c1]
  have c1' : hasE S (x + dxE d) (y + dyE d) ((d + 1) % 4) = false := by simpa using c1
  by_cases c2 : hasE S (x + dxE d) (y + dyE d) d = true
  · rw [if_pos c2]
    exact ⟨rfl, rfl, ⟨hd, c2⟩, .inr (.inl ⟨rfl, c1', c2⟩)⟩
  · rw [if_neg c2]
    have c2' : hasE S (x + dxE d) (y + dyE d) d = false := by simpa using c2
    have c3 : hasE S (x + dxE d) (y + dyE d) ((d + 3) % 4) = true := by
     rcases three with h | h | h
     ·exact absurd h c1
     ·exact absurd h c2
     ·exact h
    rw [if_pos c3]
    exact ⟨rfl, rfl, ⟨m3, c3⟩, .inr (.inr ⟨rfl, c1', c2', c3⟩)⟩
/-- The directions at a corner: which one comes in, which one goes out; nw, ne, sw, se are the pixels around it. -/
def inD (nw ne sw se : Bool) (d : Int) : Bool := if d = 0 then sw && !nw else if d = 1 then nw && !ne else if d = 2 then ne && !se else se && !sw
def outD (nw ne sw se : Bool) (d : Int) : Bool := if d = 0 then se && !ne else if d = 1 then sw && !se else if d = 2 then nw && !sw else ne && !nw
def selD (nw ne sw se : Bool) (d : Int) : Int := if outD nw ne sw se ((d + 1) % 4) = true then (d + 1) % 4 else if outD nw ne sw se d = true then d else (d + 3) % 4
theorem sel_inj (nw ne sw se : Bool) {d d' : Int} (hd : 0 ≤ d ∧ d ≤ 3) (hd' : 0 ≤ d' ∧ d' ≤ 3) (h : inD nw ne sw se d = true) (h' : inD nw ne sw se d' = true) (e : selD nw ne sw se d = selD nw ne sw se d') : d = d' := by
 rcases dir4 hd with rfl | rfl | rfl | rfl <;> rcases dir4 hd' with rfl | rfl | rfl | rfl <;> first | rfl | (exfalso; revert h h' e; cases nw <;> cases ne <;> cases sw <;> cases se <;> decide)
theorem has_out (S : Int → Int → Bool) (x y : Int) (d : Int) : hasE S x y d = outD (S (x - 1) (y - 1)) (S x (y - 1)) (S (x - 1) y) (S x y) d := rfl
theorem bnd_in {S : Int → Int → Bool} {e : Ed} (h : Bnd S e) : inD (S (e.x + dxE e.d - 1) (e.y + dyE e.d - 1)) (S (e.x + dxE e.d) (e.y + dyE e.d - 1)) (S (e.x + dxE e.d - 1) (e.y + dyE e.d)) (S (e.x + dxE e.d) (e.y + dyE e.d)) e.d = true := by
 obtain ⟨x, y, d⟩ := e
 obtain ⟨hd, hh⟩ := h
 simp only at hd hh ⊢
 rcases dir4 hd with rfl | rfl | rfl | rfl
 ·show (S (x + 1 - 1) (y + 0) && !S (x + 1 - 1) (y + 0 - 1)) = true
  rw [has0] at hh
  rw [show x + 1 - 1 = x by omega, Int.add_zero]
  exact hh
 ·show (S (x + 0 - 1) (y + 1 - 1) && !S (x + 0) (y + 1 - 1)) = true
  rw [has1] at hh
  rw [show y + 1 - 1 = y by omega, Int.add_zero]
  exact hh
 ·show (S (x + -1) (y + 0 - 1) && !S (x + -1) (y + 0)) = true
  rw [has2] at hh
  rw [show x + -1 = x - 1 by omega, Int.add_zero]
  exact hh
 ·show (S (x + 0) (y + -1) && !S (x + 0 - 1) (y + -1)) = true
  rw [has3] at hh
  rw [show y + -1 = y - 1 by omega, Int.add_zero]
  exact hh
theorem next_sel {S : Int → Int → Bool} {e : Ed} (h : Bnd S e) : (nextE S e).d = selD (S (e.x + dxE e.d - 1) (e.y + dyE e.d - 1)) (S (e.x + dxE e.d) (e.y + dyE e.d - 1)) (S (e.x + dxE e.d - 1) (e.y + dyE e.d)) (S (e.x + dxE e.d) (e.y + dyE e.d)) e.d := by
 obtain ⟨_, _, _, h4⟩ := next_cases h
 simp only [has_out] at h4
 unfold selD
 rcases h4 with ⟨h1, h2⟩ | ⟨h1, h2, h3⟩ | ⟨h1, h2, h3, h4⟩
 ·rw [if_pos h2, h1]
 ·rw [if_neg (by rw [h2]; decide), if_pos h3, h1]
 ·rw [if_neg (by rw [h2]; decide), if_neg (by rw [h3]; decide), h1]
theorem next_inj {S : Int → Int → Bool} {e f : Ed} (he : Bnd S e) (hf : Bnd S f) (h : nextE S e = nextE S f) : e = f := by
 obtain ⟨a1, a2, _, _⟩ := next_cases he
 obtain ⟨b1, b2, _, _⟩ := next_cases hf
 have hx : e.x + dxE e.d = f.x + dxE f.d := by rw [← a1, ← b1, h]
 have hy : e.y + dyE e.d = f.y + dyE f.d := by rw [← a2, ← b2, h]
 have s1 := next_sel he
 have s2 := next_sel hf
 have i1 := bnd_in he
 have i2 := bnd_in hf
 rw [← hx, ← hy] at s2 i2
 have hd : e.d = f.d := sel_inj _ _ _ _ he.1 hf.1 i1 i2 (by rw [← s1, ← s2, h])
 obtain ⟨x, y, d⟩ := e
 obtain ⟨x', y', d'⟩ := f
 simp only at hd hx hy
 subst hd
 have : x = x' := by omega
 have : y = y' := by omega
 subst x' y'
 rfl
/-! ### Going round -/
def orbE (S : Int → Int → Bool) (s : Ed) : Nat → Ed
 | 0 => s
 | n + 1 => nextE S (orbE S s n)
theorem orb_bnd {S : Int → Int → Bool} {s : Ed} (h : Bnd S s) : ∀ n, Bnd S (orbE S s n)
 | 0 => h
 | n + 1 => (next_cases (orb_bnd h n)).2.2.1
theorem orb_back {S : Int → Int → Bool} {s : Ed} (h : Bnd S s) : ∀ i j, orbE S s i = orbE S s (i + j) → s = orbE S s j
 | 0, j, e => by rw [Nat.zero_add] at e; exact e
 | i + 1, j, e => orb_back h i j (by
  rw [show i + 1 + j = (i + j) + 1 by omega] at e
  exact next_inj (orb_bnd h i) (orb_bnd h (i + j)) e)
theorem pigeon : ∀ (N : Nat) (f : Nat → Nat), (∀ i, i ≤ N → f i < N) → ∃ i j, i < j ∧ j ≤ N ∧ f i = f j := by
 intro N
 induction N with
 | zero => intro f h; exact absurd (h 0 (Nat.le_refl _)) (by omega)
 | succ N ih =>
  intro f h
  by_cases hx : ∃ i, i < N + 1 ∧ f i = f (N + 1)
  ·obtain ⟨i, h1, h2⟩ := hx
   exact ⟨i, N + 1, h1, Nat.le_refl _, h2⟩
  ·obtain ⟨i, j, h1, h2, h3⟩ := ih (fun i => if f i = N then f (N + 1) else f i) (by
    intro i hi
    have a := h i (by omega)
    have b := h (N + 1) (Nat.le_refl _)
    show (if f i = N then f (N + 1) else f i) < N
    by_cases c : f i = N
    ·rw [if_pos c]
     have : f (N + 1) ≠ N := fun e => hx ⟨i, by omega, by rw [c, e]⟩
     omega
    ·rw [if_neg c]; omega)
   have e3 : (if f i = N then f (N + 1) else f i) = (if f j = N then f (N + 1) else f j) := h3
   refine ⟨i, j, h1, by omega, ?_⟩
   by_cases c : f i = N
   ·by_cases c' : f j = N
    ·rw [c, c']
    ·rw [if_pos c, if_neg c'] at e3
     exact absurd ⟨j, by omega, e3.symm⟩ hx
   ·by_cases c' : f j = N
    ·rw [if_neg c, if_pos c'] at e3
     exact absurd ⟨i, by omega, e3⟩ hx
    ·rw [if_neg c, if_neg c'] at e3
     exact e3
/-- All edges of the boundary lie between these corners. -/
def BoxE (S : Int → Int → Bool) (r : Rc) : Prop := ∀ e, Bnd S e → r.x0 ≤ e.x ∧ e.x ≤ r.x1 ∧ r.y0 ≤ e.y ∧ e.y ≤ r.y1
def boxN (r : Rc) : Nat := 4 * ((r.x1 - r.x0).toNat + 1) * ((r.y1 - r.y0).toNat + 1)
def codE (r : Rc) (e : Ed) : Nat := (e.d.toNat + 4 * (e.x - r.x0).toNat) + 4 * ((r.x1 - r.x0).toNat + 1) * (e.y - r.y0).toNat
theorem cod_lt {r : Rc} {e : Ed} (hd : 0 ≤ e.d ∧ e.d ≤ 3) (h : r.x0 ≤ e.x ∧ e.x ≤ r.x1 ∧ r.y0 ≤ e.y ∧ e.y ≤ r.y1) : codE r e < boxN r := by
 unfold codE boxN
 have h1 : (e.y - r.y0).toNat + 1 ≤ (r.y1 - r.y0).toNat + 1 := by omega
 have h2 := Nat.mul_le_mul_left (4 * ((r.x1 - r.x0).toNat + 1)) h1
 rw [Nat.mul_add, Nat.mul_one] at h2
 omega
theorem cod_inj {r : Rc} {e f : Ed} (hd : 0 ≤ e.d ∧ e.d ≤ 3) (h : r.x0 ≤ e.x ∧ e.x ≤ r.x1 ∧ r.y0 ≤ e.y ∧ e.y ≤ r.y1) (hd' : 0 ≤ f.d ∧ f.d ≤ 3) (h' : r.x0 ≤ f.x ∧ f.x ≤ r.x1 ∧ r.y0 ≤ f.y ∧ f.y ≤ r.y1) (k : codE r e = codE r f) : e = f := by
 unfold codE at k
 have hW : 0 < 4 * ((r.x1 - r.x0).toNat + 1) := by omega
 have a1 : e.d.toNat + 4 * (e.x - r.x0).toNat < 4 * ((r.x1 - r.x0).toNat + 1) := by omega
 have a2 : f.d.toNat + 4 * (f.x - r.x0).toNat < 4 * ((r.x1 - r.x0).toNat + 1) := by omega
 have k1 := congrArg (· % (4 * ((r.x1 - r.x0).toNat + 1))) k
 have k2 := congrArg (· / (4 * ((r.x1 - r.x0).toNat + 1))) k
 simp only [Nat.add_mul_mod_self_left, Nat.mod_eq_of_lt a1, Nat.mod_eq_of_lt a2] at k1
 simp only [Nat.add_mul_div_left _ _ hW, Nat.div_eq_of_lt a1, Nat.div_eq_of_lt a2, Nat.zero_add] at k2
 obtain ⟨x, y, d⟩ := e
 obtain ⟨x', y', d'⟩ := f
 simp only at *
 have : d = d' := by omega
 have : x = x' := by omega
 have : y = y' := by omega
 subst d' x' y'
 rfl
theorem orb_per {S : Int → Int → Bool} {r : Rc} (hb : BoxE S r) {s : Ed} (h : Bnd S s) : ∃ p, 0 < p ∧ p ≤ boxN r ∧ orbE S s p = s := by
 have hin := fun n => hb _ (orb_bnd h n)
 obtain ⟨i, j, h1, h2, h3⟩ := pigeon (boxN r) (fun n => codE r (orbE S s n)) (fun n _ => cod_lt (orb_bnd h n).1 (hin n))
 have e := cod_inj (orb_bnd h i).1 (hin i) (orb_bnd h j).1 (hin j) h3
 rw [show j = i + (j - i) by omega] at e
 exact ⟨j - i, by omega, by omega, (orb_back h i (j - i) e).symm⟩
def perF (f : Nat → Ed) (s : Ed) : Nat → Nat → Nat
 | 0, k => k
 | n + 1, k => if f k = s then k else perF f s n (k + 1)
theorem perF_spec (f : Nat → Ed) (s : Ed) : ∀ n k, (∃ p, k ≤ p ∧ p < k + n ∧ f p = s) → f (perF f s n k) = s ∧ k ≤ perF f s n k ∧ perF f s n k < k + n ∧ ∀ i, k ≤ i → i < perF f s n k → f i ≠ s
 | 0, k, ⟨p, h1, h2, _⟩ => absurd h2 (by omega)
 | n + 1, k, ⟨p, h1, h2, h3⟩ => by
  unfold perF
  by_cases h : f k = s
  ·rw [if_pos h]
   exact ⟨h, Nat.le_refl _, by omega, fun i a b => absurd b (by omega)⟩
  ·rw [if_neg h]
   have hp : p ≠ k := fun e => h (by rw [← e]; exact h3)
   obtain ⟨c1, c2, c3, c4⟩ := perF_spec f s n (k + 1) ⟨p, by omega, by omega, h3⟩
   refine ⟨c1, by omega, by omega, fun i a b => ?_⟩
   by_cases hi : i = k
   ·subst hi; exact h
   ·exact c4 i (by omega) b
/-- After so many steps the start is met again, for the first time. -/
def perE (S : Int → Int → Bool) (r : Rc) (s : Ed) : Nat := perF (orbE S s) s (boxN r) 1
theorem perE_spec {S : Int → Int → Bool} {r : Rc} (hb : BoxE S r) {s : Ed} (h : Bnd S s) : orbE S s (perE S r s) = s ∧ 1 ≤ perE S r s ∧ perE S r s ≤ boxN r ∧ ∀ i, 1 ≤ i → i < perE S r s → orbE S s i ≠ s := by
 obtain ⟨p, h1, h2, h3⟩ := orb_per hb h
 obtain ⟨c1, c2, c3, c4⟩ := perF_spec (orbE S s) s (boxN r) 1 ⟨p, h1, by omega, h3⟩
 exact ⟨c1, c2, by unfold perE; omega, c4⟩
def orbK (S : Int → Int → Bool) (s : Ed) (n : Nat) : List Ed := (List.range n).map (orbE S s)
def folE (S : Int → Int → Bool) (r : Rc) (s : Ed) : List Ed := orbK S s (perE S r s)
theorem orbK_len (S : Int → Int → Bool) (s : Ed) (n : Nat) : (orbK S s n).length = n := by unfold orbK; rw [List.length_map, List.length_range]
theorem orbK_snoc (S : Int → Int → Bool) (s : Ed) (n : Nat) : orbK S s (n + 1) = orbK S s n ++ [orbE S s n] := by
 unfold orbK
 rw [List.range_succ, List.map_append]
 rfl
/-! ### The corners of a closed list of edges; the polygons -/
def edG (l : List Ed) (i : Nat) : Ed := l.getD i ⟨0, 0, 0⟩
def cornB (l : List Ed) (i : Nat) : Bool := decide ((edG l ((i + l.length - 1) % l.length)).d ≠ (edG l i).d)
def cornK (l : List Ed) : Nat → List Pnt
 | 0 => []
 | k + 1 => cornK l k ++ (if cornB l k = true then [((edG l k).x, (edG l k).y)] else [])
def cornG (l : List Ed) : List Pnt := cornK l l.length
theorem cornK_len (l : List Ed) : ∀ k, (cornK l k).length ≤ k
 | 0 => Nat.le_refl _
 | k + 1 => by
  have := cornK_len l k
  show (cornK l k ++ (if cornB l k = true then [((edG l k).x, (edG l k).y)] else [])).length ≤ _
  rw [List.length_append]
  split
  ·simp only [List.length_cons, List.length_nil]; omega
  ·simp only [List.length_nil]; omega
/-- What the scan has: the edges that are done, the polygons. -/
abbrev ScSt := List Ed × List (List Pnt)
def scan1 (S : Int → Int → Bool) (r : Rc) (st : ScSt) (x y : Int) : ScSt :=
 if (decide ((⟨x, y, 0⟩ : Ed) ∈ st.1) || !hasE S x y 0) = true then st else (st.1 ++ folE S r ⟨x, y, 0⟩, st.2 ++ [cornG (folE S r ⟨x, y, 0⟩)])
def scanX (S : Int → Int → Bool) (r : Rc) (y : Int) (st : ScSt) : Nat → ScSt
 | 0 => st
 | k + 1 => scan1 S r (scanX S r y st k) (r.x0 + (k : Int)) y
def scanY (S : Int → Int → Bool) (r : Rc) : Nat → ScSt
 | 0 => ([], [])
 | k + 1 => scanX S r (r.y0 + (k : Int)) (scanY S r k) (r.x1 - r.x0).toNat
def outlG (S : Int → Int → Bool) (r : Rc) : List (List Pnt) := (scanY S r (r.y1 - r.y0).toNat).2
/- Plain: the mask that numbers describe; the box of a small raster's visible pixels. -/
def mkX (a : Int) : Int := a % 16 - 4
def mkY (a : Int) : Int := a.tdiv 16 % 16 - 4
def mkN (a : Int) : Nat := (1 + a.tdiv 256 % 3).toNat
def mkP (b : Int) : Px := ⟨0, 0, 0, b % 256⟩
theorem mkP_ok (b : Int) : (mkP b).ok := by unfold mkP Px.ok; simp only; omega
def mrunK (ls : List TA) (a b : Int) : Nat → List TA
 | 0 => ls
 | k + 1 => setR (mrunK ls a b k) (mkX a + (k : Int)) (mkY a) (mkP b)
def maskK (q : List Int) : Nat → List TA
 | 0 => []
 | j + 1 => mrunK (maskK q j) (numI q (2 * j)) (numI q (2 * j + 1)) (mkN (numI q (2 * j)))
def maskN (q : List Int) : Nat := min (q.length / 2) 30
def maskG (q : List Int) : List TA := maskK q (maskN q)
theorem mkN_bd (a : Int) : 1 ≤ mkN a ∧ mkN a ≤ 3 := by unfold mkN; omega
theorem mk_bd (a : Int) {k : Nat} (hk : k < mkN a) : (-16 ≤ mkX a + (k : Int) ∧ mkX a + (k : Int) ≤ 15) ∧ -16 ≤ mkY a ∧ mkY a ≤ 15 := by
 have := mkN_bd a
 unfold mkX mkY
 omega
theorem mk_bd2 (a : Int) {k : Nat} (hk : k < mkN a) : (-4 ≤ mkX a + (k : Int) ∧ mkX a + (k : Int) ≤ 13) ∧ -4 ≤ mkY a ∧ mkY a ≤ 11 := by
 have := mkN_bd a
 unfold mkX mkY
 omega
/-- Valid, few tiles, whole pixels; visible pixels near the origin. -/
structure MaskP (ls : List TA) : Prop where
 v : validL ls = true
 s : Small ls
 t : TokL ls
 g : ∀ x y, 0 < (getL ls x y).a → -4 ≤ x ∧ x ≤ 13 ∧ -4 ≤ y ∧ y ≤ 11
 c : ∀ x y, (getL ls x y).r = 0 ∧ (getL ls x y).g = 0 ∧ (getL ls x y).b = 0
theorem mrunK_P {ls : List TA} (h : MaskP ls) (a b : Int) : ∀ k, k ≤ mkN a → MaskP (mrunK ls a b k)
 | 0, _ => h
 | k + 1, hk => by
  have ih := mrunK_P h a b k (by omega)
  obtain ⟨hX, hY⟩ := mk_bd a (k := k) (by omega)
  obtain ⟨hX2, hY2⟩ := mk_bd2 a (k := k) (by omega)
  have hg := dot_get ih.v ih.s hX hY (mkP b)
  refine ⟨setR_valid _ _ _ _, dot_small ih.v ih.s hX hY _, setR_tok ih.t (mkP_ok b), fun x y hv => ?_, fun x y => ?_⟩
  ·have hv : 0 < (getL (setR (mrunK ls a b k) (mkX a + (k : Int)) (mkY a) (mkP b)) x y).a := hv
   rw [hg] at hv
   by_cases e : x = mkX a + (k : Int) ∧ y = mkY a
   ·omega
   ·rw [if_neg e] at hv
    exact ih.g x y hv
  ·show (getL (setR (mrunK ls a b k) (mkX a + (k : Int)) (mkY a) (mkP b)) x y).r = 0 ∧ _
   have e2 : getL (mrunK ls a b (k + 1)) x y = getL (setR (mrunK ls a b k) (mkX a + (k : Int)) (mkY a) (mkP b)) x y := rfl
   rw [e2, hg]
   split
   ·unfold cleanP mkP
    simp only
    split <;> exact ⟨rfl, rfl, rfl⟩
   ·exact ih.c x y
theorem mask_nil : MaskP [] := ⟨rfl, fun e he => (by cases he), fun e he => (by cases he), fun x y hv => absurd hv (by show ¬ (0 : Int) < 0; omega), fun x y => ⟨rfl, rfl, rfl⟩⟩
theorem maskK_P (q : List Int) : ∀ k, MaskP (maskK q k)
 | 0 => mask_nil
 | k + 1 => mrunK_P (maskK_P q k) _ _ _ (Nat.le_refl _)
theorem maskG_P (q : List Int) : MaskP (maskG q) := maskK_P q _
theorem MaskP.len {ls : List TA} (h : MaskP ls) : ls.length ≤ 16 := small_len (validL_srt h.v) h.s
/-- The set of the pixels whose alpha reaches t. -/
def setG (ls : List TA) (t : Int) (x y : Int) : Bool := decide (t ≤ (getL ls x y).a)
theorem setG_has {ls : List TA} {t : Int} (ht : 1 ≤ t) {x y : Int} (h : setG ls t x y = true) : hasR (boundL ls) x y = true :=
 boundL_has (getL_vis (by have := of_decide_eq_true h; omega))
theorem setG_box (ls : List TA) {t : Int} (ht : 1 ≤ t) : BoxE (setG ls t) (boundL ls) := by
 intro e ⟨hd, hh⟩
 have key : ∀ {x y : Int}, setG ls t x y = true → (boundL ls).x0 ≤ x ∧ x < (boundL ls).x1 ∧ (boundL ls).y0 ≤ y ∧ y < (boundL ls).y1 := fun h => (hasR_iff _ _ _).1 (setG_has ht h)
 obtain ⟨x, y, d⟩ := e
 simp only at hd hh ⊢
 rcases dir4 hd with rfl | rfl | rfl | rfl
 ·rw [has0, Bool.and_eq_true_iff] at hh
  have := key hh.1
  omega
 ·rw [has1, Bool.and_eq_true_iff] at hh
  have := key hh.1
  omega
 ·rw [has2, Bool.and_eq_true_iff] at hh
  have := key hh.1
  omega
 ·rw [has3, Bool.and_eq_true_iff] at hh
  have := key hh.1
  omega
end Go.Proofs.Ytamgpfblhlfhaaa
/- Image of both packages, whether the rectangle fits or not. -/
namespace Go.Proofs.Ytamgpfblhlfhaaa
open Go.RowKit Go.Shelf Pl
set_option linter.unusedVariables false
set_option linter.unusedSimpArgs false
set_option maxRecDepth 20000
def imR (c : Rc) : Rc := if fitsE c = 0 then c else Rc.zero
def imLs (c : Rc) (ks : List TA) : List Px := if fitsE c = 0 then imgL c ks else []
end Go.Proofs.Ytamgpfblhlfhaaa
