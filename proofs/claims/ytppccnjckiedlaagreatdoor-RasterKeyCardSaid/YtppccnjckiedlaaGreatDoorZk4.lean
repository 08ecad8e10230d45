import Derived.Test.YtppccnjckiedlaaGreatDoorZk3
import Derived.Deep.CutBlock
import Derived.Deep.DeepCutAuto
import Derived.Deep.MidRow
import Derived.Deep.Upon

/- Contracts of the reference's Get, Put, Set; of equal, Equal. -/
namespace Go.Proofs.YtppccnjckiedlaaGreatDoor
open Go.RowKit Go.Shelf Pl
set_option linter.unusedVariables false
set_option linter.unusedSimpArgs false
set_option maxRecDepth 20000

section
variable {o : Oper} {a : Act} {w : World} {Q : Exit → Act → World → Prop} {K : Act → World → Prop}
theorem owp_allocTb (ho : o.op = .alloc 37)
    (h : ∀ b w', w.heap.size ≤ b → b ≤ w.heap.size → TileAt w' b (fun _ => Px.zero) → Below b w w' → w'.heap.size = b + 1 → K (a.put o.dst (.pointer (some ⟨b, 0, none⟩))) w') : o.wp Tryz.prog a w K Q := by
  unfold Oper.wp
  rw [run_alloc_tile w o ho]
  exact h _ _ (Nat.le_refl _) (Nat.le_refl _) (by unfold TileAt; rw [heap_get_alloc, if_pos rfl]) ((Below.refl _ _).alloc (Nat.le_refl _) _) (World.size_alloc _ _)
theorem owp_allocBk {t : TypeId} (cs : Array Value) (hrun : ∀ ev, (execOp ev o).run Tryz.prog w = .ok (.value (.pointer (some ⟨w.heap.size, 0, none⟩))) (w.alloc (.cells cs t)))
    (h : ∀ b w', w.heap.size ≤ b → b ≤ w.heap.size → AtB t w' b cs → Below b w w' → w'.heap.size = b + 1 → K (a.put o.dst (.pointer (some ⟨b, 0, none⟩))) w') : o.wp Tryz.prog a w K Q := by
  unfold Oper.wp
  rw [hrun]
  exact h _ _ (Nat.le_refl _) (Nat.le_refl _) (by unfold AtB; rw [heap_get_alloc, if_pos rfl]) ((Below.refl _ _).alloc (Nat.le_refl _) _) (World.size_alloc _ _)
end
set_option maxHeartbeats 1000000 in
theorem R_PutR (v : Value) (ls : List TA) (x y : Int) (t : Nat → Px) (w : World) (h : RS v ls w) (tk : TokL ls) (hn : ls.length ≤ maxLen) (ht : Tok t) : Calls Tryz.prog 56 #[.agg #[v], .agg #[.int .i64 x, .int .i64 y], Tile.v t] w fun e w' => ∃ v', e = .returned (.agg #[v', .int .i64 (putE ls x y t)]) ∧ RS v' (putR ls x y t) w' ∧ Below w.heap.size w w' := by
  have B := Below.refl w.heap.size w
  obtain ⟨a', c', hT⟩ := R_Of v ls w h tk hn
  have HT := Lib.hid hT
  clear hT
  obtain ⟨a, c, rfl, hc⟩ := h.len
  cases hw : withinB x y with
  | false =>
    have e1 : putE ls x y t = 1 := by unfold putE; rw [hw]; rfl
    have e2 : putR ls x y t = [] := by unfold putR; rw [hw]; rfl
    rw [e1, e2]
    clear e1 e2
    go_enter Tryz.func56, Tryz.ntmps56
    go_wp2_with (first | (refine wpList_storeB (t := 66) rfl _ _ rfl _ rfl _ rfl g2 (by kernel_rfl) rfl (by simp [Value.oneCell']) ?_; clear g2; intro wn ht hcn hzn; have hsz := B.size; replace hzn := Nat.le_of_eq hzn.symm; replace B := Chg.below B hcn (by omega) B.size; (try replace r1 := r1.of_eq (hcn.block _ r1.lt (by omega))); (try replace p1 := p1.of_eq (hcn.block _ p1.lt (by omega))); (try replace u1 := u1.of_eq (hcn.block _ u1.lt (by omega))); have g2 := ht; clear ht; simp only [Act.put, putS]) | (go_at_call 75; refine (R_within x y _).mono ?_; rintro e wn ⟨rfl, hbn⟩; have hsz := B.size; have hzn := hbn.size; replace B := B.trans (hbn.mono B.size); (try first | replace r1 := r1.of_eq (hbn.block _ r1.lt) | replace r1 := r1.below hbn); (try first | replace p1 := p1.of_eq (hbn.block _ p1.lt) | replace p1 := p1.below hbn); (try first | replace u1 := u1.of_eq (hbn.block _ u1.lt) | replace u1 := u1.below hbn); (try first | replace g2 := g2.of_eq (hbn.block _ g2.lt) | replace g2 := g2.below hbn)) | (refine wpList_loadAny (t := 24) rfl _ rfl _ _ _ rfl (run_load_B p1 Tryz.isAgg24 (by kernel_rfl)) (by rfl) ?_; simp only [Act.put, putS]) | (have _ := u1; refine wpList_allocBk (t := 66) rfl _ (run_alloc_G _ _ rfl) ?_; intro b_g2 wn hle hge ht hbn hzn; have hsz := B.size; replace B := B.trans (hbn.mono (by omega)); have hln := Nat.lt_of_lt_of_eq (Nat.lt_succ_self _) hzn.symm; clear hzn; (try first | (have hlt := r1.lt; replace r1 := r1.of_eq (hbn.block _ (by omega))) | replace r1 := r1.below (hbn.mono hle)); (try first | (have hlt := p1.lt; replace p1 := p1.of_eq (hbn.block _ (by omega))) | replace p1 := p1.below (hbn.mono hle)); (try first | (have hlt := u1.lt; replace u1 := u1.of_eq (hbn.block _ (by omega))) | replace u1 := u1.below (hbn.mono hle)); (try first | (have hlt := g2.lt; replace g2 := g2.of_eq (hbn.block _ (by omega))) | replace g2 := g2.below (hbn.mono hle)); have g2 := ht; clear ht; simp only [Act.put, putS]) | (have _ := p1; refine wpList_boxT' rfl _ rfl _ rfl ?_; intro b_u1 wn hle hge ht hbn hzn; have hsz := B.size; replace B := B.trans (hbn.mono (by omega)); have hln := Nat.lt_of_lt_of_eq (Nat.lt_succ_self _) hzn.symm; clear hzn; (try first | (have hlt := r1.lt; replace r1 := r1.of_eq (hbn.block _ (by omega))) | replace r1 := r1.below (hbn.mono hle)); (try first | (have hlt := p1.lt; replace p1 := p1.of_eq (hbn.block _ (by omega))) | replace p1 := p1.below (hbn.mono hle)); (try first | (have hlt := u1.lt; replace u1 := u1.of_eq (hbn.block _ (by omega))) | replace u1 := u1.below (hbn.mono hle)); (try first | (have hlt := g2.lt; replace g2 := g2.of_eq (hbn.block _ (by omega))) | replace g2 := g2.below (hbn.mono hle)); have u1 := ht; clear ht; simp only [Act.put, putS]) | (have _ := r1; refine wpList_boxB (t := 24) rfl _ rfl _ rfl ?_; intro b_p1 wn hle hge ht hbn hzn; have hsz := B.size; replace B := B.trans (hbn.mono (by omega)); have hln := Nat.lt_of_lt_of_eq (Nat.lt_succ_self _) hzn.symm; clear hzn; (try first | (have hlt := r1.lt; replace r1 := r1.of_eq (hbn.block _ (by omega))) | replace r1 := r1.below (hbn.mono hle)); (try first | (have hlt := p1.lt; replace p1 := p1.of_eq (hbn.block _ (by omega))) | replace p1 := p1.below (hbn.mono hle)); (try first | (have hlt := u1.lt; replace u1 := u1.of_eq (hbn.block _ (by omega))) | replace u1 := u1.below (hbn.mono hle)); (try first | (have hlt := g2.lt; replace g2 := g2.of_eq (hbn.block _ (by omega))) | replace g2 := g2.below (hbn.mono hle)); have p1 := ht; clear ht; simp only [Act.put, putS]) | (refine wpList_boxB (t := 30) rfl _ rfl _ rfl ?_; intro b_r1 wn hle hge ht hbn hzn; have hsz := B.size; replace B := B.trans (hbn.mono (by omega)); have hln := Nat.lt_of_lt_of_eq (Nat.lt_succ_self _) hzn.symm; clear hzn; (try first | (have hlt := r1.lt; replace r1 := r1.of_eq (hbn.block _ (by omega))) | replace r1 := r1.below (hbn.mono hle)); (try first | (have hlt := p1.lt; replace p1 := p1.of_eq (hbn.block _ (by omega))) | replace p1 := p1.below (hbn.mono hle)); (try first | (have hlt := u1.lt; replace u1 := u1.of_eq (hbn.block _ (by omega))) | replace u1 := u1.below (hbn.mono hle)); (try first | (have hlt := g2.lt; replace g2 := g2.of_eq (hbn.block _ (by omega))) | replace g2 := g2.below (hbn.mono hle)); have r1 := ht; clear ht; simp only [Act.put, putS]) | fail)
    refine bodyPost_ret (results_B (t := 66) rfl _ _ (b_g2) rfl g2 Tryz.isAgg66 (by kernel_rfl)) rfl ?_
    exact ⟨_, rfl, RS.nil _, B⟩
  | true =>
    have SR := Lib.hid (validL_srt (fineL_valid ls))
    have CT : Hid (Tok (cleanT t)) := Lib.hid (fun i hi => cleanP_ok (ht i hi))
    have hfl := fineL_length ls
    have hpl := putL_length (fineL ls) x y (cleanT t)
    by_cases hm : (putL (fineL ls) x y (cleanT t)).length ≤ 1024
    · have e1 : putE ls x y t = 0 := by unfold putE manyE; rw [hw, if_pos rfl, if_pos hm]
      have e2 := Lib.hid (show putR ls x y t = putL (fineL ls) x y (cleanT t) by unfold putR manyL; rw [hw, if_pos rfl, if_pos hm])
      rw [e1]
      clear e1
      go_enter Tryz.func56, Tryz.ntmps56
      go_wp2_with (first | (go_at_call 75; refine (R_within x y _).mono ?_; rintro e wn ⟨rfl, hbn⟩; have hsz := B.size; have hzn := hbn.size; replace B := B.trans (hbn.mono B.size); (try first | replace r1 := r1.of_eq (hbn.block _ r1.lt) | replace r1 := r1.below hbn); (try first | replace p1 := p1.of_eq (hbn.block _ p1.lt) | replace p1 := p1.below hbn); (try first | replace u1 := u1.of_eq (hbn.block _ u1.lt) | replace u1 := u1.below hbn); (try first | replace g2 := g2.of_eq (hbn.block _ g2.lt) | replace g2 := g2.below hbn)) | (refine wpList_loadAny (t := 24) rfl _ rfl _ _ _ rfl (run_load_B p1 Tryz.isAgg24 (by kernel_rfl)) (by rfl) ?_; simp only [Act.put, putS]) | (have _ := u1; refine wpList_allocBk (t := 66) rfl _ (run_alloc_G _ _ rfl) ?_; intro b_g2 wn hle hge ht hbn hzn; have hsz := B.size; replace B := B.trans (hbn.mono (by omega)); have hln := Nat.lt_of_lt_of_eq (Nat.lt_succ_self _) hzn.symm; clear hzn; (try first | (have hlt := r1.lt; replace r1 := r1.of_eq (hbn.block _ (by omega))) | replace r1 := r1.below (hbn.mono hle)); (try first | (have hlt := p1.lt; replace p1 := p1.of_eq (hbn.block _ (by omega))) | replace p1 := p1.below (hbn.mono hle)); (try first | (have hlt := u1.lt; replace u1 := u1.of_eq (hbn.block _ (by omega))) | replace u1 := u1.below (hbn.mono hle)); (try first | (have hlt := g2.lt; replace g2 := g2.of_eq (hbn.block _ (by omega))) | replace g2 := g2.below (hbn.mono hle)); have g2 := ht; clear ht; simp only [Act.put, putS]) | (have _ := p1; refine wpList_boxT' rfl _ rfl _ rfl ?_; intro b_u1 wn hle hge ht hbn hzn; have hsz := B.size; replace B := B.trans (hbn.mono (by omega)); have hln := Nat.lt_of_lt_of_eq (Nat.lt_succ_self _) hzn.symm; clear hzn; (try first | (have hlt := r1.lt; replace r1 := r1.of_eq (hbn.block _ (by omega))) | replace r1 := r1.below (hbn.mono hle)); (try first | (have hlt := p1.lt; replace p1 := p1.of_eq (hbn.block _ (by omega))) | replace p1 := p1.below (hbn.mono hle)); (try first | (have hlt := u1.lt; replace u1 := u1.of_eq (hbn.block _ (by omega))) | replace u1 := u1.below (hbn.mono hle)); (try first | (have hlt := g2.lt; replace g2 := g2.of_eq (hbn.block _ (by omega))) | replace g2 := g2.below (hbn.mono hle)); have u1 := ht; clear ht; simp only [Act.put, putS]) | (have _ := r1; refine wpList_boxB (t := 24) rfl _ rfl _ rfl ?_; intro b_p1 wn hle hge ht hbn hzn; have hsz := B.size; replace B := B.trans (hbn.mono (by omega)); have hln := Nat.lt_of_lt_of_eq (Nat.lt_succ_self _) hzn.symm; clear hzn; (try first | (have hlt := r1.lt; replace r1 := r1.of_eq (hbn.block _ (by omega))) | replace r1 := r1.below (hbn.mono hle)); (try first | (have hlt := p1.lt; replace p1 := p1.of_eq (hbn.block _ (by omega))) | replace p1 := p1.below (hbn.mono hle)); (try first | (have hlt := u1.lt; replace u1 := u1.of_eq (hbn.block _ (by omega))) | replace u1 := u1.below (hbn.mono hle)); (try first | (have hlt := g2.lt; replace g2 := g2.of_eq (hbn.block _ (by omega))) | replace g2 := g2.below (hbn.mono hle)); have p1 := ht; clear ht; simp only [Act.put, putS]) | (refine wpList_boxB (t := 30) rfl _ rfl _ rfl ?_; intro b_r1 wn hle hge ht hbn hzn; have hsz := B.size; replace B := B.trans (hbn.mono (by omega)); have hln := Nat.lt_of_lt_of_eq (Nat.lt_succ_self _) hzn.symm; clear hzn; (try first | (have hlt := r1.lt; replace r1 := r1.of_eq (hbn.block _ (by omega))) | replace r1 := r1.below (hbn.mono hle)); (try first | (have hlt := p1.lt; replace p1 := p1.of_eq (hbn.block _ (by omega))) | replace p1 := p1.below (hbn.mono hle)); (try first | (have hlt := u1.lt; replace u1 := u1.of_eq (hbn.block _ (by omega))) | replace u1 := u1.below (hbn.mono hle)); (try first | (have hlt := g2.lt; replace g2 := g2.of_eq (hbn.block _ (by omega))) | replace g2 := g2.below (hbn.mono hle)); have r1 := ht; clear ht; simp only [Act.put, putS]) | fail)
      refine wp_region_ov_tail 4 (by kernel_rfl) (by kernel_rfl) ?_
      simp only [List.take_succ_cons, List.take_zero, List.drop_succ_cons, List.drop_zero]
      repeat (first | go_big_quiet_skip | (go_big_quiet_want; first | (refine quiet_loadAny (t := 30) rfl _ _ _ rfl (fun w hw => run_load_B (ov_B r1 w hw) Tryz.isAgg30 (by kernel_rfl)) (by rfl) ?_; simp only [Act.put, putS]; go_big_quiet_on) | (refine quiet_loadAny (t := 24) rfl _ _ _ rfl (fun w hw => run_load_B (ov_B p1 w hw) Tryz.isAgg24 (by kernel_rfl)) (by rfl) ?_; simp only [Act.put, putS]; go_big_quiet_on) | (refine quiet_loadT rfl _ rfl (ov_tile u1) ?_; simp only [Act.put, putS]; go_big_quiet_on) | (go_big_quiet_op; first | go_big_quiet_on | go_big_quiet_call ((first | (go_at_call 29; exact calls_ov (HT.out _ (below_ov B B.size _)).1))))))
      refine wpQuiet_nil ?_
      intro wn hbn
      have hsz := B.size
      have hzn := hbn.size
      replace B := B.trans (hbn.mono B.size)
      try first | replace r1 := r1.of_eq (hbn.block _ r1.lt) | replace r1 := r1.below hbn
      try first | replace p1 := p1.of_eq (hbn.block _ p1.lt) | replace p1 := p1.below hbn
      try first | replace u1 := u1.of_eq (hbn.block _ u1.lt) | replace u1 := u1.below hbn
      try first | replace g2 := g2.of_eq (hbn.block _ g2.lt) | replace g2 := g2.below hbn
      go_wp2_with (first | (refine wpList_storeB (t := 66) rfl _ _ rfl _ rfl _ rfl g2 (by kernel_rfl) rfl (by simp [Value.oneCell']) ?_; have g2o := g2; clear g2; intro wn ht hcn hzn; replace rs1 := rs1.chg g2o (by simp) hcn; have hsz := B.size; replace hzn := Nat.le_of_eq hzn.symm; replace B := Chg.below B hcn (by omega) B.size; (try replace r1 := r1.of_eq (hcn.block _ r1.lt (by omega))); (try replace p1 := p1.of_eq (hcn.block _ p1.lt (by omega))); (try replace u1 := u1.of_eq (hcn.block _ u1.lt (by omega))); have g2 := ht; clear ht; simp only [Act.put, putS]) | (go_at_call 76; refine (R_many _ _ _ _ (by unfold maxLen; omega)).mono ?_; rintro e wn ⟨rfl, hbn⟩; rw [if_pos hm]; have hsz := B.size; have hzn := hbn.size; replace B := B.trans (hbn.mono B.size); (try first | replace r1 := r1.of_eq (hbn.block _ r1.lt) | replace r1 := r1.below hbn); (try first | replace p1 := p1.of_eq (hbn.block _ p1.lt) | replace p1 := p1.below hbn); (try first | replace u1 := u1.of_eq (hbn.block _ u1.lt) | replace u1 := u1.below hbn); (try first | replace g2 := g2.of_eq (hbn.block _ g2.lt) | replace g2 := g2.below hbn); (try first | replace rs1 := rs1.of_eq (hbn.block _ rs1.lt) | replace rs1 := rs1.below hbn)) | (go_at_call 77; refine (R_put _ (fineL ls) x y t (cleanT t) _ (HT.out _ B).2 SR.out ht rfl (by omega)).mono ?_; rintro e wn ⟨v1, rfl, rs1, hbn⟩; obtain ⟨a1, c1, rfl, hc1⟩ := rs1.len; have hsz := B.size; have hzn := hbn.size; replace B := B.trans (hbn.mono B.size); (try first | replace r1 := r1.of_eq (hbn.block _ r1.lt) | replace r1 := r1.below hbn); (try first | replace p1 := p1.of_eq (hbn.block _ p1.lt) | replace p1 := p1.below hbn); (try first | replace u1 := u1.of_eq (hbn.block _ u1.lt) | replace u1 := u1.below hbn); (try first | replace g2 := g2.of_eq (hbn.block _ g2.lt) | replace g2 := g2.below hbn)) | fail)
      refine bodyPost_ret (results_B (t := 66) rfl _ _ (b_g2) rfl g2 Tryz.isAgg66 (by kernel_rfl)) rfl ?_
      exact ⟨_, rfl, by rw [e2.out]; exact rs1, B⟩
    · have e1 : putE ls x y t = 2 := by unfold putE manyE; rw [hw, if_pos rfl, if_neg hm]
      have e2 := Lib.hid (show putR ls x y t = [] by unfold putR manyL; rw [hw, if_pos rfl, if_neg hm])
      rw [e1]
      clear e1
      go_enter Tryz.func56, Tryz.ntmps56
      go_wp2_with (first | (go_at_call 75; refine (R_within x y _).mono ?_; rintro e wn ⟨rfl, hbn⟩; have hsz := B.size; have hzn := hbn.size; replace B := B.trans (hbn.mono B.size); (try first | replace r1 := r1.of_eq (hbn.block _ r1.lt) | replace r1 := r1.below hbn); (try first | replace p1 := p1.of_eq (hbn.block _ p1.lt) | replace p1 := p1.below hbn); (try first | replace u1 := u1.of_eq (hbn.block _ u1.lt) | replace u1 := u1.below hbn); (try first | replace g2 := g2.of_eq (hbn.block _ g2.lt) | replace g2 := g2.below hbn)) | (refine wpList_loadAny (t := 24) rfl _ rfl _ _ _ rfl (run_load_B p1 Tryz.isAgg24 (by kernel_rfl)) (by rfl) ?_; simp only [Act.put, putS]) | (have _ := u1; refine wpList_allocBk (t := 66) rfl _ (run_alloc_G _ _ rfl) ?_; intro b_g2 wn hle hge ht hbn hzn; have hsz := B.size; replace B := B.trans (hbn.mono (by omega)); have hln := Nat.lt_of_lt_of_eq (Nat.lt_succ_self _) hzn.symm; clear hzn; (try first | (have hlt := r1.lt; replace r1 := r1.of_eq (hbn.block _ (by omega))) | replace r1 := r1.below (hbn.mono hle)); (try first | (have hlt := p1.lt; replace p1 := p1.of_eq (hbn.block _ (by omega))) | replace p1 := p1.below (hbn.mono hle)); (try first | (have hlt := u1.lt; replace u1 := u1.of_eq (hbn.block _ (by omega))) | replace u1 := u1.below (hbn.mono hle)); (try first | (have hlt := g2.lt; replace g2 := g2.of_eq (hbn.block _ (by omega))) | replace g2 := g2.below (hbn.mono hle)); have g2 := ht; clear ht; simp only [Act.put, putS]) | (have _ := p1; refine wpList_boxT' rfl _ rfl _ rfl ?_; intro b_u1 wn hle hge ht hbn hzn; have hsz := B.size; replace B := B.trans (hbn.mono (by omega)); have hln := Nat.lt_of_lt_of_eq (Nat.lt_succ_self _) hzn.symm; clear hzn; (try first | (have hlt := r1.lt; replace r1 := r1.of_eq (hbn.block _ (by omega))) | replace r1 := r1.below (hbn.mono hle)); (try first | (have hlt := p1.lt; replace p1 := p1.of_eq (hbn.block _ (by omega))) | replace p1 := p1.below (hbn.mono hle)); (try first | (have hlt := u1.lt; replace u1 := u1.of_eq (hbn.block _ (by omega))) | replace u1 := u1.below (hbn.mono hle)); (try first | (have hlt := g2.lt; replace g2 := g2.of_eq (hbn.block _ (by omega))) | replace g2 := g2.below (hbn.mono hle)); have u1 := ht; clear ht; simp only [Act.put, putS]) | (have _ := r1; refine wpList_boxB (t := 24) rfl _ rfl _ rfl ?_; intro b_p1 wn hle hge ht hbn hzn; have hsz := B.size; replace B := B.trans (hbn.mono (by omega)); have hln := Nat.lt_of_lt_of_eq (Nat.lt_succ_self _) hzn.symm; clear hzn; (try first | (have hlt := r1.lt; replace r1 := r1.of_eq (hbn.block _ (by omega))) | replace r1 := r1.below (hbn.mono hle)); (try first | (have hlt := p1.lt; replace p1 := p1.of_eq (hbn.block _ (by omega))) | replace p1 := p1.below (hbn.mono hle)); (try first | (have hlt := u1.lt; replace u1 := u1.of_eq (hbn.block _ (by omega))) | replace u1 := u1.below (hbn.mono hle)); (try first | (have hlt := g2.lt; replace g2 := g2.of_eq (hbn.block _ (by omega))) | replace g2 := g2.below (hbn.mono hle)); have p1 := ht; clear ht; simp only [Act.put, putS]) | (refine wpList_boxB (t := 30) rfl _ rfl _ rfl ?_; intro b_r1 wn hle hge ht hbn hzn; have hsz := B.size; replace B := B.trans (hbn.mono (by omega)); have hln := Nat.lt_of_lt_of_eq (Nat.lt_succ_self _) hzn.symm; clear hzn; (try first | (have hlt := r1.lt; replace r1 := r1.of_eq (hbn.block _ (by omega))) | replace r1 := r1.below (hbn.mono hle)); (try first | (have hlt := p1.lt; replace p1 := p1.of_eq (hbn.block _ (by omega))) | replace p1 := p1.below (hbn.mono hle)); (try first | (have hlt := u1.lt; replace u1 := u1.of_eq (hbn.block _ (by omega))) | replace u1 := u1.below (hbn.mono hle)); (try first | (have hlt := g2.lt; replace g2 := g2.of_eq (hbn.block _ (by omega))) | replace g2 := g2.below (hbn.mono hle)); have r1 := ht; clear ht; simp only [Act.put, putS]) | fail)
      refine wp_region_ov_tail 4 (by kernel_rfl) (by kernel_rfl) ?_
      simp only [List.take_succ_cons, List.take_zero, List.drop_succ_cons, List.drop_zero]
      repeat (first | go_big_quiet_skip | (go_big_quiet_want; first | (refine quiet_loadAny (t := 30) rfl _ _ _ rfl (fun w hw => run_load_B (ov_B r1 w hw) Tryz.isAgg30 (by kernel_rfl)) (by rfl) ?_; simp only [Act.put, putS]; go_big_quiet_on) | (refine quiet_loadAny (t := 24) rfl _ _ _ rfl (fun w hw => run_load_B (ov_B p1 w hw) Tryz.isAgg24 (by kernel_rfl)) (by rfl) ?_; simp only [Act.put, putS]; go_big_quiet_on) | (refine quiet_loadT rfl _ rfl (ov_tile u1) ?_; simp only [Act.put, putS]; go_big_quiet_on) | (go_big_quiet_op; first | go_big_quiet_on | go_big_quiet_call ((first | (go_at_call 29; exact calls_ov (HT.out _ (below_ov B B.size _)).1))))))
      refine wpQuiet_nil ?_
      intro wn hbn
      have hsz := B.size
      have hzn := hbn.size
      replace B := B.trans (hbn.mono B.size)
      try first | replace r1 := r1.of_eq (hbn.block _ r1.lt) | replace r1 := r1.below hbn
      try first | replace p1 := p1.of_eq (hbn.block _ p1.lt) | replace p1 := p1.below hbn
      try first | replace u1 := u1.of_eq (hbn.block _ u1.lt) | replace u1 := u1.below hbn
      try first | replace g2 := g2.of_eq (hbn.block _ g2.lt) | replace g2 := g2.below hbn
      go_wp2_with (first | (refine wpList_storeB (t := 66) rfl _ _ rfl _ rfl _ rfl g2 (by kernel_rfl) rfl (by simp [Value.oneCell']) ?_; have g2o := g2; clear g2; intro wn ht hcn hzn; replace rs1 := rs1.chg g2o (by simp) hcn; have hsz := B.size; replace hzn := Nat.le_of_eq hzn.symm; replace B := Chg.below B hcn (by omega) B.size; (try replace r1 := r1.of_eq (hcn.block _ r1.lt (by omega))); (try replace p1 := p1.of_eq (hcn.block _ p1.lt (by omega))); (try replace u1 := u1.of_eq (hcn.block _ u1.lt (by omega))); have g2 := ht; clear ht; simp only [Act.put, putS]) | (go_at_call 76; refine (R_many _ _ _ _ (by unfold maxLen; omega)).mono ?_; rintro e wn ⟨rfl, hbn⟩; rw [if_neg hm]; have hsz := B.size; have hzn := hbn.size; replace B := B.trans (hbn.mono B.size); (try first | replace r1 := r1.of_eq (hbn.block _ r1.lt) | replace r1 := r1.below hbn); (try first | replace p1 := p1.of_eq (hbn.block _ p1.lt) | replace p1 := p1.below hbn); (try first | replace u1 := u1.of_eq (hbn.block _ u1.lt) | replace u1 := u1.below hbn); (try first | replace g2 := g2.of_eq (hbn.block _ g2.lt) | replace g2 := g2.below hbn); (try first | replace rs1 := rs1.of_eq (hbn.block _ rs1.lt) | replace rs1 := rs1.below hbn)) | (go_at_call 77; refine (R_put _ (fineL ls) x y t (cleanT t) _ (HT.out _ B).2 SR.out ht rfl (by omega)).mono ?_; rintro e wn ⟨v1, rfl, rs1, hbn⟩; obtain ⟨a1, c1, rfl, hc1⟩ := rs1.len; have hsz := B.size; have hzn := hbn.size; replace B := B.trans (hbn.mono B.size); (try first | replace r1 := r1.of_eq (hbn.block _ r1.lt) | replace r1 := r1.below hbn); (try first | replace p1 := p1.of_eq (hbn.block _ p1.lt) | replace p1 := p1.below hbn); (try first | replace u1 := u1.of_eq (hbn.block _ u1.lt) | replace u1 := u1.below hbn); (try first | replace g2 := g2.of_eq (hbn.block _ g2.lt) | replace g2 := g2.below hbn)) | fail)
      refine bodyPost_ret (results_B (t := 66) rfl _ _ (b_g2) rfl g2 Tryz.isAgg66 (by kernel_rfl)) rfl ?_
      exact ⟨_, rfl, by rw [e2.out]; exact RS.nil _, B⟩
set_option maxHeartbeats 2000000 in
theorem R_SetR (v : Value) (ls : List TA) (x y : Int) (p : Px) (w : World) (h : RS v ls w) (tk : TokL ls) (hn : ls.length ≤ maxLen) (hx : (Lit.int .i64 x).wf = true) (hy : (Lit.int .i64 y).wf = true) (hp : p.ok) : Calls Tryz.prog 23 #[.agg #[v], .int .i64 x, .int .i64 y, Px.v p] w fun e w' => ∃ v', e = .returned (.agg #[v', .int .i64 (setE ls x y p)]) ∧ RS v' (setR ls x y p) w' ∧ Below w.heap.size w w' := by
  have B := Below.refl w.heap.size w
  obtain ⟨a', c', hT⟩ := R_Of v ls w h tk hn
  have HT := Lib.hid hT
  clear hT
  obtain ⟨a, c, rfl, hc⟩ := h.len
  have HS := Lib.hid h
  have TK := Lib.hid tk
  have hfl : (fineL ls).length ≤ maxLen := by have := fineL_le ls; omega
  obtain ⟨l1, l2⟩ := wf_bd hx
  obtain ⟨l3, l4⟩ := wf_bd hy
  obtain ⟨q, hq⟩ : ∃ q, q = x / 8 := ⟨_, rfl⟩
  obtain ⟨q', hq'⟩ : ∃ q, q = y / 8 := ⟨_, rfl⟩
  have KK : Hid (Tok (setT (tileL (fineL ls) q q') (x % 8) (y % 8) p)) := Lib.hid (by rw [hq, hq']; exact setS_tok tk hp)
  have e1 := Lib.hid (show setE ls x y p = putE ls q q' (setT (tileL (fineL ls) q q') (x % 8) (y % 8) p) from by rw [hq, hq']; rfl)
  have e2 := Lib.hid (show setR ls x y p = putR ls q q' (setT (tileL (fineL ls) q q') (x % 8) (y % 8) p) from by rw [hq, hq']; rfl)
  have hAt : ∀ w, Calls Tryz.prog 54 #[.int .i64 x, .int .i64 y] w fun e w' => e = .returned (Ps.v q q') ∧ Below w.heap.size w w' := fun w => by rw [hq, hq']; exact R_At x y w hx hy
  have AT := Lib.hid hAt
  have f1 : x - 8 * q = x % 8 := by omega
  have f2 : y - 8 * q' = y % 8 := by omega
  have b1 : -9223372036854775808 ≤ 8 * q := by omega
  have b2 : 8 * q ≤ 9223372036854775807 := by omega
  have b3 : -9223372036854775808 ≤ 8 * q' := by omega
  have b4 : 8 * q' ≤ 9223372036854775807 := by omega
  clear hAt hq hq' hx hy tk h
  go_enter Tryz.func23, Tryz.ntmps23
  go_upto_region 2 with (first | (refine wpList_loadAny (t := 24) rfl _ rfl _ _ _ rfl (run_load_B p2 Tryz.isAgg24 (by kernel_rfl)) (by rfl) ?_; simp only [Act.put, putS]) | (refine wpList_storeB (t := 24) rfl _ _ rfl _ rfl _ rfl p2 (by kernel_rfl) rfl (by simp [Value.oneCell']) ?_; clear p2; intro wn ht hcn hzn; have hsz := B.size; replace hzn := Nat.le_of_eq hzn.symm; replace B := Chg.below B hcn (by omega) B.size; (try replace r1 := r1.of_eq (hcn.block _ r1.lt (by omega))); (try replace q1 := q1.of_eq (hcn.block _ q1.lt (by omega))); (try replace g2 := g2.of_eq (hcn.block _ g2.lt (by omega))); (try replace u2 := u2.of_eq (hcn.block _ u2.lt (by omega))); have p2 := ht; clear ht; simp only [Act.put, putS]) | (have _ := g2; refine wpList_allocBk (t := 24) rfl _ (run_alloc_Ps _ _ rfl) ?_; intro b_p2 wn hle hge ht hbn hzn; have hsz := B.size; replace B := B.trans (hbn.mono (by omega)); have hln := Nat.lt_of_lt_of_eq (Nat.lt_succ_self _) hzn.symm; clear hzn; (try first | (have hlt := r1.lt; replace r1 := r1.of_eq (hbn.block _ (by omega))) | replace r1 := r1.below (hbn.mono hle)); (try first | (have hlt := q1.lt; replace q1 := q1.of_eq (hbn.block _ (by omega))) | replace q1 := q1.below (hbn.mono hle)); (try first | (have hlt := g2.lt; replace g2 := g2.of_eq (hbn.block _ (by omega))) | replace g2 := g2.below (hbn.mono hle)); (try first | (have hlt := p2.lt; replace p2 := p2.of_eq (hbn.block _ (by omega))) | replace p2 := p2.below (hbn.mono hle)); (try first | (have hlt := u2.lt; replace u2 := u2.of_eq (hbn.block _ (by omega))) | replace u2 := u2.below (hbn.mono hle)); have p2 := ht; clear ht; simp only [Act.put, putS]) | (go_at_call 54; refine (AT.out _).mono ?_; rintro e wn ⟨rfl, hbn⟩; have hsz := B.size; have hzn := hbn.size; replace B := B.trans (hbn.mono B.size); (try first | replace r1 := r1.of_eq (hbn.block _ r1.lt) | replace r1 := r1.below hbn); (try first | replace q1 := q1.of_eq (hbn.block _ q1.lt) | replace q1 := q1.below hbn); (try first | replace g2 := g2.of_eq (hbn.block _ g2.lt) | replace g2 := g2.below hbn); (try first | replace p2 := p2.of_eq (hbn.block _ p2.lt) | replace p2 := p2.below hbn); (try first | replace u2 := u2.of_eq (hbn.block _ u2.lt) | replace u2 := u2.below hbn)) | (have _ := q1; refine wpList_allocBk (t := 66) rfl _ (run_alloc_G _ _ rfl) ?_; intro b_g2 wn hle hge ht hbn hzn; have hsz := B.size; replace B := B.trans (hbn.mono (by omega)); have hln := Nat.lt_of_lt_of_eq (Nat.lt_succ_self _) hzn.symm; clear hzn; (try first | (have hlt := r1.lt; replace r1 := r1.of_eq (hbn.block _ (by omega))) | replace r1 := r1.below (hbn.mono hle)); (try first | (have hlt := q1.lt; replace q1 := q1.of_eq (hbn.block _ (by omega))) | replace q1 := q1.below (hbn.mono hle)); (try first | (have hlt := g2.lt; replace g2 := g2.of_eq (hbn.block _ (by omega))) | replace g2 := g2.below (hbn.mono hle)); (try first | (have hlt := p2.lt; replace p2 := p2.of_eq (hbn.block _ (by omega))) | replace p2 := p2.below (hbn.mono hle)); (try first | (have hlt := u2.lt; replace u2 := u2.of_eq (hbn.block _ (by omega))) | replace u2 := u2.below (hbn.mono hle)); have g2 := ht; clear ht; simp only [Act.put, putS]) | (have _ := r1; refine wpList_boxPx' rfl _ rfl _ rfl ?_; intro b_q1 wn hle hge ht hbn hzn; have hsz := B.size; replace B := B.trans (hbn.mono (by omega)); have hln := Nat.lt_of_lt_of_eq (Nat.lt_succ_self _) hzn.symm; clear hzn; (try first | (have hlt := r1.lt; replace r1 := r1.of_eq (hbn.block _ (by omega))) | replace r1 := r1.below (hbn.mono hle)); (try first | (have hlt := q1.lt; replace q1 := q1.of_eq (hbn.block _ (by omega))) | replace q1 := q1.below (hbn.mono hle)); (try first | (have hlt := g2.lt; replace g2 := g2.of_eq (hbn.block _ (by omega))) | replace g2 := g2.below (hbn.mono hle)); (try first | (have hlt := p2.lt; replace p2 := p2.of_eq (hbn.block _ (by omega))) | replace p2 := p2.below (hbn.mono hle)); (try first | (have hlt := u2.lt; replace u2 := u2.of_eq (hbn.block _ (by omega))) | replace u2 := u2.below (hbn.mono hle)); have q1 := ht; clear ht; simp only [Act.put, putS]) | (refine wpList_boxB (t := 30) rfl _ rfl _ rfl ?_; intro b_r1 wn hle hge ht hbn hzn; have hsz := B.size; replace B := B.trans (hbn.mono (by omega)); have hln := Nat.lt_of_lt_of_eq (Nat.lt_succ_self _) hzn.symm; clear hzn; (try first | (have hlt := r1.lt; replace r1 := r1.of_eq (hbn.block _ (by omega))) | replace r1 := r1.below (hbn.mono hle)); (try first | (have hlt := q1.lt; replace q1 := q1.of_eq (hbn.block _ (by omega))) | replace q1 := q1.below (hbn.mono hle)); (try first | (have hlt := g2.lt; replace g2 := g2.of_eq (hbn.block _ (by omega))) | replace g2 := g2.below (hbn.mono hle)); (try first | (have hlt := p2.lt; replace p2 := p2.of_eq (hbn.block _ (by omega))) | replace p2 := p2.below (hbn.mono hle)); (try first | (have hlt := u2.lt; replace u2 := u2.of_eq (hbn.block _ (by omega))) | replace u2 := u2.below (hbn.mono hle)); have r1 := ht; clear ht; simp only [Act.put, putS]) | fail)
  have hp2 := p2.lt
  go_cut [10] from 14 to 17 (fun s wx => ∃ b, s = .pointer (some ⟨b, 0, none⟩) ∧ TileAt wx b (tileL (fineL ls) q q') ∧ Below w.heap.size w wx ∧ b_p2 < b ∧ AtB 30 wx b_r1 #[.slice a ls.length c] ∧ PixAt wx b_q1 p ∧ AtB 66 wx b_g2 #[.slice none 0 0, .int .i64 0] ∧ AtB 24 wx b_p2 #[.int .i64 q, .int .i64 q'])
  case first =>
    try have r1B := r1
    try have q1B := q1
    try have g2B := g2
    try have p2B := p2
    try have u2B := u2
    refine wp_region_X0 5 #[false, false, false, false, false, false] (by kernel_rfl) (by kernel_rfl) ?_
    intro wn hbn
    have hX := hbn
    have hsz := B.size
    have hzn := hbn.size
    replace B := B.trans (hbn.mono B.size)
    try first | replace r1 := r1.of_eq (hbn.block _ r1.lt) | replace r1 := r1.below hbn
    try first | replace q1 := q1.of_eq (hbn.block _ q1.lt) | replace q1 := q1.below hbn
    try first | replace g2 := g2.of_eq (hbn.block _ g2.lt) | replace g2 := g2.below hbn
    try first | replace p2 := p2.of_eq (hbn.block _ p2.lt) | replace p2 := p2.below hbn
    try first | replace u2 := u2.of_eq (hbn.block _ u2.lt) | replace u2 := u2.below hbn
    simp only [List.length_cons, List.length_nil, Nat.reduceAdd]
    refine anyX_take 0 rfl (by kernel_rfl) ⟨_, ov_of hX⟩ ?_
    intro K hK
    try simp only [List.getElem_toArray, List.getElem_cons_zero, List.getElem_cons_succ]
    (first | (refine quiet_loadAny (t := 30) rfl _ _ _ rfl (fun w hw => run_load_B (ov_B r1B w hw) Tryz.isAgg30 (by kernel_rfl)) (by rfl) ?_; simp only [Act.put, putS]; go_big_quiet_on) | (refine quiet_loadAny (t := 24) rfl _ _ _ rfl (fun w hw => run_load_B (ov_B p2B w hw) Tryz.isAgg24 (by kernel_rfl)) (by rfl) ?_; simp only [Act.put, putS]; go_big_quiet_on) | (go_big_quiet_op; go_big_quiet_on))
    simp only [Act.put, putS]
    refine anyX_take 2 rfl (by kernel_rfl) ⟨_, ov_of hX⟩ ?_
    intro K hK
    try simp only [List.getElem_toArray, List.getElem_cons_zero, List.getElem_cons_succ]
    (first | (refine quiet_loadAny (t := 30) rfl _ _ _ rfl (fun w hw => run_load_B (ov_B r1B w hw) Tryz.isAgg30 (by kernel_rfl)) (by rfl) ?_; simp only [Act.put, putS]; go_big_quiet_on) | (refine quiet_loadAny (t := 24) rfl _ _ _ rfl (fun w hw => run_load_B (ov_B p2B w hw) Tryz.isAgg24 (by kernel_rfl)) (by rfl) ?_; simp only [Act.put, putS]; go_big_quiet_on) | (go_big_quiet_op; go_big_quiet_on))
    simp only [Act.put, putS]
    refine anyX_two 1 4 rfl rfl (by kernel_rfl) rfl rfl (fun K hK => ?_) (fun K hK => ?_)
    · skip
      try simp only [List.getElem_toArray, List.getElem_cons_zero, List.getElem_cons_succ]
      go_simp
      go_at_call 29
      refine ((HT.out _ B).1).mono ?_
      rintro e wn ⟨rfl, hbn⟩
      have hsz := B.size
      have hzn := hbn.size
      have hsx := hX.size
      replace B := B.trans (hbn.mono B.size)
      replace hX := hX.trans (hbn.mono hX.size)
      try first | replace r1 := r1.of_eq (hbn.block _ r1.lt) | replace r1 := r1.below hbn
      try first | replace q1 := q1.of_eq (hbn.block _ q1.lt) | replace q1 := q1.below hbn
      try first | replace g2 := g2.of_eq (hbn.block _ g2.lt) | replace g2 := g2.below hbn
      try first | replace p2 := p2.of_eq (hbn.block _ p2.lt) | replace p2 := p2.below hbn
      try first | replace u2 := u2.of_eq (hbn.block _ u2.lt) | replace u2 := u2.below hbn
      refine hK _ _ ⟨fun _ => ⟨_, ov_of hX⟩, ?_⟩
      clear hK K
      try simp only [List.getElem_toArray, List.getElem_cons_zero, List.getElem_cons_succ]
      simp only [Act.put, putS]
      refine anyX_two 3 4 rfl rfl (by kernel_rfl) rfl rfl (fun K hK => ?_) (fun K hK => ?_)
      · skip
        try simp only [List.getElem_toArray, List.getElem_cons_zero, List.getElem_cons_succ]
        go_simp
        go_at_call 55
        refine (R_Tile _ (fineL ls) q q' _ (HT.out _ B).2 hfl).mono ?_
        rintro e wn ⟨rfl, hbn⟩
        have hsz := B.size
        have hzn := hbn.size
        have hsx := hX.size
        replace B := B.trans (hbn.mono B.size)
        replace hX := hX.trans (hbn.mono hX.size)
        try first | replace r1 := r1.of_eq (hbn.block _ r1.lt) | replace r1 := r1.below hbn
        try first | replace q1 := q1.of_eq (hbn.block _ q1.lt) | replace q1 := q1.below hbn
        try first | replace g2 := g2.of_eq (hbn.block _ g2.lt) | replace g2 := g2.below hbn
        try first | replace p2 := p2.of_eq (hbn.block _ p2.lt) | replace p2 := p2.below hbn
        try first | replace u2 := u2.of_eq (hbn.block _ u2.lt) | replace u2 := u2.below hbn
        refine hK _ _ ⟨fun _ => ⟨_, ov_of hX⟩, ?_⟩
        clear hK K
        try simp only [List.getElem_toArray, List.getElem_cons_zero, List.getElem_cons_succ]
        simp only [Act.put, putS]
        refine anyX_next 4 rfl (by kernel_rfl) rfl (fun K hK => ?_)
        try simp only [List.getElem_toArray, List.getElem_cons_zero, List.getElem_cons_succ]
        refine owp_allocTb rfl ?_
        intro b_u2 wn hle hge ht hbn hzn
        have hsz := B.size
        have hsx := hX.size
        replace B := B.trans (hbn.mono (by omega))
        replace hX := hX.trans (hbn.mono (by omega))
        try first | (have hlt := r1.lt; replace r1 := r1.of_eq (hbn.block _ (by omega))) | replace r1 := r1.below (hbn.mono hle)
        try first | (have hlt := q1.lt; replace q1 := q1.of_eq (hbn.block _ (by omega))) | replace q1 := q1.below (hbn.mono hle)
        try first | (have hlt := g2.lt; replace g2 := g2.of_eq (hbn.block _ (by omega))) | replace g2 := g2.below (hbn.mono hle)
        try first | (have hlt := p2.lt; replace p2 := p2.of_eq (hbn.block _ (by omega))) | replace p2 := p2.below (hbn.mono hle)
        try first | (have hlt := u2.lt; replace u2 := u2.of_eq (hbn.block _ (by omega))) | replace u2 := u2.below (hbn.mono hle)
        have u2 := ht
        clear ht
        refine hK _ _ ⟨fun _ => ⟨_, ov_of hX⟩, ?_⟩
        clear hK K
        try simp only [List.getElem_toArray, List.getElem_cons_zero, List.getElem_cons_succ]
        simp only [Act.put, putS]
        refine anyX_seq (by kernel_rfl) (by kernel_rfl) ?_
        simp only [List.drop_succ_cons, List.drop_zero]
        go_wp2_with (first | (refine wpList_storeT rfl _ _ rfl _ rfl _ rfl u2 ?_; clear u2; intro wn ht hcn hzn; have hsz := B.size; replace hzn := Nat.le_of_eq hzn.symm; replace B := Chg.below B hcn (by omega) B.size; (try replace r1 := r1.of_eq (hcn.block _ r1.lt (by omega))); (try replace q1 := q1.of_eq (hcn.block _ q1.lt (by omega))); (try replace g2 := g2.of_eq (hcn.block _ g2.lt (by omega))); (try replace p2 := p2.of_eq (hcn.block _ p2.lt (by omega))); have u2 := ht; clear ht; simp only [Act.put, putS]) | fail)
        refine NoPan.normal ?_
        go_wp2_with fail
        go_meet
        exact ⟨_, rfl, u2, B, by omega, r1, q1, g2, p2⟩
      · skip
        try simp only [List.getElem_toArray, List.getElem_cons_zero, List.getElem_cons_succ]
        refine owp_allocTb rfl ?_
        intro b_u2 wn hle hge ht hbn hzn
        have hsz := B.size
        have hsx := hX.size
        replace B := B.trans (hbn.mono (by omega))
        replace hX := hX.trans (hbn.mono (by omega))
        try first | (have hlt := r1.lt; replace r1 := r1.of_eq (hbn.block _ (by omega))) | replace r1 := r1.below (hbn.mono hle)
        try first | (have hlt := q1.lt; replace q1 := q1.of_eq (hbn.block _ (by omega))) | replace q1 := q1.below (hbn.mono hle)
        try first | (have hlt := g2.lt; replace g2 := g2.of_eq (hbn.block _ (by omega))) | replace g2 := g2.below (hbn.mono hle)
        try first | (have hlt := p2.lt; replace p2 := p2.of_eq (hbn.block _ (by omega))) | replace p2 := p2.below (hbn.mono hle)
        try first | (have hlt := u2.lt; replace u2 := u2.of_eq (hbn.block _ (by omega))) | replace u2 := u2.below (hbn.mono hle)
        have u2 := ht
        clear ht
        refine hK _ _ ⟨fun _ => ⟨_, ov_of hX⟩, ?_⟩
        clear hK K
        try simp only [List.getElem_toArray, List.getElem_cons_zero, List.getElem_cons_succ]
        simp only [Act.put, putS]
        refine anyX_next 3 rfl (by kernel_rfl) rfl (fun K hK => ?_)
        try simp only [List.getElem_toArray, List.getElem_cons_zero, List.getElem_cons_succ]
        go_simp
        go_at_call 55
        refine (R_Tile _ (fineL ls) q q' _ (HT.out _ B).2 hfl).mono ?_
        rintro e wn ⟨rfl, hbn⟩
        have hsz := B.size
        have hzn := hbn.size
        have hsx := hX.size
        replace B := B.trans (hbn.mono B.size)
        replace hX := hX.trans (hbn.mono hX.size)
        try first | replace r1 := r1.of_eq (hbn.block _ r1.lt) | replace r1 := r1.below hbn
        try first | replace q1 := q1.of_eq (hbn.block _ q1.lt) | replace q1 := q1.below hbn
        try first | replace g2 := g2.of_eq (hbn.block _ g2.lt) | replace g2 := g2.below hbn
        try first | replace p2 := p2.of_eq (hbn.block _ p2.lt) | replace p2 := p2.below hbn
        try first | replace u2 := u2.of_eq (hbn.block _ u2.lt) | replace u2 := u2.below hbn
        refine hK _ _ ⟨fun _ => ⟨_, ov_of hX⟩, ?_⟩
        clear hK K
        try simp only [List.getElem_toArray, List.getElem_cons_zero, List.getElem_cons_succ]
        simp only [Act.put, putS]
        refine anyX_seq (by kernel_rfl) (by kernel_rfl) ?_
        simp only [List.drop_succ_cons, List.drop_zero]
        go_wp2_with (first | (refine wpList_storeT rfl _ _ rfl _ rfl _ rfl u2 ?_; clear u2; intro wn ht hcn hzn; have hsz := B.size; replace hzn := Nat.le_of_eq hzn.symm; replace B := Chg.below B hcn (by omega) B.size; (try replace r1 := r1.of_eq (hcn.block _ r1.lt (by omega))); (try replace q1 := q1.of_eq (hcn.block _ q1.lt (by omega))); (try replace g2 := g2.of_eq (hcn.block _ g2.lt (by omega))); (try replace p2 := p2.of_eq (hcn.block _ p2.lt (by omega))); have u2 := ht; clear ht; simp only [Act.put, putS]) | fail)
        refine NoPan.normal ?_
        go_wp2_with fail
        go_meet
        exact ⟨_, rfl, u2, B, by omega, r1, q1, g2, p2⟩
    · skip
      try simp only [List.getElem_toArray, List.getElem_cons_zero, List.getElem_cons_succ]
      refine owp_allocTb rfl ?_
      intro b_u2 wn hle hge ht hbn hzn
      have hsz := B.size
      have hsx := hX.size
      replace B := B.trans (hbn.mono (by omega))
      replace hX := hX.trans (hbn.mono (by omega))
      try first | (have hlt := r1.lt; replace r1 := r1.of_eq (hbn.block _ (by omega))) | replace r1 := r1.below (hbn.mono hle)
      try first | (have hlt := q1.lt; replace q1 := q1.of_eq (hbn.block _ (by omega))) | replace q1 := q1.below (hbn.mono hle)
      try first | (have hlt := g2.lt; replace g2 := g2.of_eq (hbn.block _ (by omega))) | replace g2 := g2.below (hbn.mono hle)
      try first | (have hlt := p2.lt; replace p2 := p2.of_eq (hbn.block _ (by omega))) | replace p2 := p2.below (hbn.mono hle)
      try first | (have hlt := u2.lt; replace u2 := u2.of_eq (hbn.block _ (by omega))) | replace u2 := u2.below (hbn.mono hle)
      have u2 := ht
      clear ht
      refine hK _ _ ⟨fun _ => ⟨_, ov_of hX⟩, ?_⟩
      clear hK K
      try simp only [List.getElem_toArray, List.getElem_cons_zero, List.getElem_cons_succ]
      simp only [Act.put, putS]
      refine anyX_next 1 rfl (by kernel_rfl) rfl (fun K hK => ?_)
      try simp only [List.getElem_toArray, List.getElem_cons_zero, List.getElem_cons_succ]
      go_simp
      go_at_call 29
      refine ((HT.out _ B).1).mono ?_
      rintro e wn ⟨rfl, hbn⟩
      have hsz := B.size
      have hzn := hbn.size
      have hsx := hX.size
      replace B := B.trans (hbn.mono B.size)
      replace hX := hX.trans (hbn.mono hX.size)
      try first | replace r1 := r1.of_eq (hbn.block _ r1.lt) | replace r1 := r1.below hbn
      try first | replace q1 := q1.of_eq (hbn.block _ q1.lt) | replace q1 := q1.below hbn
      try first | replace g2 := g2.of_eq (hbn.block _ g2.lt) | replace g2 := g2.below hbn
      try first | replace p2 := p2.of_eq (hbn.block _ p2.lt) | replace p2 := p2.below hbn
      try first | replace u2 := u2.of_eq (hbn.block _ u2.lt) | replace u2 := u2.below hbn
      refine hK _ _ ⟨fun _ => ⟨_, ov_of hX⟩, ?_⟩
      clear hK K
      try simp only [List.getElem_toArray, List.getElem_cons_zero, List.getElem_cons_succ]
      simp only [Act.put, putS]
      refine anyX_next 3 rfl (by kernel_rfl) rfl (fun K hK => ?_)
      try simp only [List.getElem_toArray, List.getElem_cons_zero, List.getElem_cons_succ]
      go_simp
      go_at_call 55
      refine (R_Tile _ (fineL ls) q q' _ (HT.out _ B).2 hfl).mono ?_
      rintro e wn ⟨rfl, hbn⟩
      have hsz := B.size
      have hzn := hbn.size
      have hsx := hX.size
      replace B := B.trans (hbn.mono B.size)
      replace hX := hX.trans (hbn.mono hX.size)
      try first | replace r1 := r1.of_eq (hbn.block _ r1.lt) | replace r1 := r1.below hbn
      try first | replace q1 := q1.of_eq (hbn.block _ q1.lt) | replace q1 := q1.below hbn
      try first | replace g2 := g2.of_eq (hbn.block _ g2.lt) | replace g2 := g2.below hbn
      try first | replace p2 := p2.of_eq (hbn.block _ p2.lt) | replace p2 := p2.below hbn
      try first | replace u2 := u2.of_eq (hbn.block _ u2.lt) | replace u2 := u2.below hbn
      refine hK _ _ ⟨fun _ => ⟨_, ov_of hX⟩, ?_⟩
      clear hK K
      try simp only [List.getElem_toArray, List.getElem_cons_zero, List.getElem_cons_succ]
      simp only [Act.put, putS]
      refine anyX_seq (by kernel_rfl) (by kernel_rfl) ?_
      simp only [List.drop_succ_cons, List.drop_zero]
      go_wp2_with (first | (refine wpList_storeT rfl _ _ rfl _ rfl _ rfl u2 ?_; clear u2; intro wn ht hcn hzn; have hsz := B.size; replace hzn := Nat.le_of_eq hzn.symm; replace B := Chg.below B hcn (by omega) B.size; (try replace r1 := r1.of_eq (hcn.block _ r1.lt (by omega))); (try replace q1 := q1.of_eq (hcn.block _ q1.lt (by omega))); (try replace g2 := g2.of_eq (hcn.block _ g2.lt (by omega))); (try replace p2 := p2.of_eq (hcn.block _ p2.lt (by omega))); have u2 := ht; clear ht; simp only [Act.put, putS]) | fail)
      refine NoPan.normal ?_
      go_wp2_with fail
      go_meet
      exact ⟨_, rfl, u2, B, by omega, r1, q1, g2, p2⟩
  case rest =>
    obtain ⟨b_u2, rfl, u2, B, hb2, r1, q1, g2, p2⟩ := hcut
    go_wp2
    refine wp_region_ov_tail 15 (by kernel_rfl) (by kernel_rfl) ?_
    simp only [List.take_succ_cons, List.take_zero, List.drop_succ_cons, List.drop_zero]
    repeat (first | go_big_quiet_skip | (go_big_quiet_want; first | (refine quiet_loadAny (t := 30) rfl _ _ _ rfl (fun w hw => run_load_B (ov_B r1 w hw) Tryz.isAgg30 (by kernel_rfl)) (by rfl) ?_; simp only [Act.put, putS]; go_big_quiet_on) | (refine quiet_loadAny (t := 3) rfl _ _ _ rfl (fun w hw => run_load_int ((ov_B p2 w hw).cell 0 rfl)) (by rfl) ?_; simp only [Act.put, putS]; go_big_quiet_on) | (refine quiet_loadAny (t := 3) rfl _ _ _ rfl (fun w hw => run_load_int ((ov_B p2 w hw).cell 1 rfl)) (by rfl) ?_; simp only [Act.put, putS]; go_big_quiet_on) | (refine quiet_loadAny (t := 24) rfl _ _ _ rfl (fun w hw => run_load_B (ov_B p2 w hw) Tryz.isAgg24 (by kernel_rfl)) (by rfl) ?_; simp only [Act.put, putS]; go_big_quiet_on) | (refine quiet_loadT rfl _ rfl (ov_tile u2) ?_; simp only [Act.put, putS]; go_big_quiet_on) | (refine quiet_loadPx rfl _ rfl (ov_px q1) ?_; simp only [Act.put, putS]; go_big_quiet_on) | (go_big_quiet_op; first | go_big_quiet_on | go_big_quiet_call ((first | (go_at_call 57; exact calls_ov (R_Set _ _ _ _ _)))))))
    refine wpQuiet_nil ?_
    intro wn hbn
    have hsz := B.size
    have hzn := hbn.size
    replace B := B.trans (hbn.mono B.size)
    try first | replace r1 := r1.of_eq (hbn.block _ r1.lt) | replace r1 := r1.below hbn
    try first | replace q1 := q1.of_eq (hbn.block _ q1.lt) | replace q1 := q1.below hbn
    try first | replace g2 := g2.of_eq (hbn.block _ g2.lt) | replace g2 := g2.below hbn
    try first | replace p2 := p2.of_eq (hbn.block _ p2.lt) | replace p2 := p2.below hbn
    try first | replace u2 := u2.of_eq (hbn.block _ u2.lt) | replace u2 := u2.below hbn
    go_wp2_with (first | (refine wpList_storeB (t := 66) rfl _ _ rfl _ rfl _ rfl g2 (by kernel_rfl) rfl (by simp [Value.oneCell']) ?_; have g2o := g2; clear g2; intro wn ht hcn hzn; replace rs1 := rs1.chg g2o (by simp) hcn; have hsz := B.size; replace hzn := Nat.le_of_eq hzn.symm; replace B := Chg.below B hcn (by omega) B.size; (try replace r1 := r1.of_eq (hcn.block _ r1.lt (by omega))); (try replace q1 := q1.of_eq (hcn.block _ q1.lt (by omega))); (try replace p2 := p2.of_eq (hcn.block _ p2.lt (by omega))); (try replace u2 := u2.of_eq (hcn.block _ u2.lt (by omega))); have g2 := ht; clear ht; simp only [Act.put, putS]) | (go_at_call 56; refine (R_PutR _ ls q q' _ _ (HS.out.below B) TK.out hn KK.out).mono ?_; rintro e wn ⟨v1, rfl, rs1, hbn⟩; obtain ⟨a1, c1, rfl, hc1⟩ := rs1.len; have hsz := B.size; have hzn := hbn.size; replace B := B.trans (hbn.mono B.size); (try first | replace r1 := r1.of_eq (hbn.block _ r1.lt) | replace r1 := r1.below hbn); (try first | replace q1 := q1.of_eq (hbn.block _ q1.lt) | replace q1 := q1.below hbn); (try first | replace g2 := g2.of_eq (hbn.block _ g2.lt) | replace g2 := g2.below hbn); (try first | replace p2 := p2.of_eq (hbn.block _ p2.lt) | replace p2 := p2.below hbn); (try first | replace u2 := u2.of_eq (hbn.block _ u2.lt) | replace u2 := u2.below hbn)) | fail)
    refine bodyPost_ret (results_B (t := 66) rfl _ _ (b_g2) rfl g2 Tryz.isAgg66 (by kernel_rfl)) rfl ?_
    refine ⟨_, by rw [e1.out]; try rfl, ?_, B⟩
    rw [e2.out]
    exact rs1
end Go.Proofs.YtppccnjckiedlaaGreatDoor
/- '==' of tiles at a position; contracts of Equal of package raster and of its reference. -/
namespace Go.Proofs.YtppccnjckiedlaaGreatDoor
open Go.RowKit Go.Shelf Pl
set_option linter.unusedVariables false
set_option linter.unusedSimpArgs false
set_option maxRecDepth 20000

theorem eqItems_tileD (d : Nat) (f g : Nat → Px) (w : World) : ∀ is : List Nat, (∀ i ∈ is, i < 64) → (Op.eqItems (d + 2) 35 4 (tileC f) (tileC g) is).run Tryz.prog w = .ok (decide (∀ i ∈ is, f i = g i)) w
  | [], _ => by simp [Op.eqItems]
  | i :: is, h => by
    have hi : i < 64 := h i (by simp)
    simp only [Op.eqItems, Sem.run_bind, part_tile f i hi, part_tile g i hi, Result.andThen_ok, equalIn_px d]
    by_cases e : f i = g i
    · simp [e, eqItems_tileD d f g w is (fun j hj => h j (by simp [hj]))]
    · simp [e]
theorem equalIn_tileD (d : Nat) (f g : Nat → Px) (w : World) : (Op.equalIn (d + 3) 37 (Tile.v f) (Tile.v g)).run Tryz.prog w = .ok (eqT f g) w := by
  obtain ⟨i, hi⟩ : ∃ i, Tryz.prog.info? 35 = some i := by
    cases h : Tryz.prog.info? 35 with
    | some i => exact ⟨i, rfl⟩
    | none =>
      have e : (Tryz.prog.info? 35).isSome = true := by kernel_rfl
      rw [h] at e; cases e
  unfold Tile.v
  refine (run_equalIn_array w (d + 2) (tileC f) (tileC g) Tryz.underlying37 hi).trans ?_
  rw [cellsOf_px, eqItems_tileD d f g w _ (fun i hi => List.mem_range.1 hi)]
  rfl
theorem sizeOf_pos (w : World) : (sizeOf 24).run Tryz.prog w = .ok 2 w := by kernel_rfl
theorem sizeOf_tl (w : World) : (sizeOf 37).run Tryz.prog w = .ok 256 w := by kernel_rfl
theorem part_pos (e : TA) (w : World) : (Go.part 24 (taC e) 0).run Tryz.prog w = .ok (Ps.v e.x e.y) w := by
  unfold Go.part
  simp only [Sem.run_bind, Tryz.isAgg24, Result.andThen_ok, if_true, sizeOf_pos, Sem.run_pure, Ps.v]
  congr 2
  apply Array.ext_getElem?
  intro k
  rw [Array.getElem?_extract]
  obtain ⟨x, y, t⟩ := e
  by_cases h : k < 2
  · rw [if_pos (by rw [size_taC]; omega), Nat.zero_add, taC_get, if_pos h]
  · rw [if_neg (by omega)]
    exact (Array.getElem?_eq_none (by simp; omega)).symm
theorem part_tl (e : TA) (w : World) : (Go.part 37 (taC e) 2).run Tryz.prog w = .ok (Tile.v e.t) w := by
  unfold Go.part
  simp only [Sem.run_bind, Tryz.isAgg37, Result.andThen_ok, if_true, sizeOf_tl, Sem.run_pure, Tile.v]
  congr 2
  apply Array.ext_getElem?
  intro k
  rw [Array.getElem?_extract]
  by_cases h : k < 256
  · rw [if_pos (by rw [size_taC]; omega), taC_t]
  · rw [if_neg (by omega)]
    exact (Array.getElem?_eq_none (by rw [size_tileC]; omega)).symm
def eqA (a b : TA) : Bool := eqB a.x a.y b.x b.y && eqT a.t b.t
theorem fields_ta : (Tryz.prog.fieldsOf 39).toList.map (fun f => (f.name == "_", f.type, f.offset)) = [(false, 24, 0), (false, 37, 2)] := by kernel_rfl
theorem equalIn_ta (d : Nat) (a b : TA) (w : World) : (Op.equalIn (d + 4) 39 (.agg (taC a)) (.agg (taC b))).run Tryz.prog w = .ok (eqA a b) w := by
  rw [run_equalIn_struct w (d + 3) 39 (taC a) (taC b) (by kernel_rfl) (by kernel_rfl)]
  have hf := fields_ta
  generalize (Tryz.prog.fieldsOf 39).toList = fs at hf
  obtain ⟨f, fs, rfl, hf1, hf⟩ := List.map_eq_cons_iff.1 hf
  obtain ⟨g, fs, rfl, hf2, hf⟩ := List.map_eq_cons_iff.1 hf
  obtain rfl := List.map_eq_nil_iff.1 hf
  simp only [Prod.mk.injEq] at hf1 hf2
  obtain ⟨n1, t1, o1⟩ := hf1
  obtain ⟨n2, t2, o2⟩ := hf2
  have n1 : f.name ≠ "_" := by simpa using n1
  have n2 : g.name ≠ "_" := by simpa using n2
  have p1 := fun w => part_pos a w
  simp only [Op.eqFields, n1, n2, t1, t2, o1, o2, ne_eq, not_false_eq_true, if_true, Sem.run_bind, part_pos, part_tl, Result.andThen_ok, equalIn_pos (d + 1), equalIn_tileD d]
  unfold eqA
  cases h1 : eqB a.x a.y b.x b.y <;> cases h2 : eqT a.t b.t <;> simp [part_tl, equalIn_tileD d, h1, h2]
theorem neq_ta (a b : TA) (w : World) : (binOp .neq 39 (.agg (taC a)) (.agg (taC b))).run Tryz.prog w = .ok (.bool (!eqA a b)) w := by
  have h := run_neq_struct (P := Tryz.prog) w 39 (taC a) (taC b)
  rw [h, equalIn_ta 9996]; rfl
@[go_sem] theorem guard_ta (op : BinOp) (p q : Operand) (a b : TA) (w : World) : (eqGuard op 39 p q (.agg (taC a)) (.agg (taC b))).run Tryz.prog w = .ok () w := run_eqGuard_agg w op 39 p q _ _ (by kernel_rfl)
/-- Two lists of tiles are equal. -/
def eqL (ls ks : List TA) : Bool := decide (ls.length = ks.length) && decide (∀ i ∈ List.range ls.length, eqA (aT ls i) (aT ks i) = true)
theorem eqL_len {ls ks : List TA} (h : ¬ ls.length = ks.length) : eqL ls ks = false := by unfold eqL; rw [decide_eq_false h]; rfl
theorem eqL_no {ls ks : List TA} {j : Nat} (hj : j < ls.length) (h : eqA (aT ls j) (aT ks j) = false) : eqL ls ks = false := by
  unfold eqL
  rw [Bool.and_eq_false_iff]
  right
  exact decide_eq_false fun e => by rw [e j (List.mem_range.2 hj)] at h; cases h
theorem eqL_yes {ls ks : List TA} (h : ls.length = ks.length) (k : ∀ j, j < ls.length → eqA (aT ls j) (aT ks j) = true) : eqL ls ks = true := by
  unfold eqL
  rw [decide_eq_true h, Bool.true_and]
  exact decide_eq_true fun j hj => k j (List.mem_range.1 hj)
set_option maxHeartbeats 1000000 in
theorem P_equal (v u : Value) (ls ks : List TA) (w : World) (h : RS v ls w) (h' : RS u ks w) (hn : ls.length ≤ maxLen) (hn' : ks.length ≤ maxLen) : Calls Tryz.prog 35 #[v, u] w fun e w' => e = .returned (.bool (eqL ls ks)) ∧ Below w.heap.size w w' := by
  unfold maxLen at hn hn'
  obtain ⟨a, c, rfl, hc⟩ := h.len
  obtain ⟨a', c', rfl, hc'⟩ := h'.len
  have B := Below.refl w.heap.size w
  have HS := Lib.hid h
  have HS' := Lib.hid h'
  clear h h'
  by_cases hlen : ls.length = ks.length
  · have HL := Lib.hid hlen
    obtain ⟨n, hnl⟩ : ∃ n, n = ls.length := ⟨_, rfl⟩
    have e1 : ls.length = n := hnl.symm
    have e2 : ks.length = n := by omega
    rw [e1, e2]
    rw [e1] at hn hc
    rw [e2] at hn' hc'
    have E1 := Lib.hid e1
    have E2 := Lib.hid e2
    clear hlen hnl e1 e2
    go_enter Tryz.func35, Tryz.ntmps35
    go_wp2_with (first | fail | fail)
    go_loopw [5, 13] (fun _ i wr => ∃ k : Nat, k ≤ n ∧ i = .int .i64 k ∧ Below w.heap.size w wr ∧ ∀ j, j < k → eqA (aT ls j) (aT ks j) = true) (fun _ i _ => (n - intOf i).toNat)
    case atStart => exact ⟨0, by omega, rfl, B, fun j hj => by omega⟩
    case round =>
      clear B 
      obtain ⟨k, hk, rfl, B, hst⟩ := hrel
      have HST := Lib.hid hst
      clear hst
      by_cases hkn : k < n
      · have hkl : k < ls.length := by rw [E1.out]; exact hkn
        have hkk : k < ks.length := by rw [E2.out]; exact hkn
        obtain ⟨g, o, rfl, rc0⟩ := (E1.out ▸ HS.out).at (by omega)
        obtain ⟨g', o', rfl, rd0⟩ := (E2.out ▸ HS'.out).at (by omega)
        have hg0 := rc0.lt
        have hg1 := rd0.lt
        have rc := rc0.of_eq (B.block _ rc0.lt)
        have rd := rd0.of_eq (B.block _ rd0.lt)
        clear rc0 rd0
        obtain ⟨e, he⟩ : ∃ e, aT ls k = e := ⟨_, rfl⟩
        obtain ⟨e', he'⟩ : ∃ e, aT ks k = e := ⟨_, rfl⟩
        have hneq : ∀ w, (binOp .neq 39 (.agg (taC e)) (.agg (taC e'))).run Tryz.prog w = .ok (.bool (!eqA e e')) w := fun w => neq_ta _ _ w
        cases hq : eqA e e' with
        | true =>
          go_wp2_with (first | fail | fail)
          refine wp_region_ov (by kernel_rfl) (by kernel_rfl) ?_
          repeat (first | go_big_quiet_skip | (go_big_quiet_want; first | (refine quiet_loadAny (t := 39) rfl _ _ _ rfl (fun w hw => rc_ta (ov_rc rc w hw) hkl he) (by first | rfl | omega) ?_; simp only [Act.put, putS]; go_big_quiet_on) | (refine quiet_loadAny (t := 39) rfl _ _ _ rfl (fun w hw => rc_ta (ov_rc rd w hw) hkk he') (by first | rfl | omega) ?_; simp only [Act.put, putS]; go_big_quiet_on) | (go_big_quiet_op; first | go_big_quiet_on | go_big_quiet_call ((fail)))))
          refine wpQuiet_nil ?_
          intro wn hbn
          have hsz := B.size
          have hzn := hbn.size
          replace B := B.trans (hbn.mono B.size)
          try first | replace rc := rc.of_eq (hbn.block _ rc.lt) | replace rc := rc.below hbn
          try first | replace rd := rd.of_eq (hbn.block _ rd.lt) | replace rd := rd.below hbn
          go_wp2
          go_roundw
          case rel => exact ⟨k + 1, by omega, by go_num, B, fun j hj => by
            by_cases ej : j = k
            · rw [ej, he, he', hq]
            · exact HST.out j (by omega)⟩
          case measure => simp [intOf]; omega
        | false =>
          have EN := Lib.hid (eqL_no (ks := ks) hkl (by rw [he, he', hq]))
          go_wp2_with (first | fail | fail)
          refine wp_region_ov (by kernel_rfl) (by kernel_rfl) ?_
          repeat (first | go_big_quiet_skip | (go_big_quiet_want; first | (refine quiet_loadAny (t := 39) rfl _ _ _ rfl (fun w hw => rc_ta (ov_rc rc w hw) hkl he) (by first | rfl | omega) ?_; simp only [Act.put, putS]; go_big_quiet_on) | (refine quiet_loadAny (t := 39) rfl _ _ _ rfl (fun w hw => rc_ta (ov_rc rd w hw) hkk he') (by first | rfl | omega) ?_; simp only [Act.put, putS]; go_big_quiet_on) | (go_big_quiet_op; first | go_big_quiet_on | go_big_quiet_call ((fail)))))
          refine wpQuiet_nil ?_
          intro wn hbn
          have hsz := B.size
          have hzn := hbn.size
          replace B := B.trans (hbn.mono B.size)
          try first | replace rc := rc.of_eq (hbn.block _ rc.lt) | replace rc := rc.below hbn
          try first | replace rd := rd.of_eq (hbn.block _ rd.lt) | replace rd := rd.below hbn
          go_wp2
          go_ret
          exact ⟨by rw [EN.out]; try rfl, B⟩
      · have EY := Lib.hid (eqL_yes HL.out (fun j hj => HST.out j (by have := E1.out; omega)))
        go_wp2_with (first | fail | fail)
        go_ret
        exact ⟨by rw [EY.out]; try rfl, B⟩
  · rw [eqL_len hlen]
    have hne : ((ls.length : Int) != (ks.length : Int)) = true := by simp; omega
    clear hlen
    go_enter Tryz.func35, Tryz.ntmps35
    go_wp2_with (first | fail | fail)
    go_ret
    exact ⟨rfl, B⟩
theorem P_Equal (v u : Value) (ls ks : List TA) (w : World) (h : RS v ls w) (h' : RS u ks w) (tk : TokL ls) (tk' : TokL ks) (hn : ls.length ≤ maxLen) (hn' : ks.length ≤ maxLen) : Calls Tryz.prog 12 #[.agg #[v], .agg #[u]] w fun e w' => e = .returned (.bool (eqL (fineL ls) (fineL ks))) ∧ Below w.heap.size w w' := by
  have B := Below.refl w.heap.size w
  obtain ⟨a1, c1, hT⟩ := P_tiles v ls w h tk hn
  obtain ⟨a2, c2, hU⟩ := P_tiles u ks w h' tk' hn'
  have HT := Lib.hid hT
  have HU := Lib.hid hU
  clear hT hU
  obtain ⟨a, c, rfl, hc⟩ := h.len
  obtain ⟨a', c', rfl, hc'⟩ := h'.len
  have hf1 : (fineL ls).length ≤ maxLen := by have := fineL_le ls; omega
  have hf2 : (fineL ks).length ≤ maxLen := by have := fineL_le ks; omega
  clear h h' tk tk'
  go_enter Tryz.func12, Tryz.ntmps12
  go_wp2_with (first | (have _ := r1; refine wpList_boxB (t := 30) rfl _ rfl _ rfl ?_; intro b_r2 wn hle hge ht hbn hzn; have hsz := B.size; replace B := B.trans (hbn.mono (by omega)); have hln := Nat.lt_of_lt_of_eq (Nat.lt_succ_self _) hzn.symm; clear hzn; (try first | (have hlt := r1.lt; replace r1 := r1.of_eq (hbn.block _ (by omega))) | replace r1 := r1.below (hbn.mono hle)); (try first | (have hlt := r2.lt; replace r2 := r2.of_eq (hbn.block _ (by omega))) | replace r2 := r2.below (hbn.mono hle)); have r2 := ht; clear ht; simp only [Act.put, putS]) | (refine wpList_boxB (t := 30) rfl _ rfl _ rfl ?_; intro b_r1 wn hle hge ht hbn hzn; have hsz := B.size; replace B := B.trans (hbn.mono (by omega)); have hln := Nat.lt_of_lt_of_eq (Nat.lt_succ_self _) hzn.symm; clear hzn; (try first | (have hlt := r1.lt; replace r1 := r1.of_eq (hbn.block _ (by omega))) | replace r1 := r1.below (hbn.mono hle)); (try first | (have hlt := r2.lt; replace r2 := r2.of_eq (hbn.block _ (by omega))) | replace r2 := r2.below (hbn.mono hle)); have r1 := ht; clear ht; simp only [Act.put, putS]) | fail)
  refine wp_region_ov (by kernel_rfl) (by kernel_rfl) ?_
  repeat (first | go_big_quiet_skip | (go_big_quiet_want; first | (refine quiet_loadAny (t := 30) rfl _ _ _ rfl (fun w hw => run_load_B (ov_B r1 w hw) Tryz.isAgg30 (by kernel_rfl)) (by rfl) ?_; simp only [Act.put, putS]; go_big_quiet_on) | (refine quiet_loadAny (t := 30) rfl _ _ _ rfl (fun w hw => run_load_B (ov_B r2 w hw) Tryz.isAgg30 (by kernel_rfl)) (by rfl) ?_; simp only [Act.put, putS]; go_big_quiet_on) | (go_big_quiet_op; first | go_big_quiet_on | go_big_quiet_call ((first | (go_at_call 35; exact calls_ov (P_equal _ _ _ _ _ (HT.out _ (below_ov B B.size _)).2 (HU.out _ (below_ov B B.size _)).2 hf1 hf2)) | (go_at_call 28; with_reducible exact calls_ov (HT.out _ (below_ov B B.size _)).1) | (go_at_call 28; with_reducible exact calls_ov (HU.out _ (below_ov B B.size _)).1))))))
  refine wpQuiet_nil ?_
  intro wn hbn
  have hsz := B.size
  have hzn := hbn.size
  replace B := B.trans (hbn.mono B.size)
  try first | replace r1 := r1.of_eq (hbn.block _ r1.lt) | replace r1 := r1.below hbn
  try first | replace r2 := r2.of_eq (hbn.block _ r2.lt) | replace r2 := r2.below hbn
  go_wp2
  go_ret
  exact ⟨rfl, B⟩
end Go.Proofs.YtppccnjckiedlaaGreatDoor
/- Contract of mapped of package raster, for whatever function that turns at most one block. -/
namespace Go.Proofs.YtppccnjckiedlaaGreatDoor
open Go.RowKit Go.Shelf Pl
set_option linter.unusedVariables false
set_option linter.unusedSimpArgs false
set_option maxRecDepth 20000

/-- Below n, block c aside, what was there is as it was. -/
structure Exc (c n : Nat) (w w' : World) : Prop where
  os : w'.os = w.os
  tape : w'.tape = w.tape
  output : w'.output = w.output
  size : n ≤ w'.heap.size
  grow : w.heap.size ≤ w'.heap.size
  block : ∀ k, k < n → k ≠ c → w'.heap[k]? = w.heap[k]?
theorem Exc.refl (c : Nat) (w : World) : Exc c w.heap.size w w := ⟨rfl, rfl, rfl, Nat.le_refl _, Nat.le_refl _, fun _ _ _ => rfl⟩
theorem Exc.trans {c n : Nat} {w1 w2 w3 : World} (h : Exc c n w1 w2) (k : Below n w2 w3) : Exc c n w1 w3 :=
  ⟨k.os.trans h.os, k.tape.trans h.tape, k.output.trans h.output, Nat.le_trans h.size k.size, Nat.le_trans h.grow k.size, fun i hi hc => (k.block i hi).trans (h.block i hi hc)⟩
theorem Exc.store {c n b : Nat} {w1 w2 w3 : World} (h : Exc c n w1 w2) (k : Chg b w2 w3) (hb : n ≤ b) : Exc c n w1 w3 :=
  ⟨k.os.trans h.os, k.tape.trans h.tape, k.output.trans h.output, Nat.le_trans h.size k.size, Nat.le_trans h.grow k.size, fun i hi hc => (k.block i (Nat.lt_of_lt_of_le hi h.size) (by omega)).trans (h.block i hi hc)⟩
theorem Exc.chg {c n : Nat} {w1 w2 w3 : World} (h : Exc c n w1 w2) (k : Chg c w2 w3) : Exc c n w1 w3 :=
  ⟨k.os.trans h.os, k.tape.trans h.tape, k.output.trans h.output, Nat.le_trans h.size k.size, Nat.le_trans h.grow k.size, fun i hi hc => (k.block i (Nat.lt_of_lt_of_le hi h.size) hc).trans (h.block i hi hc)⟩
theorem Exc.toChg {c : Nat} {w w' : World} (h : Exc c w.heap.size w w') : Chg c w w' := ⟨h.os, h.tape, h.output, h.grow, h.block⟩

theorem set_taC (x y : Int) (u : Nat → Px) (i : Nat) (p : Px) (hi : i < 64) : ((((taC ⟨x, y, u⟩).setIfInBounds (2 + i * 4) (.int .u8 p.r)).setIfInBounds (2 + i * 4 + 1) (.int .u8 p.g)).setIfInBounds (2 + i * 4 + 2) (.int .u8 p.b)).setIfInBounds (2 + i * 4 + 3) (.int .u8 p.a) = taC ⟨x, y, upd u i p⟩ := by
  apply Array.ext_getElem?
  intro k
  rw [taC_get, ← set_tileC u i p hi]
  by_cases h2 : k < 2
  · rw [if_pos h2]
    rw [Array.getElem?_setIfInBounds, if_neg (by omega), Array.getElem?_setIfInBounds, if_neg (by omega), Array.getElem?_setIfInBounds, if_neg (by omega), Array.getElem?_setIfInBounds, if_neg (by omega), taC_get, if_pos h2]
  · rw [if_neg h2]
    have hs : (taC ⟨x, y, u⟩).size = 258 := size_taC _
    have ht : (tileC u).size = 256 := size_tileC _
    simp only [Array.getElem?_setIfInBounds, Array.size_setIfInBounds, hs, ht, taC_get, if_neg h2]
    have e : ∀ j, (2 + i * 4 + j = k) ↔ (i * 4 + j = k - 2) := fun j => by omega
    by_cases c3 : 2 + i * 4 + 3 = k
    · rw [if_pos c3, if_pos ((e 3).1 c3), if_pos (by omega), if_pos (by omega)]
    · rw [if_neg c3, if_neg (fun h => c3 ((e 3).2 h))]
      by_cases c2 : 2 + i * 4 + 2 = k
      · rw [if_pos c2, if_pos ((e 2).1 c2), if_pos (by omega), if_pos (by omega)]
      · rw [if_neg c2, if_neg (fun h => c2 ((e 2).2 h))]
        by_cases c1 : 2 + i * 4 + 1 = k
        · rw [if_pos c1, if_pos ((e 1).1 c1), if_pos (by omega), if_pos (by omega)]
        · rw [if_neg c1, if_neg (fun h => c1 ((e 1).2 h))]
          by_cases c0 : 2 + i * 4 = k
          · rw [if_pos c0, if_pos (by omega), if_pos (by omega), if_pos (by omega)]
          · rw [if_neg c0, if_neg (by omega)]
theorem run_store_TAp {w : World} {b i : Nat} {x y : Int} {u : Nat → Px} (h : AtB 39 w b (taC ⟨x, y, u⟩)) (hi : i < 64) (p : Px) : (Instr.storeAt 35 (.pointer (some ⟨b, 2 + i * 4, none⟩)) (Px.v p)).run Tryz.prog w =
    .ok () ((((w.setCell ⟨b, 2 + i * 4, none⟩ (.int .u8 p.r)).setCell ⟨b, 2 + i * 4 + 1, none⟩ (.int .u8 p.g)).setCell ⟨b, 2 + i * 4 + 2, none⟩ (.int .u8 p.b)).setCell ⟨b, 2 + i * 4 + 3, none⟩ (.int .u8 p.a)) := by
  have hc : ∀ j, j < 4 → w.cell? ⟨b, 2 + i * 4 + j, none⟩ = (tileC u)[i * 4 + j]? := fun j hj => by
    rw [(cells_of_block h).1, taC_get, if_neg (by omega), show 2 + i * 4 + j - 2 = i * 4 + j by omega]
  have c0 := (hc 0 (by omega)).trans (tileC_at u i 0 hi (by omega))
  have c1 := (hc 1 (by omega)).trans (tileC_at u i 1 hi (by omega))
  have c2 := (hc 2 (by omega)).trans (tileC_at u i 2 hi (by omega))
  have c3 := (hc 3 (by omega)).trans (tileC_at u i 3 hi (by omega))
  have hf := fun j => h.frozen j
  rw [Nat.add_zero] at c0
  simp [go_sem, c0, c1, c2, c3, hf, Px.v]
theorem AtB.set4 {w : World} {b i : Nat} {x y : Int} {u : Nat → Px} (h : AtB 39 w b (taC ⟨x, y, u⟩)) (hi : i < 64) (p : Px) :
    AtB 39 ((((w.setCell ⟨b, 2 + i * 4, none⟩ (.int .u8 p.r)).setCell ⟨b, 2 + i * 4 + 1, none⟩ (.int .u8 p.g)).setCell ⟨b, 2 + i * 4 + 2, none⟩ (.int .u8 p.b)).setCell ⟨b, 2 + i * 4 + 3, none⟩ (.int .u8 p.a)) b (taC ⟨x, y, upd u i p⟩) := by
  unfold AtB
  rw [← set_taC x y u i p hi]
  exact heap_setCell_same _ _ _ _ _ _ (heap_setCell_same _ _ _ _ _ _ (heap_setCell_same _ _ _ _ _ _ (heap_setCell_same _ _ _ _ _ _ h)))
theorem wpList_storeTAp {ops : Array Oper} {rest : List Oper} {o : Oper} {a : Act} {w : World} {Q : Exit → Act → World → Prop} (hg : o.guard = none) (x y : Operand) (ho : o.op = .store 35 x y) (b j : Nat) (hx : a.eval x = .pointer (some ⟨b, j, none⟩)) (q : Px) (hy : a.eval y = Px.v q) {px py : Int} {u : Nat → Px} (ht : AtB 39 w b (taC ⟨px, py, u⟩)) (i : Nat) (hi : i < 64) (hj : j = 2 + i * 4)
    (h : ∀ w', AtB 39 w' b (taC ⟨px, py, upd u i q⟩) → Chg b w w' → w'.heap.size = w.heap.size → wpList Tryz.prog ops Q rest (a.put o.dst undef) w') : wpList Tryz.prog ops Q (o :: rest) a w := by
  subst hj
  refine wpList_storeAny hg x y ho _ ?_ (h _ (ht.set4 hi q) (((((Chg.refl b w).setCell _).setCell _).setCell _).setCell _) (by simp only [World.size_setCell]))
  rw [hx, hy]
  exact run_store_TAp ht hi q

/-! ### mapped -/
/-- The first k pixels of a tile mapped: the state behind them, the tile. -/
def runT {σ : Type} (F : σ → Int → Int → Px → σ × Px) (e : TA) : Nat → σ → σ × (Nat → Px)
  | 0, s => (s, e.t)
  | k + 1, s => ((F (runT F e k s).1 (e.x * 8 + (k : Int) % 8) (e.y * 8 + (k : Int) / 8) (e.t k)).1, upd (runT F e k s).2 k (F (runT F e k s).1 (e.x * 8 + (k : Int) % 8) (e.y * 8 + (k : Int) / 8) (e.t k)).2)
/-- The first k tiles mapped: the state behind them, the tiles that are not transparent. -/
def mapK {σ : Type} (F : σ → Int → Int → Px → σ × Px) (ls : List TA) (s : σ) : Nat → σ × List TA
  | 0 => (s, [])
  | k + 1 => ((runT F (aT ls k) 64 (mapK F ls s k).1).1, (mapK F ls s k).2 ++ newA (aT ls k).x (aT ls k).y (runT F (aT ls k) 64 (mapK F ls s k).1).2)
theorem mapK_length {σ : Type} (F : σ → Int → Int → Px → σ × Px) (ls : List TA) (s : σ) (k : Nat) : (mapK F ls s k).2.length ≤ k := by
  induction k with
  | zero => exact Nat.le_refl _
  | succ k ih =>
    show ((mapK F ls s k).2 ++ newA _ _ _).length ≤ _
    rw [List.length_append]
    have := newA_length (aT ls k).x (aT ls k).y (runT F (aT ls k) 64 (mapK F ls s k).1).2
    omega
theorem runT_tok {σ : Type} {F : σ → Int → Int → Px → σ × Px} (hF : ∀ s x y p, p.ok → (F s x y p).2.ok) {e : TA} (h : Tok e.t) (s : σ) : ∀ k, k ≤ 64 → Tok (runT F e k s).2
  | 0, _ => h
  | k + 1, hk => fun i hi => by
    show (upd _ k _ i).ok
    unfold upd
    split
    · exact hF _ _ _ _ (h k (by omega))
    · exact runT_tok hF h s k (by omega) i hi
theorem OwnT.ownlt {B : Nat} {v : Value} {ls : List TA} {w : World} (h : OwnT B v ls w) : ∀ k, v.ownBlock = some k → k < w.heap.size := by
  intro k hk
  obtain ⟨_, h2⟩ := h
  rcases h2 with ⟨rfl, h0⟩ | ⟨g, cap, cur, rfl, hb, hg, _⟩
  · cases hk
  · have e : some g = some k := hk
    injection e with e
    subst e
    exact (Array.getElem?_eq_some_iff.1 hg).1
theorem OwnT.chgN {B b : Nat} {v : Value} {ls : List TA} {w w' : World} (h : OwnT B v ls w) (hc : Chg b w w') (hne : ∀ k, v.ownBlock = some k → k ≠ b) : OwnT B v ls w' := by
  refine World.ownsRow.kept (row := some b) h ⟨hc.os, hc.tape, hc.output, hc.size, fun k hk hn => hc.block k hk (fun e => hn (by rw [e]))⟩ ?_
  cases hv : v.ownBlock with
  | none => exact .inl rfl
  | some k =>
    right
    intro e
    injection e with e
    exact hne k hv e
set_option maxHeartbeats 4000000 in
theorem P_mapped {σ : Type} (F : σ → Int → Int → Px → σ × Px) (I : σ → World → Prop) (cb gf : Nat) (lb : Array Value) (eg : Enters Tryz.prog gf) (v : Value) (ls : List TA) (s0 : σ) (w : World) (hs : RS v ls w) (tk : TokL ls) (hn : ls.length ≤ 2000) (hpos : ∀ e ∈ ls, withinB e.x e.y = true)
    (hcb : cb < w.heap.size) (hsep : 0 < ls.length → v.ownBlock ≠ some cb) (hI0 : I s0 w)
    (hIb : ∀ s W W', I s W → (∀ k, k < w.heap.size → W'.heap[k]? = W.heap[k]?) → I s W')
    (hF : ∀ (s : σ) (W : World) (x y : Int) (p : Px), w.heap.size ≤ W.heap.size → I s W → -65536 ≤ x → x ≤ 65535 → -65536 ≤ y → y ≤ 65535 → p.ok →
      Calls Tryz.prog gf (#[.int .i64 x, .int .i64 y, Px.v p] ++ lb) W fun e W' => e = .returned (Px.v (F s x y p).2) ∧ I (F s x y p).1 W' ∧ Chg cb W W')
    (hok : ∀ s x y p, p.ok → (F s x y p).2.ok) :
    Calls Tryz.prog 41 #[v, .func (.func gf) #[] lb] w fun e w' => ∃ v', e = .returned v' ∧ OwnT w.heap.size v' (mapK F ls s0 ls.length).2 w' ∧ I (mapK F ls s0 ls.length).1 w' ∧ Chg cb w w' := by
  have eg' : ∀ args w, (callFunc gf args).run Tryz.prog w = .ok (.enter gf args) w := eg
  obtain ⟨a, c, rfl, hc⟩ := hs.len
  have HS := Lib.hid hs
  have HK := Lib.hid tk
  have HP := Lib.hid hpos
  have HF := Lib.hid hF
  have HI := Lib.hid hIb
  have HO := Lib.hid hok
  have SEP := Lib.hid hsep
  have B := Exc.refl cb w
  have od := OwnT.nil w.heap.size w
  have hI := hI0
  clear hs tk hpos hF hIb hok hI0 hsep
  go_enter Tryz.func41, Tryz.ntmps41
  go_wp2
  go_loopw [5, 7, 8, 9, 12] (fun out _ _ _ i wr => ∃ (k : Nat) (a5 : Option Addr) (n5 c5 : Nat), k ≤ ls.length ∧ i = .int .i64 k ∧ out = .slice a5 n5 c5 ∧ n5 = (mapK F ls s0 k).2.length ∧ Exc cb w.heap.size w wr ∧ OwnT w.heap.size (.slice a5 n5 c5) (mapK F ls s0 k).2 wr ∧ I (mapK F ls s0 k).1 wr) (fun _ _ _ _ i _ => (ls.length - intOf i).toNat)
  case atStart => exact ⟨0, none, 0, 0, by omega, rfl, rfl, rfl, B, od, hI⟩
  case round =>
    clear B od hI
    obtain ⟨k, a5, n5, c5, hk, rfl, rfl, hn5, B, od, hI⟩ := hrel
    have HN5 := Lib.hid hn5
    clear hn5
    have hml := mapK_length F ls s0 k
    obtain ⟨⟨s, acc⟩, hsm⟩ : ∃ m, mapK F ls s0 k = m := ⟨_, rfl⟩
    rw [hsm] at od hI hml
    have HN5' := Lib.hid (show n5 = acc.length from by have := HN5.out; rw [hsm] at this; exact this)
    have HSM := Lib.hid hsm
    clear hsm HN5
    have od : OwnT w.heap.size (.slice a5 n5 c5) acc _ := od
    have hI : I s _ := hI
    have hml : acc.length ≤ k := hml
    by_cases hkl : k < ls.length
    · obtain ⟨gg, o, rfl, rc0⟩ := HS.out.at (by omega)
      have hg0 := rc0.lt
      have hgc : gg ≠ cb := fun e => (SEP.out (by omega)) (by rw [e]; rfl)
      have rc := rc0.of_eq (B.block _ rc0.lt hgc)
      clear rc0
      obtain ⟨⟨x, y, t⟩, he⟩ : ∃ e, aT ls k = e := ⟨_, rfl⟩
      have htk : Tok t := by have := HK.out.at hkl; rw [he] at this; exact this
      have hT := Lib.hid htk
      have hw := HP.out _ (List.mem_iff_getElem?.2 ⟨k, aT_at hkl⟩)
      rw [he] at hw
      have hw := of_decide_eq_true hw
      obtain ⟨w1, w2, w3, w4⟩ := hw
      have HOB := Lib.hid od.ownlt
      have hsz0 := B.size
      go_wp2_with (first | (refine wpList_loadAny (t := 37) rfl _ rfl _ _ _ rfl (ta_tile t1) (by first | rfl | omega) ?_; simp only [Act.put, putS]) | (refine wpList_storeB (t := 39) rfl _ _ rfl _ rfl _ rfl t1 (by rw [size_taC]; kernel_rfl) (by simp only [size_taC, size_zTA]) (taC_all _) ?_; clear t1; intro wn ht hcn hzn; have hsz := B.size; replace hzn := Nat.le_of_eq hzn.symm; replace B := Exc.store B hcn (by omega); replace hI := HI.out _ _ _ hI (fun k hk => hcn.block k (by omega) (by omega)); replace od := od.chgN hcn (fun kk hkk => Nat.ne_of_lt (Nat.lt_of_lt_of_le (HOB.out kk hkk) (by omega))); (try replace q1 := q1.of_eq (hcn.block _ q1.lt (by omega))); (try replace od := od.of_eq (hcn.block _ od.lt (by omega))); have t1 := ht; clear ht; simp only [Act.put, putS]) | (refine wpList_allocBk (t := 39) rfl _ (run_alloc_TA _ _ rfl) ?_; intro b_t1 wn hle hge ht hbn hzn; have hsz := B.size; replace B := B.trans (hbn.mono (by omega)); replace hI := HI.out _ _ _ hI (fun k hk => hbn.block k (by omega)); have hln := Nat.lt_of_lt_of_eq (Nat.lt_succ_self _) hzn.symm; clear hzn; (try first | (have hlt := t1.lt; replace t1 := t1.of_eq (hbn.block _ (by omega))) | replace t1 := t1.below (hbn.mono hle)); (try first | (have hlt := q1.lt; replace q1 := q1.of_eq (hbn.block _ (by omega))) | replace q1 := q1.below (hbn.mono hle)); (try first | (have hlt := od.lt; replace od := od.of_eq (hbn.block _ (by omega))) | replace od := od.below (hbn.mono hle)); have t1 := ht; clear ht; simp only [Act.put, putS]) | (refine wpList_loadAny (t := 39) rfl _ rfl _ _ _ rfl (rc_ta rc hkl he) (by first | rfl | omega) ?_; simp only [Act.put, putS]) | fail)
      have hb1 := hle
      have hmul1 : (2 : Nat) ≤ 2 := Nat.le_refl _
      go_loopw [8, 9, 18] (fun _ _ j wx => ∃ i : Nat, i ≤ 64 ∧ j = .int .i64 i ∧ Exc cb w.heap.size w wx ∧ b_t1 < wx.heap.size ∧ AtB 39 wx b_t1 (taC ⟨x, y, (runT F ⟨x, y, t⟩ i s).2⟩) ∧ OwnT w.heap.size (.slice a5 n5 c5) acc wx ∧ I (runT F ⟨x, y, t⟩ i s).1 wx) (fun _ _ j _ => (64 - intOf j).toNat)
      case atStart => exact ⟨0, by omega, rfl, B, t1.lt, t1, od, hI⟩
      case round =>
        clear B t1 od hI
        obtain ⟨i, hi, rfl, B, hbl, t1, od, hI⟩ := hrel
        by_cases hil : i < 64
        · have hix := index_tile t i hil
          have hpk : (t i).ok := hT.out i hil
          have d8 : (0 : Int) ≤ (i : Int) % 8 ∧ (i : Int) % 8 < 8 := by omega
          have d9 : (0 : Int) ≤ (i : Int) / 8 ∧ (i : Int) / 8 < 8 := by omega
          obtain ⟨u, hu⟩ : ∃ u, runT F ⟨x, y, t⟩ i s = u := ⟨_, rfl⟩
          rw [hu] at t1 hI
          have HU := Lib.hid hu
          clear hu
          go_wp2_with (first | (refine wpList_storeTAp rfl _ _ rfl _ _ rfl (_) rfl t1 (i) (hil) (by first | rfl | omega) ?_; clear t1; intro wn ht hcn hzn; have hsz := B.size; replace hzn := Nat.le_of_eq hzn.symm; replace B := Exc.store B hcn (by omega); replace hI := HI.out _ _ _ hI (fun k hk => hcn.block k (by omega) (by omega)); replace od := od.chgN hcn (fun kk hkk => Nat.ne_of_lt (Nat.lt_of_lt_of_le (HOB.out kk hkk) (by omega))); (try replace q1 := q1.of_eq (hcn.block _ q1.lt (by omega))); have t1 := ht; clear ht; simp only [Act.put, putS]) | (go_at_fn gf; refine (HF.out _ _ _ _ _ (by omega) hI (by omega) (by omega) (by omega) (by omega) hpk).mono ?_; rintro e' wn ⟨rfl, hI, hcc⟩; have hsz := B.size; have hzn := hcc.size; replace B := B.chg hcc; replace t1 := t1.of_eq (hcc.block _ t1.lt (by omega)); replace od := od.chg hcc hcb) | (refine wpList_loadAny (t := 3) rfl _ rfl _ _ _ rfl (run_load_int (t1.cell 0 (taC_x _))) (by first | rfl | omega) ?_; simp only [Act.put, putS]) | (refine wpList_loadAny (t := 3) rfl _ rfl _ _ _ rfl (run_load_int (t1.cell 1 (taC_y _))) (by first | rfl | omega) ?_; simp only [Act.put, putS]) | (refine wpList_loadPx rfl _ rfl _ rfl q1 ?_; simp only [Act.put, putS]) | (refine wpList_storePx rfl _ _ rfl _ rfl (_) rfl q1 ?_; clear q1; intro wn ht hcn hzn; have hsz := B.size; replace hzn := Nat.le_of_eq hzn.symm; replace B := Exc.store B hcn (by omega); replace hI := HI.out _ _ _ hI (fun k hk => hcn.block k (by omega) (by omega)); replace od := od.chgN hcn (fun kk hkk => Nat.ne_of_lt (Nat.lt_of_lt_of_le (HOB.out kk hkk) (by omega))); (try replace t1 := t1.of_eq (hcn.block _ t1.lt (by omega))); have q1 := ht; clear ht; simp only [Act.put, putS]) | (refine wpList_allocPx' rfl rfl ?_; intro b_q1 wn hle hge ht hbn hzn; have hsz := B.size; replace B := B.trans (hbn.mono (by omega)); replace hI := HI.out _ _ _ hI (fun k hk => hbn.block k (by omega)); have hln := Nat.lt_of_lt_of_eq (Nat.lt_succ_self _) hzn.symm; clear hzn; (try replace od := od.below (hbn.mono hle)); (try first | (have hlt := t1.lt; replace t1 := t1.of_eq (hbn.block _ (by omega))) | replace t1 := t1.below (hbn.mono hle)); (try first | (have hlt := q1.lt; replace q1 := q1.of_eq (hbn.block _ (by omega))) | replace q1 := q1.below (hbn.mono hle)); (try first | (have hlt := od.lt; replace od := od.of_eq (hbn.block _ (by omega))) | replace od := od.below (hbn.mono hle)); have q1 := ht; clear ht; simp only [Act.put, putS]) | fail)
          go_roundw
          case rel => exact ⟨i + 1, by omega, by go_num, B, by have := t1.lt; omega, by show AtB _ _ _ (taC ⟨x, y, upd (runT F ⟨x, y, t⟩ i s).2 i (F (runT F ⟨x, y, t⟩ i s).1 (x * 8 + (i : Int) % 8) (y * 8 + (i : Int) / 8) (t i)).2⟩); rw [HU.out]; exact t1, od, by show I (F (runT F ⟨x, y, t⟩ i s).1 (x * 8 + (i : Int) % 8) (y * 8 + (i : Int) / 8) (t i)).1 _; rw [HU.out]; exact hI⟩
          case measure => simp [intOf]; omega
        · obtain rfl : i = 64 := by omega
          obtain ⟨⟨s', u⟩, hu⟩ : ∃ u, runT F ⟨x, y, t⟩ 64 s = u := ⟨_, rfl⟩
          have hut : Tok u := by have := runT_tok (e := ⟨x, y, t⟩) HO.out hT.out s 64 (Nat.le_refl _); rw [hu] at this; exact this
          rw [hu] at t1 hI
          have HU := Lib.hid hu
          clear hu
          have t1 : AtB 39 _ b_t1 (taC ⟨x, y, u⟩) := t1
          have hI : I s' _ := hI
          have es := Lib.hid (show mapK F ls s0 (k + 1) = (s', acc ++ newA x y u) from by
            show ((runT F (aT ls k) 64 (mapK F ls s0 k).1).1, (mapK F ls s0 k).2 ++ newA (aT ls k).x (aT ls k).y (runT F (aT ls k) 64 (mapK F ls s0 k).1).2) = _
            rw [HSM.out, he, HU.out])
          cases hz : zeroB u with
          | true =>
            have HN := Lib.hid (show newA x y u = [] from by unfold newA; rw [hz]; rfl)
            go_wp2_with (first | (go_at_call 50; refine (P_Zero _ _ hut).mono ?_; rintro e wn ⟨rfl, hbn⟩; have hsz := B.size; have hzn := hbn.size; replace B := B.trans (hbn.mono B.size); replace hI := HI.out _ _ _ hI (fun k hk => hbn.block k (by omega)); (try first | replace t1 := t1.of_eq (hbn.block _ t1.lt) | replace t1 := t1.below hbn); (try first | replace od := od.of_eq (hbn.block _ od.lt) | replace od := od.below hbn)) | (refine wpList_loadAny (t := 37) rfl _ rfl _ _ _ rfl (ta_tile t1) (by first | rfl | omega) ?_; simp only [Act.put, putS]) | fail)
            go_roundw
            case rel => exact ⟨k + 1, _, _, _, by omega, by go_num, rfl, by rw [es.out, HN.out]; simp [HN5'.out], B, by rw [es.out, HN.out]; simpa using od, by rw [es.out]; exact hI⟩
            case measure => simp [intOf]; omega
          | false =>
            have HN := Lib.hid (show newA x y u = [⟨x, y, u⟩] from by unfold newA; rw [hz]; rfl)
            have hlen : acc.length + 1 ≤ 100000 := by omega
            have hn5 := HN5'.out
            clear HN5'
            subst hn5
            go_wp2_with (first | (at_builtin; refine wpList_appendT rfl _ _ rfl _ _ rfl rfl od ((RS.one s1)) (by simp only [List.length_cons, List.length_nil]; omega) (by omega) ?_; intro v_od wn ht hbn; have hsz := B.size; have hzn := hbn.size; replace B := B.trans (hbn.mono (by omega)); replace hI := HI.out _ _ _ hI (fun k hk => hbn.block k (by omega)); clear od; have od := ht; clear ht; obtain ⟨a_od, c_od, hv, hco⟩ := od.len; (try simp only [List.length_append, List.length_cons, List.length_nil, Nat.zero_add] at hv hco); subst hv; simp only [Act.put, putS]) | (refine wpList_bs1T rfl _ rfl ⟨x, y, u⟩ (by rfl) ?_; intro b_s1 wn hle hge ht hbn hzn; have hsz := B.size; replace B := B.trans (hbn.mono (by omega)); replace hI := HI.out _ _ _ hI (fun k hk => hbn.block k (by omega)); have hln := Nat.lt_of_lt_of_eq (Nat.lt_succ_self _) hzn.symm; clear hzn; (try first | (have hlt := od.lt; replace od := od.of_eq (hbn.block _ (by omega))) | replace od := od.below (hbn.mono hle)); have s1 := ht; clear ht; simp only [Act.put, putS]) | (refine wpList_loadAny (t := 39) rfl _ rfl _ _ _ rfl (run_load_B t1 Tryz.isAgg39 (ta_size _)) (by rfl) ?_; simp only [Act.put, putS]) | (go_at_call 50; refine (P_Zero _ _ hut).mono ?_; rintro e wn ⟨rfl, hbn⟩; have hsz := B.size; have hzn := hbn.size; replace B := B.trans (hbn.mono B.size); replace hI := HI.out _ _ _ hI (fun k hk => hbn.block k (by omega)); (try first | replace t1 := t1.of_eq (hbn.block _ t1.lt) | replace t1 := t1.below hbn); (try first | replace od := od.of_eq (hbn.block _ od.lt) | replace od := od.below hbn)) | (refine wpList_loadAny (t := 37) rfl _ rfl _ _ _ rfl (ta_tile t1) (by first | rfl | omega) ?_; simp only [Act.put, putS]) | fail)
            go_roundw
            case rel => exact ⟨k + 1, _, _, _, by omega, by go_num, rfl, by rw [es.out, HN.out]; simp, B, by rw [es.out, HN.out]; exact od, by rw [es.out]; exact hI⟩
            case measure => simp [intOf]; omega
    · obtain rfl : k = ls.length := by omega
      go_wp2
      go_ret
      exact ⟨_, rfl, by rw [HSM.out]; exact od, by rw [HSM.out]; exact hI, B.toChg⟩
end Go.Proofs.YtppccnjckiedlaaGreatDoor
/- Contracts of Bounds and Crop of package raster. -/
namespace Go.Proofs.YtppccnjckiedlaaGreatDoor
open Go.RowKit Go.Shelf Pl
set_option linter.unusedVariables false
set_option linter.unusedSimpArgs false
set_option maxRecDepth 20000

def rcA (r : Rc) : Array Value := #[.int .i64 r.x0, .int .i64 r.y0, .int .i64 r.x1, .int .i64 r.y1]
theorem Rc.v_A (r : Rc) : Rc.v r = .agg (rcA r) := rfl
def boundF (s : Rc) (x y : Int) (p : Px) : Rc × Px := (if 0 < p.a then unionR s ⟨x, y, x + 1, y + 1⟩ else s, p)
def boundL (ls : List TA) : Rc := (mapK boundF ls Rc.zero ls.length).1
def cropF (c : Rc) (s : Unit) (x y : Int) (p : Px) : Unit × Px := ((), if hasR c x y = true then p else Px.zero)
def cropL (c : Rc) (ls : List TA) : List TA := (mapK (cropF c) ls () ls.length).2
theorem boundF_ok (s : Rc) (x y : Int) (p : Px) (h : p.ok) : (boundF s x y p).2.ok := h
theorem rs_sep {v : Value} {ls : List TA} {w : World} (h : RS v ls w) {cb : Nat} (hc : w.heap.size ≤ cb) : 0 < ls.length → v.ownBlock ≠ some cb := by
  intro hn e
  rcases h with ⟨rfl, rfl⟩ | ⟨g, o, c, rfl, _, sc⟩
  · exact absurd hn (by decide)
  · have e : some g = some cb := e
    injection e with e
    have := (sc hn).lt
    omega
theorem fine_pos (ls : List TA) : ∀ e ∈ fineL ls, withinB e.x e.y = true := fun e he => by
  have := validL_good (fineL_valid ls) e he
  unfold goodA at this
  exact (Bool.and_eq_true_iff.1 this).1
theorem px_a {w : World} {b : Nat} {p : Px} (h : PixAt w b p) : w.cell? ⟨b, 3, none⟩ = some (.int .u8 p.a) := ((cells_of_block h).1 3).trans rfl
theorem P_Bounds1 (s : Rc) (x y : Int) (p : Px) (cb : Nat) (w : World) (r0 : AtB 52 w cb (rcA s)) (hx0 : -65536 ≤ x) (hx : x ≤ 65535) (hy0 : -65536 ≤ y) (hy : y ≤ 65535) (hp : p.ok) : Calls Tryz.prog 44 #[.int .i64 x, .int .i64 y, Px.v p, .pointer (some ⟨cb, 0, none⟩)] w fun e w' => e = .returned (Px.v (boundF s x y p).2) ∧ AtB 52 w' cb (rcA (boundF s x y p).1) ∧ Chg cb w w' := by
  have B := Exc.refl cb w
  have hcb := r0.lt
  obtain ⟨_, _, _, hp1, hp2⟩ := hp
  by_cases ha : 0 < p.a
  · have e1 := Lib.hid (show boundF s x y p = (unionR s ⟨x, y, x + 1, y + 1⟩, p) from by unfold boundF; rw [if_pos ha])
    have d1 : decide (0 < p.a) = true := decide_eq_true ha
    go_enter Tryz.func44, Tryz.ntmps44
    go_wp2_with (first | (refine wpList_storePx rfl _ _ rfl _ rfl (_) rfl q2 ?_; clear q2; intro wn ht hcn hzn; have hsz := B.size; replace hzn := Nat.le_of_eq hzn.symm; replace B := Exc.store B hcn (by omega); (try replace r0 := r0.of_eq (hcn.block _ r0.lt (by omega))); (try replace q1 := q1.of_eq (hcn.block _ q1.lt (by omega))); have q2 := ht; clear ht; simp only [Act.put, putS]) | (refine wpList_loadPx rfl _ rfl _ rfl q1 ?_; simp only [Act.put, putS]) | (refine wpList_storeB (t := 52) rfl _ _ rfl _ rfl _ rfl r0 (by kernel_rfl) rfl (by simp [Value.oneCell']) ?_; clear r0; intro wn ht hcn hzn; have hsz := B.size; replace hzn := Nat.le_of_eq hzn.symm; replace B := Exc.chg B hcn; (try replace q1 := q1.of_eq (hcn.block _ q1.lt (by omega))); (try replace q2 := q2.of_eq (hcn.block _ q2.lt (by omega))); have r0 := ht; clear ht; simp only [Act.put, putS]) | (go_at_call 45; refine (P_Union s ⟨x, y, x + 1, y + 1⟩ _).mono ?_; rintro e wn ⟨rfl, hbn⟩; have hsz := B.size; have hzn := hbn.size; replace B := B.trans (hbn.mono B.size); (try first | replace r0 := r0.of_eq (hbn.block _ r0.lt) | replace r0 := r0.below hbn); (try first | replace q1 := q1.of_eq (hbn.block _ q1.lt) | replace q1 := q1.below hbn); (try first | replace q2 := q2.of_eq (hbn.block _ q2.lt) | replace q2 := q2.below hbn)) | (refine wpList_loadAny (t := 52) rfl _ rfl _ _ _ rfl (run_load_B r0 Tryz.isAgg52 (by kernel_rfl)) (by rfl) ?_; simp only [Act.put, putS]) | (refine wpList_loadAny (t := 5) rfl _ rfl _ _ _ rfl (run_load_u8 (px_a q1)) (by rfl) ?_; simp only [Act.put, putS]) | (have _ := q1; refine wpList_allocPx' rfl rfl ?_; intro b_q2 wn hle hge ht hbn hzn; have hsz := B.size; replace B := B.trans (hbn.mono (by omega)); have hln := Nat.lt_of_lt_of_eq (Nat.lt_succ_self _) hzn.symm; clear hzn; (try first | (have hlt := r0.lt; replace r0 := r0.of_eq (hbn.block _ (by omega))) | replace r0 := r0.below (hbn.mono hle)); (try first | (have hlt := q1.lt; replace q1 := q1.of_eq (hbn.block _ (by omega))) | replace q1 := q1.below (hbn.mono hle)); (try first | (have hlt := q2.lt; replace q2 := q2.of_eq (hbn.block _ (by omega))) | replace q2 := q2.below (hbn.mono hle)); have q2 := ht; clear ht; simp only [Act.put, putS]) | (refine wpList_boxPx' rfl _ rfl _ rfl ?_; intro b_q1 wn hle hge ht hbn hzn; have hsz := B.size; replace B := B.trans (hbn.mono (by omega)); have hln := Nat.lt_of_lt_of_eq (Nat.lt_succ_self _) hzn.symm; clear hzn; (try first | (have hlt := r0.lt; replace r0 := r0.of_eq (hbn.block _ (by omega))) | replace r0 := r0.below (hbn.mono hle)); (try first | (have hlt := q1.lt; replace q1 := q1.of_eq (hbn.block _ (by omega))) | replace q1 := q1.below (hbn.mono hle)); (try first | (have hlt := q2.lt; replace q2 := q2.of_eq (hbn.block _ (by omega))) | replace q2 := q2.below (hbn.mono hle)); have q1 := ht; clear ht; simp only [Act.put, putS]) | fail)
    refine bodyPost_ret (results_px rfl _ _ (b_q2) rfl q2) rfl ?_
    exact ⟨by rw [e1.out], by rw [e1.out]; exact r0, B.toChg⟩
  · have e1 := Lib.hid (show boundF s x y p = (s, p) from by unfold boundF; rw [if_neg ha])
    have d1 : decide (0 < p.a) = false := decide_eq_false ha
    go_enter Tryz.func44, Tryz.ntmps44
    go_wp2_with (first | (refine wpList_storePx rfl _ _ rfl _ rfl (_) rfl q2 ?_; clear q2; intro wn ht hcn hzn; have hsz := B.size; replace hzn := Nat.le_of_eq hzn.symm; replace B := Exc.store B hcn (by omega); (try replace r0 := r0.of_eq (hcn.block _ r0.lt (by omega))); (try replace q1 := q1.of_eq (hcn.block _ q1.lt (by omega))); have q2 := ht; clear ht; simp only [Act.put, putS]) | (refine wpList_loadPx rfl _ rfl _ rfl q1 ?_; simp only [Act.put, putS]) | (refine wpList_loadAny (t := 5) rfl _ rfl _ _ _ rfl (run_load_u8 (px_a q1)) (by rfl) ?_; simp only [Act.put, putS]) | (have _ := q1; refine wpList_allocPx' rfl rfl ?_; intro b_q2 wn hle hge ht hbn hzn; have hsz := B.size; replace B := B.trans (hbn.mono (by omega)); have hln := Nat.lt_of_lt_of_eq (Nat.lt_succ_self _) hzn.symm; clear hzn; (try first | (have hlt := r0.lt; replace r0 := r0.of_eq (hbn.block _ (by omega))) | replace r0 := r0.below (hbn.mono hle)); (try first | (have hlt := q1.lt; replace q1 := q1.of_eq (hbn.block _ (by omega))) | replace q1 := q1.below (hbn.mono hle)); (try first | (have hlt := q2.lt; replace q2 := q2.of_eq (hbn.block _ (by omega))) | replace q2 := q2.below (hbn.mono hle)); have q2 := ht; clear ht; simp only [Act.put, putS]) | (refine wpList_boxPx' rfl _ rfl _ rfl ?_; intro b_q1 wn hle hge ht hbn hzn; have hsz := B.size; replace B := B.trans (hbn.mono (by omega)); have hln := Nat.lt_of_lt_of_eq (Nat.lt_succ_self _) hzn.symm; clear hzn; (try first | (have hlt := r0.lt; replace r0 := r0.of_eq (hbn.block _ (by omega))) | replace r0 := r0.below (hbn.mono hle)); (try first | (have hlt := q1.lt; replace q1 := q1.of_eq (hbn.block _ (by omega))) | replace q1 := q1.below (hbn.mono hle)); (try first | (have hlt := q2.lt; replace q2 := q2.of_eq (hbn.block _ (by omega))) | replace q2 := q2.below (hbn.mono hle)); have q1 := ht; clear ht; simp only [Act.put, putS]) | fail)
    refine bodyPost_ret (results_px rfl _ _ (b_q2) rfl q2) rfl ?_
    exact ⟨by rw [e1.out], by rw [e1.out]; exact r0, B.toChg⟩
set_option maxHeartbeats 1000000 in
theorem P_BoundsR (v : Value) (ls : List TA) (w : World) (h : RS v ls w) (tk : TokL ls) (hn : ls.length ≤ maxLen) : Calls Tryz.prog 16 #[.agg #[v]] w fun e w' => e = .returned (Rc.v (boundL (fineL ls))) ∧ Below w.heap.size w w' := by
  have B := Below.refl w.heap.size w
  obtain ⟨a', c', hT⟩ := P_tiles v ls w h tk hn
  have HR0 := Lib.hid (hT w (Below.refl _ _)).2
  have HT := Lib.hid hT
  clear hT
  obtain ⟨a, c, rfl, hc⟩ := h.len
  have TK := Lib.hid (fineL_tok tk)
  have HP := Lib.hid (fine_pos ls)
  have hfl := fineL_length ls
  have eg := enters_of Tryz.func44 (by kernel_rfl) rfl
  go_enter Tryz.func16, Tryz.ntmps16
  go_upto_region 2 with (first | (have _ := r2; refine wpList_allocBk (t := 52) rfl _ (run_alloc_Rc _ _ rfl) ?_; intro b_r0 wn hle hge ht hbn hzn; have hsz := B.size; replace B := B.trans (hbn.mono (by omega)); have hln := Nat.lt_of_lt_of_eq (Nat.lt_succ_self _) hzn.symm; clear hzn; (try first | (have hlt := r1.lt; replace r1 := r1.of_eq (hbn.block _ (by omega))) | replace r1 := r1.below (hbn.mono hle)); (try first | (have hlt := r2.lt; replace r2 := r2.of_eq (hbn.block _ (by omega))) | replace r2 := r2.below (hbn.mono hle)); (try first | (have hlt := r0.lt; replace r0 := r0.of_eq (hbn.block _ (by omega))) | replace r0 := r0.below (hbn.mono hle)); have r0 := ht; clear ht; simp only [Act.put, putS]) | (have _ := r1; refine wpList_allocBk (t := 52) rfl _ (run_alloc_Rc _ _ rfl) ?_; intro b_r2 wn hle hge ht hbn hzn; have hsz := B.size; replace B := B.trans (hbn.mono (by omega)); have hln := Nat.lt_of_lt_of_eq (Nat.lt_succ_self _) hzn.symm; clear hzn; (try first | (have hlt := r1.lt; replace r1 := r1.of_eq (hbn.block _ (by omega))) | replace r1 := r1.below (hbn.mono hle)); (try first | (have hlt := r2.lt; replace r2 := r2.of_eq (hbn.block _ (by omega))) | replace r2 := r2.below (hbn.mono hle)); (try first | (have hlt := r0.lt; replace r0 := r0.of_eq (hbn.block _ (by omega))) | replace r0 := r0.below (hbn.mono hle)); have r2 := ht; clear ht; simp only [Act.put, putS]) | (refine wpList_boxB (t := 30) rfl _ rfl _ rfl ?_; intro b_r1 wn hle hge ht hbn hzn; have hsz := B.size; replace B := B.trans (hbn.mono (by omega)); have hln := Nat.lt_of_lt_of_eq (Nat.lt_succ_self _) hzn.symm; clear hzn; (try first | (have hlt := r1.lt; replace r1 := r1.of_eq (hbn.block _ (by omega))) | replace r1 := r1.below (hbn.mono hle)); (try first | (have hlt := r2.lt; replace r2 := r2.of_eq (hbn.block _ (by omega))) | replace r2 := r2.below (hbn.mono hle)); (try first | (have hlt := r0.lt; replace r0 := r0.of_eq (hbn.block _ (by omega))) | replace r0 := r0.below (hbn.mono hle)); have r1 := ht; clear ht; simp only [Act.put, putS]) | fail)
  have k0 : w.heap.size ≤ b_r0 := by omega
  have k1 : b_r2 < b_r0 := by have := r2.lt; omega
  go_wp2_with (first | (go_at_call 41; have hr0 := r0.lt; have hsp := rs_sep HR0.out k0; have hsz := B.size; refine (P_mapped boundF (fun s W => AtB 52 W b_r0 (rcA s)) b_r0 44 #[.pointer (some ⟨b_r0, 0, none⟩)] eg _ (fineL ls) Rc.zero _ (HT.out _ B).2 TK.out (by omega) HP.out hr0 hsp r0 (fun s W W' hI hk => hI.of_eq (hk _ hr0)) (fun s W x y p _ hI h1 h2 h3 h4 hp => P_Bounds1 s x y p b_r0 W hI h1 h2 h3 h4 hp) boundF_ok).mono ?_; rintro e wn ⟨v1, rfl, _, hI, hcc⟩; have hzn := hcc.size; replace r2 := r2.of_eq (hcc.block _ r2.lt (by omega)); replace B := Chg.below B hcc k0 hsz; have r0 := hI; clear hI) | (go_at_call 28; refine (HT.out _ B).1.mono ?_; rintro e wn ⟨rfl, hbn⟩; have hsz := B.size; have hzn := hbn.size; replace B := B.trans (hbn.mono B.size); (try first | replace r1 := r1.of_eq (hbn.block _ r1.lt) | replace r1 := r1.below hbn); (try first | replace r2 := r2.of_eq (hbn.block _ r2.lt) | replace r2 := r2.below hbn); (try first | replace r0 := r0.of_eq (hbn.block _ r0.lt) | replace r0 := r0.below hbn)) | (refine wpList_loadAny (t := 30) rfl _ rfl _ _ _ rfl (run_load_B r1 Tryz.isAgg30 (by kernel_rfl)) (by rfl) ?_; simp only [Act.put, putS]) | (refine wpList_loadAny (t := 52) rfl _ rfl _ _ _ rfl (run_load_B r0 Tryz.isAgg52 (by kernel_rfl)) (by rfl) ?_; simp only [Act.put, putS]) | (refine wpList_storeB (t := 52) rfl _ _ rfl _ rfl _ rfl r2 (by kernel_rfl) rfl (by simp [rcA, Value.oneCell']) ?_; clear r2; intro wn ht hcn hzn; have hsz := B.size; replace hzn := Nat.le_of_eq hzn.symm; replace B := Chg.below B hcn (by omega) B.size; (try replace r1 := r1.of_eq (hcn.block _ r1.lt (by omega))); (try replace r0 := r0.of_eq (hcn.block _ r0.lt (by omega))); have r2 := ht; clear ht; simp only [Act.put, putS]) | fail)
  refine bodyPost_ret (results_B (t := 52) rfl _ _ (b_r2) rfl r2 Tryz.isAgg52 (by kernel_rfl)) rfl ?_
  exact ⟨rfl, B⟩
end Go.Proofs.YtppccnjckiedlaaGreatDoor
/- Contracts of the reference's Bounds and Crop. -/
namespace Go.Proofs.YtppccnjckiedlaaGreatDoor
open Go.RowKit Go.Shelf Pl
set_option linter.unusedVariables false
set_option linter.unusedSimpArgs false
set_option maxRecDepth 20000

end Go.Proofs.YtppccnjckiedlaaGreatDoor
/- Rows of pixels; images; contract of the closure of Image of package raster. -/
namespace Go.Proofs.YtppccnjckiedlaaGreatDoor
open Go.RowKit Go.Shelf Pl
set_option linter.unusedVariables false
set_option linter.unusedSimpArgs false
set_option maxRecDepth 20000

def pxE : Elt Px 4 35 53 where
  enc := pxA
  bytes := 4
  zero := Px.zero
  size := fun _ => rfl
  one := fun x u hu => by
    have : u ∈ [Value.int .u8 x.r, .int .u8 x.g, .int .u8 x.b, .int .u8 x.a] := hu
    simp at this
    rcases this with rfl | rfl | rfl | rfl <;> rfl
  pos := by omega
  small := by omega
  und := Tryz.underlying53
  info := by kernel_rfl
  zer := by kernel_rfl
theorem rowE_set (ls : List Px) : ∀ (i : Nat) (p : Px), i < ls.length → ((((rowE pxE ls).set (i * 4) (.int .u8 p.r)).set (i * 4 + 1) (.int .u8 p.g)).set (i * 4 + 2) (.int .u8 p.b)).set (i * 4 + 3) (.int .u8 p.a) = rowE pxE (ls.set i p) := by
  induction ls with
  | nil => intro i p h; exact absurd h (Nat.not_lt_zero _)
  | cons q r ih =>
    intro i p h
    cases i with
    | zero => rfl
    | succ i =>
      have e : ∀ j, (i + 1) * 4 + j = (i * 4 + j) + 4 := fun j => by omega
      have := ih i p (by simpa using h)
      show ((((((Value.int .u8 q.r :: .int .u8 q.g :: .int .u8 q.b :: .int .u8 q.a :: rowE pxE r).set ((i + 1) * 4) _).set ((i + 1) * 4 + 1) _).set ((i + 1) * 4 + 2) _).set ((i + 1) * 4 + 3) _)) = Value.int .u8 q.r :: .int .u8 q.g :: .int .u8 q.b :: .int .u8 q.a :: rowE pxE (r.set i p)
      rw [show (i + 1) * 4 = (i * 4) + 4 by omega, show i * 4 + 4 + 1 = i * 4 + 1 + 4 by omega, show i * 4 + 4 + 2 = i * 4 + 2 + 4 by omega, show i * 4 + 4 + 3 = i * 4 + 3 + 4 by omega]
      simp only [List.set_cons_succ]
      rw [this]
theorem RowAt.set4 {w : World} {b i : Nat} {ls : List Px} (h : RowAt pxE w b ls) (hi : i < ls.length) (p : Px) :
    RowAt pxE ((((w.setCell ⟨b, i * 4, none⟩ (.int .u8 p.r)).setCell ⟨b, i * 4 + 1, none⟩ (.int .u8 p.g)).setCell ⟨b, i * 4 + 2, none⟩ (.int .u8 p.b)).setCell ⟨b, i * 4 + 3, none⟩ (.int .u8 p.a)) b (ls.set i p) := by
  unfold RowAt AtB
  rw [← rowE_set ls i p hi]
  have := heap_setCell_same _ b (i * 4 + 3) _ _ (.int .u8 p.a) (heap_setCell_same _ b (i * 4 + 2) _ _ (.int .u8 p.b) (heap_setCell_same _ b (i * 4 + 1) _ _ (.int .u8 p.g) (heap_setCell_same _ b (i * 4) _ _ (.int .u8 p.r) h)))
  simpa only [List.setIfInBounds_toArray] using this
theorem run_store_row {w : World} {b i : Nat} {ls : List Px} (h : RowAt pxE w b ls) (hi : i < ls.length) (p : Px) : (Instr.storeAt 35 (.pointer (some ⟨b, i * 4, none⟩)) (Px.v p)).run Tryz.prog w =
    .ok () ((((w.setCell ⟨b, i * 4, none⟩ (.int .u8 p.r)).setCell ⟨b, i * 4 + 1, none⟩ (.int .u8 p.g)).setCell ⟨b, i * 4 + 2, none⟩ (.int .u8 p.b)).setCell ⟨b, i * 4 + 3, none⟩ (.int .u8 p.a)) := by
  obtain ⟨q, hq⟩ : ∃ q, ls[i]? = some q := ⟨_, List.getElem?_eq_getElem hi⟩
  have hc := h.cells.2 i q hq
  have c0 : w.cell? ⟨b, i * 4, none⟩ = some (.int .u8 q.r) := by have := hc 0 (by omega); rw [Nat.zero_add, Nat.add_zero] at this; exact this
  have c1 : w.cell? ⟨b, i * 4 + 1, none⟩ = some (.int .u8 q.g) := by have := hc 1 (by omega); rw [Nat.zero_add] at this; exact this
  have c2 : w.cell? ⟨b, i * 4 + 2, none⟩ = some (.int .u8 q.b) := by have := hc 2 (by omega); rw [Nat.zero_add] at this; exact this
  have c3 : w.cell? ⟨b, i * 4 + 3, none⟩ = some (.int .u8 q.a) := by have := hc 3 (by omega); rw [Nat.zero_add] at this; exact this
  have hf := fun j => AtB.frozen h j
  simp [go_sem, c0, c1, c2, c3, hf, Px.v]
theorem wpList_storeRow {ops : Array Oper} {rest : List Oper} {o : Oper} {a : Act} {w : World} {Q : Exit → Act → World → Prop} (hg : o.guard = none) (x y : Operand) (ho : o.op = .store 35 x y) (b j : Nat) (hx : a.eval x = .pointer (some ⟨b, j, none⟩)) (q : Px) (hy : a.eval y = Px.v q) {ls : List Px} (ht : RowAt pxE w b ls) (i : Nat) (hi : i < ls.length) (hj : j = i * 4)
    (h : ∀ w', RowAt pxE w' b (ls.set i q) → Chg b w w' → w'.heap.size = w.heap.size → wpList Tryz.prog ops Q rest (a.put o.dst undef) w') : wpList Tryz.prog ops Q (o :: rest) a w := by
  subst hj
  refine wpList_storeAny hg x y ho _ ?_ (h _ (ht.set4 hi q) (((((Chg.refl b w).setCell _).setCell _).setCell _).setCell _) (by simp only [World.size_setCell]))
  rw [hx, hy]
  exact run_store_row ht hi q
/-! ### The closure of Image -/
def idxI (c : Rc) (x y : Int) : Int := (y - c.y0) * (c.x1 - c.x0) + x - c.x0
def imgF (c : Rc) (s : List Px) (x y : Int) (p : Px) : List Px × Px := (if hasR c x y = true then s.set (idxI c x y).toNat p else s, p)
def imgC (c : Rc) (u : Value) : Array Value := #[.int .i64 c.x0, .int .i64 c.y0, .int .i64 c.x1, .int .i64 c.y1, u]
/-- A rectangle that fits. -/
structure Fits (c : Rc) : Prop where
  h1 : c.x0 < c.x1
  h2 : c.y0 < c.y1
  h3 : -65536 ≤ c.x0
  h4 : -65536 ≤ c.y0
  h5 : c.x1 ≤ 65536
  h6 : c.y1 ≤ 65536
  h7 : c.x1 - c.x0 ≤ 256
  h8 : c.y1 - c.y0 ≤ 256
theorem fitsE_zero {c : Rc} (h : fitsE c = 0) : Fits c := by
  unfold fitsE at h
  split at h
  · rename_i hv
    obtain ⟨⟨a1, a2⟩, a3, a4, a5, a6⟩ := (validR_iff c).1 hv
    split at h
    · cases h
    · exact ⟨a1, a2, a3, a4, a5, a6, by omega, by omega⟩
  · cases h
theorem Fits.valid {c : Rc} (h : Fits c) : validR c = true := (validR_iff c).2 ⟨⟨h.h1, h.h2⟩, h.h3, h.h4, h.h5, h.h6⟩
def areaN (c : Rc) : Nat := ((c.x1 - c.x0) * (c.y1 - c.y0)).toNat
theorem idxI_bd {c : Rc} (hf : Fits c) {x y : Int} (hh : hasR c x y = true) : 0 ≤ (y - c.y0) * (c.x1 - c.x0) ∧ (y - c.y0) * (c.x1 - c.x0) ≤ 65536 ∧ 0 ≤ idxI c x y ∧ (idxI c x y).toNat < areaN c := by
  have hh := of_decide_eq_true hh
  obtain ⟨a1, a2, a3, a4, a5, a6, a7, a8⟩ := hf
  unfold idxI areaN
  obtain ⟨W, hW⟩ : ∃ W : Nat, c.x1 - c.x0 = W := ⟨(c.x1 - c.x0).toNat, by omega⟩
  obtain ⟨Y, hY⟩ : ∃ Y : Nat, y - c.y0 = Y := ⟨(y - c.y0).toNat, by omega⟩
  obtain ⟨H, hH⟩ : ∃ H : Nat, c.y1 - c.y0 = H := ⟨(c.y1 - c.y0).toNat, by omega⟩
  obtain ⟨X, hX⟩ : ∃ X : Nat, x - c.x0 = X := ⟨(x - c.x0).toNat, by omega⟩
  rw [hW, hY, hH]
  have e1 : ((Y : Int) * (W : Int)) + x - c.x0 = ((Y * W + X : Nat) : Int) := by rw [Int.natCast_add, Int.natCast_mul]; omega
  have e2 : ((W : Int) * (H : Int)) = ((W * H : Nat) : Int) := by rw [Int.natCast_mul]
  have e3 : ((Y : Int) * (W : Int)) = ((Y * W : Nat) : Int) := by rw [Int.natCast_mul]
  rw [e1, e2, e3]
  have m1 : Y * W ≤ 256 * 256 := Nat.mul_le_mul (by omega) (by omega)
  have m2 : (Y + 1) * W ≤ H * W := Nat.mul_le_mul_right W (by omega)
  rw [Nat.succ_mul] at m2
  have m3 : W * H = H * W := Nat.mul_comm _ _
  omega
theorem rcA_x0 {w : World} {b : Nat} {c : Rc} (h : AtB 52 w b (rcA c)) : w.cell? ⟨b, 0, none⟩ = some (.int .i64 c.x0) := h.cell 0 rfl
theorem rcA_y0 {w : World} {b : Nat} {c : Rc} (h : AtB 52 w b (rcA c)) : w.cell? ⟨b, 1, none⟩ = some (.int .i64 c.y0) := h.cell 1 rfl
theorem rcA_x1 {w : World} {b : Nat} {c : Rc} (h : AtB 52 w b (rcA c)) : w.cell? ⟨b, 2, none⟩ = some (.int .i64 c.x1) := h.cell 2 rfl
theorem imgC_u {w : World} {b : Nat} {c : Rc} {u : Value} (h : AtB 55 w b (imgC c u)) : w.cell? ⟨b, 4, none⟩ = some u := h.cell 4 rfl
theorem run_load_slp {w : World} {b j : Nat} {v : Value} (h : w.cell? ⟨b, j, none⟩ = some v) : (Instr.loadAt 53 (.pointer (some ⟨b, j, none⟩))).run Tryz.prog w = .ok v w := by
  simp [go_sem, h]
set_option maxHeartbeats 1000000 in
theorem P_Image1 (c : Rc) (hf : Fits c) (s : List Px) (hs : s.length = areaN c) (x y : Int) (p : Px) (bc bm cb : Nat) (w : World) (r0 : AtB 52 w bc (rcA c)) (m0 : AtB 55 w bm (imgC c (.slice (some ⟨cb, 0, none⟩) (areaN c) (areaN c)))) (row : RowAt pxE w cb s) (h1 : bc ≠ cb) (h2 : bm ≠ cb) :
    Calls Tryz.prog 42 #[.int .i64 x, .int .i64 y, Px.v p, .pointer (some ⟨bc, 0, none⟩), .pointer (some ⟨bm, 0, none⟩)] w fun e w' => e = .returned (Px.v (imgF c s x y p).2) ∧ (AtB 52 w' bc (rcA c) ∧ AtB 55 w' bm (imgC c (.slice (some ⟨cb, 0, none⟩) (areaN c) (areaN c))) ∧ RowAt pxE w' cb (imgF c s x y p).1) ∧ Chg cb w w' := by
  have B := Exc.refl cb w
  have hb1 := r0.lt
  have hb2 := m0.lt
  have hb3 := row.lt
  cases hh : hasR c x y with
  | true =>
    have e1 := Lib.hid (show imgF c s x y p = (s.set (idxI c x y).toNat p, p) from by unfold imgF; rw [hh]; rfl)
    obtain ⟨m1, m2, m3, m4⟩ := idxI_bd hf hh
    have hix : (idxI c x y).toNat < s.length := by rw [hs]; exact m4
    have hh2 := of_decide_eq_true hh
    obtain ⟨g1, g2, g3, g4⟩ := hh2
    obtain ⟨a1, a2, a3, a4, a5, a6, a7, a8⟩ := hf
    have hidx : (y - c.y0) * (c.x1 - c.x0) + x - c.x0 = idxI c x y := rfl
    have m5 : idxI c x y < (areaN c : Int) := by omega
    have m6 : (areaN c : Int) ≤ 65536 := by
      unfold areaN
      have := mul_bd (a := c.x1 - c.x0) (b := c.y1 - c.y0) (m := 256) (k := 256) (by omega) (by omega) (by omega) (by omega)
      omega
    go_enter Tryz.func42, Tryz.ntmps42
    go_wp2_with (first | (refine wpList_storePx rfl _ _ rfl _ rfl (_) rfl q2 ?_; clear q2; intro wn ht hcn hzn; have hsz := B.size; replace hzn := Nat.le_of_eq hzn.symm; replace B := Exc.store B hcn (by omega); (try replace r0 := r0.of_eq (hcn.block _ r0.lt (by omega))); (try replace m0 := m0.of_eq (hcn.block _ m0.lt (by omega))); (try replace q1 := q1.of_eq (hcn.block _ q1.lt (by omega))); (try replace row := row.of_eq (hcn.block _ row.lt (by omega))); have q2 := ht; clear ht; simp only [Act.put, putS]) | (refine wpList_storeRow rfl _ _ rfl _ _ rfl _ rfl row (idxI c x y).toNat hix (by first | rfl | omega) ?_; clear row; intro wn ht hcn hzn; have hsz := B.size; replace hzn := Nat.le_of_eq hzn.symm; replace B := Exc.chg B hcn; (try replace r0 := r0.of_eq (hcn.block _ r0.lt (by omega))); (try replace m0 := m0.of_eq (hcn.block _ m0.lt (by omega))); (try replace q1 := q1.of_eq (hcn.block _ q1.lt (by omega))); (try replace q2 := q2.of_eq (hcn.block _ q2.lt (by omega))); have row := ht; clear ht; simp only [Act.put, putS]) | (refine wpList_loadPx rfl _ rfl _ rfl q1 ?_; simp only [Act.put, putS]) | (refine wpList_loadAny (t := 53) rfl _ rfl _ _ _ rfl (run_load_slp (imgC_u m0)) (by rfl) ?_; simp only [Act.put, putS]) | (refine wpList_loadAny (t := 3) rfl _ rfl _ _ _ rfl (run_load_int (rcA_x0 r0)) (by first | rfl | omega) ?_; simp only [Act.put, putS]) | (refine wpList_loadAny (t := 3) rfl _ rfl _ _ _ rfl (run_load_int (rcA_y0 r0)) (by first | rfl | omega) ?_; simp only [Act.put, putS]) | (refine wpList_loadAny (t := 3) rfl _ rfl _ _ _ rfl (run_load_int (rcA_x1 r0)) (by first | rfl | omega) ?_; simp only [Act.put, putS]) | (go_at_call 43; refine (P_Has c x y _).mono ?_; rintro e wn ⟨rfl, hbn⟩; have hsz := B.size; have hzn := hbn.size; replace B := B.trans (hbn.mono B.size); (try first | replace r0 := r0.of_eq (hbn.block _ r0.lt) | replace r0 := r0.below hbn); (try first | replace m0 := m0.of_eq (hbn.block _ m0.lt) | replace m0 := m0.below hbn); (try first | replace q1 := q1.of_eq (hbn.block _ q1.lt) | replace q1 := q1.below hbn); (try first | replace q2 := q2.of_eq (hbn.block _ q2.lt) | replace q2 := q2.below hbn); (try first | replace row := row.of_eq (hbn.block _ row.lt) | replace row := row.below hbn)) | (refine wpList_loadAny (t := 52) rfl _ rfl _ _ _ rfl (run_load_B r0 Tryz.isAgg52 (by kernel_rfl)) (by rfl) ?_; simp only [Act.put, putS]) | (have _ := q1; refine wpList_allocPx' rfl rfl ?_; intro b_q2 wn hle hge ht hbn hzn; have hsz := B.size; replace B := B.trans (hbn.mono (by omega)); have hln := Nat.lt_of_lt_of_eq (Nat.lt_succ_self _) hzn.symm; clear hzn; (try first | (have hlt := r0.lt; replace r0 := r0.of_eq (hbn.block _ (by omega))) | replace r0 := r0.below (hbn.mono hle)); (try first | (have hlt := m0.lt; replace m0 := m0.of_eq (hbn.block _ (by omega))) | replace m0 := m0.below (hbn.mono hle)); (try first | (have hlt := q1.lt; replace q1 := q1.of_eq (hbn.block _ (by omega))) | replace q1 := q1.below (hbn.mono hle)); (try first | (have hlt := q2.lt; replace q2 := q2.of_eq (hbn.block _ (by omega))) | replace q2 := q2.below (hbn.mono hle)); (try first | (have hlt := row.lt; replace row := row.of_eq (hbn.block _ (by omega))) | replace row := row.below (hbn.mono hle)); have q2 := ht; clear ht; simp only [Act.put, putS]) | (refine wpList_boxPx' rfl _ rfl _ rfl ?_; intro b_q1 wn hle hge ht hbn hzn; have hsz := B.size; replace B := B.trans (hbn.mono (by omega)); have hln := Nat.lt_of_lt_of_eq (Nat.lt_succ_self _) hzn.symm; clear hzn; (try first | (have hlt := r0.lt; replace r0 := r0.of_eq (hbn.block _ (by omega))) | replace r0 := r0.below (hbn.mono hle)); (try first | (have hlt := m0.lt; replace m0 := m0.of_eq (hbn.block _ (by omega))) | replace m0 := m0.below (hbn.mono hle)); (try first | (have hlt := q1.lt; replace q1 := q1.of_eq (hbn.block _ (by omega))) | replace q1 := q1.below (hbn.mono hle)); (try first | (have hlt := q2.lt; replace q2 := q2.of_eq (hbn.block _ (by omega))) | replace q2 := q2.below (hbn.mono hle)); (try first | (have hlt := row.lt; replace row := row.of_eq (hbn.block _ (by omega))) | replace row := row.below (hbn.mono hle)); have q1 := ht; clear ht; simp only [Act.put, putS]) | fail)
    refine bodyPost_ret (results_px rfl _ _ (b_q2) rfl q2) rfl ?_
    exact ⟨by rw [e1.out], by rw [e1.out]; exact ⟨r0, m0, row⟩, B.toChg⟩
  | false =>
    have e1 := Lib.hid (show imgF c s x y p = (s, p) from by unfold imgF; rw [hh]; rfl)
    go_enter Tryz.func42, Tryz.ntmps42
    go_wp2_with (first | (refine wpList_storePx rfl _ _ rfl _ rfl (_) rfl q2 ?_; clear q2; intro wn ht hcn hzn; have hsz := B.size; replace hzn := Nat.le_of_eq hzn.symm; replace B := Exc.store B hcn (by omega); (try replace r0 := r0.of_eq (hcn.block _ r0.lt (by omega))); (try replace m0 := m0.of_eq (hcn.block _ m0.lt (by omega))); (try replace q1 := q1.of_eq (hcn.block _ q1.lt (by omega))); (try replace row := row.of_eq (hcn.block _ row.lt (by omega))); have q2 := ht; clear ht; simp only [Act.put, putS]) | (refine wpList_loadPx rfl _ rfl _ rfl q1 ?_; simp only [Act.put, putS]) | (go_at_call 43; refine (P_Has c x y _).mono ?_; rintro e wn ⟨rfl, hbn⟩; have hsz := B.size; have hzn := hbn.size; replace B := B.trans (hbn.mono B.size); (try first | replace r0 := r0.of_eq (hbn.block _ r0.lt) | replace r0 := r0.below hbn); (try first | replace m0 := m0.of_eq (hbn.block _ m0.lt) | replace m0 := m0.below hbn); (try first | replace q1 := q1.of_eq (hbn.block _ q1.lt) | replace q1 := q1.below hbn); (try first | replace q2 := q2.of_eq (hbn.block _ q2.lt) | replace q2 := q2.below hbn); (try first | replace row := row.of_eq (hbn.block _ row.lt) | replace row := row.below hbn)) | (refine wpList_loadAny (t := 52) rfl _ rfl _ _ _ rfl (run_load_B r0 Tryz.isAgg52 (by kernel_rfl)) (by rfl) ?_; simp only [Act.put, putS]) | (have _ := q1; refine wpList_allocPx' rfl rfl ?_; intro b_q2 wn hle hge ht hbn hzn; have hsz := B.size; replace B := B.trans (hbn.mono (by omega)); have hln := Nat.lt_of_lt_of_eq (Nat.lt_succ_self _) hzn.symm; clear hzn; (try first | (have hlt := r0.lt; replace r0 := r0.of_eq (hbn.block _ (by omega))) | replace r0 := r0.below (hbn.mono hle)); (try first | (have hlt := m0.lt; replace m0 := m0.of_eq (hbn.block _ (by omega))) | replace m0 := m0.below (hbn.mono hle)); (try first | (have hlt := q1.lt; replace q1 := q1.of_eq (hbn.block _ (by omega))) | replace q1 := q1.below (hbn.mono hle)); (try first | (have hlt := q2.lt; replace q2 := q2.of_eq (hbn.block _ (by omega))) | replace q2 := q2.below (hbn.mono hle)); (try first | (have hlt := row.lt; replace row := row.of_eq (hbn.block _ (by omega))) | replace row := row.below (hbn.mono hle)); have q2 := ht; clear ht; simp only [Act.put, putS]) | (refine wpList_boxPx' rfl _ rfl _ rfl ?_; intro b_q1 wn hle hge ht hbn hzn; have hsz := B.size; replace B := B.trans (hbn.mono (by omega)); have hln := Nat.lt_of_lt_of_eq (Nat.lt_succ_self _) hzn.symm; clear hzn; (try first | (have hlt := r0.lt; replace r0 := r0.of_eq (hbn.block _ (by omega))) | replace r0 := r0.below (hbn.mono hle)); (try first | (have hlt := m0.lt; replace m0 := m0.of_eq (hbn.block _ (by omega))) | replace m0 := m0.below (hbn.mono hle)); (try first | (have hlt := q1.lt; replace q1 := q1.of_eq (hbn.block _ (by omega))) | replace q1 := q1.below (hbn.mono hle)); (try first | (have hlt := q2.lt; replace q2 := q2.of_eq (hbn.block _ (by omega))) | replace q2 := q2.below (hbn.mono hle)); (try first | (have hlt := row.lt; replace row := row.of_eq (hbn.block _ (by omega))) | replace row := row.below (hbn.mono hle)); have q1 := ht; clear ht; simp only [Act.put, putS]) | fail)
    refine bodyPost_ret (results_px rfl _ _ (b_q2) rfl q2) rfl ?_
    exact ⟨by rw [e1.out], by rw [e1.out]; exact ⟨r0, m0, row⟩, B.toChg⟩
end Go.Proofs.YtppccnjckiedlaaGreatDoor
/- Contract of Image of package raster. -/
namespace Go.Proofs.YtppccnjckiedlaaGreatDoor
open Go.RowKit Go.Shelf Pl
set_option linter.unusedVariables false
set_option linter.unusedSimpArgs false
set_option maxRecDepth 20000

theorem imgF_len (c : Rc) (s : List Px) (x y : Int) (p : Px) : (imgF c s x y p).1.length = s.length := by
  unfold imgF
  show (if _ then _ else _ : List Px).length = _
  split
  · exact List.length_set
  · rfl
theorem imgF_ok (c : Rc) (s : List Px) (x y : Int) (p : Px) (h : p.ok) : (imgF c s x y p).2.ok := h
/-- The pixels that Image of package raster makes. -/
def imgPL (c : Rc) (ks : List TA) : List Px := (mapK (imgF c) ks (List.replicate (areaN c) Px.zero) ks.length).1
theorem run_load_rc {w : World} {b : Nat} {c : Rc} (h : AtB 52 w b (rcA c)) : (Instr.loadAt 52 (.pointer (some ⟨b, 0, none⟩))).run Tryz.prog w = .ok (.agg #[.int .i64 c.x0, .int .i64 c.y0, .int .i64 c.x1, .int .i64 c.y1]) w :=
  run_load_B h Tryz.isAgg52 (by kernel_rfl)
theorem run_load_img {w : World} {b : Nat} {c : Rc} {u : Value} (h : AtB 55 w b (imgC c u)) : (Instr.loadAt 55 (.pointer (some ⟨b, 0, none⟩))).run Tryz.prog w = .ok (.agg #[.int .i64 c.x0, .int .i64 c.y0, .int .i64 c.x1, .int .i64 c.y1, u]) w :=
  run_load_B h Tryz.isAgg55 (by kernel_rfl)
theorem run_alloc_Im (w : World) (o : Oper) (ho : o.op = .alloc 55) (ev : Operand → Value) : (execOp ev o).run Tryz.prog w = .ok (.value (.pointer (some ⟨w.heap.size, 0, none⟩))) (w.alloc (.cells (imgC Rc.zero (.slice none 0 0)) 55)) := by
  obtain ⟨d, p, t, ps, af, gd⟩ := o
  simp only at ho
  subst ho
  kernel_rfl
theorem area_N {c : Rc} (hf : Fits c) : areaR c = (areaN c : Int) := by
  obtain ⟨a1, a2, a3, a4, a5, a6, a7, a8⟩ := hf
  have hE : emptyR c = false := by unfold emptyR; exact decide_eq_false (by omega)
  have hm := mul_bd (a := c.x1 - c.x0) (b := c.y1 - c.y0) (m := 256) (k := 256) (by omega) (by omega) (by omega) (by omega)
  unfold areaR areaN
  rw [hE]
  show (c.x1 - c.x0) * (c.y1 - c.y0) = _
  omega
theorem area_bd {c : Rc} (hf : Fits c) : 1 ≤ areaN c ∧ areaN c ≤ 65536 := by
  obtain ⟨a1, a2, a3, a4, a5, a6, a7, a8⟩ := hf
  unfold areaN
  have hm := mul_bd (a := c.x1 - c.x0) (b := c.y1 - c.y0) (m := 256) (k := 256) (by omega) (by omega) (by omega) (by omega)
  have hp : 0 < (c.x1 - c.x0) * (c.y1 - c.y0) := Int.mul_pos (by omega) (by omega)
  omega
set_option maxHeartbeats 2000000 in
theorem P_Image_ok (v : Value) (ls : List TA) (c : Rc) (w : World) (h : RS v ls w) (tk : TokL ls) (hn : ls.length ≤ maxLen) (hE : fitsE c = 0) : Calls Tryz.prog 15 #[.agg #[v], Rc.v c] w fun e w' => ∃ u, e = .returned (.tuple #[.agg (imgC c u), .int .i64 0]) ∧ RSE pxE u (imgPL c (fineL ls)) w' ∧ Below w.heap.size w w' := by
  have B := Below.refl w.heap.size w
  obtain ⟨a', c', hT⟩ := P_tiles v ls w h tk hn
  have HR0 := Lib.hid (hT w (Below.refl _ _)).2
  have HT := Lib.hid hT
  clear hT
  obtain ⟨a, cp, rfl, hc⟩ := h.len
  have TK := Lib.hid (fineL_tok tk)
  have HP := Lib.hid (fine_pos ls)
  have hfl := fineL_length ls
  have FT := Lib.hid (fitsE_zero hE)
  obtain ⟨an1, an2⟩ := area_bd FT.out
  have AR : Hid (∀ w, Calls Tryz.prog 40 #[.agg #[.int .i64 c.x0, .int .i64 c.y0, .int .i64 c.x1, .int .i64 c.y1]] w fun e w' => e = .returned (.int .i64 (areaN c : Int)) ∧ Below w.heap.size w w') := Lib.hid fun w => by
    have := P_Area c w FT.out.valid
    rw [area_N FT.out] at this
    exact this
  have FE : Hid (∀ w, Calls Tryz.prog 39 #[.agg #[.int .i64 c.x0, .int .i64 c.y0, .int .i64 c.x1, .int .i64 c.y1]] w fun e w' => e = .returned (.int .i64 0) ∧ Below w.heap.size w w') := Lib.hid fun w => by
    have := P_fits c w
    rw [hE] at this
    exact this
  have eg := enters_of Tryz.func42 (by kernel_rfl) rfl
  clear h tk hE
  simp only [Rc.v_A]
  go_enter Tryz.func15, Tryz.ntmps15
  go_upto_region 4 with (first | (go_at_call 39; refine (FE.out _).mono ?_; rintro e wn ⟨rfl, hbn⟩; have hsz := B.size; have hzn := hbn.size; replace B := B.trans (hbn.mono B.size); (try first | replace r1 := r1.of_eq (hbn.block _ r1.lt) | replace r1 := r1.below hbn); (try first | replace r0 := r0.of_eq (hbn.block _ r0.lt) | replace r0 := r0.below hbn); (try first | replace m4 := m4.of_eq (hbn.block _ m4.lt) | replace m4 := m4.below hbn); (try first | replace m7 := m7.of_eq (hbn.block _ m7.lt) | replace m7 := m7.below hbn); (try first | replace row := row.of_eq (hbn.block _ row.lt) | replace row := row.below hbn)) | (refine wpList_loadAny (t := 52) rfl _ rfl _ _ _ rfl (run_load_rc r0) (by rfl) ?_; simp only [Act.put, putS]) | (have _ := r0; refine wpList_allocBk (t := 55) rfl _ (run_alloc_Im _ _ rfl) ?_; intro b_m4 wn hle hge ht hbn hzn; have hsz := B.size; replace B := B.trans (hbn.mono (by omega)); have hln := Nat.lt_of_lt_of_eq (Nat.lt_succ_self _) hzn.symm; clear hzn; (try first | (have hlt := r1.lt; replace r1 := r1.of_eq (hbn.block _ (by omega))) | replace r1 := r1.below (hbn.mono hle)); (try first | (have hlt := r0.lt; replace r0 := r0.of_eq (hbn.block _ (by omega))) | replace r0 := r0.below (hbn.mono hle)); (try first | (have hlt := m4.lt; replace m4 := m4.of_eq (hbn.block _ (by omega))) | replace m4 := m4.below (hbn.mono hle)); (try first | (have hlt := m7.lt; replace m7 := m7.of_eq (hbn.block _ (by omega))) | replace m7 := m7.below (hbn.mono hle)); (try first | (have hlt := row.lt; replace row := row.of_eq (hbn.block _ (by omega))) | replace row := row.below (hbn.mono hle)); have m4 := ht; clear ht; simp only [Act.put, putS]) | (have _ := r1; refine wpList_boxB (t := 52) rfl _ rfl _ rfl ?_; intro b_r0 wn hle hge ht hbn hzn; have hsz := B.size; replace B := B.trans (hbn.mono (by omega)); have hln := Nat.lt_of_lt_of_eq (Nat.lt_succ_self _) hzn.symm; clear hzn; (try first | (have hlt := r1.lt; replace r1 := r1.of_eq (hbn.block _ (by omega))) | replace r1 := r1.below (hbn.mono hle)); (try first | (have hlt := r0.lt; replace r0 := r0.of_eq (hbn.block _ (by omega))) | replace r0 := r0.below (hbn.mono hle)); (try first | (have hlt := m4.lt; replace m4 := m4.of_eq (hbn.block _ (by omega))) | replace m4 := m4.below (hbn.mono hle)); (try first | (have hlt := m7.lt; replace m7 := m7.of_eq (hbn.block _ (by omega))) | replace m7 := m7.below (hbn.mono hle)); (try first | (have hlt := row.lt; replace row := row.of_eq (hbn.block _ (by omega))) | replace row := row.below (hbn.mono hle)); have r0 := ht; clear ht; simp only [Act.put, putS]) | (refine wpList_boxB (t := 30) rfl _ rfl _ rfl ?_; intro b_r1 wn hle hge ht hbn hzn; have hsz := B.size; replace B := B.trans (hbn.mono (by omega)); have hln := Nat.lt_of_lt_of_eq (Nat.lt_succ_self _) hzn.symm; clear hzn; (try first | (have hlt := r1.lt; replace r1 := r1.of_eq (hbn.block _ (by omega))) | replace r1 := r1.below (hbn.mono hle)); (try first | (have hlt := r0.lt; replace r0 := r0.of_eq (hbn.block _ (by omega))) | replace r0 := r0.below (hbn.mono hle)); (try first | (have hlt := m4.lt; replace m4 := m4.of_eq (hbn.block _ (by omega))) | replace m4 := m4.below (hbn.mono hle)); (try first | (have hlt := m7.lt; replace m7 := m7.of_eq (hbn.block _ (by omega))) | replace m7 := m7.below (hbn.mono hle)); (try first | (have hlt := row.lt; replace row := row.of_eq (hbn.block _ (by omega))) | replace row := row.below (hbn.mono hle)); have r1 := ht; clear ht; simp only [Act.put, putS]) | fail)
  have q1 : w.heap.size ≤ b_r1 := by omega
  have q2 : b_r1 < b_r0 := by omega
  have q3 : b_r0 < b_m4 := by omega
  have q4 := m4.lt
  go_cut [7] from 14 to 18 (fun s wx => ∃ b_m7 b_row, s = .pointer (some ⟨b_m7, 0, none⟩) ∧ AtB 55 wx b_m7 (imgC c (.slice (some ⟨b_row, 0, none⟩) (areaN c) (areaN c))) ∧ RowAt pxE wx b_row (List.replicate (areaN c) Px.zero) ∧ Below w.heap.size w wx ∧ b_m4 < b_m7 ∧ b_m4 < b_row ∧ b_m7 ≠ b_row ∧ AtB 30 wx b_r1 #[.slice a ls.length cp] ∧ AtB 52 wx b_r0 (rcA c) ∧ AtB 55 wx b_m4 (imgC Rc.zero (.slice none 0 0)))
  case first =>
    try have r1B := r1
    try have r0B := r0
    try have m4B := m4
    try have m7B := m7
    try have rowB := row
    refine wp_region_X0 6 #[false, false, false, false, false, false, false] (by kernel_rfl) (by kernel_rfl) ?_
    intro wn hbn
    have hX := hbn
    have hsz := B.size
    have hzn := hbn.size
    replace B := B.trans (hbn.mono B.size)
    try first | replace r1 := r1.of_eq (hbn.block _ r1.lt) | replace r1 := r1.below hbn
    try first | replace r0 := r0.of_eq (hbn.block _ r0.lt) | replace r0 := r0.below hbn
    try first | replace m4 := m4.of_eq (hbn.block _ m4.lt) | replace m4 := m4.below hbn
    try first | replace m7 := m7.of_eq (hbn.block _ m7.lt) | replace m7 := m7.below hbn
    try first | replace row := row.of_eq (hbn.block _ row.lt) | replace row := row.below hbn
    simp only [List.length_cons, List.length_nil, Nat.reduceAdd]
    refine anyX_take 0 rfl (by kernel_rfl) ⟨_, ov_of hX⟩ ?_
    intro K hK
    try simp only [List.getElem_toArray, List.getElem_cons_zero, List.getElem_cons_succ]
    (first | (refine quiet_loadAny (t := 52) rfl _ _ _ rfl (fun w hw => run_load_rc (ov_B r0B w hw)) (by rfl) ?_; simp only [Act.put, putS]; go_big_quiet_on) | (go_big_quiet_op; go_big_quiet_on))
    simp only [Act.put, putS]
    refine anyX_take 1 rfl (by kernel_rfl) ⟨_, ov_of hX⟩ ?_
    intro K hK
    try simp only [List.getElem_toArray, List.getElem_cons_zero, List.getElem_cons_succ]
    (first | (refine quiet_loadAny (t := 52) rfl _ _ _ rfl (fun w hw => run_load_rc (ov_B r0B w hw)) (by rfl) ?_; simp only [Act.put, putS]; go_big_quiet_on) | (go_big_quiet_op; go_big_quiet_on))
    simp only [Act.put, putS]
    refine anyX_two 2 5 rfl rfl (by kernel_rfl) rfl rfl (fun K hK => ?_) (fun K hK => ?_)
    · skip
      try simp only [List.getElem_toArray, List.getElem_cons_zero, List.getElem_cons_succ]
      go_simp
      go_at_call 40
      refine (AR.out _).mono ?_
      rintro e wn ⟨rfl, hbn⟩
      have hsz := B.size
      have hzn := hbn.size
      have hsx := hX.size
      replace B := B.trans (hbn.mono B.size)
      replace hX := hX.trans (hbn.mono hX.size)
      try first | replace r1 := r1.of_eq (hbn.block _ r1.lt) | replace r1 := r1.below hbn
      try first | replace r0 := r0.of_eq (hbn.block _ r0.lt) | replace r0 := r0.below hbn
      try first | replace m4 := m4.of_eq (hbn.block _ m4.lt) | replace m4 := m4.below hbn
      try first | replace m7 := m7.of_eq (hbn.block _ m7.lt) | replace m7 := m7.below hbn
      try first | replace row := row.of_eq (hbn.block _ row.lt) | replace row := row.below hbn
      refine hK _ _ ⟨fun _ => ⟨_, ov_of hX⟩, ?_⟩
      clear hK K
      try simp only [List.getElem_toArray, List.getElem_cons_zero, List.getElem_cons_succ]
      simp only [Act.put, putS]
      refine anyX_two 3 5 rfl rfl (by kernel_rfl) rfl rfl (fun K hK => ?_) (fun K hK => ?_)
      · skip
        try simp only [List.getElem_toArray, List.getElem_cons_zero, List.getElem_cons_succ]
        refine owp_makeE (E := pxE) _ _ rfl (areaN c) (by rfl) (by rfl) (by omega) (by omega) ?_
        intro b_row wn hle hge ht hbn hzn
        have hsz := B.size
        have hsx := hX.size
        replace B := B.trans (hbn.mono (by omega))
        replace hX := hX.trans (hbn.mono (by omega))
        try first | (have hlt := r1.lt; replace r1 := r1.of_eq (hbn.block _ (by omega))) | replace r1 := r1.below (hbn.mono hle)
        try first | (have hlt := r0.lt; replace r0 := r0.of_eq (hbn.block _ (by omega))) | replace r0 := r0.below (hbn.mono hle)
        try first | (have hlt := m4.lt; replace m4 := m4.of_eq (hbn.block _ (by omega))) | replace m4 := m4.below (hbn.mono hle)
        try first | (have hlt := m7.lt; replace m7 := m7.of_eq (hbn.block _ (by omega))) | replace m7 := m7.below (hbn.mono hle)
        try first | (have hlt := row.lt; replace row := row.of_eq (hbn.block _ (by omega))) | replace row := row.below (hbn.mono hle)
        have row := ht
        clear ht
        refine hK _ _ ⟨fun _ => ⟨_, ov_of hX⟩, ?_⟩
        clear hK K
        try simp only [List.getElem_toArray, List.getElem_cons_zero, List.getElem_cons_succ]
        simp only [Act.put, putS]
        refine anyX_take 4 rfl (by kernel_rfl) ⟨_, ov_of hX⟩ ?_
        intro K hK
        try simp only [List.getElem_toArray, List.getElem_cons_zero, List.getElem_cons_succ]
        (first | (refine quiet_loadAny (t := 52) rfl _ _ _ rfl (fun w hw => run_load_rc (ov_B r0B w hw)) (by rfl) ?_; simp only [Act.put, putS]; go_big_quiet_on) | (go_big_quiet_op; go_big_quiet_on))
        simp only [Act.put, putS]
        refine anyX_next 5 rfl (by kernel_rfl) rfl (fun K hK => ?_)
        try simp only [List.getElem_toArray, List.getElem_cons_zero, List.getElem_cons_succ]
        refine owp_allocBk (t := 55) _ (run_alloc_Im _ _ rfl) ?_
        intro b_m7 wn hle hge ht hbn hzn
        have hsz := B.size
        have hsx := hX.size
        replace B := B.trans (hbn.mono (by omega))
        replace hX := hX.trans (hbn.mono (by omega))
        try first | (have hlt := r1.lt; replace r1 := r1.of_eq (hbn.block _ (by omega))) | replace r1 := r1.below (hbn.mono hle)
        try first | (have hlt := r0.lt; replace r0 := r0.of_eq (hbn.block _ (by omega))) | replace r0 := r0.below (hbn.mono hle)
        try first | (have hlt := m4.lt; replace m4 := m4.of_eq (hbn.block _ (by omega))) | replace m4 := m4.below (hbn.mono hle)
        try first | (have hlt := m7.lt; replace m7 := m7.of_eq (hbn.block _ (by omega))) | replace m7 := m7.below (hbn.mono hle)
        try first | (have hlt := row.lt; replace row := row.of_eq (hbn.block _ (by omega))) | replace row := row.below (hbn.mono hle)
        have m7 := ht
        clear ht
        refine hK _ _ ⟨fun _ => ⟨_, ov_of hX⟩, ?_⟩
        clear hK K
        try simp only [List.getElem_toArray, List.getElem_cons_zero, List.getElem_cons_succ]
        simp only [Act.put, putS]
        refine anyX_seq (by kernel_rfl) (by kernel_rfl) ?_
        simp only [List.drop_succ_cons, List.drop_zero]
        go_wp2_with (first | (refine wpList_storeB (t := 55) rfl _ _ rfl _ rfl _ rfl m7 (by kernel_rfl) rfl (by simp [imgC, Value.oneCell']) ?_; clear m7; intro wn ht hcn hzn; have hsz := B.size; replace hzn := Nat.le_of_eq hzn.symm; replace B := Chg.below B hcn (by omega) B.size; (try replace r1 := r1.of_eq (hcn.block _ r1.lt (by omega))); (try replace r0 := r0.of_eq (hcn.block _ r0.lt (by omega))); (try replace m4 := m4.of_eq (hcn.block _ m4.lt (by omega))); (try replace row := row.of_eq (hcn.block _ row.lt (by omega))); have m7 := ht; clear ht; simp only [Act.put, putS]) | fail)
        refine NoPan.normal ?_
        go_wp2_with fail
        go_meet
        exact ⟨b_m7, b_row, rfl, m7, row, B, by omega, by omega, by omega, r1, r0, m4⟩
      · skip
        try simp only [List.getElem_toArray, List.getElem_cons_zero, List.getElem_cons_succ]
        refine owp_allocBk (t := 55) _ (run_alloc_Im _ _ rfl) ?_
        intro b_m7 wn hle hge ht hbn hzn
        have hsz := B.size
        have hsx := hX.size
        replace B := B.trans (hbn.mono (by omega))
        replace hX := hX.trans (hbn.mono (by omega))
        try first | (have hlt := r1.lt; replace r1 := r1.of_eq (hbn.block _ (by omega))) | replace r1 := r1.below (hbn.mono hle)
        try first | (have hlt := r0.lt; replace r0 := r0.of_eq (hbn.block _ (by omega))) | replace r0 := r0.below (hbn.mono hle)
        try first | (have hlt := m4.lt; replace m4 := m4.of_eq (hbn.block _ (by omega))) | replace m4 := m4.below (hbn.mono hle)
        try first | (have hlt := m7.lt; replace m7 := m7.of_eq (hbn.block _ (by omega))) | replace m7 := m7.below (hbn.mono hle)
        try first | (have hlt := row.lt; replace row := row.of_eq (hbn.block _ (by omega))) | replace row := row.below (hbn.mono hle)
        have m7 := ht
        clear ht
        refine hK _ _ ⟨fun _ => ⟨_, ov_of hX⟩, ?_⟩
        clear hK K
        try simp only [List.getElem_toArray, List.getElem_cons_zero, List.getElem_cons_succ]
        simp only [Act.put, putS]
        refine anyX_next 3 rfl (by kernel_rfl) rfl (fun K hK => ?_)
        try simp only [List.getElem_toArray, List.getElem_cons_zero, List.getElem_cons_succ]
        refine owp_makeE (E := pxE) _ _ rfl (areaN c) (by rfl) (by rfl) (by omega) (by omega) ?_
        intro b_row wn hle hge ht hbn hzn
        have hsz := B.size
        have hsx := hX.size
        replace B := B.trans (hbn.mono (by omega))
        replace hX := hX.trans (hbn.mono (by omega))
        try first | (have hlt := r1.lt; replace r1 := r1.of_eq (hbn.block _ (by omega))) | replace r1 := r1.below (hbn.mono hle)
        try first | (have hlt := r0.lt; replace r0 := r0.of_eq (hbn.block _ (by omega))) | replace r0 := r0.below (hbn.mono hle)
        try first | (have hlt := m4.lt; replace m4 := m4.of_eq (hbn.block _ (by omega))) | replace m4 := m4.below (hbn.mono hle)
        try first | (have hlt := m7.lt; replace m7 := m7.of_eq (hbn.block _ (by omega))) | replace m7 := m7.below (hbn.mono hle)
        try first | (have hlt := row.lt; replace row := row.of_eq (hbn.block _ (by omega))) | replace row := row.below (hbn.mono hle)
        have row := ht
        clear ht
        refine hK _ _ ⟨fun _ => ⟨_, ov_of hX⟩, ?_⟩
        clear hK K
        try simp only [List.getElem_toArray, List.getElem_cons_zero, List.getElem_cons_succ]
        simp only [Act.put, putS]
        refine anyX_take 4 rfl (by kernel_rfl) ⟨_, ov_of hX⟩ ?_
        intro K hK
        try simp only [List.getElem_toArray, List.getElem_cons_zero, List.getElem_cons_succ]
        (first | (refine quiet_loadAny (t := 52) rfl _ _ _ rfl (fun w hw => run_load_rc (ov_B r0B w hw)) (by rfl) ?_; simp only [Act.put, putS]; go_big_quiet_on) | (go_big_quiet_op; go_big_quiet_on))
        simp only [Act.put, putS]
        refine anyX_seq (by kernel_rfl) (by kernel_rfl) ?_
        simp only [List.drop_succ_cons, List.drop_zero]
        go_wp2_with (first | (refine wpList_storeB (t := 55) rfl _ _ rfl _ rfl _ rfl m7 (by kernel_rfl) rfl (by simp [imgC, Value.oneCell']) ?_; clear m7; intro wn ht hcn hzn; have hsz := B.size; replace hzn := Nat.le_of_eq hzn.symm; replace B := Chg.below B hcn (by omega) B.size; (try replace r1 := r1.of_eq (hcn.block _ r1.lt (by omega))); (try replace r0 := r0.of_eq (hcn.block _ r0.lt (by omega))); (try replace m4 := m4.of_eq (hcn.block _ m4.lt (by omega))); (try replace row := row.of_eq (hcn.block _ row.lt (by omega))); have m7 := ht; clear ht; simp only [Act.put, putS]) | fail)
        refine NoPan.normal ?_
        go_wp2_with fail
        go_meet
        exact ⟨b_m7, b_row, rfl, m7, row, B, by omega, by omega, by omega, r1, r0, m4⟩
    · skip
      try simp only [List.getElem_toArray, List.getElem_cons_zero, List.getElem_cons_succ]
      refine owp_allocBk (t := 55) _ (run_alloc_Im _ _ rfl) ?_
      intro b_m7 wn hle hge ht hbn hzn
      have hsz := B.size
      have hsx := hX.size
      replace B := B.trans (hbn.mono (by omega))
      replace hX := hX.trans (hbn.mono (by omega))
      try first | (have hlt := r1.lt; replace r1 := r1.of_eq (hbn.block _ (by omega))) | replace r1 := r1.below (hbn.mono hle)
      try first | (have hlt := r0.lt; replace r0 := r0.of_eq (hbn.block _ (by omega))) | replace r0 := r0.below (hbn.mono hle)
      try first | (have hlt := m4.lt; replace m4 := m4.of_eq (hbn.block _ (by omega))) | replace m4 := m4.below (hbn.mono hle)
      try first | (have hlt := m7.lt; replace m7 := m7.of_eq (hbn.block _ (by omega))) | replace m7 := m7.below (hbn.mono hle)
      try first | (have hlt := row.lt; replace row := row.of_eq (hbn.block _ (by omega))) | replace row := row.below (hbn.mono hle)
      have m7 := ht
      clear ht
      refine hK _ _ ⟨fun _ => ⟨_, ov_of hX⟩, ?_⟩
      clear hK K
      try simp only [List.getElem_toArray, List.getElem_cons_zero, List.getElem_cons_succ]
      simp only [Act.put, putS]
      refine anyX_next 2 rfl (by kernel_rfl) rfl (fun K hK => ?_)
      try simp only [List.getElem_toArray, List.getElem_cons_zero, List.getElem_cons_succ]
      go_simp
      go_at_call 40
      refine (AR.out _).mono ?_
      rintro e wn ⟨rfl, hbn⟩
      have hsz := B.size
      have hzn := hbn.size
      have hsx := hX.size
      replace B := B.trans (hbn.mono B.size)
      replace hX := hX.trans (hbn.mono hX.size)
      try first | replace r1 := r1.of_eq (hbn.block _ r1.lt) | replace r1 := r1.below hbn
      try first | replace r0 := r0.of_eq (hbn.block _ r0.lt) | replace r0 := r0.below hbn
      try first | replace m4 := m4.of_eq (hbn.block _ m4.lt) | replace m4 := m4.below hbn
      try first | replace m7 := m7.of_eq (hbn.block _ m7.lt) | replace m7 := m7.below hbn
      try first | replace row := row.of_eq (hbn.block _ row.lt) | replace row := row.below hbn
      refine hK _ _ ⟨fun _ => ⟨_, ov_of hX⟩, ?_⟩
      clear hK K
      try simp only [List.getElem_toArray, List.getElem_cons_zero, List.getElem_cons_succ]
      simp only [Act.put, putS]
      refine anyX_next 3 rfl (by kernel_rfl) rfl (fun K hK => ?_)
      try simp only [List.getElem_toArray, List.getElem_cons_zero, List.getElem_cons_succ]
      refine owp_makeE (E := pxE) _ _ rfl (areaN c) (by rfl) (by rfl) (by omega) (by omega) ?_
      intro b_row wn hle hge ht hbn hzn
      have hsz := B.size
      have hsx := hX.size
      replace B := B.trans (hbn.mono (by omega))
      replace hX := hX.trans (hbn.mono (by omega))
      try first | (have hlt := r1.lt; replace r1 := r1.of_eq (hbn.block _ (by omega))) | replace r1 := r1.below (hbn.mono hle)
      try first | (have hlt := r0.lt; replace r0 := r0.of_eq (hbn.block _ (by omega))) | replace r0 := r0.below (hbn.mono hle)
      try first | (have hlt := m4.lt; replace m4 := m4.of_eq (hbn.block _ (by omega))) | replace m4 := m4.below (hbn.mono hle)
      try first | (have hlt := m7.lt; replace m7 := m7.of_eq (hbn.block _ (by omega))) | replace m7 := m7.below (hbn.mono hle)
      try first | (have hlt := row.lt; replace row := row.of_eq (hbn.block _ (by omega))) | replace row := row.below (hbn.mono hle)
      have row := ht
      clear ht
      refine hK _ _ ⟨fun _ => ⟨_, ov_of hX⟩, ?_⟩
      clear hK K
      try simp only [List.getElem_toArray, List.getElem_cons_zero, List.getElem_cons_succ]
      simp only [Act.put, putS]
      refine anyX_take 4 rfl (by kernel_rfl) ⟨_, ov_of hX⟩ ?_
      intro K hK
      try simp only [List.getElem_toArray, List.getElem_cons_zero, List.getElem_cons_succ]
      (first | (refine quiet_loadAny (t := 52) rfl _ _ _ rfl (fun w hw => run_load_rc (ov_B r0B w hw)) (by rfl) ?_; simp only [Act.put, putS]; go_big_quiet_on) | (go_big_quiet_op; go_big_quiet_on))
      simp only [Act.put, putS]
      refine anyX_seq (by kernel_rfl) (by kernel_rfl) ?_
      simp only [List.drop_succ_cons, List.drop_zero]
      go_wp2_with (first | (refine wpList_storeB (t := 55) rfl _ _ rfl _ rfl _ rfl m7 (by kernel_rfl) rfl (by simp [imgC, Value.oneCell']) ?_; clear m7; intro wn ht hcn hzn; have hsz := B.size; replace hzn := Nat.le_of_eq hzn.symm; replace B := Chg.below B hcn (by omega) B.size; (try replace r1 := r1.of_eq (hcn.block _ r1.lt (by omega))); (try replace r0 := r0.of_eq (hcn.block _ r0.lt (by omega))); (try replace m4 := m4.of_eq (hcn.block _ m4.lt (by omega))); (try replace row := row.of_eq (hcn.block _ row.lt (by omega))); have m7 := ht; clear ht; simp only [Act.put, putS]) | fail)
      refine NoPan.normal ?_
      go_wp2_with fail
      go_meet
      exact ⟨b_m7, b_row, rfl, m7, row, B, by omega, by omega, by omega, r1, r0, m4⟩
  case rest =>
    obtain ⟨b_m7, b_row, rfl, m7, row, B, p1, p2, p3, r1, r0, m4⟩ := hcut
    have k0 : w.heap.size ≤ b_row := by omega
    have k1 : b_r0 ≠ b_row := by omega
    have k2 : b_m7 ≠ b_row := p3
    have k3 : b_m4 ≠ b_row := by omega
    have k4 : b_m7 ≠ b_m4 := by omega
    go_wp2_with (first | (refine wpList_storeB (t := 55) rfl _ _ rfl _ rfl _ rfl m4 (by kernel_rfl) rfl (by simp [imgC, Value.oneCell']) ?_; clear m4; intro wn ht hcn hzn; have hsz := B.size; replace hzn := Nat.le_of_eq hzn.symm; replace B := Chg.below B hcn (by omega) B.size; (try replace r1 := r1.of_eq (hcn.block _ r1.lt (by omega))); (try replace r0 := r0.of_eq (hcn.block _ r0.lt (by omega))); (try replace m7 := m7.of_eq (hcn.block _ m7.lt (by omega))); (try replace row := row.of_eq (hcn.block _ row.lt (by omega))); have m4 := ht; clear ht; simp only [Act.put, putS]) | (refine wpList_loadAny (t := 55) rfl _ rfl _ _ _ rfl (run_load_img m7) (by rfl) ?_; simp only [Act.put, putS]) | (go_at_call 41; have hr0 := r0.lt; have hr1 := m7.lt; have hr2 := row.lt; have hsp := rs_sep HR0.out k0; have hsz := B.size; refine (P_mapped (imgF c) (fun s W => AtB 52 W b_r0 (rcA c) ∧ AtB 55 W b_m7 (imgC c (.slice (some ⟨b_row, 0, none⟩) (areaN c) (areaN c))) ∧ RowAt pxE W b_row s ∧ s.length = areaN c) b_row 42 #[.pointer (some ⟨b_r0, 0, none⟩), .pointer (some ⟨b_m7, 0, none⟩)] eg _ (fineL ls) (List.replicate (areaN c) Px.zero) _ (HT.out _ B).2 TK.out (by omega) HP.out hr2 hsp ⟨r0, m7, row, by simp⟩ (fun s W W' hI hk => ⟨hI.1.of_eq (hk _ hr0), hI.2.1.of_eq (hk _ hr1), hI.2.2.1.of_eq (hk _ hr2), hI.2.2.2⟩) (fun s W x y p _ hI h1 h2 h3 h4 hp => (P_Image1 c FT.out s hI.2.2.2 x y p b_r0 b_m7 b_row W hI.1 hI.2.1 hI.2.2.1 k1 k2).mono fun e W' hh => ⟨hh.1, ⟨hh.2.1.1, hh.2.1.2.1, hh.2.1.2.2, (imgF_len c s x y p).trans hI.2.2.2⟩, hh.2.2⟩) (imgF_ok c)).mono ?_; rintro e wn ⟨v1, rfl, _, hI, hcc⟩; have hzn := hcc.size; replace m4 := m4.of_eq (hcc.block _ m4.lt k3); replace B := Chg.below B hcc k0 hsz; obtain ⟨r0, m7, row, hlen⟩ := hI) | (go_at_call 28; refine (HT.out _ B).1.mono ?_; rintro e wn ⟨rfl, hbn⟩; have hsz := B.size; have hzn := hbn.size; replace B := B.trans (hbn.mono B.size); (try first | replace r1 := r1.of_eq (hbn.block _ r1.lt) | replace r1 := r1.below hbn); (try first | replace r0 := r0.of_eq (hbn.block _ r0.lt) | replace r0 := r0.below hbn); (try first | replace m4 := m4.of_eq (hbn.block _ m4.lt) | replace m4 := m4.below hbn); (try first | replace m7 := m7.of_eq (hbn.block _ m7.lt) | replace m7 := m7.below hbn); (try first | replace row := row.of_eq (hbn.block _ row.lt) | replace row := row.below hbn)) | (refine wpList_loadAny (t := 30) rfl _ rfl _ _ _ rfl (run_load_B r1 Tryz.isAgg30 (by kernel_rfl)) (by rfl) ?_; simp only [Act.put, putS]) | fail)
    refine bodyPost_ret (results_B2 (t := 55) rfl _ _ (b_m4) rfl _ rfl m4 Tryz.isAgg55 (by kernel_rfl)) rfl ?_
    refine ⟨_, rfl, ?_, B⟩
    have e := row.rs
    rw [hlen] at e
    exact e
end Go.Proofs.YtppccnjckiedlaaGreatDoor
/- The sanity check of the raster laws: its values. -/
namespace Go.Proofs.YtppccnjckiedlaaGreatDoor
open Go.RowKit Go.Shelf Pl
set_option linter.unusedVariables false
set_option linter.unusedSimpArgs false
set_option maxRecDepth 20000

def sP : Px := ⟨9, 0, 0, 255⟩
def sQ : Px := ⟨1, 0, 0, 0⟩
def sC : Rc := ⟨-2, 9, 0, 10⟩
theorem sP_ok : sP.ok := by unfold Px.ok sP; simp
theorem sQ_ok : sQ.ok := by unfold Px.ok sQ; simp
theorem s1 : setE [] (-1) 9 sP = 0 := by decide
theorem s2 : setR [] (-1) 9 sP = [⟨-1, 1, cleanT (setT zT 7 1 sP)⟩] := by rfl
def sR1 : List TA := [⟨-1, 1, cleanT (setT zT 7 1 sP)⟩]
theorem s3 : validL sR1 = true := by decide
theorem s4 : fineL sR1 = sR1 := fineL_of s3
theorem s5 : setE sR1 (-1) 9 sQ = 0 := by decide
theorem s6 : setR sR1 (-1) 9 sQ = [] := by rfl
theorem s7 : setE sR1 65536 0 sP = 1 := by decide
theorem s8 : fitsE sC = 0 := by decide
theorem s9 : getT (tileL sR1 (-1) 1) 7 1 = sP := by decide
theorem s10 : getL sR1 (-1) 9 = sP := by decide
theorem s11 : (imgPL sC sR1).length = 2 := by decide
theorem s12 : (imgPL sC sR1)[1]? = some sP := by decide
theorem s13 : boundL sR1 = ⟨-1, 9, 0, 10⟩ := by rfl

theorem sR1_tok : TokL sR1 := by
  have := setR_tok (ls := []) (x := -1) (y := 9) TokL.nil sP_ok
  rw [s2] at this
  exact this
/-! ### '==' of rectangles -/
instance decRc : DecidableEq Rc := fun a b =>
  if h : a.x0 = b.x0 ∧ a.y0 = b.y0 ∧ a.x1 = b.x1 ∧ a.y1 = b.y1 then isTrue (by obtain ⟨a1, a2, a3, a4⟩ := a; obtain ⟨b1, b2, b3, b4⟩ := b; obtain ⟨rfl, rfl, rfl, rfl⟩ := h; rfl)
  else isFalse fun e => h (by rw [e]; exact ⟨rfl, rfl, rfl, rfl⟩)
theorem equalIn_rc (d : Nat) (a b : Rc) (w : World) : (Op.equalIn (d + 2) 52 (Rc.v a) (Rc.v b)).run Tryz.prog w = .ok (decide (a = b)) w := by
  have h : (Op.equalIn (d + 2) 52 (Rc.v a) (Rc.v b)).run Tryz.prog w = .ok (a.x0 == b.x0 && (a.y0 == b.y0 && (a.x1 == b.x1 && a.y1 == b.y1))) w := by
    simp only [Rc.v]
    by_cases h1 : a.x0 = b.x0 <;> by_cases h2 : a.y0 = b.y0 <;> by_cases h3 : a.x1 = b.x1 <;> by_cases h4 : a.y1 = b.y1 <;> simp [go_sem, h1, h2, h3, h4]
  rw [h]
  congr 1
  rw [Bool.eq_iff_iff]
  obtain ⟨a1, a2, a3, a4⟩ := a
  obtain ⟨b1, b2, b3, b4⟩ := b
  simp
theorem eql_rc (a b : Rc) (w : World) : (binOp .eql 52 (Rc.v a) (Rc.v b)).run Tryz.prog w = .ok (.bool (decide (a = b))) w := by
  have h := run_eql_struct (P := Tryz.prog) w 52 #[.int .i64 a.x0, .int .i64 a.y0, .int .i64 a.x1, .int .i64 a.y1] #[.int .i64 b.x0, .int .i64 b.y0, .int .i64 b.x1, .int .i64 b.y1]
  have e := equalIn_rc 9998 a b w
  unfold Rc.v at e ⊢
  rw [h, e]; rfl
@[go_sem] theorem guard_rc (op : BinOp) (p q : Operand) (a b : Array Value) (w : World) : (eqGuard op 52 p q (.agg a) (.agg b)).run Tryz.prog w = .ok () w := run_eqGuard_agg w op 52 p q _ _ (by kernel_rfl)

theorem rce_px {g o : Nat} {ls : List Px} {w : World} (h : RCellsE pxE g o ls w) {i : Nat} {x : Px} (hi : ls[i]? = some x) : (Instr.loadAt 35 (.pointer (some ⟨g, o + i * 4, none⟩))).run Tryz.prog w = .ok (Px.v x) w :=
  h.load Tryz.isAgg35 hi

/-! ### The walk -/
set_option maxHeartbeats 2000000 in
theorem sanity08 (w : World) : Calls Tryz.prog 4 #[] w fun e w' => e = .returned (.bool true) ∧ Below w.heap.size w w' := by
  have B := Below.refl w.heap.size w
  have SET1 : Hid (∀ w, Calls Tryz.prog 14 #[.agg #[.slice none 0 0], .int .i64 (-1), .int .i64 9, Px.v sP] w fun e w' => ∃ a c, e = .returned (.tuple #[.agg #[.slice a 1 c], .int .i64 0]) ∧ RS (.slice a 1 c) sR1 w' ∧ Below w.heap.size w w') := Lib.hid fun w =>
    (P_SetR _ [] (-1) 9 sP w (RS.nil w) TokL.nil (by unfold maxLen; simp) (by rfl) (by rfl) sP_ok).mono fun e w' ⟨v, he, hr, hb⟩ => by
      obtain ⟨a, c, rfl, _⟩ := hr.len
      rw [s1] at he
      rw [s2] at he hr
      exact ⟨a, c, he, hr, hb⟩
  have SET2 : Hid (∀ v w, RS v sR1 w → Calls Tryz.prog 14 #[.agg #[v], .int .i64 (-1), .int .i64 9, Px.v sQ] w fun e w' => ∃ a c, e = .returned (.tuple #[.agg #[.slice a 0 c], .int .i64 0]) ∧ Below w.heap.size w w') := Lib.hid fun v w h =>
    (P_SetR _ sR1 (-1) 9 sQ w h sR1_tok (by unfold maxLen sR1; simp) (by rfl) (by rfl) sQ_ok).mono fun e w' ⟨v, he, hr, hb⟩ => by
      obtain ⟨a, c, rfl, _⟩ := hr.len
      rw [s5] at he
      rw [s6] at he hr
      exact ⟨a, c, he, hb⟩
  have SET3 : Hid (∀ v w, RS v sR1 w → Calls Tryz.prog 14 #[.agg #[v], .int .i64 65536, .int .i64 0, Px.v sP] w fun e w' => ∃ a n c, e = .returned (.tuple #[.agg #[.slice a n c], .int .i64 1]) ∧ Below w.heap.size w w') := Lib.hid fun v w h =>
    (P_SetR _ sR1 65536 0 sP w h sR1_tok (by unfold maxLen sR1; simp) (by rfl) (by rfl) sP_ok).mono fun e w' ⟨v, he, hr, hb⟩ => by
      obtain ⟨a, c, rfl, _⟩ := hr.len
      rw [s7] at he
      exact ⟨a, _, c, he, hb⟩
  have IMG : Hid (∀ v w, RS v sR1 w → Calls Tryz.prog 15 #[.agg #[v], .agg #[.int .i64 (-2), .int .i64 9, .int .i64 0, .int .i64 10]] w fun e w' => ∃ g o c, e = .returned (.tuple #[.agg (imgC sC (.slice (some ⟨g, o, none⟩) 2 c)), .int .i64 0]) ∧ RCellsE pxE g o (imgPL sC sR1) w' ∧ Below w.heap.size w w') := Lib.hid fun v w h =>
    (P_Image_ok _ sR1 sC w h sR1_tok (by unfold maxLen sR1; simp) s8).mono fun e w' ⟨u, he, hr, hb⟩ => by
      obtain ⟨a, c, rfl, _⟩ := hr.len
      rw [s4] at he hr
      rw [s11] at he hr
      obtain ⟨g, o, rfl, hc⟩ := hr.at (by rw [s11]; omega)
      exact ⟨g, o, c, he, hc, hb⟩
  have BND : Hid (∀ v w, RS v sR1 w → Calls Tryz.prog 16 #[.agg #[v]] w fun e w' => e = .returned (.agg #[.int .i64 (-1), .int .i64 9, .int .i64 0, .int .i64 10]) ∧ Below w.heap.size w w') := Lib.hid fun v w h =>
    (P_BoundsR _ sR1 w h sR1_tok (by unfold maxLen sR1; simp)).mono fun e w' ⟨he, hb⟩ => by
      rw [s4, s13] at he
      exact ⟨he, hb⟩
  have TIL : Hid (∀ v w, RS v sR1 w → Calls Tryz.prog 18 #[.agg #[v], .agg #[.int .i64 (-1), .int .i64 1]] w fun e w' => e = .returned (Tile.v (tileL sR1 (-1) 1)) ∧ Below w.heap.size w w') := Lib.hid fun v w h =>
    P_Tile _ sR1 (-1) 1 w h (by unfold maxLen sR1; simp)
  have GT : Hid (∀ w, Calls Tryz.prog 17 #[Tile.v (tileL sR1 (-1) 1), .int .i64 7, .int .i64 1] w fun e w' => e = .returned (Px.v sP) ∧ Below w.heap.size w w') := Lib.hid fun w =>
    (P_Get (tileL sR1 (-1) 1) 7 1 w).mono fun e w' ⟨he, hb⟩ => by
      rw [s9] at he
      exact ⟨he, hb⟩
  have GR : Hid (∀ v w, RS v sR1 w → Calls Tryz.prog 19 #[.agg #[v], .int .i64 (-1), .int .i64 9] w fun e w' => e = .returned (Px.v sP) ∧ Below w.heap.size w w') := Lib.hid fun v w h =>
    (P_GetR _ sR1 (-1) 9 w h (by unfold maxLen sR1; simp) (by rfl) (by rfl)).mono fun e w' ⟨he, hb⟩ => by
      rw [s10] at he
      exact ⟨he, hb⟩
  have VA : Hid (∀ v w, RS v sR1 w → Calls Tryz.prog 20 #[.agg #[v]] w fun e w' => e = .returned (.bool true) ∧ Below w.heap.size w w') := Lib.hid fun v w h =>
    (P_Valid _ sR1 w h sR1_tok (by unfold maxLen sR1; simp)).mono fun e w' ⟨he, hb⟩ => by
      rw [s3] at he
      exact ⟨he, hb⟩
  have cR : ∀ w, (binOp .eql 52 (.agg #[.int .i64 (-1), .int .i64 9, .int .i64 0, .int .i64 10]) (.agg #[.int .i64 (-1), .int .i64 9, .int .i64 0, .int .i64 10])).run Tryz.prog w = .ok (.bool true) w := fun w => by
    have := eql_rc ⟨-1, 9, 0, 10⟩ ⟨-1, 9, 0, 10⟩ w
    rw [show decide ((⟨-1, 9, 0, 10⟩ : Rc) = ⟨-1, 9, 0, 10⟩) = true from by decide] at this
    exact this
  have cP : ∀ w, (binOp .eql 35 (Px.v sP) (Px.v sP)).run Tryz.prog w = .ok (.bool true) w := fun w => by rw [eql_px]; rfl
  go_enter Tryz.func4, Tryz.ntmps4
  go_wp2_with (first | (refine wpList_storeB (t := 55) rfl _ _ rfl _ rfl _ rfl m8 (by kernel_rfl) rfl (by simp [imgC, Value.oneCell']) ?_; have m8o := m8; clear m8; intro wn ht hcn hzn; replace rs1 := rs1.chg m8o (by simp [imgC]) hcn; have hsz := B.size; replace hzn := Nat.le_of_eq hzn.symm; replace B := Chg.below B hcn (by omega) B.size; (try replace p1 := p1.of_eq (hcn.block _ p1.lt (by omega))); (try replace r2 := r2.of_eq (hcn.block _ r2.lt (by omega))); (try replace r4 := r4.of_eq (hcn.block _ r4.lt (by omega))); (try replace r6 := r6.of_eq (hcn.block _ r6.lt (by omega))); (try replace rs1 := rs1.of_eq (hcn.block _ rs1.lt (by omega))); (try replace row := row.of_eq (hcn.block _ row.lt (by omega))); have m8 := ht; clear ht; simp only [Act.put, putS]) | (have _ := row; refine wpList_allocBk (t := 55) rfl _ (run_alloc_Im _ _ rfl) ?_; intro b_m8 wn hle hge ht hbn hzn; have hsz := B.size; replace B := B.trans (hbn.mono (by omega)); have hln := Nat.lt_of_lt_of_eq (Nat.lt_succ_self _) hzn.symm; clear hzn; (try first | (have hlt := p1.lt; replace p1 := p1.of_eq (hbn.block _ (by omega))) | replace p1 := p1.below (hbn.mono hle)); (try first | (have hlt := r2.lt; replace r2 := r2.of_eq (hbn.block _ (by omega))) | replace r2 := r2.below (hbn.mono hle)); (try first | (have hlt := r4.lt; replace r4 := r4.of_eq (hbn.block _ (by omega))) | replace r4 := r4.below (hbn.mono hle)); (try first | (have hlt := r6.lt; replace r6 := r6.of_eq (hbn.block _ (by omega))) | replace r6 := r6.below (hbn.mono hle)); (try first | (have hlt := m8.lt; replace m8 := m8.of_eq (hbn.block _ (by omega))) | replace m8 := m8.below (hbn.mono hle)); (try first | (have hlt := rs1.lt; replace rs1 := rs1.of_eq (hbn.block _ (by omega))) | replace rs1 := rs1.below (hbn.mono hle)); (try first | (have hlt := row.lt; replace row := row.of_eq (hbn.block _ (by omega))) | replace row := row.below (hbn.mono hle)); have m8 := ht; clear ht; simp only [Act.put, putS]) | (have _ := r6; go_at_call 15; refine (IMG.out _ _ rs1).mono ?_; rintro e wn ⟨gr, og, cg, rfl, row, hbn⟩; have hsz := B.size; have hzn := hbn.size; replace B := B.trans (hbn.mono B.size); (try first | replace p1 := p1.of_eq (hbn.block _ p1.lt) | replace p1 := p1.below hbn); (try first | replace r2 := r2.of_eq (hbn.block _ r2.lt) | replace r2 := r2.below hbn); (try first | replace r4 := r4.of_eq (hbn.block _ r4.lt) | replace r4 := r4.below hbn); (try first | replace r6 := r6.of_eq (hbn.block _ r6.lt) | replace r6 := r6.below hbn); (try first | replace m8 := m8.of_eq (hbn.block _ m8.lt) | replace m8 := m8.below hbn); (try first | replace rs1 := rs1.of_eq (hbn.block _ rs1.lt) | replace rs1 := rs1.below hbn); (try first | replace row := row.of_eq (hbn.block _ row.lt) | replace row := row.below hbn); have hgr := row.lt) | (refine wpList_storeB (t := 30) rfl _ _ rfl _ rfl _ rfl r6 (by kernel_rfl) rfl (by simp [Value.oneCell']) ?_; have r6o := r6; clear r6; intro wn ht hcn hzn; replace rs1 := rs1.chg r6o (by simp) hcn; have hsz := B.size; replace hzn := Nat.le_of_eq hzn.symm; replace B := Chg.below B hcn (by omega) B.size; (try replace p1 := p1.of_eq (hcn.block _ p1.lt (by omega))); (try replace r2 := r2.of_eq (hcn.block _ r2.lt (by omega))); (try replace r4 := r4.of_eq (hcn.block _ r4.lt (by omega))); (try replace m8 := m8.of_eq (hcn.block _ m8.lt (by omega))); (try replace rs1 := rs1.of_eq (hcn.block _ rs1.lt (by omega))); (try replace row := row.of_eq (hcn.block _ row.lt (by omega))); have r6 := ht; clear ht; simp only [Act.put, putS]) | (have _ := r4; refine wpList_allocBk (t := 30) rfl _ (run_alloc_R _ _ rfl) ?_; intro b_r6 wn hle hge ht hbn hzn; have hsz := B.size; replace B := B.trans (hbn.mono (by omega)); have hln := Nat.lt_of_lt_of_eq (Nat.lt_succ_self _) hzn.symm; clear hzn; (try first | (have hlt := p1.lt; replace p1 := p1.of_eq (hbn.block _ (by omega))) | replace p1 := p1.below (hbn.mono hle)); (try first | (have hlt := r2.lt; replace r2 := r2.of_eq (hbn.block _ (by omega))) | replace r2 := r2.below (hbn.mono hle)); (try first | (have hlt := r4.lt; replace r4 := r4.of_eq (hbn.block _ (by omega))) | replace r4 := r4.below (hbn.mono hle)); (try first | (have hlt := r6.lt; replace r6 := r6.of_eq (hbn.block _ (by omega))) | replace r6 := r6.below (hbn.mono hle)); (try first | (have hlt := m8.lt; replace m8 := m8.of_eq (hbn.block _ (by omega))) | replace m8 := m8.below (hbn.mono hle)); (try first | (have hlt := rs1.lt; replace rs1 := rs1.of_eq (hbn.block _ (by omega))) | replace rs1 := rs1.below (hbn.mono hle)); (try first | (have hlt := row.lt; replace row := row.of_eq (hbn.block _ (by omega))) | replace row := row.below (hbn.mono hle)); have r6 := ht; clear ht; simp only [Act.put, putS]) | (have _ := r4; go_at_call 14; refine (SET3.out _ _ rs1).mono ?_; rintro e wn ⟨a3, n3, c3, rfl, hbn⟩; have hsz := B.size; have hzn := hbn.size; replace B := B.trans (hbn.mono B.size); (try first | replace p1 := p1.of_eq (hbn.block _ p1.lt) | replace p1 := p1.below hbn); (try first | replace r2 := r2.of_eq (hbn.block _ r2.lt) | replace r2 := r2.below hbn); (try first | replace r4 := r4.of_eq (hbn.block _ r4.lt) | replace r4 := r4.below hbn); (try first | replace r6 := r6.of_eq (hbn.block _ r6.lt) | replace r6 := r6.below hbn); (try first | replace m8 := m8.of_eq (hbn.block _ m8.lt) | replace m8 := m8.below hbn); (try first | replace rs1 := rs1.of_eq (hbn.block _ rs1.lt) | replace rs1 := rs1.below hbn); (try first | replace row := row.of_eq (hbn.block _ row.lt) | replace row := row.below hbn)) | (refine wpList_storeB (t := 30) rfl _ _ rfl _ rfl _ rfl r4 (by kernel_rfl) rfl (by simp [Value.oneCell']) ?_; have r4o := r4; clear r4; intro wn ht hcn hzn; replace rs1 := rs1.chg r4o (by simp) hcn; have hsz := B.size; replace hzn := Nat.le_of_eq hzn.symm; replace B := Chg.below B hcn (by omega) B.size; (try replace p1 := p1.of_eq (hcn.block _ p1.lt (by omega))); (try replace r2 := r2.of_eq (hcn.block _ r2.lt (by omega))); (try replace r6 := r6.of_eq (hcn.block _ r6.lt (by omega))); (try replace m8 := m8.of_eq (hcn.block _ m8.lt (by omega))); (try replace rs1 := rs1.of_eq (hcn.block _ rs1.lt (by omega))); (try replace row := row.of_eq (hcn.block _ row.lt (by omega))); have r4 := ht; clear ht; simp only [Act.put, putS]) | (have _ := r2; refine wpList_allocBk (t := 30) rfl _ (run_alloc_R _ _ rfl) ?_; intro b_r4 wn hle hge ht hbn hzn; have hsz := B.size; replace B := B.trans (hbn.mono (by omega)); have hln := Nat.lt_of_lt_of_eq (Nat.lt_succ_self _) hzn.symm; clear hzn; (try first | (have hlt := p1.lt; replace p1 := p1.of_eq (hbn.block _ (by omega))) | replace p1 := p1.below (hbn.mono hle)); (try first | (have hlt := r2.lt; replace r2 := r2.of_eq (hbn.block _ (by omega))) | replace r2 := r2.below (hbn.mono hle)); (try first | (have hlt := r4.lt; replace r4 := r4.of_eq (hbn.block _ (by omega))) | replace r4 := r4.below (hbn.mono hle)); (try first | (have hlt := r6.lt; replace r6 := r6.of_eq (hbn.block _ (by omega))) | replace r6 := r6.below (hbn.mono hle)); (try first | (have hlt := m8.lt; replace m8 := m8.of_eq (hbn.block _ (by omega))) | replace m8 := m8.below (hbn.mono hle)); (try first | (have hlt := rs1.lt; replace rs1 := rs1.of_eq (hbn.block _ (by omega))) | replace rs1 := rs1.below (hbn.mono hle)); (try first | (have hlt := row.lt; replace row := row.of_eq (hbn.block _ (by omega))) | replace row := row.below (hbn.mono hle)); have r4 := ht; clear ht; simp only [Act.put, putS]) | (have _ := r2; go_at_call 14; refine (SET2.out _ _ rs1).mono ?_; rintro e wn ⟨a2, c2, rfl, hbn⟩; have hsz := B.size; have hzn := hbn.size; replace B := B.trans (hbn.mono B.size); (try first | replace p1 := p1.of_eq (hbn.block _ p1.lt) | replace p1 := p1.below hbn); (try first | replace r2 := r2.of_eq (hbn.block _ r2.lt) | replace r2 := r2.below hbn); (try first | replace r4 := r4.of_eq (hbn.block _ r4.lt) | replace r4 := r4.below hbn); (try first | replace r6 := r6.of_eq (hbn.block _ r6.lt) | replace r6 := r6.below hbn); (try first | replace m8 := m8.of_eq (hbn.block _ m8.lt) | replace m8 := m8.below hbn); (try first | replace rs1 := rs1.of_eq (hbn.block _ rs1.lt) | replace rs1 := rs1.below hbn); (try first | replace row := row.of_eq (hbn.block _ row.lt) | replace row := row.below hbn)) | (refine wpList_loadAny (t := 30) rfl _ rfl _ _ _ rfl (run_load_B r2 Tryz.isAgg30 (by kernel_rfl)) (by rfl) ?_; simp only [Act.put, putS]) | (refine wpList_storeB (t := 30) rfl _ _ rfl _ rfl _ rfl r2 (by kernel_rfl) rfl (by simp [Value.oneCell']) ?_; have r2o := r2; clear r2; intro wn ht hcn hzn; replace rs1 := rs1.chg r2o (by simp) hcn; have hsz := B.size; replace hzn := Nat.le_of_eq hzn.symm; replace B := Chg.below B hcn (by omega) B.size; (try replace p1 := p1.of_eq (hcn.block _ p1.lt (by omega))); (try replace r4 := r4.of_eq (hcn.block _ r4.lt (by omega))); (try replace r6 := r6.of_eq (hcn.block _ r6.lt (by omega))); (try replace m8 := m8.of_eq (hcn.block _ m8.lt (by omega))); (try replace rs1 := rs1.of_eq (hcn.block _ rs1.lt (by omega))); (try replace row := row.of_eq (hcn.block _ row.lt (by omega))); have r2 := ht; clear ht; simp only [Act.put, putS]) | (have _ := rs1; refine wpList_allocBk (t := 30) rfl _ (run_alloc_R _ _ rfl) ?_; intro b_r2 wn hle hge ht hbn hzn; have hsz := B.size; replace B := B.trans (hbn.mono (by omega)); have hln := Nat.lt_of_lt_of_eq (Nat.lt_succ_self _) hzn.symm; clear hzn; (try first | (have hlt := p1.lt; replace p1 := p1.of_eq (hbn.block _ (by omega))) | replace p1 := p1.below (hbn.mono hle)); (try first | (have hlt := r2.lt; replace r2 := r2.of_eq (hbn.block _ (by omega))) | replace r2 := r2.below (hbn.mono hle)); (try first | (have hlt := r4.lt; replace r4 := r4.of_eq (hbn.block _ (by omega))) | replace r4 := r4.below (hbn.mono hle)); (try first | (have hlt := r6.lt; replace r6 := r6.of_eq (hbn.block _ (by omega))) | replace r6 := r6.below (hbn.mono hle)); (try first | (have hlt := m8.lt; replace m8 := m8.of_eq (hbn.block _ (by omega))) | replace m8 := m8.below (hbn.mono hle)); (try first | (have hlt := rs1.lt; replace rs1 := rs1.of_eq (hbn.block _ (by omega))) | replace rs1 := rs1.below (hbn.mono hle)); (try first | (have hlt := row.lt; replace row := row.of_eq (hbn.block _ (by omega))) | replace row := row.below (hbn.mono hle)); have r2 := ht; clear ht; simp only [Act.put, putS]) | (go_at_call 14; refine (SET1.out _).mono ?_; rintro e wn ⟨a1, c1, rfl, rs1, hbn⟩; have hsz := B.size; have hzn := hbn.size; replace B := B.trans (hbn.mono B.size); (try first | replace p1 := p1.of_eq (hbn.block _ p1.lt) | replace p1 := p1.below hbn); (try first | replace r2 := r2.of_eq (hbn.block _ r2.lt) | replace r2 := r2.below hbn); (try first | replace r4 := r4.of_eq (hbn.block _ r4.lt) | replace r4 := r4.below hbn); (try first | replace r6 := r6.of_eq (hbn.block _ r6.lt) | replace r6 := r6.below hbn); (try first | replace m8 := m8.of_eq (hbn.block _ m8.lt) | replace m8 := m8.below hbn); (try first | replace rs1 := rs1.of_eq (hbn.block _ rs1.lt) | replace rs1 := rs1.below hbn); (try first | replace row := row.of_eq (hbn.block _ row.lt) | replace row := row.below hbn)) | (refine wpList_loadPx rfl _ rfl _ rfl p1 ?_; simp only [Act.put, putS]) | (refine wpList_storePx rfl _ _ rfl _ rfl (sP) rfl p1 ?_; clear p1; intro wn ht hcn hzn; have hsz := B.size; replace hzn := Nat.le_of_eq hzn.symm; replace B := Chg.below B hcn (by omega) B.size; (try replace r2 := r2.of_eq (hcn.block _ r2.lt (by omega))); (try replace r4 := r4.of_eq (hcn.block _ r4.lt (by omega))); (try replace r6 := r6.of_eq (hcn.block _ r6.lt (by omega))); (try replace m8 := m8.of_eq (hcn.block _ m8.lt (by omega))); (try replace rs1 := rs1.of_eq (hcn.block _ rs1.lt (by omega))); (try replace row := row.of_eq (hcn.block _ row.lt (by omega))); have p1 := ht; clear ht; simp only [Act.put, putS]) | (refine wpList_allocPx' rfl rfl ?_; intro b_p1 wn hle hge ht hbn hzn; have hsz := B.size; replace B := B.trans (hbn.mono (by omega)); have hln := Nat.lt_of_lt_of_eq (Nat.lt_succ_self _) hzn.symm; clear hzn; (try first | (have hlt := p1.lt; replace p1 := p1.of_eq (hbn.block _ (by omega))) | replace p1 := p1.below (hbn.mono hle)); (try first | (have hlt := r2.lt; replace r2 := r2.of_eq (hbn.block _ (by omega))) | replace r2 := r2.below (hbn.mono hle)); (try first | (have hlt := r4.lt; replace r4 := r4.of_eq (hbn.block _ (by omega))) | replace r4 := r4.below (hbn.mono hle)); (try first | (have hlt := r6.lt; replace r6 := r6.of_eq (hbn.block _ (by omega))) | replace r6 := r6.below (hbn.mono hle)); (try first | (have hlt := m8.lt; replace m8 := m8.of_eq (hbn.block _ (by omega))) | replace m8 := m8.below (hbn.mono hle)); (try first | (have hlt := rs1.lt; replace rs1 := rs1.of_eq (hbn.block _ (by omega))) | replace rs1 := rs1.below (hbn.mono hle)); (try first | (have hlt := row.lt; replace row := row.of_eq (hbn.block _ (by omega))) | replace row := row.below (hbn.mono hle)); have p1 := ht; clear ht; simp only [Act.put, putS]) | fail)
  simp only [List.append_eq, List.cons_append, List.nil_append]
  refine wp_region_ov (by kernel_rfl) (by kernel_rfl) ?_
  repeat (first | go_big_quiet_skip | (go_big_quiet_want; first | (refine quiet_loadAny (t := 35) rfl _ _ _ rfl (fun w hw => rce_px (ov_rce row w hw) (i := 1) s12) (by first | rfl | omega) ?_; simp only [Act.put, putS]; go_big_quiet_on) | (refine quiet_loadAny (t := 53) rfl _ _ _ rfl (fun w hw => run_load_slp (imgC_u (ov_B m8 w hw))) (by rfl) ?_; simp only [Act.put, putS]; go_big_quiet_on) | (refine quiet_loadPx rfl _ rfl (ov_px p1) ?_; simp only [Act.put, putS]; go_big_quiet_on) | (refine quiet_loadAny (t := 28) rfl _ _ _ rfl (fun w hw => run_load_sl (ov_B r4 w hw).cell0) (by rfl) ?_; simp only [Act.put, putS]; go_big_quiet_on) | (refine quiet_loadAny (t := 28) rfl _ _ _ rfl (fun w hw => run_load_sl (ov_B r2 w hw).cell0) (by rfl) ?_; simp only [Act.put, putS]; go_big_quiet_on) | (refine quiet_loadAny (t := 30) rfl _ _ _ rfl (fun w hw => run_load_B (ov_B r2 w hw) Tryz.isAgg30 (by kernel_rfl)) (by rfl) ?_; simp only [Act.put, putS]; go_big_quiet_on) | (go_big_quiet_op; first | go_big_quiet_on | go_big_quiet_call ((first | (go_at_call 20; exact calls_ov (VA.out _ _ (ov_rs rs1 _ ⟨_, rfl⟩))) | (go_at_call 19; exact calls_ov (GR.out _ _ (ov_rs rs1 _ ⟨_, rfl⟩))) | (go_at_call 17; exact calls_ov (GT.out _)) | (go_at_call 18; exact calls_ov (TIL.out _ _ (ov_rs rs1 _ ⟨_, rfl⟩))) | (go_at_call 16; exact calls_ov (BND.out _ _ (ov_rs rs1 _ ⟨_, rfl⟩))))))))
  refine wpQuiet_nil ?_
  intro wn hbn
  have hsz := B.size
  have hzn := hbn.size
  replace B := B.trans (hbn.mono B.size)
  try first | replace p1 := p1.of_eq (hbn.block _ p1.lt) | replace p1 := p1.below hbn
  try first | replace r2 := r2.of_eq (hbn.block _ r2.lt) | replace r2 := r2.below hbn
  try first | replace r4 := r4.of_eq (hbn.block _ r4.lt) | replace r4 := r4.below hbn
  try first | replace r6 := r6.of_eq (hbn.block _ r6.lt) | replace r6 := r6.below hbn
  try first | replace m8 := m8.of_eq (hbn.block _ m8.lt) | replace m8 := m8.below hbn
  try first | replace rs1 := rs1.of_eq (hbn.block _ rs1.lt) | replace rs1 := rs1.below hbn
  try first | replace row := row.of_eq (hbn.block _ row.lt) | replace row := row.below hbn
  go_wp2
  go_ret
  exact ⟨rfl, B⟩
end Go.Proofs.YtppccnjckiedlaaGreatDoor
/- Contracts of gouacheref04.Made, gouacheref07.Made. -/
namespace Go.Proofs.YtppccnjckiedlaaGreatDoor
open Go.RowKit Go.Shelf Pl
set_option linter.unusedVariables false
set_option linter.unusedSimpArgs false
set_option maxRecDepth 20000

section
variable {ops : Array Oper} {rest : List Oper} {o : Oper} {a : Act} {w : World} {Q : Exit → Act → World → Prop}
theorem wpList_storePa (hg : o.guard = none) (x y : Operand) (ho : o.op = .store 5 x y) (b : Nat) (hx : a.eval x = .pointer (some ⟨b, 3, none⟩)) (n : Int) (hy : a.eval y = .int .u8 n) {p : Px} (ht : PixAt w b p)
    (h : ∀ w', PixAt w' b ⟨p.r, p.g, p.b, n⟩ → Chg b w w' → w'.heap.size = w.heap.size → wpList Tryz.prog ops Q rest (a.put o.dst undef) w') : wpList Tryz.prog ops Q (o :: rest) a w := by
  refine wpList_storeAny hg x y ho (w.setCell ⟨b, 3, none⟩ (.int .u8 n)) ?_ (h _ ?_ ((Chg.refl b w).setCell _) (by simp only [World.size_setCell]))
  · rw [hx, hy]
    obtain ⟨c0, c1, c2, c3⟩ := ht.cells
    have hf := ht
    unfold PixAt at hf
    have hfr := AtB.frozen (t := 35) hf 3
    simp [go_sem, c3, hfr]
  · have := heap_setCell_same w b 3 _ _ (.int .u8 n) ht
    exact this
end
def madeA (u : Int) : Int := if u % 5 = 1 then 255 else if u % 5 = 3 then 0 else u / 16777216
def madeP (x : Int) : Px := ⟨x % 256, x % 4294967296 / 256 % 256, x % 4294967296 / 65536 % 256, madeA (x % 4294967296)⟩
theorem madeP_ok (x : Int) : (madeP x).ok := by
  unfold madeP Px.ok madeA
  refine ⟨⟨?_, ?_⟩, ⟨?_, ?_⟩, ⟨?_, ?_⟩, ?_, ?_⟩ <;> simp only <;> (try split) <;> (try split) <;> omega
set_option maxHeartbeats 1000000 in
theorem R_Made4 (x : Int) (w : World) : Calls Tryz.prog 22 #[.int .i64 x] w fun e w' => e = .returned (Px.v (madeP x)) ∧ Below w.heap.size w w' := by
  have B := Below.refl w.heap.size w
  by_cases h1 : x % 4294967296 % 5 = 1
  · have e1 : madeP x = ⟨x % 256, x % 4294967296 / 256 % 256, x % 4294967296 / 65536 % 256, 255⟩ := by unfold madeP madeA; rw [if_pos h1]
    have d1 : (x % 4294967296 % 5 == 1) = true := by simp; omega
    have d3 : (x % 4294967296 % 5 == 3) = false := by simp; omega
    rw [e1]
    clear e1 h1
    go_enter Tryz.func22, Tryz.ntmps22
    go_wp2_with (first | (refine wpList_storePx rfl _ _ rfl _ rfl (⟨_, _, _, _⟩) rfl q2 ?_; clear q2; intro wn ht hcn hzn; have hsz := B.size; replace hzn := Nat.le_of_eq hzn.symm; replace B := Chg.below B hcn (by omega) B.size; (try replace q4 := q4.of_eq (hcn.block _ q4.lt (by omega))); have q2 := ht; clear ht; simp only [Act.put, putS]) | (refine wpList_storePa rfl _ _ rfl _ rfl _ rfl q4 ?_; clear q4; intro wn ht hcn hzn; have hsz := B.size; replace hzn := Nat.le_of_eq hzn.symm; replace B := Chg.below B hcn (by omega) B.size; (try replace q2 := q2.of_eq (hcn.block _ q2.lt (by omega))); have q4 := ht; clear ht; simp only [Act.put, putS]) | (refine wpList_loadPx rfl _ rfl _ rfl q4 ?_; simp only [Act.put, putS]) | (refine wpList_storePx rfl _ _ rfl _ rfl (⟨_, _, _, _⟩) rfl q4 ?_; clear q4; intro wn ht hcn hzn; have hsz := B.size; replace hzn := Nat.le_of_eq hzn.symm; replace B := Chg.below B hcn (by omega) B.size; (try replace q2 := q2.of_eq (hcn.block _ q2.lt (by omega))); have q4 := ht; clear ht; simp only [Act.put, putS]) | (have _ := q2; refine wpList_allocPx' rfl rfl ?_; intro b_q4 wn hle hge ht hbn hzn; have hsz := B.size; replace B := B.trans (hbn.mono (by omega)); have hln := Nat.lt_of_lt_of_eq (Nat.lt_succ_self _) hzn.symm; clear hzn; (try first | (have hlt := q2.lt; replace q2 := q2.of_eq (hbn.block _ (by omega))) | replace q2 := q2.below (hbn.mono hle)); (try first | (have hlt := q4.lt; replace q4 := q4.of_eq (hbn.block _ (by omega))) | replace q4 := q4.below (hbn.mono hle)); have q4 := ht; clear ht; simp only [Act.put, putS]) | (refine wpList_allocPx' rfl rfl ?_; intro b_q2 wn hle hge ht hbn hzn; have hsz := B.size; replace B := B.trans (hbn.mono (by omega)); have hln := Nat.lt_of_lt_of_eq (Nat.lt_succ_self _) hzn.symm; clear hzn; (try first | (have hlt := q2.lt; replace q2 := q2.of_eq (hbn.block _ (by omega))) | replace q2 := q2.below (hbn.mono hle)); (try first | (have hlt := q4.lt; replace q4 := q4.of_eq (hbn.block _ (by omega))) | replace q4 := q4.below (hbn.mono hle)); have q2 := ht; clear ht; simp only [Act.put, putS]) | fail)
    refine bodyPost_ret (results_px rfl _ _ (b_q2) rfl q2) rfl ?_
    exact ⟨rfl, B⟩
  · have d1 : (x % 4294967296 % 5 == 1) = false := by simp; omega
    by_cases h3 : x % 4294967296 % 5 = 3
    · have e1 : madeP x = ⟨x % 256, x % 4294967296 / 256 % 256, x % 4294967296 / 65536 % 256, 0⟩ := by unfold madeP madeA; rw [if_neg h1, if_pos h3]
      have d3 : (x % 4294967296 % 5 == 3) = true := by simp; omega
      rw [e1]
      clear e1 h1 h3
      go_enter Tryz.func22, Tryz.ntmps22
      go_wp2_with (first | (refine wpList_storePx rfl _ _ rfl _ rfl (⟨_, _, _, _⟩) rfl q2 ?_; clear q2; intro wn ht hcn hzn; have hsz := B.size; replace hzn := Nat.le_of_eq hzn.symm; replace B := Chg.below B hcn (by omega) B.size; (try replace q4 := q4.of_eq (hcn.block _ q4.lt (by omega))); have q2 := ht; clear ht; simp only [Act.put, putS]) | (refine wpList_storePa rfl _ _ rfl _ rfl _ rfl q4 ?_; clear q4; intro wn ht hcn hzn; have hsz := B.size; replace hzn := Nat.le_of_eq hzn.symm; replace B := Chg.below B hcn (by omega) B.size; (try replace q2 := q2.of_eq (hcn.block _ q2.lt (by omega))); have q4 := ht; clear ht; simp only [Act.put, putS]) | (refine wpList_loadPx rfl _ rfl _ rfl q4 ?_; simp only [Act.put, putS]) | (refine wpList_storePx rfl _ _ rfl _ rfl (⟨_, _, _, _⟩) rfl q4 ?_; clear q4; intro wn ht hcn hzn; have hsz := B.size; replace hzn := Nat.le_of_eq hzn.symm; replace B := Chg.below B hcn (by omega) B.size; (try replace q2 := q2.of_eq (hcn.block _ q2.lt (by omega))); have q4 := ht; clear ht; simp only [Act.put, putS]) | (have _ := q2; refine wpList_allocPx' rfl rfl ?_; intro b_q4 wn hle hge ht hbn hzn; have hsz := B.size; replace B := B.trans (hbn.mono (by omega)); have hln := Nat.lt_of_lt_of_eq (Nat.lt_succ_self _) hzn.symm; clear hzn; (try first | (have hlt := q2.lt; replace q2 := q2.of_eq (hbn.block _ (by omega))) | replace q2 := q2.below (hbn.mono hle)); (try first | (have hlt := q4.lt; replace q4 := q4.of_eq (hbn.block _ (by omega))) | replace q4 := q4.below (hbn.mono hle)); have q4 := ht; clear ht; simp only [Act.put, putS]) | (refine wpList_allocPx' rfl rfl ?_; intro b_q2 wn hle hge ht hbn hzn; have hsz := B.size; replace B := B.trans (hbn.mono (by omega)); have hln := Nat.lt_of_lt_of_eq (Nat.lt_succ_self _) hzn.symm; clear hzn; (try first | (have hlt := q2.lt; replace q2 := q2.of_eq (hbn.block _ (by omega))) | replace q2 := q2.below (hbn.mono hle)); (try first | (have hlt := q4.lt; replace q4 := q4.of_eq (hbn.block _ (by omega))) | replace q4 := q4.below (hbn.mono hle)); have q2 := ht; clear ht; simp only [Act.put, putS]) | fail)
      refine bodyPost_ret (results_px rfl _ _ (b_q2) rfl q2) rfl ?_
      exact ⟨rfl, B⟩
    · have e1 : madeP x = ⟨x % 256, x % 4294967296 / 256 % 256, x % 4294967296 / 65536 % 256, x % 4294967296 / 16777216⟩ := by unfold madeP madeA; rw [if_neg h1, if_neg h3]
      have d3 : (x % 4294967296 % 5 == 3) = false := by simp; omega
      rw [e1]
      clear e1 h1 h3
      go_enter Tryz.func22, Tryz.ntmps22
      go_wp2_with (first | (refine wpList_storePx rfl _ _ rfl _ rfl (⟨_, _, _, _⟩) rfl q2 ?_; clear q2; intro wn ht hcn hzn; have hsz := B.size; replace hzn := Nat.le_of_eq hzn.symm; replace B := Chg.below B hcn (by omega) B.size; (try replace q4 := q4.of_eq (hcn.block _ q4.lt (by omega))); have q2 := ht; clear ht; simp only [Act.put, putS]) | (refine wpList_storePa rfl _ _ rfl _ rfl _ rfl q4 ?_; clear q4; intro wn ht hcn hzn; have hsz := B.size; replace hzn := Nat.le_of_eq hzn.symm; replace B := Chg.below B hcn (by omega) B.size; (try replace q2 := q2.of_eq (hcn.block _ q2.lt (by omega))); have q4 := ht; clear ht; simp only [Act.put, putS]) | (refine wpList_loadPx rfl _ rfl _ rfl q4 ?_; simp only [Act.put, putS]) | (refine wpList_storePx rfl _ _ rfl _ rfl (⟨_, _, _, _⟩) rfl q4 ?_; clear q4; intro wn ht hcn hzn; have hsz := B.size; replace hzn := Nat.le_of_eq hzn.symm; replace B := Chg.below B hcn (by omega) B.size; (try replace q2 := q2.of_eq (hcn.block _ q2.lt (by omega))); have q4 := ht; clear ht; simp only [Act.put, putS]) | (have _ := q2; refine wpList_allocPx' rfl rfl ?_; intro b_q4 wn hle hge ht hbn hzn; have hsz := B.size; replace B := B.trans (hbn.mono (by omega)); have hln := Nat.lt_of_lt_of_eq (Nat.lt_succ_self _) hzn.symm; clear hzn; (try first | (have hlt := q2.lt; replace q2 := q2.of_eq (hbn.block _ (by omega))) | replace q2 := q2.below (hbn.mono hle)); (try first | (have hlt := q4.lt; replace q4 := q4.of_eq (hbn.block _ (by omega))) | replace q4 := q4.below (hbn.mono hle)); have q4 := ht; clear ht; simp only [Act.put, putS]) | (refine wpList_allocPx' rfl rfl ?_; intro b_q2 wn hle hge ht hbn hzn; have hsz := B.size; replace B := B.trans (hbn.mono (by omega)); have hln := Nat.lt_of_lt_of_eq (Nat.lt_succ_self _) hzn.symm; clear hzn; (try first | (have hlt := q2.lt; replace q2 := q2.of_eq (hbn.block _ (by omega))) | replace q2 := q2.below (hbn.mono hle)); (try first | (have hlt := q4.lt; replace q4 := q4.of_eq (hbn.block _ (by omega))) | replace q4 := q4.below (hbn.mono hle)); have q2 := ht; clear ht; simp only [Act.put, putS]) | fail)
      refine bodyPost_ret (results_px rfl _ _ (b_q2) rfl q2) rfl ?_
      exact ⟨rfl, B⟩
end Go.Proofs.YtppccnjckiedlaaGreatDoor
/- Slices of integers; contracts of gouacheref07.Made, pick. -/
namespace Go.Proofs.YtppccnjckiedlaaGreatDoor
open Go.RowKit Go.Shelf Pl
set_option linter.unusedVariables false
set_option linter.unusedSimpArgs false
set_option maxRecDepth 20000

def inE : Elt Int 1 3 22 where
  enc := fun x => #[.int .i64 x]
  bytes := 8
  zero := 0
  size := fun _ => rfl
  one := fun x u hu => by
    have : u ∈ [Value.int .i64 x] := hu
    rw [List.mem_singleton.1 this]; rfl
  pos := by omega
  small := by omega
  und := Tryz.underlying22
  info := by kernel_rfl
  zer := by kernel_rfl
theorem rci_int {g o : Nat} {L : List Int} {w : World} (h : RCellsE inE g o L w) {i : Nat} {x : Int} (hi : L[i]? = some x) : w.cell? ⟨g, o + i, none⟩ = some (.int .i64 x) := by
  have := h.2 i x hi 0 (by omega)
  rw [Nat.mul_one, Nat.add_zero] at this
  exact this
def getI (L : List Int) (i : Nat) : Int := L.getD i 0
theorem getD_some {L : List Int} {i : Nat} (h : i < L.length) : L[i]? = some (getI L i) := by
  unfold getI
  rw [List.getD_eq_getElem?_getD, List.getElem?_eq_getElem h]; rfl
def madeS (L : List Int) (i : Nat) : Int := getI L (i * L.length / 64)
def madeQ (L : List Int) (i : Nat) : Px := if madeS L i % 4 = 2 then cleanP (madeP (madeS L i + 7919 * i)) else cleanP (madeP (madeS L i))
def madeT (L : List Int) : Nat → Px := if L.length = 0 then zT else madeQ L
theorem madeQ_ok (L : List Int) (i : Nat) : (madeQ L i).ok := by
  unfold madeQ
  split
  · exact cleanP_ok (madeP_ok _)
  · exact cleanP_ok (madeP_ok _)
theorem madeT_tok (L : List Int) : Tok (madeT L) := fun i hi => by
  unfold madeT
  split
  · exact Px.zero_ok
  · exact madeQ_ok L i
theorem madeP_wrap (x : Int) : madeP (wrap64 x) = madeP x := by
  have h : wrap64 x % 4294967296 = x % 4294967296 := by unfold wrap64; omega
  have h' : wrap64 x % 256 = x % 256 := by omega
  unfold madeP
  rw [h, h']
theorem upd_upd (f : Nat → Px) (i : Nat) (p q : Px) : upd (upd f i p) i q = upd f i q := by
  funext j; unfold upd; split <;> rfl
set_option maxHeartbeats 400000 in
theorem R_Made7 (v : Value) (L : List Int) (w : World) (h : RSE inE v L w) (hn : L.length ≤ 17592186044416) : Calls Tryz.prog 21 #[v] w fun e w' => e = .returned (Tile.v (madeT L)) ∧ Below w.heap.size w w' := by
  have B := Below.refl w.heap.size w
  obtain ⟨a, c, rfl, hc⟩ := h.len
  by_cases h0 : L.length = 0
  · have e1 : madeT L = zT := by unfold madeT; rw [if_pos h0]
    rw [e1]
    go_enter Tryz.func21, Tryz.ntmps21
    go_wp2_with (first | (refine wpList_buildT rfl rfl ?_; simp only [Act.put, putS]) | (refine wpList_storeT rfl _ _ rfl _ rfl _ rfl t3 ?_; clear t3; intro wn ht hcn hzn; have hsz := B.size; replace hzn := Nat.le_of_eq hzn.symm; replace B := Chg.below B hcn (by omega) B.size; (try replace t2 := t2.of_eq (hcn.block _ t2.lt (by omega))); have t3 := ht; clear ht; simp only [Act.put, putS]) | (have _ := t2; refine wpList_allocT' rfl rfl ?_; intro b_t3 wn hle hge ht hbn hzn; have hsz := B.size; replace B := B.trans (hbn.mono (by omega)); have hln := Nat.lt_of_lt_of_eq (Nat.lt_succ_self _) hzn.symm; clear hzn; (try first | (have hlt := t2.lt; replace t2 := t2.of_eq (hbn.block _ (by omega))) | replace t2 := t2.below (hbn.mono hle)); (try first | (have hlt := t3.lt; replace t3 := t3.of_eq (hbn.block _ (by omega))) | replace t3 := t3.below (hbn.mono hle)); have t3 := ht; clear ht; simp only [Act.put, putS]) | (refine wpList_allocT' rfl rfl ?_; intro b_t2 wn hle hge ht hbn hzn; have hsz := B.size; replace B := B.trans (hbn.mono (by omega)); have hln := Nat.lt_of_lt_of_eq (Nat.lt_succ_self _) hzn.symm; clear hzn; (try first | (have hlt := t2.lt; replace t2 := t2.of_eq (hbn.block _ (by omega))) | replace t2 := t2.below (hbn.mono hle)); (try first | (have hlt := t3.lt; replace t3 := t3.of_eq (hbn.block _ (by omega))) | replace t3 := t3.below (hbn.mono hle)); have t2 := ht; clear ht; simp only [Act.put, putS]) | fail)
    go_loopw [4] (fun i wr => i = .int .i64 0 ∧ Below w.heap.size w wr ∧ TileAt wr b_t2 zeroT ∧ TileAt wr b_t3 zeroT) (fun i _ => 0)
    case atStart => exact ⟨rfl, B, t2, t3⟩
    case round =>
      clear B t2 t3
      obtain ⟨rfl, B, t2, t3⟩ := hrel
      go_wp2_with (first | (refine wpList_storeT rfl _ _ rfl _ rfl _ rfl t2 ?_; clear t2; intro wn ht hcn hzn; have hsz := B.size; replace hzn := Nat.le_of_eq hzn.symm; replace B := Chg.below B hcn (by omega) B.size; (try replace t3 := t3.of_eq (hcn.block _ t3.lt (by omega))); have t2 := ht; clear ht; simp only [Act.put, putS]) | (refine wpList_loadT rfl _ rfl _ rfl t3 ?_; simp only [Act.put, putS]) | fail)
      refine bodyPost_ret (results_tile rfl _ _ (b_t2) rfl t2) rfl ?_
      exact ⟨rfl, B⟩
  · have e1 : madeT L = madeQ L := by unfold madeT; rw [if_neg h0]
    have HM := Lib.hid e1
    clear e1
    obtain ⟨g, o, rfl, rcw⟩ := h.at (by omega)
    clear h
    have hg := rcw.lt
    go_enter Tryz.func21, Tryz.ntmps21
    go_wp2_with (first | (refine wpList_buildT rfl rfl ?_; simp only [Act.put, putS]) | (refine wpList_storeT rfl _ _ rfl _ rfl _ rfl t3 ?_; clear t3; intro wn ht hcn hzn; have hsz := B.size; replace hzn := Nat.le_of_eq hzn.symm; replace B := Chg.below B hcn (by omega) B.size; (try replace t2 := t2.of_eq (hcn.block _ t2.lt (by omega))); have t3 := ht; clear ht; simp only [Act.put, putS]) | (have _ := t2; refine wpList_allocT' rfl rfl ?_; intro b_t3 wn hle hge ht hbn hzn; have hsz := B.size; replace B := B.trans (hbn.mono (by omega)); have hln := Nat.lt_of_lt_of_eq (Nat.lt_succ_self _) hzn.symm; clear hzn; (try first | (have hlt := t2.lt; replace t2 := t2.of_eq (hbn.block _ (by omega))) | replace t2 := t2.below (hbn.mono hle)); (try first | (have hlt := t3.lt; replace t3 := t3.of_eq (hbn.block _ (by omega))) | replace t3 := t3.below (hbn.mono hle)); have t3 := ht; clear ht; simp only [Act.put, putS]) | (refine wpList_allocT' rfl rfl ?_; intro b_t2 wn hle hge ht hbn hzn; have hsz := B.size; replace B := B.trans (hbn.mono (by omega)); have hln := Nat.lt_of_lt_of_eq (Nat.lt_succ_self _) hzn.symm; clear hzn; (try first | (have hlt := t2.lt; replace t2 := t2.of_eq (hbn.block _ (by omega))) | replace t2 := t2.below (hbn.mono hle)); (try first | (have hlt := t3.lt; replace t3 := t3.of_eq (hbn.block _ (by omega))) | replace t3 := t3.below (hbn.mono hle)); have t2 := ht; clear ht; simp only [Act.put, putS]) | fail)
    go_loopw [4, 5] (fun i _ wr => ∃ k : Nat, k ≤ 64 ∧ i = .int .i64 k ∧ Below w.heap.size w wr ∧ TileAt wr b_t2 zeroT ∧ TileAt wr b_t3 (stepT zeroT (madeQ L) k)) (fun i _ _ => (64 - intOf i).toNat)
    case atStart => exact ⟨0, by omega, rfl, B, t2, by rw [stepT_zero]; exact t3⟩
    case round =>
      clear B t2 t3
      obtain ⟨k, hk, rfl, B, t2, t3⟩ := hrel
      by_cases hk64 : k < 64
      · have rc := rcw.of_eq (B.block _ rcw.lt)
        have hlt2 : b_t3 < wr.heap.size := t3.lt
        have hml : k * L.length ≤ 63 * L.length := Nat.mul_le_mul_right _ (by omega)
        have hix : k * L.length / 64 < L.length := by omega
        have hm1 : (k : Int) * (L.length : Int) ≤ 63 * (L.length : Int) := by exact_mod_cast hml
        have hm0 : 0 ≤ (k : Int) * (L.length : Int) := Int.mul_nonneg (by omega) (by omega)
        have hms : madeS L k = getI L (k * L.length / 64) := rfl
        have b3 := bits_and3 (getI L (k * L.length / 64))
        by_cases hq : madeS L k % 4 = 2
        · have E := Lib.hid (show madeQ L k = cleanP (madeP (getI L (k * L.length / 64) + 7919 * k)) by unfold madeQ; rw [if_pos hq, hms])
          have d1 : (getI L (k * L.length / 64) % 4 == 2) = true := by rw [hms] at hq; simpa using hq
          go_wp2_with (first | (refine wpList_loadAny (t := 3) rfl _ rfl _ _ _ rfl (run_load_int (rci_int rc (getD_some hix))) (by first | with_reducible rfl | omega) ?_; simp only [Act.put, putS]) | (refine wpList_storeTp rfl _ _ rfl _ _ rfl _ rfl t3 k (by omega) (by first | rfl | omega) ?_; clear t3; intro wn ht hcn hzn; have hsz := B.size; replace hzn := Nat.le_of_eq hzn.symm; replace B := Chg.below B hcn (by omega) B.size; (try replace t2 := t2.of_eq (hcn.block _ t2.lt (by omega))); have t3 := ht; clear ht; simp only [Act.put, putS]) | (go_at_call 53; refine (R_Clean _ _ (madeP_ok _)).mono ?_; rintro e wn ⟨rfl, hbn⟩; have hsz := B.size; have hzn := hbn.size; replace B := B.trans (hbn.mono B.size); (try first | replace t2 := t2.of_eq (hbn.block _ t2.lt) | replace t2 := t2.below hbn); (try first | replace t3 := t3.of_eq (hbn.block _ t3.lt) | replace t3 := t3.below hbn)) | (go_at_call 22; refine (R_Made4 _ _).mono ?_; rintro e wn ⟨rfl, hbn⟩; have hsz := B.size; have hzn := hbn.size; replace B := B.trans (hbn.mono B.size); (try first | replace t2 := t2.of_eq (hbn.block _ t2.lt) | replace t2 := t2.below hbn); (try first | replace t3 := t3.of_eq (hbn.block _ t3.lt) | replace t3 := t3.below hbn)) | fail)
          go_roundw
          case rel => exact ⟨k + 1, by omega, by go_num, B, t2, by rw [upd_upd, madeP_wrap] at t3; rw [← stepT_next, E.out]; exact t3⟩
          case measure => simp [intOf]; omega
        · have E := Lib.hid (show madeQ L k = cleanP (madeP (getI L (k * L.length / 64))) by unfold madeQ; rw [if_neg hq, hms])
          have d1 : (getI L (k * L.length / 64) % 4 == 2) = false := by rw [hms] at hq; simpa using hq
          go_wp2_with (first | (refine wpList_loadAny (t := 3) rfl _ rfl _ _ _ rfl (run_load_int (rci_int rc (getD_some hix))) (by first | with_reducible rfl | omega) ?_; simp only [Act.put, putS]) | (refine wpList_storeTp rfl _ _ rfl _ _ rfl _ rfl t3 k (by omega) (by first | rfl | omega) ?_; clear t3; intro wn ht hcn hzn; have hsz := B.size; replace hzn := Nat.le_of_eq hzn.symm; replace B := Chg.below B hcn (by omega) B.size; (try replace t2 := t2.of_eq (hcn.block _ t2.lt (by omega))); have t3 := ht; clear ht; simp only [Act.put, putS]) | (go_at_call 53; refine (R_Clean _ _ (madeP_ok _)).mono ?_; rintro e wn ⟨rfl, hbn⟩; have hsz := B.size; have hzn := hbn.size; replace B := B.trans (hbn.mono B.size); (try first | replace t2 := t2.of_eq (hbn.block _ t2.lt) | replace t2 := t2.below hbn); (try first | replace t3 := t3.of_eq (hbn.block _ t3.lt) | replace t3 := t3.below hbn)) | (go_at_call 22; refine (R_Made4 _ _).mono ?_; rintro e wn ⟨rfl, hbn⟩; have hsz := B.size; have hzn := hbn.size; replace B := B.trans (hbn.mono B.size); (try first | replace t2 := t2.of_eq (hbn.block _ t2.lt) | replace t2 := t2.below hbn); (try first | replace t3 := t3.of_eq (hbn.block _ t3.lt) | replace t3 := t3.below hbn)) | fail)
          go_roundw
          case rel => exact ⟨k + 1, by omega, by go_num, B, t2, by rw [← stepT_next, E.out]; exact t3⟩
          case measure => simp [intOf]; omega
      · obtain rfl : k = 64 := by omega
        replace t3 := t3.congr (stepT_all _ _)
        go_wp2_with (first | (refine wpList_storeT rfl _ _ rfl _ rfl _ rfl t2 ?_; clear t2; intro wn ht hcn hzn; have hsz := B.size; replace hzn := Nat.le_of_eq hzn.symm; replace B := Chg.below B hcn (by omega) B.size; (try replace t3 := t3.of_eq (hcn.block _ t3.lt (by omega))); have t2 := ht; clear ht; simp only [Act.put, putS]) | (refine wpList_loadT rfl _ rfl _ rfl t3 ?_; simp only [Act.put, putS]) | fail)
        refine bodyPost_ret (results_tile rfl _ _ (b_t2) rfl t2) rfl ?_
        exact ⟨by rw [HM.out], B⟩
def pickI (L : List Int) (i : Nat) (m : Int) : Int := if i < L.length then getI L i % 1048576 % m else 0
set_option maxHeartbeats 1000000 in
theorem R_pick (v : Value) (L : List Int) (i : Nat) (m : Int) (w : World) (h : RSE inE v L w) (hn : L.length ≤ 17592186044416) (hm : 0 < m) (hm2 : m ≤ 100) : Calls Tryz.prog 24 #[v, .int .i64 i, .int .i64 m] w fun e w' => e = .returned (.int .i64 (pickI L i m)) ∧ w' = w := by
  obtain ⟨a, c, rfl, hc⟩ := h.len
  by_cases hi : i < L.length
  · have e1 : pickI L i m = getI L i % 1048576 % m := by unfold pickI; rw [if_pos hi]
    rw [e1]
    obtain ⟨g, o, rfl, rc⟩ := h.at (by omega)
    have hix := hi
    have b1 := bits_and1048575 (getI L i)
    have d1 : decide ((i : Int) < (L.length : Int)) = true := decide_eq_true (by omega)
    go_enter Tryz.func24, Tryz.ntmps24
    go_wp2_with (first | (refine wpList_loadAny (t := 3) rfl _ rfl _ _ _ rfl (run_load_int (rci_int rc (getD_some hix))) (by first | with_reducible rfl | omega) ?_; simp only [Act.put, putS]) | fail)
    go_ret
    exact ⟨rfl, rfl⟩
  · have e1 : pickI L i m = 0 := by unfold pickI; rw [if_neg hi]
    have d1 : decide ((i : Int) < (L.length : Int)) = false := decide_eq_false (by omega)
    rw [e1]
    go_enter Tryz.func24, Tryz.ntmps24
    go_wp2
    go_ret
    exact ⟨rfl, rfl⟩
end Go.Proofs.YtppccnjckiedlaaGreatDoor
/- Contract of gouacheref08.Made. -/
namespace Go.Proofs.YtppccnjckiedlaaGreatDoor
open Go.RowKit Go.Shelf Pl
set_option linter.unusedVariables false
set_option linter.unusedSimpArgs false
set_option maxRecDepth 20000

theorem pickI_bd (L : List Int) (i : Nat) : 0 ≤ pickI L i 48 ∧ pickI L i 48 < 48 := by
  unfold pickI; split <;> omega
theorem R_pickB (v : Value) (L : List Int) (i : Nat) (j : Int) (hj : j = i) (w : World) (h : RSE inE v L w) (hn : L.length ≤ 17592186044416) : Calls Tryz.prog 24 #[v, .int .i64 j, .int .i64 48] w fun e w' => e = .returned (.int .i64 (pickI L i 48)) ∧ Below w.heap.size w w' := by
  subst hj
  exact (R_pick v L i 48 w h hn (by omega) (by omega)).mono fun e w' ⟨he, hw⟩ => ⟨he, hw ▸ Below.refl _ _⟩
/-- The raster that Made of gouacheref08 builds, after k rounds. -/
def madeK (L : List Int) : Nat → List TA
  | 0 => []
  | k + 1 => if 3 * k + 2 < L.length then setR (madeK L k) (pickI L (3 * k) 48 - 20) (pickI L (3 * k + 1) 48 - 20) (madeP (getI L (3 * k + 2))) else madeK L k
def madeL (L : List Int) : List TA := madeK L 40
theorem madeK_stop (L : List Int) (k : Nat) (h : ¬ 3 * k + 2 < L.length) : ∀ j, madeK L (k + j) = madeK L k
  | 0 => rfl
  | j + 1 => by
    show (if 3 * (k + j) + 2 < L.length then _ else _) = _
    rw [if_neg (by omega)]
    exact madeK_stop L k h j
theorem madeK_valid (L : List Int) : ∀ k, validL (madeK L k) = true
  | 0 => validL_nil
  | k + 1 => by
    show validL (if _ then _ else _) = true
    split
    · exact putR_valid _ _ _ _
    · exact madeK_valid L k
theorem madeK_tok (L : List Int) : ∀ k, TokL (madeK L k)
  | 0 => TokL.nil
  | k + 1 => by
    show TokL (if _ then _ else _)
    split
    · exact setR_tok (madeK_tok L k) (madeP_ok _)
    · exact madeK_tok L k
theorem madeK_len (L : List Int) (k : Nat) : (madeK L k).length ≤ 1024 := (validL_iff.1 (madeK_valid L k)).1
theorem run_load_ras {w : World} {b j : Nat} {v : Value} (h : w.cell? ⟨b, j, none⟩ = some v) : (Instr.loadAt 30 (.pointer (some ⟨b, j, none⟩))).run Tryz.prog w = .ok (.agg #[v]) w := by
  simp [go_sem, h]
set_option maxHeartbeats 2000000 in
theorem R_Made8 (v : Value) (L : List Int) (w : World) (h : RSE inE v L w) (hn : L.length ≤ 17592186044416) : Calls Tryz.prog 6 #[v] w fun e w' => ∃ v', e = .returned (.agg #[v']) ∧ RS v' (madeL L) w' ∧ Below w.heap.size w w' := by
  have B := Below.refl w.heap.size w
  have HL := Lib.hid h
  obtain ⟨a, c, rfl, hc⟩ := h.len
  clear h
  go_enter Tryz.func6, Tryz.ntmps6
  go_wp2_with (first | (refine wpList_storeB (t := 30) rfl _ _ rfl _ rfl _ rfl r3 (by kernel_rfl) rfl (by simp [Value.oneCell']) ?_; clear r3; intro wn ht hcn hzn; have hsz := B.size; replace hzn := Nat.le_of_eq hzn.symm; replace B := Chg.below B hcn (by omega) B.size; (try replace r2 := r2.of_eq (hcn.block _ r2.lt (by omega))); (try replace q5 := q5.of_eq (hcn.block _ q5.lt (by omega))); (try replace g6 := g6.of_eq (hcn.block _ g6.lt (by omega))); have r3 := ht; clear ht; simp only [Act.put, putS]) | (have _ := r2; refine wpList_allocBk (t := 30) rfl _ (run_alloc_R _ _ rfl) ?_; intro b_r3 wn hle hge ht hbn hzn; have hsz := B.size; replace B := B.trans (hbn.mono (by omega)); have hln := Nat.lt_of_lt_of_eq (Nat.lt_succ_self _) hzn.symm; clear hzn; (try first | (have hlt := r2.lt; replace r2 := r2.of_eq (hbn.block _ (by omega))) | replace r2 := r2.below (hbn.mono hle)); (try first | (have hlt := r3.lt; replace r3 := r3.of_eq (hbn.block _ (by omega))) | replace r3 := r3.below (hbn.mono hle)); (try first | (have hlt := q5.lt; replace q5 := q5.of_eq (hbn.block _ (by omega))) | replace q5 := q5.below (hbn.mono hle)); (try first | (have hlt := g6.lt; replace g6 := g6.of_eq (hbn.block _ (by omega))) | replace g6 := g6.below (hbn.mono hle)); have r3 := ht; clear ht; simp only [Act.put, putS]) | (refine wpList_allocBk (t := 30) rfl _ (run_alloc_R _ _ rfl) ?_; intro b_r2 wn hle hge ht hbn hzn; have hsz := B.size; replace B := B.trans (hbn.mono (by omega)); have hln := Nat.lt_of_lt_of_eq (Nat.lt_succ_self _) hzn.symm; clear hzn; (try first | (have hlt := r2.lt; replace r2 := r2.of_eq (hbn.block _ (by omega))) | replace r2 := r2.below (hbn.mono hle)); (try first | (have hlt := r3.lt; replace r3 := r3.of_eq (hbn.block _ (by omega))) | replace r3 := r3.below (hbn.mono hle)); (try first | (have hlt := q5.lt; replace q5 := q5.of_eq (hbn.block _ (by omega))) | replace q5 := q5.below (hbn.mono hle)); (try first | (have hlt := g6.lt; replace g6 := g6.of_eq (hbn.block _ (by omega))) | replace g6 := g6.below (hbn.mono hle)); have r2 := ht; clear ht; simp only [Act.put, putS]) | fail)
  go_loopw [4, 5, 6] (fun i _ _ wr => ∃ (k n : Nat) (a0 : Option Addr) (c0 : Nat), n = 3 * k ∧ k ≤ 40 ∧ i = .int .i64 n ∧ Below w.heap.size w wr ∧ AtB 30 wr b_r2 #[.slice none 0 0] ∧ AtB 30 wr b_r3 #[.slice a0 (madeK L k).length c0] ∧ RS (.slice a0 (madeK L k).length c0) (madeK L k) wr) (fun i _ _ _ => (120 - intOf i).toNat)
  case atStart => exact ⟨0, 0, none, 0, rfl, by omega, rfl, B, r2, r3, RS.nil _⟩
  case round =>
    clear B r2 r3
    obtain ⟨k, n, a0, c0, hn3, hk, rfl, B, r2, r3, rs⟩ := hrel
    have hml := madeK_len L k
    by_cases hq : n + 2 < L.length ∧ n < 120
    · obtain ⟨hix, hlt⟩ := hq
      have E := Lib.hid (show madeK L (k + 1) = setR (madeK L k) (pickI L n 48 - 20) (pickI L (n + 1) 48 - 20) (madeP (getI L (n + 2))) from by
        show (if _ then _ else _) = _
        rw [if_pos (by omega), hn3])
      have hk39 : k < 40 := by omega
      have HN := Lib.hid hn3
      clear hn3
      have d1 : decide ((n : Int) + 2 < (L.length : Int)) = true := decide_eq_true (by omega)
      have d2 : decide ((n : Int) < 120) = true := decide_eq_true (by omega)
      obtain ⟨g, o, rfl, rcw⟩ := HL.out.at (by omega)
      have rc := rcw.of_eq (B.block _ rcw.lt)
      have hb1 := pickI_bd L n
      have hb2 := pickI_bd L (n + 1)
      obtain ⟨x, hx⟩ : ∃ x, pickI L n 48 - 20 = x := ⟨_, rfl⟩
      obtain ⟨y, hy⟩ : ∃ y, pickI L (n + 1) 48 - 20 = y := ⟨_, rfl⟩
      have wx : (Lit.int .i64 x).wf = true := wf_mk (by omega) (by omega)
      have wy : (Lit.int .i64 y).wf = true := wf_mk (by omega) (by omega)
      rw [hx, hy] at E
      go_upto_region 6 with (first | (refine wpList_storePx rfl _ _ rfl _ rfl (_) rfl q5 ?_; have q5o := q5; clear q5; intro wn ht hcn hzn; replace rs := rs.chg (show AtB 35 _ b_q5 (pxA _) from q5o) (by simp [pxA]) hcn; have hsz := B.size; replace hzn := Nat.le_of_eq hzn.symm; replace B := Chg.below B hcn (by omega) B.size; (try replace r2 := r2.of_eq (hcn.block _ r2.lt (by omega))); (try replace r3 := r3.of_eq (hcn.block _ r3.lt (by omega))); (try replace g6 := g6.of_eq (hcn.block _ g6.lt (by omega))); have q5 := ht; clear ht; simp only [Act.put, putS]) | (have _ := r3; refine wpList_allocPx' rfl rfl ?_; intro b_q5 wn hle hge ht hbn hzn; have hsz := B.size; replace B := B.trans (hbn.mono (by omega)); have hln := Nat.lt_of_lt_of_eq (Nat.lt_succ_self _) hzn.symm; clear hzn; (try first | (have hlt := r2.lt; replace r2 := r2.of_eq (hbn.block _ (by omega))) | replace r2 := r2.below (hbn.mono hle)); (try first | (have hlt := r3.lt; replace r3 := r3.of_eq (hbn.block _ (by omega))) | replace r3 := r3.below (hbn.mono hle)); (try first | (have hlt := q5.lt; replace q5 := q5.of_eq (hbn.block _ (by omega))) | replace q5 := q5.below (hbn.mono hle)); (try first | (have hlt := g6.lt; replace g6 := g6.of_eq (hbn.block _ (by omega))) | replace g6 := g6.below (hbn.mono hle)); (try first | (have hlt := rs.lt; replace rs := rs.of_eq (hbn.block _ (by omega))) | replace rs := rs.below (hbn.mono hle)); have q5 := ht; clear ht; simp only [Act.put, putS]) | (go_at_call 22; refine (R_Made4 _ _).mono ?_; rintro e wn ⟨rfl, hbn⟩; have hsz := B.size; have hzn := hbn.size; replace B := B.trans (hbn.mono B.size); (try first | replace r2 := r2.of_eq (hbn.block _ r2.lt) | replace r2 := r2.below hbn); (try first | replace r3 := r3.of_eq (hbn.block _ r3.lt) | replace r3 := r3.below hbn); (try first | replace q5 := q5.of_eq (hbn.block _ q5.lt) | replace q5 := q5.below hbn); (try first | replace g6 := g6.of_eq (hbn.block _ g6.lt) | replace g6 := g6.below hbn); (try first | replace rs := rs.of_eq (hbn.block _ rs.lt) | replace rs := rs.below hbn)) | (refine wpList_loadAny (t := 3) rfl _ rfl _ _ _ rfl (run_load_int (rci_int rc (getD_some hix))) (by first | rfl | omega) ?_; simp only [Act.put, putS]) | fail)
      have q1 := q5.lt
      have q2 := r3.lt
      go_cut [6] from 25 to 36 (fun s wx => ∃ (b_g6 : Nat) (a1 : Option Addr) (c1 : Nat) (e1 : Int), s = .pointer (some ⟨b_g6, 0, none⟩) ∧ AtB 66 wx b_g6 #[.slice a1 (madeK L (k + 1)).length c1, .int .i64 e1] ∧ RS (.slice a1 (madeK L (k + 1)).length c1) (madeK L (k + 1)) wx ∧ Below w.heap.size w wx ∧ AtB 30 wx b_r2 #[.slice none 0 0] ∧ AtB 30 wx b_r3 #[.slice a0 (madeK L k).length c0])
      case first =>
        try have r2B := r2
        try have r3B := r3
        try have q5B := q5
        try have g6B := g6
        try have rsB := rs
        refine wp_region_X0 13 #[false, false, false, false, false, false, false, false, false, false, false, false, false, false] (by kernel_rfl) (by kernel_rfl) ?_
        intro wn hbn
        have hX := hbn
        have hsz := B.size
        have hzn := hbn.size
        replace B := B.trans (hbn.mono B.size)
        try first | replace r2 := r2.of_eq (hbn.block _ r2.lt) | replace r2 := r2.below hbn
        try first | replace r3 := r3.of_eq (hbn.block _ r3.lt) | replace r3 := r3.below hbn
        try first | replace q5 := q5.of_eq (hbn.block _ q5.lt) | replace q5 := q5.below hbn
        try first | replace g6 := g6.of_eq (hbn.block _ g6.lt) | replace g6 := g6.below hbn
        try first | replace rs := rs.of_eq (hbn.block _ rs.lt) | replace rs := rs.below hbn
        simp only [List.length_cons, List.length_nil, Nat.reduceAdd]
        refine anyX_take 0 rfl (by kernel_rfl) ⟨_, ov_of hX⟩ ?_
        intro K hK
        try simp only [List.getElem_toArray, List.getElem_cons_zero, List.getElem_cons_succ]
        (first | (refine quiet_loadAny (t := 30) rfl _ _ _ rfl (fun w hw => run_load_B (ov_B r3B w hw) Tryz.isAgg30 (by kernel_rfl)) (by rfl) ?_; simp only [Act.put, putS]; go_big_quiet_on) | (refine quiet_loadPx rfl _ rfl (ov_px q5B) ?_; simp only [Act.put, putS]; go_big_quiet_on) | (go_big_quiet_op; go_big_quiet_on))
        simp only [Act.put, putS]
        refine anyX_take 1 rfl (by kernel_rfl) ⟨_, ov_of hX⟩ ?_
        intro K hK
        try simp only [List.getElem_toArray, List.getElem_cons_zero, List.getElem_cons_succ]
        (first | (refine quiet_loadAny (t := 30) rfl _ _ _ rfl (fun w hw => run_load_B (ov_B r3B w hw) Tryz.isAgg30 (by kernel_rfl)) (by rfl) ?_; simp only [Act.put, putS]; go_big_quiet_on) | (refine quiet_loadPx rfl _ rfl (ov_px q5B) ?_; simp only [Act.put, putS]; go_big_quiet_on) | (go_big_quiet_op; go_big_quiet_on))
        simp only [Act.put, putS]
        refine anyX_take 2 rfl (by kernel_rfl) ⟨_, ov_of hX⟩ ?_
        intro K hK
        try simp only [List.getElem_toArray, List.getElem_cons_zero, List.getElem_cons_succ]
        (first | (refine quiet_loadAny (t := 30) rfl _ _ _ rfl (fun w hw => run_load_B (ov_B r3B w hw) Tryz.isAgg30 (by kernel_rfl)) (by rfl) ?_; simp only [Act.put, putS]; go_big_quiet_on) | (refine quiet_loadPx rfl _ rfl (ov_px q5B) ?_; simp only [Act.put, putS]; go_big_quiet_on) | (go_big_quiet_op; go_big_quiet_on))
        simp only [Act.put, putS]
        refine anyX_take 5 rfl (by kernel_rfl) ⟨_, ov_of hX⟩ ?_
        intro K hK
        try simp only [List.getElem_toArray, List.getElem_cons_zero, List.getElem_cons_succ]
        (first | (refine quiet_loadAny (t := 30) rfl _ _ _ rfl (fun w hw => run_load_B (ov_B r3B w hw) Tryz.isAgg30 (by kernel_rfl)) (by rfl) ?_; simp only [Act.put, putS]; go_big_quiet_on) | (refine quiet_loadPx rfl _ rfl (ov_px q5B) ?_; simp only [Act.put, putS]; go_big_quiet_on) | (go_big_quiet_op; go_big_quiet_on))
        simp only [Act.put, putS]
        refine anyX_take 6 rfl (by kernel_rfl) ⟨_, ov_of hX⟩ ?_
        intro K hK
        try simp only [List.getElem_toArray, List.getElem_cons_zero, List.getElem_cons_succ]
        (first | (refine quiet_loadAny (t := 30) rfl _ _ _ rfl (fun w hw => run_load_B (ov_B r3B w hw) Tryz.isAgg30 (by kernel_rfl)) (by rfl) ?_; simp only [Act.put, putS]; go_big_quiet_on) | (refine quiet_loadPx rfl _ rfl (ov_px q5B) ?_; simp only [Act.put, putS]; go_big_quiet_on) | (go_big_quiet_op; go_big_quiet_on))
        simp only [Act.put, putS]
        refine anyX_take 7 rfl (by kernel_rfl) ⟨_, ov_of hX⟩ ?_
        intro K hK
        try simp only [List.getElem_toArray, List.getElem_cons_zero, List.getElem_cons_succ]
        (first | (refine quiet_loadAny (t := 30) rfl _ _ _ rfl (fun w hw => run_load_B (ov_B r3B w hw) Tryz.isAgg30 (by kernel_rfl)) (by rfl) ?_; simp only [Act.put, putS]; go_big_quiet_on) | (refine quiet_loadPx rfl _ rfl (ov_px q5B) ?_; simp only [Act.put, putS]; go_big_quiet_on) | (go_big_quiet_op; go_big_quiet_on))
        simp only [Act.put, putS]
        refine anyX_take 10 rfl (by kernel_rfl) ⟨_, ov_of hX⟩ ?_
        intro K hK
        try simp only [List.getElem_toArray, List.getElem_cons_zero, List.getElem_cons_succ]
        (first | (refine quiet_loadAny (t := 30) rfl _ _ _ rfl (fun w hw => run_load_B (ov_B r3B w hw) Tryz.isAgg30 (by kernel_rfl)) (by rfl) ?_; simp only [Act.put, putS]; go_big_quiet_on) | (refine quiet_loadPx rfl _ rfl (ov_px q5B) ?_; simp only [Act.put, putS]; go_big_quiet_on) | (go_big_quiet_op; go_big_quiet_on))
        simp only [Act.put, putS]
        refine anyX_two 3 12 rfl rfl (by kernel_rfl) rfl rfl (fun K hK => ?_) (fun K hK => ?_)
        · skip
          try simp only [List.getElem_toArray, List.getElem_cons_zero, List.getElem_cons_succ]
          go_simp
          go_at_call 24
          refine (R_pickB _ L n _ rfl _ (HL.out.below B) hn).mono ?_
          rintro e wn ⟨rfl, hbn⟩
          have hsz := B.size
          have hzn := hbn.size
          have hsx := hX.size
          replace B := B.trans (hbn.mono B.size)
          replace hX := hX.trans (hbn.mono hX.size)
          try first | replace r2 := r2.of_eq (hbn.block _ r2.lt) | replace r2 := r2.below hbn
          try first | replace r3 := r3.of_eq (hbn.block _ r3.lt) | replace r3 := r3.below hbn
          try first | replace q5 := q5.of_eq (hbn.block _ q5.lt) | replace q5 := q5.below hbn
          try first | replace g6 := g6.of_eq (hbn.block _ g6.lt) | replace g6 := g6.below hbn
          try first | replace rs := rs.of_eq (hbn.block _ rs.lt) | replace rs := rs.below hbn
          refine hK _ _ ⟨fun _ => ⟨_, ov_of hX⟩, ?_⟩
          clear hK K
          try simp only [List.getElem_toArray, List.getElem_cons_zero, List.getElem_cons_succ]
          simp only [Act.put, putS]
          refine anyX_take 4 rfl (by kernel_rfl) ⟨_, ov_of hX⟩ ?_
          intro K hK
          try simp only [List.getElem_toArray, List.getElem_cons_zero, List.getElem_cons_succ]
          (first | (refine quiet_loadAny (t := 30) rfl _ _ _ rfl (fun w hw => run_load_B (ov_B r3B w hw) Tryz.isAgg30 (by kernel_rfl)) (by rfl) ?_; simp only [Act.put, putS]; go_big_quiet_on) | (refine quiet_loadPx rfl _ rfl (ov_px q5B) ?_; simp only [Act.put, putS]; go_big_quiet_on) | (go_big_quiet_op; go_big_quiet_on))
          simp only [Act.put, putS]
          refine anyX_two 8 12 rfl rfl (by kernel_rfl) rfl rfl (fun K hK => ?_) (fun K hK => ?_)
          · skip
            try simp only [List.getElem_toArray, List.getElem_cons_zero, List.getElem_cons_succ]
            go_simp
            go_at_call 24
            refine (R_pickB _ L (n + 1) _ (by omega) _ (HL.out.below B) hn).mono ?_
            rintro e wn ⟨rfl, hbn⟩
            have hsz := B.size
            have hzn := hbn.size
            have hsx := hX.size
            replace B := B.trans (hbn.mono B.size)
            replace hX := hX.trans (hbn.mono hX.size)
            try first | replace r2 := r2.of_eq (hbn.block _ r2.lt) | replace r2 := r2.below hbn
            try first | replace r3 := r3.of_eq (hbn.block _ r3.lt) | replace r3 := r3.below hbn
            try first | replace q5 := q5.of_eq (hbn.block _ q5.lt) | replace q5 := q5.below hbn
            try first | replace g6 := g6.of_eq (hbn.block _ g6.lt) | replace g6 := g6.below hbn
            try first | replace rs := rs.of_eq (hbn.block _ rs.lt) | replace rs := rs.below hbn
            refine hK _ _ ⟨fun _ => ⟨_, ov_of hX⟩, ?_⟩
            clear hK K
            try simp only [List.getElem_toArray, List.getElem_cons_zero, List.getElem_cons_succ]
            simp only [Act.put, putS]
            refine anyX_take 9 rfl (by kernel_rfl) ⟨_, ov_of hX⟩ ?_
            intro K hK
            try simp only [List.getElem_toArray, List.getElem_cons_zero, List.getElem_cons_succ]
            (first | (refine quiet_loadAny (t := 30) rfl _ _ _ rfl (fun w hw => run_load_B (ov_B r3B w hw) Tryz.isAgg30 (by kernel_rfl)) (by rfl) ?_; simp only [Act.put, putS]; go_big_quiet_on) | (refine quiet_loadPx rfl _ rfl (ov_px q5B) ?_; simp only [Act.put, putS]; go_big_quiet_on) | (go_big_quiet_op; go_big_quiet_on))
            simp only [Act.put, putS]
            refine anyX_two 11 12 rfl rfl (by kernel_rfl) rfl rfl (fun K hK => ?_) (fun K hK => ?_)
            · skip
              try simp only [List.getElem_toArray, List.getElem_cons_zero, List.getElem_cons_succ]
              go_simp
              go_at_call 23
              refine (R_SetR _ (madeK L k) x y _ _ rs (madeK_tok L k) (by unfold maxLen; omega) wx wy (madeP_ok _)).mono ?_
              rintro e wn ⟨v1, rfl, rs1, hbn⟩
              obtain ⟨a1, c1, rfl, hc1⟩ := rs1.len
              have hsz := B.size
              have hzn := hbn.size
              have hsx := hX.size
              replace B := B.trans (hbn.mono B.size)
              replace hX := hX.trans (hbn.mono hX.size)
              try first | replace r2 := r2.of_eq (hbn.block _ r2.lt) | replace r2 := r2.below hbn
              try first | replace r3 := r3.of_eq (hbn.block _ r3.lt) | replace r3 := r3.below hbn
              try first | replace q5 := q5.of_eq (hbn.block _ q5.lt) | replace q5 := q5.below hbn
              try first | replace g6 := g6.of_eq (hbn.block _ g6.lt) | replace g6 := g6.below hbn
              refine hK _ _ ⟨fun _ => ⟨_, ov_of hX⟩, ?_⟩
              clear hK K
              try simp only [List.getElem_toArray, List.getElem_cons_zero, List.getElem_cons_succ]
              simp only [Act.put, putS]
              refine anyX_next 12 rfl (by kernel_rfl) rfl (fun K hK => ?_)
              try simp only [List.getElem_toArray, List.getElem_cons_zero, List.getElem_cons_succ]
              refine owp_allocBk (t := 66) _ (run_alloc_G _ _ rfl) ?_
              intro b_g6 wn hle hge ht hbn hzn
              have hsz := B.size
              have hsx := hX.size
              replace B := B.trans (hbn.mono (by omega))
              replace hX := hX.trans (hbn.mono (by omega))
              try first | (have hlt := r2.lt; replace r2 := r2.of_eq (hbn.block _ (by omega))) | replace r2 := r2.below (hbn.mono hle)
              try first | (have hlt := r3.lt; replace r3 := r3.of_eq (hbn.block _ (by omega))) | replace r3 := r3.below (hbn.mono hle)
              try first | (have hlt := q5.lt; replace q5 := q5.of_eq (hbn.block _ (by omega))) | replace q5 := q5.below (hbn.mono hle)
              try first | (have hlt := g6.lt; replace g6 := g6.of_eq (hbn.block _ (by omega))) | replace g6 := g6.below (hbn.mono hle)
              try first | (have hlt := rs.lt; replace rs := rs.of_eq (hbn.block _ (by omega))) | replace rs := rs.below (hbn.mono hle)
              try first | (have hlt := rs1.lt; replace rs1 := rs1.of_eq (hbn.block _ (by omega))) | replace rs1 := rs1.below (hbn.mono hle)
              have g6 := ht
              clear ht
              refine hK _ _ ⟨fun _ => ⟨_, ov_of hX⟩, ?_⟩
              clear hK K
              try simp only [List.getElem_toArray, List.getElem_cons_zero, List.getElem_cons_succ]
              simp only [Act.put, putS]
              refine anyX_seq (by kernel_rfl) (by kernel_rfl) ?_
              simp only [List.drop_succ_cons, List.drop_zero]
              go_wp2_with (first | (refine wpList_storeB (t := 66) rfl _ _ rfl _ rfl _ rfl g6 (by kernel_rfl) rfl (by simp [Value.oneCell']) ?_; have g6o := g6; clear g6; intro wn ht hcn hzn; replace rs1 := rs1.chg g6o (by simp) hcn; have hsz := B.size; replace hzn := Nat.le_of_eq hzn.symm; replace B := Chg.below B hcn (by omega) B.size; (try replace r2 := r2.of_eq (hcn.block _ r2.lt (by omega))); (try replace r3 := r3.of_eq (hcn.block _ r3.lt (by omega))); (try replace q5 := q5.of_eq (hcn.block _ q5.lt (by omega))); have g6 := ht; clear ht; simp only [Act.put, putS]) | fail)
              refine NoPan.normal ?_
              go_wp2_with fail
              go_meet
              exact ⟨b_g6, a1, c1, _, rfl, by rw [E.out]; exact g6, by rw [E.out]; exact rs1, B, r2, r3⟩
            · skip
              try simp only [List.getElem_toArray, List.getElem_cons_zero, List.getElem_cons_succ]
              refine owp_allocBk (t := 66) _ (run_alloc_G _ _ rfl) ?_
              intro b_g6 wn hle hge ht hbn hzn
              have hsz := B.size
              have hsx := hX.size
              replace B := B.trans (hbn.mono (by omega))
              replace hX := hX.trans (hbn.mono (by omega))
              try first | (have hlt := r2.lt; replace r2 := r2.of_eq (hbn.block _ (by omega))) | replace r2 := r2.below (hbn.mono hle)
              try first | (have hlt := r3.lt; replace r3 := r3.of_eq (hbn.block _ (by omega))) | replace r3 := r3.below (hbn.mono hle)
              try first | (have hlt := q5.lt; replace q5 := q5.of_eq (hbn.block _ (by omega))) | replace q5 := q5.below (hbn.mono hle)
              try first | (have hlt := g6.lt; replace g6 := g6.of_eq (hbn.block _ (by omega))) | replace g6 := g6.below (hbn.mono hle)
              try first | (have hlt := rs.lt; replace rs := rs.of_eq (hbn.block _ (by omega))) | replace rs := rs.below (hbn.mono hle)
              try first | (have hlt := rs1.lt; replace rs1 := rs1.of_eq (hbn.block _ (by omega))) | replace rs1 := rs1.below (hbn.mono hle)
              have g6 := ht
              clear ht
              refine hK _ _ ⟨fun _ => ⟨_, ov_of hX⟩, ?_⟩
              clear hK K
              try simp only [List.getElem_toArray, List.getElem_cons_zero, List.getElem_cons_succ]
              simp only [Act.put, putS]
              refine anyX_next 11 rfl (by kernel_rfl) rfl (fun K hK => ?_)
              try simp only [List.getElem_toArray, List.getElem_cons_zero, List.getElem_cons_succ]
              go_simp
              go_at_call 23
              refine (R_SetR _ (madeK L k) x y _ _ rs (madeK_tok L k) (by unfold maxLen; omega) wx wy (madeP_ok _)).mono ?_
              rintro e wn ⟨v1, rfl, rs1, hbn⟩
              obtain ⟨a1, c1, rfl, hc1⟩ := rs1.len
              have hsz := B.size
              have hzn := hbn.size
              have hsx := hX.size
              replace B := B.trans (hbn.mono B.size)
              replace hX := hX.trans (hbn.mono hX.size)
              try first | replace r2 := r2.of_eq (hbn.block _ r2.lt) | replace r2 := r2.below hbn
              try first | replace r3 := r3.of_eq (hbn.block _ r3.lt) | replace r3 := r3.below hbn
              try first | replace q5 := q5.of_eq (hbn.block _ q5.lt) | replace q5 := q5.below hbn
              try first | replace g6 := g6.of_eq (hbn.block _ g6.lt) | replace g6 := g6.below hbn
              refine hK _ _ ⟨fun _ => ⟨_, ov_of hX⟩, ?_⟩
              clear hK K
              try simp only [List.getElem_toArray, List.getElem_cons_zero, List.getElem_cons_succ]
              simp only [Act.put, putS]
              refine anyX_seq (by kernel_rfl) (by kernel_rfl) ?_
              simp only [List.drop_succ_cons, List.drop_zero]
              go_wp2_with (first | (refine wpList_storeB (t := 66) rfl _ _ rfl _ rfl _ rfl g6 (by kernel_rfl) rfl (by simp [Value.oneCell']) ?_; have g6o := g6; clear g6; intro wn ht hcn hzn; replace rs1 := rs1.chg g6o (by simp) hcn; have hsz := B.size; replace hzn := Nat.le_of_eq hzn.symm; replace B := Chg.below B hcn (by omega) B.size; (try replace r2 := r2.of_eq (hcn.block _ r2.lt (by omega))); (try replace r3 := r3.of_eq (hcn.block _ r3.lt (by omega))); (try replace q5 := q5.of_eq (hcn.block _ q5.lt (by omega))); have g6 := ht; clear ht; simp only [Act.put, putS]) | fail)
              refine NoPan.normal ?_
              go_wp2_with fail
              go_meet
              exact ⟨b_g6, a1, c1, _, rfl, by rw [E.out]; exact g6, by rw [E.out]; exact rs1, B, r2, r3⟩
          · skip
            try simp only [List.getElem_toArray, List.getElem_cons_zero, List.getElem_cons_succ]
            refine owp_allocBk (t := 66) _ (run_alloc_G _ _ rfl) ?_
            intro b_g6 wn hle hge ht hbn hzn
            have hsz := B.size
            have hsx := hX.size
            replace B := B.trans (hbn.mono (by omega))
            replace hX := hX.trans (hbn.mono (by omega))
            try first | (have hlt := r2.lt; replace r2 := r2.of_eq (hbn.block _ (by omega))) | replace r2 := r2.below (hbn.mono hle)
            try first | (have hlt := r3.lt; replace r3 := r3.of_eq (hbn.block _ (by omega))) | replace r3 := r3.below (hbn.mono hle)
            try first | (have hlt := q5.lt; replace q5 := q5.of_eq (hbn.block _ (by omega))) | replace q5 := q5.below (hbn.mono hle)
            try first | (have hlt := g6.lt; replace g6 := g6.of_eq (hbn.block _ (by omega))) | replace g6 := g6.below (hbn.mono hle)
            try first | (have hlt := rs.lt; replace rs := rs.of_eq (hbn.block _ (by omega))) | replace rs := rs.below (hbn.mono hle)
            try first | (have hlt := rs1.lt; replace rs1 := rs1.of_eq (hbn.block _ (by omega))) | replace rs1 := rs1.below (hbn.mono hle)
            have g6 := ht
            clear ht
            refine hK _ _ ⟨fun _ => ⟨_, ov_of hX⟩, ?_⟩
            clear hK K
            try simp only [List.getElem_toArray, List.getElem_cons_zero, List.getElem_cons_succ]
            simp only [Act.put, putS]
            refine anyX_next 8 rfl (by kernel_rfl) rfl (fun K hK => ?_)
            try simp only [List.getElem_toArray, List.getElem_cons_zero, List.getElem_cons_succ]
            go_simp
            go_at_call 24
            refine (R_pickB _ L (n + 1) _ (by omega) _ (HL.out.below B) hn).mono ?_
            rintro e wn ⟨rfl, hbn⟩
            have hsz := B.size
            have hzn := hbn.size
            have hsx := hX.size
            replace B := B.trans (hbn.mono B.size)
            replace hX := hX.trans (hbn.mono hX.size)
            try first | replace r2 := r2.of_eq (hbn.block _ r2.lt) | replace r2 := r2.below hbn
            try first | replace r3 := r3.of_eq (hbn.block _ r3.lt) | replace r3 := r3.below hbn
            try first | replace q5 := q5.of_eq (hbn.block _ q5.lt) | replace q5 := q5.below hbn
            try first | replace g6 := g6.of_eq (hbn.block _ g6.lt) | replace g6 := g6.below hbn
            try first | replace rs := rs.of_eq (hbn.block _ rs.lt) | replace rs := rs.below hbn
            refine hK _ _ ⟨fun _ => ⟨_, ov_of hX⟩, ?_⟩
            clear hK K
            try simp only [List.getElem_toArray, List.getElem_cons_zero, List.getElem_cons_succ]
            simp only [Act.put, putS]
            refine anyX_take 9 rfl (by kernel_rfl) ⟨_, ov_of hX⟩ ?_
            intro K hK
            try simp only [List.getElem_toArray, List.getElem_cons_zero, List.getElem_cons_succ]
            (first | (refine quiet_loadAny (t := 30) rfl _ _ _ rfl (fun w hw => run_load_B (ov_B r3B w hw) Tryz.isAgg30 (by kernel_rfl)) (by rfl) ?_; simp only [Act.put, putS]; go_big_quiet_on) | (refine quiet_loadPx rfl _ rfl (ov_px q5B) ?_; simp only [Act.put, putS]; go_big_quiet_on) | (go_big_quiet_op; go_big_quiet_on))
            simp only [Act.put, putS]
            refine anyX_next 11 rfl (by kernel_rfl) rfl (fun K hK => ?_)
            try simp only [List.getElem_toArray, List.getElem_cons_zero, List.getElem_cons_succ]
            go_simp
            go_at_call 23
            refine (R_SetR _ (madeK L k) x y _ _ rs (madeK_tok L k) (by unfold maxLen; omega) wx wy (madeP_ok _)).mono ?_
            rintro e wn ⟨v1, rfl, rs1, hbn⟩
            obtain ⟨a1, c1, rfl, hc1⟩ := rs1.len
            have hsz := B.size
            have hzn := hbn.size
            have hsx := hX.size
            replace B := B.trans (hbn.mono B.size)
            replace hX := hX.trans (hbn.mono hX.size)
            try first | replace r2 := r2.of_eq (hbn.block _ r2.lt) | replace r2 := r2.below hbn
            try first | replace r3 := r3.of_eq (hbn.block _ r3.lt) | replace r3 := r3.below hbn
            try first | replace q5 := q5.of_eq (hbn.block _ q5.lt) | replace q5 := q5.below hbn
            try first | replace g6 := g6.of_eq (hbn.block _ g6.lt) | replace g6 := g6.below hbn
            refine hK _ _ ⟨fun _ => ⟨_, ov_of hX⟩, ?_⟩
            clear hK K
            try simp only [List.getElem_toArray, List.getElem_cons_zero, List.getElem_cons_succ]
            simp only [Act.put, putS]
            refine anyX_seq (by kernel_rfl) (by kernel_rfl) ?_
            simp only [List.drop_succ_cons, List.drop_zero]
            go_wp2_with (first | (refine wpList_storeB (t := 66) rfl _ _ rfl _ rfl _ rfl g6 (by kernel_rfl) rfl (by simp [Value.oneCell']) ?_; have g6o := g6; clear g6; intro wn ht hcn hzn; replace rs1 := rs1.chg g6o (by simp) hcn; have hsz := B.size; replace hzn := Nat.le_of_eq hzn.symm; replace B := Chg.below B hcn (by omega) B.size; (try replace r2 := r2.of_eq (hcn.block _ r2.lt (by omega))); (try replace r3 := r3.of_eq (hcn.block _ r3.lt (by omega))); (try replace q5 := q5.of_eq (hcn.block _ q5.lt (by omega))); have g6 := ht; clear ht; simp only [Act.put, putS]) | fail)
            refine NoPan.normal ?_
            go_wp2_with fail
            go_meet
            exact ⟨b_g6, a1, c1, _, rfl, by rw [E.out]; exact g6, by rw [E.out]; exact rs1, B, r2, r3⟩
        · skip
          try simp only [List.getElem_toArray, List.getElem_cons_zero, List.getElem_cons_succ]
          refine owp_allocBk (t := 66) _ (run_alloc_G _ _ rfl) ?_
          intro b_g6 wn hle hge ht hbn hzn
          have hsz := B.size
          have hsx := hX.size
          replace B := B.trans (hbn.mono (by omega))
          replace hX := hX.trans (hbn.mono (by omega))
          try first | (have hlt := r2.lt; replace r2 := r2.of_eq (hbn.block _ (by omega))) | replace r2 := r2.below (hbn.mono hle)
          try first | (have hlt := r3.lt; replace r3 := r3.of_eq (hbn.block _ (by omega))) | replace r3 := r3.below (hbn.mono hle)
          try first | (have hlt := q5.lt; replace q5 := q5.of_eq (hbn.block _ (by omega))) | replace q5 := q5.below (hbn.mono hle)
          try first | (have hlt := g6.lt; replace g6 := g6.of_eq (hbn.block _ (by omega))) | replace g6 := g6.below (hbn.mono hle)
          try first | (have hlt := rs.lt; replace rs := rs.of_eq (hbn.block _ (by omega))) | replace rs := rs.below (hbn.mono hle)
          try first | (have hlt := rs1.lt; replace rs1 := rs1.of_eq (hbn.block _ (by omega))) | replace rs1 := rs1.below (hbn.mono hle)
          have g6 := ht
          clear ht
          refine hK _ _ ⟨fun _ => ⟨_, ov_of hX⟩, ?_⟩
          clear hK K
          try simp only [List.getElem_toArray, List.getElem_cons_zero, List.getElem_cons_succ]
          simp only [Act.put, putS]
          refine anyX_next 3 rfl (by kernel_rfl) rfl (fun K hK => ?_)
          try simp only [List.getElem_toArray, List.getElem_cons_zero, List.getElem_cons_succ]
          go_simp
          go_at_call 24
          refine (R_pickB _ L n _ rfl _ (HL.out.below B) hn).mono ?_
          rintro e wn ⟨rfl, hbn⟩
          have hsz := B.size
          have hzn := hbn.size
          have hsx := hX.size
          replace B := B.trans (hbn.mono B.size)
          replace hX := hX.trans (hbn.mono hX.size)
          try first | replace r2 := r2.of_eq (hbn.block _ r2.lt) | replace r2 := r2.below hbn
          try first | replace r3 := r3.of_eq (hbn.block _ r3.lt) | replace r3 := r3.below hbn
          try first | replace q5 := q5.of_eq (hbn.block _ q5.lt) | replace q5 := q5.below hbn
          try first | replace g6 := g6.of_eq (hbn.block _ g6.lt) | replace g6 := g6.below hbn
          try first | replace rs := rs.of_eq (hbn.block _ rs.lt) | replace rs := rs.below hbn
          refine hK _ _ ⟨fun _ => ⟨_, ov_of hX⟩, ?_⟩
          clear hK K
          try simp only [List.getElem_toArray, List.getElem_cons_zero, List.getElem_cons_succ]
          simp only [Act.put, putS]
          refine anyX_take 4 rfl (by kernel_rfl) ⟨_, ov_of hX⟩ ?_
          intro K hK
          try simp only [List.getElem_toArray, List.getElem_cons_zero, List.getElem_cons_succ]
          (first | (refine quiet_loadAny (t := 30) rfl _ _ _ rfl (fun w hw => run_load_B (ov_B r3B w hw) Tryz.isAgg30 (by kernel_rfl)) (by rfl) ?_; simp only [Act.put, putS]; go_big_quiet_on) | (refine quiet_loadPx rfl _ rfl (ov_px q5B) ?_; simp only [Act.put, putS]; go_big_quiet_on) | (go_big_quiet_op; go_big_quiet_on))
          simp only [Act.put, putS]
          refine anyX_next 8 rfl (by kernel_rfl) rfl (fun K hK => ?_)
          try simp only [List.getElem_toArray, List.getElem_cons_zero, List.getElem_cons_succ]
          go_simp
          go_at_call 24
          refine (R_pickB _ L (n + 1) _ (by omega) _ (HL.out.below B) hn).mono ?_
          rintro e wn ⟨rfl, hbn⟩
          have hsz := B.size
          have hzn := hbn.size
          have hsx := hX.size
          replace B := B.trans (hbn.mono B.size)
          replace hX := hX.trans (hbn.mono hX.size)
          try first | replace r2 := r2.of_eq (hbn.block _ r2.lt) | replace r2 := r2.below hbn
          try first | replace r3 := r3.of_eq (hbn.block _ r3.lt) | replace r3 := r3.below hbn
          try first | replace q5 := q5.of_eq (hbn.block _ q5.lt) | replace q5 := q5.below hbn
          try first | replace g6 := g6.of_eq (hbn.block _ g6.lt) | replace g6 := g6.below hbn
          try first | replace rs := rs.of_eq (hbn.block _ rs.lt) | replace rs := rs.below hbn
          refine hK _ _ ⟨fun _ => ⟨_, ov_of hX⟩, ?_⟩
          clear hK K
          try simp only [List.getElem_toArray, List.getElem_cons_zero, List.getElem_cons_succ]
          simp only [Act.put, putS]
          refine anyX_take 9 rfl (by kernel_rfl) ⟨_, ov_of hX⟩ ?_
          intro K hK
          try simp only [List.getElem_toArray, List.getElem_cons_zero, List.getElem_cons_succ]
          (first | (refine quiet_loadAny (t := 30) rfl _ _ _ rfl (fun w hw => run_load_B (ov_B r3B w hw) Tryz.isAgg30 (by kernel_rfl)) (by rfl) ?_; simp only [Act.put, putS]; go_big_quiet_on) | (refine quiet_loadPx rfl _ rfl (ov_px q5B) ?_; simp only [Act.put, putS]; go_big_quiet_on) | (go_big_quiet_op; go_big_quiet_on))
          simp only [Act.put, putS]
          refine anyX_next 11 rfl (by kernel_rfl) rfl (fun K hK => ?_)
          try simp only [List.getElem_toArray, List.getElem_cons_zero, List.getElem_cons_succ]
          go_simp
          go_at_call 23
          refine (R_SetR _ (madeK L k) x y _ _ rs (madeK_tok L k) (by unfold maxLen; omega) wx wy (madeP_ok _)).mono ?_
          rintro e wn ⟨v1, rfl, rs1, hbn⟩
          obtain ⟨a1, c1, rfl, hc1⟩ := rs1.len
          have hsz := B.size
          have hzn := hbn.size
          have hsx := hX.size
          replace B := B.trans (hbn.mono B.size)
          replace hX := hX.trans (hbn.mono hX.size)
          try first | replace r2 := r2.of_eq (hbn.block _ r2.lt) | replace r2 := r2.below hbn
          try first | replace r3 := r3.of_eq (hbn.block _ r3.lt) | replace r3 := r3.below hbn
          try first | replace q5 := q5.of_eq (hbn.block _ q5.lt) | replace q5 := q5.below hbn
          try first | replace g6 := g6.of_eq (hbn.block _ g6.lt) | replace g6 := g6.below hbn
          refine hK _ _ ⟨fun _ => ⟨_, ov_of hX⟩, ?_⟩
          clear hK K
          try simp only [List.getElem_toArray, List.getElem_cons_zero, List.getElem_cons_succ]
          simp only [Act.put, putS]
          refine anyX_seq (by kernel_rfl) (by kernel_rfl) ?_
          simp only [List.drop_succ_cons, List.drop_zero]
          go_wp2_with (first | (refine wpList_storeB (t := 66) rfl _ _ rfl _ rfl _ rfl g6 (by kernel_rfl) rfl (by simp [Value.oneCell']) ?_; have g6o := g6; clear g6; intro wn ht hcn hzn; replace rs1 := rs1.chg g6o (by simp) hcn; have hsz := B.size; replace hzn := Nat.le_of_eq hzn.symm; replace B := Chg.below B hcn (by omega) B.size; (try replace r2 := r2.of_eq (hcn.block _ r2.lt (by omega))); (try replace r3 := r3.of_eq (hcn.block _ r3.lt (by omega))); (try replace q5 := q5.of_eq (hcn.block _ q5.lt (by omega))); have g6 := ht; clear ht; simp only [Act.put, putS]) | fail)
          refine NoPan.normal ?_
          go_wp2_with fail
          go_meet
          exact ⟨b_g6, a1, c1, _, rfl, by rw [E.out]; exact g6, by rw [E.out]; exact rs1, B, r2, r3⟩
      case rest =>
        obtain ⟨b_g6, a1, c1, e1, rfl, g6, rs1, B, r2, r3⟩ := hcut
        go_wp2_with (first | (refine wpList_storeB (t := 30) rfl _ _ rfl _ rfl _ rfl r3 (by kernel_rfl) rfl (by simp [Value.oneCell']) ?_; have r3o := r3; clear r3; intro wn ht hcn hzn; replace rs1 := rs1.chg r3o (by simp) hcn; have hsz := B.size; replace hzn := Nat.le_of_eq hzn.symm; replace B := Chg.below B hcn (by omega) B.size; (try replace r2 := r2.of_eq (hcn.block _ r2.lt (by omega))); (try replace q5 := q5.of_eq (hcn.block _ q5.lt (by omega))); (try replace g6 := g6.of_eq (hcn.block _ g6.lt (by omega))); have r3 := ht; clear ht; simp only [Act.put, putS]) | (refine wpList_loadAny (t := 30) rfl _ rfl _ _ _ rfl (run_load_ras (g6.cell 0 rfl)) (by rfl) ?_; simp only [Act.put, putS]) | fail)
        go_roundw
        case rel => exact ⟨k + 1, n + 3, a1, c1, by have := HN.out; omega, by omega, by go_num, B, r2, r3, rs1⟩
        case measure => simp [intOf]; omega
    · have E := Lib.hid (show madeK L k = madeL L from by
        unfold madeL
        by_cases hk40 : k = 40
        · rw [hk40]
        · have := madeK_stop L k (by omega) (40 - k)
          rw [show k + (40 - k) = 40 by omega] at this
          exact this.symm)
      have hnb : n ≤ 120 := by omega
      clear hn3
      by_cases hix : n + 2 < L.length
      · have d1 : decide ((n : Int) + 2 < (L.length : Int)) = true := decide_eq_true (by omega)
        have d2 : decide ((n : Int) < 120) = false := decide_eq_false (by omega)
        clear hq
        go_wp2_with (first | (refine wpList_storeB (t := 30) rfl _ _ rfl _ rfl _ rfl r2 (by kernel_rfl) rfl (by simp [Value.oneCell']) ?_; have r2o := r2; clear r2; intro wn ht hcn hzn; replace rs := rs.chg r2o (by simp) hcn; have hsz := B.size; replace hzn := Nat.le_of_eq hzn.symm; replace B := Chg.below B hcn (by omega) B.size; (try replace r3 := r3.of_eq (hcn.block _ r3.lt (by omega))); (try replace q5 := q5.of_eq (hcn.block _ q5.lt (by omega))); (try replace g6 := g6.of_eq (hcn.block _ g6.lt (by omega))); have r2 := ht; clear ht; simp only [Act.put, putS]) | (refine wpList_loadAny (t := 30) rfl _ rfl _ _ _ rfl (run_load_B r3 Tryz.isAgg30 (by kernel_rfl)) (by rfl) ?_; simp only [Act.put, putS]) | fail)
        refine bodyPost_ret (results_B (t := 30) rfl _ _ (b_r2) rfl r2 Tryz.isAgg30 (by kernel_rfl)) rfl ?_
        exact ⟨_, rfl, by rw [← E.out]; exact rs, B⟩
      · have d1 : decide ((n : Int) + 2 < (L.length : Int)) = false := decide_eq_false (by omega)
        clear hq
        go_wp2_with (first | (refine wpList_storeB (t := 30) rfl _ _ rfl _ rfl _ rfl r2 (by kernel_rfl) rfl (by simp [Value.oneCell']) ?_; have r2o := r2; clear r2; intro wn ht hcn hzn; replace rs := rs.chg r2o (by simp) hcn; have hsz := B.size; replace hzn := Nat.le_of_eq hzn.symm; replace B := Chg.below B hcn (by omega) B.size; (try replace r3 := r3.of_eq (hcn.block _ r3.lt (by omega))); (try replace q5 := q5.of_eq (hcn.block _ q5.lt (by omega))); (try replace g6 := g6.of_eq (hcn.block _ g6.lt (by omega))); have r2 := ht; clear ht; simp only [Act.put, putS]) | (refine wpList_loadAny (t := 30) rfl _ rfl _ _ _ rfl (run_load_B r3 Tryz.isAgg30 (by kernel_rfl)) (by rfl) ?_; simp only [Act.put, putS]) | fail)
        refine bodyPost_ret (results_B (t := 30) rfl _ _ (b_r2) rfl r2 Tryz.isAgg30 (by kernel_rfl)) rfl ?_
        exact ⟨_, rfl, by rw [← E.out]; exact rs, B⟩
end Go.Proofs.YtppccnjckiedlaaGreatDoor
/- Stores into a row of tiles at positions. -/
namespace Go.Proofs.YtppccnjckiedlaaGreatDoor
open Go.RowKit Go.Shelf Pl
set_option linter.unusedVariables false
set_option linter.unusedSimpArgs false
set_option maxRecDepth 20000

theorem aT_set (ls : List TA) (i k : Nat) (e : TA) (hi : i < ls.length) : aT (ls.set i e) k = if k = i then e else aT ls k := by
  unfold aT
  rw [List.getD_eq_getElem?_getD, List.getD_eq_getElem?_getD, List.getElem?_set]
  by_cases h : i = k
  · subst h; simp [hi]
  · rw [if_neg h, if_neg (Ne.symm h)]
theorem sz_setCells (b : Nat) : ∀ (vs : List Value) (o : Nat) (w : World), (w.setCells b o vs).heap.size = w.heap.size
  | [], _, _ => rfl
  | v :: r, o, w => by
    show ((w.setCell ⟨b, o, none⟩ v).setCells b (o + 1) r).heap.size = _
    rw [sz_setCells b r, World.size_setCell]
theorem RCells.put {g o i s : Nat} {ls : List TA} {w : World} {vs : List Value} (h : RCells g o ls w) (e' : TA) (hi : i < ls.length) (hs : s + vs.length ≤ 258)
    (he : ∀ j, j < 258 → (taC e')[j]? = if s ≤ j ∧ j < s + vs.length then vs[j - s]? else (taC (aT ls i))[j]?) : RCells g o (ls.set i e') (w.setCells g (o + i * 258 + s) vs) := by
  refine ⟨by rw [sz_setCells]; exact h.1, fun k hk j hj => ?_⟩
  rw [List.length_set] at hk
  rw [aT_set ls i k e' hi]
  have hsome : ∀ j, j < vs.length → (w.cell? ⟨g, o + i * 258 + s + j, none⟩).isSome = true := fun j hj => by
    have := h.2 i hi (s + j) (by omega)
    rw [show o + i * 258 + s + j = o + (i * 258 + (s + j)) by omega, this, Array.getElem?_eq_getElem (by rw [size_taC]; omega)]
    rfl
  by_cases hki : k = i
  · subst hki
    rw [if_pos rfl, he j hj]
    by_cases hj2 : s ≤ j ∧ j < s + vs.length
    · rw [if_pos hj2, show o + (k * 258 + j) = o + k * 258 + s + (j - s) by omega, World.cell?_setCells_in g vs _ w hsome (j - s) (by omega), List.getElem?_eq_getElem]
    · rw [if_neg hj2, World.cell?_setCells_out g vs _ w _ (fun _ _ => by show o + (k * 258 + j) < o + k * 258 + s ∨ o + k * 258 + s + vs.length ≤ o + (k * 258 + j); omega)]
      exact h.2 k hk j hj
  · rw [if_neg hki, World.cell?_setCells_out g vs _ w _ (fun _ _ => by
      show o + (k * 258 + j) < o + i * 258 + s ∨ o + i * 258 + s + vs.length ≤ o + (k * 258 + j)
      rcases Nat.lt_or_gt_of_ne hki with hh | hh
      · left; have : (k + 1) * 258 ≤ i * 258 := Nat.mul_le_mul_right _ hh; omega
      · right; have : (i + 1) * 258 ≤ k * 258 := Nat.mul_le_mul_right _ hh; omega)]
    exact h.2 k hk j hj
/-- An owned row of tiles: its cells may be written. -/
theorem OwnT.row {B : Nat} {v : Value} {ls : List TA} {w : World} (h : OwnT B v ls w) (hl : 0 < ls.length) : ∃ g c, v = .slice (some ⟨g, 0, none⟩) ls.length c ∧ B ≤ g ∧ RCells g 0 ls w ∧ ∀ j, w.frozen? ⟨g, j, none⟩ = false := by
  have hr := h.rs
  obtain ⟨h1, h2⟩ := h
  rcases h2 with ⟨rfl, h0⟩ | ⟨g, cap, cur, rfl, hb, hg, hn, hm, hs, ht⟩
  · exact absurd hl (by omega)
  · obtain ⟨g', o', e, rc⟩ := hr.at hl
    injection e with e
    injection e with e1 e2
    subst e1; subst e2
    exact ⟨g, cap, rfl, hb, rc, fun j => AtB.frozen (t := 39) hg j⟩
theorem RCells.there {g o : Nat} {ls : List TA} {w : World} (h : RCells g o ls w) (hf : ∀ j, w.frozen? ⟨g, j, none⟩ = false) {i s n : Nat} (hi : i < ls.length) (hs : s + n ≤ 258) : w.there g (o + i * 258 + s) n := fun j hj => by
  refine ⟨?_, hf _⟩
  have := h.2 i hi (s + j) (by omega)
  rw [show o + i * 258 + s + j = o + (i * 258 + (s + j)) by omega, this, Array.getElem?_eq_getElem (by rw [size_taC]; omega)]
  rfl
theorem setCells_chg (g o : Nat) (vs : List Value) (w : World) : Chg g w (w.setCells g o vs) := by
  induction vs generalizing o w with
  | nil => exact Chg.refl g w
  | cons v r ih =>
    show Chg g w ((w.setCell ⟨g, o, none⟩ v).setCells g (o + 1) r)
    exact ((Chg.refl g w).setCell _).trans (ih (o + 1) _)
section
variable {ops : Array Oper} {rest : List Oper} {o : Oper} {a : Act} {w : World} {Q : Exit → Act → World → Prop} {ls : List TA} {g : Nat}
/-- A part of an element of an owned row is stored. -/
theorem wpList_storeEl {t : TypeId} (hg : o.guard = none) (x y : Operand) (ho : o.op = .store t x y) (off : Nat) (hx : a.eval x = .pointer (some ⟨g, off, none⟩)) (cells : Array Value) (hy : a.eval y = .agg cells)
    (rc : RCells g 0 ls w) (hf : ∀ j, w.frozen? ⟨g, j, none⟩ = false) (i s : Nat) (hi : i < ls.length) (hoff : off = 0 + i * 258 + s) (hs : s + cells.size ≤ 258) (hinfo : (Tryz.prog.info? t).map (·.size) = some cells.size) (h1 : cells.all (·.oneCell') = true)
    (e' : TA) (he : ∀ j, j < 258 → (taC e')[j]? = if s ≤ j ∧ j < s + cells.toList.length then cells.toList[j - s]? else (taC (aT ls i))[j]?)
    (h : ∀ w', RCells g 0 (ls.set i e') w' → Chg g w w' → w'.heap.size = w.heap.size → wpList Tryz.prog ops Q rest (a.put o.dst undef) w') : wpList Tryz.prog ops Q (o :: rest) a w := by
  subst hoff
  refine wpList_store_mid hg t x y ho g _ cells hx hy (rc.there hf hi hs) hinfo h1 ?_
  exact h _ (rc.put e' hi (by rw [Array.length_toList]; exact hs) he) (setCells_chg _ _ _ _) (sz_setCells _ _ _ _)
theorem taC_at3 (e : TA) (j : Nat) : (taC e)[j]? = if j = 0 then some (.int .i64 e.x) else if j = 1 then some (.int .i64 e.y) else (tileC e.t)[j - 2]? := by
  match j with
  | 0 => exact taC_x e
  | 1 => exact taC_y e
  | j + 2 =>
    rw [if_neg (by omega), if_neg (by omega), Nat.add_comm j 2, Nat.add_sub_cancel_left]
    exact taC_t e j
theorem wpList_storePos (hg : o.guard = none) (x y : Operand) (ho : o.op = .store 24 x y) (off : Nat) (hx : a.eval x = .pointer (some ⟨g, off, none⟩)) (m n : Int) (hy : a.eval y = .agg #[.int .i64 m, .int .i64 n])
    (rc : RCells g 0 ls w) (hf : ∀ j, w.frozen? ⟨g, j, none⟩ = false) (i : Nat) (hi : i < ls.length) (hoff : off = i * 258)
    (h : ∀ w', RCells g 0 (ls.set i ⟨m, n, (aT ls i).t⟩) w' → Chg g w w' → w'.heap.size = w.heap.size → wpList Tryz.prog ops Q rest (a.put o.dst undef) w') : wpList Tryz.prog ops Q (o :: rest) a w := by
  refine wpList_storeEl hg x y ho off hx _ hy rc hf i 0 hi (by omega) (by simp) (by kernel_rfl) (by simp [Value.oneCell']) ⟨m, n, (aT ls i).t⟩ (fun j hj => ?_) h
  match j with
  | 0 => rw [taC_at3]; rfl
  | 1 => rw [taC_at3]; rfl
  | j + 2 => rw [if_neg (by simp), taC_at3, taC_at3, if_neg (by omega), if_neg (by omega), if_neg (by omega), if_neg (by omega)]
theorem wpList_storeTl (hg : o.guard = none) (x y : Operand) (ho : o.op = .store 37 x y) (off : Nat) (hx : a.eval x = .pointer (some ⟨g, off, none⟩)) (f : Nat → Px) (hy : a.eval y = Tile.v f)
    (rc : RCells g 0 ls w) (hf : ∀ j, w.frozen? ⟨g, j, none⟩ = false) (i : Nat) (hi : i < ls.length) (hoff : off = i * 258 + 2)
    (h : ∀ w', RCells g 0 (ls.set i ⟨(aT ls i).x, (aT ls i).y, f⟩) w' → Chg g w w' → w'.heap.size = w.heap.size → wpList Tryz.prog ops Q rest (a.put o.dst undef) w') : wpList Tryz.prog ops Q (o :: rest) a w := by
  refine wpList_storeEl hg x y ho off hx (tileC f) hy rc hf i 2 hi (by omega) (by rw [size_tileC]; omega) (tile_size f) (tile_oneCell f) ⟨(aT ls i).x, (aT ls i).y, f⟩ (fun j hj => ?_) h
  match j with
  | 0 => rw [if_neg (by omega), taC_at3, taC_at3]; rfl
  | 1 => rw [if_neg (by omega), taC_at3, taC_at3]; rfl
  | j + 2 => rw [if_pos (by rw [Array.length_toList, size_tileC]; omega), taC_at3, if_neg (by omega), if_neg (by omega), Array.getElem?_toList]
end
end Go.Proofs.YtppccnjckiedlaaGreatDoor
/- Contract of `of` of the law package of rasters. -/
namespace Go.Proofs.YtppccnjckiedlaaGreatDoor
open Go.RowKit Go.Shelf Pl
set_option linter.unusedVariables false
set_option linter.unusedSimpArgs false
set_option maxRecDepth 20000

/-- What Raw describes (its two slices aside). -/
structure RawQ where
  at_ : Int
  px : Int
  py : Int
  how : Int
def ninT (t : Nat → Px) : Nat → Px := upd t 5 ⟨9, (t 5).g, (t 5).b, (t 5).a⟩
def turnA (q : RawQ) (T : List Int) (e : TA) : TA :=
  if q.how % 8 = 1 then ⟨q.px, q.py, e.t⟩ else if q.how % 8 = 2 then ⟨e.x, e.y, madeT T⟩ else if q.how % 8 = 3 then ⟨e.x, e.y, ninT e.t⟩ else e
def ofI (q : RawQ) (n : Nat) : Nat := (q.at_ % 65536).toNat % n
def ofR (q : RawQ) (T : List Int) (r : List TA) : List TA :=
  if r.length = 0 then r else if q.how % 8 = 4 then r ++ [aT r (ofI q r.length)] else r.set (ofI q r.length) (turnA q T (aT r (ofI q r.length)))
def ofRL (q : RawQ) (L T : List Int) : List TA := ofR q T (madeL L)
theorem ninT_tok {t : Nat → Px} (h : Tok t) : Tok (ninT t) := fun i hi => by
  unfold ninT upd
  split
  · have := h 5 (by omega)
    obtain ⟨_, h2, h3, h4⟩ := this
    exact ⟨⟨by simp, by simp⟩, h2, h3, h4⟩
  · exact h i hi
theorem turnA_tok (q : RawQ) (T : List Int) {e : TA} (h : Tok e.t) : Tok (turnA q T e).t := by
  unfold turnA
  split
  · exact h
  · split
    · exact madeT_tok T
    · split
      · exact ninT_tok h
      · exact h
theorem ofI_lt (q : RawQ) {n : Nat} (h : 0 < n) : ofI q n < n := Nat.mod_lt _ h
theorem ofR_tok (q : RawQ) (T : List Int) {r : List TA} (h : TokL r) : TokL (ofR q T r) := by
  unfold ofR
  split
  · exact h
  · rename_i h0
    have hi := ofI_lt q (n := r.length) (by omega)
    split
    · exact h.append fun e he => by rw [List.mem_singleton.1 he]; exact h.at hi
    · intro e he
      rcases List.mem_or_eq_of_mem_set he with he | rfl
      · exact h e he
      · exact turnA_tok q T (h.at hi)
theorem madeL_tok (L : List Int) : TokL (madeL L) := madeK_tok L 40
theorem madeL_valid (L : List Int) : validL (madeL L) = true := madeK_valid L 40
theorem madeL_len (L : List Int) : (madeL L).length ≤ 1024 := madeK_len L 40
theorem ofL_tok (q : RawQ) (L T : List Int) : TokL (ofRL q L T) := ofR_tok q T (madeL_tok L)
theorem ofL_len (q : RawQ) (L T : List Int) : (ofRL q L T).length ≤ 1025 := by
  have := madeL_len L
  unfold ofRL ofR
  split
  · omega
  · split
    · rw [List.length_append]; simp; omega
    · rw [List.length_set]; omega
theorem run_load_sli {w : World} {b j : Nat} {v : Value} (h : w.cell? ⟨b, j, none⟩ = some v) : (Instr.loadAt 22 (.pointer (some ⟨b, j, none⟩))).run Tryz.prog w = .ok v w := by
  simp [go_sem, h]
theorem run_load_ps {w : World} {b j : Nat} {x y : Int} (h : w.cell? ⟨b, j, none⟩ = some (.int .i64 x)) (h' : w.cell? ⟨b, j + 1, none⟩ = some (.int .i64 y)) : (Instr.loadAt 24 (.pointer (some ⟨b, j, none⟩))).run Tryz.prog w = .ok (.agg #[.int .i64 x, .int .i64 y]) w := by
  simp [go_sem, h, h']
theorem R_Made8O (v : Value) (L : List Int) (w : World) (h : RSE inE v L w) (hn : L.length ≤ 17592186044416) : Calls Tryz.prog 6 #[v] w fun e w' => ∃ a c, e = .returned (.agg #[.slice a (madeL L).length c]) ∧ RS (.slice a (madeL L).length c) (madeL L) w' ∧ Below w.heap.size w w' :=
  (R_Made8 v L w h hn).mono fun e w' ⟨v', he, hr, hb⟩ => by
    obtain ⟨a, c, rfl, _⟩ := hr.len
    exact ⟨a, c, he, hr, hb⟩
theorem nin_cells (e : TA) (j : Nat) (hj : j < 258) : (taC ⟨e.x, e.y, ninT e.t⟩)[j]? = if 22 ≤ j ∧ j < 22 + [Value.int .u8 9].length then [Value.int .u8 9][j - 22]? else (taC e)[j]? := by
  by_cases h : j = 22
  · subst h
    rw [if_pos (by simp), taC_at3, if_neg (by omega), if_neg (by omega), get_tileC, if_pos (by omega)]
    rfl
  · rw [if_neg (by simp; omega), taC_at3, taC_at3]
    simp only
    split
    · rfl
    · split
      · rfl
      · rw [get_tileC, get_tileC, if_pos (by omega), if_pos (by omega)]
        by_cases h5 : (j - 2) / 4 = 5
        · have : (j - 2) % 4 = 1 ∨ (j - 2) % 4 = 2 ∨ (j - 2) % 4 = 3 := by omega
          rw [h5]
          rcases this with e' | e' | e' <;> rw [e'] <;> rfl
        · show some (pxC (ninT e.t ((j - 2) / 4)) _) = _
          unfold ninT upd
          rw [if_neg h5]
theorem wpList_storeNin {ops : Array Oper} {rest : List Oper} {o : Oper} {a : Act} {w : World} {Q : Exit → Act → World → Prop} {ls : List TA} {g : Nat} (hg : o.guard = none) (x y : Operand) (ho : o.op = .store 5 x y) (off : Nat) (hx : a.eval x = .pointer (some ⟨g, off, none⟩)) (hy : a.eval y = .int .u8 9)
    (rc : RCells g 0 ls w) (hf : ∀ j, w.frozen? ⟨g, j, none⟩ = false) (i : Nat) (hi : i < ls.length) (hoff : off = 0 + i * 258 + 22)
    (h : ∀ w', RCells g 0 (ls.set i ⟨(aT ls i).x, (aT ls i).y, ninT (aT ls i).t⟩) w' → Chg g w w' → w'.heap.size = w.heap.size → wpList Tryz.prog ops Q rest (a.put o.dst undef) w') : wpList Tryz.prog ops Q (o :: rest) a w := by
  subst hoff
  refine wpList_storeAny hg x y ho (w.setCells g (0 + i * 258 + 22) [.int .u8 9]) ?_ (h _ (rc.put _ hi (by simp) (nin_cells (aT ls i))) (setCells_chg _ _ _ _) (sz_setCells _ _ _ _))
  rw [hx, hy]
  have hc := (rc.there hf hi (s := 22) (n := 1) (by omega)) 0 (by omega)
  rw [Nat.add_zero] at hc
  obtain ⟨u, hu⟩ := Option.isSome_iff_exists.1 hc.1
  have hff := hc.2
  show _ = Result.ok () (w.setCell ⟨g, 0 + i * 258 + 22, none⟩ (.int .u8 9))
  simp only [Nat.zero_add] at hu hff ⊢
  simp [go_sem, hu, hff]
end Go.Proofs.YtppccnjckiedlaaGreatDoor
/- Contract of `of` of the law package of rasters: the walk. -/
namespace Go.Proofs.YtppccnjckiedlaaGreatDoor
open Go.RowKit Go.Shelf Pl
set_option linter.unusedVariables false
set_option linter.unusedSimpArgs false
set_option maxRecDepth 20000

theorem OwnT.frz {B g c : Nat} {ls : List TA} {w : World} (h : OwnT B (.slice (some ⟨g, 0, none⟩) ls.length c) ls w) (hl : 0 < ls.length) : ∀ j, w.frozen? ⟨g, j, none⟩ = false := by
  obtain ⟨g', c', e, _, _, hf⟩ := h.row hl
  injection e with e
  injection e with e
  injection e with e1
  subst e1
  exact hf
set_option maxHeartbeats 2000000 in
theorem L_of0 (q : RawQ) (vL vT : Value) (T : List Int) (r : List TA) (w : World) (hr : r.length ≤ 1024) (hT : RSE inE vT T w) (hTn : T.length ≤ 17592186044416)
    (hMD : ∀ w', Below w.heap.size w w' → Calls Tryz.prog 6 #[vL] w' fun e w'' => ∃ a c, e = .returned (.agg #[.slice a r.length c]) ∧ RS (.slice a r.length c) r w'' ∧ Below w'.heap.size w' w'') :
    Calls Tryz.prog 5 #[.agg #[vL, .int .i64 q.at_, .int .i64 q.px, .int .i64 q.py, vT, .int .i64 q.how]] w fun e w' => ∃ v', e = .returned (.agg #[v']) ∧ RS v' (ofR q T r) w' ∧ Below w.heap.size w w' := by
  have B := Below.refl w.heap.size w
  have MD := Lib.hid hMD
  have HT := Lib.hid hT
  clear hMD hT
  by_cases h0 : r.length = 0
  · obtain rfl := List.eq_nil_of_length_eq_zero h0
    have E := Lib.hid (show ofR q T [] = [] by unfold ofR; rw [if_pos h0])
    go_enter Tryz.func5, Tryz.ntmps5
    go_wp2_with (first | (refine wpList_storeB (t := 30) rfl _ _ rfl _ rfl _ rfl r2 (by kernel_rfl) rfl (by simp [Value.oneCell']) ?_; have r2o := r2; clear r2; intro wn ht hcn hzn; (try replace rs1 := rs1.chg r2o (by simp) hcn); have hsz := B.size; replace hzn := Nat.le_of_eq hzn.symm; replace B := Chg.below B hcn (by omega) B.size; (try replace q1 := q1.of_eq (hcn.block _ q1.lt (by omega))); (try replace r3 := r3.of_eq (hcn.block _ r3.lt (by omega))); (try replace rc := rc.of_eq (hcn.block _ rc.lt (by omega))); have r2 := ht; clear ht; simp only [Act.put, putS]) | (refine wpList_loadAny (t := 30) rfl _ rfl _ _ _ rfl (run_load_B r3 Tryz.isAgg30 (by kernel_rfl)) (by rfl) ?_; simp only [Act.put, putS]) | (refine wpList_loadAny (t := 28) rfl _ rfl _ _ _ rfl (run_load_sl r3.cell0) (by rfl) ?_; simp only [Act.put, putS]) | (refine wpList_loadAny (t := 22) rfl _ rfl _ _ _ rfl (run_load_sli (q1.cell 0 rfl)) (by rfl) ?_; simp only [Act.put, putS]) | (go_at_call 6; refine (MD.out _ B).mono ?_; rintro e wn ⟨a1, c1, rfl, rs1, hbn⟩; have hsz := B.size; have hzn := hbn.size; replace B := B.trans (hbn.mono B.size); (try first | replace q1 := q1.of_eq (hbn.block _ q1.lt) | replace q1 := q1.below hbn); (try first | replace r2 := r2.of_eq (hbn.block _ r2.lt) | replace r2 := r2.below hbn); (try first | replace r3 := r3.of_eq (hbn.block _ r3.lt) | replace r3 := r3.below hbn)) | (refine wpList_storeB (t := 30) rfl _ _ rfl _ rfl _ rfl r3 (by kernel_rfl) rfl (by simp [Value.oneCell']) ?_; have r3o := r3; clear r3; intro wn ht hcn hzn; (try replace rs1 := rs1.chg r3o (by simp) hcn); have hsz := B.size; replace hzn := Nat.le_of_eq hzn.symm; replace B := Chg.below B hcn (by omega) B.size; (try replace q1 := q1.of_eq (hcn.block _ q1.lt (by omega))); (try replace r2 := r2.of_eq (hcn.block _ r2.lt (by omega))); have r3 := ht; clear ht; simp only [Act.put, putS]) | (have _ := rs1; refine wpList_allocBk (t := 30) rfl _ (run_alloc_R _ _ rfl) ?_; intro b_r3 wn hle hge ht hbn hzn; have hsz := B.size; replace B := B.trans (hbn.mono (by omega)); have hln := Nat.lt_of_lt_of_eq (Nat.lt_succ_self _) hzn.symm; clear hzn; (try first | (have hlt := q1.lt; replace q1 := q1.of_eq (hbn.block _ (by omega))) | replace q1 := q1.below (hbn.mono hle)); (try first | (have hlt := r2.lt; replace r2 := r2.of_eq (hbn.block _ (by omega))) | replace r2 := r2.below (hbn.mono hle)); (try first | (have hlt := r3.lt; replace r3 := r3.of_eq (hbn.block _ (by omega))) | replace r3 := r3.below (hbn.mono hle)); (try first | (have hlt := rs1.lt; replace rs1 := rs1.of_eq (hbn.block _ (by omega))) | replace rs1 := rs1.below (hbn.mono hle)); have r3 := ht; clear ht; simp only [Act.put, putS]) | (have _ := q1; refine wpList_allocBk (t := 30) rfl _ (run_alloc_R _ _ rfl) ?_; intro b_r2 wn hle hge ht hbn hzn; have hsz := B.size; replace B := B.trans (hbn.mono (by omega)); have hln := Nat.lt_of_lt_of_eq (Nat.lt_succ_self _) hzn.symm; clear hzn; (try first | (have hlt := q1.lt; replace q1 := q1.of_eq (hbn.block _ (by omega))) | replace q1 := q1.below (hbn.mono hle)); (try first | (have hlt := r2.lt; replace r2 := r2.of_eq (hbn.block _ (by omega))) | replace r2 := r2.below (hbn.mono hle)); (try first | (have hlt := r3.lt; replace r3 := r3.of_eq (hbn.block _ (by omega))) | replace r3 := r3.below (hbn.mono hle)); have r2 := ht; clear ht; simp only [Act.put, putS]) | (refine wpList_boxB (t := 26) rfl _ rfl _ rfl ?_; intro b_q1 wn hle hge ht hbn hzn; have hsz := B.size; replace B := B.trans (hbn.mono (by omega)); have hln := Nat.lt_of_lt_of_eq (Nat.lt_succ_self _) hzn.symm; clear hzn; (try first | (have hlt := q1.lt; replace q1 := q1.of_eq (hbn.block _ (by omega))) | replace q1 := q1.below (hbn.mono hle)); (try first | (have hlt := r2.lt; replace r2 := r2.of_eq (hbn.block _ (by omega))) | replace r2 := r2.below (hbn.mono hle)); (try first | (have hlt := r3.lt; replace r3 := r3.of_eq (hbn.block _ (by omega))) | replace r3 := r3.below (hbn.mono hle)); have q1 := ht; clear ht; simp only [Act.put, putS]) | fail)
    refine bodyPost_ret (results_B (t := 30) rfl _ _ (b_r2) rfl r2 Tryz.isAgg30 (by kernel_rfl)) rfl ?_
    exact ⟨_, rfl, by rw [E.out]; exact rs1, B⟩
  · have hi := ofI_lt q (n := r.length) (by omega)
    obtain ⟨m, hm⟩ : ∃ m : Nat, q.at_ % 65536 = (m : Int) := ⟨(q.at_ % 65536).toNat, by omega⟩
    have hm2 : m < 65536 := by omega
    have hmi : m % r.length = ofI q r.length := by unfold ofI; rw [hm]; rfl
    have b4 := bits_and65535 q.at_
    rw [hm] at b4
    have b7 := bits_and7 q.how
    have HI := Lib.hid hmi
    clear hm hmi
    go_enter Tryz.func5, Tryz.ntmps5
    go_upto_region 6 with (first | (at_builtin; refine wpList_appendT rfl _ _ rfl _ _ rfl rfl od (rs1) (by simp only [List.length_nil]; omega) (by omega) ?_; intro v_od wn ht hbn; have hsz := B.size; have hzn := hbn.size; replace B := B.trans (hbn.mono (by omega)); clear od; (try replace q1 := q1.of_eq (hbn.block _ (by omega))); (try replace r2 := r2.of_eq (hbn.block _ (by omega))); (try replace r3 := r3.of_eq (hbn.block _ (by omega))); (try replace rs1 := rs1.of_eq (hbn.block _ (by omega))); have od := ht; clear ht; simp only [Act.put, putS]) | (refine wpList_bsET rfl rfl ?_; intro b_od wn hle hge ht hbn hzn; have hsz := B.size; replace B := B.trans (hbn.mono (by omega)); have od := ht; clear ht; (try first | (have hlt := q1.lt; replace q1 := q1.of_eq (hbn.block _ (by omega))) | replace q1 := q1.below (hbn.mono hle)); (try first | (have hlt := r2.lt; replace r2 := r2.of_eq (hbn.block _ (by omega))) | replace r2 := r2.below (hbn.mono hle)); (try first | (have hlt := r3.lt; replace r3 := r3.of_eq (hbn.block _ (by omega))) | replace r3 := r3.below (hbn.mono hle)); (try first | (have hlt := rs1.lt; replace rs1 := rs1.of_eq (hbn.block _ (by omega))) | replace rs1 := rs1.below (hbn.mono hle)); simp only [Act.put, putS]) | (refine wpList_loadAny (t := 3) rfl _ rfl _ _ _ rfl (run_load_int (q1.cell 1 rfl)) (by rfl) ?_; simp only [Act.put, putS]) | (refine wpList_loadAny (t := 28) rfl _ rfl _ _ _ rfl (run_load_sl r3.cell0) (by rfl) ?_; simp only [Act.put, putS]) | (refine wpList_loadAny (t := 22) rfl _ rfl _ _ _ rfl (run_load_sli (q1.cell 0 rfl)) (by rfl) ?_; simp only [Act.put, putS]) | (go_at_call 6; refine (MD.out _ B).mono ?_; rintro e wn ⟨a1, c1, rfl, rs1, hbn⟩; have hsz := B.size; have hzn := hbn.size; replace B := B.trans (hbn.mono B.size); (try first | replace q1 := q1.of_eq (hbn.block _ q1.lt) | replace q1 := q1.below hbn); (try first | replace r2 := r2.of_eq (hbn.block _ r2.lt) | replace r2 := r2.below hbn); (try first | replace r3 := r3.of_eq (hbn.block _ r3.lt) | replace r3 := r3.below hbn)) | (refine wpList_storeB (t := 30) rfl _ _ rfl _ rfl _ rfl r3 (by kernel_rfl) rfl (by simp [Value.oneCell']) ?_; have r3o := r3; clear r3; intro wn ht hcn hzn; (try replace rs1 := rs1.chg r3o (by simp) hcn); have hsz := B.size; replace hzn := Nat.le_of_eq hzn.symm; replace B := Chg.below B hcn (by omega) B.size; (try replace q1 := q1.of_eq (hcn.block _ q1.lt (by omega))); (try replace r2 := r2.of_eq (hcn.block _ r2.lt (by omega))); have r3 := ht; clear ht; simp only [Act.put, putS]) | (have _ := rs1; refine wpList_allocBk (t := 30) rfl _ (run_alloc_R _ _ rfl) ?_; intro b_r3 wn hle hge ht hbn hzn; have hsz := B.size; replace B := B.trans (hbn.mono (by omega)); have hln := Nat.lt_of_lt_of_eq (Nat.lt_succ_self _) hzn.symm; clear hzn; (try first | (have hlt := q1.lt; replace q1 := q1.of_eq (hbn.block _ (by omega))) | replace q1 := q1.below (hbn.mono hle)); (try first | (have hlt := r2.lt; replace r2 := r2.of_eq (hbn.block _ (by omega))) | replace r2 := r2.below (hbn.mono hle)); (try first | (have hlt := r3.lt; replace r3 := r3.of_eq (hbn.block _ (by omega))) | replace r3 := r3.below (hbn.mono hle)); (try first | (have hlt := rs1.lt; replace rs1 := rs1.of_eq (hbn.block _ (by omega))) | replace rs1 := rs1.below (hbn.mono hle)); have r3 := ht; clear ht; simp only [Act.put, putS]) | (have _ := q1; refine wpList_allocBk (t := 30) rfl _ (run_alloc_R _ _ rfl) ?_; intro b_r2 wn hle hge ht hbn hzn; have hsz := B.size; replace B := B.trans (hbn.mono (by omega)); have hln := Nat.lt_of_lt_of_eq (Nat.lt_succ_self _) hzn.symm; clear hzn; (try first | (have hlt := q1.lt; replace q1 := q1.of_eq (hbn.block _ (by omega))) | replace q1 := q1.below (hbn.mono hle)); (try first | (have hlt := r2.lt; replace r2 := r2.of_eq (hbn.block _ (by omega))) | replace r2 := r2.below (hbn.mono hle)); (try first | (have hlt := r3.lt; replace r3 := r3.of_eq (hbn.block _ (by omega))) | replace r3 := r3.below (hbn.mono hle)); have r2 := ht; clear ht; simp only [Act.put, putS]) | (refine wpList_boxB (t := 26) rfl _ rfl _ rfl ?_; intro b_q1 wn hle hge ht hbn hzn; have hsz := B.size; replace B := B.trans (hbn.mono (by omega)); have hln := Nat.lt_of_lt_of_eq (Nat.lt_succ_self _) hzn.symm; clear hzn; (try first | (have hlt := q1.lt; replace q1 := q1.of_eq (hbn.block _ (by omega))) | replace q1 := q1.below (hbn.mono hle)); (try first | (have hlt := r2.lt; replace r2 := r2.of_eq (hbn.block _ (by omega))) | replace r2 := r2.below (hbn.mono hle)); (try first | (have hlt := r3.lt; replace r3 := r3.of_eq (hbn.block _ (by omega))) | replace r3 := r3.below (hbn.mono hle)); have q1 := ht; clear ht; simp only [Act.put, putS]) | fail)
    have hx : (m : Int) % (r.length : Int) = ((ofI q r.length : Nat) : Int) := by rw [← HI.out]; rfl
    rw [hx]
    clear hx
    obtain ⟨i, hie⟩ : ∃ i, ofI q r.length = i := ⟨_, rfl⟩
    rw [hie] at hi ⊢
    have HIE := Lib.hid hie
    clear hie
    rw [List.nil_append] at od
    obtain ⟨g, cg, rfl, hBg, rc, hf⟩ := od.row (by omega)
    have HF := Lib.hid hf
    clear hf
    have hcg : r.length ≤ cg := by
      obtain ⟨_, _, e, hh⟩ := od.len
      injection e with _ _ e3
      omega
    have hod := b_od
    have q8 : 0 ≤ q.how % 8 ∧ q.how % 8 < 8 := by omega
    have RES : Hid (∀ (ks : List TA) (wx : World), ks.length = r.length → RCells g 0 ks wx → RS (.slice (some ⟨g, 0, none⟩) r.length cg) ks wx) := Lib.hid fun ks wx e rcx => .inr ⟨g, 0, cg, by rw [e], by omega, fun _ => rcx⟩
    by_cases h1 : q.how % 8 = 1
    · have E := Lib.hid (show ofR q T r = r.set i (turnA q T (aT r i)) by unfold ofR; rw [if_neg h0, if_neg (by omega), HIE.out])
      have E2 := Lib.hid (show turnA q T (aT r i) = ⟨q.px, q.py, (aT r i).t⟩ by unfold turnA; rw [if_pos h1])
      rw [h1] at b7
      go_wp2_with (first | (refine wpList_storeB (t := 30) rfl _ _ rfl _ rfl _ rfl r2 (by kernel_rfl) rfl (by simp [Value.oneCell']) ?_; have r2o := r2; clear r2; intro wn ht hcn hzn; (try replace rs1 := rs1.chg r2o (by simp) hcn); have hsz := B.size; replace hzn := Nat.le_of_eq hzn.symm; replace B := Chg.below B hcn (by omega) B.size; (try replace q1 := q1.of_eq (hcn.block _ q1.lt (by omega))); (try replace r3 := r3.of_eq (hcn.block _ r3.lt (by omega))); (try replace rc := rc.of_eq (hcn.block _ rc.lt (by omega))); have r2 := ht; clear ht; simp only [Act.put, putS]) | (refine wpList_storePos rfl _ _ rfl _ rfl _ _ rfl rc HF.out i hi (by first | with_reducible rfl | omega) ?_; clear rc; intro wn ht hcn hzn; have hsz := B.size; replace hzn := Nat.le_of_eq hzn.symm; replace B := Chg.below B hcn (by omega) B.size; (try replace q1 := q1.of_eq (hcn.block _ q1.lt (by omega))); (try replace r2 := r2.of_eq (hcn.block _ r2.lt (by omega))); (try replace r3 := r3.of_eq (hcn.block _ r3.lt (by omega))); have rc := ht; clear ht; simp only [Act.put, putS]) | (refine wpList_loadAny (t := 24) rfl _ rfl _ _ _ rfl (run_load_ps (q1.cell 2 rfl) (q1.cell 3 rfl)) (by rfl) ?_; simp only [Act.put, putS]) | (refine wpList_loadAny (t := 3) rfl _ rfl _ _ _ rfl (run_load_int (q1.cell 5 rfl)) (by rfl) ?_; simp only [Act.put, putS]) | fail)
      refine bodyPost_ret (results_B (t := 30) rfl _ _ (b_r2) rfl r2 Tryz.isAgg30 (by kernel_rfl)) rfl ?_
      exact ⟨_, rfl, by rw [E.out, E2.out]; exact RES.out _ _ (List.length_set ..) rc, B⟩
    by_cases h2 : q.how % 8 = 2
    · have E := Lib.hid (show ofR q T r = r.set i (turnA q T (aT r i)) by unfold ofR; rw [if_neg h0, if_neg (by omega), HIE.out])
      have E2 := Lib.hid (show turnA q T (aT r i) = ⟨(aT r i).x, (aT r i).y, madeT T⟩ by unfold turnA; rw [if_neg (by omega), if_pos h2])
      rw [h2] at b7
      go_wp2_with (first | (refine wpList_storeB (t := 30) rfl _ _ rfl _ rfl _ rfl r2 (by kernel_rfl) rfl (by simp [Value.oneCell']) ?_; have r2o := r2; clear r2; intro wn ht hcn hzn; (try replace rs1 := rs1.chg r2o (by simp) hcn); have hsz := B.size; replace hzn := Nat.le_of_eq hzn.symm; replace B := Chg.below B hcn (by omega) B.size; (try replace q1 := q1.of_eq (hcn.block _ q1.lt (by omega))); (try replace r3 := r3.of_eq (hcn.block _ r3.lt (by omega))); (try replace rc := rc.of_eq (hcn.block _ rc.lt (by omega))); have r2 := ht; clear ht; simp only [Act.put, putS]) | (refine wpList_storeTl rfl _ _ rfl _ rfl _ rfl rc HF.out i hi (by first | with_reducible rfl | omega) ?_; clear rc; intro wn ht hcn hzn; have hsz := B.size; replace hzn := Nat.le_of_eq hzn.symm; replace B := Chg.below B hcn (by omega) B.size; (try replace q1 := q1.of_eq (hcn.block _ q1.lt (by omega))); (try replace r2 := r2.of_eq (hcn.block _ r2.lt (by omega))); (try replace r3 := r3.of_eq (hcn.block _ r3.lt (by omega))); have rc := ht; clear ht; simp only [Act.put, putS]) | (go_at_call 21; refine (R_Made7 _ T _ (HT.out.below B) hTn).mono ?_; rintro e wn ⟨rfl, hbn⟩; have hsz := B.size; have hzn := hbn.size; replace B := B.trans (hbn.mono B.size); replace od := od.below hbn; have HF := Lib.hid (od.frz (by omega)); (try first | replace q1 := q1.of_eq (hbn.block _ q1.lt) | replace q1 := q1.below hbn); (try first | replace r2 := r2.of_eq (hbn.block _ r2.lt) | replace r2 := r2.below hbn); (try first | replace r3 := r3.of_eq (hbn.block _ r3.lt) | replace r3 := r3.below hbn); (try first | replace rc := rc.of_eq (hbn.block _ rc.lt) | replace rc := rc.below hbn)) | (refine wpList_loadAny (t := 22) rfl _ rfl _ _ _ rfl (run_load_sli (q1.cell 4 rfl)) (by rfl) ?_; simp only [Act.put, putS]) | (refine wpList_loadAny (t := 3) rfl _ rfl _ _ _ rfl (run_load_int (q1.cell 5 rfl)) (by rfl) ?_; simp only [Act.put, putS]) | fail)
      refine bodyPost_ret (results_B (t := 30) rfl _ _ (b_r2) rfl r2 Tryz.isAgg30 (by kernel_rfl)) rfl ?_
      exact ⟨_, rfl, by rw [E.out, E2.out]; exact RES.out _ _ (List.length_set ..) rc, B⟩
    by_cases h3 : q.how % 8 = 3
    · have E := Lib.hid (show ofR q T r = r.set i (turnA q T (aT r i)) by unfold ofR; rw [if_neg h0, if_neg (by omega), HIE.out])
      have E2 := Lib.hid (show turnA q T (aT r i) = ⟨(aT r i).x, (aT r i).y, ninT (aT r i).t⟩ by unfold turnA; rw [if_neg (by omega), if_neg (by omega), if_pos h3])
      rw [h3] at b7
      go_wp2_with (first | (refine wpList_storeB (t := 30) rfl _ _ rfl _ rfl _ rfl r2 (by kernel_rfl) rfl (by simp [Value.oneCell']) ?_; have r2o := r2; clear r2; intro wn ht hcn hzn; (try replace rs1 := rs1.chg r2o (by simp) hcn); have hsz := B.size; replace hzn := Nat.le_of_eq hzn.symm; replace B := Chg.below B hcn (by omega) B.size; (try replace q1 := q1.of_eq (hcn.block _ q1.lt (by omega))); (try replace r3 := r3.of_eq (hcn.block _ r3.lt (by omega))); (try replace rc := rc.of_eq (hcn.block _ rc.lt (by omega))); have r2 := ht; clear ht; simp only [Act.put, putS]) | (refine wpList_storeNin rfl _ _ rfl _ rfl rfl rc HF.out i hi (by first | with_reducible rfl | omega) ?_; clear rc; intro wn ht hcn hzn; have hsz := B.size; replace hzn := Nat.le_of_eq hzn.symm; replace B := Chg.below B hcn (by omega) B.size; (try replace q1 := q1.of_eq (hcn.block _ q1.lt (by omega))); (try replace r2 := r2.of_eq (hcn.block _ r2.lt (by omega))); (try replace r3 := r3.of_eq (hcn.block _ r3.lt (by omega))); have rc := ht; clear ht; simp only [Act.put, putS]) | (refine wpList_loadAny (t := 3) rfl _ rfl _ _ _ rfl (run_load_int (q1.cell 5 rfl)) (by rfl) ?_; simp only [Act.put, putS]) | fail)
      refine bodyPost_ret (results_B (t := 30) rfl _ _ (b_r2) rfl r2 Tryz.isAgg30 (by kernel_rfl)) rfl ?_
      exact ⟨_, rfl, by rw [E.out, E2.out]; exact RES.out _ _ (List.length_set ..) rc, B⟩
    by_cases h4 : q.how % 8 = 4
    · have E := Lib.hid (show ofR q T r = r ++ [aT r i] by unfold ofR; rw [if_neg h0, if_pos h4, HIE.out])
      rw [h4] at b7
      go_wp2_with (first | (refine wpList_storeB (t := 30) rfl _ _ rfl _ rfl _ rfl r2 (by kernel_rfl) rfl (by simp [Value.oneCell']) ?_; clear r2; intro wn ht hcn hzn; have hsz := B.size; replace hzn := Nat.le_of_eq hzn.symm; replace B := Chg.below B hcn (by omega) B.size; (try replace q1 := q1.of_eq (hcn.block _ q1.lt (by omega))); (try replace r3 := r3.of_eq (hcn.block _ r3.lt (by omega))); replace od := od.chg hcn (by omega); have r2 := ht; clear ht; simp only [Act.put, putS]) | (at_builtin; refine wpList_appendT rfl _ _ rfl _ _ rfl rfl od ((RS.one s1)) (by simp only [List.length_cons, List.length_nil]; omega) (by omega) ?_; intro v_od wn ht hbn; have hsz := B.size; have hzn := hbn.size; replace B := B.trans (hbn.mono (by omega)); clear od; (try replace q1 := q1.of_eq (hbn.block _ (by omega))); (try replace r2 := r2.of_eq (hbn.block _ (by omega))); (try replace r3 := r3.of_eq (hbn.block _ (by omega))); have od := ht; clear ht; obtain ⟨a_od, c_od, hv, hco⟩ := od.len; (try simp only [List.length_append, List.length_cons, List.length_nil, Nat.zero_add] at hv hco); subst hv; simp only [Act.put, putS]) | (refine wpList_bs1T rfl _ rfl (aT r i) (by rfl) ?_; intro b_s1 wn hle hge ht hbn hzn; have hsz := B.size; replace B := B.trans (hbn.mono (by omega)); have hln := Nat.lt_of_lt_of_eq (Nat.lt_succ_self _) hzn.symm; clear hzn; (try first | (have hlt := q1.lt; replace q1 := q1.of_eq (hbn.block _ (by omega))) | replace q1 := q1.below (hbn.mono hle)); (try first | (have hlt := r2.lt; replace r2 := r2.of_eq (hbn.block _ (by omega))) | replace r2 := r2.below (hbn.mono hle)); (try first | (have hlt := r3.lt; replace r3 := r3.of_eq (hbn.block _ (by omega))) | replace r3 := r3.below (hbn.mono hle)); (try first | (have hlt := od.lt; replace od := od.of_eq (hbn.block _ (by omega))) | replace od := od.below (hbn.mono hle)); (try first | (have hlt := rc.lt; replace rc := rc.of_eq (hbn.block _ (by omega))) | replace rc := rc.below (hbn.mono hle)); have s1 := ht; clear ht; simp only [Act.put, putS]) | (refine wpList_loadAny (t := 39) rfl _ rfl _ _ _ rfl (rc_ta rc hi rfl) (by first | with_reducible rfl | omega) ?_; simp only [Act.put, putS]) | (refine wpList_loadAny (t := 3) rfl _ rfl _ _ _ rfl (run_load_int (q1.cell 5 rfl)) (by rfl) ?_; simp only [Act.put, putS]) | fail)
      refine bodyPost_ret (results_B (t := 30) rfl _ _ (b_r2) rfl r2 Tryz.isAgg30 (by kernel_rfl)) rfl ?_
      exact ⟨_, rfl, by rw [E.out]; exact od.rs, B⟩
    · have E := Lib.hid (show ofR q T r = r by
        have hsame : r.set i (aT r i) = r := by
          apply List.ext_getElem?
          intro k
          rw [List.getElem?_set]
          by_cases hk : i = k
          · subst hk; rw [if_pos rfl, if_pos hi, aT_at hi]
          · rw [if_neg hk]
        unfold ofR turnA
        rw [if_neg h0, if_neg h4, if_neg h1, if_neg h2, if_neg h3, HIE.out, hsame])
      have d1 : (q.how % 8 == 1) = false := by simpa using h1
      have d2 : (q.how % 8 == 2) = false := by simpa using h2
      have d3 : (q.how % 8 == 3) = false := by simpa using h3
      have d4 : (q.how % 8 == 4) = false := by simpa using h4
      go_wp2_with (first | (refine wpList_storeB (t := 30) rfl _ _ rfl _ rfl _ rfl r2 (by kernel_rfl) rfl (by simp [Value.oneCell']) ?_; have r2o := r2; clear r2; intro wn ht hcn hzn; (try replace rs1 := rs1.chg r2o (by simp) hcn); have hsz := B.size; replace hzn := Nat.le_of_eq hzn.symm; replace B := Chg.below B hcn (by omega) B.size; (try replace q1 := q1.of_eq (hcn.block _ q1.lt (by omega))); (try replace r3 := r3.of_eq (hcn.block _ r3.lt (by omega))); (try replace rc := rc.of_eq (hcn.block _ rc.lt (by omega))); have r2 := ht; clear ht; simp only [Act.put, putS]) | (refine wpList_loadAny (t := 3) rfl _ rfl _ _ _ rfl (run_load_int (q1.cell 5 rfl)) (by rfl) ?_; simp only [Act.put, putS]) | fail)
      refine bodyPost_ret (results_B (t := 30) rfl _ _ (b_r2) rfl r2 Tryz.isAgg30 (by kernel_rfl)) rfl ?_
      exact ⟨_, rfl, by rw [E.out]; exact RES.out _ _ rfl rc, B⟩
end Go.Proofs.YtppccnjckiedlaaGreatDoor
/- Contracts of `of` of the law package whole. -/
namespace Go.Proofs.YtppccnjckiedlaaGreatDoor
open Go.RowKit Go.Shelf Pl
set_option linter.unusedVariables false
set_option linter.unusedSimpArgs false
set_option maxRecDepth 20000
theorem L_of (q : RawQ) (vL vT : Value) (L T : List Int) (w : World) (hL : RSE inE vL L w) (hLn : L.length ≤ 17592186044416) (hT : RSE inE vT T w) (hTn : T.length ≤ 17592186044416) :
    Calls Tryz.prog 5 #[.agg #[vL, .int .i64 q.at_, .int .i64 q.px, .int .i64 q.py, vT, .int .i64 q.how]] w fun e w' => ∃ v', e = .returned (.agg #[v']) ∧ RS v' (ofRL q L T) w' ∧ Below w.heap.size w w' :=
  L_of0 q vL vT T (madeL L) w (madeL_len L) hT hTn fun w' hb => R_Made8O vL L w' (hL.below hb) hLn
end Go.Proofs.YtppccnjckiedlaaGreatDoor
/- Contract of gouacheref08.Full. -/
namespace Go.Proofs.YtppccnjckiedlaaGreatDoor
open Go.RowKit Go.Shelf Pl
set_option linter.unusedVariables false
set_option linter.unusedSimpArgs false
set_option maxRecDepth 20000

def fullA (i : Nat) : TA := ⟨(i : Int) % 40, (i : Int) / 40, fillT ⟨(i : Int) % 256, 0, 0, 255⟩⟩
def fullL (n : Nat) : List TA := (List.range n).map fullA
end Go.Proofs.YtppccnjckiedlaaGreatDoor
/- Plain laws of rasters: cropping, bounds. -/
namespace Go.Proofs.YtppccnjckiedlaaGreatDoor
open Go.RowKit Pl
set_option linter.unusedVariables false
set_option linter.unusedSimpArgs false

/-- A tile cropped. -/
def cropT (c : Rc) (x y : Int) (t : Nat → Px) : Nat → Px := fun i => if i < 64 then (if hasR c (x * 8 + (i : Int) % 8) (y * 8 + (i : Int) / 8) = true then t i else Px.zero) else t i
def cropE (c : Rc) (e : TA) : List TA := newA e.x e.y (cropT c e.x e.y e.t)
theorem hasR_iff (r : Rc) (x y : Int) : hasR r x y = true ↔ (r.x0 ≤ x ∧ x < r.x1 ∧ r.y0 ≤ y ∧ y < r.y1) := by unfold hasR; exact decide_eq_true_iff
theorem emptyR_iff (r : Rc) : emptyR r = true ↔ (r.x1 ≤ r.x0 ∨ r.y1 ≤ r.y0) := by unfold emptyR; exact decide_eq_true_iff
theorem emptyR_not (r : Rc) : emptyR r = false ↔ (r.x0 < r.x1 ∧ r.y0 < r.y1) := by
  rw [← Bool.not_eq_true, emptyR_iff]; omega
theorem goodA_iff (e : TA) : goodA e = true ↔ withinB e.x e.y = true ∧ zeroB e.t = false ∧ eqT (cleanT e.t) e.t = true := by
  unfold goodA
  rw [Bool.and_eq_true, Bool.and_eq_true, Bool.not_eq_true']
theorem eqT_at {t u : Nat → Px} (h : eqT t u = true) {i : Nat} (hi : i < 64) : t i = u i := by
  unfold eqT at h
  exact of_decide_eq_true h i (List.mem_range.2 hi)
/-! ### Bounds -/
/-- A pixel that is not transparent. -/
def Vis (ls : List TA) (x y : Int) : Prop := ∃ e, e ∈ ls ∧ ∃ i : Nat, i < 64 ∧ 0 < (e.t i).a ∧ x = e.x * 8 + (i : Int) % 8 ∧ y = e.y * 8 + (i : Int) / 8
/-- The least rectangle around V. -/
def Tight (V : Int → Int → Prop) (r : Rc) : Prop := (r = Rc.zero ∧ ∀ x y, ¬ V x y) ∨ (emptyR r = false ∧ (∀ x y, V x y → hasR r x y = true) ∧ (∃ y, V r.x0 y) ∧ (∃ x, V x r.y0) ∧ (∃ y, V (r.x1 - 1) y) ∧ ∃ x, V x (r.y1 - 1))
theorem Tight.add {V : Int → Int → Prop} {r : Rc} (h : Tight V r) (x y : Int) : Tight (fun a b => V a b ∨ (a = x ∧ b = y)) (unionR r ⟨x, y, x + 1, y + 1⟩) := by
  have h1 : emptyR ⟨x, y, x + 1, y + 1⟩ = false := (emptyR_not _).2 ⟨by show x < x + 1; omega, by show y < y + 1; omega⟩
  rcases h with ⟨rfl, hn⟩ | ⟨he, hin, ⟨ya, ha⟩, ⟨xb, hb⟩, ⟨yc, hc⟩, ⟨xd, hd⟩⟩
  · have e : unionR Rc.zero ⟨x, y, x + 1, y + 1⟩ = ⟨x, y, x + 1, y + 1⟩ := by
      unfold unionR normR
      rw [if_pos (by decide), h1]
      rfl
    rw [e]
    refine .inr ⟨h1, fun a b hv => ?_, ⟨y, .inr ⟨rfl, rfl⟩⟩, ⟨x, .inr ⟨rfl, rfl⟩⟩, ⟨y, .inr ⟨by show x + 1 - 1 = x; omega, rfl⟩⟩, ⟨x, .inr ⟨rfl, by show y + 1 - 1 = y; omega⟩⟩⟩
    rcases hv with hv | ⟨rfl, rfl⟩
    · exact absurd hv (hn a b)
    · rw [hasR_iff]; simp only; omega
  · have e : unionR r ⟨x, y, x + 1, y + 1⟩ = ⟨min r.x0 x, min r.y0 y, max r.x1 (x + 1), max r.y1 (y + 1)⟩ := by
      unfold unionR
      rw [he, h1, if_neg (by decide), if_neg (by decide)]
    rw [e]
    have hen := (emptyR_not r).1 he
    refine .inr ⟨(emptyR_not _).2 ⟨by show min r.x0 x < max r.x1 (x + 1); omega, by show min r.y0 y < max r.y1 (y + 1); omega⟩, fun a b hv => ?_, ?_, ?_, ?_, ?_⟩
    · rw [hasR_iff]
      simp only
      rcases hv with hv | ⟨rfl, rfl⟩
      · have := (hasR_iff r a b).1 (hin a b hv)
        omega
      · omega
    · show ∃ b, V (min r.x0 x) b ∨ (min r.x0 x = x ∧ b = y)
      by_cases hh : r.x0 ≤ x
      · exact ⟨ya, .inl (by rw [Int.min_eq_left hh]; exact ha)⟩
      · exact ⟨y, .inr ⟨by omega, rfl⟩⟩
    · show ∃ a, V a (min r.y0 y) ∨ (a = x ∧ min r.y0 y = y)
      by_cases hh : r.y0 ≤ y
      · exact ⟨xb, .inl (by rw [Int.min_eq_left hh]; exact hb)⟩
      · exact ⟨x, .inr ⟨rfl, by omega⟩⟩
    · show ∃ b, V (max r.x1 (x + 1) - 1) b ∨ (max r.x1 (x + 1) - 1 = x ∧ b = y)
      by_cases hh : x + 1 ≤ r.x1
      · exact ⟨yc, .inl (by rw [Int.max_eq_left hh]; exact hc)⟩
      · exact ⟨y, .inr ⟨by omega, rfl⟩⟩
    · show ∃ a, V a (max r.y1 (y + 1) - 1) ∨ (a = x ∧ max r.y1 (y + 1) - 1 = y)
      by_cases hh : y + 1 ≤ r.y1
      · exact ⟨xd, .inl (by rw [Int.max_eq_left hh]; exact hd)⟩
      · exact ⟨x, .inr ⟨rfl, by omega⟩⟩
end Go.Proofs.YtppccnjckiedlaaGreatDoor
/- Specifications of values that are rasters, for regions that draw their order; the full raster's validity. -/
namespace Go.Proofs.YtppccnjckiedlaaGreatDoor
open Go.RowKit Go.Shelf Pl
set_option linter.unusedVariables false
set_option linter.unusedSimpArgs false
set_option maxRecDepth 20000

def rasS (L : List TA) : NSpec := ⟨Option Addr × Nat, ⟨(none, 0)⟩, fun x => .agg #[.slice x.1 L.length x.2], fun x w => RS (.slice x.1 L.length x.2) L w, fun _ _ _ hb h => h.below hb⟩
def tupS (L : List TA) (n : Int) : NSpec := ⟨Option Addr × Nat, ⟨(none, 0)⟩, fun x => .tuple #[.agg #[.slice x.1 L.length x.2], .int .i64 n], fun x w => RS (.slice x.1 L.length x.2) L w, fun _ _ _ hb h => h.below hb⟩
def gotS (L : List TA) (n : Int) : NSpec := ⟨Option Addr × Nat, ⟨(none, 0)⟩, fun x => .agg #[.slice x.1 L.length x.2, .int .i64 n], fun x w => RS (.slice x.1 L.length x.2) L w, fun _ _ _ hb h => h.below hb⟩
def ptrS (n : Nat) (t : TypeId) (cs : Array Value) : NSpec := ⟨Nat, ⟨0⟩, fun b => .pointer (some ⟨b, 0, none⟩), fun b w => n ≤ b ∧ AtB t w b cs, fun _ _ _ hb h => ⟨h.1, h.2.of_eq (hb.block _ h.2.lt)⟩⟩
theorem L_ofO (q : RawQ) (vL vT : Value) (L T : List Int) (w : World) (hL : RSE inE vL L w) (hLn : L.length ≤ 17592186044416) (hT : RSE inE vT T w) (hTn : T.length ≤ 17592186044416) :
    Calls Tryz.prog 5 #[.agg #[vL, .int .i64 q.at_, .int .i64 q.px, .int .i64 q.py, vT, .int .i64 q.how]] w fun e w' => ∃ a c, e = .returned (.agg #[.slice a (ofRL q L T).length c]) ∧ RS (.slice a (ofRL q L T).length c) (ofRL q L T) w' ∧ Below w.heap.size w w' :=
  (L_of q vL vT L T w hL hLn hT hTn).mono fun e w' ⟨v', he, hr, hb⟩ => by
    obtain ⟨a, c, rfl, _⟩ := hr.len
    exact ⟨a, c, he, hr, hb⟩
theorem len_maxLen {n : Nat} (h : n ≤ 2000) : n ≤ maxLen := by unfold maxLen; omega
/-! ### The contracts at lists that are known to be valid; results told by another word -/
end Go.Proofs.YtppccnjckiedlaaGreatDoor
/- Contract of gouacheref08.Near. -/
namespace Go.Proofs.YtppccnjckiedlaaGreatDoor
open Go.RowKit Go.Shelf Pl
set_option linter.unusedVariables false
set_option linter.unusedSimpArgs false
set_option maxRecDepth 20000
def nearR (c : Rc) : Rc := ⟨c.x0 % 64 - 30, c.y0 % 64 - 30, c.x0 % 64 - 30 + 1 + c.x1 % 32, c.y0 % 64 - 30 + 1 + c.y1 % 32⟩
@[go_sem] theorem run_field_a (p0 p1 p2 pa : Int) (w : World) : (Instr.field 35 (.agg #[.int .u8 p0, .int .u8 p1, .int .u8 p2, .int .u8 pa]) 3).run Tryz.prog w = .ok (.int .u8 pa) w := by kernel_rfl
end Go.Proofs.YtppccnjckiedlaaGreatDoor
/- Pairs of integers as blocks; one byte of a tile stored; contracts of Set and Put with a result told. -/
namespace Go.Proofs.YtppccnjckiedlaaGreatDoor
open Go.RowKit Go.Shelf Pl
set_option linter.unusedVariables false
set_option linter.unusedSimpArgs false
set_option maxRecDepth 20000
def i2 (a b : Int) (k : Nat) : Int := if k = 0 then a else b
theorem AtB.cellL {t : TypeId} {w : World} {b : Nat} {l : List Value} (h : AtB t w b l.toArray) (i : Nat) {v : Value} (hv : l[i]? = some v) : w.cell? ⟨b, i, none⟩ = some v := h.cell i (by simpa using hv)
end Go.Proofs.YtppccnjckiedlaaGreatDoor
/- Plain laws: how many tiles there are behind put; the full raster. -/
namespace Go.Proofs.YtppccnjckiedlaaGreatDoor
open Go.RowKit Pl
set_option linter.unusedVariables false
set_option linter.unusedSimpArgs false
/-- The tile of the law: its first pixel full. -/
def limT (Ls : List Int) : Nat → Px := upd (madeT Ls) 0 ⟨0, 0, 3, 255⟩
def F24 : List TA := fullL 1024
end Go.Proofs.YtppccnjckiedlaaGreatDoor
