/- Contracts of the reference's Get, Put, Set; of equal, Equal. -/
import Derived.Test.YtppccnjckiedlaaRo
import Derived.Deep.CutBlock
import Derived.Deep.DeepCutAuto
namespace Go.Proofs.Ytppccnjckiedlaa
open Go.RowKit Go.Shelf Pl
set_option linter.unusedVariables false
set_option linter.unusedSimpArgs false
set_option maxRecDepth 20000

section
variable {o : Oper} {a : Act} {w : World} {Q : Exit → Act → World → Prop} {K : Act → World → Prop}
theorem owp_allocTb (ho : o.op = .alloc 40)
    (h : ∀ b w', w.heap.size ≤ b → b ≤ w.heap.size → TileAt w' b (fun _ => Px.zero) → Below b w w' → w'.heap.size = b + 1 → K (a.put o.dst (.pointer (some ⟨b, 0, none⟩))) w') : o.wp Try.prog a w K Q := by
  unfold Oper.wp
  rw [run_alloc_tile w o ho]
  exact h _ _ (Nat.le_refl _) (Nat.le_refl _) (by unfold TileAt; rw [heap_get_alloc, if_pos rfl]) ((Below.refl _ _).alloc (Nat.le_refl _) _) (World.size_alloc _ _)
theorem owp_allocBk {t : TypeId} (cs : Array Value) (hrun : ∀ ev, (execOp ev o).run Try.prog w = .ok (.value (.pointer (some ⟨w.heap.size, 0, none⟩))) (w.alloc (.cells cs t)))
    (h : ∀ b w', w.heap.size ≤ b → b ≤ w.heap.size → AtB t w' b cs → Below b w w' → w'.heap.size = b + 1 → K (a.put o.dst (.pointer (some ⟨b, 0, none⟩))) w') : o.wp Try.prog a w K Q := by
  unfold Oper.wp
  rw [hrun]
  exact h _ _ (Nat.le_refl _) (Nat.le_refl _) (by unfold AtB; rw [heap_get_alloc, if_pos rfl]) ((Below.refl _ _).alloc (Nat.le_refl _) _) (World.size_alloc _ _)
end
set_option maxHeartbeats 1000000 in
theorem R_PutR (v : Value) (ls : List TA) (x y : Int) (t : Nat → Px) (w : World) (h : RS v ls w) (tk : TokL ls) (hn : ls.length ≤ maxLen) (ht : Tok t) : Calls Try.prog 29 #[.agg #[v], .agg #[.int .i64 x, .int .i64 y], Tile.v t] w fun e w' => ∃ v', e = .returned (.agg #[v', .int .i64 (putE ls x y t)]) ∧ RS v' (putR ls x y t) w' ∧ Below w.heap.size w w' := by
  have B := Below.refl w.heap.size w
  obtain ⟨a', c', hT⟩ := R_Of v ls w h tk hn
  have HT := Lib.hid hT
  clear hT
  obtain ⟨a, c, rfl, hc⟩ := h.len
  cases hw : withinB x y with
  | false =>
    have e1 : putE ls x y t = 1 := by unfold putE; rw [hw]; rfl
    have e2 : putR ls x y t = [] := by unfold putR; rw [hw]; rfl
    rw [e1, e2]
    clear e1 e2
    go_enter Try.func29, Try.ntmps29
    go_wp2_with (first | (refine wpList_storeB (t := 50) rfl _ _ rfl _ rfl _ rfl g2 (by kernel_rfl) rfl (by simp [Value.oneCell']) ?_; clear g2; intro wn ht hcn hzn; have hsz := B.size; replace hzn := Nat.le_of_eq hzn.symm; replace B := Chg.below B hcn (by omega) B.size; (try replace r1 := r1.of_eq (hcn.block _ r1.lt (by omega))); (try replace p1 := p1.of_eq (hcn.block _ p1.lt (by omega))); (try replace u1 := u1.of_eq (hcn.block _ u1.lt (by omega))); have g2 := ht; clear ht; simp only [Act.put, List.setIfInBounds_toArray, List.set_cons_zero, List.set_cons_succ]) | (go_at_call 59; refine (R_within x y _).mono ?_; rintro e wn ⟨rfl, hbn⟩; have hsz := B.size; have hzn := hbn.size; replace B := B.trans (hbn.mono B.size); (try first | replace r1 := r1.of_eq (hbn.block _ r1.lt) | replace r1 := r1.below hbn); (try first | replace p1 := p1.of_eq (hbn.block _ p1.lt) | replace p1 := p1.below hbn); (try first | replace u1 := u1.of_eq (hbn.block _ u1.lt) | replace u1 := u1.below hbn); (try first | replace g2 := g2.of_eq (hbn.block _ g2.lt) | replace g2 := g2.below hbn)) | (refine wpList_loadAny (t := 24) rfl _ rfl _ _ _ rfl (run_load_B p1 Try.isAgg24 (by kernel_rfl)) (by rfl) ?_; simp only [Act.put, List.setIfInBounds_toArray, List.set_cons_zero, List.set_cons_succ]) | (have _ := u1; refine wpList_allocBk (t := 50) rfl _ (run_alloc_G _ _ rfl) ?_; intro b_g2 wn hle hge ht hbn hzn; have hsz := B.size; replace B := B.trans (hbn.mono (by omega)); have hln := Nat.lt_of_lt_of_eq (Nat.lt_succ_self _) hzn.symm; clear hzn; (try first | (have hlt := r1.lt; replace r1 := r1.of_eq (hbn.block _ (by omega))) | replace r1 := r1.below (hbn.mono hle)); (try first | (have hlt := p1.lt; replace p1 := p1.of_eq (hbn.block _ (by omega))) | replace p1 := p1.below (hbn.mono hle)); (try first | (have hlt := u1.lt; replace u1 := u1.of_eq (hbn.block _ (by omega))) | replace u1 := u1.below (hbn.mono hle)); (try first | (have hlt := g2.lt; replace g2 := g2.of_eq (hbn.block _ (by omega))) | replace g2 := g2.below (hbn.mono hle)); have g2 := ht; clear ht; simp only [Act.put, List.setIfInBounds_toArray, List.set_cons_zero, List.set_cons_succ]) | (have _ := p1; refine wpList_boxT' rfl _ rfl _ rfl ?_; intro b_u1 wn hle hge ht hbn hzn; have hsz := B.size; replace B := B.trans (hbn.mono (by omega)); have hln := Nat.lt_of_lt_of_eq (Nat.lt_succ_self _) hzn.symm; clear hzn; (try first | (have hlt := r1.lt; replace r1 := r1.of_eq (hbn.block _ (by omega))) | replace r1 := r1.below (hbn.mono hle)); (try first | (have hlt := p1.lt; replace p1 := p1.of_eq (hbn.block _ (by omega))) | replace p1 := p1.below (hbn.mono hle)); (try first | (have hlt := u1.lt; replace u1 := u1.of_eq (hbn.block _ (by omega))) | replace u1 := u1.below (hbn.mono hle)); (try first | (have hlt := g2.lt; replace g2 := g2.of_eq (hbn.block _ (by omega))) | replace g2 := g2.below (hbn.mono hle)); have u1 := ht; clear ht; simp only [Act.put, List.setIfInBounds_toArray, List.set_cons_zero, List.set_cons_succ]) | (have _ := r1; refine wpList_boxB (t := 24) rfl _ rfl _ rfl ?_; intro b_p1 wn hle hge ht hbn hzn; have hsz := B.size; replace B := B.trans (hbn.mono (by omega)); have hln := Nat.lt_of_lt_of_eq (Nat.lt_succ_self _) hzn.symm; clear hzn; (try first | (have hlt := r1.lt; replace r1 := r1.of_eq (hbn.block _ (by omega))) | replace r1 := r1.below (hbn.mono hle)); (try first | (have hlt := p1.lt; replace p1 := p1.of_eq (hbn.block _ (by omega))) | replace p1 := p1.below (hbn.mono hle)); (try first | (have hlt := u1.lt; replace u1 := u1.of_eq (hbn.block _ (by omega))) | replace u1 := u1.below (hbn.mono hle)); (try first | (have hlt := g2.lt; replace g2 := g2.of_eq (hbn.block _ (by omega))) | replace g2 := g2.below (hbn.mono hle)); have p1 := ht; clear ht; simp only [Act.put, List.setIfInBounds_toArray, List.set_cons_zero, List.set_cons_succ]) | (refine wpList_boxB (t := 30) rfl _ rfl _ rfl ?_; intro b_r1 wn hle hge ht hbn hzn; have hsz := B.size; replace B := B.trans (hbn.mono (by omega)); have hln := Nat.lt_of_lt_of_eq (Nat.lt_succ_self _) hzn.symm; clear hzn; (try first | (have hlt := r1.lt; replace r1 := r1.of_eq (hbn.block _ (by omega))) | replace r1 := r1.below (hbn.mono hle)); (try first | (have hlt := p1.lt; replace p1 := p1.of_eq (hbn.block _ (by omega))) | replace p1 := p1.below (hbn.mono hle)); (try first | (have hlt := u1.lt; replace u1 := u1.of_eq (hbn.block _ (by omega))) | replace u1 := u1.below (hbn.mono hle)); (try first | (have hlt := g2.lt; replace g2 := g2.of_eq (hbn.block _ (by omega))) | replace g2 := g2.below (hbn.mono hle)); have r1 := ht; clear ht; simp only [Act.put, List.setIfInBounds_toArray, List.set_cons_zero, List.set_cons_succ]) | fail)
    refine bodyPost_ret (results_B (t := 50) rfl _ _ (b_g2) rfl g2 Try.isAgg50 (by kernel_rfl)) rfl ?_
    exact ⟨_, rfl, RS.nil _, B⟩
  | true =>
    have SR := Lib.hid (validL_srt (fineL_valid ls))
    have CT : Hid (Tok (cleanT t)) := Lib.hid (fun i hi => cleanP_ok (ht i hi))
    have hfl := fineL_length ls
    have hpl := putL_length (fineL ls) x y (cleanT t)
    by_cases hm : (putL (fineL ls) x y (cleanT t)).length ≤ 1024
    · have e1 : putE ls x y t = 0 := by unfold putE manyE; rw [hw, if_pos rfl, if_pos hm]
      have e2 := Lib.hid (show putR ls x y t = putL (fineL ls) x y (cleanT t) by unfold putR manyL; rw [hw, if_pos rfl, if_pos hm])
      rw [e1]
      clear e1
      go_enter Try.func29, Try.ntmps29
      go_wp2_with (first | (go_at_call 59; refine (R_within x y _).mono ?_; rintro e wn ⟨rfl, hbn⟩; have hsz := B.size; have hzn := hbn.size; replace B := B.trans (hbn.mono B.size); (try first | replace r1 := r1.of_eq (hbn.block _ r1.lt) | replace r1 := r1.below hbn); (try first | replace p1 := p1.of_eq (hbn.block _ p1.lt) | replace p1 := p1.below hbn); (try first | replace u1 := u1.of_eq (hbn.block _ u1.lt) | replace u1 := u1.below hbn); (try first | replace g2 := g2.of_eq (hbn.block _ g2.lt) | replace g2 := g2.below hbn)) | (refine wpList_loadAny (t := 24) rfl _ rfl _ _ _ rfl (run_load_B p1 Try.isAgg24 (by kernel_rfl)) (by rfl) ?_; simp only [Act.put, List.setIfInBounds_toArray, List.set_cons_zero, List.set_cons_succ]) | (have _ := u1; refine wpList_allocBk (t := 50) rfl _ (run_alloc_G _ _ rfl) ?_; intro b_g2 wn hle hge ht hbn hzn; have hsz := B.size; replace B := B.trans (hbn.mono (by omega)); have hln := Nat.lt_of_lt_of_eq (Nat.lt_succ_self _) hzn.symm; clear hzn; (try first | (have hlt := r1.lt; replace r1 := r1.of_eq (hbn.block _ (by omega))) | replace r1 := r1.below (hbn.mono hle)); (try first | (have hlt := p1.lt; replace p1 := p1.of_eq (hbn.block _ (by omega))) | replace p1 := p1.below (hbn.mono hle)); (try first | (have hlt := u1.lt; replace u1 := u1.of_eq (hbn.block _ (by omega))) | replace u1 := u1.below (hbn.mono hle)); (try first | (have hlt := g2.lt; replace g2 := g2.of_eq (hbn.block _ (by omega))) | replace g2 := g2.below (hbn.mono hle)); have g2 := ht; clear ht; simp only [Act.put, List.setIfInBounds_toArray, List.set_cons_zero, List.set_cons_succ]) | (have _ := p1; refine wpList_boxT' rfl _ rfl _ rfl ?_; intro b_u1 wn hle hge ht hbn hzn; have hsz := B.size; replace B := B.trans (hbn.mono (by omega)); have hln := Nat.lt_of_lt_of_eq (Nat.lt_succ_self _) hzn.symm; clear hzn; (try first | (have hlt := r1.lt; replace r1 := r1.of_eq (hbn.block _ (by omega))) | replace r1 := r1.below (hbn.mono hle)); (try first | (have hlt := p1.lt; replace p1 := p1.of_eq (hbn.block _ (by omega))) | replace p1 := p1.below (hbn.mono hle)); (try first | (have hlt := u1.lt; replace u1 := u1.of_eq (hbn.block _ (by omega))) | replace u1 := u1.below (hbn.mono hle)); (try first | (have hlt := g2.lt; replace g2 := g2.of_eq (hbn.block _ (by omega))) | replace g2 := g2.below (hbn.mono hle)); have u1 := ht; clear ht; simp only [Act.put, List.setIfInBounds_toArray, List.set_cons_zero, List.set_cons_succ]) | (have _ := r1; refine wpList_boxB (t := 24) rfl _ rfl _ rfl ?_; intro b_p1 wn hle hge ht hbn hzn; have hsz := B.size; replace B := B.trans (hbn.mono (by omega)); have hln := Nat.lt_of_lt_of_eq (Nat.lt_succ_self _) hzn.symm; clear hzn; (try first | (have hlt := r1.lt; replace r1 := r1.of_eq (hbn.block _ (by omega))) | replace r1 := r1.below (hbn.mono hle)); (try first | (have hlt := p1.lt; replace p1 := p1.of_eq (hbn.block _ (by omega))) | replace p1 := p1.below (hbn.mono hle)); (try first | (have hlt := u1.lt; replace u1 := u1.of_eq (hbn.block _ (by omega))) | replace u1 := u1.below (hbn.mono hle)); (try first | (have hlt := g2.lt; replace g2 := g2.of_eq (hbn.block _ (by omega))) | replace g2 := g2.below (hbn.mono hle)); have p1 := ht; clear ht; simp only [Act.put, List.setIfInBounds_toArray, List.set_cons_zero, List.set_cons_succ]) | (refine wpList_boxB (t := 30) rfl _ rfl _ rfl ?_; intro b_r1 wn hle hge ht hbn hzn; have hsz := B.size; replace B := B.trans (hbn.mono (by omega)); have hln := Nat.lt_of_lt_of_eq (Nat.lt_succ_self _) hzn.symm; clear hzn; (try first | (have hlt := r1.lt; replace r1 := r1.of_eq (hbn.block _ (by omega))) | replace r1 := r1.below (hbn.mono hle)); (try first | (have hlt := p1.lt; replace p1 := p1.of_eq (hbn.block _ (by omega))) | replace p1 := p1.below (hbn.mono hle)); (try first | (have hlt := u1.lt; replace u1 := u1.of_eq (hbn.block _ (by omega))) | replace u1 := u1.below (hbn.mono hle)); (try first | (have hlt := g2.lt; replace g2 := g2.of_eq (hbn.block _ (by omega))) | replace g2 := g2.below (hbn.mono hle)); have r1 := ht; clear ht; simp only [Act.put, List.setIfInBounds_toArray, List.set_cons_zero, List.set_cons_succ]) | fail)
      refine wp_region_ov_tail 4 (by kernel_rfl) (by kernel_rfl) ?_
      simp only [List.take_succ_cons, List.take_zero, List.drop_succ_cons, List.drop_zero]
      repeat (first | go_big_quiet_skip | (go_big_quiet_want; first | (refine quiet_loadAny (t := 30) rfl _ _ _ rfl (fun w hw => run_load_B (ov_B r1 w hw) Try.isAgg30 (by kernel_rfl)) (by rfl) ?_; simp only [Act.put, List.setIfInBounds_toArray, List.set_cons_zero, List.set_cons_succ]; go_big_quiet_on) | (refine quiet_loadAny (t := 24) rfl _ _ _ rfl (fun w hw => run_load_B (ov_B p1 w hw) Try.isAgg24 (by kernel_rfl)) (by rfl) ?_; simp only [Act.put, List.setIfInBounds_toArray, List.set_cons_zero, List.set_cons_succ]; go_big_quiet_on) | (refine quiet_loadT rfl _ rfl (ov_tile u1) ?_; simp only [Act.put, List.setIfInBounds_toArray, List.set_cons_zero, List.set_cons_succ]; go_big_quiet_on) | (go_big_quiet_op; first | go_big_quiet_on | go_big_quiet_call ((first | (go_at_call 70; exact calls_ov (HT.out _ (below_ov B B.size _)).1))))))
      refine wpQuiet_nil ?_
      intro wn hbn
      have hsz := B.size
      have hzn := hbn.size
      replace B := B.trans (hbn.mono B.size)
      try first | replace r1 := r1.of_eq (hbn.block _ r1.lt) | replace r1 := r1.below hbn
      try first | replace p1 := p1.of_eq (hbn.block _ p1.lt) | replace p1 := p1.below hbn
      try first | replace u1 := u1.of_eq (hbn.block _ u1.lt) | replace u1 := u1.below hbn
      try first | replace g2 := g2.of_eq (hbn.block _ g2.lt) | replace g2 := g2.below hbn
      go_wp2_with (first | (refine wpList_storeB (t := 50) rfl _ _ rfl _ rfl _ rfl g2 (by kernel_rfl) rfl (by simp [Value.oneCell']) ?_; have g2o := g2; clear g2; intro wn ht hcn hzn; replace rs1 := rs1.chg g2o (by simp) hcn; have hsz := B.size; replace hzn := Nat.le_of_eq hzn.symm; replace B := Chg.below B hcn (by omega) B.size; (try replace r1 := r1.of_eq (hcn.block _ r1.lt (by omega))); (try replace p1 := p1.of_eq (hcn.block _ p1.lt (by omega))); (try replace u1 := u1.of_eq (hcn.block _ u1.lt (by omega))); have g2 := ht; clear ht; simp only [Act.put, List.setIfInBounds_toArray, List.set_cons_zero, List.set_cons_succ]) | (go_at_call 74; refine (R_many _ _ _ _ (by unfold maxLen; omega)).mono ?_; rintro e wn ⟨rfl, hbn⟩; rw [if_pos hm]; have hsz := B.size; have hzn := hbn.size; replace B := B.trans (hbn.mono B.size); (try first | replace r1 := r1.of_eq (hbn.block _ r1.lt) | replace r1 := r1.below hbn); (try first | replace p1 := p1.of_eq (hbn.block _ p1.lt) | replace p1 := p1.below hbn); (try first | replace u1 := u1.of_eq (hbn.block _ u1.lt) | replace u1 := u1.below hbn); (try first | replace g2 := g2.of_eq (hbn.block _ g2.lt) | replace g2 := g2.below hbn); (try first | replace rs1 := rs1.of_eq (hbn.block _ rs1.lt) | replace rs1 := rs1.below hbn)) | (go_at_call 75; refine (R_put _ (fineL ls) x y t (cleanT t) _ (HT.out _ B).2 SR.out ht rfl (by omega)).mono ?_; rintro e wn ⟨v1, rfl, rs1, hbn⟩; obtain ⟨a1, c1, rfl, hc1⟩ := rs1.len; have hsz := B.size; have hzn := hbn.size; replace B := B.trans (hbn.mono B.size); (try first | replace r1 := r1.of_eq (hbn.block _ r1.lt) | replace r1 := r1.below hbn); (try first | replace p1 := p1.of_eq (hbn.block _ p1.lt) | replace p1 := p1.below hbn); (try first | replace u1 := u1.of_eq (hbn.block _ u1.lt) | replace u1 := u1.below hbn); (try first | replace g2 := g2.of_eq (hbn.block _ g2.lt) | replace g2 := g2.below hbn)) | fail)
      refine bodyPost_ret (results_B (t := 50) rfl _ _ (b_g2) rfl g2 Try.isAgg50 (by kernel_rfl)) rfl ?_
      exact ⟨_, rfl, by rw [e2.out]; exact rs1, B⟩
    · have e1 : putE ls x y t = 2 := by unfold putE manyE; rw [hw, if_pos rfl, if_neg hm]
      have e2 := Lib.hid (show putR ls x y t = [] by unfold putR manyL; rw [hw, if_pos rfl, if_neg hm])
      rw [e1]
      clear e1
      go_enter Try.func29, Try.ntmps29
      go_wp2_with (first | (go_at_call 59; refine (R_within x y _).mono ?_; rintro e wn ⟨rfl, hbn⟩; have hsz := B.size; have hzn := hbn.size; replace B := B.trans (hbn.mono B.size); (try first | replace r1 := r1.of_eq (hbn.block _ r1.lt) | replace r1 := r1.below hbn); (try first | replace p1 := p1.of_eq (hbn.block _ p1.lt) | replace p1 := p1.below hbn); (try first | replace u1 := u1.of_eq (hbn.block _ u1.lt) | replace u1 := u1.below hbn); (try first | replace g2 := g2.of_eq (hbn.block _ g2.lt) | replace g2 := g2.below hbn)) | (refine wpList_loadAny (t := 24) rfl _ rfl _ _ _ rfl (run_load_B p1 Try.isAgg24 (by kernel_rfl)) (by rfl) ?_; simp only [Act.put, List.setIfInBounds_toArray, List.set_cons_zero, List.set_cons_succ]) | (have _ := u1; refine wpList_allocBk (t := 50) rfl _ (run_alloc_G _ _ rfl) ?_; intro b_g2 wn hle hge ht hbn hzn; have hsz := B.size; replace B := B.trans (hbn.mono (by omega)); have hln := Nat.lt_of_lt_of_eq (Nat.lt_succ_self _) hzn.symm; clear hzn; (try first | (have hlt := r1.lt; replace r1 := r1.of_eq (hbn.block _ (by omega))) | replace r1 := r1.below (hbn.mono hle)); (try first | (have hlt := p1.lt; replace p1 := p1.of_eq (hbn.block _ (by omega))) | replace p1 := p1.below (hbn.mono hle)); (try first | (have hlt := u1.lt; replace u1 := u1.of_eq (hbn.block _ (by omega))) | replace u1 := u1.below (hbn.mono hle)); (try first | (have hlt := g2.lt; replace g2 := g2.of_eq (hbn.block _ (by omega))) | replace g2 := g2.below (hbn.mono hle)); have g2 := ht; clear ht; simp only [Act.put, List.setIfInBounds_toArray, List.set_cons_zero, List.set_cons_succ]) | (have _ := p1; refine wpList_boxT' rfl _ rfl _ rfl ?_; intro b_u1 wn hle hge ht hbn hzn; have hsz := B.size; replace B := B.trans (hbn.mono (by omega)); have hln := Nat.lt_of_lt_of_eq (Nat.lt_succ_self _) hzn.symm; clear hzn; (try first | (have hlt := r1.lt; replace r1 := r1.of_eq (hbn.block _ (by omega))) | replace r1 := r1.below (hbn.mono hle)); (try first | (have hlt := p1.lt; replace p1 := p1.of_eq (hbn.block _ (by omega))) | replace p1 := p1.below (hbn.mono hle)); (try first | (have hlt := u1.lt; replace u1 := u1.of_eq (hbn.block _ (by omega))) | replace u1 := u1.below (hbn.mono hle)); (try first | (have hlt := g2.lt; replace g2 := g2.of_eq (hbn.block _ (by omega))) | replace g2 := g2.below (hbn.mono hle)); have u1 := ht; clear ht; simp only [Act.put, List.setIfInBounds_toArray, List.set_cons_zero, List.set_cons_succ]) | (have _ := r1; refine wpList_boxB (t := 24) rfl _ rfl _ rfl ?_; intro b_p1 wn hle hge ht hbn hzn; have hsz := B.size; replace B := B.trans (hbn.mono (by omega)); have hln := Nat.lt_of_lt_of_eq (Nat.lt_succ_self _) hzn.symm; clear hzn; (try first | (have hlt := r1.lt; replace r1 := r1.of_eq (hbn.block _ (by omega))) | replace r1 := r1.below (hbn.mono hle)); (try first | (have hlt := p1.lt; replace p1 := p1.of_eq (hbn.block _ (by omega))) | replace p1 := p1.below (hbn.mono hle)); (try first | (have hlt := u1.lt; replace u1 := u1.of_eq (hbn.block _ (by omega))) | replace u1 := u1.below (hbn.mono hle)); (try first | (have hlt := g2.lt; replace g2 := g2.of_eq (hbn.block _ (by omega))) | replace g2 := g2.below (hbn.mono hle)); have p1 := ht; clear ht; simp only [Act.put, List.setIfInBounds_toArray, List.set_cons_zero, List.set_cons_succ]) | (refine wpList_boxB (t := 30) rfl _ rfl _ rfl ?_; intro b_r1 wn hle hge ht hbn hzn; have hsz := B.size; replace B := B.trans (hbn.mono (by omega)); have hln := Nat.lt_of_lt_of_eq (Nat.lt_succ_self _) hzn.symm; clear hzn; (try first | (have hlt := r1.lt; replace r1 := r1.of_eq (hbn.block _ (by omega))) | replace r1 := r1.below (hbn.mono hle)); (try first | (have hlt := p1.lt; replace p1 := p1.of_eq (hbn.block _ (by omega))) | replace p1 := p1.below (hbn.mono hle)); (try first | (have hlt := u1.lt; replace u1 := u1.of_eq (hbn.block _ (by omega))) | replace u1 := u1.below (hbn.mono hle)); (try first | (have hlt := g2.lt; replace g2 := g2.of_eq (hbn.block _ (by omega))) | replace g2 := g2.below (hbn.mono hle)); have r1 := ht; clear ht; simp only [Act.put, List.setIfInBounds_toArray, List.set_cons_zero, List.set_cons_succ]) | fail)
      refine wp_region_ov_tail 4 (by kernel_rfl) (by kernel_rfl) ?_
      simp only [List.take_succ_cons, List.take_zero, List.drop_succ_cons, List.drop_zero]
      repeat (first | go_big_quiet_skip | (go_big_quiet_want; first | (refine quiet_loadAny (t := 30) rfl _ _ _ rfl (fun w hw => run_load_B (ov_B r1 w hw) Try.isAgg30 (by kernel_rfl)) (by rfl) ?_; simp only [Act.put, List.setIfInBounds_toArray, List.set_cons_zero, List.set_cons_succ]; go_big_quiet_on) | (refine quiet_loadAny (t := 24) rfl _ _ _ rfl (fun w hw => run_load_B (ov_B p1 w hw) Try.isAgg24 (by kernel_rfl)) (by rfl) ?_; simp only [Act.put, List.setIfInBounds_toArray, List.set_cons_zero, List.set_cons_succ]; go_big_quiet_on) | (refine quiet_loadT rfl _ rfl (ov_tile u1) ?_; simp only [Act.put, List.setIfInBounds_toArray, List.set_cons_zero, List.set_cons_succ]; go_big_quiet_on) | (go_big_quiet_op; first | go_big_quiet_on | go_big_quiet_call ((first | (go_at_call 70; exact calls_ov (HT.out _ (below_ov B B.size _)).1))))))
      refine wpQuiet_nil ?_
      intro wn hbn
      have hsz := B.size
      have hzn := hbn.size
      replace B := B.trans (hbn.mono B.size)
      try first | replace r1 := r1.of_eq (hbn.block _ r1.lt) | replace r1 := r1.below hbn
      try first | replace p1 := p1.of_eq (hbn.block _ p1.lt) | replace p1 := p1.below hbn
      try first | replace u1 := u1.of_eq (hbn.block _ u1.lt) | replace u1 := u1.below hbn
      try first | replace g2 := g2.of_eq (hbn.block _ g2.lt) | replace g2 := g2.below hbn
      go_wp2_with (first | (refine wpList_storeB (t := 50) rfl _ _ rfl _ rfl _ rfl g2 (by kernel_rfl) rfl (by simp [Value.oneCell']) ?_; have g2o := g2; clear g2; intro wn ht hcn hzn; replace rs1 := rs1.chg g2o (by simp) hcn; have hsz := B.size; replace hzn := Nat.le_of_eq hzn.symm; replace B := Chg.below B hcn (by omega) B.size; (try replace r1 := r1.of_eq (hcn.block _ r1.lt (by omega))); (try replace p1 := p1.of_eq (hcn.block _ p1.lt (by omega))); (try replace u1 := u1.of_eq (hcn.block _ u1.lt (by omega))); have g2 := ht; clear ht; simp only [Act.put, List.setIfInBounds_toArray, List.set_cons_zero, List.set_cons_succ]) | (go_at_call 74; refine (R_many _ _ _ _ (by unfold maxLen; omega)).mono ?_; rintro e wn ⟨rfl, hbn⟩; rw [if_neg hm]; have hsz := B.size; have hzn := hbn.size; replace B := B.trans (hbn.mono B.size); (try first | replace r1 := r1.of_eq (hbn.block _ r1.lt) | replace r1 := r1.below hbn); (try first | replace p1 := p1.of_eq (hbn.block _ p1.lt) | replace p1 := p1.below hbn); (try first | replace u1 := u1.of_eq (hbn.block _ u1.lt) | replace u1 := u1.below hbn); (try first | replace g2 := g2.of_eq (hbn.block _ g2.lt) | replace g2 := g2.below hbn); (try first | replace rs1 := rs1.of_eq (hbn.block _ rs1.lt) | replace rs1 := rs1.below hbn)) | (go_at_call 75; refine (R_put _ (fineL ls) x y t (cleanT t) _ (HT.out _ B).2 SR.out ht rfl (by omega)).mono ?_; rintro e wn ⟨v1, rfl, rs1, hbn⟩; obtain ⟨a1, c1, rfl, hc1⟩ := rs1.len; have hsz := B.size; have hzn := hbn.size; replace B := B.trans (hbn.mono B.size); (try first | replace r1 := r1.of_eq (hbn.block _ r1.lt) | replace r1 := r1.below hbn); (try first | replace p1 := p1.of_eq (hbn.block _ p1.lt) | replace p1 := p1.below hbn); (try first | replace u1 := u1.of_eq (hbn.block _ u1.lt) | replace u1 := u1.below hbn); (try first | replace g2 := g2.of_eq (hbn.block _ g2.lt) | replace g2 := g2.below hbn)) | fail)
      refine bodyPost_ret (results_B (t := 50) rfl _ _ (b_g2) rfl g2 Try.isAgg50 (by kernel_rfl)) rfl ?_
      exact ⟨_, rfl, by rw [e2.out]; exact RS.nil _, B⟩
set_option maxHeartbeats 1000000 in
theorem R_GetR (v : Value) (ls : List TA) (x y : Int) (w : World) (h : RS v ls w) (hn : ls.length ≤ maxLen) (hx : (Lit.int .i64 x).wf = true) (hy : (Lit.int .i64 y).wf = true) : Calls Try.prog 21 #[.agg #[v], .int .i64 x, .int .i64 y] w fun e w' => e = .returned (Px.v (getL ls x y)) ∧ Below w.heap.size w w' := by
  have B := Below.refl w.heap.size w
  obtain ⟨a, c, rfl, hc⟩ := h.len
  have HS := Lib.hid h
  clear h
  rw [← getT_getL]
  obtain ⟨l1, l2⟩ := wf_bd hx
  obtain ⟨l3, l4⟩ := wf_bd hy
  obtain ⟨q, hq⟩ : ∃ q, q = x / 8 := ⟨_, rfl⟩
  obtain ⟨q', hq'⟩ : ∃ q, q = y / 8 := ⟨_, rfl⟩
  have hAt : ∀ w, Calls Try.prog 64 #[.int .i64 x, .int .i64 y] w fun e w' => e = .returned (Ps.v q q') ∧ Below w.heap.size w w' := fun w => by rw [hq, hq']; exact R_At x y w hx hy
  have AT := Lib.hid hAt
  rw [← hq, ← hq']
  have e1 : x - 8 * q = x % 8 := by omega
  have e2 : y - 8 * q' = y % 8 := by omega
  have b1 : -9223372036854775808 ≤ 8 * q := by omega
  have b2 : 8 * q ≤ 9223372036854775807 := by omega
  have b3 : -9223372036854775808 ≤ 8 * q' := by omega
  have b4 : 8 * q' ≤ 9223372036854775807 := by omega
  clear hAt hq hq' hx hy
  go_enter Try.func21, Try.ntmps21
  go_wp2_with (first | (refine wpList_storePx rfl _ _ rfl _ rfl (_) rfl q1 ?_; clear q1; intro wn ht hcn hzn; have hsz := B.size; replace hzn := Nat.le_of_eq hzn.symm; replace B := Chg.below B hcn (by omega) B.size; (try replace r1 := r1.of_eq (hcn.block _ r1.lt (by omega))); (try replace p2 := p2.of_eq (hcn.block _ p2.lt (by omega))); (try replace u2 := u2.of_eq (hcn.block _ u2.lt (by omega))); have q1 := ht; clear ht; simp only [Act.put, List.setIfInBounds_toArray, List.set_cons_zero, List.set_cons_succ]) | (go_at_call 65; refine (R_Get _ _ _ _).mono ?_; rintro e wn ⟨rfl, hbn⟩; have hsz := B.size; have hzn := hbn.size; replace B := B.trans (hbn.mono B.size); (try first | replace r1 := r1.of_eq (hbn.block _ r1.lt) | replace r1 := r1.below hbn); (try first | replace q1 := q1.of_eq (hbn.block _ q1.lt) | replace q1 := q1.below hbn); (try first | replace p2 := p2.of_eq (hbn.block _ p2.lt) | replace p2 := p2.below hbn); (try first | replace u2 := u2.of_eq (hbn.block _ u2.lt) | replace u2 := u2.below hbn)) | (refine wpList_loadAny (t := 3) rfl _ rfl _ _ _ rfl (run_load_int (p2.cell 0 rfl)) (by rfl) ?_; simp only [Act.put, List.setIfInBounds_toArray, List.set_cons_zero, List.set_cons_succ]) | (refine wpList_loadAny (t := 3) rfl _ rfl _ _ _ rfl (run_load_int (p2.cell 1 rfl)) (by rfl) ?_; simp only [Act.put, List.setIfInBounds_toArray, List.set_cons_zero, List.set_cons_succ]) | (refine wpList_loadT rfl _ rfl _ rfl u2 ?_; simp only [Act.put, List.setIfInBounds_toArray, List.set_cons_zero, List.set_cons_succ]) | (refine wpList_storeT rfl _ _ rfl _ rfl _ rfl u2 ?_; clear u2; intro wn ht hcn hzn; have hsz := B.size; replace hzn := Nat.le_of_eq hzn.symm; replace B := Chg.below B hcn (by omega) B.size; (try replace r1 := r1.of_eq (hcn.block _ r1.lt (by omega))); (try replace q1 := q1.of_eq (hcn.block _ q1.lt (by omega))); (try replace p2 := p2.of_eq (hcn.block _ p2.lt (by omega))); have u2 := ht; clear ht; simp only [Act.put, List.setIfInBounds_toArray, List.set_cons_zero, List.set_cons_succ]) | (have _ := p2; refine wpList_allocT' rfl rfl ?_; intro b_u2 wn hle hge ht hbn hzn; have hsz := B.size; replace B := B.trans (hbn.mono (by omega)); have hln := Nat.lt_of_lt_of_eq (Nat.lt_succ_self _) hzn.symm; clear hzn; (try first | (have hlt := r1.lt; replace r1 := r1.of_eq (hbn.block _ (by omega))) | replace r1 := r1.below (hbn.mono hle)); (try first | (have hlt := q1.lt; replace q1 := q1.of_eq (hbn.block _ (by omega))) | replace q1 := q1.below (hbn.mono hle)); (try first | (have hlt := p2.lt; replace p2 := p2.of_eq (hbn.block _ (by omega))) | replace p2 := p2.below (hbn.mono hle)); (try first | (have hlt := u2.lt; replace u2 := u2.of_eq (hbn.block _ (by omega))) | replace u2 := u2.below (hbn.mono hle)); have u2 := ht; clear ht; simp only [Act.put, List.setIfInBounds_toArray, List.set_cons_zero, List.set_cons_succ]) | (go_at_call 23; refine (R_Tile _ ls q q' _ (HS.out.below B) hn).mono ?_; rintro e wn ⟨rfl, hbn⟩; have hsz := B.size; have hzn := hbn.size; replace B := B.trans (hbn.mono B.size); (try first | replace r1 := r1.of_eq (hbn.block _ r1.lt) | replace r1 := r1.below hbn); (try first | replace q1 := q1.of_eq (hbn.block _ q1.lt) | replace q1 := q1.below hbn); (try first | replace p2 := p2.of_eq (hbn.block _ p2.lt) | replace p2 := p2.below hbn); (try first | replace u2 := u2.of_eq (hbn.block _ u2.lt) | replace u2 := u2.below hbn)) | (refine wpList_loadAny (t := 30) rfl _ rfl _ _ _ rfl (run_load_B r1 Try.isAgg30 (by kernel_rfl)) (by rfl) ?_; simp only [Act.put, List.setIfInBounds_toArray, List.set_cons_zero, List.set_cons_succ]) | (refine wpList_loadAny (t := 24) rfl _ rfl _ _ _ rfl (run_load_B p2 Try.isAgg24 (by kernel_rfl)) (by rfl) ?_; simp only [Act.put, List.setIfInBounds_toArray, List.set_cons_zero, List.set_cons_succ]) | (refine wpList_storeB (t := 24) rfl _ _ rfl _ rfl _ rfl p2 (by kernel_rfl) rfl (by simp [Value.oneCell']) ?_; clear p2; intro wn ht hcn hzn; have hsz := B.size; replace hzn := Nat.le_of_eq hzn.symm; replace B := Chg.below B hcn (by omega) B.size; (try replace r1 := r1.of_eq (hcn.block _ r1.lt (by omega))); (try replace q1 := q1.of_eq (hcn.block _ q1.lt (by omega))); (try replace u2 := u2.of_eq (hcn.block _ u2.lt (by omega))); have p2 := ht; clear ht; simp only [Act.put, List.setIfInBounds_toArray, List.set_cons_zero, List.set_cons_succ]) | (have _ := q1; refine wpList_allocBk (t := 24) rfl _ (run_alloc_Ps _ _ rfl) ?_; intro b_p2 wn hle hge ht hbn hzn; have hsz := B.size; replace B := B.trans (hbn.mono (by omega)); have hln := Nat.lt_of_lt_of_eq (Nat.lt_succ_self _) hzn.symm; clear hzn; (try first | (have hlt := r1.lt; replace r1 := r1.of_eq (hbn.block _ (by omega))) | replace r1 := r1.below (hbn.mono hle)); (try first | (have hlt := q1.lt; replace q1 := q1.of_eq (hbn.block _ (by omega))) | replace q1 := q1.below (hbn.mono hle)); (try first | (have hlt := p2.lt; replace p2 := p2.of_eq (hbn.block _ (by omega))) | replace p2 := p2.below (hbn.mono hle)); (try first | (have hlt := u2.lt; replace u2 := u2.of_eq (hbn.block _ (by omega))) | replace u2 := u2.below (hbn.mono hle)); have p2 := ht; clear ht; simp only [Act.put, List.setIfInBounds_toArray, List.set_cons_zero, List.set_cons_succ]) | (go_at_call 64; refine (AT.out _).mono ?_; rintro e wn ⟨rfl, hbn⟩; have hsz := B.size; have hzn := hbn.size; replace B := B.trans (hbn.mono B.size); (try first | replace r1 := r1.of_eq (hbn.block _ r1.lt) | replace r1 := r1.below hbn); (try first | replace q1 := q1.of_eq (hbn.block _ q1.lt) | replace q1 := q1.below hbn); (try first | replace p2 := p2.of_eq (hbn.block _ p2.lt) | replace p2 := p2.below hbn); (try first | replace u2 := u2.of_eq (hbn.block _ u2.lt) | replace u2 := u2.below hbn)) | (have _ := r1; refine wpList_allocPx' rfl rfl ?_; intro b_q1 wn hle hge ht hbn hzn; have hsz := B.size; replace B := B.trans (hbn.mono (by omega)); have hln := Nat.lt_of_lt_of_eq (Nat.lt_succ_self _) hzn.symm; clear hzn; (try first | (have hlt := r1.lt; replace r1 := r1.of_eq (hbn.block _ (by omega))) | replace r1 := r1.below (hbn.mono hle)); (try first | (have hlt := q1.lt; replace q1 := q1.of_eq (hbn.block _ (by omega))) | replace q1 := q1.below (hbn.mono hle)); (try first | (have hlt := p2.lt; replace p2 := p2.of_eq (hbn.block _ (by omega))) | replace p2 := p2.below (hbn.mono hle)); (try first | (have hlt := u2.lt; replace u2 := u2.of_eq (hbn.block _ (by omega))) | replace u2 := u2.below (hbn.mono hle)); have q1 := ht; clear ht; simp only [Act.put, List.setIfInBounds_toArray, List.set_cons_zero, List.set_cons_succ]) | (refine wpList_boxB (t := 30) rfl _ rfl _ rfl ?_; intro b_r1 wn hle hge ht hbn hzn; have hsz := B.size; replace B := B.trans (hbn.mono (by omega)); have hln := Nat.lt_of_lt_of_eq (Nat.lt_succ_self _) hzn.symm; clear hzn; (try first | (have hlt := r1.lt; replace r1 := r1.of_eq (hbn.block _ (by omega))) | replace r1 := r1.below (hbn.mono hle)); (try first | (have hlt := q1.lt; replace q1 := q1.of_eq (hbn.block _ (by omega))) | replace q1 := q1.below (hbn.mono hle)); (try first | (have hlt := p2.lt; replace p2 := p2.of_eq (hbn.block _ (by omega))) | replace p2 := p2.below (hbn.mono hle)); (try first | (have hlt := u2.lt; replace u2 := u2.of_eq (hbn.block _ (by omega))) | replace u2 := u2.below (hbn.mono hle)); have r1 := ht; clear ht; simp only [Act.put, List.setIfInBounds_toArray, List.set_cons_zero, List.set_cons_succ]) | fail)
  refine bodyPost_ret (results_px rfl _ _ (b_q1) rfl q1) rfl ?_
  exact ⟨rfl, B⟩
set_option maxHeartbeats 2000000 in
theorem R_SetR (v : Value) (ls : List TA) (x y : Int) (p : Px) (w : World) (h : RS v ls w) (tk : TokL ls) (hn : ls.length ≤ maxLen) (hx : (Lit.int .i64 x).wf = true) (hy : (Lit.int .i64 y).wf = true) (hp : p.ok) : Calls Try.prog 27 #[.agg #[v], .int .i64 x, .int .i64 y, Px.v p] w fun e w' => ∃ v', e = .returned (.agg #[v', .int .i64 (setE ls x y p)]) ∧ RS v' (setR ls x y p) w' ∧ Below w.heap.size w w' := by
  have B := Below.refl w.heap.size w
  obtain ⟨a', c', hT⟩ := R_Of v ls w h tk hn
  have HT := Lib.hid hT
  clear hT
  obtain ⟨a, c, rfl, hc⟩ := h.len
  have HS := Lib.hid h
  have TK := Lib.hid tk
  have hfl : (fineL ls).length ≤ maxLen := by have := fineL_le ls; omega
  obtain ⟨l1, l2⟩ := wf_bd hx
  obtain ⟨l3, l4⟩ := wf_bd hy
  obtain ⟨q, hq⟩ : ∃ q, q = x / 8 := ⟨_, rfl⟩
  obtain ⟨q', hq'⟩ : ∃ q, q = y / 8 := ⟨_, rfl⟩
  have KK : Hid (Tok (setT (tileL (fineL ls) q q') (x % 8) (y % 8) p)) := Lib.hid (by rw [hq, hq']; exact setS_tok tk hp)
  have e1 := Lib.hid (show setE ls x y p = putE ls q q' (setT (tileL (fineL ls) q q') (x % 8) (y % 8) p) from by rw [hq, hq']; rfl)
  have e2 := Lib.hid (show setR ls x y p = putR ls q q' (setT (tileL (fineL ls) q q') (x % 8) (y % 8) p) from by rw [hq, hq']; rfl)
  have hAt : ∀ w, Calls Try.prog 64 #[.int .i64 x, .int .i64 y] w fun e w' => e = .returned (Ps.v q q') ∧ Below w.heap.size w w' := fun w => by rw [hq, hq']; exact R_At x y w hx hy
  have AT := Lib.hid hAt
  have f1 : x - 8 * q = x % 8 := by omega
  have f2 : y - 8 * q' = y % 8 := by omega
  have b1 : -9223372036854775808 ≤ 8 * q := by omega
  have b2 : 8 * q ≤ 9223372036854775807 := by omega
  have b3 : -9223372036854775808 ≤ 8 * q' := by omega
  have b4 : 8 * q' ≤ 9223372036854775807 := by omega
  clear hAt hq hq' hx hy tk h
  go_enter Try.func27, Try.ntmps27
  go_upto_region 2 with (first | (refine wpList_loadAny (t := 24) rfl _ rfl _ _ _ rfl (run_load_B p2 Try.isAgg24 (by kernel_rfl)) (by rfl) ?_; simp only [Act.put, List.setIfInBounds_toArray, List.set_cons_zero, List.set_cons_succ]) | (refine wpList_storeB (t := 24) rfl _ _ rfl _ rfl _ rfl p2 (by kernel_rfl) rfl (by simp [Value.oneCell']) ?_; clear p2; intro wn ht hcn hzn; have hsz := B.size; replace hzn := Nat.le_of_eq hzn.symm; replace B := Chg.below B hcn (by omega) B.size; (try replace r1 := r1.of_eq (hcn.block _ r1.lt (by omega))); (try replace q1 := q1.of_eq (hcn.block _ q1.lt (by omega))); (try replace g2 := g2.of_eq (hcn.block _ g2.lt (by omega))); (try replace u2 := u2.of_eq (hcn.block _ u2.lt (by omega))); have p2 := ht; clear ht; simp only [Act.put, List.setIfInBounds_toArray, List.set_cons_zero, List.set_cons_succ]) | (have _ := g2; refine wpList_allocBk (t := 24) rfl _ (run_alloc_Ps _ _ rfl) ?_; intro b_p2 wn hle hge ht hbn hzn; have hsz := B.size; replace B := B.trans (hbn.mono (by omega)); have hln := Nat.lt_of_lt_of_eq (Nat.lt_succ_self _) hzn.symm; clear hzn; (try first | (have hlt := r1.lt; replace r1 := r1.of_eq (hbn.block _ (by omega))) | replace r1 := r1.below (hbn.mono hle)); (try first | (have hlt := q1.lt; replace q1 := q1.of_eq (hbn.block _ (by omega))) | replace q1 := q1.below (hbn.mono hle)); (try first | (have hlt := g2.lt; replace g2 := g2.of_eq (hbn.block _ (by omega))) | replace g2 := g2.below (hbn.mono hle)); (try first | (have hlt := p2.lt; replace p2 := p2.of_eq (hbn.block _ (by omega))) | replace p2 := p2.below (hbn.mono hle)); (try first | (have hlt := u2.lt; replace u2 := u2.of_eq (hbn.block _ (by omega))) | replace u2 := u2.below (hbn.mono hle)); have p2 := ht; clear ht; simp only [Act.put, List.setIfInBounds_toArray, List.set_cons_zero, List.set_cons_succ]) | (go_at_call 64; refine (AT.out _).mono ?_; rintro e wn ⟨rfl, hbn⟩; have hsz := B.size; have hzn := hbn.size; replace B := B.trans (hbn.mono B.size); (try first | replace r1 := r1.of_eq (hbn.block _ r1.lt) | replace r1 := r1.below hbn); (try first | replace q1 := q1.of_eq (hbn.block _ q1.lt) | replace q1 := q1.below hbn); (try first | replace g2 := g2.of_eq (hbn.block _ g2.lt) | replace g2 := g2.below hbn); (try first | replace p2 := p2.of_eq (hbn.block _ p2.lt) | replace p2 := p2.below hbn); (try first | replace u2 := u2.of_eq (hbn.block _ u2.lt) | replace u2 := u2.below hbn)) | (have _ := q1; refine wpList_allocBk (t := 50) rfl _ (run_alloc_G _ _ rfl) ?_; intro b_g2 wn hle hge ht hbn hzn; have hsz := B.size; replace B := B.trans (hbn.mono (by omega)); have hln := Nat.lt_of_lt_of_eq (Nat.lt_succ_self _) hzn.symm; clear hzn; (try first | (have hlt := r1.lt; replace r1 := r1.of_eq (hbn.block _ (by omega))) | replace r1 := r1.below (hbn.mono hle)); (try first | (have hlt := q1.lt; replace q1 := q1.of_eq (hbn.block _ (by omega))) | replace q1 := q1.below (hbn.mono hle)); (try first | (have hlt := g2.lt; replace g2 := g2.of_eq (hbn.block _ (by omega))) | replace g2 := g2.below (hbn.mono hle)); (try first | (have hlt := p2.lt; replace p2 := p2.of_eq (hbn.block _ (by omega))) | replace p2 := p2.below (hbn.mono hle)); (try first | (have hlt := u2.lt; replace u2 := u2.of_eq (hbn.block _ (by omega))) | replace u2 := u2.below (hbn.mono hle)); have g2 := ht; clear ht; simp only [Act.put, List.setIfInBounds_toArray, List.set_cons_zero, List.set_cons_succ]) | (have _ := r1; refine wpList_boxPx' rfl _ rfl _ rfl ?_; intro b_q1 wn hle hge ht hbn hzn; have hsz := B.size; replace B := B.trans (hbn.mono (by omega)); have hln := Nat.lt_of_lt_of_eq (Nat.lt_succ_self _) hzn.symm; clear hzn; (try first | (have hlt := r1.lt; replace r1 := r1.of_eq (hbn.block _ (by omega))) | replace r1 := r1.below (hbn.mono hle)); (try first | (have hlt := q1.lt; replace q1 := q1.of_eq (hbn.block _ (by omega))) | replace q1 := q1.below (hbn.mono hle)); (try first | (have hlt := g2.lt; replace g2 := g2.of_eq (hbn.block _ (by omega))) | replace g2 := g2.below (hbn.mono hle)); (try first | (have hlt := p2.lt; replace p2 := p2.of_eq (hbn.block _ (by omega))) | replace p2 := p2.below (hbn.mono hle)); (try first | (have hlt := u2.lt; replace u2 := u2.of_eq (hbn.block _ (by omega))) | replace u2 := u2.below (hbn.mono hle)); have q1 := ht; clear ht; simp only [Act.put, List.setIfInBounds_toArray, List.set_cons_zero, List.set_cons_succ]) | (refine wpList_boxB (t := 30) rfl _ rfl _ rfl ?_; intro b_r1 wn hle hge ht hbn hzn; have hsz := B.size; replace B := B.trans (hbn.mono (by omega)); have hln := Nat.lt_of_lt_of_eq (Nat.lt_succ_self _) hzn.symm; clear hzn; (try first | (have hlt := r1.lt; replace r1 := r1.of_eq (hbn.block _ (by omega))) | replace r1 := r1.below (hbn.mono hle)); (try first | (have hlt := q1.lt; replace q1 := q1.of_eq (hbn.block _ (by omega))) | replace q1 := q1.below (hbn.mono hle)); (try first | (have hlt := g2.lt; replace g2 := g2.of_eq (hbn.block _ (by omega))) | replace g2 := g2.below (hbn.mono hle)); (try first | (have hlt := p2.lt; replace p2 := p2.of_eq (hbn.block _ (by omega))) | replace p2 := p2.below (hbn.mono hle)); (try first | (have hlt := u2.lt; replace u2 := u2.of_eq (hbn.block _ (by omega))) | replace u2 := u2.below (hbn.mono hle)); have r1 := ht; clear ht; simp only [Act.put, List.setIfInBounds_toArray, List.set_cons_zero, List.set_cons_succ]) | fail)
  have hp2 := p2.lt
  go_cut [10] from 14 to 17 (fun s wx => ∃ b, s = .pointer (some ⟨b, 0, none⟩) ∧ TileAt wx b (tileL (fineL ls) q q') ∧ Below w.heap.size w wx ∧ b_p2 < b ∧ AtB 30 wx b_r1 #[.slice a ls.length c] ∧ PixAt wx b_q1 p ∧ AtB 50 wx b_g2 #[.slice none 0 0, .int .i64 0] ∧ AtB 24 wx b_p2 #[.int .i64 q, .int .i64 q'])
  case first =>
    try have r1B := r1
    try have q1B := q1
    try have g2B := g2
    try have p2B := p2
    try have u2B := u2
    refine wp_region_X0 5 #[false, false, false, false, false, false] (by kernel_rfl) (by kernel_rfl) ?_
    intro wn hbn
    have hX := hbn
    have hsz := B.size
    have hzn := hbn.size
    replace B := B.trans (hbn.mono B.size)
    try first | replace r1 := r1.of_eq (hbn.block _ r1.lt) | replace r1 := r1.below hbn
    try first | replace q1 := q1.of_eq (hbn.block _ q1.lt) | replace q1 := q1.below hbn
    try first | replace g2 := g2.of_eq (hbn.block _ g2.lt) | replace g2 := g2.below hbn
    try first | replace p2 := p2.of_eq (hbn.block _ p2.lt) | replace p2 := p2.below hbn
    try first | replace u2 := u2.of_eq (hbn.block _ u2.lt) | replace u2 := u2.below hbn
    simp only [List.length_cons, List.length_nil, Nat.reduceAdd]
    refine anyX_take 0 rfl (by kernel_rfl) ⟨_, ov_of hX⟩ ?_
    intro K hK
    try simp only [List.getElem_toArray, List.getElem_cons_zero, List.getElem_cons_succ]
    (first | (refine quiet_loadAny (t := 30) rfl _ _ _ rfl (fun w hw => run_load_B (ov_B r1B w hw) Try.isAgg30 (by kernel_rfl)) (by rfl) ?_; simp only [Act.put, List.setIfInBounds_toArray, List.set_cons_zero, List.set_cons_succ]; go_big_quiet_on) | (refine quiet_loadAny (t := 24) rfl _ _ _ rfl (fun w hw => run_load_B (ov_B p2B w hw) Try.isAgg24 (by kernel_rfl)) (by rfl) ?_; simp only [Act.put, List.setIfInBounds_toArray, List.set_cons_zero, List.set_cons_succ]; go_big_quiet_on) | (go_big_quiet_op; go_big_quiet_on))
    simp only [Act.put, List.setIfInBounds_toArray, List.set_cons_zero, List.set_cons_succ]
    refine anyX_take 2 rfl (by kernel_rfl) ⟨_, ov_of hX⟩ ?_
    intro K hK
    try simp only [List.getElem_toArray, List.getElem_cons_zero, List.getElem_cons_succ]
    (first | (refine quiet_loadAny (t := 30) rfl _ _ _ rfl (fun w hw => run_load_B (ov_B r1B w hw) Try.isAgg30 (by kernel_rfl)) (by rfl) ?_; simp only [Act.put, List.setIfInBounds_toArray, List.set_cons_zero, List.set_cons_succ]; go_big_quiet_on) | (refine quiet_loadAny (t := 24) rfl _ _ _ rfl (fun w hw => run_load_B (ov_B p2B w hw) Try.isAgg24 (by kernel_rfl)) (by rfl) ?_; simp only [Act.put, List.setIfInBounds_toArray, List.set_cons_zero, List.set_cons_succ]; go_big_quiet_on) | (go_big_quiet_op; go_big_quiet_on))
    simp only [Act.put, List.setIfInBounds_toArray, List.set_cons_zero, List.set_cons_succ]
    refine anyX_two 1 4 rfl rfl (by kernel_rfl) rfl rfl (fun K hK => ?_) (fun K hK => ?_)
    · skip
      try simp only [List.getElem_toArray, List.getElem_cons_zero, List.getElem_cons_succ]
      go_simp
      go_at_call 70
      refine ((HT.out _ B).1).mono ?_
      rintro e wn ⟨rfl, hbn⟩
      have hsz := B.size
      have hzn := hbn.size
      have hsx := hX.size
      replace B := B.trans (hbn.mono B.size)
      replace hX := hX.trans (hbn.mono hX.size)
      try first | replace r1 := r1.of_eq (hbn.block _ r1.lt) | replace r1 := r1.below hbn
      try first | replace q1 := q1.of_eq (hbn.block _ q1.lt) | replace q1 := q1.below hbn
      try first | replace g2 := g2.of_eq (hbn.block _ g2.lt) | replace g2 := g2.below hbn
      try first | replace p2 := p2.of_eq (hbn.block _ p2.lt) | replace p2 := p2.below hbn
      try first | replace u2 := u2.of_eq (hbn.block _ u2.lt) | replace u2 := u2.below hbn
      refine hK _ _ ⟨fun _ => ⟨_, ov_of hX⟩, ?_⟩
      clear hK K
      try simp only [List.getElem_toArray, List.getElem_cons_zero, List.getElem_cons_succ]
      simp only [Act.put, List.setIfInBounds_toArray, List.set_cons_zero, List.set_cons_succ]
      refine anyX_two 3 4 rfl rfl (by kernel_rfl) rfl rfl (fun K hK => ?_) (fun K hK => ?_)
      · skip
        try simp only [List.getElem_toArray, List.getElem_cons_zero, List.getElem_cons_succ]
        go_simp
        go_at_call 23
        refine (R_Tile _ (fineL ls) q q' _ (HT.out _ B).2 hfl).mono ?_
        rintro e wn ⟨rfl, hbn⟩
        have hsz := B.size
        have hzn := hbn.size
        have hsx := hX.size
        replace B := B.trans (hbn.mono B.size)
        replace hX := hX.trans (hbn.mono hX.size)
        try first | replace r1 := r1.of_eq (hbn.block _ r1.lt) | replace r1 := r1.below hbn
        try first | replace q1 := q1.of_eq (hbn.block _ q1.lt) | replace q1 := q1.below hbn
        try first | replace g2 := g2.of_eq (hbn.block _ g2.lt) | replace g2 := g2.below hbn
        try first | replace p2 := p2.of_eq (hbn.block _ p2.lt) | replace p2 := p2.below hbn
        try first | replace u2 := u2.of_eq (hbn.block _ u2.lt) | replace u2 := u2.below hbn
        refine hK _ _ ⟨fun _ => ⟨_, ov_of hX⟩, ?_⟩
        clear hK K
        try simp only [List.getElem_toArray, List.getElem_cons_zero, List.getElem_cons_succ]
        simp only [Act.put, List.setIfInBounds_toArray, List.set_cons_zero, List.set_cons_succ]
        refine anyX_next 4 rfl (by kernel_rfl) rfl (fun K hK => ?_)
        try simp only [List.getElem_toArray, List.getElem_cons_zero, List.getElem_cons_succ]
        refine owp_allocTb rfl ?_
        intro b_u2 wn hle hge ht hbn hzn
        have hsz := B.size
        have hsx := hX.size
        replace B := B.trans (hbn.mono (by omega))
        replace hX := hX.trans (hbn.mono (by omega))
        try first | (have hlt := r1.lt; replace r1 := r1.of_eq (hbn.block _ (by omega))) | replace r1 := r1.below (hbn.mono hle)
        try first | (have hlt := q1.lt; replace q1 := q1.of_eq (hbn.block _ (by omega))) | replace q1 := q1.below (hbn.mono hle)
        try first | (have hlt := g2.lt; replace g2 := g2.of_eq (hbn.block _ (by omega))) | replace g2 := g2.below (hbn.mono hle)
        try first | (have hlt := p2.lt; replace p2 := p2.of_eq (hbn.block _ (by omega))) | replace p2 := p2.below (hbn.mono hle)
        try first | (have hlt := u2.lt; replace u2 := u2.of_eq (hbn.block _ (by omega))) | replace u2 := u2.below (hbn.mono hle)
        have u2 := ht
        clear ht
        refine hK _ _ ⟨fun _ => ⟨_, ov_of hX⟩, ?_⟩
        clear hK K
        try simp only [List.getElem_toArray, List.getElem_cons_zero, List.getElem_cons_succ]
        simp only [Act.put, List.setIfInBounds_toArray, List.set_cons_zero, List.set_cons_succ]
        refine anyX_seq (by kernel_rfl) (by kernel_rfl) ?_
        simp only [List.drop_succ_cons, List.drop_zero]
        go_wp2_with (first | (refine wpList_storeT rfl _ _ rfl _ rfl _ rfl u2 ?_; clear u2; intro wn ht hcn hzn; have hsz := B.size; replace hzn := Nat.le_of_eq hzn.symm; replace B := Chg.below B hcn (by omega) B.size; (try replace r1 := r1.of_eq (hcn.block _ r1.lt (by omega))); (try replace q1 := q1.of_eq (hcn.block _ q1.lt (by omega))); (try replace g2 := g2.of_eq (hcn.block _ g2.lt (by omega))); (try replace p2 := p2.of_eq (hcn.block _ p2.lt (by omega))); have u2 := ht; clear ht; simp only [Act.put, List.setIfInBounds_toArray, List.set_cons_zero, List.set_cons_succ]) | fail)
        refine NoPan.normal ?_
        go_wp2_with fail
        go_meet
        exact ⟨_, rfl, u2, B, by omega, r1, q1, g2, p2⟩
      · skip
        try simp only [List.getElem_toArray, List.getElem_cons_zero, List.getElem_cons_succ]
        refine owp_allocTb rfl ?_
        intro b_u2 wn hle hge ht hbn hzn
        have hsz := B.size
        have hsx := hX.size
        replace B := B.trans (hbn.mono (by omega))
        replace hX := hX.trans (hbn.mono (by omega))
        try first | (have hlt := r1.lt; replace r1 := r1.of_eq (hbn.block _ (by omega))) | replace r1 := r1.below (hbn.mono hle)
        try first | (have hlt := q1.lt; replace q1 := q1.of_eq (hbn.block _ (by omega))) | replace q1 := q1.below (hbn.mono hle)
        try first | (have hlt := g2.lt; replace g2 := g2.of_eq (hbn.block _ (by omega))) | replace g2 := g2.below (hbn.mono hle)
        try first | (have hlt := p2.lt; replace p2 := p2.of_eq (hbn.block _ (by omega))) | replace p2 := p2.below (hbn.mono hle)
        try first | (have hlt := u2.lt; replace u2 := u2.of_eq (hbn.block _ (by omega))) | replace u2 := u2.below (hbn.mono hle)
        have u2 := ht
        clear ht
        refine hK _ _ ⟨fun _ => ⟨_, ov_of hX⟩, ?_⟩
        clear hK K
        try simp only [List.getElem_toArray, List.getElem_cons_zero, List.getElem_cons_succ]
        simp only [Act.put, List.setIfInBounds_toArray, List.set_cons_zero, List.set_cons_succ]
        refine anyX_next 3 rfl (by kernel_rfl) rfl (fun K hK => ?_)
        try simp only [List.getElem_toArray, List.getElem_cons_zero, List.getElem_cons_succ]
        go_simp
        go_at_call 23
        refine (R_Tile _ (fineL ls) q q' _ (HT.out _ B).2 hfl).mono ?_
        rintro e wn ⟨rfl, hbn⟩
        have hsz := B.size
        have hzn := hbn.size
        have hsx := hX.size
        replace B := B.trans (hbn.mono B.size)
        replace hX := hX.trans (hbn.mono hX.size)
        try first | replace r1 := r1.of_eq (hbn.block _ r1.lt) | replace r1 := r1.below hbn
        try first | replace q1 := q1.of_eq (hbn.block _ q1.lt) | replace q1 := q1.below hbn
        try first | replace g2 := g2.of_eq (hbn.block _ g2.lt) | replace g2 := g2.below hbn
        try first | replace p2 := p2.of_eq (hbn.block _ p2.lt) | replace p2 := p2.below hbn
        try first | replace u2 := u2.of_eq (hbn.block _ u2.lt) | replace u2 := u2.below hbn
        refine hK _ _ ⟨fun _ => ⟨_, ov_of hX⟩, ?_⟩
        clear hK K
        try simp only [List.getElem_toArray, List.getElem_cons_zero, List.getElem_cons_succ]
        simp only [Act.put, List.setIfInBounds_toArray, List.set_cons_zero, List.set_cons_succ]
        refine anyX_seq (by kernel_rfl) (by kernel_rfl) ?_
        simp only [List.drop_succ_cons, List.drop_zero]
        go_wp2_with (first | (refine wpList_storeT rfl _ _ rfl _ rfl _ rfl u2 ?_; clear u2; intro wn ht hcn hzn; have hsz := B.size; replace hzn := Nat.le_of_eq hzn.symm; replace B := Chg.below B hcn (by omega) B.size; (try replace r1 := r1.of_eq (hcn.block _ r1.lt (by omega))); (try replace q1 := q1.of_eq (hcn.block _ q1.lt (by omega))); (try replace g2 := g2.of_eq (hcn.block _ g2.lt (by omega))); (try replace p2 := p2.of_eq (hcn.block _ p2.lt (by omega))); have u2 := ht; clear ht; simp only [Act.put, List.setIfInBounds_toArray, List.set_cons_zero, List.set_cons_succ]) | fail)
        refine NoPan.normal ?_
        go_wp2_with fail
        go_meet
        exact ⟨_, rfl, u2, B, by omega, r1, q1, g2, p2⟩
    · skip
      try simp only [List.getElem_toArray, List.getElem_cons_zero, List.getElem_cons_succ]
      refine owp_allocTb rfl ?_
      intro b_u2 wn hle hge ht hbn hzn
      have hsz := B.size
      have hsx := hX.size
      replace B := B.trans (hbn.mono (by omega))
      replace hX := hX.trans (hbn.mono (by omega))
      try first | (have hlt := r1.lt; replace r1 := r1.of_eq (hbn.block _ (by omega))) | replace r1 := r1.below (hbn.mono hle)
      try first | (have hlt := q1.lt; replace q1 := q1.of_eq (hbn.block _ (by omega))) | replace q1 := q1.below (hbn.mono hle)
      try first | (have hlt := g2.lt; replace g2 := g2.of_eq (hbn.block _ (by omega))) | replace g2 := g2.below (hbn.mono hle)
      try first | (have hlt := p2.lt; replace p2 := p2.of_eq (hbn.block _ (by omega))) | replace p2 := p2.below (hbn.mono hle)
      try first | (have hlt := u2.lt; replace u2 := u2.of_eq (hbn.block _ (by omega))) | replace u2 := u2.below (hbn.mono hle)
      have u2 := ht
      clear ht
      refine hK _ _ ⟨fun _ => ⟨_, ov_of hX⟩, ?_⟩
      clear hK K
      try simp only [List.getElem_toArray, List.getElem_cons_zero, List.getElem_cons_succ]
      simp only [Act.put, List.setIfInBounds_toArray, List.set_cons_zero, List.set_cons_succ]
      refine anyX_next 1 rfl (by kernel_rfl) rfl (fun K hK => ?_)
      try simp only [List.getElem_toArray, List.getElem_cons_zero, List.getElem_cons_succ]
      go_simp
      go_at_call 70
      refine ((HT.out _ B).1).mono ?_
      rintro e wn ⟨rfl, hbn⟩
      have hsz := B.size
      have hzn := hbn.size
      have hsx := hX.size
      replace B := B.trans (hbn.mono B.size)
      replace hX := hX.trans (hbn.mono hX.size)
      try first | replace r1 := r1.of_eq (hbn.block _ r1.lt) | replace r1 := r1.below hbn
      try first | replace q1 := q1.of_eq (hbn.block _ q1.lt) | replace q1 := q1.below hbn
      try first | replace g2 := g2.of_eq (hbn.block _ g2.lt) | replace g2 := g2.below hbn
      try first | replace p2 := p2.of_eq (hbn.block _ p2.lt) | replace p2 := p2.below hbn
      try first | replace u2 := u2.of_eq (hbn.block _ u2.lt) | replace u2 := u2.below hbn
      refine hK _ _ ⟨fun _ => ⟨_, ov_of hX⟩, ?_⟩
      clear hK K
      try simp only [List.getElem_toArray, List.getElem_cons_zero, List.getElem_cons_succ]
      simp only [Act.put, List.setIfInBounds_toArray, List.set_cons_zero, List.set_cons_succ]
      refine anyX_next 3 rfl (by kernel_rfl) rfl (fun K hK => ?_)
      try simp only [List.getElem_toArray, List.getElem_cons_zero, List.getElem_cons_succ]
      go_simp
      go_at_call 23
      refine (R_Tile _ (fineL ls) q q' _ (HT.out _ B).2 hfl).mono ?_
      rintro e wn ⟨rfl, hbn⟩
      have hsz := B.size
      have hzn := hbn.size
      have hsx := hX.size
      replace B := B.trans (hbn.mono B.size)
      replace hX := hX.trans (hbn.mono hX.size)
      try first | replace r1 := r1.of_eq (hbn.block _ r1.lt) | replace r1 := r1.below hbn
      try first | replace q1 := q1.of_eq (hbn.block _ q1.lt) | replace q1 := q1.below hbn
      try first | replace g2 := g2.of_eq (hbn.block _ g2.lt) | replace g2 := g2.below hbn
      try first | replace p2 := p2.of_eq (hbn.block _ p2.lt) | replace p2 := p2.below hbn
      try first | replace u2 := u2.of_eq (hbn.block _ u2.lt) | replace u2 := u2.below hbn
      refine hK _ _ ⟨fun _ => ⟨_, ov_of hX⟩, ?_⟩
      clear hK K
      try simp only [List.getElem_toArray, List.getElem_cons_zero, List.getElem_cons_succ]
      simp only [Act.put, List.setIfInBounds_toArray, List.set_cons_zero, List.set_cons_succ]
      refine anyX_seq (by kernel_rfl) (by kernel_rfl) ?_
      simp only [List.drop_succ_cons, List.drop_zero]
      go_wp2_with (first | (refine wpList_storeT rfl _ _ rfl _ rfl _ rfl u2 ?_; clear u2; intro wn ht hcn hzn; have hsz := B.size; replace hzn := Nat.le_of_eq hzn.symm; replace B := Chg.below B hcn (by omega) B.size; (try replace r1 := r1.of_eq (hcn.block _ r1.lt (by omega))); (try replace q1 := q1.of_eq (hcn.block _ q1.lt (by omega))); (try replace g2 := g2.of_eq (hcn.block _ g2.lt (by omega))); (try replace p2 := p2.of_eq (hcn.block _ p2.lt (by omega))); have u2 := ht; clear ht; simp only [Act.put, List.setIfInBounds_toArray, List.set_cons_zero, List.set_cons_succ]) | fail)
      refine NoPan.normal ?_
      go_wp2_with fail
      go_meet
      exact ⟨_, rfl, u2, B, by omega, r1, q1, g2, p2⟩
  case rest =>
    obtain ⟨b_u2, rfl, u2, B, hb2, r1, q1, g2, p2⟩ := hcut
    go_wp2
    refine wp_region_ov_tail 15 (by kernel_rfl) (by kernel_rfl) ?_
    simp only [List.take_succ_cons, List.take_zero, List.drop_succ_cons, List.drop_zero]
    repeat (first | go_big_quiet_skip | (go_big_quiet_want; first | (refine quiet_loadAny (t := 30) rfl _ _ _ rfl (fun w hw => run_load_B (ov_B r1 w hw) Try.isAgg30 (by kernel_rfl)) (by rfl) ?_; simp only [Act.put, List.setIfInBounds_toArray, List.set_cons_zero, List.set_cons_succ]; go_big_quiet_on) | (refine quiet_loadAny (t := 3) rfl _ _ _ rfl (fun w hw => run_load_int ((ov_B p2 w hw).cell 0 rfl)) (by rfl) ?_; simp only [Act.put, List.setIfInBounds_toArray, List.set_cons_zero, List.set_cons_succ]; go_big_quiet_on) | (refine quiet_loadAny (t := 3) rfl _ _ _ rfl (fun w hw => run_load_int ((ov_B p2 w hw).cell 1 rfl)) (by rfl) ?_; simp only [Act.put, List.setIfInBounds_toArray, List.set_cons_zero, List.set_cons_succ]; go_big_quiet_on) | (refine quiet_loadAny (t := 24) rfl _ _ _ rfl (fun w hw => run_load_B (ov_B p2 w hw) Try.isAgg24 (by kernel_rfl)) (by rfl) ?_; simp only [Act.put, List.setIfInBounds_toArray, List.set_cons_zero, List.set_cons_succ]; go_big_quiet_on) | (refine quiet_loadT rfl _ rfl (ov_tile u2) ?_; simp only [Act.put, List.setIfInBounds_toArray, List.set_cons_zero, List.set_cons_succ]; go_big_quiet_on) | (refine quiet_loadPx rfl _ rfl (ov_px q1) ?_; simp only [Act.put, List.setIfInBounds_toArray, List.set_cons_zero, List.set_cons_succ]; go_big_quiet_on) | (go_big_quiet_op; first | go_big_quiet_on | go_big_quiet_call ((first | (go_at_call 71; exact calls_ov (R_Set _ _ _ _ _)))))))
    refine wpQuiet_nil ?_
    intro wn hbn
    have hsz := B.size
    have hzn := hbn.size
    replace B := B.trans (hbn.mono B.size)
    try first | replace r1 := r1.of_eq (hbn.block _ r1.lt) | replace r1 := r1.below hbn
    try first | replace q1 := q1.of_eq (hbn.block _ q1.lt) | replace q1 := q1.below hbn
    try first | replace g2 := g2.of_eq (hbn.block _ g2.lt) | replace g2 := g2.below hbn
    try first | replace p2 := p2.of_eq (hbn.block _ p2.lt) | replace p2 := p2.below hbn
    try first | replace u2 := u2.of_eq (hbn.block _ u2.lt) | replace u2 := u2.below hbn
    go_wp2_with (first | (refine wpList_storeB (t := 50) rfl _ _ rfl _ rfl _ rfl g2 (by kernel_rfl) rfl (by simp [Value.oneCell']) ?_; have g2o := g2; clear g2; intro wn ht hcn hzn; replace rs1 := rs1.chg g2o (by simp) hcn; have hsz := B.size; replace hzn := Nat.le_of_eq hzn.symm; replace B := Chg.below B hcn (by omega) B.size; (try replace r1 := r1.of_eq (hcn.block _ r1.lt (by omega))); (try replace q1 := q1.of_eq (hcn.block _ q1.lt (by omega))); (try replace p2 := p2.of_eq (hcn.block _ p2.lt (by omega))); (try replace u2 := u2.of_eq (hcn.block _ u2.lt (by omega))); have g2 := ht; clear ht; simp only [Act.put, List.setIfInBounds_toArray, List.set_cons_zero, List.set_cons_succ]) | (go_at_call 29; refine (R_PutR _ ls q q' _ _ (HS.out.below B) TK.out hn KK.out).mono ?_; rintro e wn ⟨v1, rfl, rs1, hbn⟩; obtain ⟨a1, c1, rfl, hc1⟩ := rs1.len; have hsz := B.size; have hzn := hbn.size; replace B := B.trans (hbn.mono B.size); (try first | replace r1 := r1.of_eq (hbn.block _ r1.lt) | replace r1 := r1.below hbn); (try first | replace q1 := q1.of_eq (hbn.block _ q1.lt) | replace q1 := q1.below hbn); (try first | replace g2 := g2.of_eq (hbn.block _ g2.lt) | replace g2 := g2.below hbn); (try first | replace p2 := p2.of_eq (hbn.block _ p2.lt) | replace p2 := p2.below hbn); (try first | replace u2 := u2.of_eq (hbn.block _ u2.lt) | replace u2 := u2.below hbn)) | fail)
    refine bodyPost_ret (results_B (t := 50) rfl _ _ (b_g2) rfl g2 Try.isAgg50 (by kernel_rfl)) rfl ?_
    refine ⟨_, by rw [e1.out]; try rfl, ?_, B⟩
    rw [e2.out]
    exact rs1
end Go.Proofs.Ytppccnjckiedlaa
