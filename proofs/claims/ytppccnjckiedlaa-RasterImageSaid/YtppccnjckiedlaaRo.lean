/- Contracts of the reference's Of, many, put, Put, Set, Get. -/
import Derived.Test.YtppccnjckiedlaaRl
import Derived.Test.YtppccnjckiedlaaAg
namespace Go.Proofs.Ytppccnjckiedlaa
open Go.RowKit Go.Shelf Pl
set_option linter.unusedVariables false
set_option linter.unusedSimpArgs false
set_option maxRecDepth 20000

theorem R_Of0 (a : Option Addr) (c : Nat) (ls : List TA) (w : World) (h : RS (.slice a ls.length c) ls w) (tk : TokL ls) (hn : ls.length ≤ maxLen) : Calls Try.prog 70 #[.agg #[.slice a ls.length c]] w fun e w' => e = .returned (.agg #[if validL ls = true then .slice a ls.length c else .slice none 0 0]) ∧ Below w.heap.size w w' := by
  have B := Below.refl w.heap.size w
  have HS := Lib.hid h
  clear h
  cases hv : validL ls with
  | true =>
    rw [if_pos rfl]
    go_enter Try.func70, Try.ntmps70
    go_wp2_with (first | (refine wpList_storeB (t := 30) rfl _ _ rfl _ rfl _ rfl r2 (by kernel_rfl) rfl (by simp [Value.oneCell']) ?_; clear r2; intro wn ht hcn hzn; have hsz := B.size; replace hzn := Nat.le_of_eq hzn.symm; replace B := Chg.below B hcn (by omega) B.size; (try replace r1 := r1.of_eq (hcn.block _ r1.lt (by omega))); have r2 := ht; clear ht; simp only [Act.put, List.setIfInBounds_toArray, List.set_cons_zero, List.set_cons_succ]) | (go_at_call 17; refine (R_Valid _ ls _ (HS.out.below B) tk hn).mono ?_; rintro e wn ⟨rfl, hbn⟩; have hsz := B.size; have hzn := hbn.size; replace B := B.trans (hbn.mono B.size); (try first | replace r1 := r1.of_eq (hbn.block _ r1.lt) | replace r1 := r1.below hbn); (try first | replace r2 := r2.of_eq (hbn.block _ r2.lt) | replace r2 := r2.below hbn)) | (refine wpList_loadAny (t := 30) rfl _ rfl _ _ _ rfl (run_load_B r1 Try.isAgg30 (by kernel_rfl)) (by rfl) ?_; simp only [Act.put, List.setIfInBounds_toArray, List.set_cons_zero, List.set_cons_succ]) | (have _ := r1; refine wpList_allocBk (t := 30) rfl _ (run_alloc_R _ _ rfl) ?_; intro b_r2 wn hle hge ht hbn hzn; have hsz := B.size; replace B := B.trans (hbn.mono (by omega)); have hln := Nat.lt_of_lt_of_eq (Nat.lt_succ_self _) hzn.symm; clear hzn; (try first | (have hlt := r1.lt; replace r1 := r1.of_eq (hbn.block _ (by omega))) | replace r1 := r1.below (hbn.mono hle)); (try first | (have hlt := r2.lt; replace r2 := r2.of_eq (hbn.block _ (by omega))) | replace r2 := r2.below (hbn.mono hle)); have r2 := ht; clear ht; simp only [Act.put, List.setIfInBounds_toArray, List.set_cons_zero, List.set_cons_succ]) | (refine wpList_boxB (t := 30) rfl _ rfl _ rfl ?_; intro b_r1 wn hle hge ht hbn hzn; have hsz := B.size; replace B := B.trans (hbn.mono (by omega)); have hln := Nat.lt_of_lt_of_eq (Nat.lt_succ_self _) hzn.symm; clear hzn; (try first | (have hlt := r1.lt; replace r1 := r1.of_eq (hbn.block _ (by omega))) | replace r1 := r1.below (hbn.mono hle)); (try first | (have hlt := r2.lt; replace r2 := r2.of_eq (hbn.block _ (by omega))) | replace r2 := r2.below (hbn.mono hle)); have r1 := ht; clear ht; simp only [Act.put, List.setIfInBounds_toArray, List.set_cons_zero, List.set_cons_succ]) | fail)
    refine bodyPost_ret (results_B (t := 30) rfl _ _ (b_r2) rfl r2 Try.isAgg30 (by kernel_rfl)) rfl ?_
    exact ⟨rfl, B⟩
  | false =>
    rw [if_neg (by decide)]
    go_enter Try.func70, Try.ntmps70
    go_wp2_with (first | (refine wpList_storeB (t := 30) rfl _ _ rfl _ rfl _ rfl r2 (by kernel_rfl) rfl (by simp [Value.oneCell']) ?_; clear r2; intro wn ht hcn hzn; have hsz := B.size; replace hzn := Nat.le_of_eq hzn.symm; replace B := Chg.below B hcn (by omega) B.size; (try replace r1 := r1.of_eq (hcn.block _ r1.lt (by omega))); have r2 := ht; clear ht; simp only [Act.put, List.setIfInBounds_toArray, List.set_cons_zero, List.set_cons_succ]) | (go_at_call 17; refine (R_Valid _ ls _ (HS.out.below B) tk hn).mono ?_; rintro e wn ⟨rfl, hbn⟩; have hsz := B.size; have hzn := hbn.size; replace B := B.trans (hbn.mono B.size); (try first | replace r1 := r1.of_eq (hbn.block _ r1.lt) | replace r1 := r1.below hbn); (try first | replace r2 := r2.of_eq (hbn.block _ r2.lt) | replace r2 := r2.below hbn)) | (refine wpList_loadAny (t := 30) rfl _ rfl _ _ _ rfl (run_load_B r1 Try.isAgg30 (by kernel_rfl)) (by rfl) ?_; simp only [Act.put, List.setIfInBounds_toArray, List.set_cons_zero, List.set_cons_succ]) | (have _ := r1; refine wpList_allocBk (t := 30) rfl _ (run_alloc_R _ _ rfl) ?_; intro b_r2 wn hle hge ht hbn hzn; have hsz := B.size; replace B := B.trans (hbn.mono (by omega)); have hln := Nat.lt_of_lt_of_eq (Nat.lt_succ_self _) hzn.symm; clear hzn; (try first | (have hlt := r1.lt; replace r1 := r1.of_eq (hbn.block _ (by omega))) | replace r1 := r1.below (hbn.mono hle)); (try first | (have hlt := r2.lt; replace r2 := r2.of_eq (hbn.block _ (by omega))) | replace r2 := r2.below (hbn.mono hle)); have r2 := ht; clear ht; simp only [Act.put, List.setIfInBounds_toArray, List.set_cons_zero, List.set_cons_succ]) | (refine wpList_boxB (t := 30) rfl _ rfl _ rfl ?_; intro b_r1 wn hle hge ht hbn hzn; have hsz := B.size; replace B := B.trans (hbn.mono (by omega)); have hln := Nat.lt_of_lt_of_eq (Nat.lt_succ_self _) hzn.symm; clear hzn; (try first | (have hlt := r1.lt; replace r1 := r1.of_eq (hbn.block _ (by omega))) | replace r1 := r1.below (hbn.mono hle)); (try first | (have hlt := r2.lt; replace r2 := r2.of_eq (hbn.block _ (by omega))) | replace r2 := r2.below (hbn.mono hle)); have r1 := ht; clear ht; simp only [Act.put, List.setIfInBounds_toArray, List.set_cons_zero, List.set_cons_succ]) | fail)
    refine bodyPost_ret (results_B (t := 30) rfl _ _ (b_r2) rfl r2 Try.isAgg30 (by kernel_rfl)) rfl ?_
    exact ⟨rfl, B⟩
/-- The raster that Of returns: known ahead of the walk. -/
theorem R_Of (v : Value) (ls : List TA) (w : World) (h : RS v ls w) (tk : TokL ls) (hn : ls.length ≤ maxLen) : ∃ a c, ∀ w', Below w.heap.size w w' → (Calls Try.prog 70 #[.agg #[v]] w' fun e w'' => e = .returned (.agg #[.slice a (fineL ls).length c]) ∧ Below w'.heap.size w' w'') ∧ RS (.slice a (fineL ls).length c) (fineL ls) w' := by
  obtain ⟨a, c, rfl, hc⟩ := h.len
  cases hv : validL ls with
  | true =>
    rw [fineL_of hv]
    refine ⟨a, c, fun w' hb => ⟨?_, h.below hb⟩⟩
    have := R_Of0 a c ls w' (h.below hb) tk hn
    rw [hv, if_pos rfl] at this
    exact this
  | false =>
    rw [fineL_no hv]
    refine ⟨none, 0, fun w' hb => ⟨?_, RS.nil _⟩⟩
    have := R_Of0 a c ls w' (h.below hb) tk hn
    rw [hv, if_neg (by decide)] at this
    exact this
theorem run_alloc_G (w : World) (o : Oper) (ho : o.op = .alloc 50) (ev : Operand → Value) : (execOp ev o).run Try.prog w = .ok (.value (.pointer (some ⟨w.heap.size, 0, none⟩))) (w.alloc (.cells #[.slice none 0 0, .int .i64 0] 50)) := by
  obtain ⟨d, p, t, ps, af, gd⟩ := o
  simp only at ho
  subst ho
  kernel_rfl
theorem R_many (a : Option Addr) (n c : Nat) (w : World) (hn : n ≤ maxLen) : Calls Try.prog 74 #[.agg #[.slice a n c]] w fun e w' => e = .returned (if n ≤ 1024 then .agg #[.slice a n c, .int .i64 0] else .agg #[.slice none 0 0, .int .i64 2]) ∧ Below w.heap.size w w' := by
  have B := Below.refl w.heap.size w
  by_cases h : n ≤ 1024
  · rw [if_pos h]
    have d1 : decide (1024 < (n : Int)) = false := decide_eq_false (by omega)
    go_enter Try.func74, Try.ntmps74
    go_wp2_with (first | (refine wpList_storeB (t := 50) rfl _ _ rfl _ rfl _ rfl g2 (by kernel_rfl) rfl (by simp [Value.oneCell']) ?_; clear g2; intro wn ht hcn hzn; have hsz := B.size; replace hzn := Nat.le_of_eq hzn.symm; replace B := Chg.below B hcn (by omega) B.size; (try replace r1 := r1.of_eq (hcn.block _ r1.lt (by omega))); have g2 := ht; clear ht; simp only [Act.put, List.setIfInBounds_toArray, List.set_cons_zero, List.set_cons_succ]) | (refine wpList_loadAny (t := 30) rfl _ rfl _ _ _ rfl (run_load_B r1 Try.isAgg30 (by kernel_rfl)) (by rfl) ?_; simp only [Act.put, List.setIfInBounds_toArray, List.set_cons_zero, List.set_cons_succ]) | (refine wpList_loadAny (t := 28) rfl _ rfl _ _ _ rfl (run_load_sl r1.cell0) (by rfl) ?_; simp only [Act.put, List.setIfInBounds_toArray, List.set_cons_zero, List.set_cons_succ]) | (have _ := r1; refine wpList_allocBk (t := 50) rfl _ (run_alloc_G _ _ rfl) ?_; intro b_g2 wn hle hge ht hbn hzn; have hsz := B.size; replace B := B.trans (hbn.mono (by omega)); have hln := Nat.lt_of_lt_of_eq (Nat.lt_succ_self _) hzn.symm; clear hzn; (try first | (have hlt := r1.lt; replace r1 := r1.of_eq (hbn.block _ (by omega))) | replace r1 := r1.below (hbn.mono hle)); (try first | (have hlt := g2.lt; replace g2 := g2.of_eq (hbn.block _ (by omega))) | replace g2 := g2.below (hbn.mono hle)); have g2 := ht; clear ht; simp only [Act.put, List.setIfInBounds_toArray, List.set_cons_zero, List.set_cons_succ]) | (refine wpList_boxB (t := 30) rfl _ rfl _ rfl ?_; intro b_r1 wn hle hge ht hbn hzn; have hsz := B.size; replace B := B.trans (hbn.mono (by omega)); have hln := Nat.lt_of_lt_of_eq (Nat.lt_succ_self _) hzn.symm; clear hzn; (try first | (have hlt := r1.lt; replace r1 := r1.of_eq (hbn.block _ (by omega))) | replace r1 := r1.below (hbn.mono hle)); (try first | (have hlt := g2.lt; replace g2 := g2.of_eq (hbn.block _ (by omega))) | replace g2 := g2.below (hbn.mono hle)); have r1 := ht; clear ht; simp only [Act.put, List.setIfInBounds_toArray, List.set_cons_zero, List.set_cons_succ]) | fail)
    refine bodyPost_ret (results_B (t := 50) rfl _ _ (b_g2) rfl g2 Try.isAgg50 (by kernel_rfl)) rfl ?_
    exact ⟨rfl, B⟩
  · rw [if_neg h]
    have d1 : decide (1024 < (n : Int)) = true := decide_eq_true (by omega)
    go_enter Try.func74, Try.ntmps74
    go_wp2_with (first | (refine wpList_storeB (t := 50) rfl _ _ rfl _ rfl _ rfl g2 (by kernel_rfl) rfl (by simp [Value.oneCell']) ?_; clear g2; intro wn ht hcn hzn; have hsz := B.size; replace hzn := Nat.le_of_eq hzn.symm; replace B := Chg.below B hcn (by omega) B.size; (try replace r1 := r1.of_eq (hcn.block _ r1.lt (by omega))); have g2 := ht; clear ht; simp only [Act.put, List.setIfInBounds_toArray, List.set_cons_zero, List.set_cons_succ]) | (refine wpList_loadAny (t := 30) rfl _ rfl _ _ _ rfl (run_load_B r1 Try.isAgg30 (by kernel_rfl)) (by rfl) ?_; simp only [Act.put, List.setIfInBounds_toArray, List.set_cons_zero, List.set_cons_succ]) | (refine wpList_loadAny (t := 28) rfl _ rfl _ _ _ rfl (run_load_sl r1.cell0) (by rfl) ?_; simp only [Act.put, List.setIfInBounds_toArray, List.set_cons_zero, List.set_cons_succ]) | (have _ := r1; refine wpList_allocBk (t := 50) rfl _ (run_alloc_G _ _ rfl) ?_; intro b_g2 wn hle hge ht hbn hzn; have hsz := B.size; replace B := B.trans (hbn.mono (by omega)); have hln := Nat.lt_of_lt_of_eq (Nat.lt_succ_self _) hzn.symm; clear hzn; (try first | (have hlt := r1.lt; replace r1 := r1.of_eq (hbn.block _ (by omega))) | replace r1 := r1.below (hbn.mono hle)); (try first | (have hlt := g2.lt; replace g2 := g2.of_eq (hbn.block _ (by omega))) | replace g2 := g2.below (hbn.mono hle)); have g2 := ht; clear ht; simp only [Act.put, List.setIfInBounds_toArray, List.set_cons_zero, List.set_cons_succ]) | (refine wpList_boxB (t := 30) rfl _ rfl _ rfl ?_; intro b_r1 wn hle hge ht hbn hzn; have hsz := B.size; replace B := B.trans (hbn.mono (by omega)); have hln := Nat.lt_of_lt_of_eq (Nat.lt_succ_self _) hzn.symm; clear hzn; (try first | (have hlt := r1.lt; replace r1 := r1.of_eq (hbn.block _ (by omega))) | replace r1 := r1.below (hbn.mono hle)); (try first | (have hlt := g2.lt; replace g2 := g2.of_eq (hbn.block _ (by omega))) | replace g2 := g2.below (hbn.mono hle)); have r1 := ht; clear ht; simp only [Act.put, List.setIfInBounds_toArray, List.set_cons_zero, List.set_cons_succ]) | fail)
    refine bodyPost_ret (results_B (t := 50) rfl _ _ (b_g2) rfl g2 Try.isAgg50 (by kernel_rfl)) rfl ?_
    exact ⟨rfl, B⟩
/-! ### put -/
theorem wpList_storeO {v : Value} {ops : Array Oper} {rest : List Oper} {o : Oper} {a : Act} {w : World} {Q : Exit → Act → World → Prop} (hg : o.guard = none) (x y : Operand) (ho : o.op = .store 28 x y) (b : Nat) (hx : a.eval x = .pointer (some ⟨b, 0, none⟩)) (a' : Option Addr) (n' c' : Nat) (hy : a.eval y = .slice a' n' c') (ht : AtB 30 w b #[v])
    (h : ∀ w', AtB 30 w' b #[.slice a' n' c'] → Chg b w w' → w'.heap.size = w.heap.size → wpList Try.prog ops Q rest (a.put o.dst undef) w') : wpList Try.prog ops Q (o :: rest) a w := by
  have c0 := ht.cell0
  have f0 := ht.frozen 0
  refine wpList_storeAny hg x y ho (w.setCell ⟨b, 0, none⟩ (.slice a' n' c')) ?_ (h _ ?_ ((Chg.refl b w).setCell _) (by simp only [World.size_setCell]))
  · rw [hx, hy]
    simp [go_sem, c0, f0]
  · exact heap_setCell_same w b 0 #[v] _ _ ht
theorem owp_bs1T {o : Oper} {a : Act} {w : World} {Q : Exit → Act → World → Prop} {K : Act → World → Prop} (x : Operand) (ho : o.op = .buildSlice 28 1 #[(0, x)]) (e : TA) (hx : a.eval x = .agg (taC e))
    (h : ∀ b w', w.heap.size ≤ b → b ≤ w.heap.size → AtB 79 w' b (taC e) → Below b w w' → w'.heap.size = b + 1 → K (a.put o.dst (.slice (some ⟨b, 0, none⟩) 1 1)) w') : o.wp Try.prog a w K Q := by
  obtain ⟨i, hi⟩ : ∃ i, Try.prog.info? 79 = some i := by
    cases h : Try.prog.info? 79 with
    | some i => exact ⟨i, rfl⟩
    | none => have e := ta_info; rw [h] at e; cases e
  have e1 := ta_info
  rw [hi] at e1
  have e1' : i.size = 258 ∧ i.bytes = 272 := by simpa using e1
  have hz := ta_zero
  rw [hi] at hz
  refine wp_buildSlice 28 79 1 #[(0, x)] ho (taC e) i _ Try.underlying28 hi hz (by rw [e1'.1]; omega) (by rw [e1'.1]; omega) ?_ (h _ _ (Nat.le_refl _) (Nat.le_refl _) (by unfold AtB; rw [heap_get_alloc, if_pos rfl]) ((Below.refl _ _).alloc (Nat.le_refl _) _) (World.size_alloc _ _))
  rw [e1'.1]
  have hp : ((#[(0, x)] : Array (Nat × Operand)).map fun (i, x) => (i, a.eval x)).toList = [(0, Value.agg (taC e))] := by simp [hx]
  rw [hp]
  exact fill_bs1 e _ (by simp)
/-- What is left of the reference's put, its rest told. -/
theorem rput_cons (x y : Int) (t : Nat → Px) (d : Bool) (e : TA) (r : List TA) : rputL x y t d (e :: r) = if (!d && lessB x y e.x e.y) = true then ⟨x, y, t⟩ :: (if eqB e.x e.y x y = true then rputL x y t true r else e :: rputL x y t true r)
      else if eqB e.x e.y x y = true then rputL x y t d r else e :: rputL x y t d r := rfl
set_option maxHeartbeats 2000000 in
theorem R_put (v : Value) (ls : List TA) (x y : Int) (t0 t : Nat → Px) (w : World) (h : RS v ls w) (hs : Srt ls) (ht0 : Tok t0) (htc : t = cleanT t0) (hn : ls.length ≤ 4000) : Calls Try.prog 75 #[.agg #[v], .agg #[.int .i64 x, .int .i64 y], Tile.v t0] w fun e w' => ∃ v', e = .returned (.agg #[v']) ∧ RS v' (putL ls x y t) w' ∧ Below w.heap.size w w' := by
  have B := Below.refl w.heap.size w
  obtain ⟨a, c, rfl, hc⟩ := h.len
  have HS := Lib.hid h
  have FIN := Lib.hid (rputL_eq x y t ls hs)
  clear h hs
  go_enter Try.func75, Try.ntmps75
  subst htc
  generalize htt : cleanT t0 = t at *
  have CL : ∀ w, Calls Try.prog 58 #[Tile.v t0] w fun e w' => e = .returned (Tile.v t) ∧ Below w.heap.size w w' := fun w => htt ▸ R_Clean_t t0 w ht0
  have CLH := Lib.hid CL
  clear CL htt
  go_wp2_with (first | (go_at_call 56; refine (R_Zero _ _).mono ?_; rintro e wn ⟨rfl, hbn⟩; have hsz := B.size; have hzn := hbn.size; replace B := B.trans (hbn.mono B.size); (try first | replace r1 := r1.of_eq (hbn.block _ r1.lt) | replace r1 := r1.below hbn); (try first | replace p1 := p1.of_eq (hbn.block _ p1.lt) | replace p1 := p1.below hbn); (try first | replace u1 := u1.of_eq (hbn.block _ u1.lt) | replace u1 := u1.below hbn); (try first | replace r2 := r2.of_eq (hbn.block _ r2.lt) | replace r2 := r2.below hbn); (try first | replace r3 := r3.of_eq (hbn.block _ r3.lt) | replace r3 := r3.below hbn); (try first | replace od := od.of_eq (hbn.block _ od.lt) | replace od := od.below hbn); (try first | replace rc := rc.of_eq (hbn.block _ rc.lt) | replace rc := rc.below hbn)) | (refine wpList_storeT rfl _ _ rfl _ rfl _ rfl u1 ?_; clear u1; intro wn ht hcn hzn; have hsz := B.size; replace hzn := Nat.le_of_eq hzn.symm; replace B := Chg.below B hcn (by omega) B.size; (try replace r1 := r1.of_eq (hcn.block _ r1.lt (by omega))); (try replace p1 := p1.of_eq (hcn.block _ p1.lt (by omega))); (try replace r2 := r2.of_eq (hcn.block _ r2.lt (by omega))); (try replace r3 := r3.of_eq (hcn.block _ r3.lt (by omega))); (try replace od := od.of_eq (hcn.block _ od.lt (by omega))); (try replace rc := rc.of_eq (hcn.block _ rc.lt (by omega))); have u1 := ht; clear ht; simp only [Act.put, List.setIfInBounds_toArray, List.set_cons_zero, List.set_cons_succ]) | (go_at_call 58; refine (CLH.out _).mono ?_; rintro e wn ⟨rfl, hbn⟩; have hsz := B.size; have hzn := hbn.size; replace B := B.trans (hbn.mono B.size); (try first | replace r1 := r1.of_eq (hbn.block _ r1.lt) | replace r1 := r1.below hbn); (try first | replace p1 := p1.of_eq (hbn.block _ p1.lt) | replace p1 := p1.below hbn); (try first | replace u1 := u1.of_eq (hbn.block _ u1.lt) | replace u1 := u1.below hbn); (try first | replace r2 := r2.of_eq (hbn.block _ r2.lt) | replace r2 := r2.below hbn); (try first | replace r3 := r3.of_eq (hbn.block _ r3.lt) | replace r3 := r3.below hbn); (try first | replace od := od.of_eq (hbn.block _ od.lt) | replace od := od.below hbn); (try first | replace rc := rc.of_eq (hbn.block _ rc.lt) | replace rc := rc.below hbn)) | (refine wpList_loadT rfl _ rfl _ rfl u1 ?_; simp only [Act.put, List.setIfInBounds_toArray, List.set_cons_zero, List.set_cons_succ]) | (refine wpList_storeB (t := 30) rfl _ _ rfl _ rfl _ rfl r3 (by kernel_rfl) rfl (by simp [Value.oneCell']) ?_; clear r3; intro wn ht hcn hzn; have hsz := B.size; replace hzn := Nat.le_of_eq hzn.symm; replace B := Chg.below B hcn (by omega) B.size; (try replace r1 := r1.of_eq (hcn.block _ r1.lt (by omega))); (try replace p1 := p1.of_eq (hcn.block _ p1.lt (by omega))); (try replace u1 := u1.of_eq (hcn.block _ u1.lt (by omega))); (try replace r2 := r2.of_eq (hcn.block _ r2.lt (by omega))); (try replace od := od.of_eq (hcn.block _ od.lt (by omega))); (try replace rc := rc.of_eq (hcn.block _ rc.lt (by omega))); have r3 := ht; clear ht; simp only [Act.put, List.setIfInBounds_toArray, List.set_cons_zero, List.set_cons_succ]) | (have _ := r2; refine wpList_allocBk (t := 30) rfl _ (run_alloc_R _ _ rfl) ?_; intro b_r3 wn hle hge ht hbn hzn; have hsz := B.size; replace B := B.trans (hbn.mono (by omega)); have hln := Nat.lt_of_lt_of_eq (Nat.lt_succ_self _) hzn.symm; clear hzn; (try first | (have hlt := r1.lt; replace r1 := r1.of_eq (hbn.block _ (by omega))) | replace r1 := r1.below (hbn.mono hle)); (try first | (have hlt := p1.lt; replace p1 := p1.of_eq (hbn.block _ (by omega))) | replace p1 := p1.below (hbn.mono hle)); (try first | (have hlt := u1.lt; replace u1 := u1.of_eq (hbn.block _ (by omega))) | replace u1 := u1.below (hbn.mono hle)); (try first | (have hlt := r2.lt; replace r2 := r2.of_eq (hbn.block _ (by omega))) | replace r2 := r2.below (hbn.mono hle)); (try first | (have hlt := r3.lt; replace r3 := r3.of_eq (hbn.block _ (by omega))) | replace r3 := r3.below (hbn.mono hle)); (try first | (have hlt := od.lt; replace od := od.of_eq (hbn.block _ (by omega))) | replace od := od.below (hbn.mono hle)); (try first | (have hlt := rc.lt; replace rc := rc.of_eq (hbn.block _ (by omega))) | replace rc := rc.below (hbn.mono hle)); have r3 := ht; clear ht; simp only [Act.put, List.setIfInBounds_toArray, List.set_cons_zero, List.set_cons_succ]) | (have _ := u1; refine wpList_allocBk (t := 30) rfl _ (run_alloc_R _ _ rfl) ?_; intro b_r2 wn hle hge ht hbn hzn; have hsz := B.size; replace B := B.trans (hbn.mono (by omega)); have hln := Nat.lt_of_lt_of_eq (Nat.lt_succ_self _) hzn.symm; clear hzn; (try first | (have hlt := r1.lt; replace r1 := r1.of_eq (hbn.block _ (by omega))) | replace r1 := r1.below (hbn.mono hle)); (try first | (have hlt := p1.lt; replace p1 := p1.of_eq (hbn.block _ (by omega))) | replace p1 := p1.below (hbn.mono hle)); (try first | (have hlt := u1.lt; replace u1 := u1.of_eq (hbn.block _ (by omega))) | replace u1 := u1.below (hbn.mono hle)); (try first | (have hlt := r2.lt; replace r2 := r2.of_eq (hbn.block _ (by omega))) | replace r2 := r2.below (hbn.mono hle)); (try first | (have hlt := r3.lt; replace r3 := r3.of_eq (hbn.block _ (by omega))) | replace r3 := r3.below (hbn.mono hle)); (try first | (have hlt := od.lt; replace od := od.of_eq (hbn.block _ (by omega))) | replace od := od.below (hbn.mono hle)); (try first | (have hlt := rc.lt; replace rc := rc.of_eq (hbn.block _ (by omega))) | replace rc := rc.below (hbn.mono hle)); have r2 := ht; clear ht; simp only [Act.put, List.setIfInBounds_toArray, List.set_cons_zero, List.set_cons_succ]) | (have _ := p1; refine wpList_boxT' rfl _ rfl _ rfl ?_; intro b_u1 wn hle hge ht hbn hzn; have hsz := B.size; replace B := B.trans (hbn.mono (by omega)); have hln := Nat.lt_of_lt_of_eq (Nat.lt_succ_self _) hzn.symm; clear hzn; (try first | (have hlt := r1.lt; replace r1 := r1.of_eq (hbn.block _ (by omega))) | replace r1 := r1.below (hbn.mono hle)); (try first | (have hlt := p1.lt; replace p1 := p1.of_eq (hbn.block _ (by omega))) | replace p1 := p1.below (hbn.mono hle)); (try first | (have hlt := u1.lt; replace u1 := u1.of_eq (hbn.block _ (by omega))) | replace u1 := u1.below (hbn.mono hle)); (try first | (have hlt := r2.lt; replace r2 := r2.of_eq (hbn.block _ (by omega))) | replace r2 := r2.below (hbn.mono hle)); (try first | (have hlt := r3.lt; replace r3 := r3.of_eq (hbn.block _ (by omega))) | replace r3 := r3.below (hbn.mono hle)); (try first | (have hlt := od.lt; replace od := od.of_eq (hbn.block _ (by omega))) | replace od := od.below (hbn.mono hle)); (try first | (have hlt := rc.lt; replace rc := rc.of_eq (hbn.block _ (by omega))) | replace rc := rc.below (hbn.mono hle)); have u1 := ht; clear ht; simp only [Act.put, List.setIfInBounds_toArray, List.set_cons_zero, List.set_cons_succ]) | (have _ := r1; refine wpList_boxB (t := 24) rfl _ rfl _ rfl ?_; intro b_p1 wn hle hge ht hbn hzn; have hsz := B.size; replace B := B.trans (hbn.mono (by omega)); have hln := Nat.lt_of_lt_of_eq (Nat.lt_succ_self _) hzn.symm; clear hzn; (try first | (have hlt := r1.lt; replace r1 := r1.of_eq (hbn.block _ (by omega))) | replace r1 := r1.below (hbn.mono hle)); (try first | (have hlt := p1.lt; replace p1 := p1.of_eq (hbn.block _ (by omega))) | replace p1 := p1.below (hbn.mono hle)); (try first | (have hlt := u1.lt; replace u1 := u1.of_eq (hbn.block _ (by omega))) | replace u1 := u1.below (hbn.mono hle)); (try first | (have hlt := r2.lt; replace r2 := r2.of_eq (hbn.block _ (by omega))) | replace r2 := r2.below (hbn.mono hle)); (try first | (have hlt := r3.lt; replace r3 := r3.of_eq (hbn.block _ (by omega))) | replace r3 := r3.below (hbn.mono hle)); (try first | (have hlt := od.lt; replace od := od.of_eq (hbn.block _ (by omega))) | replace od := od.below (hbn.mono hle)); (try first | (have hlt := rc.lt; replace rc := rc.of_eq (hbn.block _ (by omega))) | replace rc := rc.below (hbn.mono hle)); have p1 := ht; clear ht; simp only [Act.put, List.setIfInBounds_toArray, List.set_cons_zero, List.set_cons_succ]) | (refine wpList_boxB (t := 30) rfl _ rfl _ rfl ?_; intro b_r1 wn hle hge ht hbn hzn; have hsz := B.size; replace B := B.trans (hbn.mono (by omega)); have hln := Nat.lt_of_lt_of_eq (Nat.lt_succ_self _) hzn.symm; clear hzn; (try first | (have hlt := r1.lt; replace r1 := r1.of_eq (hbn.block _ (by omega))) | replace r1 := r1.below (hbn.mono hle)); (try first | (have hlt := p1.lt; replace p1 := p1.of_eq (hbn.block _ (by omega))) | replace p1 := p1.below (hbn.mono hle)); (try first | (have hlt := u1.lt; replace u1 := u1.of_eq (hbn.block _ (by omega))) | replace u1 := u1.below (hbn.mono hle)); (try first | (have hlt := r2.lt; replace r2 := r2.of_eq (hbn.block _ (by omega))) | replace r2 := r2.below (hbn.mono hle)); (try first | (have hlt := r3.lt; replace r3 := r3.of_eq (hbn.block _ (by omega))) | replace r3 := r3.below (hbn.mono hle)); (try first | (have hlt := od.lt; replace od := od.of_eq (hbn.block _ (by omega))) | replace od := od.below (hbn.mono hle)); (try first | (have hlt := rc.lt; replace rc := rc.of_eq (hbn.block _ (by omega))) | replace rc := rc.below (hbn.mono hle)); have r1 := ht; clear ht; simp only [Act.put, List.setIfInBounds_toArray, List.set_cons_zero, List.set_cons_succ]) | fail)
  have qr1 := r1.lt
  have qp1 := p1.lt
  have qu1 := u1.lt
  have qr2 := r2.lt
  have qr3 := r3.lt
  obtain ⟨b0, hb0⟩ : ∃ n, n = wn.heap.size := ⟨_, rfl⟩
  have k1 : w.heap.size ≤ b_r1 := by omega
  have k2 : b_r1 < b_p1 := by omega
  have k3 : b_p1 < b_u1 := by omega
  have k4 : b_u1 < b_r2 := by omega
  have k5 : b_r2 < b_r3 := by omega
  have k6 : b_r3 < b0 := by omega
  have k7 : b0 ≤ wn.heap.size := by omega
  have od0 := OwnT.nil b0 wn
  go_loopw [9, 10] (fun d i wr => ∃ (k : Nat) (dd : Bool) (acc : List TA) (a3 : Option Addr) (n3 c3 : Nat), k ≤ ls.length ∧ i = .int .i64 k ∧ d = .bool dd ∧ acc ++ rputL x y t dd (ls.drop k) = putL ls x y t ∧ acc.length ≤ 2 * k ∧ n3 = acc.length ∧ Below w.heap.size w wr ∧ b0 ≤ wr.heap.size ∧ AtB 30 wr b_r1 #[.slice a ls.length c] ∧ AtB 24 wr b_p1 #[.int .i64 x, .int .i64 y] ∧ TileAt wr b_u1 t ∧ AtB 30 wr b_r2 #[.slice none 0 0] ∧ AtB 30 wr b_r3 #[.slice a3 n3 c3] ∧ OwnT b0 (.slice a3 n3 c3) acc wr) (fun _ i _ => (ls.length - intOf i).toNat)
  case atStart => exact ⟨0, zeroB t, [], none, 0, 0, by omega, rfl, rfl, FIN.out, by simp, rfl, B, k7, r1, p1, u1, r2, r3, od0⟩
  case round =>
    clear B r1 p1 u1 r2 r3 od0 hb0 k7 qr1 qp1 qu1 qr2 qr3
    obtain ⟨k, dd, acc, a3, n3, c3, hk, rfl, rfl, hacc, hal, rfl, B, hwb, r1, p1, u1, r2, r3, od⟩ := hrel
    by_cases hkl : k < ls.length
    · obtain ⟨g, o, rfl, rc0⟩ := HS.out.at (by omega)
      have hg0 := rc0.lt
      have rc := rc0.of_eq (B.block _ rc0.lt)
      clear rc0
      obtain ⟨e, he⟩ : ∃ e, aT ls k = e := ⟨_, rfl⟩
      rw [drop_eq hkl, he, rput_cons] at hacc
      have hneq : ∀ w, (binOp .neq 24 (Ps.v e.x e.y) (.agg #[.int .i64 x, .int .i64 y])).run Try.prog w = .ok (.bool (!eqB e.x e.y x y)) w := fun w => neq_pos _ _ _ _ w
      cases h3 : eqB e.x e.y x y with
      | true =>
        cases dd with
        | true =>
          rw [h3] at hacc
          simp at hacc
          have HA := Lib.hid hacc
          clear hacc
          go_wp2_with (first | (refine wpList_loadAny (t := 28) rfl _ rfl _ _ _ rfl (run_load_sl r1.cell0) (by rfl) ?_; simp only [Act.put, List.setIfInBounds_toArray, List.set_cons_zero, List.set_cons_succ]) | fail)
          refine wp_region_ov (by kernel_rfl) (by kernel_rfl) ?_
          repeat (first | go_big_quiet_skip | (go_big_quiet_want; first | (refine quiet_loadAny (t := 24) rfl _ _ _ rfl (fun w hw => run_load_B (ov_B p1 w hw) Try.isAgg24 (by kernel_rfl)) (by rfl) ?_; simp only [Act.put, List.setIfInBounds_toArray, List.set_cons_zero, List.set_cons_succ]; go_big_quiet_on) | (refine quiet_loadAny (t := 28) rfl _ _ _ rfl (fun w hw => run_load_sl (ov_B r1 w hw).cell0) (by rfl) ?_; simp only [Act.put, List.setIfInBounds_toArray, List.set_cons_zero, List.set_cons_succ]; go_big_quiet_on) | (refine quiet_loadAny (t := 24) rfl _ _ _ rfl (fun w hw => rc_pos (ov_rc rc w hw) hkl he) (by first | rfl | omega) ?_; simp only [Act.put, List.setIfInBounds_toArray, List.set_cons_zero, List.set_cons_succ]; go_big_quiet_on) | (go_big_quiet_op; first | go_big_quiet_on | go_big_quiet_call ((fail)))))
          refine wpQuiet_nil ?_
          intro wn hbn
          have hsz := B.size
          have hzn := hbn.size
          replace B := B.trans (hbn.mono B.size)
          try first | replace r1 := r1.of_eq (hbn.block _ r1.lt) | replace r1 := r1.below hbn
          try first | replace p1 := p1.of_eq (hbn.block _ p1.lt) | replace p1 := p1.below hbn
          try first | replace u1 := u1.of_eq (hbn.block _ u1.lt) | replace u1 := u1.below hbn
          try first | replace r2 := r2.of_eq (hbn.block _ r2.lt) | replace r2 := r2.below hbn
          try first | replace r3 := r3.of_eq (hbn.block _ r3.lt) | replace r3 := r3.below hbn
          try first | replace od := od.of_eq (hbn.block _ od.lt) | replace od := od.below hbn
          try first | replace rc := rc.of_eq (hbn.block _ rc.lt) | replace rc := rc.below hbn
          go_wp2
          refine wp_region_ov (by kernel_rfl) (by kernel_rfl) ?_
          repeat (first | go_big_quiet_skip | (go_big_quiet_want; first | (refine quiet_loadAny (t := 24) rfl _ _ _ rfl (fun w hw => run_load_B (ov_B p1 w hw) Try.isAgg24 (by kernel_rfl)) (by rfl) ?_; simp only [Act.put, List.setIfInBounds_toArray, List.set_cons_zero, List.set_cons_succ]; go_big_quiet_on) | (refine quiet_loadAny (t := 28) rfl _ _ _ rfl (fun w hw => run_load_sl (ov_B r1 w hw).cell0) (by rfl) ?_; simp only [Act.put, List.setIfInBounds_toArray, List.set_cons_zero, List.set_cons_succ]; go_big_quiet_on) | (refine quiet_loadAny (t := 24) rfl _ _ _ rfl (fun w hw => rc_pos (ov_rc rc w hw) hkl he) (by first | rfl | omega) ?_; simp only [Act.put, List.setIfInBounds_toArray, List.set_cons_zero, List.set_cons_succ]; go_big_quiet_on) | (go_big_quiet_op; first | go_big_quiet_on | go_big_quiet_call ((fail)))))
          refine wpQuiet_nil ?_
          intro wn hbn
          have hsz := B.size
          have hzn := hbn.size
          replace B := B.trans (hbn.mono B.size)
          try first | replace r1 := r1.of_eq (hbn.block _ r1.lt) | replace r1 := r1.below hbn
          try first | replace p1 := p1.of_eq (hbn.block _ p1.lt) | replace p1 := p1.below hbn
          try first | replace u1 := u1.of_eq (hbn.block _ u1.lt) | replace u1 := u1.below hbn
          try first | replace r2 := r2.of_eq (hbn.block _ r2.lt) | replace r2 := r2.below hbn
          try first | replace r3 := r3.of_eq (hbn.block _ r3.lt) | replace r3 := r3.below hbn
          try first | replace od := od.of_eq (hbn.block _ od.lt) | replace od := od.below hbn
          try first | replace rc := rc.of_eq (hbn.block _ rc.lt) | replace rc := rc.below hbn
          go_wp2
          go_roundw
          case rel => exact ⟨k + 1, _, _, _, _, _, by omega, by go_num, rfl, by first | exact HA.out | (rw [← HA.out, List.append_assoc, List.append_assoc]; rfl) | (rw [← HA.out, List.append_assoc]; rfl) | (rw [← HA.out]; simp), by first | omega | (simp; omega), by first | rfl | simp, B, by omega, r1, p1, u1, r2, r3, od⟩
          case measure => simp [intOf]; omega
        | false =>
          cases h4 : lessB x y e.x e.y with
          | true =>
            have h3 := of_decide_eq_true h3
            have h4 := of_decide_eq_true h4
            omega
          | false =>
            rw [h3, h4] at hacc
            simp at hacc
            have HA := Lib.hid hacc
            clear hacc
            go_wp2_with (first | (refine wpList_loadAny (t := 28) rfl _ rfl _ _ _ rfl (run_load_sl r1.cell0) (by rfl) ?_; simp only [Act.put, List.setIfInBounds_toArray, List.set_cons_zero, List.set_cons_succ]) | fail)
            refine wp_region_ov (by kernel_rfl) (by kernel_rfl) ?_
            repeat (first | go_big_quiet_skip | (go_big_quiet_want; first | (refine quiet_loadAny (t := 24) rfl _ _ _ rfl (fun w hw => run_load_B (ov_B p1 w hw) Try.isAgg24 (by kernel_rfl)) (by rfl) ?_; simp only [Act.put, List.setIfInBounds_toArray, List.set_cons_zero, List.set_cons_succ]; go_big_quiet_on) | (refine quiet_loadAny (t := 28) rfl _ _ _ rfl (fun w hw => run_load_sl (ov_B r1 w hw).cell0) (by rfl) ?_; simp only [Act.put, List.setIfInBounds_toArray, List.set_cons_zero, List.set_cons_succ]; go_big_quiet_on) | (refine quiet_loadAny (t := 24) rfl _ _ _ rfl (fun w hw => rc_pos (ov_rc rc w hw) hkl he) (by first | rfl | omega) ?_; simp only [Act.put, List.setIfInBounds_toArray, List.set_cons_zero, List.set_cons_succ]; go_big_quiet_on) | (go_big_quiet_op; first | go_big_quiet_on | go_big_quiet_call ((first | (go_at_call 60; exact calls_ov (R_less _ _ _ _ _)))))))
            refine wpQuiet_nil ?_
            intro wn hbn
            have hsz := B.size
            have hzn := hbn.size
            replace B := B.trans (hbn.mono B.size)
            try first | replace r1 := r1.of_eq (hbn.block _ r1.lt) | replace r1 := r1.below hbn
            try first | replace p1 := p1.of_eq (hbn.block _ p1.lt) | replace p1 := p1.below hbn
            try first | replace u1 := u1.of_eq (hbn.block _ u1.lt) | replace u1 := u1.below hbn
            try first | replace r2 := r2.of_eq (hbn.block _ r2.lt) | replace r2 := r2.below hbn
            try first | replace r3 := r3.of_eq (hbn.block _ r3.lt) | replace r3 := r3.below hbn
            try first | replace od := od.of_eq (hbn.block _ od.lt) | replace od := od.below hbn
            try first | replace rc := rc.of_eq (hbn.block _ rc.lt) | replace rc := rc.below hbn
            go_wp2
            refine wp_region_ov (by kernel_rfl) (by kernel_rfl) ?_
            repeat (first | go_big_quiet_skip | (go_big_quiet_want; first | (refine quiet_loadAny (t := 24) rfl _ _ _ rfl (fun w hw => run_load_B (ov_B p1 w hw) Try.isAgg24 (by kernel_rfl)) (by rfl) ?_; simp only [Act.put, List.setIfInBounds_toArray, List.set_cons_zero, List.set_cons_succ]; go_big_quiet_on) | (refine quiet_loadAny (t := 28) rfl _ _ _ rfl (fun w hw => run_load_sl (ov_B r1 w hw).cell0) (by rfl) ?_; simp only [Act.put, List.setIfInBounds_toArray, List.set_cons_zero, List.set_cons_succ]; go_big_quiet_on) | (refine quiet_loadAny (t := 24) rfl _ _ _ rfl (fun w hw => rc_pos (ov_rc rc w hw) hkl he) (by first | rfl | omega) ?_; simp only [Act.put, List.setIfInBounds_toArray, List.set_cons_zero, List.set_cons_succ]; go_big_quiet_on) | (go_big_quiet_op; first | go_big_quiet_on | go_big_quiet_call ((fail)))))
            refine wpQuiet_nil ?_
            intro wn hbn
            have hsz := B.size
            have hzn := hbn.size
            replace B := B.trans (hbn.mono B.size)
            try first | replace r1 := r1.of_eq (hbn.block _ r1.lt) | replace r1 := r1.below hbn
            try first | replace p1 := p1.of_eq (hbn.block _ p1.lt) | replace p1 := p1.below hbn
            try first | replace u1 := u1.of_eq (hbn.block _ u1.lt) | replace u1 := u1.below hbn
            try first | replace r2 := r2.of_eq (hbn.block _ r2.lt) | replace r2 := r2.below hbn
            try first | replace r3 := r3.of_eq (hbn.block _ r3.lt) | replace r3 := r3.below hbn
            try first | replace od := od.of_eq (hbn.block _ od.lt) | replace od := od.below hbn
            try first | replace rc := rc.of_eq (hbn.block _ rc.lt) | replace rc := rc.below hbn
            go_wp2
            go_roundw
            case rel => exact ⟨k + 1, _, _, _, _, _, by omega, by go_num, rfl, by first | exact HA.out | (rw [← HA.out, List.append_assoc, List.append_assoc]; rfl) | (rw [← HA.out, List.append_assoc]; rfl) | (rw [← HA.out]; simp), by first | omega | (simp; omega), by first | rfl | simp, B, by omega, r1, p1, u1, r2, r3, od⟩
            case measure => simp [intOf]; omega
      | false =>
        cases dd with
        | true =>
          rw [h3] at hacc
          simp at hacc
          have HA := Lib.hid hacc
          clear hacc
          go_wp2_with (first | (refine wpList_loadAny (t := 28) rfl _ rfl _ _ _ rfl (run_load_sl r1.cell0) (by rfl) ?_; simp only [Act.put, List.setIfInBounds_toArray, List.set_cons_zero, List.set_cons_succ]) | fail)
          refine wp_region_ov (by kernel_rfl) (by kernel_rfl) ?_
          repeat (first | go_big_quiet_skip | (go_big_quiet_want; first | (refine quiet_loadAny (t := 24) rfl _ _ _ rfl (fun w hw => run_load_B (ov_B p1 w hw) Try.isAgg24 (by kernel_rfl)) (by rfl) ?_; simp only [Act.put, List.setIfInBounds_toArray, List.set_cons_zero, List.set_cons_succ]; go_big_quiet_on) | (refine quiet_loadAny (t := 28) rfl _ _ _ rfl (fun w hw => run_load_sl (ov_B r1 w hw).cell0) (by rfl) ?_; simp only [Act.put, List.setIfInBounds_toArray, List.set_cons_zero, List.set_cons_succ]; go_big_quiet_on) | (refine quiet_loadAny (t := 24) rfl _ _ _ rfl (fun w hw => rc_pos (ov_rc rc w hw) hkl he) (by first | rfl | omega) ?_; simp only [Act.put, List.setIfInBounds_toArray, List.set_cons_zero, List.set_cons_succ]; go_big_quiet_on) | (go_big_quiet_op; first | go_big_quiet_on | go_big_quiet_call ((fail)))))
          refine wpQuiet_nil ?_
          intro wn hbn
          have hsz := B.size
          have hzn := hbn.size
          replace B := B.trans (hbn.mono B.size)
          try first | replace r1 := r1.of_eq (hbn.block _ r1.lt) | replace r1 := r1.below hbn
          try first | replace p1 := p1.of_eq (hbn.block _ p1.lt) | replace p1 := p1.below hbn
          try first | replace u1 := u1.of_eq (hbn.block _ u1.lt) | replace u1 := u1.below hbn
          try first | replace r2 := r2.of_eq (hbn.block _ r2.lt) | replace r2 := r2.below hbn
          try first | replace r3 := r3.of_eq (hbn.block _ r3.lt) | replace r3 := r3.below hbn
          try first | replace od := od.of_eq (hbn.block _ od.lt) | replace od := od.below hbn
          try first | replace rc := rc.of_eq (hbn.block _ rc.lt) | replace rc := rc.below hbn
          go_wp2
          refine wp_region_ov (by kernel_rfl) (by kernel_rfl) ?_
          repeat (first | go_big_quiet_skip | (go_big_quiet_want; first | (refine quiet_loadAny (t := 24) rfl _ _ _ rfl (fun w hw => run_load_B (ov_B p1 w hw) Try.isAgg24 (by kernel_rfl)) (by rfl) ?_; simp only [Act.put, List.setIfInBounds_toArray, List.set_cons_zero, List.set_cons_succ]; go_big_quiet_on) | (refine quiet_loadAny (t := 28) rfl _ _ _ rfl (fun w hw => run_load_sl (ov_B r1 w hw).cell0) (by rfl) ?_; simp only [Act.put, List.setIfInBounds_toArray, List.set_cons_zero, List.set_cons_succ]; go_big_quiet_on) | (refine quiet_loadAny (t := 24) rfl _ _ _ rfl (fun w hw => rc_pos (ov_rc rc w hw) hkl he) (by first | rfl | omega) ?_; simp only [Act.put, List.setIfInBounds_toArray, List.set_cons_zero, List.set_cons_succ]; go_big_quiet_on) | (go_big_quiet_op; first | go_big_quiet_on | go_big_quiet_call ((fail)))))
          refine wpQuiet_nil ?_
          intro wn hbn
          have hsz := B.size
          have hzn := hbn.size
          replace B := B.trans (hbn.mono B.size)
          try first | replace r1 := r1.of_eq (hbn.block _ r1.lt) | replace r1 := r1.below hbn
          try first | replace p1 := p1.of_eq (hbn.block _ p1.lt) | replace p1 := p1.below hbn
          try first | replace u1 := u1.of_eq (hbn.block _ u1.lt) | replace u1 := u1.below hbn
          try first | replace r2 := r2.of_eq (hbn.block _ r2.lt) | replace r2 := r2.below hbn
          try first | replace r3 := r3.of_eq (hbn.block _ r3.lt) | replace r3 := r3.below hbn
          try first | replace od := od.of_eq (hbn.block _ od.lt) | replace od := od.below hbn
          try first | replace rc := rc.of_eq (hbn.block _ rc.lt) | replace rc := rc.below hbn
          go_wp2
          refine wp_region_X 7 8 #[true, true, true, true, true, true, true, false, false, false, false] (by kernel_rfl) (by kernel_rfl) ?_
          simp only [List.length_cons, List.length_nil, Nat.reduceAdd, Nat.reduceSub, List.take_succ_cons, List.take_zero]
          repeat (first | go_big_quiet_skip | (go_big_quiet_want; first | (refine quiet_loadAny (t := 28) rfl _ _ _ rfl (fun w hw => run_load_sl (ov_B r3 w hw).cell0) (by rfl) ?_; simp only [Act.put, List.setIfInBounds_toArray, List.set_cons_zero, List.set_cons_succ]; go_big_quiet_on) | (refine quiet_loadAny (t := 28) rfl _ _ _ rfl (fun w hw => run_load_sl (ov_B r1 w hw).cell0) (by rfl) ?_; simp only [Act.put, List.setIfInBounds_toArray, List.set_cons_zero, List.set_cons_succ]; go_big_quiet_on) | (refine quiet_loadAny (t := 79) rfl _ _ _ rfl (fun w hw => rc_ta (ov_rc rc w hw) hkl he) (by first | rfl | omega) ?_; simp only [Act.put, List.setIfInBounds_toArray, List.set_cons_zero, List.set_cons_succ]; go_big_quiet_on) | (go_big_quiet_op; go_big_quiet_on)))
          refine wpQuiet_nil ?_
          intro wn hbn
          have hX := hbn
          have hsz := B.size
          have hzn := hbn.size
          replace B := B.trans (hbn.mono B.size)
          try first | replace r1 := r1.of_eq (hbn.block _ r1.lt) | replace r1 := r1.below hbn
          try first | replace p1 := p1.of_eq (hbn.block _ p1.lt) | replace p1 := p1.below hbn
          try first | replace u1 := u1.of_eq (hbn.block _ u1.lt) | replace u1 := u1.below hbn
          try first | replace r2 := r2.of_eq (hbn.block _ r2.lt) | replace r2 := r2.below hbn
          try first | replace r3 := r3.of_eq (hbn.block _ r3.lt) | replace r3 := r3.below hbn
          try first | replace od := od.of_eq (hbn.block _ od.lt) | replace od := od.below hbn
          try first | replace rc := rc.of_eq (hbn.block _ rc.lt) | replace rc := rc.below hbn
          refine anyX_next 7 rfl (by kernel_rfl) rfl (fun K hK => ?_)
          try simp only [List.getElem_toArray, List.getElem_cons_zero, List.getElem_cons_succ]
          refine owp_bs1T _ rfl e (by rfl) ?_
          intro b_s1 wn hle hge ht hbn hzn
          have hsz := B.size
          have hsx := hX.size
          replace B := B.trans (hbn.mono (by omega))
          replace hX := hX.trans (hbn.mono (by omega))
          try first | (have hlt := r1.lt; replace r1 := r1.of_eq (hbn.block _ (by omega))) | replace r1 := r1.below (hbn.mono hle)
          try first | (have hlt := p1.lt; replace p1 := p1.of_eq (hbn.block _ (by omega))) | replace p1 := p1.below (hbn.mono hle)
          try first | (have hlt := u1.lt; replace u1 := u1.of_eq (hbn.block _ (by omega))) | replace u1 := u1.below (hbn.mono hle)
          try first | (have hlt := r2.lt; replace r2 := r2.of_eq (hbn.block _ (by omega))) | replace r2 := r2.below (hbn.mono hle)
          try first | (have hlt := r3.lt; replace r3 := r3.of_eq (hbn.block _ (by omega))) | replace r3 := r3.below (hbn.mono hle)
          try first | (have hlt := od.lt; replace od := od.of_eq (hbn.block _ (by omega))) | replace od := od.below (hbn.mono hle)
          try first | (have hlt := rc.lt; replace rc := rc.of_eq (hbn.block _ (by omega))) | replace rc := rc.below (hbn.mono hle)
          have s1 := ht
          clear ht
          refine hK _ _ ⟨fun _ => ⟨_, ov_of hX⟩, ?_⟩
          clear hK K
          try simp only [List.getElem_toArray, List.getElem_cons_zero, List.getElem_cons_succ]
          simp only [Act.put, List.setIfInBounds_toArray, List.set_cons_zero, List.set_cons_succ]
          refine anyX_seq (by kernel_rfl) (by kernel_rfl) ?_
          simp only [List.drop_succ_cons, List.drop_zero]
          go_wp2_with (first | (refine wpList_storeO rfl _ _ rfl _ rfl _ _ _ rfl r3 ?_; clear r3; intro wn ht hcn hzn; have hsz := B.size; replace hzn := Nat.le_of_eq hzn.symm; replace B := Chg.below B hcn (by omega) B.size; (try replace r1 := r1.of_eq (hcn.block _ r1.lt (by omega))); (try replace p1 := p1.of_eq (hcn.block _ p1.lt (by omega))); (try replace u1 := u1.of_eq (hcn.block _ u1.lt (by omega))); (try replace r2 := r2.of_eq (hcn.block _ r2.lt (by omega))); (try replace rc := rc.of_eq (hcn.block _ rc.lt (by omega))); replace od := od.chg hcn (by omega); have r3 := ht; clear ht; simp only [Act.put, List.setIfInBounds_toArray, List.set_cons_zero, List.set_cons_succ]) | (at_builtin; refine wpList_appendT rfl _ _ rfl _ _ rfl rfl od ((RS.one s1)) (by simp only [List.length_append, List.length_cons, List.length_nil]; omega) (by omega) ?_; intro v_od wn ht hbn; have hsz := B.size; have hzn := hbn.size; replace B := B.trans (hbn.mono (by omega)); clear od; (try replace r1 := r1.of_eq (hbn.block _ (by omega))); (try replace p1 := p1.of_eq (hbn.block _ (by omega))); (try replace u1 := u1.of_eq (hbn.block _ (by omega))); (try replace r2 := r2.of_eq (hbn.block _ (by omega))); (try replace r3 := r3.of_eq (hbn.block _ (by omega))); (try replace rc := rc.of_eq (hbn.block _ (by omega))); have od := ht; clear ht; obtain ⟨a_od, c_od, hv, hco⟩ := od.len; (try simp only [List.length_append, List.length_cons, List.length_nil, Nat.zero_add] at hv hco); subst hv; simp only [Act.put, List.setIfInBounds_toArray, List.set_cons_zero, List.set_cons_succ]) | (refine wpList_bs1T rfl _ rfl e (by rfl) ?_; intro b_s1 wn hle hge ht hbn hzn; have hsz := B.size; replace B := B.trans (hbn.mono (by omega)); have hln := Nat.lt_of_lt_of_eq (Nat.lt_succ_self _) hzn.symm; clear hzn; (try first | (have hlt := r1.lt; replace r1 := r1.of_eq (hbn.block _ (by omega))) | replace r1 := r1.below (hbn.mono hle)); (try first | (have hlt := p1.lt; replace p1 := p1.of_eq (hbn.block _ (by omega))) | replace p1 := p1.below (hbn.mono hle)); (try first | (have hlt := u1.lt; replace u1 := u1.of_eq (hbn.block _ (by omega))) | replace u1 := u1.below (hbn.mono hle)); (try first | (have hlt := r2.lt; replace r2 := r2.of_eq (hbn.block _ (by omega))) | replace r2 := r2.below (hbn.mono hle)); (try first | (have hlt := r3.lt; replace r3 := r3.of_eq (hbn.block _ (by omega))) | replace r3 := r3.below (hbn.mono hle)); (try first | (have hlt := od.lt; replace od := od.of_eq (hbn.block _ (by omega))) | replace od := od.below (hbn.mono hle)); (try first | (have hlt := rc.lt; replace rc := rc.of_eq (hbn.block _ (by omega))) | replace rc := rc.below (hbn.mono hle)); have s1 := ht; clear ht; simp only [Act.put, List.setIfInBounds_toArray, List.set_cons_zero, List.set_cons_succ]) | fail)
          refine NoPan.normal ?_
          go_wp2
          go_roundw
          case rel => exact ⟨k + 1, _, _, _, _, _, by omega, by go_num, rfl, by first | exact HA.out | (rw [← HA.out, List.append_assoc, List.append_assoc]; rfl) | (rw [← HA.out, List.append_assoc]; rfl) | (rw [← HA.out]; simp), by first | omega | (simp; omega), by first | rfl | simp, B, by omega, r1, p1, u1, r2, r3, od⟩
          case measure => simp [intOf]; omega
        | false =>
          cases h4 : lessB x y e.x e.y with
          | true =>
            rw [h3, h4] at hacc
            simp at hacc
            have HA := Lib.hid hacc
            clear hacc
            go_wp2_with (first | (refine wpList_loadAny (t := 28) rfl _ rfl _ _ _ rfl (run_load_sl r1.cell0) (by rfl) ?_; simp only [Act.put, List.setIfInBounds_toArray, List.set_cons_zero, List.set_cons_succ]) | fail)
            refine wp_region_ov (by kernel_rfl) (by kernel_rfl) ?_
            repeat (first | go_big_quiet_skip | (go_big_quiet_want; first | (refine quiet_loadAny (t := 24) rfl _ _ _ rfl (fun w hw => run_load_B (ov_B p1 w hw) Try.isAgg24 (by kernel_rfl)) (by rfl) ?_; simp only [Act.put, List.setIfInBounds_toArray, List.set_cons_zero, List.set_cons_succ]; go_big_quiet_on) | (refine quiet_loadAny (t := 28) rfl _ _ _ rfl (fun w hw => run_load_sl (ov_B r1 w hw).cell0) (by rfl) ?_; simp only [Act.put, List.setIfInBounds_toArray, List.set_cons_zero, List.set_cons_succ]; go_big_quiet_on) | (refine quiet_loadAny (t := 24) rfl _ _ _ rfl (fun w hw => rc_pos (ov_rc rc w hw) hkl he) (by first | rfl | omega) ?_; simp only [Act.put, List.setIfInBounds_toArray, List.set_cons_zero, List.set_cons_succ]; go_big_quiet_on) | (go_big_quiet_op; first | go_big_quiet_on | go_big_quiet_call ((first | (go_at_call 60; exact calls_ov (R_less _ _ _ _ _)))))))
            refine wpQuiet_nil ?_
            intro wn hbn
            have hsz := B.size
            have hzn := hbn.size
            replace B := B.trans (hbn.mono B.size)
            try first | replace r1 := r1.of_eq (hbn.block _ r1.lt) | replace r1 := r1.below hbn
            try first | replace p1 := p1.of_eq (hbn.block _ p1.lt) | replace p1 := p1.below hbn
            try first | replace u1 := u1.of_eq (hbn.block _ u1.lt) | replace u1 := u1.below hbn
            try first | replace r2 := r2.of_eq (hbn.block _ r2.lt) | replace r2 := r2.below hbn
            try first | replace r3 := r3.of_eq (hbn.block _ r3.lt) | replace r3 := r3.below hbn
            try first | replace od := od.of_eq (hbn.block _ od.lt) | replace od := od.below hbn
            try first | replace rc := rc.of_eq (hbn.block _ rc.lt) | replace rc := rc.below hbn
            go_wp2_with (first | (refine wpList_storeO rfl _ _ rfl _ rfl _ _ _ rfl r3 ?_; clear r3; intro wn ht hcn hzn; have hsz := B.size; replace hzn := Nat.le_of_eq hzn.symm; replace B := Chg.below B hcn (by omega) B.size; (try replace r1 := r1.of_eq (hcn.block _ r1.lt (by omega))); (try replace p1 := p1.of_eq (hcn.block _ p1.lt (by omega))); (try replace u1 := u1.of_eq (hcn.block _ u1.lt (by omega))); (try replace r2 := r2.of_eq (hcn.block _ r2.lt (by omega))); (try replace rc := rc.of_eq (hcn.block _ rc.lt (by omega))); replace od := od.chg hcn (by omega); have r3 := ht; clear ht; simp only [Act.put, List.setIfInBounds_toArray, List.set_cons_zero, List.set_cons_succ]) | (at_builtin; refine wpList_appendT rfl _ _ rfl _ _ rfl rfl od ((RS.one s1)) (by simp only [List.length_cons, List.length_nil]; omega) (by omega) ?_; intro v_od wn ht hbn; have hsz := B.size; have hzn := hbn.size; replace B := B.trans (hbn.mono (by omega)); clear od; (try replace r1 := r1.of_eq (hbn.block _ (by omega))); (try replace p1 := p1.of_eq (hbn.block _ (by omega))); (try replace u1 := u1.of_eq (hbn.block _ (by omega))); (try replace r2 := r2.of_eq (hbn.block _ (by omega))); (try replace r3 := r3.of_eq (hbn.block _ (by omega))); (try replace rc := rc.of_eq (hbn.block _ (by omega))); have od := ht; clear ht; obtain ⟨a_od, c_od, hv, hco⟩ := od.len; (try simp only [List.length_append, List.length_cons, List.length_nil, Nat.zero_add] at hv hco); subst hv; simp only [Act.put, List.setIfInBounds_toArray, List.set_cons_zero, List.set_cons_succ]) | (refine wpList_bs1T rfl _ rfl ⟨x, y, t⟩ (by rfl) ?_; intro b_s1 wn hle hge ht hbn hzn; have hsz := B.size; replace B := B.trans (hbn.mono (by omega)); have hln := Nat.lt_of_lt_of_eq (Nat.lt_succ_self _) hzn.symm; clear hzn; (try first | (have hlt := r1.lt; replace r1 := r1.of_eq (hbn.block _ (by omega))) | replace r1 := r1.below (hbn.mono hle)); (try first | (have hlt := p1.lt; replace p1 := p1.of_eq (hbn.block _ (by omega))) | replace p1 := p1.below (hbn.mono hle)); (try first | (have hlt := u1.lt; replace u1 := u1.of_eq (hbn.block _ (by omega))) | replace u1 := u1.below (hbn.mono hle)); (try first | (have hlt := r2.lt; replace r2 := r2.of_eq (hbn.block _ (by omega))) | replace r2 := r2.below (hbn.mono hle)); (try first | (have hlt := r3.lt; replace r3 := r3.of_eq (hbn.block _ (by omega))) | replace r3 := r3.below (hbn.mono hle)); (try first | (have hlt := od.lt; replace od := od.of_eq (hbn.block _ (by omega))) | replace od := od.below (hbn.mono hle)); (try first | (have hlt := rc.lt; replace rc := rc.of_eq (hbn.block _ (by omega))) | replace rc := rc.below (hbn.mono hle)); have s1 := ht; clear ht; simp only [Act.put, List.setIfInBounds_toArray, List.set_cons_zero, List.set_cons_succ]) | (refine wpList_buildTA rfl _ _ rfl x y t (by rfl) (by rfl) ?_; simp only [Act.put, List.setIfInBounds_toArray, List.set_cons_zero, List.set_cons_succ]) | (refine wpList_loadT rfl _ rfl _ rfl u1 ?_; simp only [Act.put, List.setIfInBounds_toArray, List.set_cons_zero, List.set_cons_succ]) | (refine wpList_loadAny (t := 24) rfl _ rfl _ _ _ rfl (run_load_B p1 Try.isAgg24 (by kernel_rfl)) (by rfl) ?_; simp only [Act.put, List.setIfInBounds_toArray, List.set_cons_zero, List.set_cons_succ]) | (refine wpList_loadAny (t := 28) rfl _ rfl _ _ _ rfl (run_load_sl r3.cell0) (by rfl) ?_; simp only [Act.put, List.setIfInBounds_toArray, List.set_cons_zero, List.set_cons_succ]) | fail)
            refine wp_region_ov (by kernel_rfl) (by kernel_rfl) ?_
            repeat (first | go_big_quiet_skip | (go_big_quiet_want; first | (refine quiet_loadAny (t := 24) rfl _ _ _ rfl (fun w hw => run_load_B (ov_B p1 w hw) Try.isAgg24 (by kernel_rfl)) (by rfl) ?_; simp only [Act.put, List.setIfInBounds_toArray, List.set_cons_zero, List.set_cons_succ]; go_big_quiet_on) | (refine quiet_loadAny (t := 28) rfl _ _ _ rfl (fun w hw => run_load_sl (ov_B r1 w hw).cell0) (by rfl) ?_; simp only [Act.put, List.setIfInBounds_toArray, List.set_cons_zero, List.set_cons_succ]; go_big_quiet_on) | (refine quiet_loadAny (t := 24) rfl _ _ _ rfl (fun w hw => rc_pos (ov_rc rc w hw) hkl he) (by first | rfl | omega) ?_; simp only [Act.put, List.setIfInBounds_toArray, List.set_cons_zero, List.set_cons_succ]; go_big_quiet_on) | (go_big_quiet_op; first | go_big_quiet_on | go_big_quiet_call ((fail)))))
            refine wpQuiet_nil ?_
            intro wn hbn
            have hsz := B.size
            have hzn := hbn.size
            replace B := B.trans (hbn.mono B.size)
            try first | replace r1 := r1.of_eq (hbn.block _ r1.lt) | replace r1 := r1.below hbn
            try first | replace p1 := p1.of_eq (hbn.block _ p1.lt) | replace p1 := p1.below hbn
            try first | replace u1 := u1.of_eq (hbn.block _ u1.lt) | replace u1 := u1.below hbn
            try first | replace r2 := r2.of_eq (hbn.block _ r2.lt) | replace r2 := r2.below hbn
            try first | replace r3 := r3.of_eq (hbn.block _ r3.lt) | replace r3 := r3.below hbn
            try first | replace od := od.of_eq (hbn.block _ od.lt) | replace od := od.below hbn
            try first | replace rc := rc.of_eq (hbn.block _ rc.lt) | replace rc := rc.below hbn
            go_wp2
            refine wp_region_X 7 8 #[true, true, true, true, true, true, true, false, false, false, false] (by kernel_rfl) (by kernel_rfl) ?_
            simp only [List.length_cons, List.length_nil, Nat.reduceAdd, Nat.reduceSub, List.take_succ_cons, List.take_zero]
            repeat (first | go_big_quiet_skip | (go_big_quiet_want; first | (refine quiet_loadAny (t := 28) rfl _ _ _ rfl (fun w hw => run_load_sl (ov_B r3 w hw).cell0) (by rfl) ?_; simp only [Act.put, List.setIfInBounds_toArray, List.set_cons_zero, List.set_cons_succ]; go_big_quiet_on) | (refine quiet_loadAny (t := 28) rfl _ _ _ rfl (fun w hw => run_load_sl (ov_B r1 w hw).cell0) (by rfl) ?_; simp only [Act.put, List.setIfInBounds_toArray, List.set_cons_zero, List.set_cons_succ]; go_big_quiet_on) | (refine quiet_loadAny (t := 79) rfl _ _ _ rfl (fun w hw => rc_ta (ov_rc rc w hw) hkl he) (by first | rfl | omega) ?_; simp only [Act.put, List.setIfInBounds_toArray, List.set_cons_zero, List.set_cons_succ]; go_big_quiet_on) | (go_big_quiet_op; go_big_quiet_on)))
            refine wpQuiet_nil ?_
            intro wn hbn
            have hX := hbn
            have hsz := B.size
            have hzn := hbn.size
            replace B := B.trans (hbn.mono B.size)
            try first | replace r1 := r1.of_eq (hbn.block _ r1.lt) | replace r1 := r1.below hbn
            try first | replace p1 := p1.of_eq (hbn.block _ p1.lt) | replace p1 := p1.below hbn
            try first | replace u1 := u1.of_eq (hbn.block _ u1.lt) | replace u1 := u1.below hbn
            try first | replace r2 := r2.of_eq (hbn.block _ r2.lt) | replace r2 := r2.below hbn
            try first | replace r3 := r3.of_eq (hbn.block _ r3.lt) | replace r3 := r3.below hbn
            try first | replace od := od.of_eq (hbn.block _ od.lt) | replace od := od.below hbn
            try first | replace rc := rc.of_eq (hbn.block _ rc.lt) | replace rc := rc.below hbn
            refine anyX_next 7 rfl (by kernel_rfl) rfl (fun K hK => ?_)
            try simp only [List.getElem_toArray, List.getElem_cons_zero, List.getElem_cons_succ]
            refine owp_bs1T _ rfl e (by rfl) ?_
            intro b_s1 wn hle hge ht hbn hzn
            have hsz := B.size
            have hsx := hX.size
            replace B := B.trans (hbn.mono (by omega))
            replace hX := hX.trans (hbn.mono (by omega))
            try first | (have hlt := r1.lt; replace r1 := r1.of_eq (hbn.block _ (by omega))) | replace r1 := r1.below (hbn.mono hle)
            try first | (have hlt := p1.lt; replace p1 := p1.of_eq (hbn.block _ (by omega))) | replace p1 := p1.below (hbn.mono hle)
            try first | (have hlt := u1.lt; replace u1 := u1.of_eq (hbn.block _ (by omega))) | replace u1 := u1.below (hbn.mono hle)
            try first | (have hlt := r2.lt; replace r2 := r2.of_eq (hbn.block _ (by omega))) | replace r2 := r2.below (hbn.mono hle)
            try first | (have hlt := r3.lt; replace r3 := r3.of_eq (hbn.block _ (by omega))) | replace r3 := r3.below (hbn.mono hle)
            try first | (have hlt := od.lt; replace od := od.of_eq (hbn.block _ (by omega))) | replace od := od.below (hbn.mono hle)
            try first | (have hlt := rc.lt; replace rc := rc.of_eq (hbn.block _ (by omega))) | replace rc := rc.below (hbn.mono hle)
            have s1 := ht
            clear ht
            refine hK _ _ ⟨fun _ => ⟨_, ov_of hX⟩, ?_⟩
            clear hK K
            try simp only [List.getElem_toArray, List.getElem_cons_zero, List.getElem_cons_succ]
            simp only [Act.put, List.setIfInBounds_toArray, List.set_cons_zero, List.set_cons_succ]
            refine anyX_seq (by kernel_rfl) (by kernel_rfl) ?_
            simp only [List.drop_succ_cons, List.drop_zero]
            go_wp2_with (first | (refine wpList_storeO rfl _ _ rfl _ rfl _ _ _ rfl r3 ?_; clear r3; intro wn ht hcn hzn; have hsz := B.size; replace hzn := Nat.le_of_eq hzn.symm; replace B := Chg.below B hcn (by omega) B.size; (try replace r1 := r1.of_eq (hcn.block _ r1.lt (by omega))); (try replace p1 := p1.of_eq (hcn.block _ p1.lt (by omega))); (try replace u1 := u1.of_eq (hcn.block _ u1.lt (by omega))); (try replace r2 := r2.of_eq (hcn.block _ r2.lt (by omega))); (try replace rc := rc.of_eq (hcn.block _ rc.lt (by omega))); replace od := od.chg hcn (by omega); have r3 := ht; clear ht; simp only [Act.put, List.setIfInBounds_toArray, List.set_cons_zero, List.set_cons_succ]) | (at_builtin; refine wpList_appendT rfl _ _ rfl _ _ rfl rfl od ((RS.one s1)) (by simp only [List.length_append, List.length_cons, List.length_nil]; omega) (by omega) ?_; intro v_od wn ht hbn; have hsz := B.size; have hzn := hbn.size; replace B := B.trans (hbn.mono (by omega)); clear od; (try replace r1 := r1.of_eq (hbn.block _ (by omega))); (try replace p1 := p1.of_eq (hbn.block _ (by omega))); (try replace u1 := u1.of_eq (hbn.block _ (by omega))); (try replace r2 := r2.of_eq (hbn.block _ (by omega))); (try replace r3 := r3.of_eq (hbn.block _ (by omega))); (try replace rc := rc.of_eq (hbn.block _ (by omega))); have od := ht; clear ht; obtain ⟨a_od, c_od, hv, hco⟩ := od.len; (try simp only [List.length_append, List.length_cons, List.length_nil, Nat.zero_add] at hv hco); subst hv; simp only [Act.put, List.setIfInBounds_toArray, List.set_cons_zero, List.set_cons_succ]) | (refine wpList_bs1T rfl _ rfl e (by rfl) ?_; intro b_s1 wn hle hge ht hbn hzn; have hsz := B.size; replace B := B.trans (hbn.mono (by omega)); have hln := Nat.lt_of_lt_of_eq (Nat.lt_succ_self _) hzn.symm; clear hzn; (try first | (have hlt := r1.lt; replace r1 := r1.of_eq (hbn.block _ (by omega))) | replace r1 := r1.below (hbn.mono hle)); (try first | (have hlt := p1.lt; replace p1 := p1.of_eq (hbn.block _ (by omega))) | replace p1 := p1.below (hbn.mono hle)); (try first | (have hlt := u1.lt; replace u1 := u1.of_eq (hbn.block _ (by omega))) | replace u1 := u1.below (hbn.mono hle)); (try first | (have hlt := r2.lt; replace r2 := r2.of_eq (hbn.block _ (by omega))) | replace r2 := r2.below (hbn.mono hle)); (try first | (have hlt := r3.lt; replace r3 := r3.of_eq (hbn.block _ (by omega))) | replace r3 := r3.below (hbn.mono hle)); (try first | (have hlt := od.lt; replace od := od.of_eq (hbn.block _ (by omega))) | replace od := od.below (hbn.mono hle)); (try first | (have hlt := rc.lt; replace rc := rc.of_eq (hbn.block _ (by omega))) | replace rc := rc.below (hbn.mono hle)); have s1 := ht; clear ht; simp only [Act.put, List.setIfInBounds_toArray, List.set_cons_zero, List.set_cons_succ]) | fail)
            refine NoPan.normal ?_
            go_wp2
            go_roundw
            case rel => exact ⟨k + 1, _, _, _, _, _, by omega, by go_num, rfl, by first | exact HA.out | (rw [← HA.out, List.append_assoc, List.append_assoc]; rfl) | (rw [← HA.out, List.append_assoc]; rfl) | (rw [← HA.out]; simp), by first | omega | (simp; omega), by first | rfl | simp, B, by omega, r1, p1, u1, r2, r3, od⟩
            case measure => simp [intOf]; omega
          | false =>
            rw [h3, h4] at hacc
            simp at hacc
            have HA := Lib.hid hacc
            clear hacc
            go_wp2_with (first | (refine wpList_loadAny (t := 28) rfl _ rfl _ _ _ rfl (run_load_sl r1.cell0) (by rfl) ?_; simp only [Act.put, List.setIfInBounds_toArray, List.set_cons_zero, List.set_cons_succ]) | fail)
            refine wp_region_ov (by kernel_rfl) (by kernel_rfl) ?_
            repeat (first | go_big_quiet_skip | (go_big_quiet_want; first | (refine quiet_loadAny (t := 24) rfl _ _ _ rfl (fun w hw => run_load_B (ov_B p1 w hw) Try.isAgg24 (by kernel_rfl)) (by rfl) ?_; simp only [Act.put, List.setIfInBounds_toArray, List.set_cons_zero, List.set_cons_succ]; go_big_quiet_on) | (refine quiet_loadAny (t := 28) rfl _ _ _ rfl (fun w hw => run_load_sl (ov_B r1 w hw).cell0) (by rfl) ?_; simp only [Act.put, List.setIfInBounds_toArray, List.set_cons_zero, List.set_cons_succ]; go_big_quiet_on) | (refine quiet_loadAny (t := 24) rfl _ _ _ rfl (fun w hw => rc_pos (ov_rc rc w hw) hkl he) (by first | rfl | omega) ?_; simp only [Act.put, List.setIfInBounds_toArray, List.set_cons_zero, List.set_cons_succ]; go_big_quiet_on) | (go_big_quiet_op; first | go_big_quiet_on | go_big_quiet_call ((first | (go_at_call 60; exact calls_ov (R_less _ _ _ _ _)))))))
            refine wpQuiet_nil ?_
            intro wn hbn
            have hsz := B.size
            have hzn := hbn.size
            replace B := B.trans (hbn.mono B.size)
            try first | replace r1 := r1.of_eq (hbn.block _ r1.lt) | replace r1 := r1.below hbn
            try first | replace p1 := p1.of_eq (hbn.block _ p1.lt) | replace p1 := p1.below hbn
            try first | replace u1 := u1.of_eq (hbn.block _ u1.lt) | replace u1 := u1.below hbn
            try first | replace r2 := r2.of_eq (hbn.block _ r2.lt) | replace r2 := r2.below hbn
            try first | replace r3 := r3.of_eq (hbn.block _ r3.lt) | replace r3 := r3.below hbn
            try first | replace od := od.of_eq (hbn.block _ od.lt) | replace od := od.below hbn
            try first | replace rc := rc.of_eq (hbn.block _ rc.lt) | replace rc := rc.below hbn
            go_wp2
            refine wp_region_ov (by kernel_rfl) (by kernel_rfl) ?_
            repeat (first | go_big_quiet_skip | (go_big_quiet_want; first | (refine quiet_loadAny (t := 24) rfl _ _ _ rfl (fun w hw => run_load_B (ov_B p1 w hw) Try.isAgg24 (by kernel_rfl)) (by rfl) ?_; simp only [Act.put, List.setIfInBounds_toArray, List.set_cons_zero, List.set_cons_succ]; go_big_quiet_on) | (refine quiet_loadAny (t := 28) rfl _ _ _ rfl (fun w hw => run_load_sl (ov_B r1 w hw).cell0) (by rfl) ?_; simp only [Act.put, List.setIfInBounds_toArray, List.set_cons_zero, List.set_cons_succ]; go_big_quiet_on) | (refine quiet_loadAny (t := 24) rfl _ _ _ rfl (fun w hw => rc_pos (ov_rc rc w hw) hkl he) (by first | rfl | omega) ?_; simp only [Act.put, List.setIfInBounds_toArray, List.set_cons_zero, List.set_cons_succ]; go_big_quiet_on) | (go_big_quiet_op; first | go_big_quiet_on | go_big_quiet_call ((fail)))))
            refine wpQuiet_nil ?_
            intro wn hbn
            have hsz := B.size
            have hzn := hbn.size
            replace B := B.trans (hbn.mono B.size)
            try first | replace r1 := r1.of_eq (hbn.block _ r1.lt) | replace r1 := r1.below hbn
            try first | replace p1 := p1.of_eq (hbn.block _ p1.lt) | replace p1 := p1.below hbn
            try first | replace u1 := u1.of_eq (hbn.block _ u1.lt) | replace u1 := u1.below hbn
            try first | replace r2 := r2.of_eq (hbn.block _ r2.lt) | replace r2 := r2.below hbn
            try first | replace r3 := r3.of_eq (hbn.block _ r3.lt) | replace r3 := r3.below hbn
            try first | replace od := od.of_eq (hbn.block _ od.lt) | replace od := od.below hbn
            try first | replace rc := rc.of_eq (hbn.block _ rc.lt) | replace rc := rc.below hbn
            go_wp2
            refine wp_region_X 7 8 #[true, true, true, true, true, true, true, false, false, false, false] (by kernel_rfl) (by kernel_rfl) ?_
            simp only [List.length_cons, List.length_nil, Nat.reduceAdd, Nat.reduceSub, List.take_succ_cons, List.take_zero]
            repeat (first | go_big_quiet_skip | (go_big_quiet_want; first | (refine quiet_loadAny (t := 28) rfl _ _ _ rfl (fun w hw => run_load_sl (ov_B r3 w hw).cell0) (by rfl) ?_; simp only [Act.put, List.setIfInBounds_toArray, List.set_cons_zero, List.set_cons_succ]; go_big_quiet_on) | (refine quiet_loadAny (t := 28) rfl _ _ _ rfl (fun w hw => run_load_sl (ov_B r1 w hw).cell0) (by rfl) ?_; simp only [Act.put, List.setIfInBounds_toArray, List.set_cons_zero, List.set_cons_succ]; go_big_quiet_on) | (refine quiet_loadAny (t := 79) rfl _ _ _ rfl (fun w hw => rc_ta (ov_rc rc w hw) hkl he) (by first | rfl | omega) ?_; simp only [Act.put, List.setIfInBounds_toArray, List.set_cons_zero, List.set_cons_succ]; go_big_quiet_on) | (go_big_quiet_op; go_big_quiet_on)))
            refine wpQuiet_nil ?_
            intro wn hbn
            have hX := hbn
            have hsz := B.size
            have hzn := hbn.size
            replace B := B.trans (hbn.mono B.size)
            try first | replace r1 := r1.of_eq (hbn.block _ r1.lt) | replace r1 := r1.below hbn
            try first | replace p1 := p1.of_eq (hbn.block _ p1.lt) | replace p1 := p1.below hbn
            try first | replace u1 := u1.of_eq (hbn.block _ u1.lt) | replace u1 := u1.below hbn
            try first | replace r2 := r2.of_eq (hbn.block _ r2.lt) | replace r2 := r2.below hbn
            try first | replace r3 := r3.of_eq (hbn.block _ r3.lt) | replace r3 := r3.below hbn
            try first | replace od := od.of_eq (hbn.block _ od.lt) | replace od := od.below hbn
            try first | replace rc := rc.of_eq (hbn.block _ rc.lt) | replace rc := rc.below hbn
            refine anyX_next 7 rfl (by kernel_rfl) rfl (fun K hK => ?_)
            try simp only [List.getElem_toArray, List.getElem_cons_zero, List.getElem_cons_succ]
            refine owp_bs1T _ rfl e (by rfl) ?_
            intro b_s1 wn hle hge ht hbn hzn
            have hsz := B.size
            have hsx := hX.size
            replace B := B.trans (hbn.mono (by omega))
            replace hX := hX.trans (hbn.mono (by omega))
            try first | (have hlt := r1.lt; replace r1 := r1.of_eq (hbn.block _ (by omega))) | replace r1 := r1.below (hbn.mono hle)
            try first | (have hlt := p1.lt; replace p1 := p1.of_eq (hbn.block _ (by omega))) | replace p1 := p1.below (hbn.mono hle)
            try first | (have hlt := u1.lt; replace u1 := u1.of_eq (hbn.block _ (by omega))) | replace u1 := u1.below (hbn.mono hle)
            try first | (have hlt := r2.lt; replace r2 := r2.of_eq (hbn.block _ (by omega))) | replace r2 := r2.below (hbn.mono hle)
            try first | (have hlt := r3.lt; replace r3 := r3.of_eq (hbn.block _ (by omega))) | replace r3 := r3.below (hbn.mono hle)
            try first | (have hlt := od.lt; replace od := od.of_eq (hbn.block _ (by omega))) | replace od := od.below (hbn.mono hle)
            try first | (have hlt := rc.lt; replace rc := rc.of_eq (hbn.block _ (by omega))) | replace rc := rc.below (hbn.mono hle)
            have s1 := ht
            clear ht
            refine hK _ _ ⟨fun _ => ⟨_, ov_of hX⟩, ?_⟩
            clear hK K
            try simp only [List.getElem_toArray, List.getElem_cons_zero, List.getElem_cons_succ]
            simp only [Act.put, List.setIfInBounds_toArray, List.set_cons_zero, List.set_cons_succ]
            refine anyX_seq (by kernel_rfl) (by kernel_rfl) ?_
            simp only [List.drop_succ_cons, List.drop_zero]
            go_wp2_with (first | (refine wpList_storeO rfl _ _ rfl _ rfl _ _ _ rfl r3 ?_; clear r3; intro wn ht hcn hzn; have hsz := B.size; replace hzn := Nat.le_of_eq hzn.symm; replace B := Chg.below B hcn (by omega) B.size; (try replace r1 := r1.of_eq (hcn.block _ r1.lt (by omega))); (try replace p1 := p1.of_eq (hcn.block _ p1.lt (by omega))); (try replace u1 := u1.of_eq (hcn.block _ u1.lt (by omega))); (try replace r2 := r2.of_eq (hcn.block _ r2.lt (by omega))); (try replace rc := rc.of_eq (hcn.block _ rc.lt (by omega))); replace od := od.chg hcn (by omega); have r3 := ht; clear ht; simp only [Act.put, List.setIfInBounds_toArray, List.set_cons_zero, List.set_cons_succ]) | (at_builtin; refine wpList_appendT rfl _ _ rfl _ _ rfl rfl od ((RS.one s1)) (by simp only [List.length_append, List.length_cons, List.length_nil]; omega) (by omega) ?_; intro v_od wn ht hbn; have hsz := B.size; have hzn := hbn.size; replace B := B.trans (hbn.mono (by omega)); clear od; (try replace r1 := r1.of_eq (hbn.block _ (by omega))); (try replace p1 := p1.of_eq (hbn.block _ (by omega))); (try replace u1 := u1.of_eq (hbn.block _ (by omega))); (try replace r2 := r2.of_eq (hbn.block _ (by omega))); (try replace r3 := r3.of_eq (hbn.block _ (by omega))); (try replace rc := rc.of_eq (hbn.block _ (by omega))); have od := ht; clear ht; obtain ⟨a_od, c_od, hv, hco⟩ := od.len; (try simp only [List.length_append, List.length_cons, List.length_nil, Nat.zero_add] at hv hco); subst hv; simp only [Act.put, List.setIfInBounds_toArray, List.set_cons_zero, List.set_cons_succ]) | (refine wpList_bs1T rfl _ rfl e (by rfl) ?_; intro b_s1 wn hle hge ht hbn hzn; have hsz := B.size; replace B := B.trans (hbn.mono (by omega)); have hln := Nat.lt_of_lt_of_eq (Nat.lt_succ_self _) hzn.symm; clear hzn; (try first | (have hlt := r1.lt; replace r1 := r1.of_eq (hbn.block _ (by omega))) | replace r1 := r1.below (hbn.mono hle)); (try first | (have hlt := p1.lt; replace p1 := p1.of_eq (hbn.block _ (by omega))) | replace p1 := p1.below (hbn.mono hle)); (try first | (have hlt := u1.lt; replace u1 := u1.of_eq (hbn.block _ (by omega))) | replace u1 := u1.below (hbn.mono hle)); (try first | (have hlt := r2.lt; replace r2 := r2.of_eq (hbn.block _ (by omega))) | replace r2 := r2.below (hbn.mono hle)); (try first | (have hlt := r3.lt; replace r3 := r3.of_eq (hbn.block _ (by omega))) | replace r3 := r3.below (hbn.mono hle)); (try first | (have hlt := od.lt; replace od := od.of_eq (hbn.block _ (by omega))) | replace od := od.below (hbn.mono hle)); (try first | (have hlt := rc.lt; replace rc := rc.of_eq (hbn.block _ (by omega))) | replace rc := rc.below (hbn.mono hle)); have s1 := ht; clear ht; simp only [Act.put, List.setIfInBounds_toArray, List.set_cons_zero, List.set_cons_succ]) | fail)
            refine NoPan.normal ?_
            go_wp2
            go_roundw
            case rel => exact ⟨k + 1, _, _, _, _, _, by omega, by go_num, rfl, by first | exact HA.out | (rw [← HA.out, List.append_assoc, List.append_assoc]; rfl) | (rw [← HA.out, List.append_assoc]; rfl) | (rw [← HA.out]; simp), by first | omega | (simp; omega), by first | rfl | simp, B, by omega, r1, p1, u1, r2, r3, od⟩
            case measure => simp [intOf]; omega
    · obtain rfl : k = ls.length := by omega
      rw [List.drop_length] at hacc
      unfold rputL at hacc
      cases dd with
      | true =>
        simp at hacc
        have HA := Lib.hid hacc
        clear hacc
        go_wp2_with (first | (refine wpList_storeB (t := 30) rfl _ _ rfl _ rfl _ rfl r2 (by kernel_rfl) rfl (by simp [Value.oneCell']) ?_; clear r2; intro wn ht hcn hzn; have hsz := B.size; replace hzn := Nat.le_of_eq hzn.symm; replace B := Chg.below B hcn (by omega) B.size; (try replace r1 := r1.of_eq (hcn.block _ r1.lt (by omega))); (try replace p1 := p1.of_eq (hcn.block _ p1.lt (by omega))); (try replace u1 := u1.of_eq (hcn.block _ u1.lt (by omega))); (try replace r3 := r3.of_eq (hcn.block _ r3.lt (by omega))); (try replace od := od.of_eq (hcn.block _ od.lt (by omega))); (try replace rc := rc.of_eq (hcn.block _ rc.lt (by omega))); replace od := od.chg hcn (by omega); have r2 := ht; clear ht; simp only [Act.put, List.setIfInBounds_toArray, List.set_cons_zero, List.set_cons_succ]) | (refine wpList_loadAny (t := 30) rfl _ rfl _ _ _ rfl (run_load_B r3 Try.isAgg30 (by kernel_rfl)) (by rfl) ?_; simp only [Act.put, List.setIfInBounds_toArray, List.set_cons_zero, List.set_cons_succ]) | (refine wpList_loadAny (t := 28) rfl _ rfl _ _ _ rfl (run_load_sl r1.cell0) (by rfl) ?_; simp only [Act.put, List.setIfInBounds_toArray, List.set_cons_zero, List.set_cons_succ]) | fail)
        refine bodyPost_ret (results_B (t := 30) rfl _ _ (b_r2) rfl r2 Try.isAgg30 (by kernel_rfl)) rfl ?_
        exact ⟨_, rfl, by rw [← HA.out]; exact od.rs, B⟩
      | false =>
        simp at hacc
        have HA := Lib.hid hacc
        clear hacc
        go_wp2_with (first | (refine wpList_storeB (t := 30) rfl _ _ rfl _ rfl _ rfl r2 (by kernel_rfl) rfl (by simp [Value.oneCell']) ?_; clear r2; intro wn ht hcn hzn; have hsz := B.size; replace hzn := Nat.le_of_eq hzn.symm; replace B := Chg.below B hcn (by omega) B.size; (try replace r1 := r1.of_eq (hcn.block _ r1.lt (by omega))); (try replace p1 := p1.of_eq (hcn.block _ p1.lt (by omega))); (try replace u1 := u1.of_eq (hcn.block _ u1.lt (by omega))); (try replace r3 := r3.of_eq (hcn.block _ r3.lt (by omega))); (try replace od := od.of_eq (hcn.block _ od.lt (by omega))); (try replace rc := rc.of_eq (hcn.block _ rc.lt (by omega))); replace od := od.chg hcn (by omega); have r2 := ht; clear ht; simp only [Act.put, List.setIfInBounds_toArray, List.set_cons_zero, List.set_cons_succ]) | (refine wpList_loadAny (t := 30) rfl _ rfl _ _ _ rfl (run_load_B r3 Try.isAgg30 (by kernel_rfl)) (by rfl) ?_; simp only [Act.put, List.setIfInBounds_toArray, List.set_cons_zero, List.set_cons_succ]) | (refine wpList_storeO rfl _ _ rfl _ rfl _ _ _ rfl r3 ?_; clear r3; intro wn ht hcn hzn; have hsz := B.size; replace hzn := Nat.le_of_eq hzn.symm; replace B := Chg.below B hcn (by omega) B.size; (try replace r1 := r1.of_eq (hcn.block _ r1.lt (by omega))); (try replace p1 := p1.of_eq (hcn.block _ p1.lt (by omega))); (try replace u1 := u1.of_eq (hcn.block _ u1.lt (by omega))); (try replace r2 := r2.of_eq (hcn.block _ r2.lt (by omega))); replace od := od.chg hcn (by omega); have r3 := ht; clear ht; simp only [Act.put, List.setIfInBounds_toArray, List.set_cons_zero, List.set_cons_succ]) | (at_builtin; refine wpList_appendT rfl _ _ rfl _ _ rfl rfl od ((RS.one s1)) (by simp only [List.length_cons, List.length_nil]; omega) (by omega) ?_; intro v_od wn ht hbn; have hsz := B.size; have hzn := hbn.size; replace B := B.trans (hbn.mono (by omega)); clear od; (try replace r1 := r1.of_eq (hbn.block _ (by omega))); (try replace p1 := p1.of_eq (hbn.block _ (by omega))); (try replace u1 := u1.of_eq (hbn.block _ (by omega))); (try replace r2 := r2.of_eq (hbn.block _ (by omega))); (try replace r3 := r3.of_eq (hbn.block _ (by omega))); (try replace rc := rc.of_eq (hbn.block _ (by omega))); have od := ht; clear ht; obtain ⟨a_od, c_od, hv, hco⟩ := od.len; (try simp only [List.length_append, List.length_cons, List.length_nil, Nat.zero_add] at hv hco); subst hv; simp only [Act.put, List.setIfInBounds_toArray, List.set_cons_zero, List.set_cons_succ]) | (refine wpList_bs1T rfl _ rfl ⟨x, y, t⟩ (by rfl) ?_; intro b_s1 wn hle hge ht hbn hzn; have hsz := B.size; replace B := B.trans (hbn.mono (by omega)); have hln := Nat.lt_of_lt_of_eq (Nat.lt_succ_self _) hzn.symm; clear hzn; (try first | (have hlt := r1.lt; replace r1 := r1.of_eq (hbn.block _ (by omega))) | replace r1 := r1.below (hbn.mono hle)); (try first | (have hlt := p1.lt; replace p1 := p1.of_eq (hbn.block _ (by omega))) | replace p1 := p1.below (hbn.mono hle)); (try first | (have hlt := u1.lt; replace u1 := u1.of_eq (hbn.block _ (by omega))) | replace u1 := u1.below (hbn.mono hle)); (try first | (have hlt := r2.lt; replace r2 := r2.of_eq (hbn.block _ (by omega))) | replace r2 := r2.below (hbn.mono hle)); (try first | (have hlt := r3.lt; replace r3 := r3.of_eq (hbn.block _ (by omega))) | replace r3 := r3.below (hbn.mono hle)); (try first | (have hlt := od.lt; replace od := od.of_eq (hbn.block _ (by omega))) | replace od := od.below (hbn.mono hle)); (try first | (have hlt := rc.lt; replace rc := rc.of_eq (hbn.block _ (by omega))) | replace rc := rc.below (hbn.mono hle)); have s1 := ht; clear ht; simp only [Act.put, List.setIfInBounds_toArray, List.set_cons_zero, List.set_cons_succ]) | (refine wpList_buildTA rfl _ _ rfl x y t (by rfl) (by rfl) ?_; simp only [Act.put, List.setIfInBounds_toArray, List.set_cons_zero, List.set_cons_succ]) | (refine wpList_loadT rfl _ rfl _ rfl u1 ?_; simp only [Act.put, List.setIfInBounds_toArray, List.set_cons_zero, List.set_cons_succ]) | (refine wpList_loadAny (t := 24) rfl _ rfl _ _ _ rfl (run_load_B p1 Try.isAgg24 (by kernel_rfl)) (by rfl) ?_; simp only [Act.put, List.setIfInBounds_toArray, List.set_cons_zero, List.set_cons_succ]) | (refine wpList_loadAny (t := 28) rfl _ rfl _ _ _ rfl (run_load_sl r3.cell0) (by rfl) ?_; simp only [Act.put, List.setIfInBounds_toArray, List.set_cons_zero, List.set_cons_succ]) | (refine wpList_loadAny (t := 28) rfl _ rfl _ _ _ rfl (run_load_sl r1.cell0) (by rfl) ?_; simp only [Act.put, List.setIfInBounds_toArray, List.set_cons_zero, List.set_cons_succ]) | fail)
        refine bodyPost_ret (results_B (t := 30) rfl _ _ (b_r2) rfl r2 Try.isAgg30 (by kernel_rfl)) rfl ?_
        exact ⟨_, rfl, by rw [← HA.out]; exact od.rs, B⟩
end Go.Proofs.Ytppccnjckiedlaa
