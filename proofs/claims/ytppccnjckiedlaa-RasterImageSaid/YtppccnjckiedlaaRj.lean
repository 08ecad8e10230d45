/- Tiles at a position built, put into slices; contracts of Get, BinarySearchFunc, find, Clone. -/
import Derived.Test.YtppccnjckiedlaaRi
import Derived.Great.BuildSlice
import Derived.Lib.SliceRun
namespace Go.Proofs.Ytppccnjckiedlaa
open Go.RowKit Go.Shelf Pl
set_option linter.unusedVariables false
set_option linter.unusedSimpArgs false
set_option maxRecDepth 20000

theorem fill_cons {place : Nat → Option (Nat × Nat)} {cells : Array Value} {i : Nat} {v : Value} {rest : List (Nat × Value)} {off sz : Nat} (hp : place i = some (off, sz)) (hv : v.cells.size = sz) (hle : off + sz ≤ cells.size) :
    ∃ r : Array Value, r.size = cells.size ∧ (∀ k, r[k]? = if off ≤ k ∧ k < off + sz then v.cells[k - off]? else cells[k]?) ∧ Instr.fill place cells ((i, v) :: rest) = Instr.fill place r rest := by
  obtain ⟨g1, g2⟩ := Great.foldl_set off v.cells.toList 0 cells
  refine ⟨v.cells.zipIdx.foldl (fun cs (x : Value × Nat) => cs.setIfInBounds (off + x.2) x.1) cells, ?_, fun k => ?_, ?_⟩
  · rw [← Array.foldl_toList, Array.toList_zipIdx]; exact g1
  · rw [← Array.foldl_toList, Array.toList_zipIdx]
    refine (g2 k).trans ?_
    rw [Array.length_toList, hv, Nat.add_zero]
    by_cases h : off ≤ k ∧ k < off + sz
    · rw [if_pos h, if_pos ⟨h.1, h.2, by omega⟩, Array.getElem?_toList]
    · rw [if_neg h, if_neg (by omega)]
  · conv => lhs; unfold Instr.fill
    rw [hp]
    simp only []
    rw [if_neg (by simp [hv]; omega)]
theorem cells_ps (x y : Int) : (Ps.v x y).cells = #[.int .i64 x, .int .i64 y] := by simp only [Ps.v, Value.cells]
theorem taC_get (x y : Int) (t : Nat → Px) (k : Nat) : (taC ⟨x, y, t⟩)[k]? = if k < 2 then (#[.int .i64 x, .int .i64 y] : Array Value)[k]? else (tileC t)[k - 2]? := by
  by_cases h : k < 2
  · rw [if_pos h]
    have hc : k = 0 ∨ k = 1 := by omega
    rcases hc with rfl | rfl
    · exact taC_x _
    · exact taC_y _
  · rw [if_neg h]
    have := taC_t ⟨x, y, t⟩ (k - 2)
    rw [show 2 + (k - 2) = k by omega] at this
    exact this
theorem built_TA (parts : List (Nat × Value)) : Try.prog.built 79 parts = Instr.fill (fun i => #[(0, 2), (2, 256)][i]?) zTA parts := by kernel_rfl
theorem fill_TA (x y : Int) (t : Nat → Px) : Instr.fill (fun i => #[(0, 2), (2, 256)][i]?) zTA [(0, Ps.v x y), (1, Tile.v t)] = some (taC ⟨x, y, t⟩) := by
  obtain ⟨r, hs, hr, e⟩ := fill_cons (place := fun i => #[(0, 2), (2, 256)][i]?) (cells := zTA) (i := 0) (v := Ps.v x y) (rest := [(1, Tile.v t)]) (off := 0) (sz := 2) rfl (by rw [cells_ps]; rfl) (by rw [size_zTA]; omega)
  obtain ⟨r', hs', hr', e'⟩ := fill_cons (place := fun i => #[(0, 2), (2, 256)][i]?) (cells := r) (i := 1) (v := Tile.v t) (rest := []) (off := 2) (sz := 256) rfl (by rw [cells_tile, size_tileC]) (by rw [hs, size_zTA]; omega)
  rw [e, e']
  show some r' = _
  congr 1
  apply Array.ext_getElem?
  intro k
  rw [hr' k, hr k, taC_get, cells_tile, cells_ps]
  by_cases h2 : k < 2
  · rw [if_neg (by omega), if_pos (by omega), if_pos h2, Nat.sub_zero]
  · rw [if_neg h2]
    by_cases h3 : k < 258
    · rw [if_pos (by omega)]
    · rw [if_neg (by omega), if_neg (by omega), Array.getElem?_eq_none (by rw [size_zTA]; omega), Array.getElem?_eq_none (by rw [size_tileC]; omega)]
theorem run_build_TA (w : World) (o : Oper) (p q : Operand) (ho : o.op = .build 79 #[(0, p), (1, q)]) (ev : Operand → Value) (x y : Int) (t : Nat → Px) (hp : ev p = Ps.v x y) (hq : ev q = Tile.v t) : (execOp ev o).run Try.prog w = .ok (.value (.agg (taC ⟨x, y, t⟩))) w := by
  unfold execOp
  have r := run_build w 79 #[(0, Ps.v x y), (1, Tile.v t)] _ ((built_TA _).trans (fill_TA x y t))
  simp only [ho, List.map_toArray, List.map_cons, List.map_nil, hp, hq]
  simp only [Sem.run_bind, r, Result.andThen_ok, Sem.run_pure]
section
variable {ops : Array Oper} {rest : List Oper} {o : Oper} {a : Act} {w : World} {Q : Exit → Act → World → Prop}
theorem wpList_buildTA (hg : o.guard = none) (p q : Operand) (ho : o.op = .build 79 #[(0, p), (1, q)]) (x y : Int) (t : Nat → Px) (hp : a.eval p = Ps.v x y) (hq : a.eval q = Tile.v t)
    (h : wpList Try.prog ops Q rest (a.put o.dst (.agg (taC ⟨x, y, t⟩))) w) : wpList Try.prog ops Q (o :: rest) a w :=
  wpList_plain hg fun K hK => by
    unfold Oper.wp
    rw [run_build_TA w o p q ho _ x y t hp hq]
    exact hK _ _ h
theorem fill_bs1 (e : TA) (cs : Array Value) (hs : cs.size = 258) : Instr.fill (fun i => some (i * 258, 258)) cs [(0, .agg (taC e))] = some (taC e) := by
  have hc : (Value.agg (taC e)).cells = taC e := by simp only [Value.cells]
  obtain ⟨r, hs', hr, e'⟩ := fill_cons (place := fun i => some (i * 258, 258)) (cells := cs) (i := 0) (v := .agg (taC e)) (rest := []) (off := 0) (sz := 258) rfl (by rw [hc, size_taC]) (by omega)
  rw [e']
  show some r = _
  congr 1
  apply Array.ext_getElem?
  intro k
  rw [hr k, hc]
  by_cases h : k < 258
  · rw [if_pos (by omega), Nat.sub_zero]
  · rw [if_neg (by omega), Array.getElem?_eq_none (by omega), Array.getElem?_eq_none (by rw [size_taC]; omega)]
/-- A slice of one tile. -/
theorem wpList_bs1T (hg : o.guard = none) (x : Operand) (ho : o.op = .buildSlice 28 1 #[(0, x)]) (e : TA) (hx : a.eval x = .agg (taC e))
    (h : ∀ b w', w.heap.size ≤ b → b ≤ w.heap.size → AtB 79 w' b (taC e) → Below b w w' → w'.heap.size = b + 1 → wpList Try.prog ops Q rest (a.put o.dst (.slice (some ⟨b, 0, none⟩) 1 1)) w') : wpList Try.prog ops Q (o :: rest) a w := by
  obtain ⟨i, hi⟩ : ∃ i, Try.prog.info? 79 = some i := by
    cases h : Try.prog.info? 79 with
    | some i => exact ⟨i, rfl⟩
    | none => have e := ta_info; rw [h] at e; cases e
  have e1 := ta_info
  rw [hi] at e1
  have e1' : i.size = 258 ∧ i.bytes = 272 := by simpa using e1
  have hz := ta_zero
  rw [hi] at hz
  refine wpList_buildSlice hg 28 79 1 #[(0, x)] ho (taC e) i _ Try.underlying28 hi hz (by rw [e1'.1]; omega) (by rw [e1'.1]; omega) ?_ (h _ _ (Nat.le_refl _) (Nat.le_refl _) (by unfold AtB; rw [heap_get_alloc, if_pos rfl]) ((Below.refl _ _).alloc (Nat.le_refl _) _) (World.size_alloc _ _))
  rw [e1'.1]
  have hp : ((#[(0, x)] : Array (Nat × Operand)).map fun (i, x) => (i, a.eval x)).toList = [(0, Value.agg (taC e))] := by simp [hx]
  rw [hp]
  exact fill_bs1 e _ (by simp)
theorem RS.one {b : Nat} {e : TA} {w : World} (h : AtB 79 w b (taC e)) : RS (.slice (some ⟨b, 0, none⟩) 1 1) [e] w :=
  .inr ⟨b, 0, 1, rfl, Nat.le_refl _, fun _ => ⟨h.lt, fun i hi j hj => by
    have hi : i < 1 := hi
    obtain rfl : i = 0 := by omega
    rw [show 0 + (0 * 258 + j) = j by omega]
    exact (cells_of_block h).1 j⟩⟩
theorem run_bsET (w : World) (o : Oper) (ho : o.op = .buildSlice 28 0 #[]) (ev : Operand → Value) : (execOp ev o).run Try.prog w = .ok (.value (.slice (some ⟨w.heap.size, 0, none⟩) 0 0)) (w.alloc (.cells #[] 79)) := by
  obtain ⟨d, p, t, ps, af, gd⟩ := o
  simp only at ho
  subst ho
  kernel_rfl
/-- A slice of no tiles, in memory of the call's own. -/
theorem wpList_bsET (hg : o.guard = none) (ho : o.op = .buildSlice 28 0 #[])
    (h : ∀ b w', w.heap.size ≤ b → b ≤ w.heap.size → OwnT b (.slice (some ⟨b, 0, none⟩) 0 0) [] w' → Below b w w' → w'.heap.size = b + 1 → wpList Try.prog ops Q rest (a.put o.dst (.slice (some ⟨b, 0, none⟩) 0 0)) w') : wpList Try.prog ops Q (o :: rest) a w :=
  wpList_plain hg fun K hK => by
    unfold Oper.wp
    rw [run_bsET w o ho]
    exact hK _ _ (h _ _ (Nat.le_refl _) (Nat.le_refl _) ⟨rfl, .inr ⟨w.heap.size, 0, #[], rfl, Nat.le_refl _, by rw [heap_get_alloc, if_pos rfl], Nat.le_refl _, by unfold maxLen; omega, rfl, rfl⟩⟩ ((Below.refl _ _).alloc (Nat.le_refl _) _) (World.size_alloc _ _))
end

/-! ### Clone -/
set_option maxHeartbeats 1000000 in
theorem P_Clone (v : Value) (ls : List TA) (w : World) (h : RS v ls w) (hn : ls.length ≤ 4000) : Calls Try.prog 96 #[v] w fun e w' => ∃ v', e = .returned v' ∧ OwnT w.heap.size v' ls w' ∧ Below w.heap.size w w' := by
  have B := Below.refl w.heap.size w
  have q22 : ∀ (w : World) (a : Option Addr) (n c n' c' : Nat), (binOp .eql 28 (.slice a n c) (.slice none n' c')).run Try.prog w = .ok (.bool a.isNone) w := fun w a n c n' c' => Lib.run_eql_slice_nil w _ _ a n c n' c' Try.underlying28
  rcases h with ⟨rfl, rfl⟩ | ⟨g, o, c, rfl, hc, sc⟩
  · go_enter Try.func96, Try.ntmps96
    go_wp2
    go_ret
    exact ⟨_, rfl, OwnT.nil _ _, B⟩
  · have h : RS (.slice (some ⟨g, o, none⟩) ls.length c) ls w := .inr ⟨g, o, c, rfl, hc, sc⟩
    clear sc
    go_enter Try.func96, Try.ntmps96
    go_wp2_with (first | (at_builtin; refine wpList_appendT rfl _ _ rfl _ _ rfl rfl od (h) (by simp only [List.length_nil]; omega) (by omega) ?_; intro v_od wn ht hbn; have hsz := B.size; have hzn := hbn.size; replace B := B.trans (hbn.mono (by omega)); clear od; have od := ht; clear ht; simp only [Act.put, List.setIfInBounds_toArray, List.set_cons_zero, List.set_cons_succ]) | (refine wpList_bsET rfl rfl ?_; intro b_od wn hle hge ht hbn hzn; have hsz := B.size; replace B := B.trans (hbn.mono (by omega)); have od := ht; clear ht; replace h := h.below (hbn.mono (by omega)); simp only [Act.put, List.setIfInBounds_toArray, List.set_cons_zero, List.set_cons_succ]) | fail)
    go_ret
    exact ⟨_, rfl, by rw [List.nil_append] at od; exact od.mono (by omega), B⟩

/-! ### The search -/
theorem cut_less {ls : List TA} (hs : Srt ls) (x y : Int) {h : Nat} (hh : h < ls.length) : lessB (aT ls h).x (aT ls h).y x y = decide (h < cutL ls x y) := by
  by_cases hc : h < cutL ls x y
  · rw [decide_eq_true hc, cutL_lt hc]
  · rw [decide_eq_false hc]
    have hle := cutL_le ls x y
    have h0 : cutL ls x y < ls.length := by omega
    have h1 := cutL_at h0
    by_cases he : cutL ls x y = h
    · rw [← he]; exact h1
    · have h2 := List.pairwise_iff_getElem.1 hs (cutL ls x y) h h0 hh (by omega)
      have a := aT_at h0
      have b := aT_at hh
      rw [List.getElem?_eq_getElem h0] at a
      rw [List.getElem?_eq_getElem hh] at b
      rw [Option.some.inj a, Option.some.inj b] at h2
      unfold beforeA lessB at h2
      unfold lessB at h1 ⊢
      have h2 := of_decide_eq_true h2
      have h1 := of_decide_eq_false h1
      exact decide_eq_false (by omega)
theorem P_find1 (e : TA) (x y : Int) (w : World) : Calls Try.prog 110 #[.agg (taC e), .agg #[.int .i64 x, .int .i64 y]] w fun e' w' => e' = .returned (.int .i64 (ordI e.x e.y x y)) ∧ Below w.heap.size w w' := by
  have B := Below.refl w.heap.size w
  go_enter Try.func110, Try.ntmps110
  go_wp2_with (first | (go_at_call 55; refine (P_order _ _ x y _).mono ?_; rintro e wn ⟨rfl, hbn⟩; have hsz := B.size; have hzn := hbn.size; replace B := B.trans (hbn.mono B.size); (try first | replace t1 := t1.of_eq (hbn.block _ t1.lt) | replace t1 := t1.below hbn); (try first | replace p1 := p1.of_eq (hbn.block _ p1.lt) | replace p1 := p1.below hbn)) | (refine wpList_loadAny (t := 24) rfl _ rfl _ _ _ rfl (ta_pos t1) (by first | rfl | omega) ?_; simp only [Act.put, List.setIfInBounds_toArray, List.set_cons_zero, List.set_cons_succ]) | (refine wpList_loadAny (t := 24) rfl _ rfl _ _ _ rfl (run_load_B p1 Try.isAgg24 (by kernel_rfl)) (by rfl) ?_; simp only [Act.put, List.setIfInBounds_toArray, List.set_cons_zero, List.set_cons_succ]) | (have _ := t1; refine wpList_boxB (t := 24) rfl _ rfl _ rfl ?_; intro b_p1 wn hle hge ht hbn hzn; have hsz := B.size; replace B := B.trans (hbn.mono (by omega)); have hln := Nat.lt_of_lt_of_eq (Nat.lt_succ_self _) hzn.symm; clear hzn; (try first | (have hlt := t1.lt; replace t1 := t1.of_eq (hbn.block _ (by omega))) | replace t1 := t1.below (hbn.mono hle)); (try first | (have hlt := p1.lt; replace p1 := p1.of_eq (hbn.block _ (by omega))) | replace p1 := p1.below (hbn.mono hle)); have p1 := ht; clear ht; simp only [Act.put, List.setIfInBounds_toArray, List.set_cons_zero, List.set_cons_succ]) | (refine wpList_boxB (t := 79) rfl _ rfl _ rfl ?_; intro b_t1 wn hle hge ht hbn hzn; have hsz := B.size; replace B := B.trans (hbn.mono (by omega)); have hln := Nat.lt_of_lt_of_eq (Nat.lt_succ_self _) hzn.symm; clear hzn; (try first | (have hlt := t1.lt; replace t1 := t1.of_eq (hbn.block _ (by omega))) | replace t1 := t1.below (hbn.mono hle)); (try first | (have hlt := p1.lt; replace p1 := p1.of_eq (hbn.block _ (by omega))) | replace p1 := p1.below (hbn.mono hle)); have t1 := ht; clear ht; simp only [Act.put, List.setIfInBounds_toArray, List.set_cons_zero, List.set_cons_succ]) | fail)
  go_ret
  exact ⟨rfl, B⟩
set_option maxHeartbeats 2000000 in
theorem P_search (v : Value) (ls : List TA) (x y : Int) (w : World) (h : RS v ls w) (hs : Srt ls) (hn : ls.length ≤ 1000000) : Calls Try.prog 109 #[v, .agg #[.int .i64 x, .int .i64 y], .func (.func 110) #[] #[]] w fun e w' => e = .returned (.tuple #[.int .i64 (cutL ls x y : Int), .bool (hitL ls x y)]) ∧ Below w.heap.size w w' := by
  obtain ⟨a, c, rfl, hc⟩ := h.len
  have hcl := cutL_le ls x y
  have B := Below.refl w.heap.size w
  have HS := Lib.hid h
  have SR := Lib.hid hs
  have eg := enters_of Try.func110 (by kernel_rfl) rfl
  clear h hs
  generalize hfin : hitL ls x y = fin
  have FIN := Lib.hid hfin
  clear hfin
  go_enter Try.func109, Try.ntmps109
  go_wp2_with (first | (refine wpList_boxB (t := 24) rfl _ rfl _ rfl ?_; intro b_p1 wn hle hge ht hbn hzn; have hsz := B.size; replace B := B.trans (hbn.mono (by omega)); have hln := Nat.lt_of_lt_of_eq (Nat.lt_succ_self _) hzn.symm; clear hzn; (try first | (have hlt := p1.lt; replace p1 := p1.of_eq (hbn.block _ (by omega))) | replace p1 := p1.below (hbn.mono hle)); (try first | (have hlt := rc.lt; replace rc := rc.of_eq (hbn.block _ (by omega))) | replace rc := rc.below (hbn.mono hle)); have p1 := ht; clear ht; simp only [Act.put, List.setIfInBounds_toArray, List.set_cons_zero, List.set_cons_succ]) | fail)
  have hp1 := p1.lt
  go_loopw [9, 10, 11] (fun i j _ wr => ∃ p q : Nat, p ≤ cutL ls x y ∧ cutL ls x y ≤ q ∧ q ≤ ls.length ∧ i = .int .i64 p ∧ j = .int .i64 q ∧ Below w.heap.size w wr ∧ AtB 24 wr b_p1 #[.int .i64 x, .int .i64 y]) (fun i j _ _ => (intOf j - intOf i).toNat)
  case atStart => exact ⟨0, ls.length, by omega, hcl, Nat.le_refl _, rfl, rfl, B, p1⟩
  case round =>
    clear B p1
    obtain ⟨p, q, h1, h2, h3, rfl, rfl, B, p1⟩ := hrel
    by_cases hpq : p < q
    · obtain ⟨g, o, rfl, rc0⟩ := HS.out.at (by omega)
      have hg0 := rc0.lt
      have rc := rc0.of_eq (B.block _ rc0.lt)
      clear rc0
      have hm : (p + q) / 2 < ls.length := by omega
      obtain ⟨e, he⟩ : ∃ e, aT ls ((p + q) / 2) = e := ⟨_, rfl⟩
      have hl := cut_less SR.out x y hm
      rw [he, ← ordI_neg] at hl
      by_cases hcut : (p + q) / 2 < cutL ls x y
      · rw [decide_eq_true hcut] at hl
        go_wp2
        refine wp_region_ov (by kernel_rfl) (by kernel_rfl) ?_
        repeat (first | go_big_quiet_skip | (go_big_quiet_want; first | (refine quiet_loadAny (t := 79) rfl _ _ _ rfl (fun w hw => rc_ta (ov_rc rc w hw) hm he) (by first | rfl | omega) ?_; simp only [Act.put, List.setIfInBounds_toArray, List.set_cons_zero, List.set_cons_succ]; go_big_quiet_on) | (refine quiet_loadAny (t := 24) rfl _ _ _ rfl (fun w hw => run_load_B (ov_B p1 w hw) Try.isAgg24 (by kernel_rfl)) (by rfl) ?_; simp only [Act.put, List.setIfInBounds_toArray, List.set_cons_zero, List.set_cons_succ]; go_big_quiet_on) | (go_big_quiet_op; first | go_big_quiet_on | go_big_quiet_call ((first | (go_at_call 110; exact calls_ov (P_find1 e x y _)))))))
        refine wpQuiet_nil ?_
        intro wn hbn
        have hsz := B.size
        have hzn := hbn.size
        replace B := B.trans (hbn.mono B.size)
        try first | replace p1 := p1.of_eq (hbn.block _ p1.lt) | replace p1 := p1.below hbn
        try first | replace rc := rc.of_eq (hbn.block _ rc.lt) | replace rc := rc.below hbn
        go_wp2
        go_roundw
        case rel => exact ⟨(p + q) / 2 + 1, q, by omega, h2, h3, by first | rfl | (rw [show ((p : Int) + (q : Int)) / 2 + 1 = (((p + q) / 2 + 1 : Nat) : Int) by omega]), rfl, B, p1⟩
        case measure => simp [intOf]; omega
      · rw [decide_eq_false hcut] at hl
        go_wp2
        refine wp_region_ov (by kernel_rfl) (by kernel_rfl) ?_
        repeat (first | go_big_quiet_skip | (go_big_quiet_want; first | (refine quiet_loadAny (t := 79) rfl _ _ _ rfl (fun w hw => rc_ta (ov_rc rc w hw) hm he) (by first | rfl | omega) ?_; simp only [Act.put, List.setIfInBounds_toArray, List.set_cons_zero, List.set_cons_succ]; go_big_quiet_on) | (refine quiet_loadAny (t := 24) rfl _ _ _ rfl (fun w hw => run_load_B (ov_B p1 w hw) Try.isAgg24 (by kernel_rfl)) (by rfl) ?_; simp only [Act.put, List.setIfInBounds_toArray, List.set_cons_zero, List.set_cons_succ]; go_big_quiet_on) | (go_big_quiet_op; first | go_big_quiet_on | go_big_quiet_call ((first | (go_at_call 110; exact calls_ov (P_find1 e x y _)))))))
        refine wpQuiet_nil ?_
        intro wn hbn
        have hsz := B.size
        have hzn := hbn.size
        replace B := B.trans (hbn.mono B.size)
        try first | replace p1 := p1.of_eq (hbn.block _ p1.lt) | replace p1 := p1.below hbn
        try first | replace rc := rc.of_eq (hbn.block _ rc.lt) | replace rc := rc.below hbn
        go_wp2
        go_roundw
        case rel => exact ⟨p, (p + q) / 2, h1, by omega, by omega, rfl, by first | rfl | (rw [show ((p : Int) + (q : Int)) / 2 = (((p + q) / 2 : Nat) : Int) by omega]), B, p1⟩
        case measure => simp [intOf]; omega
    · obtain rfl : p = cutL ls x y := by omega
      obtain rfl : q = cutL ls x y := by omega
      by_cases hin : cutL ls x y < ls.length
      · obtain ⟨g, o, rfl, rc0⟩ := HS.out.at (by omega)
        have hg0 := rc0.lt
        have rc := rc0.of_eq (B.block _ rc0.lt)
        clear rc0
        obtain ⟨e, he⟩ : ∃ e, aT ls (cutL ls x y) = e := ⟨_, rfl⟩
        have hh : hitL ls x y = eqB e.x e.y x y := by unfold hitL; rw [decide_eq_true hin, he]; rfl
        have d1 : decide ((cutL ls x y : Int) < (ls.length : Int)) = true := decide_eq_true (by omega)
        have d2 : decide (cutL ls x y < ls.length) = true := decide_eq_true hin
        have ho := ordI_eq e.x e.y x y
        cases hq : eqB e.x e.y x y with
        | true =>
          rw [hq] at ho
          have ho2 : (ordI e.x e.y x y == 0) = true := ho
          rw [hq] at hh
          have HH := Lib.hid hh
          clear hh
          go_wp2
          refine wp_region_ov (by kernel_rfl) (by kernel_rfl) ?_
          repeat (first | go_big_quiet_skip | (go_big_quiet_want; first | (refine quiet_loadAny (t := 79) rfl _ _ _ rfl (fun w hw => rc_ta (ov_rc rc w hw) hin he) (by first | rfl | omega) ?_; simp only [Act.put, List.setIfInBounds_toArray, List.set_cons_zero, List.set_cons_succ]; go_big_quiet_on) | (refine quiet_loadAny (t := 24) rfl _ _ _ rfl (fun w hw => run_load_B (ov_B p1 w hw) Try.isAgg24 (by kernel_rfl)) (by rfl) ?_; simp only [Act.put, List.setIfInBounds_toArray, List.set_cons_zero, List.set_cons_succ]; go_big_quiet_on) | (go_big_quiet_op; first | go_big_quiet_on | go_big_quiet_call ((first | (go_at_call 110; exact calls_ov (P_find1 e x y _)))))))
          refine wpQuiet_nil ?_
          intro wn hbn
          have hsz := B.size
          have hzn := hbn.size
          replace B := B.trans (hbn.mono B.size)
          try first | replace p1 := p1.of_eq (hbn.block _ p1.lt) | replace p1 := p1.below hbn
          try first | replace rc := rc.of_eq (hbn.block _ rc.lt) | replace rc := rc.below hbn
          go_wp2
          go_ret2
          exact ⟨by rw [← FIN.out, HH.out]; try rfl, B⟩
        | false =>
          rw [hq] at ho
          have ho2 : (ordI e.x e.y x y == 0) = false := ho
          rw [hq] at hh
          have HH := Lib.hid hh
          clear hh
          go_wp2
          refine wp_region_ov (by kernel_rfl) (by kernel_rfl) ?_
          repeat (first | go_big_quiet_skip | (go_big_quiet_want; first | (refine quiet_loadAny (t := 79) rfl _ _ _ rfl (fun w hw => rc_ta (ov_rc rc w hw) hin he) (by first | rfl | omega) ?_; simp only [Act.put, List.setIfInBounds_toArray, List.set_cons_zero, List.set_cons_succ]; go_big_quiet_on) | (refine quiet_loadAny (t := 24) rfl _ _ _ rfl (fun w hw => run_load_B (ov_B p1 w hw) Try.isAgg24 (by kernel_rfl)) (by rfl) ?_; simp only [Act.put, List.setIfInBounds_toArray, List.set_cons_zero, List.set_cons_succ]; go_big_quiet_on) | (go_big_quiet_op; first | go_big_quiet_on | go_big_quiet_call ((first | (go_at_call 110; exact calls_ov (P_find1 e x y _)))))))
          refine wpQuiet_nil ?_
          intro wn hbn
          have hsz := B.size
          have hzn := hbn.size
          replace B := B.trans (hbn.mono B.size)
          try first | replace p1 := p1.of_eq (hbn.block _ p1.lt) | replace p1 := p1.below hbn
          try first | replace rc := rc.of_eq (hbn.block _ rc.lt) | replace rc := rc.below hbn
          go_wp2
          go_ret2
          exact ⟨by rw [← FIN.out, HH.out]; try rfl, B⟩
      · have hh : hitL ls x y = false := by unfold hitL; rw [decide_eq_false hin]; rfl
        have d1 : decide ((cutL ls x y : Int) < (ls.length : Int)) = false := decide_eq_false (by omega)
        have d2 : decide (cutL ls x y < ls.length) = false := decide_eq_false hin
        have HH := Lib.hid hh
        clear hh
        go_wp2
        refine wp_region_ov (by kernel_rfl) (by kernel_rfl) ?_
        repeat (first | go_big_quiet_skip | (go_big_quiet_want; first | (refine quiet_loadAny (t := 24) rfl _ _ _ rfl (fun w hw => run_load_B (ov_B p1 w hw) Try.isAgg24 (by kernel_rfl)) (by rfl) ?_; simp only [Act.put, List.setIfInBounds_toArray, List.set_cons_zero, List.set_cons_succ]; go_big_quiet_on) | (go_big_quiet_op; first | go_big_quiet_on | go_big_quiet_call ((fail)))))
        refine wpQuiet_nil ?_
        intro wn hbn
        have hsz := B.size
        have hzn := hbn.size
        replace B := B.trans (hbn.mono B.size)
        try first | replace p1 := p1.of_eq (hbn.block _ p1.lt) | replace p1 := p1.below hbn
        try first | replace rc := rc.of_eq (hbn.block _ rc.lt) | replace rc := rc.below hbn
        go_wp2
        go_ret2
        exact ⟨by rw [← FIN.out, HH.out]; try rfl, B⟩
theorem P_find (v : Value) (ls : List TA) (x y : Int) (w : World) (h : RS v ls w) (hs : Srt ls) (hn : ls.length ≤ 1000000) : Calls Try.prog 93 #[v, .agg #[.int .i64 x, .int .i64 y]] w fun e w' => e = .returned (.tuple #[.int .i64 (cutL ls x y : Int), .bool (hitL ls x y)]) ∧ Below w.heap.size w w' := by
  have B := Below.refl w.heap.size w
  have HS := Lib.hid h
  have SR := Lib.hid hs
  clear h hs
  go_enter Try.func93, Try.ntmps93
  go_wp2_with (first | (go_at_call 109; refine (P_search _ ls x y _ (HS.out.below B) SR.out hn).mono ?_; rintro e wn ⟨rfl, hbn⟩; have hsz := B.size; have hzn := hbn.size; replace B := B.trans (hbn.mono B.size); (try first | replace p1 := p1.of_eq (hbn.block _ p1.lt) | replace p1 := p1.below hbn)) | (refine wpList_loadAny (t := 24) rfl _ rfl _ _ _ rfl (run_load_B p1 Try.isAgg24 (by kernel_rfl)) (by rfl) ?_; simp only [Act.put, List.setIfInBounds_toArray, List.set_cons_zero, List.set_cons_succ]) | (refine wpList_boxB (t := 24) rfl _ rfl _ rfl ?_; intro b_p1 wn hle hge ht hbn hzn; have hsz := B.size; replace B := B.trans (hbn.mono (by omega)); have hln := Nat.lt_of_lt_of_eq (Nat.lt_succ_self _) hzn.symm; clear hzn; (try first | (have hlt := p1.lt; replace p1 := p1.of_eq (hbn.block _ (by omega))) | replace p1 := p1.below (hbn.mono hle)); have p1 := ht; clear ht; simp only [Act.put, List.setIfInBounds_toArray, List.set_cons_zero, List.set_cons_succ]) | fail)
  go_ret2
  exact ⟨rfl, B⟩
end Go.Proofs.Ytppccnjckiedlaa
