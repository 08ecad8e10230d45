import Derived.Test.YtamgpfblhlfhaaaGreatSl1
import Derived.Great.BuildSlice
import Derived.Lib.SliceRun
import Derived.OrdersHeld
import Derived.Deep.CutBlock
import Derived.Deep.DeepCutAuto
import Derived.Laws.AppendOwn
import Derived.Laws.AppendOwnNone
import Derived.Laws.MakeOwn
import Derived.Deep.Onto
import Derived.Deep.MidRow
import Derived.Deep.Upon

/- Tiles at a position built, put into slices; contracts of Get, BinarySearchFunc, find, Clone. -/
namespace Go.Proofs.YtamgpfblhlfhaaaGreat
open Go.RowKit Go.Shelf Pl
set_option linter.unusedVariables false
set_option linter.unusedSimpArgs false
set_option maxRecDepth 20000
theorem fill_cons {place : Nat → Option (Nat × Nat)} {cells : Array Value} {i : Nat} {v : Value} {rest : List (Nat × Value)} {off sz : Nat} (hp : place i = some (off, sz)) (hv : v.cells.size = sz) (hle : off + sz ≤ cells.size) :
  ∃ r : Array Value, r.size = cells.size ∧ (∀ k, r[k]? = if off ≤ k ∧ k < off + sz then v.cells[k - off]? else cells[k]?) ∧ Instr.fill place cells ((i, v) :: rest) = Instr.fill place r rest := by
 obtain ⟨g1, g2⟩ := Great.foldl_set off v.cells.toList 0 cells
 refine ⟨v.cells.zipIdx.foldl (fun cs (x : Value × Nat) => cs.setIfInBounds (off + x.2) x.1) cells, ?_, fun k => ?_, ?_⟩
 ·rw [← Array.foldl_toList, Array.toList_zipIdx]; exact g1
 ·rw [← Array.foldl_toList, Array.toList_zipIdx]
  refine (g2 k).trans ?_
  rw [Array.length_toList, hv, Nat.add_zero]
  by_cases h : off ≤ k ∧ k < off + sz
  ·rw [if_pos h, if_pos ⟨h.1, h.2, by omega⟩, Array.getElem?_toList]
  ·rw [if_neg h, if_neg (by omega)]
 ·conv => lhs; unfold Instr.fill
  rw [hp]
  simp only []
  rw [if_neg (by simp [hv]; omega)]
theorem cells_ps (x y : Int) : (Ps.v x y).cells = #[.int .i64 x, .int .i64 y] := by simp only [Ps.v, Value.cells]
theorem taC_get (x y : Int) (t : Nat → Px) (k : Nat) : (taC ⟨x, y, t⟩)[k]? = if k < 2 then (#[.int .i64 x, .int .i64 y] : Array Value)[k]? else (tileC t)[k - 2]? := by
 by_cases h : k < 2
 ·rw [if_pos h]
  have hc : k = 0 ∨ k = 1 := by omega
  rcases hc with rfl | rfl
  ·exact taC_x _
  ·exact taC_y _
 ·rw [if_neg h]
  have := taC_t ⟨x, y, t⟩ (k - 2)
  rw [show 2 + (k - 2) = k by omega] at this
  exact this
theorem built_TA (parts : List (Nat × Value)) : Tryz.prog.built 72 parts = Instr.fill (fun i => #[(0, 2), (2, 256)][i]?) zTA parts := by kernel_rfl
theorem fill_TA (x y : Int) (t : Nat → Px) : Instr.fill (fun i => #[(0, 2), (2, 256)][i]?) zTA [(0, Ps.v x y), (1, Tile.v t)] = some (taC ⟨x, y, t⟩) := by
 obtain ⟨r, hs, hr, e⟩ := fill_cons (place := fun i => #[(0, 2), (2, 256)][i]?) (cells := zTA) (i := 0) (v := Ps.v x y) (rest := [(1, Tile.v t)]) (off := 0) (sz := 2) rfl (by rw [cells_ps]; rfl) (by rw [size_zTA]; omega)
 obtain ⟨r', hs', hr', e'⟩ := fill_cons (place := fun i => #[(0, 2), (2, 256)][i]?) (cells := r) (i := 1) (v := Tile.v t) (rest := []) (off := 2) (sz := 256) rfl (by rw [cells_tile, size_tileC]) (by rw [hs, size_zTA]; omega)
 rw [e, e']
 show some r' = _
 congr 1
 apply Array.ext_getElem?
 intro k
 rw [hr' k, hr k, taC_get, cells_tile, cells_ps]
 by_cases h2 : k < 2
 ·rw [if_neg (by omega), if_pos (by omega), if_pos h2, Nat.sub_zero]
 ·rw [if_neg h2]
  by_cases h3 : k < 258
  ·rw [if_pos (by omega)]
  ·rw [if_neg (by omega), if_neg (by omega), Array.getElem?_eq_none (by rw [size_zTA]; omega), Array.getElem?_eq_none (by rw [size_tileC]; omega)]
theorem run_build_TA (w : World) (o : Oper) (p q : Operand) (ho : o.op = .build 72 #[(0, p), (1, q)]) (ev : Operand → Value) (x y : Int) (t : Nat → Px) (hp : ev p = Ps.v x y) (hq : ev q = Tile.v t) : (execOp ev o).run Tryz.prog w = .ok (.value (.agg (taC ⟨x, y, t⟩))) w := by
 unfold execOp
 have r := run_build w 72 #[(0, Ps.v x y), (1, Tile.v t)] _ ((built_TA _).trans (fill_TA x y t))
 simp only [ho, List.map_toArray, List.map_cons, List.map_nil, hp, hq]
 simp only [Sem.run_bind, r, Result.andThen_ok, Sem.run_pure]
section
variable {ops : Array Oper} {rest : List Oper} {o : Oper} {a : Act} {w : World} {Q : Exit → Act → World → Prop}
theorem wpList_buildTA (hg : o.guard = none) (p q : Operand) (ho : o.op = .build 72 #[(0, p), (1, q)]) (x y : Int) (t : Nat → Px) (hp : a.eval p = Ps.v x y) (hq : a.eval q = Tile.v t)
  (h : wpList Tryz.prog ops Q rest (a.put o.dst (.agg (taC ⟨x, y, t⟩))) w) : wpList Tryz.prog ops Q (o :: rest) a w :=
 wpList_plain hg fun K hK => by
  unfold Oper.wp
  rw [run_build_TA w o p q ho _ x y t hp hq]
  exact hK _ _ h
theorem fill_bs1 (e : TA) (cs : Array Value) (hs : cs.size = 258) : Instr.fill (fun i => some (i * 258, 258)) cs [(0, .agg (taC e))] = some (taC e) := by
 have hc : (Value.agg (taC e)).cells = taC e := by simp only [Value.cells]
 obtain ⟨r, hs', hr, e'⟩ := fill_cons (place := fun i => some (i * 258, 258)) (cells := cs) (i := 0) (v := .agg (taC e)) (rest := []) (off := 0) (sz := 258) rfl (by rw [hc, size_taC]) (by omega)
 rw [e']
 show some r = _
 congr 1
 apply Array.ext_getElem?
 intro k
 rw [hr k, hc]
 by_cases h : k < 258
 ·rw [if_pos (by omega), Nat.sub_zero]
 ·rw [if_neg (by omega), Array.getElem?_eq_none (by omega), Array.getElem?_eq_none (by rw [size_taC]; omega)]
/-- A slice of one tile. -/
theorem wpList_bs1T (hg : o.guard = none) (x : Operand) (ho : o.op = .buildSlice 32 1 #[(0, x)]) (e : TA) (hx : a.eval x = .agg (taC e))
  (h : ∀ b w', w.heap.size ≤ b → b ≤ w.heap.size → AtB 72 w' b (taC e) → Below b w w' → w'.heap.size = b + 1 → wpList Tryz.prog ops Q rest (a.put o.dst (.slice (some ⟨b, 0, none⟩) 1 1)) w') : wpList Tryz.prog ops Q (o :: rest) a w := by
 obtain ⟨i, hi⟩ : ∃ i, Tryz.prog.info? 72 = some i := by
  cases h : Tryz.prog.info? 72 with
  | some i => exact ⟨i, rfl⟩
  | none => have e := ta_info; rw [h] at e; cases e
 have e1 := ta_info
 rw [hi] at e1
 have e1' : i.size = 258 ∧ i.bytes = 272 := by simpa using e1
 have hz := ta_zero
 rw [hi] at hz
 refine wpList_buildSlice hg 32 72 1 #[(0, x)] ho (taC e) i _ Tryz.underlying32 hi hz (by rw [e1'.1]; omega) (by rw [e1'.1]; omega) ?_ (h _ _ (Nat.le_refl _) (Nat.le_refl _) (by unfold AtB; rw [heap_get_alloc, if_pos rfl]) ((Below.refl _ _).alloc (Nat.le_refl _) _) (World.size_alloc _ _))
 rw [e1'.1]
 have hp : ((#[(0, x)] : Array (Nat × Operand)).map fun (i, x) => (i, a.eval x)).toList = [(0, Value.agg (taC e))] := by simp [hx]
 rw [hp]
 exact fill_bs1 e _ (by simp)
theorem RS.one {b : Nat} {e : TA} {w : World} (h : AtB 72 w b (taC e)) : RS (.slice (some ⟨b, 0, none⟩) 1 1) [e] w :=
 .inr ⟨b, 0, 1, rfl, Nat.le_refl _, fun _ => ⟨h.lt, fun i hi j hj => by
  have hi : i < 1 := hi
  obtain rfl : i = 0 := by omega
  rw [show 0 + (0 * 258 + j) = j by omega]
  exact (cells_of_block h).1 j⟩⟩
theorem run_bsET (w : World) (o : Oper) (ho : o.op = .buildSlice 32 0 #[]) (ev : Operand → Value) : (execOp ev o).run Tryz.prog w = .ok (.value (.slice (some ⟨w.heap.size, 0, none⟩) 0 0)) (w.alloc (.cells #[] 72)) := by
 obtain ⟨d, p, t, ps, af, gd⟩ := o
 simp only at ho
 subst ho
 kernel_rfl
/-- A slice of no tiles, in memory of the call's own. -/
theorem wpList_bsET (hg : o.guard = none) (ho : o.op = .buildSlice 32 0 #[])
  (h : ∀ b w', w.heap.size ≤ b → b ≤ w.heap.size → OwnT b (.slice (some ⟨b, 0, none⟩) 0 0) [] w' → Below b w w' → w'.heap.size = b + 1 → wpList Tryz.prog ops Q rest (a.put o.dst (.slice (some ⟨b, 0, none⟩) 0 0)) w') : wpList Tryz.prog ops Q (o :: rest) a w :=
 wpList_plain hg fun K hK => by
  unfold Oper.wp
  rw [run_bsET w o ho]
  exact hK _ _ (h _ _ (Nat.le_refl _) (Nat.le_refl _) ⟨rfl, .inr ⟨w.heap.size, 0, #[], rfl, Nat.le_refl _, by rw [heap_get_alloc, if_pos rfl], Nat.le_refl _, by unfold maxLen; omega, rfl, rfl⟩⟩ ((Below.refl _ _).alloc (Nat.le_refl _) _) (World.size_alloc _ _))
end
/-! ### Clone -/
set_option maxHeartbeats 1000000 in
theorem P_Clone (v : Value) (ls : List TA) (w : World) (h : RS v ls w) (hn : ls.length ≤ 4000) : Calls Tryz.prog 108 #[v] w fun e w' => ∃ v', e = .returned v' ∧ OwnT w.heap.size v' ls w' ∧ Below w.heap.size w w' := by
 have B := Below.refl w.heap.size w
 have q22 : ∀ (w : World) (a : Option Addr) (n c n' c' : Nat), (binOp .eql 32 (.slice a n c) (.slice none n' c')).run Tryz.prog w = .ok (.bool a.isNone) w := fun w a n c n' c' => Lib.run_eql_slice_nil w _ _ a n c n' c' Tryz.underlying32
 rcases h with ⟨rfl, rfl⟩ | ⟨g, o, c, rfl, hc, sc⟩
 ·go_enter Tryz.func108, Tryz.ntmps108
  go_wp2
  go_ret
  exact ⟨_, rfl, OwnT.nil _ _, B⟩
 ·have h : RS (.slice (some ⟨g, o, none⟩) ls.length c) ls w := .inr ⟨g, o, c, rfl, hc, sc⟩
  clear sc
  go_enter Tryz.func108, Tryz.ntmps108
  go_wp2_with (first | (at_builtin; refine wpList_appendT rfl _ _ rfl _ _ rfl rfl od (h) (by simp only [List.length_nil]; omega) (by omega) ?_; intro v_od wn ht hbn; have hsz := B.size; have hzn := hbn.size; replace B := B.trans (hbn.mono (by omega)); clear od; have od := ht; clear ht; simp only [putS]) | (refine wpList_bsET rfl rfl ?_; intro b_od wn hle hge ht hbn hzn; have hsz := B.size; replace B := B.trans (hbn.mono (by omega)); have od := ht; clear ht; replace h := h.below (hbn.mono (by omega)); simp only [putS]) | fail)
  go_ret
  exact ⟨_, rfl, by rw [List.nil_append] at od; exact od.mono (by omega), B⟩
/-! ### The search -/
theorem cut_less {ls : List TA} (hs : Srt ls) (x y : Int) {h : Nat} (hh : h < ls.length) : lessB (aT ls h).x (aT ls h).y x y = decide (h < cutL ls x y) := by
 by_cases hc : h < cutL ls x y
 ·rw [decide_eq_true hc, cutL_lt hc]
 ·rw [decide_eq_false hc]
  have hle := cutL_le ls x y
  have h0 : cutL ls x y < ls.length := by omega
  have h1 := cutL_at h0
  by_cases he : cutL ls x y = h
  ·rw [← he]; exact h1
  ·have h2 := List.pairwise_iff_getElem.1 hs (cutL ls x y) h h0 hh (by omega)
   have a := aT_at h0
   have b := aT_at hh
   rw [List.getElem?_eq_getElem h0] at a
   rw [List.getElem?_eq_getElem hh] at b
   rw [Option.some.inj a, Option.some.inj b] at h2
   unfold beforeA lessB at h2
   unfold lessB at h1 ⊢
   have h2 := of_decide_eq_true h2
   have h1 := of_decide_eq_false h1
   exact decide_eq_false (by omega)
theorem P_find1 (e : TA) (x y : Int) (w : World) : Calls Tryz.prog 130 #[.agg (taC e), .agg #[.int .i64 x, .int .i64 y]] w fun e' w' => e' = .returned (.int .i64 (ordI e.x e.y x y)) ∧ Below w.heap.size w w' := by
 have B := Below.refl w.heap.size w
 go_enter Tryz.func130, Tryz.ntmps130
 go_wp2_with (first | (go_at_call 93; refine (P_order _ _ x y _).mono ?_; rintro e wn ⟨rfl, hbn⟩; have hsz := B.size; have hzn := hbn.size; replace B := B.trans (hbn.mono B.size); (try replace t1 := t1.below hbn); (try replace p1 := p1.below hbn)) | (refine wpList_loadAny (t := 68) rfl _ rfl _ _ _ rfl (ta_pos t1) (by first | rfl | omega) ?_; simp only [putS]) | (refine wpList_loadAny (t := 68) rfl _ rfl _ _ _ rfl (run_load_B p1 Tryz.isAgg68 (by kernel_rfl)) (by rfl) ?_; simp only [putS]) | (have _ := t1; refine wpList_boxB (t := 68) rfl _ rfl _ rfl ?_; intro b_p1 wn hle hge ht hbn hzn; have hsz := B.size; replace B := B.trans (hbn.mono (by omega)); have hln := Nat.lt_of_lt_of_eq (Nat.lt_succ_self _) hzn.symm; clear hzn; (try have hlt := t1.lt); (try replace t1 := t1.below (hbn.mono hle)); (try have hlt := p1.lt); (try replace p1 := p1.below (hbn.mono hle)); have p1 := ht; clear ht; simp only [putS]) | (refine wpList_boxB (t := 72) rfl _ rfl _ rfl ?_; intro b_t1 wn hle hge ht hbn hzn; have hsz := B.size; replace B := B.trans (hbn.mono (by omega)); have hln := Nat.lt_of_lt_of_eq (Nat.lt_succ_self _) hzn.symm; clear hzn; (try have hlt := t1.lt); (try replace t1 := t1.below (hbn.mono hle)); (try have hlt := p1.lt); (try replace p1 := p1.below (hbn.mono hle)); have t1 := ht; clear ht; simp only [putS]) | fail)
 go_ret
 exact ⟨rfl, B⟩
set_option maxHeartbeats 2000000 in
theorem P_search (v : Value) (ls : List TA) (x y : Int) (w : World) (h : RS v ls w) (hs : Srt ls) (hn : ls.length ≤ 1000000) : Calls Tryz.prog 129 #[v, .agg #[.int .i64 x, .int .i64 y], .func (.func 130) #[] #[]] w fun e w' => e = .returned (.tuple #[.int .i64 (cutL ls x y : Int), .bool (hitL ls x y)]) ∧ Below w.heap.size w w' := by
 obtain ⟨a, c, rfl, hc⟩ := h.len
 have hcl := cutL_le ls x y
 have B := Below.refl w.heap.size w
 have HS := Lib.hid h
 have SR := Lib.hid hs
 have eg := enters_of Tryz.func130 (by kernel_rfl) rfl
 clear h hs
 generalize hfin : hitL ls x y = fin
 have FIN := Lib.hid hfin
 clear hfin
 go_enter Tryz.func129, Tryz.ntmps129
 go_wp2_with (first | (refine wpList_boxB (t := 68) rfl _ rfl _ rfl ?_; intro b_p1 wn hle hge ht hbn hzn; have hsz := B.size; replace B := B.trans (hbn.mono (by omega)); have hln := Nat.lt_of_lt_of_eq (Nat.lt_succ_self _) hzn.symm; clear hzn; (try have hlt := p1.lt); (try replace p1 := p1.below (hbn.mono hle)); (try have hlt := rc.lt); (try replace rc := rc.below (hbn.mono hle)); have p1 := ht; clear ht; simp only [putS]) | fail)
 have hp1 := p1.lt
 go_loopw [9, 10, 11] (fun i j _ wr => ∃ p q : Nat, p ≤ cutL ls x y ∧ cutL ls x y ≤ q ∧ q ≤ ls.length ∧ i = .int .i64 p ∧ j = .int .i64 q ∧ Below w.heap.size w wr ∧ AtB 68 wr b_p1 #[.int .i64 x, .int .i64 y]) (fun i j _ _ => (intOf j - intOf i).toNat)
 case atStart => exact ⟨0, ls.length, by omega, hcl, Nat.le_refl _, rfl, rfl, B, p1⟩
 case round =>
  clear B p1
  obtain ⟨p, q, h1, h2, h3, rfl, rfl, B, p1⟩ := hrel
  by_cases hpq : p < q
  ·obtain ⟨g, o, rfl, rc0⟩ := HS.out.at (by omega)
   have hg0 := rc0.lt
   have rc := rc0.of_eq (B.block _ rc0.lt)
   clear rc0
   have hm : (p + q) / 2 < ls.length := by omega
   obtain ⟨e, he⟩ : ∃ e, aT ls ((p + q) / 2) = e := ⟨_, rfl⟩
   have hl := cut_less SR.out x y hm
   rw [he, ← ordI_neg] at hl
   by_cases hcut : (p + q) / 2 < cutL ls x y
   ·rw [decide_eq_true hcut] at hl
    go_wp2
    refine wp_region_ov (by kernel_rfl) (by kernel_rfl) ?_
    repeat (first | go_big_quiet_skip | (go_big_quiet_want; first | (refine quiet_loadAny (t := 72) rfl _ _ _ rfl (fun w hw => rc_ta (ov_rc rc w hw) hm he) (by first | rfl | omega) ?_; simp only [putS]; go_big_quiet_on) | (refine quiet_loadAny (t := 68) rfl _ _ _ rfl (fun w hw => run_load_B (ov_B p1 w hw) Tryz.isAgg68 (by kernel_rfl)) (by rfl) ?_; simp only [putS]; go_big_quiet_on) | (go_big_quiet_op; first | go_big_quiet_on | go_big_quiet_call ((first | (go_at_call 130; exact calls_ov (P_find1 e x y _)))))))
    refine wpQuiet_nil ?_
    intro wn hbn
    have hsz := B.size
    have hzn := hbn.size
    replace B := B.trans (hbn.mono B.size)
    try replace p1 := p1.below hbn
    try replace rc := rc.below hbn
    go_wp2
    go_roundw
    case rel => exact ⟨(p + q) / 2 + 1, q, by omega, h2, h3, by first | rfl | (rw [show ((p : Int) + (q : Int)) / 2 + 1 = (((p + q) / 2 + 1 : Nat) : Int) by omega]), rfl, B, p1⟩
    case measure => simp [intOf]; omega
   ·rw [decide_eq_false hcut] at hl
    go_wp2
    refine wp_region_ov (by kernel_rfl) (by kernel_rfl) ?_
    repeat (first | go_big_quiet_skip | (go_big_quiet_want; first | (refine quiet_loadAny (t := 72) rfl _ _ _ rfl (fun w hw => rc_ta (ov_rc rc w hw) hm he) (by first | rfl | omega) ?_; simp only [putS]; go_big_quiet_on) | (refine quiet_loadAny (t := 68) rfl _ _ _ rfl (fun w hw => run_load_B (ov_B p1 w hw) Tryz.isAgg68 (by kernel_rfl)) (by rfl) ?_; simp only [putS]; go_big_quiet_on) | (go_big_quiet_op; first | go_big_quiet_on | go_big_quiet_call ((first | (go_at_call 130; exact calls_ov (P_find1 e x y _)))))))
    refine wpQuiet_nil ?_
    intro wn hbn
    have hsz := B.size
    have hzn := hbn.size
    replace B := B.trans (hbn.mono B.size)
    try replace p1 := p1.below hbn
    try replace rc := rc.below hbn
    go_wp2
    go_roundw
    case rel => exact ⟨p, (p + q) / 2, h1, by omega, by omega, rfl, by first | rfl | (rw [show ((p : Int) + (q : Int)) / 2 = (((p + q) / 2 : Nat) : Int) by omega]), B, p1⟩
    case measure => simp [intOf]; omega
  ·obtain rfl : p = cutL ls x y := by omega
   obtain rfl : q = cutL ls x y := by omega
   by_cases hin : cutL ls x y < ls.length
   ·obtain ⟨g, o, rfl, rc0⟩ := HS.out.at (by omega)
    have hg0 := rc0.lt
    have rc := rc0.of_eq (B.block _ rc0.lt)
    clear rc0
    obtain ⟨e, he⟩ : ∃ e, aT ls (cutL ls x y) = e := ⟨_, rfl⟩
    have hh : hitL ls x y = eqB e.x e.y x y := by unfold hitL; rw [decide_eq_true hin, he]; rfl
    have d1 : decide ((cutL ls x y : Int) < (ls.length : Int)) = true := decide_eq_true (by omega)
    have d2 : decide (cutL ls x y < ls.length) = true := decide_eq_true hin
    have ho := ordI_eq e.x e.y x y
    cases hq : eqB e.x e.y x y with
    | true =>
     rw [hq] at ho
     have ho2 : (ordI e.x e.y x y == 0) = true := ho
     rw [hq] at hh
     have HH := Lib.hid hh
     clear hh
     go_wp2
     refine wp_region_ov (by kernel_rfl) (by kernel_rfl) ?_
     repeat (first | go_big_quiet_skip | (go_big_quiet_want; first | (refine quiet_loadAny (t := 72) rfl _ _ _ rfl (fun w hw => rc_ta (ov_rc rc w hw) hin he) (by first | rfl | omega) ?_; simp only [putS]; go_big_quiet_on) | (refine quiet_loadAny (t := 68) rfl _ _ _ rfl (fun w hw => run_load_B (ov_B p1 w hw) Tryz.isAgg68 (by kernel_rfl)) (by rfl) ?_; simp only [putS]; go_big_quiet_on) | (go_big_quiet_op; first | go_big_quiet_on | go_big_quiet_call ((first | (go_at_call 130; exact calls_ov (P_find1 e x y _)))))))
     refine wpQuiet_nil ?_
     intro wn hbn
     have hsz := B.size
     have hzn := hbn.size
     replace B := B.trans (hbn.mono B.size)
     try replace p1 := p1.below hbn
     try replace rc := rc.below hbn
     go_wp2
     go_ret2
     exact ⟨by rw [← FIN.out, HH.out]; try rfl, B⟩
    | false =>
     rw [hq] at ho
     have ho2 : (ordI e.x e.y x y == 0) = false := ho
     rw [hq] at hh
     have HH := Lib.hid hh
     clear hh
     go_wp2
     refine wp_region_ov (by kernel_rfl) (by kernel_rfl) ?_
     repeat (first | go_big_quiet_skip | (go_big_quiet_want; first | (refine quiet_loadAny (t := 72) rfl _ _ _ rfl (fun w hw => rc_ta (ov_rc rc w hw) hin he) (by first | rfl | omega) ?_; simp only [putS]; go_big_quiet_on) | (refine quiet_loadAny (t := 68) rfl _ _ _ rfl (fun w hw => run_load_B (ov_B p1 w hw) Tryz.isAgg68 (by kernel_rfl)) (by rfl) ?_; simp only [putS]; go_big_quiet_on) | (go_big_quiet_op; first | go_big_quiet_on | go_big_quiet_call ((first | (go_at_call 130; exact calls_ov (P_find1 e x y _)))))))
     refine wpQuiet_nil ?_
     intro wn hbn
     have hsz := B.size
     have hzn := hbn.size
     replace B := B.trans (hbn.mono B.size)
     try replace p1 := p1.below hbn
     go_wp2
     go_ret2
     exact ⟨by rw [← FIN.out, HH.out]; try rfl, B⟩
   ·have hh : hitL ls x y = false := by unfold hitL; rw [decide_eq_false hin]; rfl
    have d1 : decide ((cutL ls x y : Int) < (ls.length : Int)) = false := decide_eq_false (by omega)
    have d2 : decide (cutL ls x y < ls.length) = false := decide_eq_false hin
    have HH := Lib.hid hh
    clear hh
    go_wp2
    refine wp_region_ov (by kernel_rfl) (by kernel_rfl) ?_
    repeat (first | go_big_quiet_skip | (go_big_quiet_want; first | (refine quiet_loadAny (t := 68) rfl _ _ _ rfl (fun w hw => run_load_B (ov_B p1 w hw) Tryz.isAgg68 (by kernel_rfl)) (by rfl) ?_; simp only [putS]; go_big_quiet_on) | (go_big_quiet_op; first | go_big_quiet_on | go_big_quiet_call ((fail)))))
    refine wpQuiet_nil ?_
    intro wn hbn
    have hsz := B.size
    have hzn := hbn.size
    replace B := B.trans (hbn.mono B.size)
    go_wp2
    go_ret2
    exact ⟨by rw [← FIN.out, HH.out]; try rfl, B⟩
theorem P_find (v : Value) (ls : List TA) (x y : Int) (w : World) (h : RS v ls w) (hs : Srt ls) (hn : ls.length ≤ 1000000) : Calls Tryz.prog 106 #[v, .agg #[.int .i64 x, .int .i64 y]] w fun e w' => e = .returned (.tuple #[.int .i64 (cutL ls x y : Int), .bool (hitL ls x y)]) ∧ Below w.heap.size w w' := by
 have B := Below.refl w.heap.size w
 have HS := Lib.hid h
 have SR := Lib.hid hs
 clear h hs
 go_enter Tryz.func106, Tryz.ntmps106
 go_wp2_with (first | (go_at_call 129; refine (P_search _ ls x y _ (HS.out.below B) SR.out hn).mono ?_; rintro e wn ⟨rfl, hbn⟩; have hsz := B.size; have hzn := hbn.size; replace B := B.trans (hbn.mono B.size); (try replace p1 := p1.below hbn)) | (refine wpList_loadAny (t := 68) rfl _ rfl _ _ _ rfl (run_load_B p1 Tryz.isAgg68 (by kernel_rfl)) (by rfl) ?_; simp only [putS]) | (refine wpList_boxB (t := 68) rfl _ rfl _ rfl ?_; intro b_p1 wn hle hge ht hbn hzn; have hsz := B.size; replace B := B.trans (hbn.mono (by omega)); have hln := Nat.lt_of_lt_of_eq (Nat.lt_succ_self _) hzn.symm; clear hzn; (try have hlt := p1.lt); (try replace p1 := p1.below (hbn.mono hle)); have p1 := ht; clear ht; simp only [putS]) | fail)
 go_ret2
 exact ⟨rfl, B⟩
end Go.Proofs.YtamgpfblhlfhaaaGreat
/- A region that draws its order: the first n operations read old memory, or call what only makes new memory, in whatever order; then the rest, operation by operation: one that must come next, or a pure one that may be taken first. -/
namespace Go.Proofs.YtamgpfblhlfhaaaGreat
open Go.RowKit
set_option linter.unusedVariables false
set_option linter.unusedSimpArgs false
/-- Each operation behind the n-th waits for one from the n-th on that stands ahead of it. -/
def treeB (md : Region.Mode) (ops : Array Oper) (n : Nat) : Bool :=
 (List.range ops.size).all fun t => decide (t ≤ n) || (List.range t).any fun s => decide (n ≤ s) && Region.waitsFor md ops t s
section
variable {P : Program} {ops : Array Oper} {md : Region.Mode} {C : World → Prop}
theorem tail_waitsT {n : Nat} {listed : Array Bool} (hs : Region.sinkB md ops n = true) (hc : treeB md ops n = true) (hn : n < ops.size) (inv : HeadInv md ops n listed) :
  ∀ (d i : Nat), n - i = d → i < n → listed.getD i true = false → ∀ t, n ≤ t → t ∉ Region.ready md ops listed := by
 intro d
 induction d using Nat.strongRecOn with
 | _ d ih =>
  intro i hd hi hun t ht hr
  obtain ⟨_, ot, hot, hall⟩ := mem_ready.1 hr
  have htlt : t < ops.size := (Array.getElem?_eq_some_iff.1 hot).1
  by_cases htn : t = n
  ·subst htn
   have h1 := List.all_eq_true.1 hs i (List.mem_range.2 hi)
   obtain ⟨j, hj, hj2⟩ := List.any_eq_true.1 h1
   simp only [Bool.and_eq_true, decide_eq_true_eq] at hj2
   obtain ⟨oj, hoj, e, he, hb, hon⟩ := Region.waitsFor_spec hj2.2
   have hjle : j ≤ t := by have := List.mem_range.1 hj; omega
   by_cases hjt : j = t
   ·subst hjt
    have : oj = ot := Option.some.inj (hoj.symm.trans hot)
    subst this
    have h2 := hall e he hb
    rw [hon, getD_both hun] at h2
    cases h2
   ·cases hl : listed.getD j false with
    | true =>
     have h2 := inv.closed j oj hoj hl e he hb
     rw [hon, getD_both hun] at h2
     cases h2
    | false =>
     have hjs : j < listed.size := by rw [inv.size]; omega
     exact ih (t - j) (by omega) j rfl (by omega) (getD_in hjs hl) t (Nat.le_refl _) hr
  ·have h1 := List.all_eq_true.1 hc t (List.mem_range.2 htlt)
   simp only [Bool.or_eq_true, decide_eq_true_eq] at h1
   rcases h1 with h1 | h1
   ·omega
   ·obtain ⟨s, hs1, hs2⟩ := List.any_eq_true.1 h1
    simp only [Bool.and_eq_true, decide_eq_true_eq] at hs2
    obtain ⟨o', ho', e, he, hb, hon⟩ := Region.waitsFor_spec hs2.2
    have : o' = ot := Option.some.inj (ho'.symm.trans hot)
    subst this
    have h2 := hall e he hb
    have hst := List.mem_range.1 hs1
    rw [hon, getD_both (inv.tail s hs2.1 (by omega))] at h2
    cases h2
theorem headAny_takeT {n i : Nat} {oi : Oper} {v : Value} {L : Array Bool → Act → Prop} (hi : ops[i]? = some oi) (hsel : Region.noSelect ops = true)
  (hs : Region.sinkB md ops n = true) (hc : treeB md ops n = true) (hn : n < ops.size) (hin : i < n) (hL : ∀ done a, L done a → ∀ j ∈ Region.ready md ops done, n ≤ j) :
  ∀ (f : Nat) (done : Array Bool) (a : Act), HeadInv md ops n done →
   (∀ j oj, ops[j]? = some oj → j ≠ i → done.getD j true = false → (∀ e ∈ oj.after, Region.binds md e = true → e.on ≠ i) → oi.apart ops oj = true) →
   i ∈ Region.ready md ops done → YieldsIn P ops C oi v a →
   headAny P md ops C n L f (done.setIfInBounds i true) (a.put oi.dst v) → headAny P md ops C n L (f + 1) done a := by
 have ns := Region.noSelect_spec hsel
 intro f
 induction f with
 | zero =>
  intro done a inv _ hr hy H
  have hun := (mem_ready.1 hr).1
  refine ⟨fun h => (by rw [h] at hr; cases hr), fun j hj => ?_⟩
  have hjn : j < n := Nat.lt_of_not_le fun h => tail_waitsT hs hc hn inv _ i rfl hin hun j h hj
  refine ⟨hjn, ?_⟩
  by_cases hji : j = i
  ·rw [hji]; exact hy.qOp hi H
  ·exact absurd (hL _ _ H j (ready_mono hj hji)) (by omega)
 | succ f ih =>
  intro done a inv hfree hr hy H
  have hun := (mem_ready.1 hr).1
  refine ⟨fun h => (by rw [h] at hr; cases hr), fun j hj => ?_⟩
  have hjn : j < n := Nat.lt_of_not_le fun h => tail_waitsT hs hc hn inv _ i rfl hin hun j h hj
  refine ⟨hjn, ?_⟩
  by_cases hji : j = i
  ·rw [hji]; exact hy.qOp hi H
  ·have h1 := (H.2 j (ready_mono hj hji)).2
   obtain ⟨hjun, oj, hoj, hall⟩ := mem_ready.1 hj
   have hnot : ∀ e ∈ oj.after, Region.binds md e = true → e.on ≠ i := fun e he hb heq => by
    have h1 := hall e he hb
    rw [heq, getD_both hun] at h1
    cases h1
   have h2 := qOp_put hoj (hfree j oj hoj hji hjun hnot) (fun cs b => ns i oi cs b hi) (fun cs b => ns j oj cs b hoj) hy h1
   refine qOp_mono (fun a' h3 => ih (done.setIfInBounds j true) a' (inv.set hj hjn) ?_ (ready_mono hr (Ne.symm hji)) h3.1 ?_) h2
   ·intro k ok hk hki hundone hno
    refine hfree k ok hk hki ?_ hno
    by_cases hjk : j = k
    ·rw [← hjk]; exact hjun
    ·rw [getD_set_ne true hjk] at hundone; exact hundone
   ·rw [Array.setIfInBounds_comm _ _ hji]
    exact h3.2
def lexHeadT (md : Region.Mode) (ops : Array Oper) (n : Nat) (T : Array Bool) : Nat → Nat → Array Bool → Bool
 | 0, k, listed => decide (listed = T) && (Region.ready md ops T).all fun j => decide (n ≤ j)
 | f + 1, k, listed => (Region.ready md ops listed).contains k && Region.free md ops listed k && lexHeadT md ops n T f (k + 1) (listed.setIfInBounds k true)
theorem headAny_lexT {n : Nat} {T : Array Bool} {Lq : Act → Prop} (hsel : Region.noSelect ops = true) (hs : Region.sinkB md ops n = true) (hc : treeB md ops n = true) (hn : n < ops.size) :
  ∀ (l : List Oper) (k : Nat) (done : Array Bool) (a : Act), (∀ j, j < l.length → l[j]? = ops[k + j]?) → k + l.length = n → HeadInv md ops n done →
  lexHeadT md ops n T l.length k done = true → wpQuiet P ops C Lq l a →
  headAny P md ops C n (fun d a' => (d = T ∧ ∀ j ∈ Region.ready md ops T, n ≤ j) ∧ Lq a') l.length done a := by
 intro l
 induction l with
 | nil =>
  intro k done a _ hk _ hB h
  simp only [List.length_nil, lexHeadT, Bool.and_eq_true, decide_eq_true_eq, List.all_eq_true] at hB
  exact ⟨hB, h⟩
 | cons o l ih =>
  intro k done a hl hk inv hB h
  have h0 : ops[k]? = some o := by simpa using (hl 0 (by simp)).symm
  simp only [List.length_cons, lexHeadT, Bool.and_eq_true] at hB
  obtain ⟨⟨hr, hf⟩, hB'⟩ := hB
  have hkn : k < n := by simp only [List.length_cons] at hk; omega
  have hr' : k ∈ Region.ready md ops done := by simpa using hr
  have hst : qOp P ops C k (wpQuiet P ops C Lq l) a := by unfold qOp; simp only [h0]; exact h
  obtain ⟨v, hy, hK⟩ := yieldsIn_of_qOp h0 hst
  refine headAny_takeT h0 hsel hs hc hn hkn (fun d a' hL => by rw [hL.1.1]; exact hL.1.2) l.length done a inv (Region.free_spec h0 hf) hr' hy
   (ih (k + 1) _ _ (fun j hj => ?_) (by simp only [List.length_cons] at hk; omega) (inv.set hr' hkn) hB' hK)
  have := hl (j + 1) (by simp; omega)
  simpa [Nat.add_assoc, Nat.add_comm 1 j] using this
end
def lexAnyB (md : Region.Mode) (ops : Array Oper) (n : Nat) (T : Array Bool) : Bool :=
 Region.noSelect ops && decide (n < ops.size) && Region.sinkB md ops n && treeB md ops n && lexHeadT md ops n T n 0 (Array.replicate ops.size false)
theorem wp_region_ov_any {P : Program} {id : Nat} {Q : Exit → Act → World → Prop} {a : Act} {w : World} {l : List Oper} (n : Nat) (T : Array Bool) (hm : P.follows .mixedOrders = true) (hB : lexAnyB .any l.toArray n T = true)
  (h : wpQuiet P l.toArray (fun w' => ∃ u, w' = ov w u) (fun a' => ∀ w', Below w.heap.size w w' → wpAny P .any l.toArray (NoPan Q) (l.length - n) T a' w') (l.take n) a) : (Code.region id l.toArray true).wp P Q a w := by
 simp only [lexAnyB, Bool.and_eq_true, decide_eq_true_eq] at hB
 obtain ⟨⟨⟨⟨hsel, hn⟩, hs⟩, hc⟩, hlex⟩ := hB
 have hn' : n < l.length := by simpa using hn
 have htl : (l.take n).length = n := by simp; omega
 have inv0 : HeadInv .any l.toArray n (Array.replicate l.toArray.size false) :=
  ⟨by simp, fun j oj _ hl => (by rw [getD_replicate_false] at hl; cases hl), fun t _ ht => getD_in (by simpa using ht) (getD_replicate_false _ _)⟩
 have H := headAny_lexT (md := .any) (T := T) hsel hs hc hn (l.take n) 0 _ a (fun j hj => by
  have hj' : j < n := by rw [htl] at hj; exact hj
  simp [hj']) (by simpa using htl) inv0 (by rw [htl]; exact hlex) h
 refine Code.wp_mono NoPan.imp (wp_region_any hm ?_)
 have := any_of_headAny (Q' := NoPan Q) (g := l.length - n) (fun d a' w' hw' hL => by
  obtain ⟨u, rfl⟩ := hw'
  rw [hL.1.1]
  exact hL.2 _ (ov_below w u)) _ _ _ w.drew ⟨w.drew, ov_of ((Below.refl _ _).drew)⟩ H
 rw [htl, show n + (l.length - n) = l.toArray.size by simp; omega] at this
 exact this
section
variable {P : Program} {ops : Array Oper} {md : Region.Mode} {Q : Exit → Act → World → Prop} {a : Act} {w : World} {T : Array Bool} {f : Nat}
/-- A pure operation that may be taken first is taken. -/
theorem any_pure (i : Nat) {oi : Oper} {v : Value} (hi : ops[i]? = some oi) (hsel : Region.noSelect ops = true) (hf : Region.free md ops T i = true) (hr : (Region.ready md ops T).contains i = true) (hg : oi.guard = none)
  (hy : ∀ w, (execOp a.eval oi).run P w = .ok (.value v) w) (H : wpAny P md ops (NoPan Q) f (T.setIfInBounds i true) (a.put oi.dst v) w) : wpAny P md ops (NoPan Q) (f + 1) T a w :=
 wpAny_first hi (Region.noSelect_spec hsel) (fun _ _ _ h => h) f T a w (Region.free_spec hi hf) (by simpa using hr) (.inl ⟨by simp [Region.wanted, hg], hy⟩) H
/-- The one operation that must come next. -/
theorem any_next (i : Nat) {oi : Oper} (hi : ops[i]? = some oi) (hr : Region.ready md ops T = [i]) (hg : oi.guard = none)
  (H : ∀ K : Act → World → Prop, (∀ a w, wpAny P md ops (NoPan Q) f (T.setIfInBounds i true) a w → K a w) → oi.wp P a w K (NoPan Q)) : wpAny P md ops (NoPan Q) (f + 1) T a w := by
 refine ⟨fun h => (by rw [hr] at h; cases h), fun j hj => ?_⟩
 rw [hr] at hj
 obtain rfl : j = i := by simpa using hj
 unfold wpOp
 rw [hi]
 simp only []
 rw [if_pos (by simp [Region.wanted, hg])]
 exact .inl (H _ fun _ _ h => h)
theorem any_end (hr : Region.ready md ops T = []) (H : Q .normal a w) : wpAny P md ops (NoPan Q) f T a w := by
 cases f with
 | zero => exact ⟨hr, H⟩
 | succ f => exact ⟨fun _ => H, fun j hj => by rw [hr] at hj; cases hj⟩
end
end Go.Proofs.YtamgpfblhlfhaaaGreat
/- Contracts of tiles, with, made, Put, Set, Get of package raster. -/
namespace Go.Proofs.YtamgpfblhlfhaaaGreat
open Go.RowKit Go.Shelf Pl
set_option linter.unusedVariables false
set_option linter.unusedSimpArgs false
set_option maxRecDepth 20000
theorem OwnT.chg {B b : Nat} {v : Value} {ls : List TA} {w w' : World} (h : OwnT B v ls w) (hc : Chg b w w') (hb : b < B) : OwnT B v ls w' := by
 refine World.ownsRow.kept (row := some b) h ⟨hc.os, hc.tape, hc.output, hc.size, fun k hk hne => hc.block k hk (fun e => hne (by rw [e]))⟩ ?_
 cases hv : v.ownBlock with
 | none => exact .inl rfl
 | some k =>
  right
  intro e
  injection e with e
  have := World.ownsRow.lt h k hv
  omega
theorem rs_take {g o : Nat} {ls : List TA} {w : World} (sc : 0 < ls.length → RCells g o ls w) {k : Nat} (hk : k ≤ ls.length) : RS (.slice (some ⟨g, o, none⟩) k k) (ls.take k) w := by
 have hl : (ls.take k).length = k := by rw [List.length_take]; omega
 refine .inr ⟨g, o, k, by rw [hl], by omega, fun h => (sc (by omega)).take k⟩
theorem rs_drop {g o c : Nat} {ls : List TA} {w : World} (sc : 0 < ls.length → RCells g o ls w) (hc : ls.length ≤ c) {k : Nat} (hk : k ≤ ls.length) : RS (.slice (if c = k then some ⟨g, o, none⟩ else some ⟨g, o + k * 258, none⟩) (ls.length - k) (c - k)) (ls.drop k) w := by
 have hl : (ls.drop k).length = ls.length - k := List.length_drop ..
 by_cases e : c = k
 ·rw [if_pos e]
  exact .inr ⟨g, o, c - k, by rw [hl], by omega, fun h => absurd h (by omega)⟩
 ·rw [if_neg e]
  exact .inr ⟨g, o + k * 258, c - k, by rw [hl], by omega, fun h => (sc (by omega)).drop k⟩
theorem run_alloc_R (w : World) (o : Oper) (ho : o.op = .alloc 34) (ev : Operand → Value) : (execOp ev o).run Tryz.prog w = .ok (.value (.pointer (some ⟨w.heap.size, 0, none⟩))) (w.alloc (.cells #[.slice none 0 0] 34)) := by
 obtain ⟨d, p, t, ps, af, gd⟩ := o
 simp only at ho
 subst ho
 kernel_rfl
/-- A row of tiles is no small block. -/
theorem RS.chg {v : Value} {ls : List TA} {t : TypeId} {b : Nat} {cs : Array Value} {w w' : World} (h : RS v ls w) (hb : AtB t w b cs) (hs : cs.size < 258) (hc : Chg b w w') : RS v ls w' := by
 rcases h with h | ⟨g, o, c, e, hcap, sc⟩
 ·exact .inl h
 ·refine .inr ⟨g, o, c, e, hcap, fun hn => (sc hn).of_eq (hc.block g (sc hn).lt fun hg => ?_)⟩
  subst hg
  have h1 := (sc hn).2 0 hn 257 (by omega)
  rw [cell_of_row w g _ cs _ (0, 0) hb] at h1
  have h2 : (taC (aT ls 0))[257]? ≠ none := by
   rw [Ne, Array.getElem?_eq_none_iff, size_taC]; omega
  rw [← h1, Ne, Array.getElem?_eq_none_iff] at h2
  omega
theorem owp_storeB {o : Oper} {a : Act} {w : World} {Q : Exit → Act → World → Prop} {K : Act → World → Prop} {t : TypeId} {cs : Array Value} (x y : Operand) (b : Nat) (cs' : Array Value) (ho : o.op = .store t x y) (hx : a.eval x = .pointer (some ⟨b, 0, none⟩)) (hy : a.eval y = .agg cs') (ht : AtB t w b cs) (hsz : (Tryz.prog.info? t).map (·.size) = some cs'.size) (hss : cs'.size = cs.size) (hone : cs'.all (·.oneCell') = true)
  (h : ∀ w', AtB t w' b cs' → Chg b w w' → w'.heap.size = w.heap.size → K (a.put o.dst undef) w') : o.wp Tryz.prog a w K Q := by
 unfold Oper.wp execOp
 simp only [ho, hx, hy, run_store_B ht hsz hss hone, Sem.run_bind, Sem.run_pure, Result.andThen_ok]
 exact h _ (ht.setRow cs') ((Chg.refl b w).setRow _) (size_setRow _ _ _)
/-! ### tiles -/
theorem P_tiles0 (a : Option Addr) (c : Nat) (ls : List TA) (w : World) (h : RS (.slice a ls.length c) ls w) (tk : TokL ls) (hn : ls.length ≤ maxLen) : Calls Tryz.prog 50 #[.agg #[.slice a ls.length c]] w fun e w' => e = .returned (if validL ls = true then .slice a ls.length c else .slice none 0 0) ∧ Below w.heap.size w w' := by
 have B := Below.refl w.heap.size w
 have HS := Lib.hid h
 clear h
 cases hv : validL ls with
 | true =>
  rw [if_pos rfl]
  go_enter Tryz.func50, Tryz.ntmps50
  go_wp2_with (first | (go_at_call 56; refine (P_Valid _ ls _ (HS.out.below B) tk hn).mono ?_; rintro e wn ⟨rfl, hbn⟩; have hsz := B.size; have hzn := hbn.size; replace B := B.trans (hbn.mono B.size); (try replace r1 := r1.below hbn)) | (refine wpList_loadAny (t := 34) rfl _ rfl _ _ _ rfl (run_load_B r1 Tryz.isAgg34 (by kernel_rfl)) (by rfl) ?_; simp only [putS]) | (refine wpList_loadAny (t := 32) rfl _ rfl _ _ _ rfl (run_load_sl r1.cell0) (by rfl) ?_; simp only [putS]) | (refine wpList_boxB (t := 34) rfl _ rfl _ rfl ?_; intro b_r1 wn hle hge ht hbn hzn; have hsz := B.size; replace B := B.trans (hbn.mono (by omega)); have hln := Nat.lt_of_lt_of_eq (Nat.lt_succ_self _) hzn.symm; clear hzn; (try have hlt := r1.lt); (try replace r1 := r1.below (hbn.mono hle)); have r1 := ht; clear ht; simp only [putS]) | fail)
  go_ret
  exact ⟨rfl, B⟩
 | false =>
  rw [if_neg (by decide)]
  go_enter Tryz.func50, Tryz.ntmps50
  go_wp2_with (first | (go_at_call 56; refine (P_Valid _ ls _ (HS.out.below B) tk hn).mono ?_; rintro e wn ⟨rfl, hbn⟩; have hsz := B.size; have hzn := hbn.size; replace B := B.trans (hbn.mono B.size); (try replace r1 := r1.below hbn)) | (refine wpList_loadAny (t := 34) rfl _ rfl _ _ _ rfl (run_load_B r1 Tryz.isAgg34 (by kernel_rfl)) (by rfl) ?_; simp only [putS]) | (refine wpList_loadAny (t := 32) rfl _ rfl _ _ _ rfl (run_load_sl r1.cell0) (by rfl) ?_; simp only [putS]) | (refine wpList_boxB (t := 34) rfl _ rfl _ rfl ?_; intro b_r1 wn hle hge ht hbn hzn; have hsz := B.size; replace B := B.trans (hbn.mono (by omega)); have hln := Nat.lt_of_lt_of_eq (Nat.lt_succ_self _) hzn.symm; clear hzn; (try have hlt := r1.lt); (try replace r1 := r1.below (hbn.mono hle)); have r1 := ht; clear ht; simp only [putS]) | fail)
  go_ret
  exact ⟨rfl, B⟩
/-- The tiles of a valid raster: a slice that is known ahead of the walk. -/
theorem P_tiles (v : Value) (ls : List TA) (w : World) (h : RS v ls w) (tk : TokL ls) (hn : ls.length ≤ maxLen) : ∃ a c, ∀ w', Below w.heap.size w w' → (Calls Tryz.prog 50 #[.agg #[v]] w' fun e w'' => e = .returned (.slice a (fineL ls).length c) ∧ Below w'.heap.size w' w'') ∧ RS (.slice a (fineL ls).length c) (fineL ls) w' := by
 obtain ⟨a, c, rfl, hc⟩ := h.len
 cases hv : validL ls with
 | true =>
  rw [fineL_of hv]
  refine ⟨a, c, fun w' hb => ⟨?_, h.below hb⟩⟩
  have := P_tiles0 a c ls w' (h.below hb) tk hn
  rw [hv, if_pos rfl] at this
  exact this
 | false =>
  rw [fineL_no hv]
  refine ⟨none, 0, fun w' hb => ⟨?_, RS.nil _⟩⟩
  have := P_tiles0 a c ls w' (h.below hb) tk hn
  rw [hv, if_neg (by decide)] at this
  exact this
/-! ### with -/
theorem P_CloneO (v : Value) (ls : List TA) (w : World) (h : RS v ls w) (hn : ls.length ≤ 4000) : Calls Tryz.prog 108 #[v] w fun e w' => ∃ v' b, e = .returned v' ∧ w.heap.size ≤ b ∧ b ≤ w.heap.size ∧ OwnT b v' ls w' ∧ Below w.heap.size w w' :=
 (P_Clone v ls w h hn).mono fun e w' ⟨v', he, ho, hb⟩ => ⟨v', _, he, Nat.le_refl _, Nat.le_refl _, ho, hb⟩
set_option maxHeartbeats 1000000 in
theorem P_with (v : Value) (ls : List TA) (x y : Int) (t : Nat → Px) (w : World) (h : RS v ls w) (hs : Srt ls) (ht : Tok t) (hn : ls.length ≤ 4000) : Calls Tryz.prog 89 #[v, .agg #[.int .i64 x, .int .i64 y], Tile.v t] w fun e w' => ∃ v', e = .returned v' ∧ RS v' (putL ls x y t) w' ∧ Below w.heap.size w w' := by
 have B := Below.refl w.heap.size w
 have HS := Lib.hid h
 have SR := Lib.hid hs
 have hcl := cutL_le ls x y
 rcases h with ⟨rfl, rfl⟩ | ⟨g, o, c, rfl, hc, sc⟩
 ·have hcut : cutL ([] : List TA) x y = 0 := rfl
  have hhit : hitL ([] : List TA) x y = false := rfl
  have hp := putL_cut ([] : List TA) x y t
  rw [hhit, hcut] at hp
  have HP := Lib.hid hp
  clear hp hs hcl hn
  cases hz : zeroB t with
  | true =>
   have HN := Lib.hid (show newA x y t = [] from by unfold newA; rw [hz]; rfl)
   go_enter Tryz.func89, Tryz.ntmps89
   go_wp2_with (first | (at_builtin; refine wpList_appendT rfl _ _ rfl _ _ rfl rfl od ((RS.nil _)) (by simp) (by omega) ?_; intro v_od wn ht hbn; have hsz := B.size; have hzn := hbn.size; replace B := B.trans (hbn.mono (by omega)); clear od; (try replace p1 := p1.of_eq (hbn.block _ (by omega))); (try replace u1 := u1.of_eq (hbn.block _ (by omega))); have od := ht; clear ht; simp only [putS]) | (go_at_call 108; have qp := p1.lt; have qu := u1.lt; refine (P_CloneO _ ([]) _ (RS.nil _) (by first | (rw [List.length_take]; omega) | simp)).mono ?_; rintro e wn ⟨v_od, b_od, rfl, hle, hge, od, hbn⟩; have hsz := B.size; have hzn := hbn.size; replace B := B.trans (hbn.mono B.size); (try replace p1 := p1.below hbn); (try replace u1 := u1.below hbn); (try replace od := od.below hbn)) | (go_at_call 106; refine (P_find _ [] x y _ (HS.out.below B) SR.out (by first | omega | simp)).mono ?_; rintro e wn ⟨rfl, hbn⟩; have hsz := B.size; have hzn := hbn.size; replace B := B.trans (hbn.mono B.size); (try replace p1 := p1.below hbn); (try replace u1 := u1.below hbn); (try replace od := od.below hbn)) | (go_at_call 92; refine (P_Zero _ _ ht).mono ?_; rintro e wn ⟨rfl, hbn⟩; have hsz := B.size; have hzn := hbn.size; replace B := B.trans (hbn.mono B.size); (try replace p1 := p1.below hbn); (try replace u1 := u1.below hbn); (try replace od := od.below hbn)) | (refine wpList_loadT rfl _ rfl _ rfl u1 ?_; simp only [putS]) | (refine wpList_loadAny (t := 68) rfl _ rfl _ _ _ rfl (run_load_B p1 Tryz.isAgg68 (by kernel_rfl)) (by rfl) ?_; simp only [putS]) | (have _ := p1; refine wpList_boxT' rfl _ rfl _ rfl ?_; intro b_u1 wn hle hge ht hbn hzn; have hsz := B.size; replace B := B.trans (hbn.mono (by omega)); have hln := Nat.lt_of_lt_of_eq (Nat.lt_succ_self _) hzn.symm; clear hzn; (try have hlt := p1.lt); (try replace p1 := p1.below (hbn.mono hle)); (try have hlt := u1.lt); (try replace u1 := u1.below (hbn.mono hle)); (try have hlt := od.lt); (try replace od := od.below (hbn.mono hle)); have u1 := ht; clear ht; simp only [putS]) | (refine wpList_boxB (t := 68) rfl _ rfl _ rfl ?_; intro b_p1 wn hle hge ht hbn hzn; have hsz := B.size; replace B := B.trans (hbn.mono (by omega)); have hln := Nat.lt_of_lt_of_eq (Nat.lt_succ_self _) hzn.symm; clear hzn; (try have hlt := p1.lt); (try replace p1 := p1.below (hbn.mono hle)); (try have hlt := u1.lt); (try replace u1 := u1.below (hbn.mono hle)); (try have hlt := od.lt); (try replace od := od.below (hbn.mono hle)); have p1 := ht; clear ht; simp only [putS]) | fail)
   go_ret
   refine ⟨_, rfl, ?_, B⟩
   have e := od.rs
   rw [HP.out, HN.out]
   simpa using e
  | false =>
   have HN := Lib.hid (show newA x y t = [⟨x, y, t⟩] from by unfold newA; rw [hz]; rfl)
   go_enter Tryz.func89, Tryz.ntmps89
   go_wp2_with (first | (at_builtin; refine wpList_appendT rfl _ _ rfl _ _ rfl rfl od ((RS.nil _)) (by simp) (by omega) ?_; intro v_od wn ht hbn; have hsz := B.size; have hzn := hbn.size; replace B := B.trans (hbn.mono (by omega)); clear od; (try replace p1 := p1.of_eq (hbn.block _ (by omega))); (try replace u1 := u1.of_eq (hbn.block _ (by omega))); have od := ht; clear ht; simp only [putS]) | (at_builtin; refine wpList_appendT rfl _ _ rfl _ _ rfl rfl od ((RS.one s1)) (by simp) (by omega) ?_; intro v_od wn ht hbn; have hsz := B.size; have hzn := hbn.size; replace B := B.trans (hbn.mono (by omega)); clear od; (try replace p1 := p1.of_eq (hbn.block _ (by omega))); (try replace u1 := u1.of_eq (hbn.block _ (by omega))); have od := ht; clear ht; simp only [putS]) | (refine wpList_bs1T rfl _ rfl ⟨x, y, t⟩ (by rfl) ?_; intro b_s1 wn hle hge ht hbn hzn; have hsz := B.size; replace B := B.trans (hbn.mono (by omega)); have hln := Nat.lt_of_lt_of_eq (Nat.lt_succ_self _) hzn.symm; clear hzn; (try have hlt := p1.lt); (try replace p1 := p1.below (hbn.mono hle)); (try have hlt := u1.lt); (try replace u1 := u1.below (hbn.mono hle)); (try have hlt := od.lt); (try replace od := od.below (hbn.mono hle)); have s1 := ht; clear ht; simp only [putS]) | (refine wpList_buildTA rfl _ _ rfl x y t (by rfl) (by rfl) ?_; simp only [putS]) | (go_at_call 108; have qp := p1.lt; have qu := u1.lt; refine (P_CloneO _ ([]) _ (RS.nil _) (by first | (rw [List.length_take]; omega) | simp)).mono ?_; rintro e wn ⟨v_od, b_od, rfl, hle, hge, od, hbn⟩; have hsz := B.size; have hzn := hbn.size; replace B := B.trans (hbn.mono B.size); (try replace p1 := p1.below hbn); (try replace u1 := u1.below hbn); (try replace od := od.below hbn)) | (go_at_call 106; refine (P_find _ [] x y _ (HS.out.below B) SR.out (by first | omega | simp)).mono ?_; rintro e wn ⟨rfl, hbn⟩; have hsz := B.size; have hzn := hbn.size; replace B := B.trans (hbn.mono B.size); (try replace p1 := p1.below hbn); (try replace u1 := u1.below hbn); (try replace od := od.below hbn)) | (go_at_call 92; refine (P_Zero _ _ ht).mono ?_; rintro e wn ⟨rfl, hbn⟩; have hsz := B.size; have hzn := hbn.size; replace B := B.trans (hbn.mono B.size); (try replace p1 := p1.below hbn); (try replace u1 := u1.below hbn); (try replace od := od.below hbn)) | (refine wpList_loadT rfl _ rfl _ rfl u1 ?_; simp only [putS]) | (refine wpList_loadAny (t := 68) rfl _ rfl _ _ _ rfl (run_load_B p1 Tryz.isAgg68 (by kernel_rfl)) (by rfl) ?_; simp only [putS]) | (have _ := p1; refine wpList_boxT' rfl _ rfl _ rfl ?_; intro b_u1 wn hle hge ht hbn hzn; have hsz := B.size; replace B := B.trans (hbn.mono (by omega)); have hln := Nat.lt_of_lt_of_eq (Nat.lt_succ_self _) hzn.symm; clear hzn; (try have hlt := p1.lt); (try replace p1 := p1.below (hbn.mono hle)); (try have hlt := u1.lt); (try replace u1 := u1.below (hbn.mono hle)); (try have hlt := od.lt); (try replace od := od.below (hbn.mono hle)); have u1 := ht; clear ht; simp only [putS]) | (refine wpList_boxB (t := 68) rfl _ rfl _ rfl ?_; intro b_p1 wn hle hge ht hbn hzn; have hsz := B.size; replace B := B.trans (hbn.mono (by omega)); have hln := Nat.lt_of_lt_of_eq (Nat.lt_succ_self _) hzn.symm; clear hzn; (try have hlt := p1.lt); (try replace p1 := p1.below (hbn.mono hle)); (try have hlt := u1.lt); (try replace u1 := u1.below (hbn.mono hle)); (try have hlt := od.lt); (try replace od := od.below (hbn.mono hle)); have p1 := ht; clear ht; simp only [putS]) | fail)
   go_ret
   refine ⟨_, rfl, ?_, B⟩
   have e := od.rs
   rw [HP.out, HN.out]
   simpa using e
 ·have h : RS (.slice (some ⟨g, o, none⟩) ls.length c) ls w := .inr ⟨g, o, c, rfl, hc, sc⟩
  have HT := Lib.hid (rs_take sc hcl)
  have HC := Lib.hid (putL_cut ls x y t)
  have hcn : cutL ls x y ≤ c := by omega
  cases hh : hitL ls x y with
  | true =>
   have hk : cutL ls x y + 1 ≤ ls.length := by
    first
     | exact hcl
     | (unfold hitL at hh; have := of_decide_eq_true (Bool.and_eq_true_iff.1 hh).1; omega)
   have HR := Lib.hid (rs_drop sc hc hk)
   cases hz : zeroB t with
   | true =>
    have HN := Lib.hid (show newA x y t = [] from by unfold newA; rw [hz]; rfl)
    have HH := Lib.hid hh
    clear hs sc h
    go_enter Tryz.func89, Tryz.ntmps89
    go_wp2_with (first | (at_builtin; refine wpList_appendT rfl _ _ rfl _ _ rfl rfl od ((HR.out.below B)) (by simp; omega) (by omega) ?_; intro v_od wn ht hbn; have hsz := B.size; have hzn := hbn.size; replace B := B.trans (hbn.mono (by omega)); clear od; (try replace p1 := p1.of_eq (hbn.block _ (by omega))); (try replace u1 := u1.of_eq (hbn.block _ (by omega))); have od := ht; clear ht; simp only [putS]) | (go_at_call 108; have qp := p1.lt; have qu := u1.lt; refine (P_CloneO _ (ls.take (cutL ls x y)) _ (HT.out.below B) (by first | (rw [List.length_take]; omega) | simp)).mono ?_; rintro e wn ⟨v_od, b_od, rfl, hle, hge, od, hbn⟩; have hsz := B.size; have hzn := hbn.size; replace B := B.trans (hbn.mono B.size); (try replace p1 := p1.below hbn); (try replace u1 := u1.below hbn); (try replace od := od.below hbn)) | (go_at_call 106; refine (P_find _ ls x y _ (HS.out.below B) SR.out (by first | omega | simp)).mono ?_; rintro e wn ⟨rfl, hbn⟩; have hsz := B.size; have hzn := hbn.size; replace B := B.trans (hbn.mono B.size); (try replace p1 := p1.below hbn); (try replace u1 := u1.below hbn); (try replace od := od.below hbn)) | (go_at_call 92; refine (P_Zero _ _ ht).mono ?_; rintro e wn ⟨rfl, hbn⟩; have hsz := B.size; have hzn := hbn.size; replace B := B.trans (hbn.mono B.size); (try replace p1 := p1.below hbn); (try replace u1 := u1.below hbn); (try replace od := od.below hbn)) | (refine wpList_loadT rfl _ rfl _ rfl u1 ?_; simp only [putS]) | (refine wpList_loadAny (t := 68) rfl _ rfl _ _ _ rfl (run_load_B p1 Tryz.isAgg68 (by kernel_rfl)) (by rfl) ?_; simp only [putS]) | (have _ := p1; refine wpList_boxT' rfl _ rfl _ rfl ?_; intro b_u1 wn hle hge ht hbn hzn; have hsz := B.size; replace B := B.trans (hbn.mono (by omega)); have hln := Nat.lt_of_lt_of_eq (Nat.lt_succ_self _) hzn.symm; clear hzn; (try have hlt := p1.lt); (try replace p1 := p1.below (hbn.mono hle)); (try have hlt := u1.lt); (try replace u1 := u1.below (hbn.mono hle)); (try have hlt := od.lt); (try replace od := od.below (hbn.mono hle)); have u1 := ht; clear ht; simp only [putS]) | (refine wpList_boxB (t := 68) rfl _ rfl _ rfl ?_; intro b_p1 wn hle hge ht hbn hzn; have hsz := B.size; replace B := B.trans (hbn.mono (by omega)); have hln := Nat.lt_of_lt_of_eq (Nat.lt_succ_self _) hzn.symm; clear hzn; (try have hlt := p1.lt); (try replace p1 := p1.below (hbn.mono hle)); (try have hlt := u1.lt); (try replace u1 := u1.below (hbn.mono hle)); (try have hlt := od.lt); (try replace od := od.below (hbn.mono hle)); have p1 := ht; clear ht; simp only [putS]) | fail)
    all_goals
     go_ret
     refine ⟨_, rfl, ?_, B⟩
     have e := od.rs
     rw [HC.out, HN.out, HH.out]
     simpa using e
   | false =>
    have HN := Lib.hid (show newA x y t = [⟨x, y, t⟩] from by unfold newA; rw [hz]; rfl)
    have HH := Lib.hid hh
    clear hs sc h
    go_enter Tryz.func89, Tryz.ntmps89
    go_wp2_with (first | (at_builtin; refine wpList_appendT rfl _ _ rfl _ _ rfl rfl od ((HR.out.below B)) (by simp; omega) (by omega) ?_; intro v_od wn ht hbn; have hsz := B.size; have hzn := hbn.size; replace B := B.trans (hbn.mono (by omega)); clear od; (try replace p1 := p1.of_eq (hbn.block _ (by omega))); (try replace u1 := u1.of_eq (hbn.block _ (by omega))); have od := ht; clear ht; simp only [putS]) | (at_builtin; refine wpList_appendT rfl _ _ rfl _ _ rfl rfl od ((RS.one s1)) (by simp; omega) (by omega) ?_; intro v_od wn ht hbn; have hsz := B.size; have hzn := hbn.size; replace B := B.trans (hbn.mono (by omega)); clear od; (try replace p1 := p1.of_eq (hbn.block _ (by omega))); (try replace u1 := u1.of_eq (hbn.block _ (by omega))); have od := ht; clear ht; simp only [putS]) | (refine wpList_bs1T rfl _ rfl ⟨x, y, t⟩ (by rfl) ?_; intro b_s1 wn hle hge ht hbn hzn; have hsz := B.size; replace B := B.trans (hbn.mono (by omega)); have hln := Nat.lt_of_lt_of_eq (Nat.lt_succ_self _) hzn.symm; clear hzn; (try have hlt := p1.lt); (try replace p1 := p1.below (hbn.mono hle)); (try have hlt := u1.lt); (try replace u1 := u1.below (hbn.mono hle)); (try have hlt := od.lt); (try replace od := od.below (hbn.mono hle)); have s1 := ht; clear ht; simp only [putS]) | (refine wpList_buildTA rfl _ _ rfl x y t (by rfl) (by rfl) ?_; simp only [putS]) | (go_at_call 108; have qp := p1.lt; have qu := u1.lt; refine (P_CloneO _ (ls.take (cutL ls x y)) _ (HT.out.below B) (by first | (rw [List.length_take]; omega) | simp)).mono ?_; rintro e wn ⟨v_od, b_od, rfl, hle, hge, od, hbn⟩; have hsz := B.size; have hzn := hbn.size; replace B := B.trans (hbn.mono B.size); (try replace p1 := p1.below hbn); (try replace u1 := u1.below hbn); (try replace od := od.below hbn)) | (go_at_call 106; refine (P_find _ ls x y _ (HS.out.below B) SR.out (by first | omega | simp)).mono ?_; rintro e wn ⟨rfl, hbn⟩; have hsz := B.size; have hzn := hbn.size; replace B := B.trans (hbn.mono B.size); (try replace p1 := p1.below hbn); (try replace u1 := u1.below hbn); (try replace od := od.below hbn)) | (go_at_call 92; refine (P_Zero _ _ ht).mono ?_; rintro e wn ⟨rfl, hbn⟩; have hsz := B.size; have hzn := hbn.size; replace B := B.trans (hbn.mono B.size); (try replace p1 := p1.below hbn); (try replace u1 := u1.below hbn); (try replace od := od.below hbn)) | (refine wpList_loadT rfl _ rfl _ rfl u1 ?_; simp only [putS]) | (refine wpList_loadAny (t := 68) rfl _ rfl _ _ _ rfl (run_load_B p1 Tryz.isAgg68 (by kernel_rfl)) (by rfl) ?_; simp only [putS]) | (have _ := p1; refine wpList_boxT' rfl _ rfl _ rfl ?_; intro b_u1 wn hle hge ht hbn hzn; have hsz := B.size; replace B := B.trans (hbn.mono (by omega)); have hln := Nat.lt_of_lt_of_eq (Nat.lt_succ_self _) hzn.symm; clear hzn; (try have hlt := p1.lt); (try replace p1 := p1.below (hbn.mono hle)); (try have hlt := u1.lt); (try replace u1 := u1.below (hbn.mono hle)); (try have hlt := od.lt); (try replace od := od.below (hbn.mono hle)); have u1 := ht; clear ht; simp only [putS]) | (refine wpList_boxB (t := 68) rfl _ rfl _ rfl ?_; intro b_p1 wn hle hge ht hbn hzn; have hsz := B.size; replace B := B.trans (hbn.mono (by omega)); have hln := Nat.lt_of_lt_of_eq (Nat.lt_succ_self _) hzn.symm; clear hzn; (try have hlt := p1.lt); (try replace p1 := p1.below (hbn.mono hle)); (try have hlt := u1.lt); (try replace u1 := u1.below (hbn.mono hle)); (try have hlt := od.lt); (try replace od := od.below (hbn.mono hle)); have p1 := ht; clear ht; simp only [putS]) | fail)
    all_goals
     go_ret
     refine ⟨_, rfl, ?_, B⟩
     have e := od.rs
     rw [HC.out, HN.out, HH.out]
     simpa using e
  | false =>
   have hk : cutL ls x y ≤ ls.length := by
    first
     | exact hcl
     | (unfold hitL at hh; have := of_decide_eq_true (Bool.and_eq_true_iff.1 hh).1; omega)
   have HR := Lib.hid (rs_drop sc hc hk)
   cases hz : zeroB t with
   | true =>
    have HN := Lib.hid (show newA x y t = [] from by unfold newA; rw [hz]; rfl)
    have HH := Lib.hid hh
    clear hs sc h
    go_enter Tryz.func89, Tryz.ntmps89
    go_wp2_with (first | (at_builtin; refine wpList_appendT rfl _ _ rfl _ _ rfl rfl od ((HR.out.below B)) (by simp; omega) (by omega) ?_; intro v_od wn ht hbn; have hsz := B.size; have hzn := hbn.size; replace B := B.trans (hbn.mono (by omega)); clear od; (try replace p1 := p1.of_eq (hbn.block _ (by omega))); (try replace u1 := u1.of_eq (hbn.block _ (by omega))); have od := ht; clear ht; simp only [putS]) | (go_at_call 108; have qp := p1.lt; have qu := u1.lt; refine (P_CloneO _ (ls.take (cutL ls x y)) _ (HT.out.below B) (by first | (rw [List.length_take]; omega) | simp)).mono ?_; rintro e wn ⟨v_od, b_od, rfl, hle, hge, od, hbn⟩; have hsz := B.size; have hzn := hbn.size; replace B := B.trans (hbn.mono B.size); (try replace p1 := p1.below hbn); (try replace u1 := u1.below hbn); (try replace od := od.below hbn)) | (go_at_call 106; refine (P_find _ ls x y _ (HS.out.below B) SR.out (by first | omega | simp)).mono ?_; rintro e wn ⟨rfl, hbn⟩; have hsz := B.size; have hzn := hbn.size; replace B := B.trans (hbn.mono B.size); (try replace p1 := p1.below hbn); (try replace u1 := u1.below hbn); (try replace od := od.below hbn)) | (go_at_call 92; refine (P_Zero _ _ ht).mono ?_; rintro e wn ⟨rfl, hbn⟩; have hsz := B.size; have hzn := hbn.size; replace B := B.trans (hbn.mono B.size); (try replace p1 := p1.below hbn); (try replace u1 := u1.below hbn); (try replace od := od.below hbn)) | (refine wpList_loadT rfl _ rfl _ rfl u1 ?_; simp only [putS]) | (refine wpList_loadAny (t := 68) rfl _ rfl _ _ _ rfl (run_load_B p1 Tryz.isAgg68 (by kernel_rfl)) (by rfl) ?_; simp only [putS]) | (have _ := p1; refine wpList_boxT' rfl _ rfl _ rfl ?_; intro b_u1 wn hle hge ht hbn hzn; have hsz := B.size; replace B := B.trans (hbn.mono (by omega)); have hln := Nat.lt_of_lt_of_eq (Nat.lt_succ_self _) hzn.symm; clear hzn; (try have hlt := p1.lt); (try replace p1 := p1.below (hbn.mono hle)); (try have hlt := u1.lt); (try replace u1 := u1.below (hbn.mono hle)); (try have hlt := od.lt); (try replace od := od.below (hbn.mono hle)); have u1 := ht; clear ht; simp only [putS]) | (refine wpList_boxB (t := 68) rfl _ rfl _ rfl ?_; intro b_p1 wn hle hge ht hbn hzn; have hsz := B.size; replace B := B.trans (hbn.mono (by omega)); have hln := Nat.lt_of_lt_of_eq (Nat.lt_succ_self _) hzn.symm; clear hzn; (try have hlt := p1.lt); (try replace p1 := p1.below (hbn.mono hle)); (try have hlt := u1.lt); (try replace u1 := u1.below (hbn.mono hle)); (try have hlt := od.lt); (try replace od := od.below (hbn.mono hle)); have p1 := ht; clear ht; simp only [putS]) | fail)
    all_goals
     go_ret
     refine ⟨_, rfl, ?_, B⟩
     have e := od.rs
     rw [HC.out, HN.out, HH.out]
     simpa using e
   | false =>
    have HN := Lib.hid (show newA x y t = [⟨x, y, t⟩] from by unfold newA; rw [hz]; rfl)
    have HH := Lib.hid hh
    clear hs sc h
    go_enter Tryz.func89, Tryz.ntmps89
    go_wp2_with (first | (at_builtin; refine wpList_appendT rfl _ _ rfl _ _ rfl rfl od ((HR.out.below B)) (by simp; omega) (by omega) ?_; intro v_od wn ht hbn; have hsz := B.size; have hzn := hbn.size; replace B := B.trans (hbn.mono (by omega)); clear od; (try replace p1 := p1.of_eq (hbn.block _ (by omega))); (try replace u1 := u1.of_eq (hbn.block _ (by omega))); have od := ht; clear ht; simp only [putS]) | (at_builtin; refine wpList_appendT rfl _ _ rfl _ _ rfl rfl od ((RS.one s1)) (by simp; omega) (by omega) ?_; intro v_od wn ht hbn; have hsz := B.size; have hzn := hbn.size; replace B := B.trans (hbn.mono (by omega)); clear od; (try replace p1 := p1.of_eq (hbn.block _ (by omega))); (try replace u1 := u1.of_eq (hbn.block _ (by omega))); have od := ht; clear ht; simp only [putS]) | (refine wpList_bs1T rfl _ rfl ⟨x, y, t⟩ (by rfl) ?_; intro b_s1 wn hle hge ht hbn hzn; have hsz := B.size; replace B := B.trans (hbn.mono (by omega)); have hln := Nat.lt_of_lt_of_eq (Nat.lt_succ_self _) hzn.symm; clear hzn; (try have hlt := p1.lt); (try replace p1 := p1.below (hbn.mono hle)); (try have hlt := u1.lt); (try replace u1 := u1.below (hbn.mono hle)); (try have hlt := od.lt); (try replace od := od.below (hbn.mono hle)); have s1 := ht; clear ht; simp only [putS]) | (refine wpList_buildTA rfl _ _ rfl x y t (by rfl) (by rfl) ?_; simp only [putS]) | (go_at_call 108; have qp := p1.lt; have qu := u1.lt; refine (P_CloneO _ (ls.take (cutL ls x y)) _ (HT.out.below B) (by first | (rw [List.length_take]; omega) | simp)).mono ?_; rintro e wn ⟨v_od, b_od, rfl, hle, hge, od, hbn⟩; have hsz := B.size; have hzn := hbn.size; replace B := B.trans (hbn.mono B.size); (try replace p1 := p1.below hbn); (try replace u1 := u1.below hbn); (try replace od := od.below hbn)) | (go_at_call 106; refine (P_find _ ls x y _ (HS.out.below B) SR.out (by first | omega | simp)).mono ?_; rintro e wn ⟨rfl, hbn⟩; have hsz := B.size; have hzn := hbn.size; replace B := B.trans (hbn.mono B.size); (try replace p1 := p1.below hbn); (try replace u1 := u1.below hbn); (try replace od := od.below hbn)) | (go_at_call 92; refine (P_Zero _ _ ht).mono ?_; rintro e wn ⟨rfl, hbn⟩; have hsz := B.size; have hzn := hbn.size; replace B := B.trans (hbn.mono B.size); (try replace p1 := p1.below hbn); (try replace u1 := u1.below hbn); (try replace od := od.below hbn)) | (refine wpList_loadT rfl _ rfl _ rfl u1 ?_; simp only [putS]) | (refine wpList_loadAny (t := 68) rfl _ rfl _ _ _ rfl (run_load_B p1 Tryz.isAgg68 (by kernel_rfl)) (by rfl) ?_; simp only [putS]) | (have _ := p1; refine wpList_boxT' rfl _ rfl _ rfl ?_; intro b_u1 wn hle hge ht hbn hzn; have hsz := B.size; replace B := B.trans (hbn.mono (by omega)); have hln := Nat.lt_of_lt_of_eq (Nat.lt_succ_self _) hzn.symm; clear hzn; (try have hlt := p1.lt); (try replace p1 := p1.below (hbn.mono hle)); (try have hlt := u1.lt); (try replace u1 := u1.below (hbn.mono hle)); (try have hlt := od.lt); (try replace od := od.below (hbn.mono hle)); have u1 := ht; clear ht; simp only [putS]) | (refine wpList_boxB (t := 68) rfl _ rfl _ rfl ?_; intro b_p1 wn hle hge ht hbn hzn; have hsz := B.size; replace B := B.trans (hbn.mono (by omega)); have hln := Nat.lt_of_lt_of_eq (Nat.lt_succ_self _) hzn.symm; clear hzn; (try have hlt := p1.lt); (try replace p1 := p1.below (hbn.mono hle)); (try have hlt := u1.lt); (try replace u1 := u1.below (hbn.mono hle)); (try have hlt := od.lt); (try replace od := od.below (hbn.mono hle)); have p1 := ht; clear ht; simp only [putS]) | fail)
    all_goals
     go_ret
     refine ⟨_, rfl, ?_, B⟩
     have e := od.rs
     rw [HC.out, HN.out, HH.out]
     simpa using e
/-! ### made -/
theorem P_made (a : Option Addr) (n c : Nat) (w : World) (hn : n ≤ maxLen) : Calls Tryz.prog 88 #[.slice a n c] w fun e w' => e = .returned (if n ≤ 1024 then .tuple #[.agg #[.slice a n c], .int .i64 0] else .tuple #[.agg #[.slice none 0 0], .int .i64 2]) ∧ Below w.heap.size w w' := by
 have B := Below.refl w.heap.size w
 by_cases h : n ≤ 1024
 ·rw [if_pos h]
  have d1 : decide (1024 < (n : Int)) = false := decide_eq_false (by omega)
  go_enter Tryz.func88, Tryz.ntmps88
  go_wp2_with (first | (refine wpList_storeB (t := 34) rfl _ _ rfl _ rfl _ rfl r1 (by kernel_rfl) rfl (by simp [Value.oneCell']) ?_; clear r1; intro wn ht hcn hzn; have hsz := B.size; replace hzn := Nat.le_of_eq hzn.symm; replace B := Chg.below B hcn (by omega) B.size; have r1 := ht; clear ht; simp only [putS]) | (refine wpList_allocBk (t := 34) rfl _ (run_alloc_R _ _ rfl) ?_; intro b_r1 wn hle hge ht hbn hzn; have hsz := B.size; replace B := B.trans (hbn.mono (by omega)); have hln := Nat.lt_of_lt_of_eq (Nat.lt_succ_self _) hzn.symm; clear hzn; (try have hlt := r1.lt); (try replace r1 := r1.below (hbn.mono hle)); have r1 := ht; clear ht; simp only [putS]) | fail)
  refine bodyPost_ret (results_B2 (t := 34) rfl _ _ (b_r1) rfl _ rfl r1 Tryz.isAgg34 (by kernel_rfl)) rfl ?_
  exact ⟨rfl, B⟩
 ·rw [if_neg h]
  have d1 : decide (1024 < (n : Int)) = true := decide_eq_true (by omega)
  go_enter Tryz.func88, Tryz.ntmps88
  go_wp2_with (first | (refine wpList_storeB (t := 34) rfl _ _ rfl _ rfl _ rfl r1 (by kernel_rfl) rfl (by simp [Value.oneCell']) ?_; clear r1; intro wn ht hcn hzn; have hsz := B.size; replace hzn := Nat.le_of_eq hzn.symm; replace B := Chg.below B hcn (by omega) B.size; have r1 := ht; clear ht; simp only [putS]) | (refine wpList_allocBk (t := 34) rfl _ (run_alloc_R _ _ rfl) ?_; intro b_r1 wn hle hge ht hbn hzn; have hsz := B.size; replace B := B.trans (hbn.mono (by omega)); have hln := Nat.lt_of_lt_of_eq (Nat.lt_succ_self _) hzn.symm; clear hzn; (try have hlt := r1.lt); (try replace r1 := r1.below (hbn.mono hle)); have r1 := ht; clear ht; simp only [putS]) | fail)
  refine bodyPost_ret (results_B2 (t := 34) rfl _ _ (b_r1) rfl _ rfl r1 Tryz.isAgg34 (by kernel_rfl)) rfl ?_
  exact ⟨rfl, B⟩
/-! ### Put -/
set_option maxHeartbeats 1000000 in
theorem P_Put (v : Value) (ls : List TA) (x y : Int) (t : Nat → Px) (w : World) (h : RS v ls w) (tk : TokL ls) (hn : ls.length ≤ maxLen) (ht : Tok t) : Calls Tryz.prog 54 #[.agg #[v], .agg #[.int .i64 x, .int .i64 y], Tile.v t] w fun e w' => ∃ v', e = .returned (.tuple #[.agg #[v'], .int .i64 (putE ls x y t)]) ∧ RS v' (putR ls x y t) w' ∧ Below w.heap.size w w' := by
 have B := Below.refl w.heap.size w
 obtain ⟨a', c', hT⟩ := P_tiles v ls w h tk hn
 have HT := Lib.hid hT
 clear hT
 obtain ⟨a, c, rfl, hc⟩ := h.len
 cases hw : withinB x y with
 | false =>
  have e1 : putE ls x y t = 1 := by unfold putE; rw [hw]; rfl
  have e2 : putR ls x y t = [] := by unfold putR; rw [hw]; rfl
  rw [e1, e2]
  clear e1 e2
  go_enter Tryz.func54, Tryz.ntmps54
  go_wp2_with (first | (have _ := r2; refine wpList_storeB (t := 34) rfl _ _ rfl _ rfl _ rfl r2 (by kernel_rfl) rfl (by simp [Value.oneCell']) ?_; clear r2; intro wn ht hcn hzn; have hsz := B.size; replace hzn := Nat.le_of_eq hzn.symm; replace B := Chg.below B hcn (by omega) B.size; (try replace r1 := r1.of_eq (hcn.block _ r1.lt (by omega))); (try replace p1 := p1.of_eq (hcn.block _ p1.lt (by omega))); (try replace u1 := u1.of_eq (hcn.block _ u1.lt (by omega))); have r2 := ht; clear ht; simp only [putS]) | (go_at_call 87; refine (P_within x y _).mono ?_; rintro e wn ⟨rfl, hbn⟩; have hsz := B.size; have hzn := hbn.size; replace B := B.trans (hbn.mono B.size); (try replace r1 := r1.below hbn); (try replace p1 := p1.below hbn); (try replace u1 := u1.below hbn); (try replace r2 := r2.below hbn)) | (refine wpList_loadAny (t := 68) rfl _ rfl _ _ _ rfl (run_load_B p1 Tryz.isAgg68 (by kernel_rfl)) (by rfl) ?_; simp only [putS]) | (have _ := u1; refine wpList_allocBk (t := 34) rfl _ (run_alloc_R _ _ rfl) ?_; intro b_r2 wn hle hge ht hbn hzn; have hsz := B.size; replace B := B.trans (hbn.mono (by omega)); have hln := Nat.lt_of_lt_of_eq (Nat.lt_succ_self _) hzn.symm; clear hzn; (try have hlt := r1.lt); (try replace r1 := r1.below (hbn.mono hle)); (try have hlt := p1.lt); (try replace p1 := p1.below (hbn.mono hle)); (try have hlt := u1.lt); (try replace u1 := u1.below (hbn.mono hle)); (try have hlt := r2.lt); (try replace r2 := r2.below (hbn.mono hle)); have r2 := ht; clear ht; simp only [putS]) | (have _ := p1; refine wpList_boxT' rfl _ rfl _ rfl ?_; intro b_u1 wn hle hge ht hbn hzn; have hsz := B.size; replace B := B.trans (hbn.mono (by omega)); have hln := Nat.lt_of_lt_of_eq (Nat.lt_succ_self _) hzn.symm; clear hzn; (try have hlt := r1.lt); (try replace r1 := r1.below (hbn.mono hle)); (try have hlt := p1.lt); (try replace p1 := p1.below (hbn.mono hle)); (try have hlt := u1.lt); (try replace u1 := u1.below (hbn.mono hle)); (try have hlt := r2.lt); (try replace r2 := r2.below (hbn.mono hle)); have u1 := ht; clear ht; simp only [putS]) | (have _ := r1; refine wpList_boxB (t := 68) rfl _ rfl _ rfl ?_; intro b_p1 wn hle hge ht hbn hzn; have hsz := B.size; replace B := B.trans (hbn.mono (by omega)); have hln := Nat.lt_of_lt_of_eq (Nat.lt_succ_self _) hzn.symm; clear hzn; (try have hlt := r1.lt); (try replace r1 := r1.below (hbn.mono hle)); (try have hlt := p1.lt); (try replace p1 := p1.below (hbn.mono hle)); (try have hlt := u1.lt); (try replace u1 := u1.below (hbn.mono hle)); (try have hlt := r2.lt); (try replace r2 := r2.below (hbn.mono hle)); have p1 := ht; clear ht; simp only [putS]) | (refine wpList_boxB (t := 34) rfl _ rfl _ rfl ?_; intro b_r1 wn hle hge ht hbn hzn; have hsz := B.size; replace B := B.trans (hbn.mono (by omega)); have hln := Nat.lt_of_lt_of_eq (Nat.lt_succ_self _) hzn.symm; clear hzn; (try have hlt := r1.lt); (try replace r1 := r1.below (hbn.mono hle)); (try have hlt := p1.lt); (try replace p1 := p1.below (hbn.mono hle)); (try have hlt := u1.lt); (try replace u1 := u1.below (hbn.mono hle)); (try have hlt := r2.lt); (try replace r2 := r2.below (hbn.mono hle)); have r1 := ht; clear ht; simp only [putS]) | fail)
  refine bodyPost_ret (results_B2 (t := 34) rfl _ _ (b_r2) rfl _ rfl r2 Tryz.isAgg34 (by kernel_rfl)) rfl ?_
  exact ⟨_, rfl, RS.nil _, B⟩
 | true =>
  have SR := Lib.hid (validL_srt (fineL_valid ls))
  have CT : Hid (Tok (cleanT t)) := Lib.hid (fun i hi => cleanP_ok (ht i hi))
  have hfl := fineL_length ls
  have hpl := putL_length (fineL ls) x y (cleanT t)
  by_cases hm : (putL (fineL ls) x y (cleanT t)).length ≤ 1024
  ·have e1 : putE ls x y t = 0 := by unfold putE manyE; rw [hw, if_pos rfl, if_pos hm]
   have e2 := Lib.hid (show putR ls x y t = putL (fineL ls) x y (cleanT t) by unfold putR manyL; rw [hw, if_pos rfl, if_pos hm])
   rw [e1]
   clear e1
   go_enter Tryz.func54, Tryz.ntmps54
   go_wp2_with (first | (go_at_call 87; refine (P_within x y _).mono ?_; rintro e wn ⟨rfl, hbn⟩; have hsz := B.size; have hzn := hbn.size; replace B := B.trans (hbn.mono B.size); (try replace r1 := r1.below hbn); (try replace p1 := p1.below hbn); (try replace u1 := u1.below hbn); (try replace r2 := r2.below hbn)) | (refine wpList_loadAny (t := 68) rfl _ rfl _ _ _ rfl (run_load_B p1 Tryz.isAgg68 (by kernel_rfl)) (by rfl) ?_; simp only [putS]) | (have _ := u1; refine wpList_allocBk (t := 34) rfl _ (run_alloc_R _ _ rfl) ?_; intro b_r2 wn hle hge ht hbn hzn; have hsz := B.size; replace B := B.trans (hbn.mono (by omega)); have hln := Nat.lt_of_lt_of_eq (Nat.lt_succ_self _) hzn.symm; clear hzn; (try have hlt := r1.lt); (try replace r1 := r1.below (hbn.mono hle)); (try have hlt := p1.lt); (try replace p1 := p1.below (hbn.mono hle)); (try have hlt := u1.lt); (try replace u1 := u1.below (hbn.mono hle)); (try have hlt := r2.lt); (try replace r2 := r2.below (hbn.mono hle)); have r2 := ht; clear ht; simp only [putS]) | (have _ := p1; refine wpList_boxT' rfl _ rfl _ rfl ?_; intro b_u1 wn hle hge ht hbn hzn; have hsz := B.size; replace B := B.trans (hbn.mono (by omega)); have hln := Nat.lt_of_lt_of_eq (Nat.lt_succ_self _) hzn.symm; clear hzn; (try have hlt := r1.lt); (try replace r1 := r1.below (hbn.mono hle)); (try have hlt := p1.lt); (try replace p1 := p1.below (hbn.mono hle)); (try have hlt := u1.lt); (try replace u1 := u1.below (hbn.mono hle)); (try have hlt := r2.lt); (try replace r2 := r2.below (hbn.mono hle)); have u1 := ht; clear ht; simp only [putS]) | (have _ := r1; refine wpList_boxB (t := 68) rfl _ rfl _ rfl ?_; intro b_p1 wn hle hge ht hbn hzn; have hsz := B.size; replace B := B.trans (hbn.mono (by omega)); have hln := Nat.lt_of_lt_of_eq (Nat.lt_succ_self _) hzn.symm; clear hzn; (try have hlt := r1.lt); (try replace r1 := r1.below (hbn.mono hle)); (try have hlt := p1.lt); (try replace p1 := p1.below (hbn.mono hle)); (try have hlt := u1.lt); (try replace u1 := u1.below (hbn.mono hle)); (try have hlt := r2.lt); (try replace r2 := r2.below (hbn.mono hle)); have p1 := ht; clear ht; simp only [putS]) | (refine wpList_boxB (t := 34) rfl _ rfl _ rfl ?_; intro b_r1 wn hle hge ht hbn hzn; have hsz := B.size; replace B := B.trans (hbn.mono (by omega)); have hln := Nat.lt_of_lt_of_eq (Nat.lt_succ_self _) hzn.symm; clear hzn; (try have hlt := r1.lt); (try replace r1 := r1.below (hbn.mono hle)); (try have hlt := p1.lt); (try replace p1 := p1.below (hbn.mono hle)); (try have hlt := u1.lt); (try replace u1 := u1.below (hbn.mono hle)); (try have hlt := r2.lt); (try replace r2 := r2.below (hbn.mono hle)); have r1 := ht; clear ht; simp only [putS]) | fail)
   refine wp_region_ov_any 5 #[true, true, true, true, true, false, false, false, false, false, false] (by kernel_rfl) (by kernel_rfl) ?_
   simp only [List.length_cons, List.length_nil, Nat.reduceAdd, Nat.reduceSub, List.take_succ_cons, List.take_zero]
   repeat (first | go_big_quiet_skip | (go_big_quiet_want; first | (refine quiet_loadAny (t := 34) rfl _ _ _ rfl (fun w hw => run_load_B (ov_B r1 w hw) Tryz.isAgg34 (by kernel_rfl)) (by rfl) ?_; simp only [putS]; go_big_quiet_on) | (refine quiet_loadAny (t := 68) rfl _ _ _ rfl (fun w hw => run_load_B (ov_B p1 w hw) Tryz.isAgg68 (by kernel_rfl)) (by rfl) ?_; simp only [putS]; go_big_quiet_on) | (refine quiet_loadT rfl _ rfl (ov_tile u1) ?_; simp only [putS]; go_big_quiet_on) | (go_big_quiet_op; first | go_big_quiet_on | go_big_quiet_call ((first | (go_at_call 50; exact calls_ov (HT.out _ (below_ov B B.size _)).1) | (go_at_call 90; exact calls_ov (P_Clean_t _ _ ht)))))))
   refine wpQuiet_nil ?_
   intro wn hbn
   have hsz := B.size
   have hzn := hbn.size
   replace B := B.trans (hbn.mono B.size)
   try replace r1 := r1.below hbn
   try replace p1 := p1.below hbn
   try replace u1 := u1.below hbn
   try replace r2 := r2.below hbn
   refine any_next 5 rfl (by kernel_rfl) rfl (fun K hK => ?_)
   try simp only [gelS]
   go_simp
   go_at_call 89
   refine (P_with _ (fineL ls) x y (cleanT t) _ (HT.out _ B).2 SR.out CT.out (by omega)).mono ?_
   rintro e wn ⟨v1, rfl, rs1, hbn⟩
   obtain ⟨a1, c1, rfl, hc1⟩ := rs1.len
   have hsz := B.size
   have hzn := hbn.size
   replace B := B.trans (hbn.mono B.size)
   try replace r1 := r1.below hbn
   try replace p1 := p1.below hbn
   try replace u1 := u1.below hbn
   try replace r2 := r2.below hbn
   refine hK _ _ ?_
   clear hK K
   try simp only [gelS]
   simp only [putS]
   refine any_next 6 rfl (by kernel_rfl) rfl (fun K hK => ?_)
   try simp only [gelS]
   go_simp
   go_at_call 88
   refine (P_made _ _ _ _ (by unfold maxLen; omega)).mono ?_
   rintro e wn ⟨rfl, hbn⟩
   rw [if_pos hm]
   have hsz := B.size
   have hzn := hbn.size
   replace B := B.trans (hbn.mono B.size)
   try replace r1 := r1.below hbn
   try replace p1 := p1.below hbn
   try replace u1 := u1.below hbn
   try replace r2 := r2.below hbn
   try replace rs1 := rs1.below hbn
   refine hK _ _ ?_
   clear hK K
   try simp only [gelS]
   simp only [putS]
   refine any_pure 7 rfl (by kernel_rfl) (by kernel_rfl) (by kernel_rfl) rfl (fun w => rfl) ?_
   try simp only [gelS]
   simp only [putS]
   refine any_pure 8 rfl (by kernel_rfl) (by kernel_rfl) (by kernel_rfl) rfl (fun w => rfl) ?_
   try simp only [gelS]
   simp only [putS]
   refine any_next 9 rfl (by kernel_rfl) rfl (fun K hK => ?_)
   try simp only [gelS]
   refine owp_storeB (t := 34) _ _ _ _ rfl rfl rfl r2 (by kernel_rfl) rfl (by simp [Value.oneCell']) ?_
   have r2o := r2
   clear r2
   intro wn r2 hcn hzn
   have hsz := B.size
   replace hzn := Nat.le_of_eq hzn.symm
   replace B := Chg.below B hcn (by omega) B.size
   try replace r1 := r1.of_eq (hcn.block _ r1.lt (by omega))
   try replace p1 := p1.of_eq (hcn.block _ p1.lt (by omega))
   try replace u1 := u1.of_eq (hcn.block _ u1.lt (by omega))
   replace rs1 := rs1.chg r2o (by simp) hcn
   clear r2o
   refine hK _ _ ?_
   clear hK K
   try simp only [gelS]
   simp only [putS]
   refine any_pure 10 rfl (by kernel_rfl) (by kernel_rfl) (by kernel_rfl) rfl (fun w => rfl) ?_
   try simp only [gelS]
   simp only [putS]
   refine any_end (by kernel_rfl) ?_
   go_wp2
   refine bodyPost_ret (results_B2 (t := 34) rfl _ _ (b_r2) rfl _ rfl r2 Tryz.isAgg34 (by kernel_rfl)) rfl ?_
   refine ⟨_, rfl, ?_, B⟩
   rw [e2.out]
   exact rs1
  ·have e1 : putE ls x y t = 2 := by unfold putE manyE; rw [hw, if_pos rfl, if_neg hm]
   have e2 := Lib.hid (show putR ls x y t = [] by unfold putR manyL; rw [hw, if_pos rfl, if_neg hm])
   rw [e1]
   clear e1
   go_enter Tryz.func54, Tryz.ntmps54
   go_wp2_with (first | (go_at_call 87; refine (P_within x y _).mono ?_; rintro e wn ⟨rfl, hbn⟩; have hsz := B.size; have hzn := hbn.size; replace B := B.trans (hbn.mono B.size); (try replace r1 := r1.below hbn); (try replace p1 := p1.below hbn); (try replace u1 := u1.below hbn); (try replace r2 := r2.below hbn)) | (refine wpList_loadAny (t := 68) rfl _ rfl _ _ _ rfl (run_load_B p1 Tryz.isAgg68 (by kernel_rfl)) (by rfl) ?_; simp only [putS]) | (have _ := u1; refine wpList_allocBk (t := 34) rfl _ (run_alloc_R _ _ rfl) ?_; intro b_r2 wn hle hge ht hbn hzn; have hsz := B.size; replace B := B.trans (hbn.mono (by omega)); have hln := Nat.lt_of_lt_of_eq (Nat.lt_succ_self _) hzn.symm; clear hzn; (try have hlt := r1.lt); (try replace r1 := r1.below (hbn.mono hle)); (try have hlt := p1.lt); (try replace p1 := p1.below (hbn.mono hle)); (try have hlt := u1.lt); (try replace u1 := u1.below (hbn.mono hle)); (try have hlt := r2.lt); (try replace r2 := r2.below (hbn.mono hle)); have r2 := ht; clear ht; simp only [putS]) | (have _ := p1; refine wpList_boxT' rfl _ rfl _ rfl ?_; intro b_u1 wn hle hge ht hbn hzn; have hsz := B.size; replace B := B.trans (hbn.mono (by omega)); have hln := Nat.lt_of_lt_of_eq (Nat.lt_succ_self _) hzn.symm; clear hzn; (try have hlt := r1.lt); (try replace r1 := r1.below (hbn.mono hle)); (try have hlt := p1.lt); (try replace p1 := p1.below (hbn.mono hle)); (try have hlt := u1.lt); (try replace u1 := u1.below (hbn.mono hle)); (try have hlt := r2.lt); (try replace r2 := r2.below (hbn.mono hle)); have u1 := ht; clear ht; simp only [putS]) | (have _ := r1; refine wpList_boxB (t := 68) rfl _ rfl _ rfl ?_; intro b_p1 wn hle hge ht hbn hzn; have hsz := B.size; replace B := B.trans (hbn.mono (by omega)); have hln := Nat.lt_of_lt_of_eq (Nat.lt_succ_self _) hzn.symm; clear hzn; (try have hlt := r1.lt); (try replace r1 := r1.below (hbn.mono hle)); (try have hlt := p1.lt); (try replace p1 := p1.below (hbn.mono hle)); (try have hlt := u1.lt); (try replace u1 := u1.below (hbn.mono hle)); (try have hlt := r2.lt); (try replace r2 := r2.below (hbn.mono hle)); have p1 := ht; clear ht; simp only [putS]) | (refine wpList_boxB (t := 34) rfl _ rfl _ rfl ?_; intro b_r1 wn hle hge ht hbn hzn; have hsz := B.size; replace B := B.trans (hbn.mono (by omega)); have hln := Nat.lt_of_lt_of_eq (Nat.lt_succ_self _) hzn.symm; clear hzn; (try have hlt := r1.lt); (try replace r1 := r1.below (hbn.mono hle)); (try have hlt := p1.lt); (try replace p1 := p1.below (hbn.mono hle)); (try have hlt := u1.lt); (try replace u1 := u1.below (hbn.mono hle)); (try have hlt := r2.lt); (try replace r2 := r2.below (hbn.mono hle)); have r1 := ht; clear ht; simp only [putS]) | fail)
   refine wp_region_ov_any 5 #[true, true, true, true, true, false, false, false, false, false, false] (by kernel_rfl) (by kernel_rfl) ?_
   simp only [List.length_cons, List.length_nil, Nat.reduceAdd, Nat.reduceSub, List.take_succ_cons, List.take_zero]
   repeat (first | go_big_quiet_skip | (go_big_quiet_want; first | (refine quiet_loadAny (t := 34) rfl _ _ _ rfl (fun w hw => run_load_B (ov_B r1 w hw) Tryz.isAgg34 (by kernel_rfl)) (by rfl) ?_; simp only [putS]; go_big_quiet_on) | (refine quiet_loadAny (t := 68) rfl _ _ _ rfl (fun w hw => run_load_B (ov_B p1 w hw) Tryz.isAgg68 (by kernel_rfl)) (by rfl) ?_; simp only [putS]; go_big_quiet_on) | (refine quiet_loadT rfl _ rfl (ov_tile u1) ?_; simp only [putS]; go_big_quiet_on) | (go_big_quiet_op; first | go_big_quiet_on | go_big_quiet_call ((first | (go_at_call 50; exact calls_ov (HT.out _ (below_ov B B.size _)).1) | (go_at_call 90; exact calls_ov (P_Clean_t _ _ ht)))))))
   refine wpQuiet_nil ?_
   intro wn hbn
   have hsz := B.size
   have hzn := hbn.size
   replace B := B.trans (hbn.mono B.size)
   try replace r1 := r1.below hbn
   try replace p1 := p1.below hbn
   try replace u1 := u1.below hbn
   try replace r2 := r2.below hbn
   refine any_next 5 rfl (by kernel_rfl) rfl (fun K hK => ?_)
   try simp only [gelS]
   go_simp
   go_at_call 89
   refine (P_with _ (fineL ls) x y (cleanT t) _ (HT.out _ B).2 SR.out CT.out (by omega)).mono ?_
   rintro e wn ⟨v1, rfl, rs1, hbn⟩
   obtain ⟨a1, c1, rfl, hc1⟩ := rs1.len
   have hsz := B.size
   have hzn := hbn.size
   replace B := B.trans (hbn.mono B.size)
   try replace r1 := r1.below hbn
   try replace p1 := p1.below hbn
   try replace u1 := u1.below hbn
   try replace r2 := r2.below hbn
   refine hK _ _ ?_
   clear hK K
   try simp only [gelS]
   simp only [putS]
   refine any_next 6 rfl (by kernel_rfl) rfl (fun K hK => ?_)
   try simp only [gelS]
   go_simp
   go_at_call 88
   refine (P_made _ _ _ _ (by unfold maxLen; omega)).mono ?_
   rintro e wn ⟨rfl, hbn⟩
   rw [if_neg hm]
   have hsz := B.size
   have hzn := hbn.size
   replace B := B.trans (hbn.mono B.size)
   try replace r1 := r1.below hbn
   try replace p1 := p1.below hbn
   try replace u1 := u1.below hbn
   try replace r2 := r2.below hbn
   try replace rs1 := rs1.below hbn
   refine hK _ _ ?_
   clear hK K
   try simp only [gelS]
   simp only [putS]
   refine any_pure 7 rfl (by kernel_rfl) (by kernel_rfl) (by kernel_rfl) rfl (fun w => rfl) ?_
   try simp only [gelS]
   simp only [putS]
   refine any_pure 8 rfl (by kernel_rfl) (by kernel_rfl) (by kernel_rfl) rfl (fun w => rfl) ?_
   try simp only [gelS]
   simp only [putS]
   refine any_next 9 rfl (by kernel_rfl) rfl (fun K hK => ?_)
   try simp only [gelS]
   refine owp_storeB (t := 34) _ _ _ _ rfl rfl rfl r2 (by kernel_rfl) rfl (by simp [Value.oneCell']) ?_
   have r2o := r2
   clear r2
   intro wn r2 hcn hzn
   have hsz := B.size
   replace hzn := Nat.le_of_eq hzn.symm
   replace B := Chg.below B hcn (by omega) B.size
   try replace r1 := r1.of_eq (hcn.block _ r1.lt (by omega))
   try replace p1 := p1.of_eq (hcn.block _ p1.lt (by omega))
   try replace u1 := u1.of_eq (hcn.block _ u1.lt (by omega))
   replace rs1 := rs1.chg r2o (by simp) hcn
   clear r2o
   refine hK _ _ ?_
   clear hK K
   try simp only [gelS]
   simp only [putS]
   refine any_pure 10 rfl (by kernel_rfl) (by kernel_rfl) (by kernel_rfl) rfl (fun w => rfl) ?_
   try simp only [gelS]
   simp only [putS]
   refine any_end (by kernel_rfl) ?_
   go_wp2
   refine bodyPost_ret (results_B2 (t := 34) rfl _ _ (b_r2) rfl _ rfl r2 Tryz.isAgg34 (by kernel_rfl)) rfl ?_
   exact ⟨_, rfl, by rw [e2.out]; exact RS.nil _, B⟩
/- Contracts of Set and Get of package raster. -/
theorem putE_fine (ls : List TA) (x y : Int) (t : Nat → Px) : putE (fineL ls) x y t = putE ls x y t := by unfold putE; rw [fineL_fine]
theorem putR_fine (ls : List TA) (x y : Int) (t : Nat → Px) : putR (fineL ls) x y t = putR ls x y t := by unfold putR; rw [fineL_fine]
theorem getT_getL (ls : List TA) (x y : Int) : getT (tileL ls (x / 8) (y / 8)) (x % 8) (y % 8) = getL ls x y := by
 have : insB (x % 8) (y % 8) = true := decide_eq_true (by omega)
 unfold getT getL posI
 rw [if_pos this]
theorem wf_mk {x : Int} (h1 : -9223372036854775808 ≤ x) (h2 : x ≤ 9223372036854775807) : (Lit.int .i64 x).wf = true := by
 have hmin : IntKind.i64.min = -9223372036854775808 := rfl
 have hmax : IntKind.i64.max = 9223372036854775807 := rfl
 simp only [Lit.wf, Bool.and_eq_true, decide_eq_true_eq]
 rw [hmin, hmax]
 exact ⟨h1, h2⟩
theorem wf_bd {x : Int} (h : (Lit.int .i64 x).wf = true) : -9223372036854775808 ≤ x ∧ x ≤ 9223372036854775807 := by
 have hmin : IntKind.i64.min = -9223372036854775808 := rfl
 have hmax : IntKind.i64.max = 9223372036854775807 := rfl
 simp only [Lit.wf, Bool.and_eq_true, decide_eq_true_eq] at h
 rw [hmin, hmax] at h
 exact h
set_option maxHeartbeats 1000000 in
theorem P_GetR (v : Value) (ls : List TA) (x y : Int) (w : World) (h : RS v ls w) (hn : ls.length ≤ maxLen) (hx : (Lit.int .i64 x).wf = true) (hy : (Lit.int .i64 y).wf = true) : Calls Tryz.prog 58 #[.agg #[v], .int .i64 x, .int .i64 y] w fun e w' => e = .returned (Px.v (getL ls x y)) ∧ Below w.heap.size w w' := by
 have B := Below.refl w.heap.size w
 obtain ⟨a, c, rfl, hc⟩ := h.len
 have HS := Lib.hid h
 clear h
 rw [← getT_getL]
 have b1 := bits_and7 x
 have b2 := bits_and7 y
 go_enter Tryz.func58, Tryz.ntmps58
 go_wp2_with (first | (have _ := r1; refine wpList_allocPx' rfl rfl ?_; intro b_q1 wn hle hge ht hbn hzn; have hsz := B.size; replace B := B.trans (hbn.mono (by omega)); have hln := Nat.lt_of_lt_of_eq (Nat.lt_succ_self _) hzn.symm; clear hzn; (try have hlt := r1.lt); (try replace r1 := r1.below (hbn.mono hle)); (try have hlt := q1.lt); (try replace q1 := q1.below (hbn.mono hle)); have q1 := ht; clear ht; simp only [putS]) | (refine wpList_boxB (t := 34) rfl _ rfl _ rfl ?_; intro b_r1 wn hle hge ht hbn hzn; have hsz := B.size; replace B := B.trans (hbn.mono (by omega)); have hln := Nat.lt_of_lt_of_eq (Nat.lt_succ_self _) hzn.symm; clear hzn; (try have hlt := r1.lt); (try replace r1 := r1.below (hbn.mono hle)); (try have hlt := q1.lt); (try replace q1 := q1.below (hbn.mono hle)); have r1 := ht; clear ht; simp only [putS]) | fail)
 have rs := HS.out.below B
 refine wp_region_ov_tail 11 (by kernel_rfl) (by kernel_rfl) ?_
 simp only [List.take_succ_cons, List.take_zero, List.drop_succ_cons, List.drop_zero]
 repeat (first | go_big_quiet_skip | (go_big_quiet_want; first | (refine quiet_loadAny (t := 34) rfl _ _ _ rfl (fun w hw => run_load_B (ov_B r1 w hw) Tryz.isAgg34 (by kernel_rfl)) (by rfl) ?_; simp only [putS]; go_big_quiet_on) | (go_big_quiet_op; first | go_big_quiet_on | go_big_quiet_call ((first | (go_at_call 52; exact calls_ov (P_At _ _ _ hx hy)) | (go_at_call 53; exact calls_ov (P_Tile _ ls _ _ _ (ov_rs rs _ ⟨_, rfl⟩) hn)) | (go_at_call 94; exact calls_ov (P_Get _ _ _ _)))))))
 refine wpQuiet_nil ?_
 intro wn hbn
 have hsz := B.size
 have hzn := hbn.size
 replace B := B.trans (hbn.mono B.size)
 try replace q1 := q1.below hbn
 go_wp2_with (first | (refine wpList_storePx rfl _ _ rfl _ rfl (_) rfl q1 ?_; clear q1; intro wn ht hcn hzn; have hsz := B.size; replace hzn := Nat.le_of_eq hzn.symm; replace B := Chg.below B hcn (by omega) B.size; have q1 := ht; clear ht; simp only [putS]) | fail)
 refine bodyPost_ret (results_px rfl _ _ (b_q1) rfl q1) rfl ?_
 exact ⟨rfl, B⟩
set_option maxHeartbeats 1000000 in
theorem P_SetR (v : Value) (ls : List TA) (x y : Int) (p : Px) (w : World) (h : RS v ls w) (tk : TokL ls) (hn : ls.length ≤ maxLen) (hx : (Lit.int .i64 x).wf = true) (hy : (Lit.int .i64 y).wf = true) (hp : p.ok) : Calls Tryz.prog 21 #[.agg #[v], .int .i64 x, .int .i64 y, Px.v p] w fun e w' => ∃ v', e = .returned (.tuple #[.agg #[v'], .int .i64 (setE ls x y p)]) ∧ RS v' (setR ls x y p) w' ∧ Below w.heap.size w w' := by
 have B := Below.refl w.heap.size w
 obtain ⟨a', c', hT⟩ := P_tiles v ls w h tk hn
 have HT := Lib.hid hT
 clear hT
 obtain ⟨a, c, rfl, hc⟩ := h.len
 have TK := Lib.hid (fineL_tok tk)
 have hfl : (fineL ls).length ≤ maxLen := by have := fineL_le ls; omega
 have KK : Hid (Tok (setT (tileL (fineL ls) (x / 8) (y / 8)) (x % 8) (y % 8) p)) := Lib.hid (setS_tok tk hp)
 have e1 := Lib.hid (show setE ls x y p = putE (fineL ls) (x / 8) (y / 8) (setT (tileL (fineL ls) (x / 8) (y / 8)) (x % 8) (y % 8) p) from (putE_fine ls _ _ _).symm)
 have e2 := Lib.hid (show setR ls x y p = putR (fineL ls) (x / 8) (y / 8) (setT (tileL (fineL ls) (x / 8) (y / 8)) (x % 8) (y % 8) p) from (putR_fine ls _ _ _).symm)
 have b1 := bits_and7 x
 have b2 := bits_and7 y
 clear tk h
 go_enter Tryz.func21, Tryz.ntmps21
 go_wp2_with (first | (refine wpList_storeT rfl _ _ rfl _ rfl _ rfl u2 ?_; clear u2; intro wn ht hcn hzn; have hsz := B.size; replace hzn := Nat.le_of_eq hzn.symm; replace B := Chg.below B hcn (by omega) B.size; (try replace r1 := r1.of_eq (hcn.block _ r1.lt (by omega))); (try replace q1 := q1.of_eq (hcn.block _ q1.lt (by omega))); (try replace r2 := r2.of_eq (hcn.block _ r2.lt (by omega))); (try replace p2 := p2.of_eq (hcn.block _ p2.lt (by omega))); have u2 := ht; clear ht; simp only [putS]) | (go_at_call 53; refine (P_Tile _ (fineL ls) (x / 8) (y / 8) _ (HT.out _ B).2 hfl).mono ?_; rintro e wn ⟨rfl, hbn⟩; have hsz := B.size; have hzn := hbn.size; replace B := B.trans (hbn.mono B.size); (try replace r1 := r1.below hbn); (try replace q1 := q1.below hbn); (try replace r2 := r2.below hbn); (try replace p2 := p2.below hbn); (try replace u2 := u2.below hbn)) | (have _ := p2; refine wpList_allocT' rfl rfl ?_; intro b_u2 wn hle hge ht hbn hzn; have hsz := B.size; replace B := B.trans (hbn.mono (by omega)); have hln := Nat.lt_of_lt_of_eq (Nat.lt_succ_self _) hzn.symm; clear hzn; (try have hlt := r1.lt); (try replace r1 := r1.below (hbn.mono hle)); (try have hlt := q1.lt); (try replace q1 := q1.below (hbn.mono hle)); (try have hlt := r2.lt); (try replace r2 := r2.below (hbn.mono hle)); (try have hlt := p2.lt); (try replace p2 := p2.below (hbn.mono hle)); (try have hlt := u2.lt); (try replace u2 := u2.below (hbn.mono hle)); have u2 := ht; clear ht; simp only [putS]) | (refine wpList_loadAny (t := 68) rfl _ rfl _ _ _ rfl (run_load_B p2 Tryz.isAgg68 (by kernel_rfl)) (by rfl) ?_; simp only [putS]) | (go_at_call 50; refine (HT.out _ B).1.mono ?_; rintro e wn ⟨rfl, hbn⟩; have hsz := B.size; have hzn := hbn.size; replace B := B.trans (hbn.mono B.size); (try replace r1 := r1.below hbn); (try replace q1 := q1.below hbn); (try replace r2 := r2.below hbn); (try replace p2 := p2.below hbn); (try replace u2 := u2.below hbn)) | (refine wpList_storeB (t := 68) rfl _ _ rfl _ rfl _ rfl p2 (by kernel_rfl) rfl (by simp [Value.oneCell']) ?_; clear p2; intro wn ht hcn hzn; have hsz := B.size; replace hzn := Nat.le_of_eq hzn.symm; replace B := Chg.below B hcn (by omega) B.size; (try replace r1 := r1.of_eq (hcn.block _ r1.lt (by omega))); (try replace q1 := q1.of_eq (hcn.block _ q1.lt (by omega))); (try replace r2 := r2.of_eq (hcn.block _ r2.lt (by omega))); (try replace u2 := u2.of_eq (hcn.block _ u2.lt (by omega))); have p2 := ht; clear ht; simp only [putS]) | (have _ := r2; refine wpList_allocBk (t := 68) rfl _ (run_alloc_Ps _ _ rfl) ?_; intro b_p2 wn hle hge ht hbn hzn; have hsz := B.size; replace B := B.trans (hbn.mono (by omega)); have hln := Nat.lt_of_lt_of_eq (Nat.lt_succ_self _) hzn.symm; clear hzn; (try have hlt := r1.lt); (try replace r1 := r1.below (hbn.mono hle)); (try have hlt := q1.lt); (try replace q1 := q1.below (hbn.mono hle)); (try have hlt := r2.lt); (try replace r2 := r2.below (hbn.mono hle)); (try have hlt := p2.lt); (try replace p2 := p2.below (hbn.mono hle)); (try have hlt := u2.lt); (try replace u2 := u2.below (hbn.mono hle)); have p2 := ht; clear ht; simp only [putS]) | (go_at_call 52; refine (P_At _ _ _ hx hy).mono ?_; rintro e wn ⟨rfl, hbn⟩; have hsz := B.size; have hzn := hbn.size; replace B := B.trans (hbn.mono B.size); (try replace r1 := r1.below hbn); (try replace q1 := q1.below hbn); (try replace r2 := r2.below hbn); (try replace p2 := p2.below hbn); (try replace u2 := u2.below hbn)) | (have _ := q1; refine wpList_allocBk (t := 34) rfl _ (run_alloc_R _ _ rfl) ?_; intro b_r2 wn hle hge ht hbn hzn; have hsz := B.size; replace B := B.trans (hbn.mono (by omega)); have hln := Nat.lt_of_lt_of_eq (Nat.lt_succ_self _) hzn.symm; clear hzn; (try have hlt := r1.lt); (try replace r1 := r1.below (hbn.mono hle)); (try have hlt := q1.lt); (try replace q1 := q1.below (hbn.mono hle)); (try have hlt := r2.lt); (try replace r2 := r2.below (hbn.mono hle)); (try have hlt := p2.lt); (try replace p2 := p2.below (hbn.mono hle)); (try have hlt := u2.lt); (try replace u2 := u2.below (hbn.mono hle)); have r2 := ht; clear ht; simp only [putS]) | (have _ := r1; refine wpList_boxPx' rfl _ rfl _ rfl ?_; intro b_q1 wn hle hge ht hbn hzn; have hsz := B.size; replace B := B.trans (hbn.mono (by omega)); have hln := Nat.lt_of_lt_of_eq (Nat.lt_succ_self _) hzn.symm; clear hzn; (try have hlt := r1.lt); (try replace r1 := r1.below (hbn.mono hle)); (try have hlt := q1.lt); (try replace q1 := q1.below (hbn.mono hle)); (try have hlt := r2.lt); (try replace r2 := r2.below (hbn.mono hle)); (try have hlt := p2.lt); (try replace p2 := p2.below (hbn.mono hle)); (try have hlt := u2.lt); (try replace u2 := u2.below (hbn.mono hle)); have q1 := ht; clear ht; simp only [putS]) | (refine wpList_loadAny (t := 34) rfl _ rfl _ _ _ rfl (run_load_B r1 Tryz.isAgg34 (by kernel_rfl)) (by rfl) ?_; simp only [putS]) | (refine wpList_boxB (t := 34) rfl _ rfl _ rfl ?_; intro b_r1 wn hle hge ht hbn hzn; have hsz := B.size; replace B := B.trans (hbn.mono (by omega)); have hln := Nat.lt_of_lt_of_eq (Nat.lt_succ_self _) hzn.symm; clear hzn; (try have hlt := r1.lt); (try replace r1 := r1.below (hbn.mono hle)); (try have hlt := q1.lt); (try replace q1 := q1.below (hbn.mono hle)); (try have hlt := r2.lt); (try replace r2 := r2.below (hbn.mono hle)); (try have hlt := p2.lt); (try replace p2 := p2.below (hbn.mono hle)); (try have hlt := u2.lt); (try replace u2 := u2.below (hbn.mono hle)); have r1 := ht; clear ht; simp only [putS]) | fail)
 refine wp_region_ov_any 10 #[true, true, true, true, true, true, true, true, true, true, false, false, false, false, false] (by kernel_rfl) (by kernel_rfl) ?_
 simp only [List.length_cons, List.length_nil, Nat.reduceAdd, Nat.reduceSub, List.take_succ_cons, List.take_zero]
 repeat (first | go_big_quiet_skip | (go_big_quiet_want; first | (refine quiet_loadAny (t := 68) rfl _ _ _ rfl (fun w hw => run_load_B (ov_B p2 w hw) Tryz.isAgg68 (by kernel_rfl)) (by rfl) ?_; simp only [putS]; go_big_quiet_on) | (refine quiet_loadT rfl _ rfl (ov_tile u2) ?_; simp only [putS]; go_big_quiet_on) | (refine quiet_loadPx rfl _ rfl (ov_px q1) ?_; simp only [putS]; go_big_quiet_on) | (go_big_quiet_op; first | go_big_quiet_on | go_big_quiet_call ((first | (go_at_call 55; exact calls_ov (P_Set _ _ _ _ _)))))))
 refine wpQuiet_nil ?_
 intro wn hbn
 have hsz := B.size
 have hzn := hbn.size
 replace B := B.trans (hbn.mono B.size)
 try replace r1 := r1.below hbn
 try replace q1 := q1.below hbn
 try replace r2 := r2.below hbn
 try replace p2 := p2.below hbn
 try replace u2 := u2.below hbn
 refine any_next 10 rfl (by kernel_rfl) rfl (fun K hK => ?_)
 try simp only [gelS]
 go_simp
 go_at_call 54
 refine (P_Put _ (fineL ls) (x / 8) (y / 8) _ _ (HT.out _ B).2 TK.out hfl KK.out).mono ?_
 rintro e wn ⟨v1, rfl, rs1, hbn⟩
 obtain ⟨a1, c1, rfl, hc1⟩ := rs1.len
 have hsz := B.size
 have hzn := hbn.size
 replace B := B.trans (hbn.mono B.size)
 try replace r1 := r1.below hbn
 try replace q1 := q1.below hbn
 try replace r2 := r2.below hbn
 try replace p2 := p2.below hbn
 try replace u2 := u2.below hbn
 refine hK _ _ ?_
 clear hK K
 try simp only [gelS]
 simp only [putS]
 refine any_pure 11 rfl (by kernel_rfl) (by kernel_rfl) (by kernel_rfl) rfl (fun w => rfl) ?_
 try simp only [gelS]
 simp only [putS]
 refine any_pure 12 rfl (by kernel_rfl) (by kernel_rfl) (by kernel_rfl) rfl (fun w => rfl) ?_
 try simp only [gelS]
 simp only [putS]
 refine any_next 13 rfl (by kernel_rfl) rfl (fun K hK => ?_)
 try simp only [gelS]
 refine owp_storeB (t := 34) _ _ _ _ rfl rfl rfl r2 (by kernel_rfl) rfl (by simp [Value.oneCell']) ?_
 have r2o := r2
 clear r2
 intro wn r2 hcn hzn
 have hsz := B.size
 replace hzn := Nat.le_of_eq hzn.symm
 replace B := Chg.below B hcn (by omega) B.size
 try replace r1 := r1.of_eq (hcn.block _ r1.lt (by omega))
 try replace q1 := q1.of_eq (hcn.block _ q1.lt (by omega))
 try replace p2 := p2.of_eq (hcn.block _ p2.lt (by omega))
 try replace u2 := u2.of_eq (hcn.block _ u2.lt (by omega))
 replace rs1 := rs1.chg r2o (by simp) hcn
 clear r2o
 refine hK _ _ ?_
 clear hK K
 try simp only [gelS]
 simp only [putS]
 refine any_pure 14 rfl (by kernel_rfl) (by kernel_rfl) (by kernel_rfl) rfl (fun w => rfl) ?_
 try simp only [gelS]
 simp only [putS]
 refine any_end (by kernel_rfl) ?_
 go_wp2
 refine bodyPost_ret (results_B2 (t := 34) rfl _ _ (b_r2) rfl _ rfl r2 Tryz.isAgg34 (by kernel_rfl)) rfl ?_
 refine ⟨_, by rw [e1.out]; rfl, ?_, B⟩
 rw [e2.out]
 exact rs1
end Go.Proofs.YtamgpfblhlfhaaaGreat
/- A region that draws its order: its first n operations are pure or read memory that the operations ahead of the t0-th leave alone, and each from the t0-th on waits for all of them: they are taken first; the rest operation by operation. -/
namespace Go.Proofs.YtamgpfblhlfhaaaGreat
open Go.RowKit
set_option linter.unusedVariables false
set_option linter.unusedSimpArgs false
def vOp (o : Oper) : Bool := o.guard.isNone && match o.op with
 | .move _ | .load .. | .binOp .. | .unOp .. | .convert .. | .fieldAddr .. | .indexAddr .. | .build .. | .slice .. | .extract .. => true
 | _ => false
theorem vOp_guard {o : Oper} (h : vOp o = true) : o.guard = none := by
 unfold vOp at h
 simp only [Bool.and_eq_true, Option.isNone_iff_eq_none] at h
 exact h.1
theorem vOp_run {P : Program} {o : Oper} (h : vOp o = true) (ρ : Operand → Value) : ∃ s : Sem Value, ∀ w, (execOp ρ o).run P w = (s.run P w).andThen fun v w' => .ok (.value v) w' := by
 unfold vOp at h
 simp only [Bool.and_eq_true] at h
 obtain ⟨_, h⟩ := h
 have hv : ∀ s : Sem Value, ∀ w, (do let x ← s; pure (Next.value x) : Sem Next).run P w = (s.run P w).andThen fun v w' => .ok (.value v) w' := fun s w => by
  simp only [Sem.run_bind, Sem.run_pure]
 unfold execOp
 cases ho : o.op <;> rw [ho] at h <;> first | (exact ⟨_, fun w => hv _ w⟩) | (cases h; done) | skip
 all_goals first | (exact ⟨pure _, fun w => rfl⟩) | (simp only [Sem.run_pure]; exact ⟨pure _, fun w => by simp only [Sem.run_pure, Result.andThen_ok]⟩)
section
variable {P : Program} {ops : Array Oper} {Q : Exit → Act → World → Prop} {md : Region.Mode} {S : World → Prop} {t0 : Nat}
theorem yieldsIf_of_quiet {o : Oper} {v : Value} {a : Act} (ho : vOp o = true) (h : ∀ w, S w → o.quietAt P a S w v) : YieldsIf P ops S o v a := by
 refine .inl ⟨by simp [Region.wanted, vOp_guard ho], fun w hw => ?_⟩
 have h1 := h w hw
 unfold Oper.quietAt at h1
 obtain ⟨s, hs⟩ := vOp_run (P := P) ho a.eval
 rw [hs w] at h1 ⊢
 cases hr : s.run P w with
 | ok x w' =>
  rw [hr] at h1
  obtain ⟨e1, e2⟩ : w' = w ∧ x = v := h1
  rw [e1, e2]; rfl
 | halt x w' =>
  rw [hr] at h1
  exact (h1 : False).elim
/-- Whatever order is picked from here on; behind an operation ahead of the t0-th S holds. -/
def wpAnyX (P : Program) (md : Region.Mode) (ops : Array Oper) (Q : Exit → Act → World → Prop) (S : World → Prop) (t0 : Nat) : Nat → Array Bool → Act → World → Prop
 | 0, listed, a, w => Region.ready md ops listed = [] ∧ Q .normal a w
 | fuel + 1, listed, a, w =>
  (Region.ready md ops listed = [] → Q .normal a w) ∧
  ∀ i ∈ Region.ready md ops listed, wpOp P ops Q i (fun a' w' => (i < t0 → S w') ∧ wpAnyX P md ops Q S t0 fuel (listed.setIfInBounds i true) a' w') a w
theorem wpAny_of_X : ∀ (fuel : Nat) (listed : Array Bool) (a : Act) (w : World), wpAnyX P md ops Q S t0 fuel listed a w → wpAny P md ops Q fuel listed a w
 | 0, _, _, _, h => h
 | fuel + 1, _, _, _, h => ⟨h.1, fun i hi => wpOp_mono (fun a' w' h' => wpAny_of_X fuel _ a' w' h'.2) (h.2 i hi)⟩
/-- What has come up waits for nothing that has not. -/
def ClosedX (md : Region.Mode) (ops : Array Oper) (listed : Array Bool) : Prop := ∀ j oj, ops[j]? = some oj → listed.getD j false = true → ∀ e ∈ oj.after, Region.binds md e = true → listed.getD e.on false = true
theorem ClosedX.set {listed : Array Bool} (h : ClosedX md ops listed) {i : Nat} (hi : i ∈ Region.ready md ops listed) : ClosedX md ops (listed.setIfInBounds i true) := by
 intro j oj hj hl e he hb
 obtain ⟨hun, oi, hoi, hall⟩ := mem_ready.1 hi
 have key : listed.getD e.on false = true := by
  by_cases hij : i = j
  ·subst hij
   have : oi = oj := Option.some.inj (hoi.symm.trans hj)
   subst this
   exact hall e he hb
  ·refine h j oj hj ?_ e he hb
   rw [Array.getD_eq_getD_getElem?, Array.getElem?_setIfInBounds, if_neg hij, ← Array.getD_eq_getD_getElem?] at hl
   exact hl
 exact getD_set_true key
/-- t waits for i, through others perhaps. -/
def trB (md : Region.Mode) (ops : Array Oper) (i : Nat) : Nat → Nat → Bool
 | 0, t => Region.waitsFor md ops t i
 | f + 1, t => Region.waitsFor md ops t i || (List.range ops.size).any fun s => Region.waitsFor md ops t s && trB md ops i f s
theorem trB_undone {listed : Array Bool} (hc : ClosedX md ops listed) {i : Nat} (hun : listed.getD i true = false) : ∀ (f t : Nat), trB md ops i f t = true → listed.getD t false = false ∧ t ∉ Region.ready md ops listed := by
 have one : ∀ t s, Region.waitsFor md ops t s = true → listed.getD s false = false → listed.getD t false = false ∧ t ∉ Region.ready md ops listed := fun t s hw hs => by
  obtain ⟨o', ho', e, he, hb, hon⟩ := Region.waitsFor_spec hw
  constructor
  ·cases hl : listed.getD t false with
   | false => rfl
   | true =>
    have x := hc t o' ho' hl e he hb
    rw [hon, hs] at x
    cases x
  ·intro hr
   obtain ⟨_, ot, hot, hall⟩ := mem_ready.1 hr
   have : o' = ot := Option.some.inj (ho'.symm.trans hot)
   subst this
   have h2 := hall e he hb
   rw [hon, hs] at h2
   cases h2
 intro f
 induction f with
 | zero => intro t h; exact one t i h (getD_both hun)
 | succ f ih =>
  intro t h
  simp only [trB, Bool.or_eq_true] at h
  rcases h with h | h
  ·exact one t i h (getD_both hun)
  ·obtain ⟨s, _, hs⟩ := List.any_eq_true.1 h
   simp only [Bool.and_eq_true] at hs
   exact one t s hs.1 (ih s hs.2).1
theorem anyX_first {i : Nat} {oi : Oper} {v : Value} (hi : ops[i]? = some oi) (hsel : ∀ (j : Nat) (o : Oper) cs b, ops[j]? = some o → o.op ≠ .select cs b)
  (hQ : ∀ c a w, Q (.panic c) (a.put oi.dst v) w → Q (.panic c) a w) (hi0 : i < t0) (hwait : ∀ t, t0 ≤ t → t < ops.size → trB md ops i 8 t = true) :
  ∀ (fuel : Nat) (listed : Array Bool) (a : Act) (w : World), ClosedX md ops listed →
   (∀ j oj, ops[j]? = some oj → j ≠ i → listed.getD j true = false → (∀ e ∈ oj.after, Region.binds md e = true → e.on ≠ i) → oi.apart ops oj = true) →
   i ∈ Region.ready md ops listed → YieldsIf P ops S oi v a → S w →
   wpAnyX P md ops Q S t0 fuel (listed.setIfInBounds i true) (a.put oi.dst v) w → wpAnyX P md ops Q S t0 (fuel + 1) listed a w := by
 intro fuel
 induction fuel with
 | zero =>
  intro listed a w hcl _ hr hy hS H
  refine ⟨fun h => (by rw [h] at hr; cases hr), fun j hj => ?_⟩
  by_cases hji : j = i
  ·subst hji; exact hy.wpOp hi hS ⟨fun _ => hS, H⟩
  ·have := ready_mono hj hji
   rw [H.1] at this
   cases this
 | succ fuel ih =>
  intro listed a w hcl hfree hr hy hS H
  refine ⟨fun h => (by rw [h] at hr; cases hr), fun j hj => ?_⟩
  by_cases hji : j = i
  ·subst hji; exact hy.wpOp hi hS ⟨fun _ => hS, H⟩
  ·have h1 := H.2 j (ready_mono hj hji)
   obtain ⟨hjun, oj, hoj, hall⟩ := mem_ready.1 hj
   have hun := (mem_ready.1 hr).1
   have hnot : ∀ e ∈ oj.after, Region.binds md e = true → e.on ≠ i := fun e he hb heq => by
    have h1 := hall e he hb
    rw [heq, getD_both hun] at h1
    cases h1
   have hjs : j < ops.size := (Array.getElem?_eq_some_iff.1 hoj).1
   have hjt : j < t0 := Nat.lt_of_not_le fun hle => by
    exact (trB_undone hcl hun 8 j (hwait j hle hjs)).2 hj
   have h2 := wpOp_putIf hoj (hfree j oj hoj hji hjun hnot) (fun cs b => hsel i oi cs b hi) (fun cs b => hsel j oj cs b hoj) hQ hy h1
   have hfree' : ∀ k ok, ops[k]? = some ok → k ≠ i → (listed.setIfInBounds j true).getD k true = false →
     (∀ e ∈ ok.after, Region.binds md e = true → e.on ≠ i) → oi.apart ops ok = true := fun k ok hk hki hun hno => by
    refine hfree k ok hk hki ?_ hno
    by_cases hjk : j = k
    ·subst hjk; exact hjun
    ·rw [getD_set_ne true hjk] at hun; exact hun
   refine wpOp_mono (fun a' w' h3 => ⟨fun _ => h3.2.1 hjt, ih (listed.setIfInBounds j true) a' w' (hcl.set hj) hfree' (ready_mono hr (Ne.symm hji)) h3.1 (h3.2.1 hjt) ?_⟩) h2
   rw [Array.setIfInBounds_comm _ _ hji]
   exact h3.2.2
def headX (md : Region.Mode) (ops : Array Oper) (t0 : Nat) (T : Array Bool) : List Oper → Nat → Array Bool → Bool
 | [], _, listed => decide (listed = T)
 | o :: l, k, listed => vOp o && decide (k < t0) && ((List.range ops.size).all fun t => decide (t < t0) || trB md ops k 8 t) && (Region.ready md ops listed).contains k && Region.free md ops listed k && headX md ops t0 T l (k + 1) (listed.setIfInBounds k true)
theorem anyX_head {T : Array Bool} {f : Nat} {w : World} (hsel : Region.noSelect ops = true) (hS : S w) : ∀ (l : List Oper) (k : Nat) (listed : Array Bool) (a : Act), ClosedX md ops listed → (∀ j, j < l.length → l[j]? = ops[k + j]?) →
  headX md ops t0 T l k listed = true → wpQuiet P ops S (fun a' => wpAnyX P md ops (NoPan Q) S t0 f T a' w) l a → wpAnyX P md ops (NoPan Q) S t0 (l.length + f) listed a w := by
 intro l
 induction l with
 | nil =>
  intro k listed a _ _ hB h
  simp only [headX, decide_eq_true_eq] at hB
  rw [List.length_nil, Nat.zero_add, hB]
  exact h
 | cons o l ih =>
  intro k listed a hcl hl hB h
  have h0 : ops[k]? = some o := by simpa using (hl 0 (by simp)).symm
  simp only [headX, Bool.and_eq_true, decide_eq_true_eq] at hB
  obtain ⟨⟨⟨⟨⟨hv, hk⟩, hwt⟩, hr⟩, hf⟩, hB'⟩ := hB
  have hw : Region.wanted o (yielded ops a.tmps) = true := by simp [Region.wanted, vOp_guard hv]
  unfold wpQuiet at h
  rw [if_pos hw] at h
  obtain ⟨v, hy, hK⟩ := h
  rw [show (o :: l).length + f = (l.length + f) + 1 by simp; omega]
  refine anyX_first h0 (Region.noSelect_spec hsel) (fun _ _ _ h => h) hk (fun t ht hts => ?_) (l.length + f) listed a w hcl (Region.free_spec h0 hf) (by simpa using hr) (yieldsIf_of_quiet hv hy) hS
   (ih (k + 1) _ _ (hcl.set (by simpa using hr)) (fun j hj => ?_) hB' hK)
  ·have := List.all_eq_true.1 hwt t (List.mem_range.2 hts)
   simp only [Bool.or_eq_true, decide_eq_true_eq] at this
   rcases this with h | h
   ·omega
   ·exact h
  ·have := hl (j + 1) (by simp; omega)
   simpa [Nat.add_assoc, Nat.add_comm 1 j] using this
/-- The one operation that must come next; ahead of the t0-th: it only makes memory. -/
theorem anyX_next (i : Nat) {oi : Oper} {T : Array Bool} {f : Nat} {a : Act} {w : World} (hi : ops[i]? = some oi) (hr : Region.ready md ops T = [i]) (hg : oi.guard = none)
  (H : ∀ K : Act → World → Prop, (∀ a w, (i < t0 → S w) ∧ wpAnyX P md ops (NoPan Q) S t0 f (T.setIfInBounds i true) a w → K a w) → oi.wp P a w K (NoPan Q)) : wpAnyX P md ops (NoPan Q) S t0 (f + 1) T a w := by
 refine ⟨fun h => (by rw [hr] at h; cases h), fun j hj => ?_⟩
 rw [hr] at hj
 obtain rfl : j = i := by simpa using hj
 unfold wpOp
 rw [hi]
 simp only []
 rw [if_pos (by simp [Region.wanted, hg])]
 exact .inl (H _ fun _ _ h => h)
end
theorem anyX_of_any {P : Program} {ops : Array Oper} {Q : Exit → Act → World → Prop} {md : Region.Mode} {S : World → Prop} {t0 : Nat} : ∀ (f : Nat) (T : Array Bool) (a : Act) (w : World), (∀ i, i < t0 → T.getD i true = true) → wpAny P md ops Q f T a w → wpAnyX P md ops Q S t0 f T a w
 | 0, _, _, _, _, h => h
 | f + 1, T, a, w, hT, h => ⟨h.1, fun i hi => by
  have hun := (mem_ready.1 hi).1
  have hge : ¬ i < t0 := fun hlt => by rw [hT i hlt] at hun; cases hun
  refine wpOp_mono (fun a' w' h' => ⟨fun hlt => absurd hlt hge, anyX_of_any f _ a' w' (fun j hj => ?_) h'⟩) (h.2 i hi)
  have hne : i ≠ j := fun e => hge (e ▸ hj)
  rw [getD_set_ne true hne]
  exact hT j hj⟩
/-- The rest comes in the order of the text. -/
theorem anyX_seq {P : Program} {l : List Oper} {Q : Exit → Act → World → Prop} {md : Region.Mode} {S : World → Prop} {t0 : Nat} {T : Array Bool} {a : Act} {w : World} (h1 : ((List.range t0).all fun i => T.getD i true) = true) (h2 : Region.seqB md l.toArray (l.drop t0).length t0 T = true)
  (h : wpList P l.toArray Q (l.drop t0) a w) : wpAnyX P md l.toArray Q S t0 (l.length - t0) T a w := by
 refine anyX_of_any _ T a w (fun i hi => List.all_eq_true.1 h1 i (List.mem_range.2 hi)) ?_
 have := wpAny_of_seq (md := md) (Q' := Q) (l.drop t0) t0 T a w (fun j => by simp [List.getElem?_drop]) h2 h
 rwa [List.length_drop] at this
theorem wp_region_X {P : Program} {id : Nat} {Q : Exit → Act → World → Prop} {a : Act} {w : World} {l : List Oper} (n t0 : Nat) (T : Array Bool) (hm : P.follows .mixedOrders = true)
  (hB : (Region.noSelect l.toArray && decide (n < l.length) && headX .any l.toArray t0 T (l.take n) 0 (Array.replicate l.toArray.size false)) = true)
  (h : wpQuiet P l.toArray (fun w' => ∃ u, w' = ov w u) (fun a' => ∀ w', Below w.heap.size w w' → wpAnyX P .any l.toArray (NoPan Q) (fun w'' => ∃ u, w'' = ov w u) t0 (l.length - n) T a' w') (l.take n) a) : (Code.region id l.toArray true).wp P Q a w := by
 simp only [Bool.and_eq_true, decide_eq_true_eq] at hB
 obtain ⟨⟨hsel, hn⟩, hX⟩ := hB
 have htl : (l.take n).length = n := by simp; omega
 have key : ∀ (l' : List Oper) (a : Act), wpQuiet P l.toArray (fun w' => ∃ u, w' = ov w u) (fun a' => ∀ w', Below w.heap.size w w' → wpAnyX P .any l.toArray (NoPan Q) (fun w'' => ∃ u, w'' = ov w u) t0 (l.length - n) T a' w') l' a →
   wpQuiet P l.toArray (fun w' => ∃ u, w' = ov w u) (fun a' => wpAnyX P .any l.toArray (NoPan Q) (fun w'' => ∃ u, w'' = ov w u) t0 (l.length - n) T a' w.drew) l' a := by
  intro l'
  induction l' with
  | nil => intro a h; exact h _ ((Below.refl _ _).drew)
  | cons o r ih =>
   intro a h
   unfold wpQuiet at h ⊢
   split
   ·rename_i hw
    rw [if_pos hw] at h
    exact Oper.quiet_mono (fun a' h' => ih a' h') h
   ·rename_i hw
    rw [if_neg hw] at h
    exact ih _ h
 refine Code.wp_mono NoPan.imp (wp_region_any hm ?_)
 have := anyX_head (md := .any) (t0 := t0) (T := T) (f := l.length - n) (w := w.drew) hsel ⟨w.drew, ov_of ((Below.refl _ _).drew)⟩ (l.take n) 0 _ a (fun j oj _ hl => by rw [getD_replicate_false] at hl; cases hl) (fun j hj => by
  have hj' : j < n := by rw [htl] at hj; exact hj
  simp [hj']) hX (key _ _ h)
 rw [htl, show n + (l.length - n) = l.toArray.size by simp; omega] at this
 exact wpAny_of_X _ _ _ _ this
/-! ### Operation by operation -/
def closedB (md : Region.Mode) (ops : Array Oper) (T : Array Bool) : Bool := (List.range ops.size).all fun j => !(T.getD j false) || match ops[j]? with
 | some oj => oj.after.all fun e => !(Region.binds md e) || T.getD e.on false
 | none => true
theorem closedB_spec {md : Region.Mode} {ops : Array Oper} {T : Array Bool} (h : closedB md ops T = true) : ClosedX md ops T := by
 intro j oj hj hl e he hb
 have h1 := List.all_eq_true.1 h j (List.mem_range.2 (Array.getElem?_eq_some_iff.1 hj).1)
 rw [hl, hj] at h1
 simp only [Bool.not_true, Bool.false_or] at h1
 have h2 := Array.all_eq_true'.1 h1 e he
 rw [hb] at h2
 simpa using h2
def takeB (md : Region.Mode) (ops : Array Oper) (t0 : Nat) (T : Array Bool) (i : Nat) : Bool :=
 (match ops[i]? with | some o => vOp o | none => false) && decide (i < t0) && ((List.range ops.size).all fun t => decide (t < t0) || trB md ops i 8 t) && (Region.ready md ops T).contains i && Region.free md ops T i && closedB md ops T && Region.noSelect ops
section
variable {P : Program} {ops : Array Oper} {md : Region.Mode} {Q : Exit → Act → World → Prop} {S : World → Prop} {t0 f : Nat} {a : Act} {w : World} {T : Array Bool}
/-- A pure operation, or a load that S knows, is taken first. -/
theorem anyX_take (i : Nat) {oi : Oper} (hi : ops[i]? = some oi) (hB : takeB md ops t0 T i = true) (hS : S w)
  (h : ∀ K : Act → Prop, (∀ a', wpAnyX P md ops (NoPan Q) S t0 f (T.setIfInBounds i true) a' w → K a') → oi.quiet P a S K) : wpAnyX P md ops (NoPan Q) S t0 (f + 1) T a w := by
 simp only [takeB, Bool.and_eq_true, decide_eq_true_eq] at hB
 obtain ⟨⟨⟨⟨⟨⟨hv, hk⟩, hwt⟩, hr⟩, hf⟩, hcl⟩, hsel⟩ := hB
 rw [hi] at hv
 obtain ⟨v, hy, hK⟩ := h _ (fun _ h => h)
 refine anyX_first hi (Region.noSelect_spec hsel) (fun _ _ _ h => h) hk (fun t ht hts => ?_) f T a w (closedB_spec hcl) (Region.free_spec hi hf) (by simpa using hr) (yieldsIf_of_quiet hv hy) hS hK
 have := List.all_eq_true.1 hwt t (List.mem_range.2 hts)
 simp only [Bool.or_eq_true, decide_eq_true_eq] at this
 rcases this with h | h
 ·omega
 ·exact h
/-- One of two operations comes next. -/
theorem anyX_two (i j : Nat) {oi oj : Oper} (hi : ops[i]? = some oi) (hj : ops[j]? = some oj) (hr : Region.ready md ops T = [i, j]) (hgi : oi.guard = none) (hgj : oj.guard = none)
  (Hi : ∀ K : Act → World → Prop, (∀ a w, (i < t0 → S w) ∧ wpAnyX P md ops (NoPan Q) S t0 f (T.setIfInBounds i true) a w → K a w) → oi.wp P a w K (NoPan Q))
  (Hj : ∀ K : Act → World → Prop, (∀ a w, (j < t0 → S w) ∧ wpAnyX P md ops (NoPan Q) S t0 f (T.setIfInBounds j true) a w → K a w) → oj.wp P a w K (NoPan Q)) : wpAnyX P md ops (NoPan Q) S t0 (f + 1) T a w := by
 refine ⟨fun h => (by rw [hr] at h; cases h), fun k hk => ?_⟩
 rw [hr] at hk
 have hk : k = i ∨ k = j := by simpa using hk
 rcases hk with rfl | rfl
 ·unfold wpOp
  rw [hi]
  simp only []
  rw [if_pos (by simp [Region.wanted, hgi])]
  exact .inl (Hi _ fun _ _ h => h)
 ·unfold wpOp
  rw [hj]
  simp only []
  rw [if_pos (by simp [Region.wanted, hgj])]
  exact .inl (Hj _ fun _ _ h => h)
end
theorem wp_region_X0 {P : Program} {id : Nat} {Q : Exit → Act → World → Prop} {a : Act} {w : World} {l : List Oper} (t0 : Nat) (T : Array Bool) (hm : P.follows .mixedOrders = true)
  (hB : T = Array.replicate l.toArray.size false)
  (h : ∀ w', Below w.heap.size w w' → wpAnyX P .any l.toArray (NoPan Q) (fun w'' => ∃ u, w'' = ov w u) t0 l.length T a w') : (Code.region id l.toArray true).wp P Q a w := by
 refine Code.wp_mono NoPan.imp (wp_region_any hm ?_)
 rw [← hB]
 have := wpAny_of_X _ _ _ _ (h w.drew ((Below.refl _ _).drew))
 rwa [show l.length = l.toArray.size by simp] at this
end Go.Proofs.YtamgpfblhlfhaaaGreat
/- Contracts of the reference's Of, many, put, Put, Set, Get. -/
namespace Go.Proofs.YtamgpfblhlfhaaaGreat
open Go.RowKit Go.Shelf Pl
set_option linter.unusedVariables false
set_option linter.unusedSimpArgs false
set_option maxRecDepth 20000
theorem R_Of0 (a : Option Addr) (c : Nat) (ls : List TA) (w : World) (h : RS (.slice a ls.length c) ls w) (tk : TokL ls) (hn : ls.length ≤ maxLen) : Calls Tryz.prog 40 #[.agg #[.slice a ls.length c]] w fun e w' => e = .returned (.agg #[if validL ls = true then .slice a ls.length c else .slice none 0 0]) ∧ Below w.heap.size w w' := by
 have B := Below.refl w.heap.size w
 have HS := Lib.hid h
 clear h
 cases hv : validL ls with
 | true =>
  rw [if_pos rfl]
  go_enter Tryz.func40, Tryz.ntmps40
  go_wp2_with (first | (refine wpList_storeB (t := 34) rfl _ _ rfl _ rfl _ rfl r2 (by kernel_rfl) rfl (by simp [Value.oneCell']) ?_; clear r2; intro wn ht hcn hzn; have hsz := B.size; replace hzn := Nat.le_of_eq hzn.symm; replace B := Chg.below B hcn (by omega) B.size; (try replace r1 := r1.of_eq (hcn.block _ r1.lt (by omega))); have r2 := ht; clear ht; simp only [putS]) | (go_at_call 76; refine (R_Valid _ ls _ (HS.out.below B) tk hn).mono ?_; rintro e wn ⟨rfl, hbn⟩; have hsz := B.size; have hzn := hbn.size; replace B := B.trans (hbn.mono B.size); (try replace r1 := r1.below hbn); (try replace r2 := r2.below hbn)) | (refine wpList_loadAny (t := 34) rfl _ rfl _ _ _ rfl (run_load_B r1 Tryz.isAgg34 (by kernel_rfl)) (by rfl) ?_; simp only [putS]) | (have _ := r1; refine wpList_allocBk (t := 34) rfl _ (run_alloc_R _ _ rfl) ?_; intro b_r2 wn hle hge ht hbn hzn; have hsz := B.size; replace B := B.trans (hbn.mono (by omega)); have hln := Nat.lt_of_lt_of_eq (Nat.lt_succ_self _) hzn.symm; clear hzn; (try have hlt := r1.lt); (try replace r1 := r1.below (hbn.mono hle)); (try have hlt := r2.lt); (try replace r2 := r2.below (hbn.mono hle)); have r2 := ht; clear ht; simp only [putS]) | (refine wpList_boxB (t := 34) rfl _ rfl _ rfl ?_; intro b_r1 wn hle hge ht hbn hzn; have hsz := B.size; replace B := B.trans (hbn.mono (by omega)); have hln := Nat.lt_of_lt_of_eq (Nat.lt_succ_self _) hzn.symm; clear hzn; (try have hlt := r1.lt); (try replace r1 := r1.below (hbn.mono hle)); (try have hlt := r2.lt); (try replace r2 := r2.below (hbn.mono hle)); have r1 := ht; clear ht; simp only [putS]) | fail)
  refine bodyPost_ret (results_B (t := 34) rfl _ _ (b_r2) rfl r2 Tryz.isAgg34 (by kernel_rfl)) rfl ?_
  exact ⟨rfl, B⟩
 | false =>
  rw [if_neg (by decide)]
  go_enter Tryz.func40, Tryz.ntmps40
  go_wp2_with (first | (refine wpList_storeB (t := 34) rfl _ _ rfl _ rfl _ rfl r2 (by kernel_rfl) rfl (by simp [Value.oneCell']) ?_; clear r2; intro wn ht hcn hzn; have hsz := B.size; replace hzn := Nat.le_of_eq hzn.symm; replace B := Chg.below B hcn (by omega) B.size; (try replace r1 := r1.of_eq (hcn.block _ r1.lt (by omega))); have r2 := ht; clear ht; simp only [putS]) | (go_at_call 76; refine (R_Valid _ ls _ (HS.out.below B) tk hn).mono ?_; rintro e wn ⟨rfl, hbn⟩; have hsz := B.size; have hzn := hbn.size; replace B := B.trans (hbn.mono B.size); (try replace r1 := r1.below hbn); (try replace r2 := r2.below hbn)) | (refine wpList_loadAny (t := 34) rfl _ rfl _ _ _ rfl (run_load_B r1 Tryz.isAgg34 (by kernel_rfl)) (by rfl) ?_; simp only [putS]) | (have _ := r1; refine wpList_allocBk (t := 34) rfl _ (run_alloc_R _ _ rfl) ?_; intro b_r2 wn hle hge ht hbn hzn; have hsz := B.size; replace B := B.trans (hbn.mono (by omega)); have hln := Nat.lt_of_lt_of_eq (Nat.lt_succ_self _) hzn.symm; clear hzn; (try have hlt := r1.lt); (try replace r1 := r1.below (hbn.mono hle)); (try have hlt := r2.lt); (try replace r2 := r2.below (hbn.mono hle)); have r2 := ht; clear ht; simp only [putS]) | (refine wpList_boxB (t := 34) rfl _ rfl _ rfl ?_; intro b_r1 wn hle hge ht hbn hzn; have hsz := B.size; replace B := B.trans (hbn.mono (by omega)); have hln := Nat.lt_of_lt_of_eq (Nat.lt_succ_self _) hzn.symm; clear hzn; (try have hlt := r1.lt); (try replace r1 := r1.below (hbn.mono hle)); (try have hlt := r2.lt); (try replace r2 := r2.below (hbn.mono hle)); have r1 := ht; clear ht; simp only [putS]) | fail)
  refine bodyPost_ret (results_B (t := 34) rfl _ _ (b_r2) rfl r2 Tryz.isAgg34 (by kernel_rfl)) rfl ?_
  exact ⟨rfl, B⟩
/-- The raster that Of returns: known ahead of the walk. -/
theorem R_Of (v : Value) (ls : List TA) (w : World) (h : RS v ls w) (tk : TokL ls) (hn : ls.length ≤ maxLen) : ∃ a c, ∀ w', Below w.heap.size w w' → (Calls Tryz.prog 40 #[.agg #[v]] w' fun e w'' => e = .returned (.agg #[.slice a (fineL ls).length c]) ∧ Below w'.heap.size w' w'') ∧ RS (.slice a (fineL ls).length c) (fineL ls) w' := by
 obtain ⟨a, c, rfl, hc⟩ := h.len
 cases hv : validL ls with
 | true =>
  rw [fineL_of hv]
  refine ⟨a, c, fun w' hb => ⟨?_, h.below hb⟩⟩
  have := R_Of0 a c ls w' (h.below hb) tk hn
  rw [hv, if_pos rfl] at this
  exact this
 | false =>
  rw [fineL_no hv]
  refine ⟨none, 0, fun w' hb => ⟨?_, RS.nil _⟩⟩
  have := R_Of0 a c ls w' (h.below hb) tk hn
  rw [hv, if_neg (by decide)] at this
  exact this
theorem run_alloc_G (w : World) (o : Oper) (ho : o.op = .alloc 63) (ev : Operand → Value) : (execOp ev o).run Tryz.prog w = .ok (.value (.pointer (some ⟨w.heap.size, 0, none⟩))) (w.alloc (.cells #[.slice none 0 0, .int .i64 0] 63)) := by
 obtain ⟨d, p, t, ps, af, gd⟩ := o
 simp only at ho
 subst ho
 kernel_rfl
theorem R_many (a : Option Addr) (n c : Nat) (w : World) (hn : n ≤ maxLen) : Calls Tryz.prog 112 #[.agg #[.slice a n c]] w fun e w' => e = .returned (if n ≤ 1024 then .agg #[.slice a n c, .int .i64 0] else .agg #[.slice none 0 0, .int .i64 2]) ∧ Below w.heap.size w w' := by
 have B := Below.refl w.heap.size w
 by_cases h : n ≤ 1024
 ·rw [if_pos h]
  have d1 : decide (1024 < (n : Int)) = false := decide_eq_false (by omega)
  go_enter Tryz.func112, Tryz.ntmps112
  go_wp2_with (first | (refine wpList_storeB (t := 63) rfl _ _ rfl _ rfl _ rfl g2 (by kernel_rfl) rfl (by simp [Value.oneCell']) ?_; clear g2; intro wn ht hcn hzn; have hsz := B.size; replace hzn := Nat.le_of_eq hzn.symm; replace B := Chg.below B hcn (by omega) B.size; (try replace r1 := r1.of_eq (hcn.block _ r1.lt (by omega))); have g2 := ht; clear ht; simp only [putS]) | (refine wpList_loadAny (t := 34) rfl _ rfl _ _ _ rfl (run_load_B r1 Tryz.isAgg34 (by kernel_rfl)) (by rfl) ?_; simp only [putS]) | (refine wpList_loadAny (t := 32) rfl _ rfl _ _ _ rfl (run_load_sl r1.cell0) (by rfl) ?_; simp only [putS]) | (have _ := r1; refine wpList_allocBk (t := 63) rfl _ (run_alloc_G _ _ rfl) ?_; intro b_g2 wn hle hge ht hbn hzn; have hsz := B.size; replace B := B.trans (hbn.mono (by omega)); have hln := Nat.lt_of_lt_of_eq (Nat.lt_succ_self _) hzn.symm; clear hzn; (try have hlt := r1.lt); (try replace r1 := r1.below (hbn.mono hle)); (try have hlt := g2.lt); (try replace g2 := g2.below (hbn.mono hle)); have g2 := ht; clear ht; simp only [putS]) | (refine wpList_boxB (t := 34) rfl _ rfl _ rfl ?_; intro b_r1 wn hle hge ht hbn hzn; have hsz := B.size; replace B := B.trans (hbn.mono (by omega)); have hln := Nat.lt_of_lt_of_eq (Nat.lt_succ_self _) hzn.symm; clear hzn; (try have hlt := r1.lt); (try replace r1 := r1.below (hbn.mono hle)); (try have hlt := g2.lt); (try replace g2 := g2.below (hbn.mono hle)); have r1 := ht; clear ht; simp only [putS]) | fail)
  refine bodyPost_ret (results_B (t := 63) rfl _ _ (b_g2) rfl g2 Tryz.isAgg63 (by kernel_rfl)) rfl ?_
  exact ⟨rfl, B⟩
 ·rw [if_neg h]
  have d1 : decide (1024 < (n : Int)) = true := decide_eq_true (by omega)
  go_enter Tryz.func112, Tryz.ntmps112
  go_wp2_with (first | (refine wpList_storeB (t := 63) rfl _ _ rfl _ rfl _ rfl g2 (by kernel_rfl) rfl (by simp [Value.oneCell']) ?_; clear g2; intro wn ht hcn hzn; have hsz := B.size; replace hzn := Nat.le_of_eq hzn.symm; replace B := Chg.below B hcn (by omega) B.size; (try replace r1 := r1.of_eq (hcn.block _ r1.lt (by omega))); have g2 := ht; clear ht; simp only [putS]) | (refine wpList_loadAny (t := 34) rfl _ rfl _ _ _ rfl (run_load_B r1 Tryz.isAgg34 (by kernel_rfl)) (by rfl) ?_; simp only [putS]) | (refine wpList_loadAny (t := 32) rfl _ rfl _ _ _ rfl (run_load_sl r1.cell0) (by rfl) ?_; simp only [putS]) | (have _ := r1; refine wpList_allocBk (t := 63) rfl _ (run_alloc_G _ _ rfl) ?_; intro b_g2 wn hle hge ht hbn hzn; have hsz := B.size; replace B := B.trans (hbn.mono (by omega)); have hln := Nat.lt_of_lt_of_eq (Nat.lt_succ_self _) hzn.symm; clear hzn; (try have hlt := r1.lt); (try replace r1 := r1.below (hbn.mono hle)); (try have hlt := g2.lt); (try replace g2 := g2.below (hbn.mono hle)); have g2 := ht; clear ht; simp only [putS]) | (refine wpList_boxB (t := 34) rfl _ rfl _ rfl ?_; intro b_r1 wn hle hge ht hbn hzn; have hsz := B.size; replace B := B.trans (hbn.mono (by omega)); have hln := Nat.lt_of_lt_of_eq (Nat.lt_succ_self _) hzn.symm; clear hzn; (try have hlt := r1.lt); (try replace r1 := r1.below (hbn.mono hle)); (try have hlt := g2.lt); (try replace g2 := g2.below (hbn.mono hle)); have r1 := ht; clear ht; simp only [putS]) | fail)
  refine bodyPost_ret (results_B (t := 63) rfl _ _ (b_g2) rfl g2 Tryz.isAgg63 (by kernel_rfl)) rfl ?_
  exact ⟨rfl, B⟩
/-! ### put -/
theorem wpList_storeO {v : Value} {ops : Array Oper} {rest : List Oper} {o : Oper} {a : Act} {w : World} {Q : Exit → Act → World → Prop} (hg : o.guard = none) (x y : Operand) (ho : o.op = .store 32 x y) (b : Nat) (hx : a.eval x = .pointer (some ⟨b, 0, none⟩)) (a' : Option Addr) (n' c' : Nat) (hy : a.eval y = .slice a' n' c') (ht : AtB 34 w b #[v])
  (h : ∀ w', AtB 34 w' b #[.slice a' n' c'] → Chg b w w' → w'.heap.size = w.heap.size → wpList Tryz.prog ops Q rest (a.put o.dst undef) w') : wpList Tryz.prog ops Q (o :: rest) a w := by
 have c0 := ht.cell0
 have f0 := ht.frozen 0
 refine wpList_storeAny hg x y ho (w.setCell ⟨b, 0, none⟩ (.slice a' n' c')) ?_ (h _ ?_ ((Chg.refl b w).setCell _) (by simp only [World.size_setCell]))
 ·rw [hx, hy]
  simp [go_sem, c0, f0]
 ·exact heap_setCell_same w b 0 #[v] _ _ ht
theorem owp_bs1T {o : Oper} {a : Act} {w : World} {Q : Exit → Act → World → Prop} {K : Act → World → Prop} (x : Operand) (ho : o.op = .buildSlice 32 1 #[(0, x)]) (e : TA) (hx : a.eval x = .agg (taC e))
  (h : ∀ b w', w.heap.size ≤ b → b ≤ w.heap.size → AtB 72 w' b (taC e) → Below b w w' → w'.heap.size = b + 1 → K (a.put o.dst (.slice (some ⟨b, 0, none⟩) 1 1)) w') : o.wp Tryz.prog a w K Q := by
 obtain ⟨i, hi⟩ : ∃ i, Tryz.prog.info? 72 = some i := by
  cases h : Tryz.prog.info? 72 with
  | some i => exact ⟨i, rfl⟩
  | none => have e := ta_info; rw [h] at e; cases e
 have e1 := ta_info
 rw [hi] at e1
 have e1' : i.size = 258 ∧ i.bytes = 272 := by simpa using e1
 have hz := ta_zero
 rw [hi] at hz
 refine wp_buildSlice 32 72 1 #[(0, x)] ho (taC e) i _ Tryz.underlying32 hi hz (by rw [e1'.1]; omega) (by rw [e1'.1]; omega) ?_ (h _ _ (Nat.le_refl _) (Nat.le_refl _) (by unfold AtB; rw [heap_get_alloc, if_pos rfl]) ((Below.refl _ _).alloc (Nat.le_refl _) _) (World.size_alloc _ _))
 rw [e1'.1]
 have hp : ((#[(0, x)] : Array (Nat × Operand)).map fun (i, x) => (i, a.eval x)).toList = [(0, Value.agg (taC e))] := by simp [hx]
 rw [hp]
 exact fill_bs1 e _ (by simp)
/-- What is left of the reference's put, its rest told. -/
theorem rput_cons (x y : Int) (t : Nat → Px) (d : Bool) (e : TA) (r : List TA) : rputL x y t d (e :: r) = if (!d && lessB x y e.x e.y) = true then ⟨x, y, t⟩ :: (if eqB e.x e.y x y = true then rputL x y t true r else e :: rputL x y t true r)
 else if eqB e.x e.y x y = true then rputL x y t d r else e :: rputL x y t d r := rfl
set_option maxHeartbeats 2000000 in
theorem R_put (v : Value) (ls : List TA) (x y : Int) (t0 t : Nat → Px) (w : World) (h : RS v ls w) (hs : Srt ls) (ht0 : Tok t0) (htc : t = cleanT t0) (hn : ls.length ≤ 4000) : Calls Tryz.prog 113 #[.agg #[v], .agg #[.int .i64 x, .int .i64 y], Tile.v t0] w fun e w' => ∃ v', e = .returned (.agg #[v']) ∧ RS v' (putL ls x y t) w' ∧ Below w.heap.size w w' := by
 have B := Below.refl w.heap.size w
 obtain ⟨a, c, rfl, hc⟩ := h.len
 have HS := Lib.hid h
 have FIN := Lib.hid (rputL_eq x y t ls hs)
 clear h hs
 go_enter Tryz.func113, Tryz.ntmps113
 subst htc
 generalize htt : cleanT t0 = t at *
 have CL : ∀ w, Calls Tryz.prog 120 #[Tile.v t0] w fun e w' => e = .returned (Tile.v t) ∧ Below w.heap.size w w' := fun w => htt ▸ R_Clean_t t0 w ht0
 have CLH := Lib.hid CL
 clear CL htt
 go_wp2_with (first | (go_at_call 118; refine (R_Zero _ _).mono ?_; rintro e wn ⟨rfl, hbn⟩; have hsz := B.size; have hzn := hbn.size; replace B := B.trans (hbn.mono B.size); (try replace r1 := r1.below hbn); (try replace p1 := p1.below hbn); (try replace u1 := u1.below hbn); (try replace r2 := r2.below hbn); (try replace r3 := r3.below hbn); (try replace od := od.below hbn); (try replace rc := rc.below hbn)) | (refine wpList_storeT rfl _ _ rfl _ rfl _ rfl u1 ?_; clear u1; intro wn ht hcn hzn; have hsz := B.size; replace hzn := Nat.le_of_eq hzn.symm; replace B := Chg.below B hcn (by omega) B.size; (try replace r1 := r1.of_eq (hcn.block _ r1.lt (by omega))); (try replace p1 := p1.of_eq (hcn.block _ p1.lt (by omega))); (try replace r2 := r2.of_eq (hcn.block _ r2.lt (by omega))); (try replace r3 := r3.of_eq (hcn.block _ r3.lt (by omega))); (try replace od := od.of_eq (hcn.block _ od.lt (by omega))); (try replace rc := rc.of_eq (hcn.block _ rc.lt (by omega))); have u1 := ht; clear ht; simp only [putS]) | (go_at_call 120; refine (CLH.out _).mono ?_; rintro e wn ⟨rfl, hbn⟩; have hsz := B.size; have hzn := hbn.size; replace B := B.trans (hbn.mono B.size); (try replace r1 := r1.below hbn); (try replace p1 := p1.below hbn); (try replace u1 := u1.below hbn); (try replace r2 := r2.below hbn); (try replace r3 := r3.below hbn); (try replace od := od.below hbn); (try replace rc := rc.below hbn)) | (refine wpList_loadT rfl _ rfl _ rfl u1 ?_; simp only [putS]) | (refine wpList_storeB (t := 34) rfl _ _ rfl _ rfl _ rfl r3 (by kernel_rfl) rfl (by simp [Value.oneCell']) ?_; clear r3; intro wn ht hcn hzn; have hsz := B.size; replace hzn := Nat.le_of_eq hzn.symm; replace B := Chg.below B hcn (by omega) B.size; (try replace r1 := r1.of_eq (hcn.block _ r1.lt (by omega))); (try replace p1 := p1.of_eq (hcn.block _ p1.lt (by omega))); (try replace u1 := u1.of_eq (hcn.block _ u1.lt (by omega))); (try replace r2 := r2.of_eq (hcn.block _ r2.lt (by omega))); (try replace od := od.of_eq (hcn.block _ od.lt (by omega))); (try replace rc := rc.of_eq (hcn.block _ rc.lt (by omega))); have r3 := ht; clear ht; simp only [putS]) | (have _ := r2; refine wpList_allocBk (t := 34) rfl _ (run_alloc_R _ _ rfl) ?_; intro b_r3 wn hle hge ht hbn hzn; have hsz := B.size; replace B := B.trans (hbn.mono (by omega)); have hln := Nat.lt_of_lt_of_eq (Nat.lt_succ_self _) hzn.symm; clear hzn; (try have hlt := r1.lt); (try replace r1 := r1.below (hbn.mono hle)); (try have hlt := p1.lt); (try replace p1 := p1.below (hbn.mono hle)); (try have hlt := u1.lt); (try replace u1 := u1.below (hbn.mono hle)); (try have hlt := r2.lt); (try replace r2 := r2.below (hbn.mono hle)); (try have hlt := r3.lt); (try replace r3 := r3.below (hbn.mono hle)); (try have hlt := od.lt); (try replace od := od.below (hbn.mono hle)); (try have hlt := rc.lt); (try replace rc := rc.below (hbn.mono hle)); have r3 := ht; clear ht; simp only [putS]) | (have _ := u1; refine wpList_allocBk (t := 34) rfl _ (run_alloc_R _ _ rfl) ?_; intro b_r2 wn hle hge ht hbn hzn; have hsz := B.size; replace B := B.trans (hbn.mono (by omega)); have hln := Nat.lt_of_lt_of_eq (Nat.lt_succ_self _) hzn.symm; clear hzn; (try have hlt := r1.lt); (try replace r1 := r1.below (hbn.mono hle)); (try have hlt := p1.lt); (try replace p1 := p1.below (hbn.mono hle)); (try have hlt := u1.lt); (try replace u1 := u1.below (hbn.mono hle)); (try have hlt := r2.lt); (try replace r2 := r2.below (hbn.mono hle)); (try have hlt := r3.lt); (try replace r3 := r3.below (hbn.mono hle)); (try have hlt := od.lt); (try replace od := od.below (hbn.mono hle)); (try have hlt := rc.lt); (try replace rc := rc.below (hbn.mono hle)); have r2 := ht; clear ht; simp only [putS]) | (have _ := p1; refine wpList_boxT' rfl _ rfl _ rfl ?_; intro b_u1 wn hle hge ht hbn hzn; have hsz := B.size; replace B := B.trans (hbn.mono (by omega)); have hln := Nat.lt_of_lt_of_eq (Nat.lt_succ_self _) hzn.symm; clear hzn; (try have hlt := r1.lt); (try replace r1 := r1.below (hbn.mono hle)); (try have hlt := p1.lt); (try replace p1 := p1.below (hbn.mono hle)); (try have hlt := u1.lt); (try replace u1 := u1.below (hbn.mono hle)); (try have hlt := r2.lt); (try replace r2 := r2.below (hbn.mono hle)); (try have hlt := r3.lt); (try replace r3 := r3.below (hbn.mono hle)); (try have hlt := od.lt); (try replace od := od.below (hbn.mono hle)); (try have hlt := rc.lt); (try replace rc := rc.below (hbn.mono hle)); have u1 := ht; clear ht; simp only [putS]) | (have _ := r1; refine wpList_boxB (t := 68) rfl _ rfl _ rfl ?_; intro b_p1 wn hle hge ht hbn hzn; have hsz := B.size; replace B := B.trans (hbn.mono (by omega)); have hln := Nat.lt_of_lt_of_eq (Nat.lt_succ_self _) hzn.symm; clear hzn; (try have hlt := r1.lt); (try replace r1 := r1.below (hbn.mono hle)); (try have hlt := p1.lt); (try replace p1 := p1.below (hbn.mono hle)); (try have hlt := u1.lt); (try replace u1 := u1.below (hbn.mono hle)); (try have hlt := r2.lt); (try replace r2 := r2.below (hbn.mono hle)); (try have hlt := r3.lt); (try replace r3 := r3.below (hbn.mono hle)); (try have hlt := od.lt); (try replace od := od.below (hbn.mono hle)); (try have hlt := rc.lt); (try replace rc := rc.below (hbn.mono hle)); have p1 := ht; clear ht; simp only [putS]) | (refine wpList_boxB (t := 34) rfl _ rfl _ rfl ?_; intro b_r1 wn hle hge ht hbn hzn; have hsz := B.size; replace B := B.trans (hbn.mono (by omega)); have hln := Nat.lt_of_lt_of_eq (Nat.lt_succ_self _) hzn.symm; clear hzn; (try have hlt := r1.lt); (try replace r1 := r1.below (hbn.mono hle)); (try have hlt := p1.lt); (try replace p1 := p1.below (hbn.mono hle)); (try have hlt := u1.lt); (try replace u1 := u1.below (hbn.mono hle)); (try have hlt := r2.lt); (try replace r2 := r2.below (hbn.mono hle)); (try have hlt := r3.lt); (try replace r3 := r3.below (hbn.mono hle)); (try have hlt := od.lt); (try replace od := od.below (hbn.mono hle)); (try have hlt := rc.lt); (try replace rc := rc.below (hbn.mono hle)); have r1 := ht; clear ht; simp only [putS]) | fail)
 have qr1 := r1.lt
 have qp1 := p1.lt
 have qu1 := u1.lt
 have qr2 := r2.lt
 have qr3 := r3.lt
 obtain ⟨b0, hb0⟩ : ∃ n, n = wn.heap.size := ⟨_, rfl⟩
 have k1 : w.heap.size ≤ b_r1 := by omega
 have k2 : b_r1 < b_p1 := by omega
 have k3 : b_p1 < b_u1 := by omega
 have k4 : b_u1 < b_r2 := by omega
 have k5 : b_r2 < b_r3 := by omega
 have k6 : b_r3 < b0 := by omega
 have k7 : b0 ≤ wn.heap.size := by omega
 have od0 := OwnT.nil b0 wn
 go_loopw [9, 10] (fun d i wr => ∃ (k : Nat) (dd : Bool) (acc : List TA) (a3 : Option Addr) (n3 c3 : Nat), k ≤ ls.length ∧ i = .int .i64 k ∧ d = .bool dd ∧ acc ++ rputL x y t dd (ls.drop k) = putL ls x y t ∧ acc.length ≤ 2 * k ∧ n3 = acc.length ∧ Below w.heap.size w wr ∧ b0 ≤ wr.heap.size ∧ AtB 34 wr b_r1 #[.slice a ls.length c] ∧ AtB 68 wr b_p1 #[.int .i64 x, .int .i64 y] ∧ TileAt wr b_u1 t ∧ AtB 34 wr b_r2 #[.slice none 0 0] ∧ AtB 34 wr b_r3 #[.slice a3 n3 c3] ∧ OwnT b0 (.slice a3 n3 c3) acc wr) (fun _ i _ => (ls.length - intOf i).toNat)
 case atStart => exact ⟨0, zeroB t, [], none, 0, 0, by omega, rfl, rfl, FIN.out, by simp, rfl, B, k7, r1, p1, u1, r2, r3, od0⟩
 case round =>
  clear B r1 p1 u1 r2 r3 od0 hb0 k7 qr1 qp1 qu1 qr2 qr3
  obtain ⟨k, dd, acc, a3, n3, c3, hk, rfl, rfl, hacc, hal, rfl, B, hwb, r1, p1, u1, r2, r3, od⟩ := hrel
  by_cases hkl : k < ls.length
  ·obtain ⟨g, o, rfl, rc0⟩ := HS.out.at (by omega)
   have hg0 := rc0.lt
   have rc := rc0.of_eq (B.block _ rc0.lt)
   clear rc0
   obtain ⟨e, he⟩ : ∃ e, aT ls k = e := ⟨_, rfl⟩
   rw [drop_eq hkl, he, rput_cons] at hacc
   have hneq : ∀ w, (binOp .neq 68 (Ps.v e.x e.y) (.agg #[.int .i64 x, .int .i64 y])).run Tryz.prog w = .ok (.bool (!eqB e.x e.y x y)) w := fun w => neq_pos _ _ _ _ w
   cases h3 : eqB e.x e.y x y with
   | true =>
    cases dd with
    | true =>
     rw [h3] at hacc
     simp at hacc
     have HA := Lib.hid hacc
     clear hacc
     go_wp2_with (first | (refine wpList_loadAny (t := 32) rfl _ rfl _ _ _ rfl (run_load_sl r1.cell0) (by rfl) ?_; simp only [putS]) | fail)
     refine wp_region_ov (by kernel_rfl) (by kernel_rfl) ?_
     repeat (first | go_big_quiet_skip | (go_big_quiet_want; first | (refine quiet_loadAny (t := 68) rfl _ _ _ rfl (fun w hw => run_load_B (ov_B p1 w hw) Tryz.isAgg68 (by kernel_rfl)) (by rfl) ?_; simp only [putS]; go_big_quiet_on) | (refine quiet_loadAny (t := 32) rfl _ _ _ rfl (fun w hw => run_load_sl (ov_B r1 w hw).cell0) (by rfl) ?_; simp only [putS]; go_big_quiet_on) | (refine quiet_loadAny (t := 68) rfl _ _ _ rfl (fun w hw => rc_pos (ov_rc rc w hw) hkl he) (by first | rfl | omega) ?_; simp only [putS]; go_big_quiet_on) | (go_big_quiet_op; first | go_big_quiet_on | go_big_quiet_call ((fail)))))
     refine wpQuiet_nil ?_
     intro wn hbn
     have hsz := B.size
     have hzn := hbn.size
     replace B := B.trans (hbn.mono B.size)
     try replace r1 := r1.below hbn
     try replace p1 := p1.below hbn
     try replace u1 := u1.below hbn
     try replace r2 := r2.below hbn
     try replace r3 := r3.below hbn
     try replace od := od.below hbn
     try replace rc := rc.below hbn
     go_wp2
     refine wp_region_ov (by kernel_rfl) (by kernel_rfl) ?_
     repeat (first | go_big_quiet_skip | (go_big_quiet_want; first | (refine quiet_loadAny (t := 68) rfl _ _ _ rfl (fun w hw => run_load_B (ov_B p1 w hw) Tryz.isAgg68 (by kernel_rfl)) (by rfl) ?_; simp only [putS]; go_big_quiet_on) | (refine quiet_loadAny (t := 32) rfl _ _ _ rfl (fun w hw => run_load_sl (ov_B r1 w hw).cell0) (by rfl) ?_; simp only [putS]; go_big_quiet_on) | (refine quiet_loadAny (t := 68) rfl _ _ _ rfl (fun w hw => rc_pos (ov_rc rc w hw) hkl he) (by first | rfl | omega) ?_; simp only [putS]; go_big_quiet_on) | (go_big_quiet_op; first | go_big_quiet_on | go_big_quiet_call ((fail)))))
     refine wpQuiet_nil ?_
     intro wn hbn
     have hsz := B.size
     have hzn := hbn.size
     replace B := B.trans (hbn.mono B.size)
     try replace r1 := r1.below hbn
     try replace p1 := p1.below hbn
     try replace u1 := u1.below hbn
     try replace r2 := r2.below hbn
     try replace r3 := r3.below hbn
     try replace od := od.below hbn
     try replace rc := rc.below hbn
     go_wp2
     go_roundw
     case rel => exact ⟨k + 1, _, _, _, _, _, by omega, by go_num, rfl, by first | exact HA.out | (rw [← HA.out, List.append_assoc, List.append_assoc]; rfl) | (rw [← HA.out, List.append_assoc]; rfl) | (rw [← HA.out]; simp), by first | omega | (simp; omega), by first | rfl | simp, B, by omega, r1, p1, u1, r2, r3, od⟩
     case measure => simp [intOf]; omega
    | false =>
     cases h4 : lessB x y e.x e.y with
     | true =>
      have h3 := of_decide_eq_true h3
      have h4 := of_decide_eq_true h4
      omega
     | false =>
      rw [h3, h4] at hacc
      simp at hacc
      have HA := Lib.hid hacc
      clear hacc
      go_wp2_with (first | (refine wpList_loadAny (t := 32) rfl _ rfl _ _ _ rfl (run_load_sl r1.cell0) (by rfl) ?_; simp only [putS]) | fail)
      refine wp_region_ov (by kernel_rfl) (by kernel_rfl) ?_
      repeat (first | go_big_quiet_skip | (go_big_quiet_want; first | (refine quiet_loadAny (t := 68) rfl _ _ _ rfl (fun w hw => run_load_B (ov_B p1 w hw) Tryz.isAgg68 (by kernel_rfl)) (by rfl) ?_; simp only [putS]; go_big_quiet_on) | (refine quiet_loadAny (t := 32) rfl _ _ _ rfl (fun w hw => run_load_sl (ov_B r1 w hw).cell0) (by rfl) ?_; simp only [putS]; go_big_quiet_on) | (refine quiet_loadAny (t := 68) rfl _ _ _ rfl (fun w hw => rc_pos (ov_rc rc w hw) hkl he) (by first | rfl | omega) ?_; simp only [putS]; go_big_quiet_on) | (go_big_quiet_op; first | go_big_quiet_on | go_big_quiet_call ((first | (go_at_call 121; exact calls_ov (R_less _ _ _ _ _)))))))
      refine wpQuiet_nil ?_
      intro wn hbn
      have hsz := B.size
      have hzn := hbn.size
      replace B := B.trans (hbn.mono B.size)
      try replace r1 := r1.below hbn
      try replace p1 := p1.below hbn
      try replace u1 := u1.below hbn
      try replace r2 := r2.below hbn
      try replace r3 := r3.below hbn
      try replace od := od.below hbn
      try replace rc := rc.below hbn
      go_wp2
      refine wp_region_ov (by kernel_rfl) (by kernel_rfl) ?_
      repeat (first | go_big_quiet_skip | (go_big_quiet_want; first | (refine quiet_loadAny (t := 68) rfl _ _ _ rfl (fun w hw => run_load_B (ov_B p1 w hw) Tryz.isAgg68 (by kernel_rfl)) (by rfl) ?_; simp only [putS]; go_big_quiet_on) | (refine quiet_loadAny (t := 32) rfl _ _ _ rfl (fun w hw => run_load_sl (ov_B r1 w hw).cell0) (by rfl) ?_; simp only [putS]; go_big_quiet_on) | (refine quiet_loadAny (t := 68) rfl _ _ _ rfl (fun w hw => rc_pos (ov_rc rc w hw) hkl he) (by first | rfl | omega) ?_; simp only [putS]; go_big_quiet_on) | (go_big_quiet_op; first | go_big_quiet_on | go_big_quiet_call ((fail)))))
      refine wpQuiet_nil ?_
      intro wn hbn
      have hsz := B.size
      have hzn := hbn.size
      replace B := B.trans (hbn.mono B.size)
      try replace r1 := r1.below hbn
      try replace p1 := p1.below hbn
      try replace u1 := u1.below hbn
      try replace r2 := r2.below hbn
      try replace r3 := r3.below hbn
      try replace od := od.below hbn
      try replace rc := rc.below hbn
      go_wp2
      go_roundw
      case rel => exact ⟨k + 1, _, _, _, _, _, by omega, by go_num, rfl, by first | exact HA.out | (rw [← HA.out, List.append_assoc, List.append_assoc]; rfl) | (rw [← HA.out, List.append_assoc]; rfl) | (rw [← HA.out]; simp), by first | omega | (simp; omega), by first | rfl | simp, B, by omega, r1, p1, u1, r2, r3, od⟩
      case measure => simp [intOf]; omega
   | false =>
    cases dd with
    | true =>
     rw [h3] at hacc
     simp at hacc
     have HA := Lib.hid hacc
     clear hacc
     go_wp2_with (first | (refine wpList_loadAny (t := 32) rfl _ rfl _ _ _ rfl (run_load_sl r1.cell0) (by rfl) ?_; simp only [putS]) | fail)
     refine wp_region_ov (by kernel_rfl) (by kernel_rfl) ?_
     repeat (first | go_big_quiet_skip | (go_big_quiet_want; first | (refine quiet_loadAny (t := 68) rfl _ _ _ rfl (fun w hw => run_load_B (ov_B p1 w hw) Tryz.isAgg68 (by kernel_rfl)) (by rfl) ?_; simp only [putS]; go_big_quiet_on) | (refine quiet_loadAny (t := 32) rfl _ _ _ rfl (fun w hw => run_load_sl (ov_B r1 w hw).cell0) (by rfl) ?_; simp only [putS]; go_big_quiet_on) | (refine quiet_loadAny (t := 68) rfl _ _ _ rfl (fun w hw => rc_pos (ov_rc rc w hw) hkl he) (by first | rfl | omega) ?_; simp only [putS]; go_big_quiet_on) | (go_big_quiet_op; first | go_big_quiet_on | go_big_quiet_call ((fail)))))
     refine wpQuiet_nil ?_
     intro wn hbn
     have hsz := B.size
     have hzn := hbn.size
     replace B := B.trans (hbn.mono B.size)
     try replace r1 := r1.below hbn
     try replace p1 := p1.below hbn
     try replace u1 := u1.below hbn
     try replace r2 := r2.below hbn
     try replace r3 := r3.below hbn
     try replace od := od.below hbn
     try replace rc := rc.below hbn
     go_wp2
     refine wp_region_ov (by kernel_rfl) (by kernel_rfl) ?_
     repeat (first | go_big_quiet_skip | (go_big_quiet_want; first | (refine quiet_loadAny (t := 68) rfl _ _ _ rfl (fun w hw => run_load_B (ov_B p1 w hw) Tryz.isAgg68 (by kernel_rfl)) (by rfl) ?_; simp only [putS]; go_big_quiet_on) | (refine quiet_loadAny (t := 32) rfl _ _ _ rfl (fun w hw => run_load_sl (ov_B r1 w hw).cell0) (by rfl) ?_; simp only [putS]; go_big_quiet_on) | (refine quiet_loadAny (t := 68) rfl _ _ _ rfl (fun w hw => rc_pos (ov_rc rc w hw) hkl he) (by first | rfl | omega) ?_; simp only [putS]; go_big_quiet_on) | (go_big_quiet_op; first | go_big_quiet_on | go_big_quiet_call ((fail)))))
     refine wpQuiet_nil ?_
     intro wn hbn
     have hsz := B.size
     have hzn := hbn.size
     replace B := B.trans (hbn.mono B.size)
     try replace r1 := r1.below hbn
     try replace p1 := p1.below hbn
     try replace u1 := u1.below hbn
     try replace r2 := r2.below hbn
     try replace r3 := r3.below hbn
     try replace od := od.below hbn
     try replace rc := rc.below hbn
     go_wp2
     refine wp_region_X 7 8 #[true, true, true, true, true, true, true, false, false, false, false] (by kernel_rfl) (by kernel_rfl) ?_
     simp only [List.length_cons, List.length_nil, Nat.reduceAdd, Nat.reduceSub, List.take_succ_cons, List.take_zero]
     repeat (first | go_big_quiet_skip | (go_big_quiet_want; first | (refine quiet_loadAny (t := 32) rfl _ _ _ rfl (fun w hw => run_load_sl (ov_B r3 w hw).cell0) (by rfl) ?_; simp only [putS]; go_big_quiet_on) | (refine quiet_loadAny (t := 32) rfl _ _ _ rfl (fun w hw => run_load_sl (ov_B r1 w hw).cell0) (by rfl) ?_; simp only [putS]; go_big_quiet_on) | (refine quiet_loadAny (t := 72) rfl _ _ _ rfl (fun w hw => rc_ta (ov_rc rc w hw) hkl he) (by first | rfl | omega) ?_; simp only [putS]; go_big_quiet_on) | (go_big_quiet_op; go_big_quiet_on)))
     refine wpQuiet_nil ?_
     intro wn hbn
     have hX := hbn
     have hsz := B.size
     have hzn := hbn.size
     replace B := B.trans (hbn.mono B.size)
     try replace r1 := r1.below hbn
     try replace p1 := p1.below hbn
     try replace u1 := u1.below hbn
     try replace r2 := r2.below hbn
     try replace r3 := r3.below hbn
     try replace od := od.below hbn
     try replace rc := rc.below hbn
     refine anyX_next 7 rfl (by kernel_rfl) rfl (fun K hK => ?_)
     try simp only [gelS]
     refine owp_bs1T _ rfl e (by rfl) ?_
     intro b_s1 wn hle hge ht hbn hzn
     have hsz := B.size
     have hsx := hX.size
     replace B := B.trans (hbn.mono (by omega))
     replace hX := hX.trans (hbn.mono (by omega))
     try first | (have hlt := r1.lt; replace r1 := r1.of_eq (hbn.block _ (by omega))) | replace r1 := r1.below (hbn.mono hle)
     try first | (have hlt := p1.lt; replace p1 := p1.of_eq (hbn.block _ (by omega))) | replace p1 := p1.below (hbn.mono hle)
     try first | (have hlt := u1.lt; replace u1 := u1.of_eq (hbn.block _ (by omega))) | replace u1 := u1.below (hbn.mono hle)
     try first | (have hlt := r2.lt; replace r2 := r2.of_eq (hbn.block _ (by omega))) | replace r2 := r2.below (hbn.mono hle)
     try first | (have hlt := r3.lt; replace r3 := r3.of_eq (hbn.block _ (by omega))) | replace r3 := r3.below (hbn.mono hle)
     try first | (have hlt := od.lt; replace od := od.of_eq (hbn.block _ (by omega))) | replace od := od.below (hbn.mono hle)
     try first | (have hlt := rc.lt; replace rc := rc.of_eq (hbn.block _ (by omega))) | replace rc := rc.below (hbn.mono hle)
     have s1 := ht
     clear ht
     refine hK _ _ ⟨fun _ => ⟨_, ov_of hX⟩, ?_⟩
     clear hK K
     try simp only [gelS]
     simp only [putS]
     refine anyX_seq (by kernel_rfl) (by kernel_rfl) ?_
     simp only [List.drop_succ_cons, List.drop_zero]
     go_wp2_with (first | (refine wpList_storeO rfl _ _ rfl _ rfl _ _ _ rfl r3 ?_; clear r3; intro wn ht hcn hzn; have hsz := B.size; replace hzn := Nat.le_of_eq hzn.symm; replace B := Chg.below B hcn (by omega) B.size; (try replace r1 := r1.of_eq (hcn.block _ r1.lt (by omega))); (try replace p1 := p1.of_eq (hcn.block _ p1.lt (by omega))); (try replace u1 := u1.of_eq (hcn.block _ u1.lt (by omega))); (try replace r2 := r2.of_eq (hcn.block _ r2.lt (by omega))); (try replace rc := rc.of_eq (hcn.block _ rc.lt (by omega))); replace od := od.chg hcn (by omega); have r3 := ht; clear ht; simp only [putS]) | (at_builtin; refine wpList_appendT rfl _ _ rfl _ _ rfl rfl od ((RS.one s1)) (by simp only [List.length_append, List.length_cons, List.length_nil]; omega) (by omega) ?_; intro v_od wn ht hbn; have hsz := B.size; have hzn := hbn.size; replace B := B.trans (hbn.mono (by omega)); clear od; (try replace r1 := r1.of_eq (hbn.block _ (by omega))); (try replace p1 := p1.of_eq (hbn.block _ (by omega))); (try replace u1 := u1.of_eq (hbn.block _ (by omega))); (try replace r2 := r2.of_eq (hbn.block _ (by omega))); (try replace r3 := r3.of_eq (hbn.block _ (by omega))); (try replace rc := rc.of_eq (hbn.block _ (by omega))); have od := ht; clear ht; obtain ⟨a_od, c_od, hv, hco⟩ := od.len; (try simp only [List.length_append, List.length_cons, List.length_nil, Nat.zero_add] at hv hco); subst hv; simp only [putS]) | (refine wpList_bs1T rfl _ rfl e (by rfl) ?_; intro b_s1 wn hle hge ht hbn hzn; have hsz := B.size; replace B := B.trans (hbn.mono (by omega)); have hln := Nat.lt_of_lt_of_eq (Nat.lt_succ_self _) hzn.symm; clear hzn; (try have hlt := r1.lt); (try replace r1 := r1.below (hbn.mono hle)); (try have hlt := p1.lt); (try replace p1 := p1.below (hbn.mono hle)); (try have hlt := u1.lt); (try replace u1 := u1.below (hbn.mono hle)); (try have hlt := r2.lt); (try replace r2 := r2.below (hbn.mono hle)); (try have hlt := r3.lt); (try replace r3 := r3.below (hbn.mono hle)); (try have hlt := od.lt); (try replace od := od.below (hbn.mono hle)); (try have hlt := rc.lt); (try replace rc := rc.below (hbn.mono hle)); have s1 := ht; clear ht; simp only [putS]) | fail)
     refine NoPan.normal ?_
     go_wp2
     go_roundw
     case rel => exact ⟨k + 1, _, _, _, _, _, by omega, by go_num, rfl, by first | exact HA.out | (rw [← HA.out, List.append_assoc, List.append_assoc]; rfl) | (rw [← HA.out, List.append_assoc]; rfl) | (rw [← HA.out]; simp), by first | omega | (simp; omega), by first | rfl | simp, B, by omega, r1, p1, u1, r2, r3, od⟩
     case measure => simp [intOf]; omega
    | false =>
     cases h4 : lessB x y e.x e.y with
     | true =>
      rw [h3, h4] at hacc
      simp at hacc
      have HA := Lib.hid hacc
      clear hacc
      go_wp2_with (first | (refine wpList_loadAny (t := 32) rfl _ rfl _ _ _ rfl (run_load_sl r1.cell0) (by rfl) ?_; simp only [putS]) | fail)
      refine wp_region_ov (by kernel_rfl) (by kernel_rfl) ?_
      repeat (first | go_big_quiet_skip | (go_big_quiet_want; first | (refine quiet_loadAny (t := 68) rfl _ _ _ rfl (fun w hw => run_load_B (ov_B p1 w hw) Tryz.isAgg68 (by kernel_rfl)) (by rfl) ?_; simp only [putS]; go_big_quiet_on) | (refine quiet_loadAny (t := 32) rfl _ _ _ rfl (fun w hw => run_load_sl (ov_B r1 w hw).cell0) (by rfl) ?_; simp only [putS]; go_big_quiet_on) | (refine quiet_loadAny (t := 68) rfl _ _ _ rfl (fun w hw => rc_pos (ov_rc rc w hw) hkl he) (by first | rfl | omega) ?_; simp only [putS]; go_big_quiet_on) | (go_big_quiet_op; first | go_big_quiet_on | go_big_quiet_call ((first | (go_at_call 121; exact calls_ov (R_less _ _ _ _ _)))))))
      refine wpQuiet_nil ?_
      intro wn hbn
      have hsz := B.size
      have hzn := hbn.size
      replace B := B.trans (hbn.mono B.size)
      try replace r1 := r1.below hbn
      try replace p1 := p1.below hbn
      try replace u1 := u1.below hbn
      try replace r2 := r2.below hbn
      try replace r3 := r3.below hbn
      try replace od := od.below hbn
      try replace rc := rc.below hbn
      go_wp2_with (first | (refine wpList_storeO rfl _ _ rfl _ rfl _ _ _ rfl r3 ?_; clear r3; intro wn ht hcn hzn; have hsz := B.size; replace hzn := Nat.le_of_eq hzn.symm; replace B := Chg.below B hcn (by omega) B.size; (try replace r1 := r1.of_eq (hcn.block _ r1.lt (by omega))); (try replace p1 := p1.of_eq (hcn.block _ p1.lt (by omega))); (try replace u1 := u1.of_eq (hcn.block _ u1.lt (by omega))); (try replace r2 := r2.of_eq (hcn.block _ r2.lt (by omega))); (try replace rc := rc.of_eq (hcn.block _ rc.lt (by omega))); replace od := od.chg hcn (by omega); have r3 := ht; clear ht; simp only [putS]) | (at_builtin; refine wpList_appendT rfl _ _ rfl _ _ rfl rfl od ((RS.one s1)) (by simp only [List.length_cons, List.length_nil]; omega) (by omega) ?_; intro v_od wn ht hbn; have hsz := B.size; have hzn := hbn.size; replace B := B.trans (hbn.mono (by omega)); clear od; (try replace r1 := r1.of_eq (hbn.block _ (by omega))); (try replace p1 := p1.of_eq (hbn.block _ (by omega))); (try replace u1 := u1.of_eq (hbn.block _ (by omega))); (try replace r2 := r2.of_eq (hbn.block _ (by omega))); (try replace r3 := r3.of_eq (hbn.block _ (by omega))); (try replace rc := rc.of_eq (hbn.block _ (by omega))); have od := ht; clear ht; obtain ⟨a_od, c_od, hv, hco⟩ := od.len; (try simp only [List.length_append, List.length_cons, List.length_nil, Nat.zero_add] at hv hco); subst hv; simp only [putS]) | (refine wpList_bs1T rfl _ rfl ⟨x, y, t⟩ (by rfl) ?_; intro b_s1 wn hle hge ht hbn hzn; have hsz := B.size; replace B := B.trans (hbn.mono (by omega)); have hln := Nat.lt_of_lt_of_eq (Nat.lt_succ_self _) hzn.symm; clear hzn; (try have hlt := r1.lt); (try replace r1 := r1.below (hbn.mono hle)); (try have hlt := p1.lt); (try replace p1 := p1.below (hbn.mono hle)); (try have hlt := u1.lt); (try replace u1 := u1.below (hbn.mono hle)); (try have hlt := r2.lt); (try replace r2 := r2.below (hbn.mono hle)); (try have hlt := r3.lt); (try replace r3 := r3.below (hbn.mono hle)); (try have hlt := od.lt); (try replace od := od.below (hbn.mono hle)); (try have hlt := rc.lt); (try replace rc := rc.below (hbn.mono hle)); have s1 := ht; clear ht; simp only [putS]) | (refine wpList_buildTA rfl _ _ rfl x y t (by rfl) (by rfl) ?_; simp only [putS]) | (refine wpList_loadT rfl _ rfl _ rfl u1 ?_; simp only [putS]) | (refine wpList_loadAny (t := 68) rfl _ rfl _ _ _ rfl (run_load_B p1 Tryz.isAgg68 (by kernel_rfl)) (by rfl) ?_; simp only [putS]) | (refine wpList_loadAny (t := 32) rfl _ rfl _ _ _ rfl (run_load_sl r3.cell0) (by rfl) ?_; simp only [putS]) | fail)
      refine wp_region_ov (by kernel_rfl) (by kernel_rfl) ?_
      repeat (first | go_big_quiet_skip | (go_big_quiet_want; first | (refine quiet_loadAny (t := 68) rfl _ _ _ rfl (fun w hw => run_load_B (ov_B p1 w hw) Tryz.isAgg68 (by kernel_rfl)) (by rfl) ?_; simp only [putS]; go_big_quiet_on) | (refine quiet_loadAny (t := 32) rfl _ _ _ rfl (fun w hw => run_load_sl (ov_B r1 w hw).cell0) (by rfl) ?_; simp only [putS]; go_big_quiet_on) | (refine quiet_loadAny (t := 68) rfl _ _ _ rfl (fun w hw => rc_pos (ov_rc rc w hw) hkl he) (by first | rfl | omega) ?_; simp only [putS]; go_big_quiet_on) | (go_big_quiet_op; first | go_big_quiet_on | go_big_quiet_call ((fail)))))
      refine wpQuiet_nil ?_
      intro wn hbn
      have hsz := B.size
      have hzn := hbn.size
      replace B := B.trans (hbn.mono B.size)
      try replace r1 := r1.below hbn
      try replace p1 := p1.below hbn
      try replace u1 := u1.below hbn
      try replace r2 := r2.below hbn
      try replace r3 := r3.below hbn
      try replace od := od.below hbn
      try replace rc := rc.below hbn
      go_wp2
      refine wp_region_X 7 8 #[true, true, true, true, true, true, true, false, false, false, false] (by kernel_rfl) (by kernel_rfl) ?_
      simp only [List.length_cons, List.length_nil, Nat.reduceAdd, Nat.reduceSub, List.take_succ_cons, List.take_zero]
      repeat (first | go_big_quiet_skip | (go_big_quiet_want; first | (refine quiet_loadAny (t := 32) rfl _ _ _ rfl (fun w hw => run_load_sl (ov_B r3 w hw).cell0) (by rfl) ?_; simp only [putS]; go_big_quiet_on) | (refine quiet_loadAny (t := 32) rfl _ _ _ rfl (fun w hw => run_load_sl (ov_B r1 w hw).cell0) (by rfl) ?_; simp only [putS]; go_big_quiet_on) | (refine quiet_loadAny (t := 72) rfl _ _ _ rfl (fun w hw => rc_ta (ov_rc rc w hw) hkl he) (by first | rfl | omega) ?_; simp only [putS]; go_big_quiet_on) | (go_big_quiet_op; go_big_quiet_on)))
      refine wpQuiet_nil ?_
      intro wn hbn
      have hX := hbn
      have hsz := B.size
      have hzn := hbn.size
      replace B := B.trans (hbn.mono B.size)
      try replace r1 := r1.below hbn
      try replace p1 := p1.below hbn
      try replace u1 := u1.below hbn
      try replace r2 := r2.below hbn
      try replace r3 := r3.below hbn
      try replace od := od.below hbn
      try replace rc := rc.below hbn
      refine anyX_next 7 rfl (by kernel_rfl) rfl (fun K hK => ?_)
      try simp only [gelS]
      refine owp_bs1T _ rfl e (by rfl) ?_
      intro b_s1 wn hle hge ht hbn hzn
      have hsz := B.size
      have hsx := hX.size
      replace B := B.trans (hbn.mono (by omega))
      replace hX := hX.trans (hbn.mono (by omega))
      try first | (have hlt := r1.lt; replace r1 := r1.of_eq (hbn.block _ (by omega))) | replace r1 := r1.below (hbn.mono hle)
      try first | (have hlt := p1.lt; replace p1 := p1.of_eq (hbn.block _ (by omega))) | replace p1 := p1.below (hbn.mono hle)
      try first | (have hlt := u1.lt; replace u1 := u1.of_eq (hbn.block _ (by omega))) | replace u1 := u1.below (hbn.mono hle)
      try first | (have hlt := r2.lt; replace r2 := r2.of_eq (hbn.block _ (by omega))) | replace r2 := r2.below (hbn.mono hle)
      try first | (have hlt := r3.lt; replace r3 := r3.of_eq (hbn.block _ (by omega))) | replace r3 := r3.below (hbn.mono hle)
      try first | (have hlt := od.lt; replace od := od.of_eq (hbn.block _ (by omega))) | replace od := od.below (hbn.mono hle)
      try first | (have hlt := rc.lt; replace rc := rc.of_eq (hbn.block _ (by omega))) | replace rc := rc.below (hbn.mono hle)
      have s1 := ht
      clear ht
      refine hK _ _ ⟨fun _ => ⟨_, ov_of hX⟩, ?_⟩
      clear hK K
      try simp only [gelS]
      simp only [putS]
      refine anyX_seq (by kernel_rfl) (by kernel_rfl) ?_
      simp only [List.drop_succ_cons, List.drop_zero]
      go_wp2_with (first | (refine wpList_storeO rfl _ _ rfl _ rfl _ _ _ rfl r3 ?_; clear r3; intro wn ht hcn hzn; have hsz := B.size; replace hzn := Nat.le_of_eq hzn.symm; replace B := Chg.below B hcn (by omega) B.size; (try replace r1 := r1.of_eq (hcn.block _ r1.lt (by omega))); (try replace p1 := p1.of_eq (hcn.block _ p1.lt (by omega))); (try replace u1 := u1.of_eq (hcn.block _ u1.lt (by omega))); (try replace r2 := r2.of_eq (hcn.block _ r2.lt (by omega))); (try replace rc := rc.of_eq (hcn.block _ rc.lt (by omega))); replace od := od.chg hcn (by omega); have r3 := ht; clear ht; simp only [putS]) | (at_builtin; refine wpList_appendT rfl _ _ rfl _ _ rfl rfl od ((RS.one s1)) (by simp only [List.length_append, List.length_cons, List.length_nil]; omega) (by omega) ?_; intro v_od wn ht hbn; have hsz := B.size; have hzn := hbn.size; replace B := B.trans (hbn.mono (by omega)); clear od; (try replace r1 := r1.of_eq (hbn.block _ (by omega))); (try replace p1 := p1.of_eq (hbn.block _ (by omega))); (try replace u1 := u1.of_eq (hbn.block _ (by omega))); (try replace r2 := r2.of_eq (hbn.block _ (by omega))); (try replace r3 := r3.of_eq (hbn.block _ (by omega))); (try replace rc := rc.of_eq (hbn.block _ (by omega))); have od := ht; clear ht; obtain ⟨a_od, c_od, hv, hco⟩ := od.len; (try simp only [List.length_append, List.length_cons, List.length_nil, Nat.zero_add] at hv hco); subst hv; simp only [putS]) | (refine wpList_bs1T rfl _ rfl e (by rfl) ?_; intro b_s1 wn hle hge ht hbn hzn; have hsz := B.size; replace B := B.trans (hbn.mono (by omega)); have hln := Nat.lt_of_lt_of_eq (Nat.lt_succ_self _) hzn.symm; clear hzn; (try have hlt := r1.lt); (try replace r1 := r1.below (hbn.mono hle)); (try have hlt := p1.lt); (try replace p1 := p1.below (hbn.mono hle)); (try have hlt := u1.lt); (try replace u1 := u1.below (hbn.mono hle)); (try have hlt := r2.lt); (try replace r2 := r2.below (hbn.mono hle)); (try have hlt := r3.lt); (try replace r3 := r3.below (hbn.mono hle)); (try have hlt := od.lt); (try replace od := od.below (hbn.mono hle)); (try have hlt := rc.lt); (try replace rc := rc.below (hbn.mono hle)); have s1 := ht; clear ht; simp only [putS]) | fail)
      refine NoPan.normal ?_
      go_wp2
      go_roundw
      case rel => exact ⟨k + 1, _, _, _, _, _, by omega, by go_num, rfl, by first | exact HA.out | (rw [← HA.out, List.append_assoc, List.append_assoc]; rfl) | (rw [← HA.out, List.append_assoc]; rfl) | (rw [← HA.out]; simp), by first | omega | (simp; omega), by first | rfl | simp, B, by omega, r1, p1, u1, r2, r3, od⟩
      case measure => simp [intOf]; omega
     | false =>
      rw [h3, h4] at hacc
      simp at hacc
      have HA := Lib.hid hacc
      clear hacc
      go_wp2_with (first | (refine wpList_loadAny (t := 32) rfl _ rfl _ _ _ rfl (run_load_sl r1.cell0) (by rfl) ?_; simp only [putS]) | fail)
      refine wp_region_ov (by kernel_rfl) (by kernel_rfl) ?_
      repeat (first | go_big_quiet_skip | (go_big_quiet_want; first | (refine quiet_loadAny (t := 68) rfl _ _ _ rfl (fun w hw => run_load_B (ov_B p1 w hw) Tryz.isAgg68 (by kernel_rfl)) (by rfl) ?_; simp only [putS]; go_big_quiet_on) | (refine quiet_loadAny (t := 32) rfl _ _ _ rfl (fun w hw => run_load_sl (ov_B r1 w hw).cell0) (by rfl) ?_; simp only [putS]; go_big_quiet_on) | (refine quiet_loadAny (t := 68) rfl _ _ _ rfl (fun w hw => rc_pos (ov_rc rc w hw) hkl he) (by first | rfl | omega) ?_; simp only [putS]; go_big_quiet_on) | (go_big_quiet_op; first | go_big_quiet_on | go_big_quiet_call ((first | (go_at_call 121; exact calls_ov (R_less _ _ _ _ _)))))))
      refine wpQuiet_nil ?_
      intro wn hbn
      have hsz := B.size
      have hzn := hbn.size
      replace B := B.trans (hbn.mono B.size)
      try replace r1 := r1.below hbn
      try replace p1 := p1.below hbn
      try replace u1 := u1.below hbn
      try replace r2 := r2.below hbn
      try replace r3 := r3.below hbn
      try replace od := od.below hbn
      try replace rc := rc.below hbn
      go_wp2
      refine wp_region_ov (by kernel_rfl) (by kernel_rfl) ?_
      repeat (first | go_big_quiet_skip | (go_big_quiet_want; first | (refine quiet_loadAny (t := 68) rfl _ _ _ rfl (fun w hw => run_load_B (ov_B p1 w hw) Tryz.isAgg68 (by kernel_rfl)) (by rfl) ?_; simp only [putS]; go_big_quiet_on) | (refine quiet_loadAny (t := 32) rfl _ _ _ rfl (fun w hw => run_load_sl (ov_B r1 w hw).cell0) (by rfl) ?_; simp only [putS]; go_big_quiet_on) | (refine quiet_loadAny (t := 68) rfl _ _ _ rfl (fun w hw => rc_pos (ov_rc rc w hw) hkl he) (by first | rfl | omega) ?_; simp only [putS]; go_big_quiet_on) | (go_big_quiet_op; first | go_big_quiet_on | go_big_quiet_call ((fail)))))
      refine wpQuiet_nil ?_
      intro wn hbn
      have hsz := B.size
      have hzn := hbn.size
      replace B := B.trans (hbn.mono B.size)
      try replace r1 := r1.below hbn
      try replace p1 := p1.below hbn
      try replace u1 := u1.below hbn
      try replace r2 := r2.below hbn
      try replace r3 := r3.below hbn
      try replace od := od.below hbn
      try replace rc := rc.below hbn
      go_wp2
      refine wp_region_X 7 8 #[true, true, true, true, true, true, true, false, false, false, false] (by kernel_rfl) (by kernel_rfl) ?_
      simp only [List.length_cons, List.length_nil, Nat.reduceAdd, Nat.reduceSub, List.take_succ_cons, List.take_zero]
      repeat (first | go_big_quiet_skip | (go_big_quiet_want; first | (refine quiet_loadAny (t := 32) rfl _ _ _ rfl (fun w hw => run_load_sl (ov_B r3 w hw).cell0) (by rfl) ?_; simp only [putS]; go_big_quiet_on) | (refine quiet_loadAny (t := 32) rfl _ _ _ rfl (fun w hw => run_load_sl (ov_B r1 w hw).cell0) (by rfl) ?_; simp only [putS]; go_big_quiet_on) | (refine quiet_loadAny (t := 72) rfl _ _ _ rfl (fun w hw => rc_ta (ov_rc rc w hw) hkl he) (by first | rfl | omega) ?_; simp only [putS]; go_big_quiet_on) | (go_big_quiet_op; go_big_quiet_on)))
      refine wpQuiet_nil ?_
      intro wn hbn
      have hX := hbn
      have hsz := B.size
      have hzn := hbn.size
      replace B := B.trans (hbn.mono B.size)
      try replace r1 := r1.below hbn
      try replace p1 := p1.below hbn
      try replace u1 := u1.below hbn
      try replace r2 := r2.below hbn
      try replace r3 := r3.below hbn
      try replace od := od.below hbn
      try replace rc := rc.below hbn
      refine anyX_next 7 rfl (by kernel_rfl) rfl (fun K hK => ?_)
      try simp only [gelS]
      refine owp_bs1T _ rfl e (by rfl) ?_
      intro b_s1 wn hle hge ht hbn hzn
      have hsz := B.size
      have hsx := hX.size
      replace B := B.trans (hbn.mono (by omega))
      replace hX := hX.trans (hbn.mono (by omega))
      try first | (have hlt := r1.lt; replace r1 := r1.of_eq (hbn.block _ (by omega))) | replace r1 := r1.below (hbn.mono hle)
      try first | (have hlt := p1.lt; replace p1 := p1.of_eq (hbn.block _ (by omega))) | replace p1 := p1.below (hbn.mono hle)
      try first | (have hlt := u1.lt; replace u1 := u1.of_eq (hbn.block _ (by omega))) | replace u1 := u1.below (hbn.mono hle)
      try first | (have hlt := r2.lt; replace r2 := r2.of_eq (hbn.block _ (by omega))) | replace r2 := r2.below (hbn.mono hle)
      try first | (have hlt := r3.lt; replace r3 := r3.of_eq (hbn.block _ (by omega))) | replace r3 := r3.below (hbn.mono hle)
      try first | (have hlt := od.lt; replace od := od.of_eq (hbn.block _ (by omega))) | replace od := od.below (hbn.mono hle)
      try first | (have hlt := rc.lt; replace rc := rc.of_eq (hbn.block _ (by omega))) | replace rc := rc.below (hbn.mono hle)
      have s1 := ht
      clear ht
      refine hK _ _ ⟨fun _ => ⟨_, ov_of hX⟩, ?_⟩
      clear hK K
      try simp only [gelS]
      simp only [putS]
      refine anyX_seq (by kernel_rfl) (by kernel_rfl) ?_
      simp only [List.drop_succ_cons, List.drop_zero]
      go_wp2_with (first | (refine wpList_storeO rfl _ _ rfl _ rfl _ _ _ rfl r3 ?_; clear r3; intro wn ht hcn hzn; have hsz := B.size; replace hzn := Nat.le_of_eq hzn.symm; replace B := Chg.below B hcn (by omega) B.size; (try replace r1 := r1.of_eq (hcn.block _ r1.lt (by omega))); (try replace p1 := p1.of_eq (hcn.block _ p1.lt (by omega))); (try replace u1 := u1.of_eq (hcn.block _ u1.lt (by omega))); (try replace r2 := r2.of_eq (hcn.block _ r2.lt (by omega))); replace od := od.chg hcn (by omega); have r3 := ht; clear ht; simp only [putS]) | (at_builtin; refine wpList_appendT rfl _ _ rfl _ _ rfl rfl od ((RS.one s1)) (by simp only [List.length_append, List.length_cons, List.length_nil]; omega) (by omega) ?_; intro v_od wn ht hbn; have hsz := B.size; have hzn := hbn.size; replace B := B.trans (hbn.mono (by omega)); clear od; (try replace r1 := r1.of_eq (hbn.block _ (by omega))); (try replace p1 := p1.of_eq (hbn.block _ (by omega))); (try replace u1 := u1.of_eq (hbn.block _ (by omega))); (try replace r2 := r2.of_eq (hbn.block _ (by omega))); (try replace r3 := r3.of_eq (hbn.block _ (by omega))); have od := ht; clear ht; obtain ⟨a_od, c_od, hv, hco⟩ := od.len; (try simp only [List.length_append, List.length_cons, List.length_nil, Nat.zero_add] at hv hco); subst hv; simp only [putS]) | (refine wpList_bs1T rfl _ rfl e (by rfl) ?_; intro b_s1 wn hle hge ht hbn hzn; have hsz := B.size; replace B := B.trans (hbn.mono (by omega)); have hln := Nat.lt_of_lt_of_eq (Nat.lt_succ_self _) hzn.symm; clear hzn; (try have hlt := r1.lt); (try replace r1 := r1.below (hbn.mono hle)); (try have hlt := p1.lt); (try replace p1 := p1.below (hbn.mono hle)); (try have hlt := u1.lt); (try replace u1 := u1.below (hbn.mono hle)); (try have hlt := r2.lt); (try replace r2 := r2.below (hbn.mono hle)); (try have hlt := r3.lt); (try replace r3 := r3.below (hbn.mono hle)); (try have hlt := od.lt); (try replace od := od.below (hbn.mono hle)); (try have hlt := rc.lt); have s1 := ht; clear ht; simp only [putS]) | fail)
      refine NoPan.normal ?_
      go_wp2
      go_roundw
      case rel => exact ⟨k + 1, _, _, _, _, _, by omega, by go_num, rfl, by first | exact HA.out | (rw [← HA.out, List.append_assoc, List.append_assoc]; rfl) | (rw [← HA.out, List.append_assoc]; rfl) | (rw [← HA.out]; simp), by first | omega | (simp; omega), by first | rfl | simp, B, by omega, r1, p1, u1, r2, r3, od⟩
      case measure => simp [intOf]; omega
  ·obtain rfl : k = ls.length := by omega
   rw [List.drop_length] at hacc
   unfold rputL at hacc
   cases dd with
   | true =>
    simp at hacc
    have HA := Lib.hid hacc
    clear hacc
    go_wp2_with (first | (refine wpList_storeB (t := 34) rfl _ _ rfl _ rfl _ rfl r2 (by kernel_rfl) rfl (by simp [Value.oneCell']) ?_; clear r2; intro wn ht hcn hzn; have hsz := B.size; replace hzn := Nat.le_of_eq hzn.symm; replace B := Chg.below B hcn (by omega) B.size; (try replace r1 := r1.of_eq (hcn.block _ r1.lt (by omega))); (try replace p1 := p1.of_eq (hcn.block _ p1.lt (by omega))); (try replace u1 := u1.of_eq (hcn.block _ u1.lt (by omega))); (try replace r3 := r3.of_eq (hcn.block _ r3.lt (by omega))); (try replace od := od.of_eq (hcn.block _ od.lt (by omega))); replace od := od.chg hcn (by omega); have r2 := ht; clear ht; simp only [putS]) | (refine wpList_loadAny (t := 34) rfl _ rfl _ _ _ rfl (run_load_B r3 Tryz.isAgg34 (by kernel_rfl)) (by rfl) ?_; simp only [putS]) | (refine wpList_loadAny (t := 32) rfl _ rfl _ _ _ rfl (run_load_sl r1.cell0) (by rfl) ?_; simp only [putS]) | fail)
    refine bodyPost_ret (results_B (t := 34) rfl _ _ (b_r2) rfl r2 Tryz.isAgg34 (by kernel_rfl)) rfl ?_
    exact ⟨_, rfl, by rw [← HA.out]; exact od.rs, B⟩
   | false =>
    simp at hacc
    have HA := Lib.hid hacc
    clear hacc
    go_wp2_with (first | (refine wpList_storeB (t := 34) rfl _ _ rfl _ rfl _ rfl r2 (by kernel_rfl) rfl (by simp [Value.oneCell']) ?_; clear r2; intro wn ht hcn hzn; have hsz := B.size; replace hzn := Nat.le_of_eq hzn.symm; replace B := Chg.below B hcn (by omega) B.size; (try replace r1 := r1.of_eq (hcn.block _ r1.lt (by omega))); (try replace p1 := p1.of_eq (hcn.block _ p1.lt (by omega))); (try replace u1 := u1.of_eq (hcn.block _ u1.lt (by omega))); (try replace r3 := r3.of_eq (hcn.block _ r3.lt (by omega))); (try replace od := od.of_eq (hcn.block _ od.lt (by omega))); replace od := od.chg hcn (by omega); have r2 := ht; clear ht; simp only [putS]) | (refine wpList_loadAny (t := 34) rfl _ rfl _ _ _ rfl (run_load_B r3 Tryz.isAgg34 (by kernel_rfl)) (by rfl) ?_; simp only [putS]) | (refine wpList_storeO rfl _ _ rfl _ rfl _ _ _ rfl r3 ?_; clear r3; intro wn ht hcn hzn; have hsz := B.size; replace hzn := Nat.le_of_eq hzn.symm; replace B := Chg.below B hcn (by omega) B.size; (try replace r1 := r1.of_eq (hcn.block _ r1.lt (by omega))); (try replace p1 := p1.of_eq (hcn.block _ p1.lt (by omega))); (try replace u1 := u1.of_eq (hcn.block _ u1.lt (by omega))); (try replace r2 := r2.of_eq (hcn.block _ r2.lt (by omega))); replace od := od.chg hcn (by omega); have r3 := ht; clear ht; simp only [putS]) | (at_builtin; refine wpList_appendT rfl _ _ rfl _ _ rfl rfl od ((RS.one s1)) (by simp only [List.length_cons, List.length_nil]; omega) (by omega) ?_; intro v_od wn ht hbn; have hsz := B.size; have hzn := hbn.size; replace B := B.trans (hbn.mono (by omega)); clear od; (try replace r1 := r1.of_eq (hbn.block _ (by omega))); (try replace p1 := p1.of_eq (hbn.block _ (by omega))); (try replace u1 := u1.of_eq (hbn.block _ (by omega))); (try replace r2 := r2.of_eq (hbn.block _ (by omega))); (try replace r3 := r3.of_eq (hbn.block _ (by omega))); have od := ht; clear ht; obtain ⟨a_od, c_od, hv, hco⟩ := od.len; (try simp only [List.length_append, List.length_cons, List.length_nil, Nat.zero_add] at hv hco); subst hv; simp only [putS]) | (refine wpList_bs1T rfl _ rfl ⟨x, y, t⟩ (by rfl) ?_; intro b_s1 wn hle hge ht hbn hzn; have hsz := B.size; replace B := B.trans (hbn.mono (by omega)); have hln := Nat.lt_of_lt_of_eq (Nat.lt_succ_self _) hzn.symm; clear hzn; (try have hlt := r1.lt); (try replace r1 := r1.below (hbn.mono hle)); (try have hlt := p1.lt); (try replace p1 := p1.below (hbn.mono hle)); (try have hlt := u1.lt); (try replace u1 := u1.below (hbn.mono hle)); (try have hlt := r2.lt); (try replace r2 := r2.below (hbn.mono hle)); (try have hlt := r3.lt); (try replace r3 := r3.below (hbn.mono hle)); (try have hlt := od.lt); (try replace od := od.below (hbn.mono hle)); (try have hlt := rc.lt); have s1 := ht; clear ht; simp only [putS]) | (refine wpList_buildTA rfl _ _ rfl x y t (by rfl) (by rfl) ?_; simp only [putS]) | (refine wpList_loadT rfl _ rfl _ rfl u1 ?_; simp only [putS]) | (refine wpList_loadAny (t := 68) rfl _ rfl _ _ _ rfl (run_load_B p1 Tryz.isAgg68 (by kernel_rfl)) (by rfl) ?_; simp only [putS]) | (refine wpList_loadAny (t := 32) rfl _ rfl _ _ _ rfl (run_load_sl r3.cell0) (by rfl) ?_; simp only [putS]) | (refine wpList_loadAny (t := 32) rfl _ rfl _ _ _ rfl (run_load_sl r1.cell0) (by rfl) ?_; simp only [putS]) | fail)
    refine bodyPost_ret (results_B (t := 34) rfl _ _ (b_r2) rfl r2 Tryz.isAgg34 (by kernel_rfl)) rfl ?_
    exact ⟨_, rfl, by rw [← HA.out]; exact od.rs, B⟩
/- Contracts of the reference's Get, Put, Set; of equal, Equal. -/
section
variable {o : Oper} {a : Act} {w : World} {Q : Exit → Act → World → Prop} {K : Act → World → Prop}
theorem owp_allocTb (ho : o.op = .alloc 70)
  (h : ∀ b w', w.heap.size ≤ b → b ≤ w.heap.size → TileAt w' b (fun _ => Px.zero) → Below b w w' → w'.heap.size = b + 1 → K (a.put o.dst (.pointer (some ⟨b, 0, none⟩))) w') : o.wp Tryz.prog a w K Q := by
 unfold Oper.wp
 rw [run_alloc_tile w o ho]
 exact h _ _ (Nat.le_refl _) (Nat.le_refl _) (by unfold TileAt; rw [heap_get_alloc, if_pos rfl]) ((Below.refl _ _).alloc (Nat.le_refl _) _) (World.size_alloc _ _)
theorem owp_allocBk {t : TypeId} (cs : Array Value) (hrun : ∀ ev, (execOp ev o).run Tryz.prog w = .ok (.value (.pointer (some ⟨w.heap.size, 0, none⟩))) (w.alloc (.cells cs t)))
  (h : ∀ b w', w.heap.size ≤ b → b ≤ w.heap.size → AtB t w' b cs → Below b w w' → w'.heap.size = b + 1 → K (a.put o.dst (.pointer (some ⟨b, 0, none⟩))) w') : o.wp Tryz.prog a w K Q := by
 unfold Oper.wp
 rw [hrun]
 exact h _ _ (Nat.le_refl _) (Nat.le_refl _) (by unfold AtB; rw [heap_get_alloc, if_pos rfl]) ((Below.refl _ _).alloc (Nat.le_refl _) _) (World.size_alloc _ _)
end
set_option maxHeartbeats 1000000 in
theorem R_PutR (v : Value) (ls : List TA) (x y : Int) (t : Nat → Px) (w : World) (h : RS v ls w) (tk : TokL ls) (hn : ls.length ≤ maxLen) (ht : Tok t) : Calls Tryz.prog 72 #[.agg #[v], .agg #[.int .i64 x, .int .i64 y], Tile.v t] w fun e w' => ∃ v', e = .returned (.agg #[v', .int .i64 (putE ls x y t)]) ∧ RS v' (putR ls x y t) w' ∧ Below w.heap.size w w' := by
 have B := Below.refl w.heap.size w
 obtain ⟨a', c', hT⟩ := R_Of v ls w h tk hn
 have HT := Lib.hid hT
 clear hT
 obtain ⟨a, c, rfl, hc⟩ := h.len
 cases hw : withinB x y with
 | false =>
  have e1 : putE ls x y t = 1 := by unfold putE; rw [hw]; rfl
  have e2 : putR ls x y t = [] := by unfold putR; rw [hw]; rfl
  rw [e1, e2]
  clear e1 e2
  go_enter Tryz.func72, Tryz.ntmps72
  go_wp2_with (first | (refine wpList_storeB (t := 63) rfl _ _ rfl _ rfl _ rfl g2 (by kernel_rfl) rfl (by simp [Value.oneCell']) ?_; clear g2; intro wn ht hcn hzn; have hsz := B.size; replace hzn := Nat.le_of_eq hzn.symm; replace B := Chg.below B hcn (by omega) B.size; (try replace r1 := r1.of_eq (hcn.block _ r1.lt (by omega))); (try replace p1 := p1.of_eq (hcn.block _ p1.lt (by omega))); (try replace u1 := u1.of_eq (hcn.block _ u1.lt (by omega))); have g2 := ht; clear ht; simp only [putS]) | (go_at_call 111; refine (R_within x y _).mono ?_; rintro e wn ⟨rfl, hbn⟩; have hsz := B.size; have hzn := hbn.size; replace B := B.trans (hbn.mono B.size); (try replace r1 := r1.below hbn); (try replace p1 := p1.below hbn); (try replace u1 := u1.below hbn); (try replace g2 := g2.below hbn)) | (refine wpList_loadAny (t := 68) rfl _ rfl _ _ _ rfl (run_load_B p1 Tryz.isAgg68 (by kernel_rfl)) (by rfl) ?_; simp only [putS]) | (have _ := u1; refine wpList_allocBk (t := 63) rfl _ (run_alloc_G _ _ rfl) ?_; intro b_g2 wn hle hge ht hbn hzn; have hsz := B.size; replace B := B.trans (hbn.mono (by omega)); have hln := Nat.lt_of_lt_of_eq (Nat.lt_succ_self _) hzn.symm; clear hzn; (try have hlt := r1.lt); (try replace r1 := r1.below (hbn.mono hle)); (try have hlt := p1.lt); (try replace p1 := p1.below (hbn.mono hle)); (try have hlt := u1.lt); (try replace u1 := u1.below (hbn.mono hle)); (try have hlt := g2.lt); (try replace g2 := g2.below (hbn.mono hle)); have g2 := ht; clear ht; simp only [putS]) | (have _ := p1; refine wpList_boxT' rfl _ rfl _ rfl ?_; intro b_u1 wn hle hge ht hbn hzn; have hsz := B.size; replace B := B.trans (hbn.mono (by omega)); have hln := Nat.lt_of_lt_of_eq (Nat.lt_succ_self _) hzn.symm; clear hzn; (try have hlt := r1.lt); (try replace r1 := r1.below (hbn.mono hle)); (try have hlt := p1.lt); (try replace p1 := p1.below (hbn.mono hle)); (try have hlt := u1.lt); (try replace u1 := u1.below (hbn.mono hle)); (try have hlt := g2.lt); (try replace g2 := g2.below (hbn.mono hle)); have u1 := ht; clear ht; simp only [putS]) | (have _ := r1; refine wpList_boxB (t := 68) rfl _ rfl _ rfl ?_; intro b_p1 wn hle hge ht hbn hzn; have hsz := B.size; replace B := B.trans (hbn.mono (by omega)); have hln := Nat.lt_of_lt_of_eq (Nat.lt_succ_self _) hzn.symm; clear hzn; (try have hlt := r1.lt); (try replace r1 := r1.below (hbn.mono hle)); (try have hlt := p1.lt); (try replace p1 := p1.below (hbn.mono hle)); (try have hlt := u1.lt); (try replace u1 := u1.below (hbn.mono hle)); (try have hlt := g2.lt); (try replace g2 := g2.below (hbn.mono hle)); have p1 := ht; clear ht; simp only [putS]) | (refine wpList_boxB (t := 34) rfl _ rfl _ rfl ?_; intro b_r1 wn hle hge ht hbn hzn; have hsz := B.size; replace B := B.trans (hbn.mono (by omega)); have hln := Nat.lt_of_lt_of_eq (Nat.lt_succ_self _) hzn.symm; clear hzn; (try have hlt := r1.lt); (try replace r1 := r1.below (hbn.mono hle)); (try have hlt := p1.lt); (try replace p1 := p1.below (hbn.mono hle)); (try have hlt := u1.lt); (try replace u1 := u1.below (hbn.mono hle)); (try have hlt := g2.lt); (try replace g2 := g2.below (hbn.mono hle)); have r1 := ht; clear ht; simp only [putS]) | fail)
  refine bodyPost_ret (results_B (t := 63) rfl _ _ (b_g2) rfl g2 Tryz.isAgg63 (by kernel_rfl)) rfl ?_
  exact ⟨_, rfl, RS.nil _, B⟩
 | true =>
  have SR := Lib.hid (validL_srt (fineL_valid ls))
  have CT : Hid (Tok (cleanT t)) := Lib.hid (fun i hi => cleanP_ok (ht i hi))
  have hfl := fineL_length ls
  have hpl := putL_length (fineL ls) x y (cleanT t)
  by_cases hm : (putL (fineL ls) x y (cleanT t)).length ≤ 1024
  ·have e1 : putE ls x y t = 0 := by unfold putE manyE; rw [hw, if_pos rfl, if_pos hm]
   have e2 := Lib.hid (show putR ls x y t = putL (fineL ls) x y (cleanT t) by unfold putR manyL; rw [hw, if_pos rfl, if_pos hm])
   rw [e1]
   clear e1
   go_enter Tryz.func72, Tryz.ntmps72
   go_wp2_with (first | (go_at_call 111; refine (R_within x y _).mono ?_; rintro e wn ⟨rfl, hbn⟩; have hsz := B.size; have hzn := hbn.size; replace B := B.trans (hbn.mono B.size); (try replace r1 := r1.below hbn); (try replace p1 := p1.below hbn); (try replace u1 := u1.below hbn); (try replace g2 := g2.below hbn)) | (refine wpList_loadAny (t := 68) rfl _ rfl _ _ _ rfl (run_load_B p1 Tryz.isAgg68 (by kernel_rfl)) (by rfl) ?_; simp only [putS]) | (have _ := u1; refine wpList_allocBk (t := 63) rfl _ (run_alloc_G _ _ rfl) ?_; intro b_g2 wn hle hge ht hbn hzn; have hsz := B.size; replace B := B.trans (hbn.mono (by omega)); have hln := Nat.lt_of_lt_of_eq (Nat.lt_succ_self _) hzn.symm; clear hzn; (try have hlt := r1.lt); (try replace r1 := r1.below (hbn.mono hle)); (try have hlt := p1.lt); (try replace p1 := p1.below (hbn.mono hle)); (try have hlt := u1.lt); (try replace u1 := u1.below (hbn.mono hle)); (try have hlt := g2.lt); (try replace g2 := g2.below (hbn.mono hle)); have g2 := ht; clear ht; simp only [putS]) | (have _ := p1; refine wpList_boxT' rfl _ rfl _ rfl ?_; intro b_u1 wn hle hge ht hbn hzn; have hsz := B.size; replace B := B.trans (hbn.mono (by omega)); have hln := Nat.lt_of_lt_of_eq (Nat.lt_succ_self _) hzn.symm; clear hzn; (try have hlt := r1.lt); (try replace r1 := r1.below (hbn.mono hle)); (try have hlt := p1.lt); (try replace p1 := p1.below (hbn.mono hle)); (try have hlt := u1.lt); (try replace u1 := u1.below (hbn.mono hle)); (try have hlt := g2.lt); (try replace g2 := g2.below (hbn.mono hle)); have u1 := ht; clear ht; simp only [putS]) | (have _ := r1; refine wpList_boxB (t := 68) rfl _ rfl _ rfl ?_; intro b_p1 wn hle hge ht hbn hzn; have hsz := B.size; replace B := B.trans (hbn.mono (by omega)); have hln := Nat.lt_of_lt_of_eq (Nat.lt_succ_self _) hzn.symm; clear hzn; (try have hlt := r1.lt); (try replace r1 := r1.below (hbn.mono hle)); (try have hlt := p1.lt); (try replace p1 := p1.below (hbn.mono hle)); (try have hlt := u1.lt); (try replace u1 := u1.below (hbn.mono hle)); (try have hlt := g2.lt); (try replace g2 := g2.below (hbn.mono hle)); have p1 := ht; clear ht; simp only [putS]) | (refine wpList_boxB (t := 34) rfl _ rfl _ rfl ?_; intro b_r1 wn hle hge ht hbn hzn; have hsz := B.size; replace B := B.trans (hbn.mono (by omega)); have hln := Nat.lt_of_lt_of_eq (Nat.lt_succ_self _) hzn.symm; clear hzn; (try have hlt := r1.lt); (try replace r1 := r1.below (hbn.mono hle)); (try have hlt := p1.lt); (try replace p1 := p1.below (hbn.mono hle)); (try have hlt := u1.lt); (try replace u1 := u1.below (hbn.mono hle)); (try have hlt := g2.lt); (try replace g2 := g2.below (hbn.mono hle)); have r1 := ht; clear ht; simp only [putS]) | fail)
   refine wp_region_ov_tail 4 (by kernel_rfl) (by kernel_rfl) ?_
   simp only [List.take_succ_cons, List.take_zero, List.drop_succ_cons, List.drop_zero]
   repeat (first | go_big_quiet_skip | (go_big_quiet_want; first | (refine quiet_loadAny (t := 34) rfl _ _ _ rfl (fun w hw => run_load_B (ov_B r1 w hw) Tryz.isAgg34 (by kernel_rfl)) (by rfl) ?_; simp only [putS]; go_big_quiet_on) | (refine quiet_loadAny (t := 68) rfl _ _ _ rfl (fun w hw => run_load_B (ov_B p1 w hw) Tryz.isAgg68 (by kernel_rfl)) (by rfl) ?_; simp only [putS]; go_big_quiet_on) | (refine quiet_loadT rfl _ rfl (ov_tile u1) ?_; simp only [putS]; go_big_quiet_on) | (go_big_quiet_op; first | go_big_quiet_on | go_big_quiet_call ((first | (go_at_call 40; exact calls_ov (HT.out _ (below_ov B B.size _)).1))))))
   refine wpQuiet_nil ?_
   intro wn hbn
   have hsz := B.size
   have hzn := hbn.size
   replace B := B.trans (hbn.mono B.size)
   try replace r1 := r1.below hbn
   try replace p1 := p1.below hbn
   try replace u1 := u1.below hbn
   try replace g2 := g2.below hbn
   go_wp2_with (first | (refine wpList_storeB (t := 63) rfl _ _ rfl _ rfl _ rfl g2 (by kernel_rfl) rfl (by simp [Value.oneCell']) ?_; have g2o := g2; clear g2; intro wn ht hcn hzn; replace rs1 := rs1.chg g2o (by simp) hcn; have hsz := B.size; replace hzn := Nat.le_of_eq hzn.symm; replace B := Chg.below B hcn (by omega) B.size; (try replace r1 := r1.of_eq (hcn.block _ r1.lt (by omega))); (try replace p1 := p1.of_eq (hcn.block _ p1.lt (by omega))); (try replace u1 := u1.of_eq (hcn.block _ u1.lt (by omega))); have g2 := ht; clear ht; simp only [putS]) | (go_at_call 112; refine (R_many _ _ _ _ (by unfold maxLen; omega)).mono ?_; rintro e wn ⟨rfl, hbn⟩; rw [if_pos hm]; have hsz := B.size; have hzn := hbn.size; replace B := B.trans (hbn.mono B.size); (try replace r1 := r1.below hbn); (try replace p1 := p1.below hbn); (try replace u1 := u1.below hbn); (try replace g2 := g2.below hbn); (try replace rs1 := rs1.below hbn)) | (go_at_call 113; refine (R_put _ (fineL ls) x y t (cleanT t) _ (HT.out _ B).2 SR.out ht rfl (by omega)).mono ?_; rintro e wn ⟨v1, rfl, rs1, hbn⟩; obtain ⟨a1, c1, rfl, hc1⟩ := rs1.len; have hsz := B.size; have hzn := hbn.size; replace B := B.trans (hbn.mono B.size); (try replace r1 := r1.below hbn); (try replace p1 := p1.below hbn); (try replace u1 := u1.below hbn); (try replace g2 := g2.below hbn)) | fail)
   refine bodyPost_ret (results_B (t := 63) rfl _ _ (b_g2) rfl g2 Tryz.isAgg63 (by kernel_rfl)) rfl ?_
   exact ⟨_, rfl, by rw [e2.out]; exact rs1, B⟩
  ·have e1 : putE ls x y t = 2 := by unfold putE manyE; rw [hw, if_pos rfl, if_neg hm]
   have e2 := Lib.hid (show putR ls x y t = [] by unfold putR manyL; rw [hw, if_pos rfl, if_neg hm])
   rw [e1]
   clear e1
   go_enter Tryz.func72, Tryz.ntmps72
   go_wp2_with (first | (go_at_call 111; refine (R_within x y _).mono ?_; rintro e wn ⟨rfl, hbn⟩; have hsz := B.size; have hzn := hbn.size; replace B := B.trans (hbn.mono B.size); (try replace r1 := r1.below hbn); (try replace p1 := p1.below hbn); (try replace u1 := u1.below hbn); (try replace g2 := g2.below hbn)) | (refine wpList_loadAny (t := 68) rfl _ rfl _ _ _ rfl (run_load_B p1 Tryz.isAgg68 (by kernel_rfl)) (by rfl) ?_; simp only [putS]) | (have _ := u1; refine wpList_allocBk (t := 63) rfl _ (run_alloc_G _ _ rfl) ?_; intro b_g2 wn hle hge ht hbn hzn; have hsz := B.size; replace B := B.trans (hbn.mono (by omega)); have hln := Nat.lt_of_lt_of_eq (Nat.lt_succ_self _) hzn.symm; clear hzn; (try have hlt := r1.lt); (try replace r1 := r1.below (hbn.mono hle)); (try have hlt := p1.lt); (try replace p1 := p1.below (hbn.mono hle)); (try have hlt := u1.lt); (try replace u1 := u1.below (hbn.mono hle)); (try have hlt := g2.lt); (try replace g2 := g2.below (hbn.mono hle)); have g2 := ht; clear ht; simp only [putS]) | (have _ := p1; refine wpList_boxT' rfl _ rfl _ rfl ?_; intro b_u1 wn hle hge ht hbn hzn; have hsz := B.size; replace B := B.trans (hbn.mono (by omega)); have hln := Nat.lt_of_lt_of_eq (Nat.lt_succ_self _) hzn.symm; clear hzn; (try have hlt := r1.lt); (try replace r1 := r1.below (hbn.mono hle)); (try have hlt := p1.lt); (try replace p1 := p1.below (hbn.mono hle)); (try have hlt := u1.lt); (try replace u1 := u1.below (hbn.mono hle)); (try have hlt := g2.lt); (try replace g2 := g2.below (hbn.mono hle)); have u1 := ht; clear ht; simp only [putS]) | (have _ := r1; refine wpList_boxB (t := 68) rfl _ rfl _ rfl ?_; intro b_p1 wn hle hge ht hbn hzn; have hsz := B.size; replace B := B.trans (hbn.mono (by omega)); have hln := Nat.lt_of_lt_of_eq (Nat.lt_succ_self _) hzn.symm; clear hzn; (try have hlt := r1.lt); (try replace r1 := r1.below (hbn.mono hle)); (try have hlt := p1.lt); (try replace p1 := p1.below (hbn.mono hle)); (try have hlt := u1.lt); (try replace u1 := u1.below (hbn.mono hle)); (try have hlt := g2.lt); (try replace g2 := g2.below (hbn.mono hle)); have p1 := ht; clear ht; simp only [putS]) | (refine wpList_boxB (t := 34) rfl _ rfl _ rfl ?_; intro b_r1 wn hle hge ht hbn hzn; have hsz := B.size; replace B := B.trans (hbn.mono (by omega)); have hln := Nat.lt_of_lt_of_eq (Nat.lt_succ_self _) hzn.symm; clear hzn; (try have hlt := r1.lt); (try replace r1 := r1.below (hbn.mono hle)); (try have hlt := p1.lt); (try replace p1 := p1.below (hbn.mono hle)); (try have hlt := u1.lt); (try replace u1 := u1.below (hbn.mono hle)); (try have hlt := g2.lt); (try replace g2 := g2.below (hbn.mono hle)); have r1 := ht; clear ht; simp only [putS]) | fail)
   refine wp_region_ov_tail 4 (by kernel_rfl) (by kernel_rfl) ?_
   simp only [List.take_succ_cons, List.take_zero, List.drop_succ_cons, List.drop_zero]
   repeat (first | go_big_quiet_skip | (go_big_quiet_want; first | (refine quiet_loadAny (t := 34) rfl _ _ _ rfl (fun w hw => run_load_B (ov_B r1 w hw) Tryz.isAgg34 (by kernel_rfl)) (by rfl) ?_; simp only [putS]; go_big_quiet_on) | (refine quiet_loadAny (t := 68) rfl _ _ _ rfl (fun w hw => run_load_B (ov_B p1 w hw) Tryz.isAgg68 (by kernel_rfl)) (by rfl) ?_; simp only [putS]; go_big_quiet_on) | (refine quiet_loadT rfl _ rfl (ov_tile u1) ?_; simp only [putS]; go_big_quiet_on) | (go_big_quiet_op; first | go_big_quiet_on | go_big_quiet_call ((first | (go_at_call 40; exact calls_ov (HT.out _ (below_ov B B.size _)).1))))))
   refine wpQuiet_nil ?_
   intro wn hbn
   have hsz := B.size
   have hzn := hbn.size
   replace B := B.trans (hbn.mono B.size)
   try replace g2 := g2.below hbn
   go_wp2_with (first | (refine wpList_storeB (t := 63) rfl _ _ rfl _ rfl _ rfl g2 (by kernel_rfl) rfl (by simp [Value.oneCell']) ?_; have g2o := g2; clear g2; intro wn ht hcn hzn; replace rs1 := rs1.chg g2o (by simp) hcn; have hsz := B.size; replace hzn := Nat.le_of_eq hzn.symm; replace B := Chg.below B hcn (by omega) B.size; have g2 := ht; clear ht; simp only [putS]) | (go_at_call 112; refine (R_many _ _ _ _ (by unfold maxLen; omega)).mono ?_; rintro e wn ⟨rfl, hbn⟩; rw [if_neg hm]; have hsz := B.size; have hzn := hbn.size; replace B := B.trans (hbn.mono B.size); (try replace g2 := g2.below hbn); (try replace rs1 := rs1.below hbn)) | (go_at_call 113; refine (R_put _ (fineL ls) x y t (cleanT t) _ (HT.out _ B).2 SR.out ht rfl (by omega)).mono ?_; rintro e wn ⟨v1, rfl, rs1, hbn⟩; obtain ⟨a1, c1, rfl, hc1⟩ := rs1.len; have hsz := B.size; have hzn := hbn.size; replace B := B.trans (hbn.mono B.size); (try replace g2 := g2.below hbn)) | fail)
   refine bodyPost_ret (results_B (t := 63) rfl _ _ (b_g2) rfl g2 Tryz.isAgg63 (by kernel_rfl)) rfl ?_
   exact ⟨_, rfl, by rw [e2.out]; exact RS.nil _, B⟩
set_option maxHeartbeats 2000000 in
theorem R_SetR (v : Value) (ls : List TA) (x y : Int) (p : Px) (w : World) (h : RS v ls w) (tk : TokL ls) (hn : ls.length ≤ maxLen) (hx : (Lit.int .i64 x).wf = true) (hy : (Lit.int .i64 y).wf = true) (hp : p.ok) : Calls Tryz.prog 35 #[.agg #[v], .int .i64 x, .int .i64 y, Px.v p] w fun e w' => ∃ v', e = .returned (.agg #[v', .int .i64 (setE ls x y p)]) ∧ RS v' (setR ls x y p) w' ∧ Below w.heap.size w w' := by
 have B := Below.refl w.heap.size w
 obtain ⟨a', c', hT⟩ := R_Of v ls w h tk hn
 have HT := Lib.hid hT
 clear hT
 obtain ⟨a, c, rfl, hc⟩ := h.len
 have HS := Lib.hid h
 have TK := Lib.hid tk
 have hfl : (fineL ls).length ≤ maxLen := by have := fineL_le ls; omega
 obtain ⟨l1, l2⟩ := wf_bd hx
 obtain ⟨l3, l4⟩ := wf_bd hy
 obtain ⟨q, hq⟩ : ∃ q, q = x / 8 := ⟨_, rfl⟩
 obtain ⟨q', hq'⟩ : ∃ q, q = y / 8 := ⟨_, rfl⟩
 have KK : Hid (Tok (setT (tileL (fineL ls) q q') (x % 8) (y % 8) p)) := Lib.hid (by rw [hq, hq']; exact setS_tok tk hp)
 have e1 := Lib.hid (show setE ls x y p = putE ls q q' (setT (tileL (fineL ls) q q') (x % 8) (y % 8) p) from by rw [hq, hq']; rfl)
 have e2 := Lib.hid (show setR ls x y p = putR ls q q' (setT (tileL (fineL ls) q q') (x % 8) (y % 8) p) from by rw [hq, hq']; rfl)
 have hAt : ∀ w, Calls Tryz.prog 71 #[.int .i64 x, .int .i64 y] w fun e w' => e = .returned (Ps.v q q') ∧ Below w.heap.size w w' := fun w => by rw [hq, hq']; exact R_At x y w hx hy
 have AT := Lib.hid hAt
 have f1 : x - 8 * q = x % 8 := by omega
 have f2 : y - 8 * q' = y % 8 := by omega
 have b1 : -9223372036854775808 ≤ 8 * q := by omega
 have b2 : 8 * q ≤ 9223372036854775807 := by omega
 have b3 : -9223372036854775808 ≤ 8 * q' := by omega
 have b4 : 8 * q' ≤ 9223372036854775807 := by omega
 clear hAt hq hq' hx hy tk h
 go_enter Tryz.func35, Tryz.ntmps35
 go_upto_region 2 with (first | (refine wpList_loadAny (t := 68) rfl _ rfl _ _ _ rfl (run_load_B p2 Tryz.isAgg68 (by kernel_rfl)) (by rfl) ?_; simp only [putS]) | (refine wpList_storeB (t := 68) rfl _ _ rfl _ rfl _ rfl p2 (by kernel_rfl) rfl (by simp [Value.oneCell']) ?_; clear p2; intro wn ht hcn hzn; have hsz := B.size; replace hzn := Nat.le_of_eq hzn.symm; replace B := Chg.below B hcn (by omega) B.size; (try replace r1 := r1.of_eq (hcn.block _ r1.lt (by omega))); (try replace q1 := q1.of_eq (hcn.block _ q1.lt (by omega))); (try replace g2 := g2.of_eq (hcn.block _ g2.lt (by omega))); (try replace u2 := u2.of_eq (hcn.block _ u2.lt (by omega))); have p2 := ht; clear ht; simp only [putS]) | (have _ := g2; refine wpList_allocBk (t := 68) rfl _ (run_alloc_Ps _ _ rfl) ?_; intro b_p2 wn hle hge ht hbn hzn; have hsz := B.size; replace B := B.trans (hbn.mono (by omega)); have hln := Nat.lt_of_lt_of_eq (Nat.lt_succ_self _) hzn.symm; clear hzn; (try have hlt := r1.lt); (try replace r1 := r1.below (hbn.mono hle)); (try have hlt := q1.lt); (try replace q1 := q1.below (hbn.mono hle)); (try have hlt := g2.lt); (try replace g2 := g2.below (hbn.mono hle)); (try have hlt := p2.lt); (try replace p2 := p2.below (hbn.mono hle)); (try have hlt := u2.lt); (try replace u2 := u2.below (hbn.mono hle)); have p2 := ht; clear ht; simp only [putS]) | (go_at_call 71; refine (AT.out _).mono ?_; rintro e wn ⟨rfl, hbn⟩; have hsz := B.size; have hzn := hbn.size; replace B := B.trans (hbn.mono B.size); (try replace r1 := r1.below hbn); (try replace q1 := q1.below hbn); (try replace g2 := g2.below hbn); (try replace p2 := p2.below hbn); (try replace u2 := u2.below hbn)) | (have _ := q1; refine wpList_allocBk (t := 63) rfl _ (run_alloc_G _ _ rfl) ?_; intro b_g2 wn hle hge ht hbn hzn; have hsz := B.size; replace B := B.trans (hbn.mono (by omega)); have hln := Nat.lt_of_lt_of_eq (Nat.lt_succ_self _) hzn.symm; clear hzn; (try have hlt := r1.lt); (try replace r1 := r1.below (hbn.mono hle)); (try have hlt := q1.lt); (try replace q1 := q1.below (hbn.mono hle)); (try have hlt := g2.lt); (try replace g2 := g2.below (hbn.mono hle)); (try have hlt := p2.lt); (try replace p2 := p2.below (hbn.mono hle)); (try have hlt := u2.lt); (try replace u2 := u2.below (hbn.mono hle)); have g2 := ht; clear ht; simp only [putS]) | (have _ := r1; refine wpList_boxPx' rfl _ rfl _ rfl ?_; intro b_q1 wn hle hge ht hbn hzn; have hsz := B.size; replace B := B.trans (hbn.mono (by omega)); have hln := Nat.lt_of_lt_of_eq (Nat.lt_succ_self _) hzn.symm; clear hzn; (try have hlt := r1.lt); (try replace r1 := r1.below (hbn.mono hle)); (try have hlt := q1.lt); (try replace q1 := q1.below (hbn.mono hle)); (try have hlt := g2.lt); (try replace g2 := g2.below (hbn.mono hle)); (try have hlt := p2.lt); (try replace p2 := p2.below (hbn.mono hle)); (try have hlt := u2.lt); (try replace u2 := u2.below (hbn.mono hle)); have q1 := ht; clear ht; simp only [putS]) | (refine wpList_boxB (t := 34) rfl _ rfl _ rfl ?_; intro b_r1 wn hle hge ht hbn hzn; have hsz := B.size; replace B := B.trans (hbn.mono (by omega)); have hln := Nat.lt_of_lt_of_eq (Nat.lt_succ_self _) hzn.symm; clear hzn; (try have hlt := r1.lt); (try replace r1 := r1.below (hbn.mono hle)); (try have hlt := q1.lt); (try replace q1 := q1.below (hbn.mono hle)); (try have hlt := g2.lt); (try replace g2 := g2.below (hbn.mono hle)); (try have hlt := p2.lt); (try replace p2 := p2.below (hbn.mono hle)); (try have hlt := u2.lt); (try replace u2 := u2.below (hbn.mono hle)); have r1 := ht; clear ht; simp only [putS]) | fail)
 have hp2 := p2.lt
 go_cut [10] from 14 to 17 (fun s wx => ∃ b, s = .pointer (some ⟨b, 0, none⟩) ∧ TileAt wx b (tileL (fineL ls) q q') ∧ Below w.heap.size w wx ∧ b_p2 < b ∧ AtB 34 wx b_r1 #[.slice a ls.length c] ∧ PixAt wx b_q1 p ∧ AtB 63 wx b_g2 #[.slice none 0 0, .int .i64 0] ∧ AtB 68 wx b_p2 #[.int .i64 q, .int .i64 q'])
 case first =>
  try have r1B := r1
  try have q1B := q1
  try have g2B := g2
  try have p2B := p2
  try have u2B := u2
  refine wp_region_X0 5 #[false, false, false, false, false, false] (by kernel_rfl) (by kernel_rfl) ?_
  intro wn hbn
  have hX := hbn
  have hsz := B.size
  have hzn := hbn.size
  replace B := B.trans (hbn.mono B.size)
  try replace r1 := r1.below hbn
  try replace q1 := q1.below hbn
  try replace g2 := g2.below hbn
  try replace p2 := p2.below hbn
  try replace u2 := u2.below hbn
  simp only [List.length_cons, List.length_nil, Nat.reduceAdd]
  refine anyX_take 0 rfl (by kernel_rfl) ⟨_, ov_of hX⟩ ?_
  intro K hK
  try simp only [gelS]
  (first | (refine quiet_loadAny (t := 34) rfl _ _ _ rfl (fun w hw => run_load_B (ov_B r1B w hw) Tryz.isAgg34 (by kernel_rfl)) (by rfl) ?_; simp only [putS]; go_big_quiet_on) | (refine quiet_loadAny (t := 68) rfl _ _ _ rfl (fun w hw => run_load_B (ov_B p2B w hw) Tryz.isAgg68 (by kernel_rfl)) (by rfl) ?_; simp only [putS]; go_big_quiet_on) | (go_big_quiet_op; go_big_quiet_on))
  simp only [putS]
  refine anyX_take 2 rfl (by kernel_rfl) ⟨_, ov_of hX⟩ ?_
  intro K hK
  try simp only [gelS]
  (first | (refine quiet_loadAny (t := 34) rfl _ _ _ rfl (fun w hw => run_load_B (ov_B r1B w hw) Tryz.isAgg34 (by kernel_rfl)) (by rfl) ?_; simp only [putS]; go_big_quiet_on) | (refine quiet_loadAny (t := 68) rfl _ _ _ rfl (fun w hw => run_load_B (ov_B p2B w hw) Tryz.isAgg68 (by kernel_rfl)) (by rfl) ?_; simp only [putS]; go_big_quiet_on) | (go_big_quiet_op; go_big_quiet_on))
  simp only [putS]
  refine anyX_two 1 4 rfl rfl (by kernel_rfl) rfl rfl (fun K hK => ?_) (fun K hK => ?_)
  ·skip
   try simp only [gelS]
   go_simp
   go_at_call 40
   refine ((HT.out _ B).1).mono ?_
   rintro e wn ⟨rfl, hbn⟩
   have hsz := B.size
   have hzn := hbn.size
   have hsx := hX.size
   replace B := B.trans (hbn.mono B.size)
   replace hX := hX.trans (hbn.mono hX.size)
   try replace r1 := r1.below hbn
   try replace q1 := q1.below hbn
   try replace g2 := g2.below hbn
   try replace p2 := p2.below hbn
   try replace u2 := u2.below hbn
   refine hK _ _ ⟨fun _ => ⟨_, ov_of hX⟩, ?_⟩
   clear hK K
   try simp only [gelS]
   simp only [putS]
   refine anyX_two 3 4 rfl rfl (by kernel_rfl) rfl rfl (fun K hK => ?_) (fun K hK => ?_)
   ·skip
    try simp only [gelS]
    go_simp
    go_at_call 43
    refine (R_Tile _ (fineL ls) q q' _ (HT.out _ B).2 hfl).mono ?_
    rintro e wn ⟨rfl, hbn⟩
    have hsz := B.size
    have hzn := hbn.size
    have hsx := hX.size
    replace B := B.trans (hbn.mono B.size)
    replace hX := hX.trans (hbn.mono hX.size)
    try replace r1 := r1.below hbn
    try replace q1 := q1.below hbn
    try replace g2 := g2.below hbn
    try replace p2 := p2.below hbn
    try replace u2 := u2.below hbn
    refine hK _ _ ⟨fun _ => ⟨_, ov_of hX⟩, ?_⟩
    clear hK K
    try simp only [gelS]
    simp only [putS]
    refine anyX_next 4 rfl (by kernel_rfl) rfl (fun K hK => ?_)
    try simp only [gelS]
    refine owp_allocTb rfl ?_
    intro b_u2 wn hle hge ht hbn hzn
    have hsz := B.size
    have hsx := hX.size
    replace B := B.trans (hbn.mono (by omega))
    replace hX := hX.trans (hbn.mono (by omega))
    try first | (have hlt := r1.lt; replace r1 := r1.of_eq (hbn.block _ (by omega))) | replace r1 := r1.below (hbn.mono hle)
    try first | (have hlt := q1.lt; replace q1 := q1.of_eq (hbn.block _ (by omega))) | replace q1 := q1.below (hbn.mono hle)
    try first | (have hlt := g2.lt; replace g2 := g2.of_eq (hbn.block _ (by omega))) | replace g2 := g2.below (hbn.mono hle)
    try first | (have hlt := p2.lt; replace p2 := p2.of_eq (hbn.block _ (by omega))) | replace p2 := p2.below (hbn.mono hle)
    try first | (have hlt := u2.lt; replace u2 := u2.of_eq (hbn.block _ (by omega))) | replace u2 := u2.below (hbn.mono hle)
    have u2 := ht
    clear ht
    refine hK _ _ ⟨fun _ => ⟨_, ov_of hX⟩, ?_⟩
    clear hK K
    try simp only [gelS]
    simp only [putS]
    refine anyX_seq (by kernel_rfl) (by kernel_rfl) ?_
    simp only [List.drop_succ_cons, List.drop_zero]
    go_wp2_with (first | (refine wpList_storeT rfl _ _ rfl _ rfl _ rfl u2 ?_; clear u2; intro wn ht hcn hzn; have hsz := B.size; replace hzn := Nat.le_of_eq hzn.symm; replace B := Chg.below B hcn (by omega) B.size; (try replace r1 := r1.of_eq (hcn.block _ r1.lt (by omega))); (try replace q1 := q1.of_eq (hcn.block _ q1.lt (by omega))); (try replace g2 := g2.of_eq (hcn.block _ g2.lt (by omega))); (try replace p2 := p2.of_eq (hcn.block _ p2.lt (by omega))); have u2 := ht; clear ht; simp only [putS]) | fail)
    refine NoPan.normal ?_
    go_wp2_with fail
    go_meet
    exact ⟨_, rfl, u2, B, by omega, r1, q1, g2, p2⟩
   ·skip
    try simp only [gelS]
    refine owp_allocTb rfl ?_
    intro b_u2 wn hle hge ht hbn hzn
    have hsz := B.size
    have hsx := hX.size
    replace B := B.trans (hbn.mono (by omega))
    replace hX := hX.trans (hbn.mono (by omega))
    try first | (have hlt := r1.lt; replace r1 := r1.of_eq (hbn.block _ (by omega))) | replace r1 := r1.below (hbn.mono hle)
    try first | (have hlt := q1.lt; replace q1 := q1.of_eq (hbn.block _ (by omega))) | replace q1 := q1.below (hbn.mono hle)
    try first | (have hlt := g2.lt; replace g2 := g2.of_eq (hbn.block _ (by omega))) | replace g2 := g2.below (hbn.mono hle)
    try first | (have hlt := p2.lt; replace p2 := p2.of_eq (hbn.block _ (by omega))) | replace p2 := p2.below (hbn.mono hle)
    try first | (have hlt := u2.lt; replace u2 := u2.of_eq (hbn.block _ (by omega))) | replace u2 := u2.below (hbn.mono hle)
    have u2 := ht
    clear ht
    refine hK _ _ ⟨fun _ => ⟨_, ov_of hX⟩, ?_⟩
    clear hK K
    try simp only [gelS]
    simp only [putS]
    refine anyX_next 3 rfl (by kernel_rfl) rfl (fun K hK => ?_)
    try simp only [gelS]
    go_simp
    go_at_call 43
    refine (R_Tile _ (fineL ls) q q' _ (HT.out _ B).2 hfl).mono ?_
    rintro e wn ⟨rfl, hbn⟩
    have hsz := B.size
    have hzn := hbn.size
    have hsx := hX.size
    replace B := B.trans (hbn.mono B.size)
    replace hX := hX.trans (hbn.mono hX.size)
    try replace r1 := r1.below hbn
    try replace q1 := q1.below hbn
    try replace g2 := g2.below hbn
    try replace p2 := p2.below hbn
    try replace u2 := u2.below hbn
    refine hK _ _ ⟨fun _ => ⟨_, ov_of hX⟩, ?_⟩
    clear hK K
    try simp only [gelS]
    simp only [putS]
    refine anyX_seq (by kernel_rfl) (by kernel_rfl) ?_
    simp only [List.drop_succ_cons, List.drop_zero]
    go_wp2_with (first | (refine wpList_storeT rfl _ _ rfl _ rfl _ rfl u2 ?_; clear u2; intro wn ht hcn hzn; have hsz := B.size; replace hzn := Nat.le_of_eq hzn.symm; replace B := Chg.below B hcn (by omega) B.size; (try replace r1 := r1.of_eq (hcn.block _ r1.lt (by omega))); (try replace q1 := q1.of_eq (hcn.block _ q1.lt (by omega))); (try replace g2 := g2.of_eq (hcn.block _ g2.lt (by omega))); (try replace p2 := p2.of_eq (hcn.block _ p2.lt (by omega))); have u2 := ht; clear ht; simp only [putS]) | fail)
    refine NoPan.normal ?_
    go_wp2_with fail
    go_meet
    exact ⟨_, rfl, u2, B, by omega, r1, q1, g2, p2⟩
  ·skip
   try simp only [gelS]
   refine owp_allocTb rfl ?_
   intro b_u2 wn hle hge ht hbn hzn
   have hsz := B.size
   have hsx := hX.size
   replace B := B.trans (hbn.mono (by omega))
   replace hX := hX.trans (hbn.mono (by omega))
   try first | (have hlt := r1.lt; replace r1 := r1.of_eq (hbn.block _ (by omega))) | replace r1 := r1.below (hbn.mono hle)
   try first | (have hlt := q1.lt; replace q1 := q1.of_eq (hbn.block _ (by omega))) | replace q1 := q1.below (hbn.mono hle)
   try first | (have hlt := g2.lt; replace g2 := g2.of_eq (hbn.block _ (by omega))) | replace g2 := g2.below (hbn.mono hle)
   try first | (have hlt := p2.lt; replace p2 := p2.of_eq (hbn.block _ (by omega))) | replace p2 := p2.below (hbn.mono hle)
   try first | (have hlt := u2.lt; replace u2 := u2.of_eq (hbn.block _ (by omega))) | replace u2 := u2.below (hbn.mono hle)
   have u2 := ht
   clear ht
   refine hK _ _ ⟨fun _ => ⟨_, ov_of hX⟩, ?_⟩
   clear hK K
   try simp only [gelS]
   simp only [putS]
   refine anyX_next 1 rfl (by kernel_rfl) rfl (fun K hK => ?_)
   try simp only [gelS]
   go_simp
   go_at_call 40
   refine ((HT.out _ B).1).mono ?_
   rintro e wn ⟨rfl, hbn⟩
   have hsz := B.size
   have hzn := hbn.size
   have hsx := hX.size
   replace B := B.trans (hbn.mono B.size)
   replace hX := hX.trans (hbn.mono hX.size)
   try replace r1 := r1.below hbn
   try replace q1 := q1.below hbn
   try replace g2 := g2.below hbn
   try replace p2 := p2.below hbn
   try replace u2 := u2.below hbn
   refine hK _ _ ⟨fun _ => ⟨_, ov_of hX⟩, ?_⟩
   clear hK K
   try simp only [gelS]
   simp only [putS]
   refine anyX_next 3 rfl (by kernel_rfl) rfl (fun K hK => ?_)
   try simp only [gelS]
   go_simp
   go_at_call 43
   refine (R_Tile _ (fineL ls) q q' _ (HT.out _ B).2 hfl).mono ?_
   rintro e wn ⟨rfl, hbn⟩
   have hsz := B.size
   have hzn := hbn.size
   have hsx := hX.size
   replace B := B.trans (hbn.mono B.size)
   replace hX := hX.trans (hbn.mono hX.size)
   try replace r1 := r1.below hbn
   try replace q1 := q1.below hbn
   try replace g2 := g2.below hbn
   try replace p2 := p2.below hbn
   try replace u2 := u2.below hbn
   refine hK _ _ ⟨fun _ => ⟨_, ov_of hX⟩, ?_⟩
   clear hK K
   try simp only [gelS]
   simp only [putS]
   refine anyX_seq (by kernel_rfl) (by kernel_rfl) ?_
   simp only [List.drop_succ_cons, List.drop_zero]
   go_wp2_with (first | (refine wpList_storeT rfl _ _ rfl _ rfl _ rfl u2 ?_; clear u2; intro wn ht hcn hzn; have hsz := B.size; replace hzn := Nat.le_of_eq hzn.symm; replace B := Chg.below B hcn (by omega) B.size; (try replace r1 := r1.of_eq (hcn.block _ r1.lt (by omega))); (try replace q1 := q1.of_eq (hcn.block _ q1.lt (by omega))); (try replace g2 := g2.of_eq (hcn.block _ g2.lt (by omega))); (try replace p2 := p2.of_eq (hcn.block _ p2.lt (by omega))); have u2 := ht; clear ht; simp only [putS]) | fail)
   refine NoPan.normal ?_
   go_wp2_with fail
   go_meet
   exact ⟨_, rfl, u2, B, by omega, r1, q1, g2, p2⟩
 case rest =>
  obtain ⟨b_u2, rfl, u2, B, hb2, r1, q1, g2, p2⟩ := hcut
  go_wp2
  refine wp_region_ov_tail 15 (by kernel_rfl) (by kernel_rfl) ?_
  simp only [List.take_succ_cons, List.take_zero, List.drop_succ_cons, List.drop_zero]
  repeat (first | go_big_quiet_skip | (go_big_quiet_want; first | (refine quiet_loadAny (t := 34) rfl _ _ _ rfl (fun w hw => run_load_B (ov_B r1 w hw) Tryz.isAgg34 (by kernel_rfl)) (by rfl) ?_; simp only [putS]; go_big_quiet_on) | (refine quiet_loadAny (t := 3) rfl _ _ _ rfl (fun w hw => run_load_int ((ov_B p2 w hw).cell 0 rfl)) (by rfl) ?_; simp only [putS]; go_big_quiet_on) | (refine quiet_loadAny (t := 3) rfl _ _ _ rfl (fun w hw => run_load_int ((ov_B p2 w hw).cell 1 rfl)) (by rfl) ?_; simp only [putS]; go_big_quiet_on) | (refine quiet_loadAny (t := 68) rfl _ _ _ rfl (fun w hw => run_load_B (ov_B p2 w hw) Tryz.isAgg68 (by kernel_rfl)) (by rfl) ?_; simp only [putS]; go_big_quiet_on) | (refine quiet_loadT rfl _ rfl (ov_tile u2) ?_; simp only [putS]; go_big_quiet_on) | (refine quiet_loadPx rfl _ rfl (ov_px q1) ?_; simp only [putS]; go_big_quiet_on) | (go_big_quiet_op; first | go_big_quiet_on | go_big_quiet_call ((first | (go_at_call 73; exact calls_ov (R_Set _ _ _ _ _)))))))
  refine wpQuiet_nil ?_
  intro wn hbn
  have hsz := B.size
  have hzn := hbn.size
  replace B := B.trans (hbn.mono B.size)
  try replace g2 := g2.below hbn
  go_wp2_with (first | (refine wpList_storeB (t := 63) rfl _ _ rfl _ rfl _ rfl g2 (by kernel_rfl) rfl (by simp [Value.oneCell']) ?_; have g2o := g2; clear g2; intro wn ht hcn hzn; replace rs1 := rs1.chg g2o (by simp) hcn; have hsz := B.size; replace hzn := Nat.le_of_eq hzn.symm; replace B := Chg.below B hcn (by omega) B.size; have g2 := ht; clear ht; simp only [putS]) | (go_at_call 72; refine (R_PutR _ ls q q' _ _ (HS.out.below B) TK.out hn KK.out).mono ?_; rintro e wn ⟨v1, rfl, rs1, hbn⟩; obtain ⟨a1, c1, rfl, hc1⟩ := rs1.len; have hsz := B.size; have hzn := hbn.size; replace B := B.trans (hbn.mono B.size); (try replace g2 := g2.below hbn)) | fail)
  refine bodyPost_ret (results_B (t := 63) rfl _ _ (b_g2) rfl g2 Tryz.isAgg63 (by kernel_rfl)) rfl ?_
  refine ⟨_, by rw [e1.out]; try rfl, ?_, B⟩
  rw [e2.out]
  exact rs1
/- '==' of tiles at a position; contracts of Equal of package raster and of its reference. -/
theorem eqItems_tileD (d : Nat) (f g : Nat → Px) (w : World) : ∀ is : List Nat, (∀ i ∈ is, i < 64) → (Op.eqItems (d + 2) 25 4 (tileC f) (tileC g) is).run Tryz.prog w = .ok (decide (∀ i ∈ is, f i = g i)) w
 | [], _ => by simp [Op.eqItems]
 | i :: is, h => by
  have hi : i < 64 := h i (by simp)
  simp only [Op.eqItems, Sem.run_bind, part_tile f i hi, part_tile g i hi, Result.andThen_ok, equalIn_px d]
  by_cases e : f i = g i
  ·simp [e, eqItems_tileD d f g w is (fun j hj => h j (by simp [hj]))]
  ·simp [e]
theorem equalIn_tileD (d : Nat) (f g : Nat → Px) (w : World) : (Op.equalIn (d + 3) 70 (Tile.v f) (Tile.v g)).run Tryz.prog w = .ok (eqT f g) w := by
 obtain ⟨i, hi⟩ : ∃ i, Tryz.prog.info? 25 = some i := by
  cases h : Tryz.prog.info? 25 with
  | some i => exact ⟨i, rfl⟩
  | none =>
   have e : (Tryz.prog.info? 25).isSome = true := by kernel_rfl
   rw [h] at e; cases e
 unfold Tile.v
 refine (run_equalIn_array w (d + 2) (tileC f) (tileC g) Tryz.underlying70 hi).trans ?_
 rw [cellsOf_px, eqItems_tileD d f g w _ (fun i hi => List.mem_range.1 hi)]
 rfl
theorem sizeOf_pos (w : World) : (sizeOf 68).run Tryz.prog w = .ok 2 w := by kernel_rfl
theorem sizeOf_tl (w : World) : (sizeOf 70).run Tryz.prog w = .ok 256 w := by kernel_rfl
theorem part_pos (e : TA) (w : World) : (Go.part 68 (taC e) 0).run Tryz.prog w = .ok (Ps.v e.x e.y) w := by
 unfold Go.part
 simp only [Sem.run_bind, Tryz.isAgg68, Result.andThen_ok, if_true, sizeOf_pos, Sem.run_pure, Ps.v]
 congr 2
 apply Array.ext_getElem?
 intro k
 rw [Array.getElem?_extract]
 obtain ⟨x, y, t⟩ := e
 by_cases h : k < 2
 ·rw [if_pos (by rw [size_taC]; omega), Nat.zero_add, taC_get, if_pos h]
 ·rw [if_neg (by omega)]
  exact (Array.getElem?_eq_none (by simp; omega)).symm
theorem part_tl (e : TA) (w : World) : (Go.part 70 (taC e) 2).run Tryz.prog w = .ok (Tile.v e.t) w := by
 unfold Go.part
 simp only [Sem.run_bind, Tryz.isAgg70, Result.andThen_ok, if_true, sizeOf_tl, Sem.run_pure, Tile.v]
 congr 2
 apply Array.ext_getElem?
 intro k
 rw [Array.getElem?_extract]
 by_cases h : k < 256
 ·rw [if_pos (by rw [size_taC]; omega), taC_t]
 ·rw [if_neg (by omega)]
  exact (Array.getElem?_eq_none (by rw [size_tileC]; omega)).symm
def eqA (a b : TA) : Bool := eqB a.x a.y b.x b.y && eqT a.t b.t
theorem fields_ta : (Tryz.prog.fieldsOf 72).toList.map (fun f => (f.name == "_", f.type, f.offset)) = [(false, 68, 0), (false, 70, 2)] := by kernel_rfl
theorem equalIn_ta (d : Nat) (a b : TA) (w : World) : (Op.equalIn (d + 4) 72 (.agg (taC a)) (.agg (taC b))).run Tryz.prog w = .ok (eqA a b) w := by
 rw [run_equalIn_struct w (d + 3) 72 (taC a) (taC b) (by kernel_rfl) (by kernel_rfl)]
 have hf := fields_ta
 generalize (Tryz.prog.fieldsOf 72).toList = fs at hf
 obtain ⟨f, fs, rfl, hf1, hf⟩ := List.map_eq_cons_iff.1 hf
 obtain ⟨g, fs, rfl, hf2, hf⟩ := List.map_eq_cons_iff.1 hf
 obtain rfl := List.map_eq_nil_iff.1 hf
 simp only [Prod.mk.injEq] at hf1 hf2
 obtain ⟨n1, t1, o1⟩ := hf1
 obtain ⟨n2, t2, o2⟩ := hf2
 have n1 : f.name ≠ "_" := by simpa using n1
 have n2 : g.name ≠ "_" := by simpa using n2
 have p1 := fun w => part_pos a w
 simp only [Op.eqFields, n1, n2, t1, t2, o1, o2, ne_eq, not_false_eq_true, if_true, Sem.run_bind, part_pos, part_tl, Result.andThen_ok, equalIn_pos (d + 1), equalIn_tileD d]
 unfold eqA
 cases h1 : eqB a.x a.y b.x b.y <;> cases h2 : eqT a.t b.t <;> simp [part_tl, equalIn_tileD d, h1, h2]
theorem neq_ta (a b : TA) (w : World) : (binOp .neq 72 (.agg (taC a)) (.agg (taC b))).run Tryz.prog w = .ok (.bool (!eqA a b)) w := by
 have h := run_neq_struct (P := Tryz.prog) w 72 (taC a) (taC b)
 rw [h, equalIn_ta 9996]; rfl
@[go_sem] theorem guard_ta (op : BinOp) (p q : Operand) (a b : TA) (w : World) : (eqGuard op 72 p q (.agg (taC a)) (.agg (taC b))).run Tryz.prog w = .ok () w := run_eqGuard_agg w op 72 p q _ _ (by kernel_rfl)
/-- Two lists of tiles are equal. -/
def eqL (ls ks : List TA) : Bool := decide (ls.length = ks.length) && decide (∀ i ∈ List.range ls.length, eqA (aT ls i) (aT ks i) = true)
theorem eqL_len {ls ks : List TA} (h : ¬ ls.length = ks.length) : eqL ls ks = false := by unfold eqL; rw [decide_eq_false h]; rfl
theorem eqL_no {ls ks : List TA} {j : Nat} (hj : j < ls.length) (h : eqA (aT ls j) (aT ks j) = false) : eqL ls ks = false := by
 unfold eqL
 rw [Bool.and_eq_false_iff]
 right
 exact decide_eq_false fun e => by rw [e j (List.mem_range.2 hj)] at h; cases h
theorem eqL_yes {ls ks : List TA} (h : ls.length = ks.length) (k : ∀ j, j < ls.length → eqA (aT ls j) (aT ks j) = true) : eqL ls ks = true := by
 unfold eqL
 rw [decide_eq_true h, Bool.true_and]
 exact decide_eq_true fun j hj => k j (List.mem_range.1 hj)
set_option maxHeartbeats 1000000 in
theorem P_equal (v u : Value) (ls ks : List TA) (w : World) (h : RS v ls w) (h' : RS u ks w) (hn : ls.length ≤ maxLen) (hn' : ks.length ≤ maxLen) : Calls Tryz.prog 49 #[v, u] w fun e w' => e = .returned (.bool (eqL ls ks)) ∧ Below w.heap.size w w' := by
 unfold maxLen at hn hn'
 obtain ⟨a, c, rfl, hc⟩ := h.len
 obtain ⟨a', c', rfl, hc'⟩ := h'.len
 have B := Below.refl w.heap.size w
 have HS := Lib.hid h
 have HS' := Lib.hid h'
 clear h h'
 by_cases hlen : ls.length = ks.length
 ·have HL := Lib.hid hlen
  obtain ⟨n, hnl⟩ : ∃ n, n = ls.length := ⟨_, rfl⟩
  have e1 : ls.length = n := hnl.symm
  have e2 : ks.length = n := by omega
  rw [e1, e2]
  rw [e1] at hn hc
  rw [e2] at hn' hc'
  have E1 := Lib.hid e1
  have E2 := Lib.hid e2
  clear hlen hnl e1 e2
  go_enter Tryz.func49, Tryz.ntmps49
  go_wp2_with (first | fail | fail)
  go_loopw [5, 13] (fun _ i wr => ∃ k : Nat, k ≤ n ∧ i = .int .i64 k ∧ Below w.heap.size w wr ∧ ∀ j, j < k → eqA (aT ls j) (aT ks j) = true) (fun _ i _ => (n - intOf i).toNat)
  case atStart => exact ⟨0, by omega, rfl, B, fun j hj => by omega⟩
  case round =>
   clear B 
   obtain ⟨k, hk, rfl, B, hst⟩ := hrel
   have HST := Lib.hid hst
   clear hst
   by_cases hkn : k < n
   ·have hkl : k < ls.length := by rw [E1.out]; exact hkn
    have hkk : k < ks.length := by rw [E2.out]; exact hkn
    obtain ⟨g, o, rfl, rc0⟩ := (E1.out ▸ HS.out).at (by omega)
    obtain ⟨g', o', rfl, rd0⟩ := (E2.out ▸ HS'.out).at (by omega)
    have hg0 := rc0.lt
    have hg1 := rd0.lt
    have rc := rc0.of_eq (B.block _ rc0.lt)
    have rd := rd0.of_eq (B.block _ rd0.lt)
    clear rc0 rd0
    obtain ⟨e, he⟩ : ∃ e, aT ls k = e := ⟨_, rfl⟩
    obtain ⟨e', he'⟩ : ∃ e, aT ks k = e := ⟨_, rfl⟩
    have hneq : ∀ w, (binOp .neq 72 (.agg (taC e)) (.agg (taC e'))).run Tryz.prog w = .ok (.bool (!eqA e e')) w := fun w => neq_ta _ _ w
    cases hq : eqA e e' with
    | true =>
     go_wp2_with (first | fail | fail)
     refine wp_region_ov (by kernel_rfl) (by kernel_rfl) ?_
     repeat (first | go_big_quiet_skip | (go_big_quiet_want; first | (refine quiet_loadAny (t := 72) rfl _ _ _ rfl (fun w hw => rc_ta (ov_rc rc w hw) hkl he) (by first | rfl | omega) ?_; simp only [putS]; go_big_quiet_on) | (refine quiet_loadAny (t := 72) rfl _ _ _ rfl (fun w hw => rc_ta (ov_rc rd w hw) hkk he') (by first | rfl | omega) ?_; simp only [putS]; go_big_quiet_on) | (go_big_quiet_op; first | go_big_quiet_on | go_big_quiet_call ((fail)))))
     refine wpQuiet_nil ?_
     intro wn hbn
     have hsz := B.size
     have hzn := hbn.size
     replace B := B.trans (hbn.mono B.size)
     try replace rc := rc.below hbn
     try replace rd := rd.below hbn
     go_wp2
     go_roundw
     case rel => exact ⟨k + 1, by omega, by go_num, B, fun j hj => by
      by_cases ej : j = k
      ·rw [ej, he, he', hq]
      ·exact HST.out j (by omega)⟩
     case measure => simp [intOf]; omega
    | false =>
     have EN := Lib.hid (eqL_no (ks := ks) hkl (by rw [he, he', hq]))
     go_wp2_with (first | fail | fail)
     refine wp_region_ov (by kernel_rfl) (by kernel_rfl) ?_
     repeat (first | go_big_quiet_skip | (go_big_quiet_want; first | (refine quiet_loadAny (t := 72) rfl _ _ _ rfl (fun w hw => rc_ta (ov_rc rc w hw) hkl he) (by first | rfl | omega) ?_; simp only [putS]; go_big_quiet_on) | (refine quiet_loadAny (t := 72) rfl _ _ _ rfl (fun w hw => rc_ta (ov_rc rd w hw) hkk he') (by first | rfl | omega) ?_; simp only [putS]; go_big_quiet_on) | (go_big_quiet_op; first | go_big_quiet_on | go_big_quiet_call ((fail)))))
     refine wpQuiet_nil ?_
     intro wn hbn
     have hsz := B.size
     have hzn := hbn.size
     replace B := B.trans (hbn.mono B.size)
     go_wp2
     go_ret
     exact ⟨by rw [EN.out]; try rfl, B⟩
   ·have EY := Lib.hid (eqL_yes HL.out (fun j hj => HST.out j (by have := E1.out; omega)))
    go_wp2_with (first | fail | fail)
    go_ret
    exact ⟨by rw [EY.out]; try rfl, B⟩
 ·rw [eqL_len hlen]
  have hne : ((ls.length : Int) != (ks.length : Int)) = true := by simp; omega
  clear hlen
  go_enter Tryz.func49, Tryz.ntmps49
  go_wp2_with (first | fail | fail)
  go_ret
  exact ⟨rfl, B⟩
theorem P_Equal (v u : Value) (ls ks : List TA) (w : World) (h : RS v ls w) (h' : RS u ks w) (tk : TokL ls) (tk' : TokL ks) (hn : ls.length ≤ maxLen) (hn' : ks.length ≤ maxLen) : Calls Tryz.prog 19 #[.agg #[v], .agg #[u]] w fun e w' => e = .returned (.bool (eqL (fineL ls) (fineL ks))) ∧ Below w.heap.size w w' := by
 have B := Below.refl w.heap.size w
 obtain ⟨a1, c1, hT⟩ := P_tiles v ls w h tk hn
 obtain ⟨a2, c2, hU⟩ := P_tiles u ks w h' tk' hn'
 have HT := Lib.hid hT
 have HU := Lib.hid hU
 clear hT hU
 obtain ⟨a, c, rfl, hc⟩ := h.len
 obtain ⟨a', c', rfl, hc'⟩ := h'.len
 have hf1 : (fineL ls).length ≤ maxLen := by have := fineL_le ls; omega
 have hf2 : (fineL ks).length ≤ maxLen := by have := fineL_le ks; omega
 clear h h' tk tk'
 go_enter Tryz.func19, Tryz.ntmps19
 go_wp2_with (first | (have _ := r1; refine wpList_boxB (t := 34) rfl _ rfl _ rfl ?_; intro b_r2 wn hle hge ht hbn hzn; have hsz := B.size; replace B := B.trans (hbn.mono (by omega)); have hln := Nat.lt_of_lt_of_eq (Nat.lt_succ_self _) hzn.symm; clear hzn; (try have hlt := r1.lt); (try replace r1 := r1.below (hbn.mono hle)); (try have hlt := r2.lt); (try replace r2 := r2.below (hbn.mono hle)); have r2 := ht; clear ht; simp only [putS]) | (refine wpList_boxB (t := 34) rfl _ rfl _ rfl ?_; intro b_r1 wn hle hge ht hbn hzn; have hsz := B.size; replace B := B.trans (hbn.mono (by omega)); have hln := Nat.lt_of_lt_of_eq (Nat.lt_succ_self _) hzn.symm; clear hzn; (try have hlt := r1.lt); (try replace r1 := r1.below (hbn.mono hle)); (try have hlt := r2.lt); (try replace r2 := r2.below (hbn.mono hle)); have r1 := ht; clear ht; simp only [putS]) | fail)
 refine wp_region_ov (by kernel_rfl) (by kernel_rfl) ?_
 repeat (first | go_big_quiet_skip | (go_big_quiet_want; first | (refine quiet_loadAny (t := 34) rfl _ _ _ rfl (fun w hw => run_load_B (ov_B r1 w hw) Tryz.isAgg34 (by kernel_rfl)) (by rfl) ?_; simp only [putS]; go_big_quiet_on) | (refine quiet_loadAny (t := 34) rfl _ _ _ rfl (fun w hw => run_load_B (ov_B r2 w hw) Tryz.isAgg34 (by kernel_rfl)) (by rfl) ?_; simp only [putS]; go_big_quiet_on) | (go_big_quiet_op; first | go_big_quiet_on | go_big_quiet_call ((first | (go_at_call 49; exact calls_ov (P_equal _ _ _ _ _ (HT.out _ (below_ov B B.size _)).2 (HU.out _ (below_ov B B.size _)).2 hf1 hf2)) | (go_at_call 50; with_reducible exact calls_ov (HT.out _ (below_ov B B.size _)).1) | (go_at_call 50; with_reducible exact calls_ov (HU.out _ (below_ov B B.size _)).1))))))
 refine wpQuiet_nil ?_
 intro wn hbn
 have hsz := B.size
 have hzn := hbn.size
 replace B := B.trans (hbn.mono B.size)
 go_wp2
 go_ret
 exact ⟨rfl, B⟩
/- Contract of mapped of package raster, for whatever function that turns at most one block. -/
/-- Below n, block c aside, what was there is as it was. -/
structure Exc (c n : Nat) (w w' : World) : Prop where
 os : w'.os = w.os
 tape : w'.tape = w.tape
 output : w'.output = w.output
 size : n ≤ w'.heap.size
 grow : w.heap.size ≤ w'.heap.size
 block : ∀ k, k < n → k ≠ c → w'.heap[k]? = w.heap[k]?
theorem Exc.refl (c : Nat) (w : World) : Exc c w.heap.size w w := ⟨rfl, rfl, rfl, Nat.le_refl _, Nat.le_refl _, fun _ _ _ => rfl⟩
theorem Exc.trans {c n : Nat} {w1 w2 w3 : World} (h : Exc c n w1 w2) (k : Below n w2 w3) : Exc c n w1 w3 :=
 ⟨k.os.trans h.os, k.tape.trans h.tape, k.output.trans h.output, Nat.le_trans h.size k.size, Nat.le_trans h.grow k.size, fun i hi hc => (k.block i hi).trans (h.block i hi hc)⟩
theorem Exc.store {c n b : Nat} {w1 w2 w3 : World} (h : Exc c n w1 w2) (k : Chg b w2 w3) (hb : n ≤ b) : Exc c n w1 w3 :=
 ⟨k.os.trans h.os, k.tape.trans h.tape, k.output.trans h.output, Nat.le_trans h.size k.size, Nat.le_trans h.grow k.size, fun i hi hc => (k.block i (Nat.lt_of_lt_of_le hi h.size) (by omega)).trans (h.block i hi hc)⟩
theorem Exc.chg {c n : Nat} {w1 w2 w3 : World} (h : Exc c n w1 w2) (k : Chg c w2 w3) : Exc c n w1 w3 :=
 ⟨k.os.trans h.os, k.tape.trans h.tape, k.output.trans h.output, Nat.le_trans h.size k.size, Nat.le_trans h.grow k.size, fun i hi hc => (k.block i (Nat.lt_of_lt_of_le hi h.size) hc).trans (h.block i hi hc)⟩
theorem Exc.toChg {c : Nat} {w w' : World} (h : Exc c w.heap.size w w') : Chg c w w' := ⟨h.os, h.tape, h.output, h.grow, h.block⟩
theorem set_taC (x y : Int) (u : Nat → Px) (i : Nat) (p : Px) (hi : i < 64) : ((((taC ⟨x, y, u⟩).setIfInBounds (2 + i * 4) (.int .u8 p.r)).setIfInBounds (2 + i * 4 + 1) (.int .u8 p.g)).setIfInBounds (2 + i * 4 + 2) (.int .u8 p.b)).setIfInBounds (2 + i * 4 + 3) (.int .u8 p.a) = taC ⟨x, y, upd u i p⟩ := by
 apply Array.ext_getElem?
 intro k
 rw [taC_get, ← set_tileC u i p hi]
 by_cases h2 : k < 2
 ·rw [if_pos h2]
  rw [Array.getElem?_setIfInBounds, if_neg (by omega), Array.getElem?_setIfInBounds, if_neg (by omega), Array.getElem?_setIfInBounds, if_neg (by omega), Array.getElem?_setIfInBounds, if_neg (by omega), taC_get, if_pos h2]
 ·rw [if_neg h2]
  have hs : (taC ⟨x, y, u⟩).size = 258 := size_taC _
  have ht : (tileC u).size = 256 := size_tileC _
  simp only [Array.getElem?_setIfInBounds, Array.size_setIfInBounds, hs, ht, taC_get, if_neg h2]
  have e : ∀ j, (2 + i * 4 + j = k) ↔ (i * 4 + j = k - 2) := fun j => by omega
  by_cases c3 : 2 + i * 4 + 3 = k
  ·rw [if_pos c3, if_pos ((e 3).1 c3), if_pos (by omega), if_pos (by omega)]
  ·rw [if_neg c3, if_neg (fun h => c3 ((e 3).2 h))]
   by_cases c2 : 2 + i * 4 + 2 = k
   ·rw [if_pos c2, if_pos ((e 2).1 c2), if_pos (by omega), if_pos (by omega)]
   ·rw [if_neg c2, if_neg (fun h => c2 ((e 2).2 h))]
    by_cases c1 : 2 + i * 4 + 1 = k
    ·rw [if_pos c1, if_pos ((e 1).1 c1), if_pos (by omega), if_pos (by omega)]
    ·rw [if_neg c1, if_neg (fun h => c1 ((e 1).2 h))]
     by_cases c0 : 2 + i * 4 = k
     ·rw [if_pos c0, if_pos (by omega), if_pos (by omega), if_pos (by omega)]
     ·rw [if_neg c0, if_neg (by omega)]
theorem run_store_TAp {w : World} {b i : Nat} {x y : Int} {u : Nat → Px} (h : AtB 72 w b (taC ⟨x, y, u⟩)) (hi : i < 64) (p : Px) : (Instr.storeAt 25 (.pointer (some ⟨b, 2 + i * 4, none⟩)) (Px.v p)).run Tryz.prog w =
  .ok () ((((w.setCell ⟨b, 2 + i * 4, none⟩ (.int .u8 p.r)).setCell ⟨b, 2 + i * 4 + 1, none⟩ (.int .u8 p.g)).setCell ⟨b, 2 + i * 4 + 2, none⟩ (.int .u8 p.b)).setCell ⟨b, 2 + i * 4 + 3, none⟩ (.int .u8 p.a)) := by
 have hc : ∀ j, j < 4 → w.cell? ⟨b, 2 + i * 4 + j, none⟩ = (tileC u)[i * 4 + j]? := fun j hj => by
  rw [(cells_of_block h).1, taC_get, if_neg (by omega), show 2 + i * 4 + j - 2 = i * 4 + j by omega]
 have c0 := (hc 0 (by omega)).trans (tileC_at u i 0 hi (by omega))
 have c1 := (hc 1 (by omega)).trans (tileC_at u i 1 hi (by omega))
 have c2 := (hc 2 (by omega)).trans (tileC_at u i 2 hi (by omega))
 have c3 := (hc 3 (by omega)).trans (tileC_at u i 3 hi (by omega))
 have hf := fun j => h.frozen j
 rw [Nat.add_zero] at c0
 simp [go_sem, c0, c1, c2, c3, hf, Px.v]
theorem AtB.set4 {w : World} {b i : Nat} {x y : Int} {u : Nat → Px} (h : AtB 72 w b (taC ⟨x, y, u⟩)) (hi : i < 64) (p : Px) :
  AtB 72 ((((w.setCell ⟨b, 2 + i * 4, none⟩ (.int .u8 p.r)).setCell ⟨b, 2 + i * 4 + 1, none⟩ (.int .u8 p.g)).setCell ⟨b, 2 + i * 4 + 2, none⟩ (.int .u8 p.b)).setCell ⟨b, 2 + i * 4 + 3, none⟩ (.int .u8 p.a)) b (taC ⟨x, y, upd u i p⟩) := by
 unfold AtB
 rw [← set_taC x y u i p hi]
 exact heap_setCell_same _ _ _ _ _ _ (heap_setCell_same _ _ _ _ _ _ (heap_setCell_same _ _ _ _ _ _ (heap_setCell_same _ _ _ _ _ _ h)))
theorem wpList_storeTAp {ops : Array Oper} {rest : List Oper} {o : Oper} {a : Act} {w : World} {Q : Exit → Act → World → Prop} (hg : o.guard = none) (x y : Operand) (ho : o.op = .store 25 x y) (b j : Nat) (hx : a.eval x = .pointer (some ⟨b, j, none⟩)) (q : Px) (hy : a.eval y = Px.v q) {px py : Int} {u : Nat → Px} (ht : AtB 72 w b (taC ⟨px, py, u⟩)) (i : Nat) (hi : i < 64) (hj : j = 2 + i * 4)
  (h : ∀ w', AtB 72 w' b (taC ⟨px, py, upd u i q⟩) → Chg b w w' → w'.heap.size = w.heap.size → wpList Tryz.prog ops Q rest (a.put o.dst undef) w') : wpList Tryz.prog ops Q (o :: rest) a w := by
 subst hj
 refine wpList_storeAny hg x y ho _ ?_ (h _ (ht.set4 hi q) (((((Chg.refl b w).setCell _).setCell _).setCell _).setCell _) (by simp only [World.size_setCell]))
 rw [hx, hy]
 exact run_store_TAp ht hi q
/-! ### mapped -/
/-- The first k pixels of a tile mapped: the state behind them, the tile. -/
def runT {σ : Type} (F : σ → Int → Int → Px → σ × Px) (e : TA) : Nat → σ → σ × (Nat → Px)
 | 0, s => (s, e.t)
 | k + 1, s => ((F (runT F e k s).1 (e.x * 8 + (k : Int) % 8) (e.y * 8 + (k : Int) / 8) (e.t k)).1, upd (runT F e k s).2 k (F (runT F e k s).1 (e.x * 8 + (k : Int) % 8) (e.y * 8 + (k : Int) / 8) (e.t k)).2)
/-- The first k tiles mapped: the state behind them, the tiles that are not transparent. -/
def mapK {σ : Type} (F : σ → Int → Int → Px → σ × Px) (ls : List TA) (s : σ) : Nat → σ × List TA
 | 0 => (s, [])
 | k + 1 => ((runT F (aT ls k) 64 (mapK F ls s k).1).1, (mapK F ls s k).2 ++ newA (aT ls k).x (aT ls k).y (runT F (aT ls k) 64 (mapK F ls s k).1).2)
theorem mapK_length {σ : Type} (F : σ → Int → Int → Px → σ × Px) (ls : List TA) (s : σ) (k : Nat) : (mapK F ls s k).2.length ≤ k := by
 induction k with
 | zero => exact Nat.le_refl _
 | succ k ih =>
  show ((mapK F ls s k).2 ++ newA _ _ _).length ≤ _
  rw [List.length_append]
  have := newA_length (aT ls k).x (aT ls k).y (runT F (aT ls k) 64 (mapK F ls s k).1).2
  omega
theorem runT_tok {σ : Type} {F : σ → Int → Int → Px → σ × Px} (hF : ∀ s x y p, p.ok → (F s x y p).2.ok) {e : TA} (h : Tok e.t) (s : σ) : ∀ k, k ≤ 64 → Tok (runT F e k s).2
 | 0, _ => h
 | k + 1, hk => fun i hi => by
  show (upd _ k _ i).ok
  unfold upd
  split
  ·exact hF _ _ _ _ (h k (by omega))
  ·exact runT_tok hF h s k (by omega) i hi
theorem OwnT.ownlt {B : Nat} {v : Value} {ls : List TA} {w : World} (h : OwnT B v ls w) : ∀ k, v.ownBlock = some k → k < w.heap.size := by
 intro k hk
 obtain ⟨_, h2⟩ := h
 rcases h2 with ⟨rfl, h0⟩ | ⟨g, cap, cur, rfl, hb, hg, _⟩
 ·cases hk
 ·have e : some g = some k := hk
  injection e with e
  subst e
  exact (Array.getElem?_eq_some_iff.1 hg).1
theorem OwnT.chgN {B b : Nat} {v : Value} {ls : List TA} {w w' : World} (h : OwnT B v ls w) (hc : Chg b w w') (hne : ∀ k, v.ownBlock = some k → k ≠ b) : OwnT B v ls w' := by
 refine World.ownsRow.kept (row := some b) h ⟨hc.os, hc.tape, hc.output, hc.size, fun k hk hn => hc.block k hk (fun e => hn (by rw [e]))⟩ ?_
 cases hv : v.ownBlock with
 | none => exact .inl rfl
 | some k =>
  right
  intro e
  injection e with e
  exact hne k hv e
set_option maxHeartbeats 4000000 in
theorem P_mapped {σ : Type} (F : σ → Int → Int → Px → σ × Px) (I : σ → World → Prop) (cb gf : Nat) (lb : Array Value) (eg : Enters Tryz.prog gf) (v : Value) (ls : List TA) (s0 : σ) (w : World) (hs : RS v ls w) (tk : TokL ls) (hn : ls.length ≤ 2000) (hpos : ∀ e ∈ ls, withinB e.x e.y = true)
  (hcb : cb < w.heap.size) (hsep : 0 < ls.length → v.ownBlock ≠ some cb) (hI0 : I s0 w)
  (hIb : ∀ s W W', I s W → (∀ k, k < w.heap.size → W'.heap[k]? = W.heap[k]?) → I s W')
  (hF : ∀ (s : σ) (W : World) (x y : Int) (p : Px), w.heap.size ≤ W.heap.size → I s W → -65536 ≤ x → x ≤ 65535 → -65536 ≤ y → y ≤ 65535 → p.ok →
   Calls Tryz.prog gf (#[.int .i64 x, .int .i64 y, Px.v p] ++ lb) W fun e W' => e = .returned (Px.v (F s x y p).2) ∧ I (F s x y p).1 W' ∧ Chg cb W W')
  (hok : ∀ s x y p, p.ok → (F s x y p).2.ok) :
  Calls Tryz.prog 95 #[v, .func (.func gf) #[] lb] w fun e w' => ∃ v', e = .returned v' ∧ OwnT w.heap.size v' (mapK F ls s0 ls.length).2 w' ∧ I (mapK F ls s0 ls.length).1 w' ∧ Chg cb w w' := by
 have eg' : ∀ args w, (callFunc gf args).run Tryz.prog w = .ok (.enter gf args) w := eg
 obtain ⟨a, c, rfl, hc⟩ := hs.len
 have HS := Lib.hid hs
 have HK := Lib.hid tk
 have HP := Lib.hid hpos
 have HF := Lib.hid hF
 have HI := Lib.hid hIb
 have HO := Lib.hid hok
 have SEP := Lib.hid hsep
 have B := Exc.refl cb w
 have od := OwnT.nil w.heap.size w
 have hI := hI0
 clear hs tk hpos hF hIb hok hI0 hsep
 go_enter Tryz.func95, Tryz.ntmps95
 go_wp2
 go_loopw [5, 7, 8, 9, 12] (fun out _ _ _ i wr => ∃ (k : Nat) (a5 : Option Addr) (n5 c5 : Nat), k ≤ ls.length ∧ i = .int .i64 k ∧ out = .slice a5 n5 c5 ∧ n5 = (mapK F ls s0 k).2.length ∧ Exc cb w.heap.size w wr ∧ OwnT w.heap.size (.slice a5 n5 c5) (mapK F ls s0 k).2 wr ∧ I (mapK F ls s0 k).1 wr) (fun _ _ _ _ i _ => (ls.length - intOf i).toNat)
 case atStart => exact ⟨0, none, 0, 0, by omega, rfl, rfl, rfl, B, od, hI⟩
 case round =>
  clear B od hI
  obtain ⟨k, a5, n5, c5, hk, rfl, rfl, hn5, B, od, hI⟩ := hrel
  have HN5 := Lib.hid hn5
  clear hn5
  have hml := mapK_length F ls s0 k
  obtain ⟨⟨s, acc⟩, hsm⟩ : ∃ m, mapK F ls s0 k = m := ⟨_, rfl⟩
  rw [hsm] at od hI hml
  have HN5' := Lib.hid (show n5 = acc.length from by have := HN5.out; rw [hsm] at this; exact this)
  have HSM := Lib.hid hsm
  clear hsm HN5
  have od : OwnT w.heap.size (.slice a5 n5 c5) acc _ := od
  have hI : I s _ := hI
  have hml : acc.length ≤ k := hml
  by_cases hkl : k < ls.length
  ·obtain ⟨gg, o, rfl, rc0⟩ := HS.out.at (by omega)
   have hg0 := rc0.lt
   have hgc : gg ≠ cb := fun e => (SEP.out (by omega)) (by rw [e]; rfl)
   have rc := rc0.of_eq (B.block _ rc0.lt hgc)
   clear rc0
   obtain ⟨⟨x, y, t⟩, he⟩ : ∃ e, aT ls k = e := ⟨_, rfl⟩
   have htk : Tok t := by have := HK.out.at hkl; rw [he] at this; exact this
   have hT := Lib.hid htk
   have hw := HP.out _ (List.mem_iff_getElem?.2 ⟨k, aT_at hkl⟩)
   rw [he] at hw
   have hw := of_decide_eq_true hw
   obtain ⟨w1, w2, w3, w4⟩ := hw
   have HOB := Lib.hid od.ownlt
   have hsz0 := B.size
   go_wp2_with (first | (refine wpList_loadAny (t := 70) rfl _ rfl _ _ _ rfl (ta_tile t1) (by first | rfl | omega) ?_; simp only [putS]) | (refine wpList_storeB (t := 72) rfl _ _ rfl _ rfl _ rfl t1 (by rw [size_taC]; kernel_rfl) (by simp only [size_taC, size_zTA]) (taC_all _) ?_; clear t1; intro wn ht hcn hzn; have hsz := B.size; replace hzn := Nat.le_of_eq hzn.symm; replace B := Exc.store B hcn (by omega); replace hI := HI.out _ _ _ hI (fun k hk => hcn.block k (by omega) (by omega)); replace od := od.chgN hcn (fun kk hkk => Nat.ne_of_lt (Nat.lt_of_lt_of_le (HOB.out kk hkk) (by omega))); (try replace q1 := q1.of_eq (hcn.block _ q1.lt (by omega))); (try replace od := od.of_eq (hcn.block _ od.lt (by omega))); have t1 := ht; clear ht; simp only [putS]) | (refine wpList_allocBk (t := 72) rfl _ (run_alloc_TA _ _ rfl) ?_; intro b_t1 wn hle hge ht hbn hzn; have hsz := B.size; replace B := B.trans (hbn.mono (by omega)); replace hI := HI.out _ _ _ hI (fun k hk => hbn.block k (by omega)); have hln := Nat.lt_of_lt_of_eq (Nat.lt_succ_self _) hzn.symm; clear hzn; (try have hlt := t1.lt); (try replace t1 := t1.below (hbn.mono hle)); (try have hlt := q1.lt); (try replace q1 := q1.below (hbn.mono hle)); (try have hlt := od.lt); (try replace od := od.below (hbn.mono hle)); have t1 := ht; clear ht; simp only [putS]) | (refine wpList_loadAny (t := 72) rfl _ rfl _ _ _ rfl (rc_ta rc hkl he) (by first | rfl | omega) ?_; simp only [putS]) | fail)
   have hb1 := hle
   have hmul1 : (2 : Nat) ≤ 2 := Nat.le_refl _
   go_loopw [8, 9, 18] (fun _ _ j wx => ∃ i : Nat, i ≤ 64 ∧ j = .int .i64 i ∧ Exc cb w.heap.size w wx ∧ b_t1 < wx.heap.size ∧ AtB 72 wx b_t1 (taC ⟨x, y, (runT F ⟨x, y, t⟩ i s).2⟩) ∧ OwnT w.heap.size (.slice a5 n5 c5) acc wx ∧ I (runT F ⟨x, y, t⟩ i s).1 wx) (fun _ _ j _ => (64 - intOf j).toNat)
   case atStart => exact ⟨0, by omega, rfl, B, t1.lt, t1, od, hI⟩
   case round =>
    clear B t1 od hI
    obtain ⟨i, hi, rfl, B, hbl, t1, od, hI⟩ := hrel
    by_cases hil : i < 64
    ·have hix := index_tile t i hil
     have hpk : (t i).ok := hT.out i hil
     have d8 : (0 : Int) ≤ (i : Int) % 8 ∧ (i : Int) % 8 < 8 := by omega
     have d9 : (0 : Int) ≤ (i : Int) / 8 ∧ (i : Int) / 8 < 8 := by omega
     obtain ⟨u, hu⟩ : ∃ u, runT F ⟨x, y, t⟩ i s = u := ⟨_, rfl⟩
     rw [hu] at t1 hI
     have HU := Lib.hid hu
     clear hu
     go_wp2_with (first | (refine wpList_storeTAp rfl _ _ rfl _ _ rfl (_) rfl t1 (i) (hil) (by first | rfl | omega) ?_; clear t1; intro wn ht hcn hzn; have hsz := B.size; replace hzn := Nat.le_of_eq hzn.symm; replace B := Exc.store B hcn (by omega); replace hI := HI.out _ _ _ hI (fun k hk => hcn.block k (by omega) (by omega)); replace od := od.chgN hcn (fun kk hkk => Nat.ne_of_lt (Nat.lt_of_lt_of_le (HOB.out kk hkk) (by omega))); (try replace q1 := q1.of_eq (hcn.block _ q1.lt (by omega))); have t1 := ht; clear ht; simp only [putS]) | (go_at_fn gf; refine (HF.out _ _ _ _ _ (by omega) hI (by omega) (by omega) (by omega) (by omega) hpk).mono ?_; rintro e' wn ⟨rfl, hI, hcc⟩; have hsz := B.size; have hzn := hcc.size; replace B := B.chg hcc; replace t1 := t1.of_eq (hcc.block _ t1.lt (by omega)); replace od := od.chg hcc hcb) | (refine wpList_loadAny (t := 3) rfl _ rfl _ _ _ rfl (run_load_int (t1.cell 0 (taC_x _))) (by first | rfl | omega) ?_; simp only [putS]) | (refine wpList_loadAny (t := 3) rfl _ rfl _ _ _ rfl (run_load_int (t1.cell 1 (taC_y _))) (by first | rfl | omega) ?_; simp only [putS]) | (refine wpList_loadPx rfl _ rfl _ rfl q1 ?_; simp only [putS]) | (refine wpList_storePx rfl _ _ rfl _ rfl (_) rfl q1 ?_; clear q1; intro wn ht hcn hzn; have hsz := B.size; replace hzn := Nat.le_of_eq hzn.symm; replace B := Exc.store B hcn (by omega); replace hI := HI.out _ _ _ hI (fun k hk => hcn.block k (by omega) (by omega)); replace od := od.chgN hcn (fun kk hkk => Nat.ne_of_lt (Nat.lt_of_lt_of_le (HOB.out kk hkk) (by omega))); (try replace t1 := t1.of_eq (hcn.block _ t1.lt (by omega))); have q1 := ht; clear ht; simp only [putS]) | (refine wpList_allocPx' rfl rfl ?_; intro b_q1 wn hle hge ht hbn hzn; have hsz := B.size; replace B := B.trans (hbn.mono (by omega)); replace hI := HI.out _ _ _ hI (fun k hk => hbn.block k (by omega)); have hln := Nat.lt_of_lt_of_eq (Nat.lt_succ_self _) hzn.symm; clear hzn; (try replace od := od.below (hbn.mono hle)); (try have hlt := t1.lt); (try replace t1 := t1.below (hbn.mono hle)); (try have hlt := q1.lt); (try replace q1 := q1.below (hbn.mono hle)); (try have hlt := od.lt); (try replace od := od.below (hbn.mono hle)); have q1 := ht; clear ht; simp only [putS]) | fail)
     go_roundw
     case rel => exact ⟨i + 1, by omega, by go_num, B, by have := t1.lt; omega, by show AtB _ _ _ (taC ⟨x, y, upd (runT F ⟨x, y, t⟩ i s).2 i (F (runT F ⟨x, y, t⟩ i s).1 (x * 8 + (i : Int) % 8) (y * 8 + (i : Int) / 8) (t i)).2⟩); rw [HU.out]; exact t1, od, by show I (F (runT F ⟨x, y, t⟩ i s).1 (x * 8 + (i : Int) % 8) (y * 8 + (i : Int) / 8) (t i)).1 _; rw [HU.out]; exact hI⟩
     case measure => simp [intOf]; omega
    ·obtain rfl : i = 64 := by omega
     obtain ⟨⟨s', u⟩, hu⟩ : ∃ u, runT F ⟨x, y, t⟩ 64 s = u := ⟨_, rfl⟩
     have hut : Tok u := by have := runT_tok (e := ⟨x, y, t⟩) HO.out hT.out s 64 (Nat.le_refl _); rw [hu] at this; exact this
     rw [hu] at t1 hI
     have HU := Lib.hid hu
     clear hu
     have t1 : AtB 72 _ b_t1 (taC ⟨x, y, u⟩) := t1
     have hI : I s' _ := hI
     have es := Lib.hid (show mapK F ls s0 (k + 1) = (s', acc ++ newA x y u) from by
      show ((runT F (aT ls k) 64 (mapK F ls s0 k).1).1, (mapK F ls s0 k).2 ++ newA (aT ls k).x (aT ls k).y (runT F (aT ls k) 64 (mapK F ls s0 k).1).2) = _
      rw [HSM.out, he, HU.out])
     cases hz : zeroB u with
     | true =>
      have HN := Lib.hid (show newA x y u = [] from by unfold newA; rw [hz]; rfl)
      go_wp2_with (first | (go_at_call 92; refine (P_Zero _ _ hut).mono ?_; rintro e wn ⟨rfl, hbn⟩; have hsz := B.size; have hzn := hbn.size; replace B := B.trans (hbn.mono B.size); replace hI := HI.out _ _ _ hI (fun k hk => hbn.block k (by omega)); (try replace t1 := t1.below hbn); (try replace od := od.below hbn)) | (refine wpList_loadAny (t := 70) rfl _ rfl _ _ _ rfl (ta_tile t1) (by first | rfl | omega) ?_; simp only [putS]) | fail)
      go_roundw
      case rel => exact ⟨k + 1, _, _, _, by omega, by go_num, rfl, by rw [es.out, HN.out]; simp [HN5'.out], B, by rw [es.out, HN.out]; simpa using od, by rw [es.out]; exact hI⟩
      case measure => simp [intOf]; omega
     | false =>
      have HN := Lib.hid (show newA x y u = [⟨x, y, u⟩] from by unfold newA; rw [hz]; rfl)
      have hlen : acc.length + 1 ≤ 100000 := by omega
      have hn5 := HN5'.out
      clear HN5'
      subst hn5
      go_wp2_with (first | (at_builtin; refine wpList_appendT rfl _ _ rfl _ _ rfl rfl od ((RS.one s1)) (by simp only [List.length_cons, List.length_nil]; omega) (by omega) ?_; intro v_od wn ht hbn; have hsz := B.size; have hzn := hbn.size; replace B := B.trans (hbn.mono (by omega)); replace hI := HI.out _ _ _ hI (fun k hk => hbn.block k (by omega)); clear od; have od := ht; clear ht; obtain ⟨a_od, c_od, hv, hco⟩ := od.len; (try simp only [List.length_append, List.length_cons, List.length_nil, Nat.zero_add] at hv hco); subst hv; simp only [putS]) | (refine wpList_bs1T rfl _ rfl ⟨x, y, u⟩ (by rfl) ?_; intro b_s1 wn hle hge ht hbn hzn; have hsz := B.size; replace B := B.trans (hbn.mono (by omega)); replace hI := HI.out _ _ _ hI (fun k hk => hbn.block k (by omega)); have hln := Nat.lt_of_lt_of_eq (Nat.lt_succ_self _) hzn.symm; clear hzn; (try have hlt := od.lt); (try replace od := od.below (hbn.mono hle)); have s1 := ht; clear ht; simp only [putS]) | (refine wpList_loadAny (t := 72) rfl _ rfl _ _ _ rfl (run_load_B t1 Tryz.isAgg72 (ta_size _)) (by rfl) ?_; simp only [putS]) | (go_at_call 92; refine (P_Zero _ _ hut).mono ?_; rintro e wn ⟨rfl, hbn⟩; have hsz := B.size; have hzn := hbn.size; replace B := B.trans (hbn.mono B.size); replace hI := HI.out _ _ _ hI (fun k hk => hbn.block k (by omega)); (try replace t1 := t1.below hbn); (try replace od := od.below hbn)) | (refine wpList_loadAny (t := 70) rfl _ rfl _ _ _ rfl (ta_tile t1) (by first | rfl | omega) ?_; simp only [putS]) | fail)
      go_roundw
      case rel => exact ⟨k + 1, _, _, _, by omega, by go_num, rfl, by rw [es.out, HN.out]; simp, B, by rw [es.out, HN.out]; exact od, by rw [es.out]; exact hI⟩
      case measure => simp [intOf]; omega
  ·obtain rfl : k = ls.length := by omega
   go_wp2
   go_ret
   exact ⟨_, rfl, by rw [HSM.out]; exact od, by rw [HSM.out]; exact hI, B.toChg⟩
/- Contracts of Bounds and Crop of package raster. -/
def rcA (r : Rc) : Array Value := #[.int .i64 r.x0, .int .i64 r.y0, .int .i64 r.x1, .int .i64 r.y1]
def boundF (s : Rc) (x y : Int) (p : Px) : Rc × Px := (if 0 < p.a then unionR s ⟨x, y, x + 1, y + 1⟩ else s, p)
def boundL (ls : List TA) : Rc := (mapK boundF ls Rc.zero ls.length).1
def cropF (c : Rc) (s : Unit) (x y : Int) (p : Px) : Unit × Px := ((), if hasR c x y = true then p else Px.zero)
def cropL (c : Rc) (ls : List TA) : List TA := (mapK (cropF c) ls () ls.length).2
theorem boundF_ok (s : Rc) (x y : Int) (p : Px) (h : p.ok) : (boundF s x y p).2.ok := h
theorem rs_sep {v : Value} {ls : List TA} {w : World} (h : RS v ls w) {cb : Nat} (hc : w.heap.size ≤ cb) : 0 < ls.length → v.ownBlock ≠ some cb := by
 intro hn e
 rcases h with ⟨rfl, rfl⟩ | ⟨g, o, c, rfl, _, sc⟩
 ·exact absurd hn (by decide)
 ·have e : some g = some cb := e
  injection e with e
  have := (sc hn).lt
  omega
theorem fine_pos (ls : List TA) : ∀ e ∈ fineL ls, withinB e.x e.y = true := fun e he => by
 have := validL_good (fineL_valid ls) e he
 unfold goodA at this
 exact (Bool.and_eq_true_iff.1 this).1
theorem px_a {w : World} {b : Nat} {p : Px} (h : PixAt w b p) : w.cell? ⟨b, 3, none⟩ = some (.int .u8 p.a) := ((cells_of_block h).1 3).trans rfl
theorem P_Bounds1 (s : Rc) (x y : Int) (p : Px) (cb : Nat) (w : World) (r0 : AtB 30 w cb (rcA s)) (hx0 : -65536 ≤ x) (hx : x ≤ 65535) (hy0 : -65536 ≤ y) (hy : y ≤ 65535) (hp : p.ok) : Calls Tryz.prog 96 #[.int .i64 x, .int .i64 y, Px.v p, .pointer (some ⟨cb, 0, none⟩)] w fun e w' => e = .returned (Px.v (boundF s x y p).2) ∧ AtB 30 w' cb (rcA (boundF s x y p).1) ∧ Chg cb w w' := by
 have B := Exc.refl cb w
 have hcb := r0.lt
 obtain ⟨_, _, _, hp1, hp2⟩ := hp
 by_cases ha : 0 < p.a
 ·have e1 := Lib.hid (show boundF s x y p = (unionR s ⟨x, y, x + 1, y + 1⟩, p) from by unfold boundF; rw [if_pos ha])
  have d1 : decide (0 < p.a) = true := decide_eq_true ha
  go_enter Tryz.func96, Tryz.ntmps96
  go_wp2_with (first | (refine wpList_storePx rfl _ _ rfl _ rfl (_) rfl q2 ?_; clear q2; intro wn ht hcn hzn; have hsz := B.size; replace hzn := Nat.le_of_eq hzn.symm; replace B := Exc.store B hcn (by omega); (try replace r0 := r0.of_eq (hcn.block _ r0.lt (by omega))); (try replace q1 := q1.of_eq (hcn.block _ q1.lt (by omega))); have q2 := ht; clear ht; simp only [putS]) | (refine wpList_loadPx rfl _ rfl _ rfl q1 ?_; simp only [putS]) | (refine wpList_storeB (t := 30) rfl _ _ rfl _ rfl _ rfl r0 (by kernel_rfl) rfl (by simp [Value.oneCell']) ?_; clear r0; intro wn ht hcn hzn; have hsz := B.size; replace hzn := Nat.le_of_eq hzn.symm; replace B := Exc.chg B hcn; (try replace q1 := q1.of_eq (hcn.block _ q1.lt (by omega))); (try replace q2 := q2.of_eq (hcn.block _ q2.lt (by omega))); have r0 := ht; clear ht; simp only [putS]) | (go_at_call 97; refine (P_Union s ⟨x, y, x + 1, y + 1⟩ _).mono ?_; rintro e wn ⟨rfl, hbn⟩; have hsz := B.size; have hzn := hbn.size; replace B := B.trans (hbn.mono B.size); (try replace r0 := r0.below hbn); (try replace q1 := q1.below hbn); (try replace q2 := q2.below hbn)) | (refine wpList_loadAny (t := 30) rfl _ rfl _ _ _ rfl (run_load_B r0 Tryz.isAgg30 (by kernel_rfl)) (by rfl) ?_; simp only [putS]) | (refine wpList_loadAny (t := 5) rfl _ rfl _ _ _ rfl (run_load_u8 (px_a q1)) (by rfl) ?_; simp only [putS]) | (have _ := q1; refine wpList_allocPx' rfl rfl ?_; intro b_q2 wn hle hge ht hbn hzn; have hsz := B.size; replace B := B.trans (hbn.mono (by omega)); have hln := Nat.lt_of_lt_of_eq (Nat.lt_succ_self _) hzn.symm; clear hzn; (try have hlt := r0.lt); (try replace r0 := r0.below (hbn.mono hle)); (try have hlt := q1.lt); (try replace q1 := q1.below (hbn.mono hle)); (try have hlt := q2.lt); (try replace q2 := q2.below (hbn.mono hle)); have q2 := ht; clear ht; simp only [putS]) | (refine wpList_boxPx' rfl _ rfl _ rfl ?_; intro b_q1 wn hle hge ht hbn hzn; have hsz := B.size; replace B := B.trans (hbn.mono (by omega)); have hln := Nat.lt_of_lt_of_eq (Nat.lt_succ_self _) hzn.symm; clear hzn; (try have hlt := r0.lt); (try replace r0 := r0.below (hbn.mono hle)); (try have hlt := q1.lt); (try replace q1 := q1.below (hbn.mono hle)); (try have hlt := q2.lt); (try replace q2 := q2.below (hbn.mono hle)); have q1 := ht; clear ht; simp only [putS]) | fail)
  refine bodyPost_ret (results_px rfl _ _ (b_q2) rfl q2) rfl ?_
  exact ⟨by rw [e1.out], by rw [e1.out]; exact r0, B.toChg⟩
 ·have e1 := Lib.hid (show boundF s x y p = (s, p) from by unfold boundF; rw [if_neg ha])
  have d1 : decide (0 < p.a) = false := decide_eq_false ha
  go_enter Tryz.func96, Tryz.ntmps96
  go_wp2_with (first | (refine wpList_storePx rfl _ _ rfl _ rfl (_) rfl q2 ?_; clear q2; intro wn ht hcn hzn; have hsz := B.size; replace hzn := Nat.le_of_eq hzn.symm; replace B := Exc.store B hcn (by omega); (try replace r0 := r0.of_eq (hcn.block _ r0.lt (by omega))); (try replace q1 := q1.of_eq (hcn.block _ q1.lt (by omega))); have q2 := ht; clear ht; simp only [putS]) | (refine wpList_loadPx rfl _ rfl _ rfl q1 ?_; simp only [putS]) | (refine wpList_loadAny (t := 5) rfl _ rfl _ _ _ rfl (run_load_u8 (px_a q1)) (by rfl) ?_; simp only [putS]) | (have _ := q1; refine wpList_allocPx' rfl rfl ?_; intro b_q2 wn hle hge ht hbn hzn; have hsz := B.size; replace B := B.trans (hbn.mono (by omega)); have hln := Nat.lt_of_lt_of_eq (Nat.lt_succ_self _) hzn.symm; clear hzn; (try have hlt := r0.lt); (try replace r0 := r0.below (hbn.mono hle)); (try have hlt := q1.lt); (try replace q1 := q1.below (hbn.mono hle)); (try have hlt := q2.lt); (try replace q2 := q2.below (hbn.mono hle)); have q2 := ht; clear ht; simp only [putS]) | (refine wpList_boxPx' rfl _ rfl _ rfl ?_; intro b_q1 wn hle hge ht hbn hzn; have hsz := B.size; replace B := B.trans (hbn.mono (by omega)); have hln := Nat.lt_of_lt_of_eq (Nat.lt_succ_self _) hzn.symm; clear hzn; (try have hlt := r0.lt); (try replace r0 := r0.below (hbn.mono hle)); (try have hlt := q1.lt); (try replace q1 := q1.below (hbn.mono hle)); (try have hlt := q2.lt); (try replace q2 := q2.below (hbn.mono hle)); have q1 := ht; clear ht; simp only [putS]) | fail)
  refine bodyPost_ret (results_px rfl _ _ (b_q2) rfl q2) rfl ?_
  exact ⟨by rw [e1.out], by rw [e1.out]; exact r0, B.toChg⟩
set_option maxHeartbeats 1000000 in
theorem P_BoundsR (v : Value) (ls : List TA) (w : World) (h : RS v ls w) (tk : TokL ls) (hn : ls.length ≤ maxLen) : Calls Tryz.prog 59 #[.agg #[v]] w fun e w' => e = .returned (Rc.v (boundL (fineL ls))) ∧ Below w.heap.size w w' := by
 have B := Below.refl w.heap.size w
 obtain ⟨a', c', hT⟩ := P_tiles v ls w h tk hn
 have HR0 := Lib.hid (hT w (Below.refl _ _)).2
 have HT := Lib.hid hT
 clear hT
 obtain ⟨a, c, rfl, hc⟩ := h.len
 have TK := Lib.hid (fineL_tok tk)
 have HP := Lib.hid (fine_pos ls)
 have hfl := fineL_length ls
 have eg := enters_of Tryz.func96 (by kernel_rfl) rfl
 go_enter Tryz.func59, Tryz.ntmps59
 go_upto_region 2 with (first | (have _ := r2; refine wpList_allocBk (t := 30) rfl _ (run_alloc_Rc _ _ rfl) ?_; intro b_r0 wn hle hge ht hbn hzn; have hsz := B.size; replace B := B.trans (hbn.mono (by omega)); have hln := Nat.lt_of_lt_of_eq (Nat.lt_succ_self _) hzn.symm; clear hzn; (try have hlt := r1.lt); (try replace r1 := r1.below (hbn.mono hle)); (try have hlt := r2.lt); (try replace r2 := r2.below (hbn.mono hle)); (try have hlt := r0.lt); (try replace r0 := r0.below (hbn.mono hle)); have r0 := ht; clear ht; simp only [putS]) | (have _ := r1; refine wpList_allocBk (t := 30) rfl _ (run_alloc_Rc _ _ rfl) ?_; intro b_r2 wn hle hge ht hbn hzn; have hsz := B.size; replace B := B.trans (hbn.mono (by omega)); have hln := Nat.lt_of_lt_of_eq (Nat.lt_succ_self _) hzn.symm; clear hzn; (try have hlt := r1.lt); (try replace r1 := r1.below (hbn.mono hle)); (try have hlt := r2.lt); (try replace r2 := r2.below (hbn.mono hle)); (try have hlt := r0.lt); (try replace r0 := r0.below (hbn.mono hle)); have r2 := ht; clear ht; simp only [putS]) | (refine wpList_boxB (t := 34) rfl _ rfl _ rfl ?_; intro b_r1 wn hle hge ht hbn hzn; have hsz := B.size; replace B := B.trans (hbn.mono (by omega)); have hln := Nat.lt_of_lt_of_eq (Nat.lt_succ_self _) hzn.symm; clear hzn; (try have hlt := r1.lt); (try replace r1 := r1.below (hbn.mono hle)); (try have hlt := r2.lt); (try replace r2 := r2.below (hbn.mono hle)); (try have hlt := r0.lt); (try replace r0 := r0.below (hbn.mono hle)); have r1 := ht; clear ht; simp only [putS]) | fail)
 have k0 : w.heap.size ≤ b_r0 := by omega
 have k1 : b_r2 < b_r0 := by have := r2.lt; omega
 go_wp2_with (first | (go_at_call 95; have hr0 := r0.lt; have hsp := rs_sep HR0.out k0; have hsz := B.size; refine (P_mapped boundF (fun s W => AtB 30 W b_r0 (rcA s)) b_r0 96 #[.pointer (some ⟨b_r0, 0, none⟩)] eg _ (fineL ls) Rc.zero _ (HT.out _ B).2 TK.out (by omega) HP.out hr0 hsp r0 (fun s W W' hI hk => hI.of_eq (hk _ hr0)) (fun s W x y p _ hI h1 h2 h3 h4 hp => P_Bounds1 s x y p b_r0 W hI h1 h2 h3 h4 hp) boundF_ok).mono ?_; rintro e wn ⟨v1, rfl, _, hI, hcc⟩; have hzn := hcc.size; replace r2 := r2.of_eq (hcc.block _ r2.lt (by omega)); replace B := Chg.below B hcc k0 hsz; have r0 := hI; clear hI) | (go_at_call 50; refine (HT.out _ B).1.mono ?_; rintro e wn ⟨rfl, hbn⟩; have hsz := B.size; have hzn := hbn.size; replace B := B.trans (hbn.mono B.size); (try replace r1 := r1.below hbn); (try replace r2 := r2.below hbn); (try replace r0 := r0.below hbn)) | (refine wpList_loadAny (t := 34) rfl _ rfl _ _ _ rfl (run_load_B r1 Tryz.isAgg34 (by kernel_rfl)) (by rfl) ?_; simp only [putS]) | (refine wpList_loadAny (t := 30) rfl _ rfl _ _ _ rfl (run_load_B r0 Tryz.isAgg30 (by kernel_rfl)) (by rfl) ?_; simp only [putS]) | (refine wpList_storeB (t := 30) rfl _ _ rfl _ rfl _ rfl r2 (by kernel_rfl) rfl (by simp [rcA, Value.oneCell']) ?_; clear r2; intro wn ht hcn hzn; have hsz := B.size; replace hzn := Nat.le_of_eq hzn.symm; replace B := Chg.below B hcn (by omega) B.size; (try replace r1 := r1.of_eq (hcn.block _ r1.lt (by omega))); (try replace r0 := r0.of_eq (hcn.block _ r0.lt (by omega))); have r2 := ht; clear ht; simp only [putS]) | fail)
 refine bodyPost_ret (results_B (t := 30) rfl _ _ (b_r2) rfl r2 Tryz.isAgg30 (by kernel_rfl)) rfl ?_
 exact ⟨rfl, B⟩
/- Contracts of the reference's Bounds and Crop. -/
end Go.Proofs.YtamgpfblhlfhaaaGreat
/- Slices of elements of whatever type: rows in memory, rows that the call owns; append, literals of one element. -/
namespace Go.Proofs.YtamgpfblhlfhaaaGreat
open Go.RowKit
set_option linter.unusedVariables false
set_option linter.unusedSimpArgs false
set_option maxRecDepth 20000
/-- An element type: T the element's, ST the slice's number; its k cells. -/
structure Elt (α : Type) (k : Nat) (T ST : TypeId) where
 enc : α → Array Value
 bytes : Nat
 zero : α
 size : ∀ x, (enc x).size = k
 one : ∀ x, ∀ u ∈ (enc x).toList, u.oneCell' = true
 pos : 0 < k
 small : bytes ≤ 1000
 und : Tryz.prog.underlying ST = some (.slice T)
 info : (Tryz.prog.info? T).map (fun i => (i.size, i.bytes)) = some (k, bytes)
 zer : ((Tryz.prog.info? T).bind (·.zero)).map Value.cells = some (enc zero)
section
variable {α : Type} {k : Nat} {T ST : TypeId} (E : Elt α k T ST)
theorem Elt.facts : ∃ i z, Tryz.prog.info? T = some i ∧ i.zero = some z ∧ i.size = k ∧ i.bytes = E.bytes ∧ z.cells = E.enc E.zero := by
 have h1 := E.info
 have h2 := E.zer
 cases hi : Tryz.prog.info? T with
 | none => rw [hi] at h1; cases h1
 | some i =>
  rw [hi] at h1 h2
  cases hz : i.zero with
  | none => simp [hz] at h2
  | some z =>
   simp [hz] at h1 h2
   exact ⟨i, z, rfl, hz, h1.1, h1.2, h2⟩
/-- The cells of a row. -/
def rowE : List α → List Value
 | [] => []
 | e :: r => (E.enc e).toList ++ rowE r
theorem rowE_append (a b : List α) : rowE E (a ++ b) = rowE E a ++ rowE E b := by
 induction a with
 | nil => rfl
 | cons e r ih => rw [List.cons_append]; show _ ++ rowE E (r ++ b) = _; rw [ih]; show _ = (_ ++ _) ++ _; rw [List.append_assoc]
theorem rowE_length (ls : List α) : (rowE E ls).length = ls.length * k := by
 induction ls with
 | nil => simp [rowE]
 | cons e r ih => show ((E.enc e).toList ++ rowE E r).length = _; rw [List.length_append, ih, Array.length_toList, E.size, List.length_cons, Nat.succ_mul]; omega
theorem rowE_at (ls : List α) : ∀ i x, ls[i]? = some x → ∀ j, j < k → (rowE E ls)[i * k + j]? = (E.enc x)[j]? := by
 induction ls with
 | nil => intro i x hi; simp at hi
 | cons e r ih =>
  intro i x hi j hj
  show ((E.enc e).toList ++ rowE E r)[i * k + j]? = _
  cases i with
  | zero =>
   have hx : e = x := by simpa using hi
   rw [List.getElem?_append_left (by rw [Array.length_toList, E.size]; omega), Array.getElem?_toList, Nat.zero_mul, Nat.zero_add, hx]
  | succ i =>
   rw [List.getElem?_append_right (by rw [Array.length_toList, E.size, Nat.succ_mul]; omega), Array.length_toList, E.size, show (i + 1) * k + j - k = i * k + j by rw [Nat.succ_mul]; omega, ih i x (by simpa using hi) j hj]
theorem rowE_oneCell (ls : List α) : ∀ u ∈ rowE E ls, u.oneCell' = true := by
 induction ls with
 | nil => intro u hu; cases hu
 | cons e r ih =>
  intro u hu
  rcases List.mem_append.1 hu with hu | hu
  ·exact E.one e u hu
  ·exact ih u hu
theorem div_mod_lt {k j n : Nat} (hk : 0 < k) (h : j < n * k) : j / k < n ∧ j % k < k ∧ j = (j / k) * k + j % k := by
 refine ⟨Nat.div_lt_of_lt_mul (by rw [Nat.mul_comm]; exact h), Nat.mod_lt _ hk, ?_⟩
 rw [Nat.mul_comm]
 exact (Nat.div_add_mod j k).symm
/-- The cells of block g from o on are those of the row ls. -/
def RCellsE (g o : Nat) (ls : List α) (w : World) : Prop := g < w.heap.size ∧ ∀ i x, ls[i]? = some x → ∀ j, j < k → w.cell? ⟨g, o + (i * k + j), none⟩ = (E.enc x)[j]?
section
variable {E} {g o : Nat} {ls : List α} {w w' : World}
theorem RCellsE.lt (h : RCellsE E g o ls w) : g < w.heap.size := h.1
theorem RCellsE.of_eq (h : RCellsE E g o ls w) (e : w'.heap[g]? = w.heap[g]?) : RCellsE E g o ls w' := by
 refine ⟨?_, fun i x hi j hj => ?_⟩
 ·have := h.1
  rcases Nat.lt_or_ge g w'.heap.size with k | k
  ·exact k
  ·rw [Array.getElem?_eq_none k, Array.getElem?_eq_getElem this] at e
   cases e
 ·rw [World.cell?_of_block (w := w) e]
  exact h.2 i x hi j hj
theorem RCellsE.below {α : Type} {k : Nat} {T ST : TypeId} {E : Elt α k T ST} {g o : Nat} {ls : List α} {w w' : World} (h : RCellsE E g o ls w) (e : Below w.heap.size w w') : RCellsE E g o ls w' := h.of_eq (e.block _ h.lt)
theorem RCellsE.drop (h : RCellsE E g o ls w) (n : Nat) : RCellsE E g (o + n * k) (ls.drop n) w :=
 ⟨h.1, fun i x hi j hj => by
  rw [List.getElem?_drop] at hi
  have := h.2 (n + i) x hi j hj
  rw [Nat.add_mul] at this
  rw [← this]
  congr 2
  omega⟩
theorem RCellsE.take (h : RCellsE E g o ls w) (n : Nat) : RCellsE E g o (ls.take n) w :=
 ⟨h.1, fun i x hi j hj => by
  rw [List.getElem?_take] at hi
  split at hi
  ·exact h.2 i x hi j hj
  ·cases hi⟩
theorem RCellsE.row (h : RCellsE E g o ls w) (j : Nat) (u : Value) (hu : (rowE E ls)[j]? = some u) : w.cell? ⟨g, o + j, none⟩ = some u := by
 have hj : j < ls.length * k := by rw [← rowE_length E]; exact (List.getElem?_eq_some_iff.1 hu).1
 obtain ⟨h1, h2, h3⟩ := div_mod_lt E.pos hj
 have hx : ls[j / k]? = some ls[j / k] := List.getElem?_eq_getElem h1
 rw [h3, rowE_at E ls _ _ hx _ h2] at hu
 have := h.2 _ _ hx _ h2
 rw [hu, ← h3] at this
 exact this
/-- An element loaded. -/
theorem RCellsE.load (h : RCellsE E g o ls w) (hagg : ∀ w : World, (isAgg T).run Tryz.prog w = .ok true w) {i : Nat} {x : α} (hi : ls[i]? = some x) : (Instr.loadAt T (.pointer (some ⟨g, o + i * k, none⟩))).run Tryz.prog w = .ok (.agg (E.enc x)) w := by
 obtain ⟨f, z, hf, _, hs, _, _⟩ := E.facts
 simp only [Instr.loadAt, Instr.sureAddr, Sem.run_bind, Sem.run_pure, Result.andThen_ok]
 have hl : (loadCells ⟨g, o + i * k, none⟩ (E.enc x).toList.length).run Tryz.prog w = .ok (E.enc x).toList.toArray w :=
  run_loadCells_list (P := Tryz.prog) w ⟨g, o + i * k, none⟩ (E.enc x).toList (fun j v hv => by
   have hadd : (⟨g, o + i * k, none⟩ : Addr).add j = ⟨g, o + i * k + j, none⟩ := by unfold Addr.add; split <;> simp_all
   have hj : j < k := by
    have := (List.getElem?_eq_some_iff.1 hv).1
    rw [Array.length_toList, E.size] at this
    exact this
   rw [hadd, Nat.add_assoc, h.2 i x hi j hj]
   simpa using hv)
 rw [Array.length_toList, E.size] at hl
 simp only [Array.toArray_toList] at hl
 simp only [loadVar, Sem.run_bind, hagg w, sizeOf, typeInfo, hf, hs, hl, run_program, Result.andThen_ok, if_true, Sem.run_pure]
end
/-- v is a slice of ls. -/
def RSE (v : Value) (ls : List α) (w : World) : Prop := (v = .slice none 0 0 ∧ ls = []) ∨ (∃ g o c, v = .slice (some ⟨g, o, none⟩) ls.length c ∧ ls.length ≤ c ∧ (0 < ls.length → RCellsE E g o ls w)) ∨ ∃ a c, v = .slice (some a) 0 c ∧ ls = []
/-- v is a slice of ls, in a row that the call owns (from block B on). -/
def OwnE (B : Nat) (v : Value) (ls : List α) (w : World) : Prop := w.ownsRow B T k v ls.length (rowE E ls)
section
variable {E} {v : Value} {ls : List α} {w w' : World} {B : Nat}
theorem RSE.below (h : RSE E v ls w) (hb : Below w.heap.size w w') : RSE E v ls w' := by
 rcases h with h | ⟨g, o, c, e, hc, sc⟩ | h
 ·exact .inl h
 ·exact .inr (.inl ⟨g, o, c, e, hc, fun hn => (sc hn).of_eq (hb.block _ (sc hn).lt)⟩)
 ·exact .inr (.inr h)
theorem RSE.len (h : RSE E v ls w) : ∃ a c, v = .slice a ls.length c ∧ ls.length ≤ c := by
 rcases h with ⟨rfl, rfl⟩ | ⟨g, o, c, e, hc, sc⟩ | ⟨a, c, rfl, rfl⟩
 ·exact ⟨none, 0, rfl, Nat.le_refl _⟩
 ·exact ⟨_, c, e, hc⟩
 ·exact ⟨_, c, rfl, Nat.zero_le _⟩
theorem RSE.at {a : Option Addr} {n c : Nat} (h : RSE E (.slice a n c) ls w) (hn : 0 < ls.length) : ∃ g o, a = some ⟨g, o, none⟩ ∧ RCellsE E g o ls w := by
 rcases h with ⟨_, rfl⟩ | ⟨g, o, c', e, _, sc⟩ | ⟨_, _, _, rfl⟩
 rotate_right
 ·exact absurd hn (by simp)
 ·exact absurd hn (by simp)
 ·injection e with e1 e2 e3
  exact ⟨g, o, e1, sc hn⟩
theorem RSE.nil (w : World) : RSE E (.slice none 0 0) [] w := .inl ⟨rfl, rfl⟩
theorem ov_rce {g o : Nat} (h : RCellsE E g o ls w) : ∀ w', (∃ u, w' = ov w u) → RCellsE E g o ls w' := by
 rintro w' ⟨u, rfl⟩
 exact h.of_eq ((ov_below w u).block _ h.lt)
theorem OwnE.below (h : OwnE E B v ls w) (hb : Below w.heap.size w w') : OwnE E B v ls w' :=
 World.ownsRow.kept (row := none) h ⟨hb.os, hb.tape, hb.output, hb.size, fun k hk _ => hb.block k hk⟩ (Classical.em _)
theorem OwnE.mono {B' : Nat} (h : OwnE E B v ls w) (hb : B' ≤ B) : OwnE E B' v ls w := World.ownsRow.mono h hb
theorem OwnE.nil (B : Nat) (w : World) : OwnE E B (.slice none 0 0) [] w := World.ownsRow_nil w B _ _
theorem OwnE.rs (h : OwnE E B v ls w) : RSE E v ls w := by
 obtain ⟨h1, h2⟩ := h
 rcases h2 with ⟨rfl, h0⟩ | ⟨g, cap, cur, rfl, hb, hg, hn, hm, hs, ht⟩
 ·exact .inl ⟨rfl, List.eq_nil_of_length_eq_zero h0⟩
 ·refine .inr (.inl ⟨g, 0, cap, rfl, hn, fun _ => ⟨(Array.getElem?_eq_some_iff.1 hg).1, fun i x hi j hj => ?_⟩⟩)
  have hil : i < ls.length := (List.getElem?_eq_some_iff.1 hi).1
  have hlt : i * k + j < ls.length * k := by
   have := Nat.mul_le_mul_right k (Nat.succ_le_of_lt hil)
   rw [Nat.succ_mul] at this
   omega
  rw [← rowE_at E ls i x hi j hj, Nat.zero_add, cell_of_row w g _ cur _ (0, 0) hg, ← ht, List.getElem?_take_of_lt hlt, Array.getElem?_toList]
theorem OwnE.len (h : OwnE E B v ls w) : ∃ a c, v = .slice a ls.length c ∧ ls.length ≤ c := h.rs.len
theorem OwnE.chg {b : Nat} (h : OwnE E B v ls w) (hc : Chg b w w') (hb : b < B) : OwnE E B v ls w' := by
 refine World.ownsRow.kept (row := some b) h ⟨hc.os, hc.tape, hc.output, hc.size, fun k hk hne => hc.block k hk (fun e => hne (by rw [e]))⟩ ?_
 cases hv : v.ownBlock with
 | none => exact .inl rfl
 | some k =>
  right
  intro e
  injection e with e
  have := World.ownsRow.lt h k hv
  omega
end
section
variable {E} {ops : Array Oper} {rest : List Oper} {o : Oper} {a : Act} {w : World} {Q : Exit → Act → World → Prop}
/-- A slice appended to a row of the call's own. -/
theorem wpList_appendE (hg : o.guard = none) (s x : Operand) (ho : o.op = .call { callee := .builtin .append, args := #[s, x], argTypes := #[ST, ST] }) (v u : Value) (hs : a.eval s = v) (hx : a.eval x = u) {B : Nat} {ls ks : List α} (hown : OwnE E B v ls w) (hu : RSE E u ks w) (hlen : ls.length + ks.length ≤ 100000000) (hB : B ≤ w.heap.size)
  (h : ∀ v' w', OwnE E B v' (ls ++ ks) w' → Below B w w' → wpList Tryz.prog ops Q rest (a.put o.dst v') w') : wpList Tryz.prog ops Q (o :: rest) a w := by
 obtain ⟨i, z, hi, hz, hsz, hby, hzc⟩ := E.facts
 have hzs : z.cells.size = k := by rw [hzc, E.size]
 rcases hu with ⟨rfl, rfl⟩ | ⟨g, of, c, rfl, hc, sc⟩ | ⟨ad, c, rfl, rfl⟩
 ·refine wpList_append_own_none (P := Tryz.prog) hg s x ST ho B T i k E.und hi v ls.length (rowE E ls) hs hown hx ?_
  exact h v w (by rw [List.append_nil]; exact hown) (Below.refl _ _)
 ·refine wpList_append_own (P := Tryz.prog) w hg s x ST ho B T i z k E.bytes E.und hi hz hsz hby hzs E.pos v ls.length (rowE E ls) hs hown ⟨g, of, none⟩ ks.length c (rowE E ks) hx (rowE_length E ks) ?_ (rowE_oneCell E ks) (by unfold maxLen; omega) ?_ hB ?_
  ·intro j u hu
   have hj : j < ks.length * k := by rw [← rowE_length E]; exact (List.getElem?_eq_some_iff.1 hu).1
   have e : (⟨g, of, none⟩ : Addr).add j = ⟨g, of + j, none⟩ := by unfold Addr.add; split <;> simp_all
   rw [e]
   have hk : 0 < ks.length := by
    rcases Nat.eq_zero_or_pos ks.length with h0 | h0
    ·rw [h0, Nat.zero_mul] at hj; omega
    ·exact h0
   exact (sc hk).row j u hu
  ·have := Nat.mul_le_mul hlen E.small
   omega
  ·intro v' w' h1 h2 h3
   refine h v' w' ?_ ?_
   ·unfold OwnE
    rw [rowE_append, List.length_append]
    exact h1
   ·have hlt := World.ownsRow.lt hown
    exact ⟨h2.os, h2.tape, h2.output, h2.size, fun k hk => h2.block k (by omega) (fun e => by have := hlt k e.symm; omega)⟩
 ·refine wpList_append_own (P := Tryz.prog) w hg s x ST ho B T i z k E.bytes E.und hi hz hsz hby hzs E.pos v ls.length (rowE E ls) hs hown ad 0 c [] hx (by simp) ?_ (by simp) (by unfold maxLen; simp only [List.length_nil] at hlen; omega) ?_ hB ?_
  ·intro j u hu
   simp at hu
  ·have := Nat.mul_le_mul hlen E.small
   simp only [List.length_nil] at this
   omega
  ·intro v' w' h1 h2 h3
   refine h v' w' ?_ ?_
   ·unfold OwnE
    rw [List.append_nil]
    rw [List.append_nil] at h1
    exact h1
   ·have hlt := World.ownsRow.lt hown
    exact ⟨h2.os, h2.tape, h2.output, h2.size, fun k hk => h2.block k (by omega) (fun e => by have := hlt k e.symm; omega)⟩
end
/-! ### Literals of one element; blocks known whole as rows -/
section
variable {E}
theorem fill_one {T' : TypeId} (x : α) (cs : Array Value) (hs : cs.size = k) : Instr.fill (fun i => some (i * k, k)) cs [(0, .agg (E.enc x))] = some (E.enc x) := by
 have hc : (Value.agg (E.enc x)).cells = E.enc x := by simp only [Value.cells]
 obtain ⟨r, hr1, hr2, hr3⟩ := Great.fill_dense E.pos [Value.agg (E.enc x)] 0 cs (fun v hv => by rw [List.mem_singleton.1 hv, hc, E.size]) (by simp; omega)
 have e : (([Value.agg (E.enc x)].zipIdx 0).map fun y => (y.2, y.1)) = [(0, Value.agg (E.enc x))] := rfl
 rw [e] at hr1
 rw [hr1]
 congr 1
 apply Array.ext_getElem?
 intro j
 rw [hr3 j]
 by_cases h : j < k
 ·rw [if_pos (by simp; omega), Nat.div_eq_of_lt h, Nat.mod_eq_of_lt h]
  simp [hc]
 ·rw [if_neg (by simp; omega), Array.getElem?_eq_none (by omega), Array.getElem?_eq_none (by rw [E.size]; omega)]
variable {ops : Array Oper} {rest : List Oper} {o : Oper} {a : Act} {w : World} {Q : Exit → Act → World → Prop}
theorem owp_bs1E {K : Act → World → Prop} (y : Operand) (ho : o.op = .buildSlice ST 1 #[(0, y)]) (x : α) (hy : a.eval y = .agg (E.enc x)) (hk : k ≤ 1000)
  (h : ∀ b w', w.heap.size ≤ b → b ≤ w.heap.size → AtB T w' b (E.enc x) → Below b w w' → w'.heap.size = b + 1 → K (a.put o.dst (.slice (some ⟨b, 0, none⟩) 1 1)) w') : o.wp Tryz.prog a w K Q := by
 obtain ⟨i, z, hi, hz, hsz, hby, hzc⟩ := E.facts
 have hp := E.pos
 refine wp_buildSlice ST T 1 #[(0, y)] ho (E.enc x) i z E.und hi hz (by rw [hsz]; omega) (by rw [hsz]; omega) ?_ (h _ _ (Nat.le_refl _) (Nat.le_refl _) (by unfold AtB; rw [heap_get_alloc, if_pos rfl]) ((Below.refl _ _).alloc (Nat.le_refl _) _) (World.size_alloc _ _))
 rw [hsz]
 have hp : ((#[(0, y)] : Array (Nat × Operand)).map fun (i, x) => (i, a.eval x)).toList = [(0, Value.agg (E.enc x))] := by simp [hy]
 rw [hp]
 exact fill_one (T' := T) x _ (by simp)
theorem wpList_bs1E (hg : o.guard = none) (y : Operand) (ho : o.op = .buildSlice ST 1 #[(0, y)]) (x : α) (hy : a.eval y = .agg (E.enc x)) (hk : k ≤ 1000)
  (h : ∀ b w', w.heap.size ≤ b → b ≤ w.heap.size → AtB T w' b (E.enc x) → Below b w w' → w'.heap.size = b + 1 → wpList Tryz.prog ops Q rest (a.put o.dst (.slice (some ⟨b, 0, none⟩) 1 1)) w') : wpList Tryz.prog ops Q (o :: rest) a w :=
 wpList_plain hg fun K hK => owp_bs1E y ho x hy hk fun b w' h1 h2 h3 h4 h5 => hK _ _ (h b w' h1 h2 h3 h4 h5)
theorem RSE.one {b : Nat} {x : α} {w : World} (h : AtB T w b (E.enc x)) : RSE E (.slice (some ⟨b, 0, none⟩) 1 1) [x] w :=
 .inr (.inl ⟨b, 0, 1, rfl, Nat.le_refl _, fun _ => ⟨h.lt, fun i y hi j hj => by
  cases i with
  | zero =>
   have hx : x = y := by simpa using hi
   rw [Nat.zero_mul, Nat.zero_add, Nat.zero_add, (cells_of_block h).1, hx]
  | succ i => simp at hi⟩⟩)
/-- The block b is the row ls. -/
def RowAt (E : Elt α k T ST) (w : World) (b : Nat) (ls : List α) : Prop := AtB T w b (rowE E ls).toArray
theorem RowAt.of_eq {w w' : World} {b : Nat} {ls : List α} (h : RowAt E w b ls) (e : w'.heap[b]? = w.heap[b]?) : RowAt E w' b ls := AtB.of_eq h e
theorem RowAt.lt {w : World} {b : Nat} {ls : List α} (h : RowAt E w b ls) : b < w.heap.size := AtB.lt h
theorem RowAt.below {α : Type} {k : Nat} {T ST : TypeId} {E : Elt α k T ST} {b : Nat} {ls : List α} {w w' : World} (h : RowAt E w b ls) (e : Below w.heap.size w w') : RowAt E w' b ls := h.of_eq (e.block _ h.lt)
theorem RowAt.cells {w : World} {b : Nat} {ls : List α} (h : RowAt E w b ls) : RCellsE E b 0 ls w := by
 refine ⟨h.lt, fun i x hi j hj => ?_⟩
 rw [Nat.zero_add, (cells_of_block h).1, List.getElem?_toArray]
 exact rowE_at E ls i x hi j hj
theorem RowAt.rs {w : World} {b : Nat} {ls : List α} (h : RowAt E w b ls) : RSE E (.slice (some ⟨b, 0, none⟩) ls.length ls.length) ls w :=
 .inr (.inl ⟨b, 0, ls.length, rfl, Nat.le_refl _, fun _ => h.cells⟩)
end
end
end Go.Proofs.YtamgpfblhlfhaaaGreat
/- Rows of pixels; images; contract of the closure of Image of package raster. -/
namespace Go.Proofs.YtamgpfblhlfhaaaGreat
open Go.RowKit Go.Shelf Pl
set_option linter.unusedVariables false
set_option linter.unusedSimpArgs false
set_option maxRecDepth 20000
def pxE : Elt Px 4 25 99 where
 enc := pxA
 bytes := 4
 zero := Px.zero
 size := fun _ => rfl
 one := fun x u hu => by
  have : u ∈ [Value.int .u8 x.r, .int .u8 x.g, .int .u8 x.b, .int .u8 x.a] := hu
  simp at this
  rcases this with rfl | rfl | rfl | rfl <;> rfl
 pos := by omega
 small := by omega
 und := Tryz.underlying99
 info := by kernel_rfl
 zer := by kernel_rfl
theorem rowE_set (ls : List Px) : ∀ (i : Nat) (p : Px), i < ls.length → ((((rowE pxE ls).set (i * 4) (.int .u8 p.r)).set (i * 4 + 1) (.int .u8 p.g)).set (i * 4 + 2) (.int .u8 p.b)).set (i * 4 + 3) (.int .u8 p.a) = rowE pxE (ls.set i p) := by
 induction ls with
 | nil => intro i p h; exact absurd h (Nat.not_lt_zero _)
 | cons q r ih =>
  intro i p h
  cases i with
  | zero => rfl
  | succ i =>
   have e : ∀ j, (i + 1) * 4 + j = (i * 4 + j) + 4 := fun j => by omega
   have := ih i p (by simpa using h)
   show ((((((Value.int .u8 q.r :: .int .u8 q.g :: .int .u8 q.b :: .int .u8 q.a :: rowE pxE r).set ((i + 1) * 4) _).set ((i + 1) * 4 + 1) _).set ((i + 1) * 4 + 2) _).set ((i + 1) * 4 + 3) _)) = Value.int .u8 q.r :: .int .u8 q.g :: .int .u8 q.b :: .int .u8 q.a :: rowE pxE (r.set i p)
   rw [show (i + 1) * 4 = (i * 4) + 4 by omega, show i * 4 + 4 + 1 = i * 4 + 1 + 4 by omega, show i * 4 + 4 + 2 = i * 4 + 2 + 4 by omega, show i * 4 + 4 + 3 = i * 4 + 3 + 4 by omega]
   simp only [List.set_cons_succ]
   rw [this]
theorem RowAt.set4 {w : World} {b i : Nat} {ls : List Px} (h : RowAt pxE w b ls) (hi : i < ls.length) (p : Px) :
  RowAt pxE ((((w.setCell ⟨b, i * 4, none⟩ (.int .u8 p.r)).setCell ⟨b, i * 4 + 1, none⟩ (.int .u8 p.g)).setCell ⟨b, i * 4 + 2, none⟩ (.int .u8 p.b)).setCell ⟨b, i * 4 + 3, none⟩ (.int .u8 p.a)) b (ls.set i p) := by
 unfold RowAt AtB
 rw [← rowE_set ls i p hi]
 have := heap_setCell_same _ b (i * 4 + 3) _ _ (.int .u8 p.a) (heap_setCell_same _ b (i * 4 + 2) _ _ (.int .u8 p.b) (heap_setCell_same _ b (i * 4 + 1) _ _ (.int .u8 p.g) (heap_setCell_same _ b (i * 4) _ _ (.int .u8 p.r) h)))
 simpa only [List.setIfInBounds_toArray] using this
/-! ### The closure of Image -/
def idxI (c : Rc) (x y : Int) : Int := (y - c.y0) * (c.x1 - c.x0) + x - c.x0
def imgF (c : Rc) (s : List Px) (x y : Int) (p : Px) : List Px × Px := (if hasR c x y = true then s.set (idxI c x y).toNat p else s, p)
def imgC (c : Rc) (u : Value) : Array Value := #[.int .i64 c.x0, .int .i64 c.y0, .int .i64 c.x1, .int .i64 c.y1, u]
/-- A rectangle that fits. -/
structure Fits (c : Rc) : Prop where
 h1 : c.x0 < c.x1
 h2 : c.y0 < c.y1
 h3 : -65536 ≤ c.x0
 h4 : -65536 ≤ c.y0
 h5 : c.x1 ≤ 65536
 h6 : c.y1 ≤ 65536
 h7 : c.x1 - c.x0 ≤ 256
 h8 : c.y1 - c.y0 ≤ 256
def areaN (c : Rc) : Nat := ((c.x1 - c.x0) * (c.y1 - c.y0)).toNat
/- Contract of Image of package raster. -/
/-- The pixels that Image of package raster makes. -/
def imgPL (c : Rc) (ks : List TA) : List Px := (mapK (imgF c) ks (List.replicate (areaN c) Px.zero) ks.length).1
/- The sanity check of the raster laws: its values. -/
def sP : Px := ⟨9, 0, 0, 255⟩
def sQ : Px := ⟨1, 0, 0, 0⟩
def sC : Rc := ⟨-2, 9, 0, 10⟩
theorem s1 : setE [] (-1) 9 sP = 0 := by decide
theorem s2 : setR [] (-1) 9 sP = [⟨-1, 1, cleanT (setT zT 7 1 sP)⟩] := by rfl
def sR1 : List TA := [⟨-1, 1, cleanT (setT zT 7 1 sP)⟩]
theorem s3 : validL sR1 = true := by decide
theorem s4 : fineL sR1 = sR1 := fineL_of s3
theorem s10 : getL sR1 (-1) 9 = sP := by decide
theorem s13 : boundL sR1 = ⟨-1, 9, 0, 10⟩ := by rfl
/-! ### '==' of rectangles -/
instance decRc : DecidableEq Rc := fun a b =>
 if h : a.x0 = b.x0 ∧ a.y0 = b.y0 ∧ a.x1 = b.x1 ∧ a.y1 = b.y1 then isTrue (by obtain ⟨a1, a2, a3, a4⟩ := a; obtain ⟨b1, b2, b3, b4⟩ := b; obtain ⟨rfl, rfl, rfl, rfl⟩ := h; rfl)
 else isFalse fun e => h (by rw [e]; exact ⟨rfl, rfl, rfl, rfl⟩)
@[go_sem] theorem guard_rc (op : BinOp) (p q : Operand) (a b : Array Value) (w : World) : (eqGuard op 30 p q (.agg a) (.agg b)).run Tryz.prog w = .ok () w := run_eqGuard_agg w op 30 p q _ _ (by kernel_rfl)
/-! ### The walk -/
/- Contracts of gouacheref04.Made, gouacheref07.Made. -/
section
variable {ops : Array Oper} {rest : List Oper} {o : Oper} {a : Act} {w : World} {Q : Exit → Act → World → Prop}
end
def madeA (u : Int) : Int := if u % 5 = 1 then 255 else if u % 5 = 3 then 0 else u / 16777216
def madeP (x : Int) : Px := ⟨x % 256, x % 4294967296 / 256 % 256, x % 4294967296 / 65536 % 256, madeA (x % 4294967296)⟩
/- Slices of integers; contracts of gouacheref07.Made, pick. -/
def inE : Elt Int 1 3 23 where
 enc := fun x => #[.int .i64 x]
 bytes := 8
 zero := 0
 size := fun _ => rfl
 one := fun x u hu => by
  have : u ∈ [Value.int .i64 x] := hu
  rw [List.mem_singleton.1 this]; rfl
 pos := by omega
 small := by omega
 und := Tryz.underlying23
 info := by kernel_rfl
 zer := by kernel_rfl
theorem rci_int {g o : Nat} {L : List Int} {w : World} (h : RCellsE inE g o L w) {i : Nat} {x : Int} (hi : L[i]? = some x) : w.cell? ⟨g, o + i, none⟩ = some (.int .i64 x) := by
 have := h.2 i x hi 0 (by omega)
 rw [Nat.mul_one, Nat.add_zero] at this
 exact this
def getI (L : List Int) (i : Nat) : Int := L.getD i 0
theorem getD_some {L : List Int} {i : Nat} (h : i < L.length) : L[i]? = some (getI L i) := by
 unfold getI
 rw [List.getD_eq_getElem?_getD, List.getElem?_eq_getElem h]; rfl
def madeS (L : List Int) (i : Nat) : Int := getI L (i * L.length / 64)
def madeQ (L : List Int) (i : Nat) : Px := if madeS L i % 4 = 2 then cleanP (madeP (madeS L i + 7919 * i)) else cleanP (madeP (madeS L i))
def madeT (L : List Int) : Nat → Px := if L.length = 0 then zT else madeQ L
def pickI (L : List Int) (i : Nat) (m : Int) : Int := if i < L.length then getI L i % 1048576 % m else 0
/- Contract of gouacheref08.Made. -/
/-- The raster that Made of gouacheref08 builds, after k rounds. -/
def madeK (L : List Int) : Nat → List TA
 | 0 => []
 | k + 1 => if 3 * k + 2 < L.length then setR (madeK L k) (pickI L (3 * k) 48 - 20) (pickI L (3 * k + 1) 48 - 20) (madeP (getI L (3 * k + 2))) else madeK L k
def madeL (L : List Int) : List TA := madeK L 40
theorem run_load_ras {w : World} {b j : Nat} {v : Value} (h : w.cell? ⟨b, j, none⟩ = some v) : (Instr.loadAt 34 (.pointer (some ⟨b, j, none⟩))).run Tryz.prog w = .ok (.agg #[v]) w := by
 simp [go_sem, h]
/- Stores into a row of tiles at positions. -/
theorem aT_set (ls : List TA) (i k : Nat) (e : TA) (hi : i < ls.length) : aT (ls.set i e) k = if k = i then e else aT ls k := by
 unfold aT
 rw [List.getD_eq_getElem?_getD, List.getD_eq_getElem?_getD, List.getElem?_set]
 by_cases h : i = k
 ·subst h; simp [hi]
 ·rw [if_neg h, if_neg (Ne.symm h)]
theorem sz_setCells (b : Nat) : ∀ (vs : List Value) (o : Nat) (w : World), (w.setCells b o vs).heap.size = w.heap.size
 | [], _, _ => rfl
 | v :: r, o, w => by
  show ((w.setCell ⟨b, o, none⟩ v).setCells b (o + 1) r).heap.size = _
  rw [sz_setCells b r, World.size_setCell]
theorem RCells.put {g o i s : Nat} {ls : List TA} {w : World} {vs : List Value} (h : RCells g o ls w) (e' : TA) (hi : i < ls.length) (hs : s + vs.length ≤ 258)
  (he : ∀ j, j < 258 → (taC e')[j]? = if s ≤ j ∧ j < s + vs.length then vs[j - s]? else (taC (aT ls i))[j]?) : RCells g o (ls.set i e') (w.setCells g (o + i * 258 + s) vs) := by
 refine ⟨by rw [sz_setCells]; exact h.1, fun k hk j hj => ?_⟩
 rw [List.length_set] at hk
 rw [aT_set ls i k e' hi]
 have hsome : ∀ j, j < vs.length → (w.cell? ⟨g, o + i * 258 + s + j, none⟩).isSome = true := fun j hj => by
  have := h.2 i hi (s + j) (by omega)
  rw [show o + i * 258 + s + j = o + (i * 258 + (s + j)) by omega, this, Array.getElem?_eq_getElem (by rw [size_taC]; omega)]
  rfl
 by_cases hki : k = i
 ·subst hki
  rw [if_pos rfl, he j hj]
  by_cases hj2 : s ≤ j ∧ j < s + vs.length
  ·rw [if_pos hj2, show o + (k * 258 + j) = o + k * 258 + s + (j - s) by omega, World.cell?_setCells_in g vs _ w hsome (j - s) (by omega), List.getElem?_eq_getElem]
  ·rw [if_neg hj2, World.cell?_setCells_out g vs _ w _ (fun _ _ => by show o + (k * 258 + j) < o + k * 258 + s ∨ o + k * 258 + s + vs.length ≤ o + (k * 258 + j); omega)]
   exact h.2 k hk j hj
 ·rw [if_neg hki, World.cell?_setCells_out g vs _ w _ (fun _ _ => by
   show o + (k * 258 + j) < o + i * 258 + s ∨ o + i * 258 + s + vs.length ≤ o + (k * 258 + j)
   rcases Nat.lt_or_gt_of_ne hki with hh | hh
   ·left; have : (k + 1) * 258 ≤ i * 258 := Nat.mul_le_mul_right _ hh; omega
   ·right; have : (i + 1) * 258 ≤ k * 258 := Nat.mul_le_mul_right _ hh; omega)]
  exact h.2 k hk j hj
/-- An owned row of tiles: its cells may be written. -/
theorem OwnT.row {B : Nat} {v : Value} {ls : List TA} {w : World} (h : OwnT B v ls w) (hl : 0 < ls.length) : ∃ g c, v = .slice (some ⟨g, 0, none⟩) ls.length c ∧ B ≤ g ∧ RCells g 0 ls w ∧ ∀ j, w.frozen? ⟨g, j, none⟩ = false := by
 have hr := h.rs
 obtain ⟨h1, h2⟩ := h
 rcases h2 with ⟨rfl, h0⟩ | ⟨g, cap, cur, rfl, hb, hg, hn, hm, hs, ht⟩
 ·exact absurd hl (by omega)
 ·obtain ⟨g', o', e, rc⟩ := hr.at hl
  injection e with e
  injection e with e1 e2
  subst e1; subst e2
  exact ⟨g, cap, rfl, hb, rc, fun j => AtB.frozen (t := 72) hg j⟩
theorem RCells.there {g o : Nat} {ls : List TA} {w : World} (h : RCells g o ls w) (hf : ∀ j, w.frozen? ⟨g, j, none⟩ = false) {i s n : Nat} (hi : i < ls.length) (hs : s + n ≤ 258) : w.there g (o + i * 258 + s) n := fun j hj => by
 refine ⟨?_, hf _⟩
 have := h.2 i hi (s + j) (by omega)
 rw [show o + i * 258 + s + j = o + (i * 258 + (s + j)) by omega, this, Array.getElem?_eq_getElem (by rw [size_taC]; omega)]
 rfl
theorem setCells_chg (g o : Nat) (vs : List Value) (w : World) : Chg g w (w.setCells g o vs) := by
 induction vs generalizing o w with
 | nil => exact Chg.refl g w
 | cons v r ih =>
  show Chg g w ((w.setCell ⟨g, o, none⟩ v).setCells g (o + 1) r)
  exact ((Chg.refl g w).setCell _).trans (ih (o + 1) _)
section
variable {ops : Array Oper} {rest : List Oper} {o : Oper} {a : Act} {w : World} {Q : Exit → Act → World → Prop} {ls : List TA} {g : Nat}
end
/- Contract of `of` of the law package of rasters. -/
/-- What Raw describes (its two slices aside). -/
structure RawQ where
 at_ : Int
 px : Int
 py : Int
 how : Int
def ninT (t : Nat → Px) : Nat → Px := upd t 5 ⟨9, (t 5).g, (t 5).b, (t 5).a⟩
def turnA (q : RawQ) (T : List Int) (e : TA) : TA :=
 if q.how % 8 = 1 then ⟨q.px, q.py, e.t⟩ else if q.how % 8 = 2 then ⟨e.x, e.y, madeT T⟩ else if q.how % 8 = 3 then ⟨e.x, e.y, ninT e.t⟩ else e
def ofI (q : RawQ) (n : Nat) : Nat := (q.at_ % 65536).toNat % n
def ofR (q : RawQ) (T : List Int) (r : List TA) : List TA :=
 if r.length = 0 then r else if q.how % 8 = 4 then r ++ [aT r (ofI q r.length)] else r.set (ofI q r.length) (turnA q T (aT r (ofI q r.length)))
def ofRL (q : RawQ) (L T : List Int) : List TA := ofR q T (madeL L)
theorem run_load_sli {w : World} {b j : Nat} {v : Value} (h : w.cell? ⟨b, j, none⟩ = some v) : (Instr.loadAt 23 (.pointer (some ⟨b, j, none⟩))).run Tryz.prog w = .ok v w := by
 simp [go_sem, h]
/- Contract of `of` of the law package of rasters: the walk. -/
/- Contracts of `of` of the law package whole. -/
/- Contract of gouacheref08.Full. -/
def fullA (i : Nat) : TA := ⟨(i : Int) % 40, (i : Int) / 40, fillT ⟨(i : Int) % 256, 0, 0, 255⟩⟩
def fullL (n : Nat) : List TA := (List.range n).map fullA
end Go.Proofs.YtamgpfblhlfhaaaGreat
