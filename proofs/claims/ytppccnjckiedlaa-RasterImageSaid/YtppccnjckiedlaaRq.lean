/- '==' of tiles at a position; contracts of Equal of package raster and of its reference. -/
import Derived.Test.YtppccnjckiedlaaRp
namespace Go.Proofs.Ytppccnjckiedlaa
open Go.RowKit Go.Shelf Pl
set_option linter.unusedVariables false
set_option linter.unusedSimpArgs false
set_option maxRecDepth 20000

theorem eqItems_tileD (d : Nat) (f g : Nat → Px) (w : World) : ∀ is : List Nat, (∀ i ∈ is, i < 64) → (Op.eqItems (d + 2) 37 4 (tileC f) (tileC g) is).run Try.prog w = .ok (decide (∀ i ∈ is, f i = g i)) w
  | [], _ => by simp [Op.eqItems]
  | i :: is, h => by
    have hi : i < 64 := h i (by simp)
    simp only [Op.eqItems, Sem.run_bind, part_tile f i hi, part_tile g i hi, Result.andThen_ok, equalIn_px d]
    by_cases e : f i = g i
    · simp [e, eqItems_tileD d f g w is (fun j hj => h j (by simp [hj]))]
    · simp [e]
theorem equalIn_tileD (d : Nat) (f g : Nat → Px) (w : World) : (Op.equalIn (d + 3) 40 (Tile.v f) (Tile.v g)).run Try.prog w = .ok (eqT f g) w := by
  obtain ⟨i, hi⟩ : ∃ i, Try.prog.info? 37 = some i := by
    cases h : Try.prog.info? 37 with
    | some i => exact ⟨i, rfl⟩
    | none =>
      have e : (Try.prog.info? 37).isSome = true := by kernel_rfl
      rw [h] at e; cases e
  unfold Tile.v
  refine (run_equalIn_array w (d + 2) (tileC f) (tileC g) Try.underlying40 hi).trans ?_
  rw [cellsOf_px, eqItems_tileD d f g w _ (fun i hi => List.mem_range.1 hi)]
  rfl
theorem sizeOf_pos (w : World) : (sizeOf 24).run Try.prog w = .ok 2 w := by kernel_rfl
theorem sizeOf_tl (w : World) : (sizeOf 40).run Try.prog w = .ok 256 w := by kernel_rfl
theorem part_pos (e : TA) (w : World) : (Go.part 24 (taC e) 0).run Try.prog w = .ok (Ps.v e.x e.y) w := by
  unfold Go.part
  simp only [Sem.run_bind, Try.isAgg24, Result.andThen_ok, if_true, sizeOf_pos, Sem.run_pure, Ps.v]
  congr 2
  apply Array.ext_getElem?
  intro k
  rw [Array.getElem?_extract]
  obtain ⟨x, y, t⟩ := e
  by_cases h : k < 2
  · rw [if_pos (by rw [size_taC]; omega), Nat.zero_add, taC_get, if_pos h]
  · rw [if_neg (by omega)]
    exact (Array.getElem?_eq_none (by simp; omega)).symm
theorem part_tl (e : TA) (w : World) : (Go.part 40 (taC e) 2).run Try.prog w = .ok (Tile.v e.t) w := by
  unfold Go.part
  simp only [Sem.run_bind, Try.isAgg40, Result.andThen_ok, if_true, sizeOf_tl, Sem.run_pure, Tile.v]
  congr 2
  apply Array.ext_getElem?
  intro k
  rw [Array.getElem?_extract]
  by_cases h : k < 256
  · rw [if_pos (by rw [size_taC]; omega), taC_t]
  · rw [if_neg (by omega)]
    exact (Array.getElem?_eq_none (by rw [size_tileC]; omega)).symm
def eqA (a b : TA) : Bool := eqB a.x a.y b.x b.y && eqT a.t b.t
theorem fields_ta : (Try.prog.fieldsOf 79).toList.map (fun f => (f.name == "_", f.type, f.offset)) = [(false, 24, 0), (false, 40, 2)] := by kernel_rfl
theorem equalIn_ta (d : Nat) (a b : TA) (w : World) : (Op.equalIn (d + 4) 79 (.agg (taC a)) (.agg (taC b))).run Try.prog w = .ok (eqA a b) w := by
  rw [run_equalIn_struct w (d + 3) 79 (taC a) (taC b) (by kernel_rfl) (by kernel_rfl)]
  have hf := fields_ta
  generalize (Try.prog.fieldsOf 79).toList = fs at hf
  obtain ⟨f, fs, rfl, hf1, hf⟩ := List.map_eq_cons_iff.1 hf
  obtain ⟨g, fs, rfl, hf2, hf⟩ := List.map_eq_cons_iff.1 hf
  obtain rfl := List.map_eq_nil_iff.1 hf
  simp only [Prod.mk.injEq] at hf1 hf2
  obtain ⟨n1, t1, o1⟩ := hf1
  obtain ⟨n2, t2, o2⟩ := hf2
  have n1 : f.name ≠ "_" := by simpa using n1
  have n2 : g.name ≠ "_" := by simpa using n2
  have p1 := fun w => part_pos a w
  simp only [Op.eqFields, n1, n2, t1, t2, o1, o2, ne_eq, not_false_eq_true, if_true, Sem.run_bind, part_pos, part_tl, Result.andThen_ok, equalIn_pos (d + 1), equalIn_tileD d]
  unfold eqA
  cases h1 : eqB a.x a.y b.x b.y <;> cases h2 : eqT a.t b.t <;> simp [part_tl, equalIn_tileD d, h1, h2]
theorem eql_ta (a b : TA) (w : World) : (binOp .eql 79 (.agg (taC a)) (.agg (taC b))).run Try.prog w = .ok (.bool (eqA a b)) w := by
  have h := run_eql_struct (P := Try.prog) w 79 (taC a) (taC b)
  rw [h, equalIn_ta 9996]; rfl
theorem neq_ta (a b : TA) (w : World) : (binOp .neq 79 (.agg (taC a)) (.agg (taC b))).run Try.prog w = .ok (.bool (!eqA a b)) w := by
  have h := run_neq_struct (P := Try.prog) w 79 (taC a) (taC b)
  rw [h, equalIn_ta 9996]; rfl
@[go_sem] theorem guard_ta (op : BinOp) (p q : Operand) (a b : TA) (w : World) : (eqGuard op 79 p q (.agg (taC a)) (.agg (taC b))).run Try.prog w = .ok () w := run_eqGuard_agg w op 79 p q _ _ (by kernel_rfl)
/-- Two lists of tiles are equal. -/
def eqL (ls ks : List TA) : Bool := decide (ls.length = ks.length) && decide (∀ i ∈ List.range ls.length, eqA (aT ls i) (aT ks i) = true)
theorem eqL_len {ls ks : List TA} (h : ¬ ls.length = ks.length) : eqL ls ks = false := by unfold eqL; rw [decide_eq_false h]; rfl
theorem eqL_no {ls ks : List TA} {j : Nat} (hj : j < ls.length) (h : eqA (aT ls j) (aT ks j) = false) : eqL ls ks = false := by
  unfold eqL
  rw [Bool.and_eq_false_iff]
  right
  exact decide_eq_false fun e => by rw [e j (List.mem_range.2 hj)] at h; cases h
theorem eqL_yes {ls ks : List TA} (h : ls.length = ks.length) (k : ∀ j, j < ls.length → eqA (aT ls j) (aT ks j) = true) : eqL ls ks = true := by
  unfold eqL
  rw [decide_eq_true h, Bool.true_and]
  exact decide_eq_true fun j hj => k j (List.mem_range.1 hj)
set_option maxHeartbeats 1000000 in
theorem P_equal (v u : Value) (ls ks : List TA) (w : World) (h : RS v ls w) (h' : RS u ks w) (hn : ls.length ≤ maxLen) (hn' : ks.length ≤ maxLen) : Calls Try.prog 89 #[v, u] w fun e w' => e = .returned (.bool (eqL ls ks)) ∧ Below w.heap.size w w' := by
  unfold maxLen at hn hn'
  obtain ⟨a, c, rfl, hc⟩ := h.len
  obtain ⟨a', c', rfl, hc'⟩ := h'.len
  have B := Below.refl w.heap.size w
  have HS := Lib.hid h
  have HS' := Lib.hid h'
  clear h h'
  by_cases hlen : ls.length = ks.length
  · have HL := Lib.hid hlen
    obtain ⟨n, hnl⟩ : ∃ n, n = ls.length := ⟨_, rfl⟩
    have e1 : ls.length = n := hnl.symm
    have e2 : ks.length = n := by omega
    rw [e1, e2]
    rw [e1] at hn hc
    rw [e2] at hn' hc'
    have E1 := Lib.hid e1
    have E2 := Lib.hid e2
    clear hlen hnl e1 e2
    go_enter Try.func89, Try.ntmps89
    go_wp2_with (first | fail | fail)
    go_loopw [5, 13] (fun _ i wr => ∃ k : Nat, k ≤ n ∧ i = .int .i64 k ∧ Below w.heap.size w wr ∧ ∀ j, j < k → eqA (aT ls j) (aT ks j) = true) (fun _ i _ => (n - intOf i).toNat)
    case atStart => exact ⟨0, by omega, rfl, B, fun j hj => by omega⟩
    case round =>
      clear B 
      obtain ⟨k, hk, rfl, B, hst⟩ := hrel
      have HST := Lib.hid hst
      clear hst
      by_cases hkn : k < n
      · have hkl : k < ls.length := by rw [E1.out]; exact hkn
        have hkk : k < ks.length := by rw [E2.out]; exact hkn
        obtain ⟨g, o, rfl, rc0⟩ := (E1.out ▸ HS.out).at (by omega)
        obtain ⟨g', o', rfl, rd0⟩ := (E2.out ▸ HS'.out).at (by omega)
        have hg0 := rc0.lt
        have hg1 := rd0.lt
        have rc := rc0.of_eq (B.block _ rc0.lt)
        have rd := rd0.of_eq (B.block _ rd0.lt)
        clear rc0 rd0
        obtain ⟨e, he⟩ : ∃ e, aT ls k = e := ⟨_, rfl⟩
        obtain ⟨e', he'⟩ : ∃ e, aT ks k = e := ⟨_, rfl⟩
        have hneq : ∀ w, (binOp .neq 79 (.agg (taC e)) (.agg (taC e'))).run Try.prog w = .ok (.bool (!eqA e e')) w := fun w => neq_ta _ _ w
        cases hq : eqA e e' with
        | true =>
          go_wp2_with (first | fail | fail)
          refine wp_region_ov (by kernel_rfl) (by kernel_rfl) ?_
          repeat (first | go_big_quiet_skip | (go_big_quiet_want; first | (refine quiet_loadAny (t := 79) rfl _ _ _ rfl (fun w hw => rc_ta (ov_rc rc w hw) hkl he) (by first | rfl | omega) ?_; simp only [Act.put, List.setIfInBounds_toArray, List.set_cons_zero, List.set_cons_succ]; go_big_quiet_on) | (refine quiet_loadAny (t := 79) rfl _ _ _ rfl (fun w hw => rc_ta (ov_rc rd w hw) hkk he') (by first | rfl | omega) ?_; simp only [Act.put, List.setIfInBounds_toArray, List.set_cons_zero, List.set_cons_succ]; go_big_quiet_on) | (go_big_quiet_op; first | go_big_quiet_on | go_big_quiet_call ((fail)))))
          refine wpQuiet_nil ?_
          intro wn hbn
          have hsz := B.size
          have hzn := hbn.size
          replace B := B.trans (hbn.mono B.size)
          try first | replace rc := rc.of_eq (hbn.block _ rc.lt) | replace rc := rc.below hbn
          try first | replace rd := rd.of_eq (hbn.block _ rd.lt) | replace rd := rd.below hbn
          go_wp2
          go_roundw
          case rel => exact ⟨k + 1, by omega, by go_num, B, fun j hj => by
            by_cases ej : j = k
            · rw [ej, he, he', hq]
            · exact HST.out j (by omega)⟩
          case measure => simp [intOf]; omega
        | false =>
          have EN := Lib.hid (eqL_no (ks := ks) hkl (by rw [he, he', hq]))
          go_wp2_with (first | fail | fail)
          refine wp_region_ov (by kernel_rfl) (by kernel_rfl) ?_
          repeat (first | go_big_quiet_skip | (go_big_quiet_want; first | (refine quiet_loadAny (t := 79) rfl _ _ _ rfl (fun w hw => rc_ta (ov_rc rc w hw) hkl he) (by first | rfl | omega) ?_; simp only [Act.put, List.setIfInBounds_toArray, List.set_cons_zero, List.set_cons_succ]; go_big_quiet_on) | (refine quiet_loadAny (t := 79) rfl _ _ _ rfl (fun w hw => rc_ta (ov_rc rd w hw) hkk he') (by first | rfl | omega) ?_; simp only [Act.put, List.setIfInBounds_toArray, List.set_cons_zero, List.set_cons_succ]; go_big_quiet_on) | (go_big_quiet_op; first | go_big_quiet_on | go_big_quiet_call ((fail)))))
          refine wpQuiet_nil ?_
          intro wn hbn
          have hsz := B.size
          have hzn := hbn.size
          replace B := B.trans (hbn.mono B.size)
          try first | replace rc := rc.of_eq (hbn.block _ rc.lt) | replace rc := rc.below hbn
          try first | replace rd := rd.of_eq (hbn.block _ rd.lt) | replace rd := rd.below hbn
          go_wp2
          go_ret
          exact ⟨by rw [EN.out]; try rfl, B⟩
      · have EY := Lib.hid (eqL_yes HL.out (fun j hj => HST.out j (by have := E1.out; omega)))
        go_wp2_with (first | fail | fail)
        go_ret
        exact ⟨by rw [EY.out]; try rfl, B⟩
  · rw [eqL_len hlen]
    have hne : ((ls.length : Int) != (ks.length : Int)) = true := by simp; omega
    clear hlen
    go_enter Try.func89, Try.ntmps89
    go_wp2_with (first | fail | fail)
    go_ret
    exact ⟨rfl, B⟩
set_option maxHeartbeats 1000000 in
theorem R_equal (v u : Value) (ls ks : List TA) (w : World) (h : RS v ls w) (h' : RS u ks w) (hn : ls.length ≤ maxLen) (hn' : ks.length ≤ maxLen) : Calls Try.prog 76 #[.agg #[v], .agg #[u]] w fun e w' => e = .returned (.bool (eqL ls ks)) ∧ Below w.heap.size w w' := by
  unfold maxLen at hn hn'
  obtain ⟨a, c, rfl, hc⟩ := h.len
  obtain ⟨a', c', rfl, hc'⟩ := h'.len
  have B := Below.refl w.heap.size w
  have HS := Lib.hid h
  have HS' := Lib.hid h'
  clear h h'
  by_cases hlen : ls.length = ks.length
  · have HL := Lib.hid hlen
    obtain ⟨n, hnl⟩ : ∃ n, n = ls.length := ⟨_, rfl⟩
    have e1 : ls.length = n := hnl.symm
    have e2 : ks.length = n := by omega
    rw [e1, e2]
    rw [e1] at hn hc
    rw [e2] at hn' hc'
    have E1 := Lib.hid e1
    have E2 := Lib.hid e2
    clear hlen hnl e1 e2
    go_enter Try.func76, Try.ntmps76
    go_wp2_with (first | (refine wpList_loadAny (t := 28) rfl _ rfl _ _ _ rfl (run_load_sl r1.cell0) (by rfl) ?_; simp only [Act.put, List.setIfInBounds_toArray, List.set_cons_zero, List.set_cons_succ]) | (refine wpList_loadAny (t := 28) rfl _ rfl _ _ _ rfl (run_load_sl r2.cell0) (by rfl) ?_; simp only [Act.put, List.setIfInBounds_toArray, List.set_cons_zero, List.set_cons_succ]) | (have _ := r1; refine wpList_boxB (t := 30) rfl _ rfl _ rfl ?_; intro b_r2 wn hle hge ht hbn hzn; have hsz := B.size; replace B := B.trans (hbn.mono (by omega)); have hln := Nat.lt_of_lt_of_eq (Nat.lt_succ_self _) hzn.symm; clear hzn; (try first | (have hlt := r1.lt; replace r1 := r1.of_eq (hbn.block _ (by omega))) | replace r1 := r1.below (hbn.mono hle)); (try first | (have hlt := r2.lt; replace r2 := r2.of_eq (hbn.block _ (by omega))) | replace r2 := r2.below (hbn.mono hle)); (try first | (have hlt := rc.lt; replace rc := rc.of_eq (hbn.block _ (by omega))) | replace rc := rc.below (hbn.mono hle)); (try first | (have hlt := rd.lt; replace rd := rd.of_eq (hbn.block _ (by omega))) | replace rd := rd.below (hbn.mono hle)); have r2 := ht; clear ht; simp only [Act.put, List.setIfInBounds_toArray, List.set_cons_zero, List.set_cons_succ]) | (refine wpList_boxB (t := 30) rfl _ rfl _ rfl ?_; intro b_r1 wn hle hge ht hbn hzn; have hsz := B.size; replace B := B.trans (hbn.mono (by omega)); have hln := Nat.lt_of_lt_of_eq (Nat.lt_succ_self _) hzn.symm; clear hzn; (try first | (have hlt := r1.lt; replace r1 := r1.of_eq (hbn.block _ (by omega))) | replace r1 := r1.below (hbn.mono hle)); (try first | (have hlt := r2.lt; replace r2 := r2.of_eq (hbn.block _ (by omega))) | replace r2 := r2.below (hbn.mono hle)); (try first | (have hlt := rc.lt; replace rc := rc.of_eq (hbn.block _ (by omega))) | replace rc := rc.below (hbn.mono hle)); (try first | (have hlt := rd.lt; replace rd := rd.of_eq (hbn.block _ (by omega))) | replace rd := rd.below (hbn.mono hle)); have r1 := ht; clear ht; simp only [Act.put, List.setIfInBounds_toArray, List.set_cons_zero, List.set_cons_succ]) | fail)
    go_loopw [5] (fun i wr => ∃ k : Nat, k ≤ n ∧ i = .int .i64 k ∧ Below w.heap.size w wr ∧ AtB 30 wr b_r1 #[.slice a n c] ∧ AtB 30 wr b_r2 #[.slice a' n c'] ∧ ∀ j, j < k → eqA (aT ls j) (aT ks j) = true) (fun i _ => (n - intOf i).toNat)
    case atStart => exact ⟨0, by omega, rfl, B, r1, r2, fun j hj => by omega⟩
    case round =>
      clear B r1 r2
      obtain ⟨k, hk, rfl, B, r1, r2, hst⟩ := hrel
      have HST := Lib.hid hst
      clear hst
      by_cases hkn : k < n
      · have hkl : k < ls.length := by rw [E1.out]; exact hkn
        have hkk : k < ks.length := by rw [E2.out]; exact hkn
        obtain ⟨g, o, rfl, rc0⟩ := (E1.out ▸ HS.out).at (by omega)
        obtain ⟨g', o', rfl, rd0⟩ := (E2.out ▸ HS'.out).at (by omega)
        have hg0 := rc0.lt
        have hg1 := rd0.lt
        have rc := rc0.of_eq (B.block _ rc0.lt)
        have rd := rd0.of_eq (B.block _ rd0.lt)
        clear rc0 rd0
        obtain ⟨e, he⟩ : ∃ e, aT ls k = e := ⟨_, rfl⟩
        obtain ⟨e', he'⟩ : ∃ e, aT ks k = e := ⟨_, rfl⟩
        have hneq : ∀ w, (binOp .neq 79 (.agg (taC e)) (.agg (taC e'))).run Try.prog w = .ok (.bool (!eqA e e')) w := fun w => neq_ta _ _ w
        cases hq : eqA e e' with
        | true =>
          go_wp2_with (first | (refine wpList_loadAny (t := 28) rfl _ rfl _ _ _ rfl (run_load_sl r1.cell0) (by rfl) ?_; simp only [Act.put, List.setIfInBounds_toArray, List.set_cons_zero, List.set_cons_succ]) | (refine wpList_loadAny (t := 28) rfl _ rfl _ _ _ rfl (run_load_sl r2.cell0) (by rfl) ?_; simp only [Act.put, List.setIfInBounds_toArray, List.set_cons_zero, List.set_cons_succ]) | fail)
          refine wp_region_ov (by kernel_rfl) (by kernel_rfl) ?_
          repeat (first | go_big_quiet_skip | (go_big_quiet_want; first | (refine quiet_loadAny (t := 79) rfl _ _ _ rfl (fun w hw => rc_ta (ov_rc rc w hw) hkl he) (by first | rfl | omega) ?_; simp only [Act.put, List.setIfInBounds_toArray, List.set_cons_zero, List.set_cons_succ]; go_big_quiet_on) | (refine quiet_loadAny (t := 79) rfl _ _ _ rfl (fun w hw => rc_ta (ov_rc rd w hw) hkk he') (by first | rfl | omega) ?_; simp only [Act.put, List.setIfInBounds_toArray, List.set_cons_zero, List.set_cons_succ]; go_big_quiet_on) | (refine quiet_loadAny (t := 28) rfl _ _ _ rfl (fun w hw => run_load_sl (ov_B r1 w hw).cell0) (by rfl) ?_; simp only [Act.put, List.setIfInBounds_toArray, List.set_cons_zero, List.set_cons_succ]; go_big_quiet_on) | (refine quiet_loadAny (t := 28) rfl _ _ _ rfl (fun w hw => run_load_sl (ov_B r2 w hw).cell0) (by rfl) ?_; simp only [Act.put, List.setIfInBounds_toArray, List.set_cons_zero, List.set_cons_succ]; go_big_quiet_on) | (go_big_quiet_op; first | go_big_quiet_on | go_big_quiet_call ((fail)))))
          refine wpQuiet_nil ?_
          intro wn hbn
          have hsz := B.size
          have hzn := hbn.size
          replace B := B.trans (hbn.mono B.size)
          try first | replace r1 := r1.of_eq (hbn.block _ r1.lt) | replace r1 := r1.below hbn
          try first | replace r2 := r2.of_eq (hbn.block _ r2.lt) | replace r2 := r2.below hbn
          try first | replace rc := rc.of_eq (hbn.block _ rc.lt) | replace rc := rc.below hbn
          try first | replace rd := rd.of_eq (hbn.block _ rd.lt) | replace rd := rd.below hbn
          go_wp2
          go_roundw
          case rel => exact ⟨k + 1, by omega, by go_num, B, r1, r2, fun j hj => by
            by_cases ej : j = k
            · rw [ej, he, he', hq]
            · exact HST.out j (by omega)⟩
          case measure => simp [intOf]; omega
        | false =>
          have EN := Lib.hid (eqL_no (ks := ks) hkl (by rw [he, he', hq]))
          go_wp2_with (first | (refine wpList_loadAny (t := 28) rfl _ rfl _ _ _ rfl (run_load_sl r1.cell0) (by rfl) ?_; simp only [Act.put, List.setIfInBounds_toArray, List.set_cons_zero, List.set_cons_succ]) | (refine wpList_loadAny (t := 28) rfl _ rfl _ _ _ rfl (run_load_sl r2.cell0) (by rfl) ?_; simp only [Act.put, List.setIfInBounds_toArray, List.set_cons_zero, List.set_cons_succ]) | fail)
          refine wp_region_ov (by kernel_rfl) (by kernel_rfl) ?_
          repeat (first | go_big_quiet_skip | (go_big_quiet_want; first | (refine quiet_loadAny (t := 79) rfl _ _ _ rfl (fun w hw => rc_ta (ov_rc rc w hw) hkl he) (by first | rfl | omega) ?_; simp only [Act.put, List.setIfInBounds_toArray, List.set_cons_zero, List.set_cons_succ]; go_big_quiet_on) | (refine quiet_loadAny (t := 79) rfl _ _ _ rfl (fun w hw => rc_ta (ov_rc rd w hw) hkk he') (by first | rfl | omega) ?_; simp only [Act.put, List.setIfInBounds_toArray, List.set_cons_zero, List.set_cons_succ]; go_big_quiet_on) | (refine quiet_loadAny (t := 28) rfl _ _ _ rfl (fun w hw => run_load_sl (ov_B r1 w hw).cell0) (by rfl) ?_; simp only [Act.put, List.setIfInBounds_toArray, List.set_cons_zero, List.set_cons_succ]; go_big_quiet_on) | (refine quiet_loadAny (t := 28) rfl _ _ _ rfl (fun w hw => run_load_sl (ov_B r2 w hw).cell0) (by rfl) ?_; simp only [Act.put, List.setIfInBounds_toArray, List.set_cons_zero, List.set_cons_succ]; go_big_quiet_on) | (go_big_quiet_op; first | go_big_quiet_on | go_big_quiet_call ((fail)))))
          refine wpQuiet_nil ?_
          intro wn hbn
          have hsz := B.size
          have hzn := hbn.size
          replace B := B.trans (hbn.mono B.size)
          try first | replace r1 := r1.of_eq (hbn.block _ r1.lt) | replace r1 := r1.below hbn
          try first | replace r2 := r2.of_eq (hbn.block _ r2.lt) | replace r2 := r2.below hbn
          try first | replace rc := rc.of_eq (hbn.block _ rc.lt) | replace rc := rc.below hbn
          try first | replace rd := rd.of_eq (hbn.block _ rd.lt) | replace rd := rd.below hbn
          go_wp2
          go_ret
          exact ⟨by rw [EN.out]; try rfl, B⟩
      · have EY := Lib.hid (eqL_yes HL.out (fun j hj => HST.out j (by have := E1.out; omega)))
        go_wp2_with (first | (refine wpList_loadAny (t := 28) rfl _ rfl _ _ _ rfl (run_load_sl r1.cell0) (by rfl) ?_; simp only [Act.put, List.setIfInBounds_toArray, List.set_cons_zero, List.set_cons_succ]) | (refine wpList_loadAny (t := 28) rfl _ rfl _ _ _ rfl (run_load_sl r2.cell0) (by rfl) ?_; simp only [Act.put, List.setIfInBounds_toArray, List.set_cons_zero, List.set_cons_succ]) | fail)
        go_ret
        exact ⟨by rw [EY.out]; try rfl, B⟩
  · rw [eqL_len hlen]
    have hne : ((ls.length : Int) != (ks.length : Int)) = true := by simp; omega
    clear hlen
    go_enter Try.func76, Try.ntmps76
    go_wp2_with (first | (refine wpList_loadAny (t := 28) rfl _ rfl _ _ _ rfl (run_load_sl r1.cell0) (by rfl) ?_; simp only [Act.put, List.setIfInBounds_toArray, List.set_cons_zero, List.set_cons_succ]) | (refine wpList_loadAny (t := 28) rfl _ rfl _ _ _ rfl (run_load_sl r2.cell0) (by rfl) ?_; simp only [Act.put, List.setIfInBounds_toArray, List.set_cons_zero, List.set_cons_succ]) | (have _ := r1; refine wpList_boxB (t := 30) rfl _ rfl _ rfl ?_; intro b_r2 wn hle hge ht hbn hzn; have hsz := B.size; replace B := B.trans (hbn.mono (by omega)); have hln := Nat.lt_of_lt_of_eq (Nat.lt_succ_self _) hzn.symm; clear hzn; (try first | (have hlt := r1.lt; replace r1 := r1.of_eq (hbn.block _ (by omega))) | replace r1 := r1.below (hbn.mono hle)); (try first | (have hlt := r2.lt; replace r2 := r2.of_eq (hbn.block _ (by omega))) | replace r2 := r2.below (hbn.mono hle)); (try first | (have hlt := rc.lt; replace rc := rc.of_eq (hbn.block _ (by omega))) | replace rc := rc.below (hbn.mono hle)); (try first | (have hlt := rd.lt; replace rd := rd.of_eq (hbn.block _ (by omega))) | replace rd := rd.below (hbn.mono hle)); have r2 := ht; clear ht; simp only [Act.put, List.setIfInBounds_toArray, List.set_cons_zero, List.set_cons_succ]) | (refine wpList_boxB (t := 30) rfl _ rfl _ rfl ?_; intro b_r1 wn hle hge ht hbn hzn; have hsz := B.size; replace B := B.trans (hbn.mono (by omega)); have hln := Nat.lt_of_lt_of_eq (Nat.lt_succ_self _) hzn.symm; clear hzn; (try first | (have hlt := r1.lt; replace r1 := r1.of_eq (hbn.block _ (by omega))) | replace r1 := r1.below (hbn.mono hle)); (try first | (have hlt := r2.lt; replace r2 := r2.of_eq (hbn.block _ (by omega))) | replace r2 := r2.below (hbn.mono hle)); (try first | (have hlt := rc.lt; replace rc := rc.of_eq (hbn.block _ (by omega))) | replace rc := rc.below (hbn.mono hle)); (try first | (have hlt := rd.lt; replace rd := rd.of_eq (hbn.block _ (by omega))) | replace rd := rd.below (hbn.mono hle)); have r1 := ht; clear ht; simp only [Act.put, List.setIfInBounds_toArray, List.set_cons_zero, List.set_cons_succ]) | fail)
    go_ret
    exact ⟨rfl, B⟩
theorem P_Equal (v u : Value) (ls ks : List TA) (w : World) (h : RS v ls w) (h' : RS u ks w) (tk : TokL ls) (tk' : TokL ks) (hn : ls.length ≤ maxLen) (hn' : ks.length ≤ maxLen) : Calls Try.prog 44 #[.agg #[v], .agg #[u]] w fun e w' => e = .returned (.bool (eqL (fineL ls) (fineL ks))) ∧ Below w.heap.size w w' := by
  have B := Below.refl w.heap.size w
  obtain ⟨a1, c1, hT⟩ := P_tiles v ls w h tk hn
  obtain ⟨a2, c2, hU⟩ := P_tiles u ks w h' tk' hn'
  have HT := Lib.hid hT
  have HU := Lib.hid hU
  clear hT hU
  obtain ⟨a, c, rfl, hc⟩ := h.len
  obtain ⟨a', c', rfl, hc'⟩ := h'.len
  have hf1 : (fineL ls).length ≤ maxLen := by have := fineL_le ls; omega
  have hf2 : (fineL ks).length ≤ maxLen := by have := fineL_le ks; omega
  clear h h' tk tk'
  go_enter Try.func44, Try.ntmps44
  go_wp2_with (first | (have _ := r1; refine wpList_boxB (t := 30) rfl _ rfl _ rfl ?_; intro b_r2 wn hle hge ht hbn hzn; have hsz := B.size; replace B := B.trans (hbn.mono (by omega)); have hln := Nat.lt_of_lt_of_eq (Nat.lt_succ_self _) hzn.symm; clear hzn; (try first | (have hlt := r1.lt; replace r1 := r1.of_eq (hbn.block _ (by omega))) | replace r1 := r1.below (hbn.mono hle)); (try first | (have hlt := r2.lt; replace r2 := r2.of_eq (hbn.block _ (by omega))) | replace r2 := r2.below (hbn.mono hle)); have r2 := ht; clear ht; simp only [Act.put, List.setIfInBounds_toArray, List.set_cons_zero, List.set_cons_succ]) | (refine wpList_boxB (t := 30) rfl _ rfl _ rfl ?_; intro b_r1 wn hle hge ht hbn hzn; have hsz := B.size; replace B := B.trans (hbn.mono (by omega)); have hln := Nat.lt_of_lt_of_eq (Nat.lt_succ_self _) hzn.symm; clear hzn; (try first | (have hlt := r1.lt; replace r1 := r1.of_eq (hbn.block _ (by omega))) | replace r1 := r1.below (hbn.mono hle)); (try first | (have hlt := r2.lt; replace r2 := r2.of_eq (hbn.block _ (by omega))) | replace r2 := r2.below (hbn.mono hle)); have r1 := ht; clear ht; simp only [Act.put, List.setIfInBounds_toArray, List.set_cons_zero, List.set_cons_succ]) | fail)
  refine wp_region_ov (by kernel_rfl) (by kernel_rfl) ?_
  repeat (first | go_big_quiet_skip | (go_big_quiet_want; first | (refine quiet_loadAny (t := 30) rfl _ _ _ rfl (fun w hw => run_load_B (ov_B r1 w hw) Try.isAgg30 (by kernel_rfl)) (by rfl) ?_; simp only [Act.put, List.setIfInBounds_toArray, List.set_cons_zero, List.set_cons_succ]; go_big_quiet_on) | (refine quiet_loadAny (t := 30) rfl _ _ _ rfl (fun w hw => run_load_B (ov_B r2 w hw) Try.isAgg30 (by kernel_rfl)) (by rfl) ?_; simp only [Act.put, List.setIfInBounds_toArray, List.set_cons_zero, List.set_cons_succ]; go_big_quiet_on) | (go_big_quiet_op; first | go_big_quiet_on | go_big_quiet_call ((first | (go_at_call 89; exact calls_ov (P_equal _ _ _ _ _ (HT.out _ (below_ov B B.size _)).2 (HU.out _ (below_ov B B.size _)).2 hf1 hf2)) | (go_at_call 68; with_reducible exact calls_ov (HT.out _ (below_ov B B.size _)).1) | (go_at_call 68; with_reducible exact calls_ov (HU.out _ (below_ov B B.size _)).1))))))
  refine wpQuiet_nil ?_
  intro wn hbn
  have hsz := B.size
  have hzn := hbn.size
  replace B := B.trans (hbn.mono B.size)
  try first | replace r1 := r1.of_eq (hbn.block _ r1.lt) | replace r1 := r1.below hbn
  try first | replace r2 := r2.of_eq (hbn.block _ r2.lt) | replace r2 := r2.below hbn
  go_wp2
  go_ret
  exact ⟨rfl, B⟩
theorem R_Equal (v u : Value) (ls ks : List TA) (w : World) (h : RS v ls w) (h' : RS u ks w) (tk : TokL ls) (tk' : TokL ks) (hn : ls.length ≤ maxLen) (hn' : ks.length ≤ maxLen) : Calls Try.prog 30 #[.agg #[v], .agg #[u]] w fun e w' => e = .returned (.bool (eqL (fineL ls) (fineL ks))) ∧ Below w.heap.size w w' := by
  have B := Below.refl w.heap.size w
  obtain ⟨a1, c1, hT⟩ := R_Of v ls w h tk hn
  obtain ⟨a2, c2, hU⟩ := R_Of u ks w h' tk' hn'
  have HT := Lib.hid hT
  have HU := Lib.hid hU
  clear hT hU
  obtain ⟨a, c, rfl, hc⟩ := h.len
  obtain ⟨a', c', rfl, hc'⟩ := h'.len
  have hf1 : (fineL ls).length ≤ maxLen := by have := fineL_le ls; omega
  have hf2 : (fineL ks).length ≤ maxLen := by have := fineL_le ks; omega
  clear h h' tk tk'
  go_enter Try.func30, Try.ntmps30
  go_wp2_with (first | (have _ := r1; refine wpList_boxB (t := 30) rfl _ rfl _ rfl ?_; intro b_r2 wn hle hge ht hbn hzn; have hsz := B.size; replace B := B.trans (hbn.mono (by omega)); have hln := Nat.lt_of_lt_of_eq (Nat.lt_succ_self _) hzn.symm; clear hzn; (try first | (have hlt := r1.lt; replace r1 := r1.of_eq (hbn.block _ (by omega))) | replace r1 := r1.below (hbn.mono hle)); (try first | (have hlt := r2.lt; replace r2 := r2.of_eq (hbn.block _ (by omega))) | replace r2 := r2.below (hbn.mono hle)); have r2 := ht; clear ht; simp only [Act.put, List.setIfInBounds_toArray, List.set_cons_zero, List.set_cons_succ]) | (refine wpList_boxB (t := 30) rfl _ rfl _ rfl ?_; intro b_r1 wn hle hge ht hbn hzn; have hsz := B.size; replace B := B.trans (hbn.mono (by omega)); have hln := Nat.lt_of_lt_of_eq (Nat.lt_succ_self _) hzn.symm; clear hzn; (try first | (have hlt := r1.lt; replace r1 := r1.of_eq (hbn.block _ (by omega))) | replace r1 := r1.below (hbn.mono hle)); (try first | (have hlt := r2.lt; replace r2 := r2.of_eq (hbn.block _ (by omega))) | replace r2 := r2.below (hbn.mono hle)); have r1 := ht; clear ht; simp only [Act.put, List.setIfInBounds_toArray, List.set_cons_zero, List.set_cons_succ]) | fail)
  refine wp_region_ov (by kernel_rfl) (by kernel_rfl) ?_
  repeat (first | go_big_quiet_skip | (go_big_quiet_want; first | (refine quiet_loadAny (t := 30) rfl _ _ _ rfl (fun w hw => run_load_B (ov_B r1 w hw) Try.isAgg30 (by kernel_rfl)) (by rfl) ?_; simp only [Act.put, List.setIfInBounds_toArray, List.set_cons_zero, List.set_cons_succ]; go_big_quiet_on) | (refine quiet_loadAny (t := 30) rfl _ _ _ rfl (fun w hw => run_load_B (ov_B r2 w hw) Try.isAgg30 (by kernel_rfl)) (by rfl) ?_; simp only [Act.put, List.setIfInBounds_toArray, List.set_cons_zero, List.set_cons_succ]; go_big_quiet_on) | (go_big_quiet_op; first | go_big_quiet_on | go_big_quiet_call ((first | (go_at_call 76; exact calls_ov (R_equal _ _ _ _ _ (HT.out _ (below_ov B B.size _)).2 (HU.out _ (below_ov B B.size _)).2 hf1 hf2)) | (go_at_call 70; with_reducible exact calls_ov (HT.out _ (below_ov B B.size _)).1) | (go_at_call 70; with_reducible exact calls_ov (HU.out _ (below_ov B B.size _)).1))))))
  refine wpQuiet_nil ?_
  intro wn hbn
  have hsz := B.size
  have hzn := hbn.size
  replace B := B.trans (hbn.mono B.size)
  try first | replace r1 := r1.of_eq (hbn.block _ r1.lt) | replace r1 := r1.below hbn
  try first | replace r2 := r2.of_eq (hbn.block _ r2.lt) | replace r2 := r2.below hbn
  go_wp2
  go_ret
  exact ⟨rfl, B⟩
end Go.Proofs.Ytppccnjckiedlaa
