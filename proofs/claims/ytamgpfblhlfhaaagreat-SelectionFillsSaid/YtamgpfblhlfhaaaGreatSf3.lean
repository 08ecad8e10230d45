import Derived.Test.YtamgpfblhlfhaaaGreatSf2
import Derived.Deep.MidRow
import Derived.Deep.Upon
import Derived.RangeFuncNested
import Derived.RangeFuncBound
import Derived.RangeFuncCalls
import Derived.RangeFuncLeaves
import Derived.OrdersIn
import Derived.OwnWalkIn
import Derived.TacticsInMore
import Derived.LoopNIn
import Derived.LoopIn

/- '==' of tiles at a position; contracts of Equal of package raster and of its reference. -/
namespace Go.Proofs.YtamgpfblhlfhaaaGreat
open Go.RowKit Go.Shelf Pl
set_option linter.unusedVariables false
set_option linter.unusedSimpArgs false
set_option maxRecDepth 20000
theorem eqItems_tileD (d : Nat) (f g : Nat → Px) (w : World) : ∀ is : List Nat, (∀ i ∈ is, i < 64) → (Op.eqItems (d + 2) 25 4 (tileC f) (tileC g) is).run Tryz.prog w = .ok (decide (∀ i ∈ is, f i = g i)) w
 | [], _ => by simp [Op.eqItems]
 | i :: is, h => by
  have hi : i < 64 := h i (by simp)
  simp only [Op.eqItems, Sem.run_bind, part_tile f i hi, part_tile g i hi, Result.andThen_ok, equalIn_px d]
  by_cases e : f i = g i
  ·simp [e, eqItems_tileD d f g w is (fun j hj => h j (by simp [hj]))]
  ·simp [e]
theorem equalIn_tileD (d : Nat) (f g : Nat → Px) (w : World) : (Op.equalIn (d + 3) 70 (Tile.v f) (Tile.v g)).run Tryz.prog w = .ok (eqT f g) w := by
 obtain ⟨i, hi⟩ : ∃ i, Tryz.prog.info? 25 = some i := by
  cases h : Tryz.prog.info? 25 with
  | some i => exact ⟨i, rfl⟩
  | none =>
   have e : (Tryz.prog.info? 25).isSome = true := by kernel_rfl
   rw [h] at e; cases e
 unfold Tile.v
 refine (run_equalIn_array w (d + 2) (tileC f) (tileC g) Tryz.underlying70 hi).trans ?_
 rw [cellsOf_px, eqItems_tileD d f g w _ (fun i hi => List.mem_range.1 hi)]
 rfl
theorem sizeOf_pos (w : World) : (sizeOf 68).run Tryz.prog w = .ok 2 w := by kernel_rfl
theorem sizeOf_tl (w : World) : (sizeOf 70).run Tryz.prog w = .ok 256 w := by kernel_rfl
theorem part_pos (e : TA) (w : World) : (Go.part 68 (taC e) 0).run Tryz.prog w = .ok (Ps.v e.x e.y) w := by
 unfold Go.part
 simp only [Sem.run_bind, Tryz.isAgg68, Result.andThen_ok, if_true, sizeOf_pos, Sem.run_pure, Ps.v]
 congr 2
 apply Array.ext_getElem?
 intro k
 rw [Array.getElem?_extract]
 obtain ⟨x, y, t⟩ := e
 by_cases h : k < 2
 ·rw [if_pos (by rw [size_taC]; omega), Nat.zero_add, taC_get, if_pos h]
 ·rw [if_neg (by omega)]
  exact (Array.getElem?_eq_none (by simp; omega)).symm
theorem part_tl (e : TA) (w : World) : (Go.part 70 (taC e) 2).run Tryz.prog w = .ok (Tile.v e.t) w := by
 unfold Go.part
 simp only [Sem.run_bind, Tryz.isAgg70, Result.andThen_ok, if_true, sizeOf_tl, Sem.run_pure, Tile.v]
 congr 2
 apply Array.ext_getElem?
 intro k
 rw [Array.getElem?_extract]
 by_cases h : k < 256
 ·rw [if_pos (by rw [size_taC]; omega), taC_t]
 ·rw [if_neg (by omega)]
  exact (Array.getElem?_eq_none (by rw [size_tileC]; omega)).symm
def eqA (a b : TA) : Bool := eqB a.x a.y b.x b.y && eqT a.t b.t
theorem fields_ta : (Tryz.prog.fieldsOf 72).toList.map (fun f => (f.name == "_", f.type, f.offset)) = [(false, 68, 0), (false, 70, 2)] := by kernel_rfl
theorem equalIn_ta (d : Nat) (a b : TA) (w : World) : (Op.equalIn (d + 4) 72 (.agg (taC a)) (.agg (taC b))).run Tryz.prog w = .ok (eqA a b) w := by
 rw [run_equalIn_struct w (d + 3) 72 (taC a) (taC b) (by kernel_rfl) (by kernel_rfl)]
 have hf := fields_ta
 generalize (Tryz.prog.fieldsOf 72).toList = fs at hf
 obtain ⟨f, fs, rfl, hf1, hf⟩ := List.map_eq_cons_iff.1 hf
 obtain ⟨g, fs, rfl, hf2, hf⟩ := List.map_eq_cons_iff.1 hf
 obtain rfl := List.map_eq_nil_iff.1 hf
 simp only [Prod.mk.injEq] at hf1 hf2
 obtain ⟨n1, t1, o1⟩ := hf1
 obtain ⟨n2, t2, o2⟩ := hf2
 have n1 : f.name ≠ "_" := by simpa using n1
 have n2 : g.name ≠ "_" := by simpa using n2
 have p1 := fun w => part_pos a w
 simp only [Op.eqFields, n1, n2, t1, t2, o1, o2, ne_eq, not_false_eq_true, if_true, Sem.run_bind, part_pos, part_tl, Result.andThen_ok, equalIn_pos (d + 1), equalIn_tileD d]
 unfold eqA
 cases h1 : eqB a.x a.y b.x b.y <;> cases h2 : eqT a.t b.t <;> simp [part_tl, equalIn_tileD d, h1, h2]
theorem neq_ta (a b : TA) (w : World) : (binOp .neq 72 (.agg (taC a)) (.agg (taC b))).run Tryz.prog w = .ok (.bool (!eqA a b)) w := by
 have h := run_neq_struct (P := Tryz.prog) w 72 (taC a) (taC b)
 rw [h, equalIn_ta 9996]; rfl
@[go_sem] theorem guard_ta (op : BinOp) (p q : Operand) (a b : TA) (w : World) : (eqGuard op 72 p q (.agg (taC a)) (.agg (taC b))).run Tryz.prog w = .ok () w := run_eqGuard_agg w op 72 p q _ _ (by kernel_rfl)
/-- Two lists of tiles are equal. -/
def eqL (ls ks : List TA) : Bool := decide (ls.length = ks.length) && decide (∀ i ∈ List.range ls.length, eqA (aT ls i) (aT ks i) = true)
theorem eqL_len {ls ks : List TA} (h : ¬ ls.length = ks.length) : eqL ls ks = false := by unfold eqL; rw [decide_eq_false h]; rfl
theorem eqL_no {ls ks : List TA} {j : Nat} (hj : j < ls.length) (h : eqA (aT ls j) (aT ks j) = false) : eqL ls ks = false := by
 unfold eqL
 rw [Bool.and_eq_false_iff]
 right
 exact decide_eq_false fun e => by rw [e j (List.mem_range.2 hj)] at h; cases h
theorem eqL_yes {ls ks : List TA} (h : ls.length = ks.length) (k : ∀ j, j < ls.length → eqA (aT ls j) (aT ks j) = true) : eqL ls ks = true := by
 unfold eqL
 rw [decide_eq_true h, Bool.true_and]
 exact decide_eq_true fun j hj => k j (List.mem_range.1 hj)
set_option maxHeartbeats 1000000 in
theorem R_equal (v u : Value) (ls ks : List TA) (w : World) (h : RS v ls w) (h' : RS u ks w) (hn : ls.length ≤ maxLen) (hn' : ks.length ≤ maxLen) : Calls Tryz.prog 39 #[.agg #[v], .agg #[u]] w fun e w' => e = .returned (.bool (eqL ls ks)) ∧ Below w.heap.size w w' := by
 unfold maxLen at hn hn'
 obtain ⟨a, c, rfl, hc⟩ := h.len
 obtain ⟨a', c', rfl, hc'⟩ := h'.len
 have B := Below.refl w.heap.size w
 have HS := Lib.hid h
 have HS' := Lib.hid h'
 clear h h'
 by_cases hlen : ls.length = ks.length
 ·have HL := Lib.hid hlen
  obtain ⟨n, hnl⟩ : ∃ n, n = ls.length := ⟨_, rfl⟩
  have e1 : ls.length = n := hnl.symm
  have e2 : ks.length = n := by omega
  rw [e1, e2]
  rw [e1] at hn hc
  rw [e2] at hn' hc'
  have E1 := Lib.hid e1
  have E2 := Lib.hid e2
  clear hlen hnl e1 e2
  go_enter Tryz.func39, Tryz.ntmps39
  go_wp2_with (first | (refine wpList_loadAny (t := 32) rfl _ rfl _ _ _ rfl (run_load_sl r1.cell0) (by rfl) ?_; simp only [putS]) | (refine wpList_loadAny (t := 32) rfl _ rfl _ _ _ rfl (run_load_sl r2.cell0) (by rfl) ?_; simp only [putS]) | (have _ := r1; refine wpList_boxB (t := 34) rfl _ rfl _ rfl ?_; intro b_r2 wn hle hge ht hbn hzn; have hsz := B.size; replace B := B.trans (hbn.mono (by omega)); have hln := Nat.lt_of_lt_of_eq (Nat.lt_succ_self _) hzn.symm; clear hzn; (try have hlt := r1.lt); (try replace r1 := r1.below (hbn.mono hle)); (try have hlt := r2.lt); (try replace r2 := r2.below (hbn.mono hle)); (try have hlt := rc.lt); (try replace rc := rc.below (hbn.mono hle)); (try have hlt := rd.lt); (try replace rd := rd.below (hbn.mono hle)); have r2 := ht; clear ht; simp only [putS]) | (refine wpList_boxB (t := 34) rfl _ rfl _ rfl ?_; intro b_r1 wn hle hge ht hbn hzn; have hsz := B.size; replace B := B.trans (hbn.mono (by omega)); have hln := Nat.lt_of_lt_of_eq (Nat.lt_succ_self _) hzn.symm; clear hzn; (try have hlt := r1.lt); (try replace r1 := r1.below (hbn.mono hle)); (try have hlt := r2.lt); (try replace r2 := r2.below (hbn.mono hle)); (try have hlt := rc.lt); (try replace rc := rc.below (hbn.mono hle)); (try have hlt := rd.lt); (try replace rd := rd.below (hbn.mono hle)); have r1 := ht; clear ht; simp only [putS]) | fail)
  go_loopw [5] (fun i wr => ∃ k : Nat, k ≤ n ∧ i = .int .i64 k ∧ Below w.heap.size w wr ∧ AtB 34 wr b_r1 #[.slice a n c] ∧ AtB 34 wr b_r2 #[.slice a' n c'] ∧ ∀ j, j < k → eqA (aT ls j) (aT ks j) = true) (fun i _ => (n - intOf i).toNat)
  case atStart => exact ⟨0, by omega, rfl, B, r1, r2, fun j hj => by omega⟩
  case round =>
   clear B r1 r2
   obtain ⟨k, hk, rfl, B, r1, r2, hst⟩ := hrel
   have HST := Lib.hid hst
   clear hst
   by_cases hkn : k < n
   ·have hkl : k < ls.length := by rw [E1.out]; exact hkn
    have hkk : k < ks.length := by rw [E2.out]; exact hkn
    obtain ⟨g, o, rfl, rc0⟩ := (E1.out ▸ HS.out).at (by omega)
    obtain ⟨g', o', rfl, rd0⟩ := (E2.out ▸ HS'.out).at (by omega)
    have hg0 := rc0.lt
    have hg1 := rd0.lt
    have rc := rc0.of_eq (B.block _ rc0.lt)
    have rd := rd0.of_eq (B.block _ rd0.lt)
    clear rc0 rd0
    obtain ⟨e, he⟩ : ∃ e, aT ls k = e := ⟨_, rfl⟩
    obtain ⟨e', he'⟩ : ∃ e, aT ks k = e := ⟨_, rfl⟩
    have hneq : ∀ w, (binOp .neq 72 (.agg (taC e)) (.agg (taC e'))).run Tryz.prog w = .ok (.bool (!eqA e e')) w := fun w => neq_ta _ _ w
    cases hq : eqA e e' with
    | true =>
     go_wp2_with (first | (refine wpList_loadAny (t := 32) rfl _ rfl _ _ _ rfl (run_load_sl r1.cell0) (by rfl) ?_; simp only [putS]) | (refine wpList_loadAny (t := 32) rfl _ rfl _ _ _ rfl (run_load_sl r2.cell0) (by rfl) ?_; simp only [putS]) | fail)
     refine wp_region_ov (by kernel_rfl) (by kernel_rfl) ?_
     repeat (first | go_big_quiet_skip | (go_big_quiet_want; first | (refine quiet_loadAny (t := 72) rfl _ _ _ rfl (fun w hw => rc_ta (ov_rc rc w hw) hkl he) (by first | rfl | omega) ?_; simp only [putS]; go_big_quiet_on) | (refine quiet_loadAny (t := 72) rfl _ _ _ rfl (fun w hw => rc_ta (ov_rc rd w hw) hkk he') (by first | rfl | omega) ?_; simp only [putS]; go_big_quiet_on) | (refine quiet_loadAny (t := 32) rfl _ _ _ rfl (fun w hw => run_load_sl (ov_B r1 w hw).cell0) (by rfl) ?_; simp only [putS]; go_big_quiet_on) | (refine quiet_loadAny (t := 32) rfl _ _ _ rfl (fun w hw => run_load_sl (ov_B r2 w hw).cell0) (by rfl) ?_; simp only [putS]; go_big_quiet_on) | (go_big_quiet_op; first | go_big_quiet_on | go_big_quiet_call ((fail)))))
     refine wpQuiet_nil ?_
     intro wn hbn
     have hsz := B.size
     have hzn := hbn.size
     replace B := B.trans (hbn.mono B.size)
     try replace r1 := r1.below hbn
     try replace r2 := r2.below hbn
     try replace rc := rc.below hbn
     try replace rd := rd.below hbn
     go_wp2
     go_roundw
     case rel => exact ⟨k + 1, by omega, by go_num, B, r1, r2, fun j hj => by
      by_cases ej : j = k
      ·rw [ej, he, he', hq]
      ·exact HST.out j (by omega)⟩
     case measure => simp [intOf]; omega
    | false =>
     have EN := Lib.hid (eqL_no (ks := ks) hkl (by rw [he, he', hq]))
     go_wp2_with (first | (refine wpList_loadAny (t := 32) rfl _ rfl _ _ _ rfl (run_load_sl r1.cell0) (by rfl) ?_; simp only [putS]) | (refine wpList_loadAny (t := 32) rfl _ rfl _ _ _ rfl (run_load_sl r2.cell0) (by rfl) ?_; simp only [putS]) | fail)
     refine wp_region_ov (by kernel_rfl) (by kernel_rfl) ?_
     repeat (first | go_big_quiet_skip | (go_big_quiet_want; first | (refine quiet_loadAny (t := 72) rfl _ _ _ rfl (fun w hw => rc_ta (ov_rc rc w hw) hkl he) (by first | rfl | omega) ?_; simp only [putS]; go_big_quiet_on) | (refine quiet_loadAny (t := 72) rfl _ _ _ rfl (fun w hw => rc_ta (ov_rc rd w hw) hkk he') (by first | rfl | omega) ?_; simp only [putS]; go_big_quiet_on) | (refine quiet_loadAny (t := 32) rfl _ _ _ rfl (fun w hw => run_load_sl (ov_B r1 w hw).cell0) (by rfl) ?_; simp only [putS]; go_big_quiet_on) | (refine quiet_loadAny (t := 32) rfl _ _ _ rfl (fun w hw => run_load_sl (ov_B r2 w hw).cell0) (by rfl) ?_; simp only [putS]; go_big_quiet_on) | (go_big_quiet_op; first | go_big_quiet_on | go_big_quiet_call ((fail)))))
     refine wpQuiet_nil ?_
     intro wn hbn
     have hsz := B.size
     have hzn := hbn.size
     replace B := B.trans (hbn.mono B.size)
     try replace r1 := r1.below hbn
     try replace r2 := r2.below hbn
     go_wp2
     go_ret
     exact ⟨by rw [EN.out]; try rfl, B⟩
   ·have EY := Lib.hid (eqL_yes HL.out (fun j hj => HST.out j (by have := E1.out; omega)))
    go_wp2_with (first | (refine wpList_loadAny (t := 32) rfl _ rfl _ _ _ rfl (run_load_sl r1.cell0) (by rfl) ?_; simp only [putS]) | (refine wpList_loadAny (t := 32) rfl _ rfl _ _ _ rfl (run_load_sl r2.cell0) (by rfl) ?_; simp only [putS]) | fail)
    go_ret
    exact ⟨by rw [EY.out]; try rfl, B⟩
 ·rw [eqL_len hlen]
  have hne : ((ls.length : Int) != (ks.length : Int)) = true := by simp; omega
  clear hlen
  go_enter Tryz.func39, Tryz.ntmps39
  go_wp2_with (first | (refine wpList_loadAny (t := 32) rfl _ rfl _ _ _ rfl (run_load_sl r1.cell0) (by rfl) ?_; simp only [putS]) | (refine wpList_loadAny (t := 32) rfl _ rfl _ _ _ rfl (run_load_sl r2.cell0) (by rfl) ?_; simp only [putS]) | (have _ := r1; refine wpList_boxB (t := 34) rfl _ rfl _ rfl ?_; intro b_r2 wn hle hge ht hbn hzn; have hsz := B.size; replace B := B.trans (hbn.mono (by omega)); have hln := Nat.lt_of_lt_of_eq (Nat.lt_succ_self _) hzn.symm; clear hzn; (try have hlt := r1.lt); (try replace r1 := r1.below (hbn.mono hle)); (try have hlt := r2.lt); (try replace r2 := r2.below (hbn.mono hle)); (try have hlt := rc.lt); (try have hlt := rd.lt); have r2 := ht; clear ht; simp only [putS]) | (refine wpList_boxB (t := 34) rfl _ rfl _ rfl ?_; intro b_r1 wn hle hge ht hbn hzn; have hsz := B.size; replace B := B.trans (hbn.mono (by omega)); have hln := Nat.lt_of_lt_of_eq (Nat.lt_succ_self _) hzn.symm; clear hzn; (try have hlt := r1.lt); (try replace r1 := r1.below (hbn.mono hle)); (try have hlt := r2.lt); (try replace r2 := r2.below (hbn.mono hle)); (try have hlt := rc.lt); (try have hlt := rd.lt); have r1 := ht; clear ht; simp only [putS]) | fail)
  go_ret
  exact ⟨rfl, B⟩
theorem R_Equal (v u : Value) (ls ks : List TA) (w : World) (h : RS v ls w) (h' : RS u ks w) (tk : TokL ls) (tk' : TokL ks) (hn : ls.length ≤ maxLen) (hn' : ks.length ≤ maxLen) : Calls Tryz.prog 11 #[.agg #[v], .agg #[u]] w fun e w' => e = .returned (.bool (eqL (fineL ls) (fineL ks))) ∧ Below w.heap.size w w' := by
 have B := Below.refl w.heap.size w
 obtain ⟨a1, c1, hT⟩ := R_Of v ls w h tk hn
 obtain ⟨a2, c2, hU⟩ := R_Of u ks w h' tk' hn'
 have HT := Lib.hid hT
 have HU := Lib.hid hU
 clear hT hU
 obtain ⟨a, c, rfl, hc⟩ := h.len
 obtain ⟨a', c', rfl, hc'⟩ := h'.len
 have hf1 : (fineL ls).length ≤ maxLen := by have := fineL_le ls; omega
 have hf2 : (fineL ks).length ≤ maxLen := by have := fineL_le ks; omega
 clear h h' tk tk'
 go_enter Tryz.func11, Tryz.ntmps11
 go_wp2_with (first | (have _ := r1; refine wpList_boxB (t := 34) rfl _ rfl _ rfl ?_; intro b_r2 wn hle hge ht hbn hzn; have hsz := B.size; replace B := B.trans (hbn.mono (by omega)); have hln := Nat.lt_of_lt_of_eq (Nat.lt_succ_self _) hzn.symm; clear hzn; (try have hlt := r1.lt); (try replace r1 := r1.below (hbn.mono hle)); (try have hlt := r2.lt); (try replace r2 := r2.below (hbn.mono hle)); have r2 := ht; clear ht; simp only [putS]) | (refine wpList_boxB (t := 34) rfl _ rfl _ rfl ?_; intro b_r1 wn hle hge ht hbn hzn; have hsz := B.size; replace B := B.trans (hbn.mono (by omega)); have hln := Nat.lt_of_lt_of_eq (Nat.lt_succ_self _) hzn.symm; clear hzn; (try have hlt := r1.lt); (try replace r1 := r1.below (hbn.mono hle)); (try have hlt := r2.lt); (try replace r2 := r2.below (hbn.mono hle)); have r1 := ht; clear ht; simp only [putS]) | fail)
 refine wp_region_ov (by kernel_rfl) (by kernel_rfl) ?_
 repeat (first | go_big_quiet_skip | (go_big_quiet_want; first | (refine quiet_loadAny (t := 34) rfl _ _ _ rfl (fun w hw => run_load_B (ov_B r1 w hw) Tryz.isAgg34 (by kernel_rfl)) (by rfl) ?_; simp only [putS]; go_big_quiet_on) | (refine quiet_loadAny (t := 34) rfl _ _ _ rfl (fun w hw => run_load_B (ov_B r2 w hw) Tryz.isAgg34 (by kernel_rfl)) (by rfl) ?_; simp only [putS]; go_big_quiet_on) | (go_big_quiet_op; first | go_big_quiet_on | go_big_quiet_call ((first | (go_at_call 39; exact calls_ov (R_equal _ _ _ _ _ (HT.out _ (below_ov B B.size _)).2 (HU.out _ (below_ov B B.size _)).2 hf1 hf2)) | (go_at_call 40; with_reducible exact calls_ov (HT.out _ (below_ov B B.size _)).1) | (go_at_call 40; with_reducible exact calls_ov (HU.out _ (below_ov B B.size _)).1))))))
 refine wpQuiet_nil ?_
 intro wn hbn
 have hsz := B.size
 have hzn := hbn.size
 replace B := B.trans (hbn.mono B.size)
 go_wp2
 go_ret
 exact ⟨rfl, B⟩
/- Contract of mapped of package raster, for whatever function that turns at most one block. -/
/-- Below n, block c aside, what was there is as it was. -/
structure Exc (c n : Nat) (w w' : World) : Prop where
 os : w'.os = w.os
 tape : w'.tape = w.tape
 output : w'.output = w.output
 size : n ≤ w'.heap.size
 grow : w.heap.size ≤ w'.heap.size
 block : ∀ k, k < n → k ≠ c → w'.heap[k]? = w.heap[k]?
theorem Exc.refl (c : Nat) (w : World) : Exc c w.heap.size w w := ⟨rfl, rfl, rfl, Nat.le_refl _, Nat.le_refl _, fun _ _ _ => rfl⟩
theorem Exc.trans {c n : Nat} {w1 w2 w3 : World} (h : Exc c n w1 w2) (k : Below n w2 w3) : Exc c n w1 w3 :=
 ⟨k.os.trans h.os, k.tape.trans h.tape, k.output.trans h.output, Nat.le_trans h.size k.size, Nat.le_trans h.grow k.size, fun i hi hc => (k.block i hi).trans (h.block i hi hc)⟩
theorem Exc.store {c n b : Nat} {w1 w2 w3 : World} (h : Exc c n w1 w2) (k : Chg b w2 w3) (hb : n ≤ b) : Exc c n w1 w3 :=
 ⟨k.os.trans h.os, k.tape.trans h.tape, k.output.trans h.output, Nat.le_trans h.size k.size, Nat.le_trans h.grow k.size, fun i hi hc => (k.block i (Nat.lt_of_lt_of_le hi h.size) (by omega)).trans (h.block i hi hc)⟩
theorem Exc.chg {c n : Nat} {w1 w2 w3 : World} (h : Exc c n w1 w2) (k : Chg c w2 w3) : Exc c n w1 w3 :=
 ⟨k.os.trans h.os, k.tape.trans h.tape, k.output.trans h.output, Nat.le_trans h.size k.size, Nat.le_trans h.grow k.size, fun i hi hc => (k.block i (Nat.lt_of_lt_of_le hi h.size) hc).trans (h.block i hi hc)⟩
theorem Exc.toChg {c : Nat} {w w' : World} (h : Exc c w.heap.size w w') : Chg c w w' := ⟨h.os, h.tape, h.output, h.grow, h.block⟩
theorem set_taC (x y : Int) (u : Nat → Px) (i : Nat) (p : Px) (hi : i < 64) : ((((taC ⟨x, y, u⟩).setIfInBounds (2 + i * 4) (.int .u8 p.r)).setIfInBounds (2 + i * 4 + 1) (.int .u8 p.g)).setIfInBounds (2 + i * 4 + 2) (.int .u8 p.b)).setIfInBounds (2 + i * 4 + 3) (.int .u8 p.a) = taC ⟨x, y, upd u i p⟩ := by
 apply Array.ext_getElem?
 intro k
 rw [taC_get, ← set_tileC u i p hi]
 by_cases h2 : k < 2
 ·rw [if_pos h2]
  rw [Array.getElem?_setIfInBounds, if_neg (by omega), Array.getElem?_setIfInBounds, if_neg (by omega), Array.getElem?_setIfInBounds, if_neg (by omega), Array.getElem?_setIfInBounds, if_neg (by omega), taC_get, if_pos h2]
 ·rw [if_neg h2]
  have hs : (taC ⟨x, y, u⟩).size = 258 := size_taC _
  have ht : (tileC u).size = 256 := size_tileC _
  simp only [Array.getElem?_setIfInBounds, Array.size_setIfInBounds, hs, ht, taC_get, if_neg h2]
  have e : ∀ j, (2 + i * 4 + j = k) ↔ (i * 4 + j = k - 2) := fun j => by omega
  by_cases c3 : 2 + i * 4 + 3 = k
  ·rw [if_pos c3, if_pos ((e 3).1 c3), if_pos (by omega), if_pos (by omega)]
  ·rw [if_neg c3, if_neg (fun h => c3 ((e 3).2 h))]
   by_cases c2 : 2 + i * 4 + 2 = k
   ·rw [if_pos c2, if_pos ((e 2).1 c2), if_pos (by omega), if_pos (by omega)]
   ·rw [if_neg c2, if_neg (fun h => c2 ((e 2).2 h))]
    by_cases c1 : 2 + i * 4 + 1 = k
    ·rw [if_pos c1, if_pos ((e 1).1 c1), if_pos (by omega), if_pos (by omega)]
    ·rw [if_neg c1, if_neg (fun h => c1 ((e 1).2 h))]
     by_cases c0 : 2 + i * 4 = k
     ·rw [if_pos c0, if_pos (by omega), if_pos (by omega), if_pos (by omega)]
     ·rw [if_neg c0, if_neg (by omega)]
theorem run_store_TAp {w : World} {b i : Nat} {x y : Int} {u : Nat → Px} (h : AtB 72 w b (taC ⟨x, y, u⟩)) (hi : i < 64) (p : Px) : (Instr.storeAt 25 (.pointer (some ⟨b, 2 + i * 4, none⟩)) (Px.v p)).run Tryz.prog w =
  .ok () ((((w.setCell ⟨b, 2 + i * 4, none⟩ (.int .u8 p.r)).setCell ⟨b, 2 + i * 4 + 1, none⟩ (.int .u8 p.g)).setCell ⟨b, 2 + i * 4 + 2, none⟩ (.int .u8 p.b)).setCell ⟨b, 2 + i * 4 + 3, none⟩ (.int .u8 p.a)) := by
 have hc : ∀ j, j < 4 → w.cell? ⟨b, 2 + i * 4 + j, none⟩ = (tileC u)[i * 4 + j]? := fun j hj => by
  rw [(cells_of_block h).1, taC_get, if_neg (by omega), show 2 + i * 4 + j - 2 = i * 4 + j by omega]
 have c0 := (hc 0 (by omega)).trans (tileC_at u i 0 hi (by omega))
 have c1 := (hc 1 (by omega)).trans (tileC_at u i 1 hi (by omega))
 have c2 := (hc 2 (by omega)).trans (tileC_at u i 2 hi (by omega))
 have c3 := (hc 3 (by omega)).trans (tileC_at u i 3 hi (by omega))
 have hf := fun j => h.frozen j
 rw [Nat.add_zero] at c0
 simp [go_sem, c0, c1, c2, c3, hf, Px.v]
theorem AtB.set4 {w : World} {b i : Nat} {x y : Int} {u : Nat → Px} (h : AtB 72 w b (taC ⟨x, y, u⟩)) (hi : i < 64) (p : Px) :
  AtB 72 ((((w.setCell ⟨b, 2 + i * 4, none⟩ (.int .u8 p.r)).setCell ⟨b, 2 + i * 4 + 1, none⟩ (.int .u8 p.g)).setCell ⟨b, 2 + i * 4 + 2, none⟩ (.int .u8 p.b)).setCell ⟨b, 2 + i * 4 + 3, none⟩ (.int .u8 p.a)) b (taC ⟨x, y, upd u i p⟩) := by
 unfold AtB
 rw [← set_taC x y u i p hi]
 exact heap_setCell_same _ _ _ _ _ _ (heap_setCell_same _ _ _ _ _ _ (heap_setCell_same _ _ _ _ _ _ (heap_setCell_same _ _ _ _ _ _ h)))
theorem wpList_storeTAp {ops : Array Oper} {rest : List Oper} {o : Oper} {a : Act} {w : World} {Q : Exit → Act → World → Prop} (hg : o.guard = none) (x y : Operand) (ho : o.op = .store 25 x y) (b j : Nat) (hx : a.eval x = .pointer (some ⟨b, j, none⟩)) (q : Px) (hy : a.eval y = Px.v q) {px py : Int} {u : Nat → Px} (ht : AtB 72 w b (taC ⟨px, py, u⟩)) (i : Nat) (hi : i < 64) (hj : j = 2 + i * 4)
  (h : ∀ w', AtB 72 w' b (taC ⟨px, py, upd u i q⟩) → Chg b w w' → w'.heap.size = w.heap.size → wpList Tryz.prog ops Q rest (a.put o.dst undef) w') : wpList Tryz.prog ops Q (o :: rest) a w := by
 subst hj
 refine wpList_storeAny hg x y ho _ ?_ (h _ (ht.set4 hi q) (((((Chg.refl b w).setCell _).setCell _).setCell _).setCell _) (by simp only [World.size_setCell]))
 rw [hx, hy]
 exact run_store_TAp ht hi q
/-! ### mapped -/
/-- The first k pixels of a tile mapped: the state behind them, the tile. -/
def runT {σ : Type} (F : σ → Int → Int → Px → σ × Px) (e : TA) : Nat → σ → σ × (Nat → Px)
 | 0, s => (s, e.t)
 | k + 1, s => ((F (runT F e k s).1 (e.x * 8 + (k : Int) % 8) (e.y * 8 + (k : Int) / 8) (e.t k)).1, upd (runT F e k s).2 k (F (runT F e k s).1 (e.x * 8 + (k : Int) % 8) (e.y * 8 + (k : Int) / 8) (e.t k)).2)
/-- The first k tiles mapped: the state behind them, the tiles that are not transparent. -/
def mapK {σ : Type} (F : σ → Int → Int → Px → σ × Px) (ls : List TA) (s : σ) : Nat → σ × List TA
 | 0 => (s, [])
 | k + 1 => ((runT F (aT ls k) 64 (mapK F ls s k).1).1, (mapK F ls s k).2 ++ newA (aT ls k).x (aT ls k).y (runT F (aT ls k) 64 (mapK F ls s k).1).2)
theorem mapK_length {σ : Type} (F : σ → Int → Int → Px → σ × Px) (ls : List TA) (s : σ) (k : Nat) : (mapK F ls s k).2.length ≤ k := by
 induction k with
 | zero => exact Nat.le_refl _
 | succ k ih =>
  show ((mapK F ls s k).2 ++ newA _ _ _).length ≤ _
  rw [List.length_append]
  have := newA_length (aT ls k).x (aT ls k).y (runT F (aT ls k) 64 (mapK F ls s k).1).2
  omega
theorem runT_tok {σ : Type} {F : σ → Int → Int → Px → σ × Px} (hF : ∀ s x y p, p.ok → (F s x y p).2.ok) {e : TA} (h : Tok e.t) (s : σ) : ∀ k, k ≤ 64 → Tok (runT F e k s).2
 | 0, _ => h
 | k + 1, hk => fun i hi => by
  show (upd _ k _ i).ok
  unfold upd
  split
  ·exact hF _ _ _ _ (h k (by omega))
  ·exact runT_tok hF h s k (by omega) i hi
theorem OwnT.ownlt {B : Nat} {v : Value} {ls : List TA} {w : World} (h : OwnT B v ls w) : ∀ k, v.ownBlock = some k → k < w.heap.size := by
 intro k hk
 obtain ⟨_, h2⟩ := h
 rcases h2 with ⟨rfl, h0⟩ | ⟨g, cap, cur, rfl, hb, hg, _⟩
 ·cases hk
 ·have e : some g = some k := hk
  injection e with e
  subst e
  exact (Array.getElem?_eq_some_iff.1 hg).1
theorem OwnT.chgN {B b : Nat} {v : Value} {ls : List TA} {w w' : World} (h : OwnT B v ls w) (hc : Chg b w w') (hne : ∀ k, v.ownBlock = some k → k ≠ b) : OwnT B v ls w' := by
 refine World.ownsRow.kept (row := some b) h ⟨hc.os, hc.tape, hc.output, hc.size, fun k hk hn => hc.block k hk (fun e => hn (by rw [e]))⟩ ?_
 cases hv : v.ownBlock with
 | none => exact .inl rfl
 | some k =>
  right
  intro e
  injection e with e
  exact hne k hv e
set_option maxHeartbeats 4000000 in
theorem P_mapped {σ : Type} (F : σ → Int → Int → Px → σ × Px) (I : σ → World → Prop) (cb gf : Nat) (lb : Array Value) (eg : Enters Tryz.prog gf) (v : Value) (ls : List TA) (s0 : σ) (w : World) (hs : RS v ls w) (tk : TokL ls) (hn : ls.length ≤ 2000) (hpos : ∀ e ∈ ls, withinB e.x e.y = true)
  (hcb : cb < w.heap.size) (hsep : 0 < ls.length → v.ownBlock ≠ some cb) (hI0 : I s0 w)
  (hIb : ∀ s W W', I s W → (∀ k, k < w.heap.size → W'.heap[k]? = W.heap[k]?) → I s W')
  (hF : ∀ (s : σ) (W : World) (x y : Int) (p : Px), w.heap.size ≤ W.heap.size → I s W → -65536 ≤ x → x ≤ 65535 → -65536 ≤ y → y ≤ 65535 → p.ok →
   Calls Tryz.prog gf (#[.int .i64 x, .int .i64 y, Px.v p] ++ lb) W fun e W' => e = .returned (Px.v (F s x y p).2) ∧ I (F s x y p).1 W' ∧ Chg cb W W')
  (hok : ∀ s x y p, p.ok → (F s x y p).2.ok) :
  Calls Tryz.prog 95 #[v, .func (.func gf) #[] lb] w fun e w' => ∃ v', e = .returned v' ∧ OwnT w.heap.size v' (mapK F ls s0 ls.length).2 w' ∧ I (mapK F ls s0 ls.length).1 w' ∧ Chg cb w w' := by
 have eg' : ∀ args w, (callFunc gf args).run Tryz.prog w = .ok (.enter gf args) w := eg
 obtain ⟨a, c, rfl, hc⟩ := hs.len
 have HS := Lib.hid hs
 have HK := Lib.hid tk
 have HP := Lib.hid hpos
 have HF := Lib.hid hF
 have HI := Lib.hid hIb
 have HO := Lib.hid hok
 have SEP := Lib.hid hsep
 have B := Exc.refl cb w
 have od := OwnT.nil w.heap.size w
 have hI := hI0
 clear hs tk hpos hF hIb hok hI0 hsep
 go_enter Tryz.func95, Tryz.ntmps95
 go_wp2
 go_loopw [5, 7, 8, 9, 12] (fun out _ _ _ i wr => ∃ (k : Nat) (a5 : Option Addr) (n5 c5 : Nat), k ≤ ls.length ∧ i = .int .i64 k ∧ out = .slice a5 n5 c5 ∧ n5 = (mapK F ls s0 k).2.length ∧ Exc cb w.heap.size w wr ∧ OwnT w.heap.size (.slice a5 n5 c5) (mapK F ls s0 k).2 wr ∧ I (mapK F ls s0 k).1 wr) (fun _ _ _ _ i _ => (ls.length - intOf i).toNat)
 case atStart => exact ⟨0, none, 0, 0, by omega, rfl, rfl, rfl, B, od, hI⟩
 case round =>
  clear B od hI
  obtain ⟨k, a5, n5, c5, hk, rfl, rfl, hn5, B, od, hI⟩ := hrel
  have HN5 := Lib.hid hn5
  clear hn5
  have hml := mapK_length F ls s0 k
  obtain ⟨⟨s, acc⟩, hsm⟩ : ∃ m, mapK F ls s0 k = m := ⟨_, rfl⟩
  rw [hsm] at od hI hml
  have HN5' := Lib.hid (show n5 = acc.length from by have := HN5.out; rw [hsm] at this; exact this)
  have HSM := Lib.hid hsm
  clear hsm HN5
  have od : OwnT w.heap.size (.slice a5 n5 c5) acc _ := od
  have hI : I s _ := hI
  have hml : acc.length ≤ k := hml
  by_cases hkl : k < ls.length
  ·obtain ⟨gg, o, rfl, rc0⟩ := HS.out.at (by omega)
   have hg0 := rc0.lt
   have hgc : gg ≠ cb := fun e => (SEP.out (by omega)) (by rw [e]; rfl)
   have rc := rc0.of_eq (B.block _ rc0.lt hgc)
   clear rc0
   obtain ⟨⟨x, y, t⟩, he⟩ : ∃ e, aT ls k = e := ⟨_, rfl⟩
   have htk : Tok t := by have := HK.out.at hkl; rw [he] at this; exact this
   have hT := Lib.hid htk
   have hw := HP.out _ (List.mem_iff_getElem?.2 ⟨k, aT_at hkl⟩)
   rw [he] at hw
   have hw := of_decide_eq_true hw
   obtain ⟨w1, w2, w3, w4⟩ := hw
   have HOB := Lib.hid od.ownlt
   have hsz0 := B.size
   go_wp2_with (first | (refine wpList_loadAny (t := 70) rfl _ rfl _ _ _ rfl (ta_tile t1) (by first | rfl | omega) ?_; simp only [putS]) | (refine wpList_storeB (t := 72) rfl _ _ rfl _ rfl _ rfl t1 (by rw [size_taC]; kernel_rfl) (by simp only [size_taC, size_zTA]) (taC_all _) ?_; clear t1; intro wn ht hcn hzn; have hsz := B.size; replace hzn := Nat.le_of_eq hzn.symm; replace B := Exc.store B hcn (by omega); replace hI := HI.out _ _ _ hI (fun k hk => hcn.block k (by omega) (by omega)); replace od := od.chgN hcn (fun kk hkk => Nat.ne_of_lt (Nat.lt_of_lt_of_le (HOB.out kk hkk) (by omega))); (try replace q1 := q1.of_eq (hcn.block _ q1.lt (by omega))); (try replace od := od.of_eq (hcn.block _ od.lt (by omega))); have t1 := ht; clear ht; simp only [putS]) | (refine wpList_allocBk (t := 72) rfl _ (run_alloc_TA _ _ rfl) ?_; intro b_t1 wn hle hge ht hbn hzn; have hsz := B.size; replace B := B.trans (hbn.mono (by omega)); replace hI := HI.out _ _ _ hI (fun k hk => hbn.block k (by omega)); have hln := Nat.lt_of_lt_of_eq (Nat.lt_succ_self _) hzn.symm; clear hzn; (try have hlt := t1.lt); (try replace t1 := t1.below (hbn.mono hle)); (try have hlt := q1.lt); (try replace q1 := q1.below (hbn.mono hle)); (try have hlt := od.lt); (try replace od := od.below (hbn.mono hle)); have t1 := ht; clear ht; simp only [putS]) | (refine wpList_loadAny (t := 72) rfl _ rfl _ _ _ rfl (rc_ta rc hkl he) (by first | rfl | omega) ?_; simp only [putS]) | fail)
   have hb1 := hle
   have hmul1 : (2 : Nat) ≤ 2 := Nat.le_refl _
   go_loopw [8, 9, 18] (fun _ _ j wx => ∃ i : Nat, i ≤ 64 ∧ j = .int .i64 i ∧ Exc cb w.heap.size w wx ∧ b_t1 < wx.heap.size ∧ AtB 72 wx b_t1 (taC ⟨x, y, (runT F ⟨x, y, t⟩ i s).2⟩) ∧ OwnT w.heap.size (.slice a5 n5 c5) acc wx ∧ I (runT F ⟨x, y, t⟩ i s).1 wx) (fun _ _ j _ => (64 - intOf j).toNat)
   case atStart => exact ⟨0, by omega, rfl, B, t1.lt, t1, od, hI⟩
   case round =>
    clear B t1 od hI
    obtain ⟨i, hi, rfl, B, hbl, t1, od, hI⟩ := hrel
    by_cases hil : i < 64
    ·have hix := index_tile t i hil
     have hpk : (t i).ok := hT.out i hil
     have d8 : (0 : Int) ≤ (i : Int) % 8 ∧ (i : Int) % 8 < 8 := by omega
     have d9 : (0 : Int) ≤ (i : Int) / 8 ∧ (i : Int) / 8 < 8 := by omega
     obtain ⟨u, hu⟩ : ∃ u, runT F ⟨x, y, t⟩ i s = u := ⟨_, rfl⟩
     rw [hu] at t1 hI
     have HU := Lib.hid hu
     clear hu
     go_wp2_with (first | (refine wpList_storeTAp rfl _ _ rfl _ _ rfl (_) rfl t1 (i) (hil) (by first | rfl | omega) ?_; clear t1; intro wn ht hcn hzn; have hsz := B.size; replace hzn := Nat.le_of_eq hzn.symm; replace B := Exc.store B hcn (by omega); replace hI := HI.out _ _ _ hI (fun k hk => hcn.block k (by omega) (by omega)); replace od := od.chgN hcn (fun kk hkk => Nat.ne_of_lt (Nat.lt_of_lt_of_le (HOB.out kk hkk) (by omega))); (try replace q1 := q1.of_eq (hcn.block _ q1.lt (by omega))); have t1 := ht; clear ht; simp only [putS]) | (go_at_fn gf; refine (HF.out _ _ _ _ _ (by omega) hI (by omega) (by omega) (by omega) (by omega) hpk).mono ?_; rintro e' wn ⟨rfl, hI, hcc⟩; have hsz := B.size; have hzn := hcc.size; replace B := B.chg hcc; replace t1 := t1.of_eq (hcc.block _ t1.lt (by omega)); replace od := od.chg hcc hcb) | (refine wpList_loadAny (t := 3) rfl _ rfl _ _ _ rfl (run_load_int (t1.cell 0 (taC_x _))) (by first | rfl | omega) ?_; simp only [putS]) | (refine wpList_loadAny (t := 3) rfl _ rfl _ _ _ rfl (run_load_int (t1.cell 1 (taC_y _))) (by first | rfl | omega) ?_; simp only [putS]) | (refine wpList_loadPx rfl _ rfl _ rfl q1 ?_; simp only [putS]) | (refine wpList_storePx rfl _ _ rfl _ rfl (_) rfl q1 ?_; clear q1; intro wn ht hcn hzn; have hsz := B.size; replace hzn := Nat.le_of_eq hzn.symm; replace B := Exc.store B hcn (by omega); replace hI := HI.out _ _ _ hI (fun k hk => hcn.block k (by omega) (by omega)); replace od := od.chgN hcn (fun kk hkk => Nat.ne_of_lt (Nat.lt_of_lt_of_le (HOB.out kk hkk) (by omega))); (try replace t1 := t1.of_eq (hcn.block _ t1.lt (by omega))); have q1 := ht; clear ht; simp only [putS]) | (refine wpList_allocPx' rfl rfl ?_; intro b_q1 wn hle hge ht hbn hzn; have hsz := B.size; replace B := B.trans (hbn.mono (by omega)); replace hI := HI.out _ _ _ hI (fun k hk => hbn.block k (by omega)); have hln := Nat.lt_of_lt_of_eq (Nat.lt_succ_self _) hzn.symm; clear hzn; (try replace od := od.below (hbn.mono hle)); (try have hlt := t1.lt); (try replace t1 := t1.below (hbn.mono hle)); (try have hlt := q1.lt); (try replace q1 := q1.below (hbn.mono hle)); (try have hlt := od.lt); (try replace od := od.below (hbn.mono hle)); have q1 := ht; clear ht; simp only [putS]) | fail)
     go_roundw
     case rel => exact ⟨i + 1, by omega, by go_num, B, by have := t1.lt; omega, by show AtB _ _ _ (taC ⟨x, y, upd (runT F ⟨x, y, t⟩ i s).2 i (F (runT F ⟨x, y, t⟩ i s).1 (x * 8 + (i : Int) % 8) (y * 8 + (i : Int) / 8) (t i)).2⟩); rw [HU.out]; exact t1, od, by show I (F (runT F ⟨x, y, t⟩ i s).1 (x * 8 + (i : Int) % 8) (y * 8 + (i : Int) / 8) (t i)).1 _; rw [HU.out]; exact hI⟩
     case measure => simp [intOf]; omega
    ·obtain rfl : i = 64 := by omega
     obtain ⟨⟨s', u⟩, hu⟩ : ∃ u, runT F ⟨x, y, t⟩ 64 s = u := ⟨_, rfl⟩
     have hut : Tok u := by have := runT_tok (e := ⟨x, y, t⟩) HO.out hT.out s 64 (Nat.le_refl _); rw [hu] at this; exact this
     rw [hu] at t1 hI
     have HU := Lib.hid hu
     clear hu
     have t1 : AtB 72 _ b_t1 (taC ⟨x, y, u⟩) := t1
     have hI : I s' _ := hI
     have es := Lib.hid (show mapK F ls s0 (k + 1) = (s', acc ++ newA x y u) from by
      show ((runT F (aT ls k) 64 (mapK F ls s0 k).1).1, (mapK F ls s0 k).2 ++ newA (aT ls k).x (aT ls k).y (runT F (aT ls k) 64 (mapK F ls s0 k).1).2) = _
      rw [HSM.out, he, HU.out])
     cases hz : zeroB u with
     | true =>
      have HN := Lib.hid (show newA x y u = [] from by unfold newA; rw [hz]; rfl)
      go_wp2_with (first | (go_at_call 92; refine (P_Zero _ _ hut).mono ?_; rintro e wn ⟨rfl, hbn⟩; have hsz := B.size; have hzn := hbn.size; replace B := B.trans (hbn.mono B.size); replace hI := HI.out _ _ _ hI (fun k hk => hbn.block k (by omega)); (try replace t1 := t1.below hbn); (try replace od := od.below hbn)) | (refine wpList_loadAny (t := 70) rfl _ rfl _ _ _ rfl (ta_tile t1) (by first | rfl | omega) ?_; simp only [putS]) | fail)
      go_roundw
      case rel => exact ⟨k + 1, _, _, _, by omega, by go_num, rfl, by rw [es.out, HN.out]; simp [HN5'.out], B, by rw [es.out, HN.out]; simpa using od, by rw [es.out]; exact hI⟩
      case measure => simp [intOf]; omega
     | false =>
      have HN := Lib.hid (show newA x y u = [⟨x, y, u⟩] from by unfold newA; rw [hz]; rfl)
      have hlen : acc.length + 1 ≤ 100000 := by omega
      have hn5 := HN5'.out
      clear HN5'
      subst hn5
      go_wp2_with (first | (at_builtin; refine wpList_appendT rfl _ _ rfl _ _ rfl rfl od ((RS.one s1)) (by simp only [List.length_cons, List.length_nil]; omega) (by omega) ?_; intro v_od wn ht hbn; have hsz := B.size; have hzn := hbn.size; replace B := B.trans (hbn.mono (by omega)); replace hI := HI.out _ _ _ hI (fun k hk => hbn.block k (by omega)); clear od; have od := ht; clear ht; obtain ⟨a_od, c_od, hv, hco⟩ := od.len; (try simp only [List.length_append, List.length_cons, List.length_nil, Nat.zero_add] at hv hco); subst hv; simp only [putS]) | (refine wpList_bs1T rfl _ rfl ⟨x, y, u⟩ (by rfl) ?_; intro b_s1 wn hle hge ht hbn hzn; have hsz := B.size; replace B := B.trans (hbn.mono (by omega)); replace hI := HI.out _ _ _ hI (fun k hk => hbn.block k (by omega)); have hln := Nat.lt_of_lt_of_eq (Nat.lt_succ_self _) hzn.symm; clear hzn; (try have hlt := od.lt); (try replace od := od.below (hbn.mono hle)); have s1 := ht; clear ht; simp only [putS]) | (refine wpList_loadAny (t := 72) rfl _ rfl _ _ _ rfl (run_load_B t1 Tryz.isAgg72 (ta_size _)) (by rfl) ?_; simp only [putS]) | (go_at_call 92; refine (P_Zero _ _ hut).mono ?_; rintro e wn ⟨rfl, hbn⟩; have hsz := B.size; have hzn := hbn.size; replace B := B.trans (hbn.mono B.size); replace hI := HI.out _ _ _ hI (fun k hk => hbn.block k (by omega)); (try replace t1 := t1.below hbn); (try replace od := od.below hbn)) | (refine wpList_loadAny (t := 70) rfl _ rfl _ _ _ rfl (ta_tile t1) (by first | rfl | omega) ?_; simp only [putS]) | fail)
      go_roundw
      case rel => exact ⟨k + 1, _, _, _, by omega, by go_num, rfl, by rw [es.out, HN.out]; simp, B, by rw [es.out, HN.out]; exact od, by rw [es.out]; exact hI⟩
      case measure => simp [intOf]; omega
  ·obtain rfl : k = ls.length := by omega
   go_wp2
   go_ret
   exact ⟨_, rfl, by rw [HSM.out]; exact od, by rw [HSM.out]; exact hI, B.toChg⟩
/- Contracts of Bounds and Crop of package raster. -/
def rcA (r : Rc) : Array Value := #[.int .i64 r.x0, .int .i64 r.y0, .int .i64 r.x1, .int .i64 r.y1]
def boundF (s : Rc) (x y : Int) (p : Px) : Rc × Px := (if 0 < p.a then unionR s ⟨x, y, x + 1, y + 1⟩ else s, p)
def boundL (ls : List TA) : Rc := (mapK boundF ls Rc.zero ls.length).1
def cropF (c : Rc) (s : Unit) (x y : Int) (p : Px) : Unit × Px := ((), if hasR c x y = true then p else Px.zero)
def cropL (c : Rc) (ls : List TA) : List TA := (mapK (cropF c) ls () ls.length).2
theorem boundF_ok (s : Rc) (x y : Int) (p : Px) (h : p.ok) : (boundF s x y p).2.ok := h
theorem rs_sep {v : Value} {ls : List TA} {w : World} (h : RS v ls w) {cb : Nat} (hc : w.heap.size ≤ cb) : 0 < ls.length → v.ownBlock ≠ some cb := by
 intro hn e
 rcases h with ⟨rfl, rfl⟩ | ⟨g, o, c, rfl, _, sc⟩
 ·exact absurd hn (by decide)
 ·have e : some g = some cb := e
  injection e with e
  have := (sc hn).lt
  omega
theorem fine_pos (ls : List TA) : ∀ e ∈ fineL ls, withinB e.x e.y = true := fun e he => by
 have := validL_good (fineL_valid ls) e he
 unfold goodA at this
 exact (Bool.and_eq_true_iff.1 this).1
theorem px_a {w : World} {b : Nat} {p : Px} (h : PixAt w b p) : w.cell? ⟨b, 3, none⟩ = some (.int .u8 p.a) := ((cells_of_block h).1 3).trans rfl
theorem P_Bounds1 (s : Rc) (x y : Int) (p : Px) (cb : Nat) (w : World) (r0 : AtB 30 w cb (rcA s)) (hx0 : -65536 ≤ x) (hx : x ≤ 65535) (hy0 : -65536 ≤ y) (hy : y ≤ 65535) (hp : p.ok) : Calls Tryz.prog 96 #[.int .i64 x, .int .i64 y, Px.v p, .pointer (some ⟨cb, 0, none⟩)] w fun e w' => e = .returned (Px.v (boundF s x y p).2) ∧ AtB 30 w' cb (rcA (boundF s x y p).1) ∧ Chg cb w w' := by
 have B := Exc.refl cb w
 have hcb := r0.lt
 obtain ⟨_, _, _, hp1, hp2⟩ := hp
 by_cases ha : 0 < p.a
 ·have e1 := Lib.hid (show boundF s x y p = (unionR s ⟨x, y, x + 1, y + 1⟩, p) from by unfold boundF; rw [if_pos ha])
  have d1 : decide (0 < p.a) = true := decide_eq_true ha
  go_enter Tryz.func96, Tryz.ntmps96
  go_wp2_with (first | (refine wpList_storePx rfl _ _ rfl _ rfl (_) rfl q2 ?_; clear q2; intro wn ht hcn hzn; have hsz := B.size; replace hzn := Nat.le_of_eq hzn.symm; replace B := Exc.store B hcn (by omega); (try replace r0 := r0.of_eq (hcn.block _ r0.lt (by omega))); (try replace q1 := q1.of_eq (hcn.block _ q1.lt (by omega))); have q2 := ht; clear ht; simp only [putS]) | (refine wpList_loadPx rfl _ rfl _ rfl q1 ?_; simp only [putS]) | (refine wpList_storeB (t := 30) rfl _ _ rfl _ rfl _ rfl r0 (by kernel_rfl) rfl (by simp [Value.oneCell']) ?_; clear r0; intro wn ht hcn hzn; have hsz := B.size; replace hzn := Nat.le_of_eq hzn.symm; replace B := Exc.chg B hcn; (try replace q1 := q1.of_eq (hcn.block _ q1.lt (by omega))); (try replace q2 := q2.of_eq (hcn.block _ q2.lt (by omega))); have r0 := ht; clear ht; simp only [putS]) | (go_at_call 97; refine (P_Union s ⟨x, y, x + 1, y + 1⟩ _).mono ?_; rintro e wn ⟨rfl, hbn⟩; have hsz := B.size; have hzn := hbn.size; replace B := B.trans (hbn.mono B.size); (try replace r0 := r0.below hbn); (try replace q1 := q1.below hbn); (try replace q2 := q2.below hbn)) | (refine wpList_loadAny (t := 30) rfl _ rfl _ _ _ rfl (run_load_B r0 Tryz.isAgg30 (by kernel_rfl)) (by rfl) ?_; simp only [putS]) | (refine wpList_loadAny (t := 5) rfl _ rfl _ _ _ rfl (run_load_u8 (px_a q1)) (by rfl) ?_; simp only [putS]) | (have _ := q1; refine wpList_allocPx' rfl rfl ?_; intro b_q2 wn hle hge ht hbn hzn; have hsz := B.size; replace B := B.trans (hbn.mono (by omega)); have hln := Nat.lt_of_lt_of_eq (Nat.lt_succ_self _) hzn.symm; clear hzn; (try have hlt := r0.lt); (try replace r0 := r0.below (hbn.mono hle)); (try have hlt := q1.lt); (try replace q1 := q1.below (hbn.mono hle)); (try have hlt := q2.lt); (try replace q2 := q2.below (hbn.mono hle)); have q2 := ht; clear ht; simp only [putS]) | (refine wpList_boxPx' rfl _ rfl _ rfl ?_; intro b_q1 wn hle hge ht hbn hzn; have hsz := B.size; replace B := B.trans (hbn.mono (by omega)); have hln := Nat.lt_of_lt_of_eq (Nat.lt_succ_self _) hzn.symm; clear hzn; (try have hlt := r0.lt); (try replace r0 := r0.below (hbn.mono hle)); (try have hlt := q1.lt); (try replace q1 := q1.below (hbn.mono hle)); (try have hlt := q2.lt); (try replace q2 := q2.below (hbn.mono hle)); have q1 := ht; clear ht; simp only [putS]) | fail)
  refine bodyPost_ret (results_px rfl _ _ (b_q2) rfl q2) rfl ?_
  exact ⟨by rw [e1.out], by rw [e1.out]; exact r0, B.toChg⟩
 ·have e1 := Lib.hid (show boundF s x y p = (s, p) from by unfold boundF; rw [if_neg ha])
  have d1 : decide (0 < p.a) = false := decide_eq_false ha
  go_enter Tryz.func96, Tryz.ntmps96
  go_wp2_with (first | (refine wpList_storePx rfl _ _ rfl _ rfl (_) rfl q2 ?_; clear q2; intro wn ht hcn hzn; have hsz := B.size; replace hzn := Nat.le_of_eq hzn.symm; replace B := Exc.store B hcn (by omega); (try replace r0 := r0.of_eq (hcn.block _ r0.lt (by omega))); (try replace q1 := q1.of_eq (hcn.block _ q1.lt (by omega))); have q2 := ht; clear ht; simp only [putS]) | (refine wpList_loadPx rfl _ rfl _ rfl q1 ?_; simp only [putS]) | (refine wpList_loadAny (t := 5) rfl _ rfl _ _ _ rfl (run_load_u8 (px_a q1)) (by rfl) ?_; simp only [putS]) | (have _ := q1; refine wpList_allocPx' rfl rfl ?_; intro b_q2 wn hle hge ht hbn hzn; have hsz := B.size; replace B := B.trans (hbn.mono (by omega)); have hln := Nat.lt_of_lt_of_eq (Nat.lt_succ_self _) hzn.symm; clear hzn; (try have hlt := r0.lt); (try replace r0 := r0.below (hbn.mono hle)); (try have hlt := q1.lt); (try replace q1 := q1.below (hbn.mono hle)); (try have hlt := q2.lt); (try replace q2 := q2.below (hbn.mono hle)); have q2 := ht; clear ht; simp only [putS]) | (refine wpList_boxPx' rfl _ rfl _ rfl ?_; intro b_q1 wn hle hge ht hbn hzn; have hsz := B.size; replace B := B.trans (hbn.mono (by omega)); have hln := Nat.lt_of_lt_of_eq (Nat.lt_succ_self _) hzn.symm; clear hzn; (try have hlt := r0.lt); (try replace r0 := r0.below (hbn.mono hle)); (try have hlt := q1.lt); (try replace q1 := q1.below (hbn.mono hle)); (try have hlt := q2.lt); (try replace q2 := q2.below (hbn.mono hle)); have q1 := ht; clear ht; simp only [putS]) | fail)
  refine bodyPost_ret (results_px rfl _ _ (b_q2) rfl q2) rfl ?_
  exact ⟨by rw [e1.out], by rw [e1.out]; exact r0, B.toChg⟩
set_option maxHeartbeats 1000000 in
theorem P_BoundsR (v : Value) (ls : List TA) (w : World) (h : RS v ls w) (tk : TokL ls) (hn : ls.length ≤ maxLen) : Calls Tryz.prog 59 #[.agg #[v]] w fun e w' => e = .returned (Rc.v (boundL (fineL ls))) ∧ Below w.heap.size w w' := by
 have B := Below.refl w.heap.size w
 obtain ⟨a', c', hT⟩ := P_tiles v ls w h tk hn
 have HR0 := Lib.hid (hT w (Below.refl _ _)).2
 have HT := Lib.hid hT
 clear hT
 obtain ⟨a, c, rfl, hc⟩ := h.len
 have TK := Lib.hid (fineL_tok tk)
 have HP := Lib.hid (fine_pos ls)
 have hfl := fineL_length ls
 have eg := enters_of Tryz.func96 (by kernel_rfl) rfl
 go_enter Tryz.func59, Tryz.ntmps59
 go_upto_region 2 with (first | (have _ := r2; refine wpList_allocBk (t := 30) rfl _ (run_alloc_Rc _ _ rfl) ?_; intro b_r0 wn hle hge ht hbn hzn; have hsz := B.size; replace B := B.trans (hbn.mono (by omega)); have hln := Nat.lt_of_lt_of_eq (Nat.lt_succ_self _) hzn.symm; clear hzn; (try have hlt := r1.lt); (try replace r1 := r1.below (hbn.mono hle)); (try have hlt := r2.lt); (try replace r2 := r2.below (hbn.mono hle)); (try have hlt := r0.lt); (try replace r0 := r0.below (hbn.mono hle)); have r0 := ht; clear ht; simp only [putS]) | (have _ := r1; refine wpList_allocBk (t := 30) rfl _ (run_alloc_Rc _ _ rfl) ?_; intro b_r2 wn hle hge ht hbn hzn; have hsz := B.size; replace B := B.trans (hbn.mono (by omega)); have hln := Nat.lt_of_lt_of_eq (Nat.lt_succ_self _) hzn.symm; clear hzn; (try have hlt := r1.lt); (try replace r1 := r1.below (hbn.mono hle)); (try have hlt := r2.lt); (try replace r2 := r2.below (hbn.mono hle)); (try have hlt := r0.lt); (try replace r0 := r0.below (hbn.mono hle)); have r2 := ht; clear ht; simp only [putS]) | (refine wpList_boxB (t := 34) rfl _ rfl _ rfl ?_; intro b_r1 wn hle hge ht hbn hzn; have hsz := B.size; replace B := B.trans (hbn.mono (by omega)); have hln := Nat.lt_of_lt_of_eq (Nat.lt_succ_self _) hzn.symm; clear hzn; (try have hlt := r1.lt); (try replace r1 := r1.below (hbn.mono hle)); (try have hlt := r2.lt); (try replace r2 := r2.below (hbn.mono hle)); (try have hlt := r0.lt); (try replace r0 := r0.below (hbn.mono hle)); have r1 := ht; clear ht; simp only [putS]) | fail)
 have k0 : w.heap.size ≤ b_r0 := by omega
 have k1 : b_r2 < b_r0 := by have := r2.lt; omega
 go_wp2_with (first | (go_at_call 95; have hr0 := r0.lt; have hsp := rs_sep HR0.out k0; have hsz := B.size; refine (P_mapped boundF (fun s W => AtB 30 W b_r0 (rcA s)) b_r0 96 #[.pointer (some ⟨b_r0, 0, none⟩)] eg _ (fineL ls) Rc.zero _ (HT.out _ B).2 TK.out (by omega) HP.out hr0 hsp r0 (fun s W W' hI hk => hI.of_eq (hk _ hr0)) (fun s W x y p _ hI h1 h2 h3 h4 hp => P_Bounds1 s x y p b_r0 W hI h1 h2 h3 h4 hp) boundF_ok).mono ?_; rintro e wn ⟨v1, rfl, _, hI, hcc⟩; have hzn := hcc.size; replace r2 := r2.of_eq (hcc.block _ r2.lt (by omega)); replace B := Chg.below B hcc k0 hsz; have r0 := hI; clear hI) | (go_at_call 50; refine (HT.out _ B).1.mono ?_; rintro e wn ⟨rfl, hbn⟩; have hsz := B.size; have hzn := hbn.size; replace B := B.trans (hbn.mono B.size); (try replace r1 := r1.below hbn); (try replace r2 := r2.below hbn); (try replace r0 := r0.below hbn)) | (refine wpList_loadAny (t := 34) rfl _ rfl _ _ _ rfl (run_load_B r1 Tryz.isAgg34 (by kernel_rfl)) (by rfl) ?_; simp only [putS]) | (refine wpList_loadAny (t := 30) rfl _ rfl _ _ _ rfl (run_load_B r0 Tryz.isAgg30 (by kernel_rfl)) (by rfl) ?_; simp only [putS]) | (refine wpList_storeB (t := 30) rfl _ _ rfl _ rfl _ rfl r2 (by kernel_rfl) rfl (by simp [rcA, Value.oneCell']) ?_; clear r2; intro wn ht hcn hzn; have hsz := B.size; replace hzn := Nat.le_of_eq hzn.symm; replace B := Chg.below B hcn (by omega) B.size; (try replace r1 := r1.of_eq (hcn.block _ r1.lt (by omega))); (try replace r0 := r0.of_eq (hcn.block _ r0.lt (by omega))); have r2 := ht; clear ht; simp only [putS]) | fail)
 refine bodyPost_ret (results_B (t := 30) rfl _ _ (b_r2) rfl r2 Tryz.isAgg30 (by kernel_rfl)) rfl ?_
 exact ⟨rfl, B⟩
/- Contracts of the reference's Bounds and Crop. -/
/- Rows of pixels; images; contract of the closure of Image of package raster. -/
def pxE : Elt Px 4 25 99 where
 enc := pxA
 bytes := 4
 zero := Px.zero
 size := fun _ => rfl
 one := fun x u hu => by
  have : u ∈ [Value.int .u8 x.r, .int .u8 x.g, .int .u8 x.b, .int .u8 x.a] := hu
  simp at this
  rcases this with rfl | rfl | rfl | rfl <;> rfl
 pos := by omega
 small := by omega
 und := Tryz.underlying99
 info := by kernel_rfl
 zer := by kernel_rfl
theorem rowE_set (ls : List Px) : ∀ (i : Nat) (p : Px), i < ls.length → ((((rowE pxE ls).set (i * 4) (.int .u8 p.r)).set (i * 4 + 1) (.int .u8 p.g)).set (i * 4 + 2) (.int .u8 p.b)).set (i * 4 + 3) (.int .u8 p.a) = rowE pxE (ls.set i p) := by
 induction ls with
 | nil => intro i p h; exact absurd h (Nat.not_lt_zero _)
 | cons q r ih =>
  intro i p h
  cases i with
  | zero => rfl
  | succ i =>
   have e : ∀ j, (i + 1) * 4 + j = (i * 4 + j) + 4 := fun j => by omega
   have := ih i p (by simpa using h)
   show ((((((Value.int .u8 q.r :: .int .u8 q.g :: .int .u8 q.b :: .int .u8 q.a :: rowE pxE r).set ((i + 1) * 4) _).set ((i + 1) * 4 + 1) _).set ((i + 1) * 4 + 2) _).set ((i + 1) * 4 + 3) _)) = Value.int .u8 q.r :: .int .u8 q.g :: .int .u8 q.b :: .int .u8 q.a :: rowE pxE (r.set i p)
   rw [show (i + 1) * 4 = (i * 4) + 4 by omega, show i * 4 + 4 + 1 = i * 4 + 1 + 4 by omega, show i * 4 + 4 + 2 = i * 4 + 2 + 4 by omega, show i * 4 + 4 + 3 = i * 4 + 3 + 4 by omega]
   simp only [List.set_cons_succ]
   rw [this]
theorem RowAt.set4 {w : World} {b i : Nat} {ls : List Px} (h : RowAt pxE w b ls) (hi : i < ls.length) (p : Px) :
  RowAt pxE ((((w.setCell ⟨b, i * 4, none⟩ (.int .u8 p.r)).setCell ⟨b, i * 4 + 1, none⟩ (.int .u8 p.g)).setCell ⟨b, i * 4 + 2, none⟩ (.int .u8 p.b)).setCell ⟨b, i * 4 + 3, none⟩ (.int .u8 p.a)) b (ls.set i p) := by
 unfold RowAt AtB
 rw [← rowE_set ls i p hi]
 have := heap_setCell_same _ b (i * 4 + 3) _ _ (.int .u8 p.a) (heap_setCell_same _ b (i * 4 + 2) _ _ (.int .u8 p.b) (heap_setCell_same _ b (i * 4 + 1) _ _ (.int .u8 p.g) (heap_setCell_same _ b (i * 4) _ _ (.int .u8 p.r) h)))
 simpa only [List.setIfInBounds_toArray] using this
/-! ### The closure of Image -/
def idxI (c : Rc) (x y : Int) : Int := (y - c.y0) * (c.x1 - c.x0) + x - c.x0
def imgF (c : Rc) (s : List Px) (x y : Int) (p : Px) : List Px × Px := (if hasR c x y = true then s.set (idxI c x y).toNat p else s, p)
def imgC (c : Rc) (u : Value) : Array Value := #[.int .i64 c.x0, .int .i64 c.y0, .int .i64 c.x1, .int .i64 c.y1, u]
/-- A rectangle that fits. -/
structure Fits (c : Rc) : Prop where
 h1 : c.x0 < c.x1
 h2 : c.y0 < c.y1
 h3 : -65536 ≤ c.x0
 h4 : -65536 ≤ c.y0
 h5 : c.x1 ≤ 65536
 h6 : c.y1 ≤ 65536
 h7 : c.x1 - c.x0 ≤ 256
 h8 : c.y1 - c.y0 ≤ 256
theorem fitsE_zero {c : Rc} (h : fitsE c = 0) : Fits c := by
 unfold fitsE at h
 split at h
 ·rename_i hv
  obtain ⟨⟨a1, a2⟩, a3, a4, a5, a6⟩ := (validR_iff c).1 hv
  split at h
  ·cases h
  ·exact ⟨a1, a2, a3, a4, a5, a6, by omega, by omega⟩
 ·cases h
theorem Fits.valid {c : Rc} (h : Fits c) : validR c = true := (validR_iff c).2 ⟨⟨h.h1, h.h2⟩, h.h3, h.h4, h.h5, h.h6⟩
def areaN (c : Rc) : Nat := ((c.x1 - c.x0) * (c.y1 - c.y0)).toNat
theorem idxI_bd {c : Rc} (hf : Fits c) {x y : Int} (hh : hasR c x y = true) : 0 ≤ (y - c.y0) * (c.x1 - c.x0) ∧ (y - c.y0) * (c.x1 - c.x0) ≤ 65536 ∧ 0 ≤ idxI c x y ∧ (idxI c x y).toNat < areaN c := by
 have hh := of_decide_eq_true hh
 obtain ⟨a1, a2, a3, a4, a5, a6, a7, a8⟩ := hf
 unfold idxI areaN
 obtain ⟨W, hW⟩ : ∃ W : Nat, c.x1 - c.x0 = W := ⟨(c.x1 - c.x0).toNat, by omega⟩
 obtain ⟨Y, hY⟩ : ∃ Y : Nat, y - c.y0 = Y := ⟨(y - c.y0).toNat, by omega⟩
 obtain ⟨H, hH⟩ : ∃ H : Nat, c.y1 - c.y0 = H := ⟨(c.y1 - c.y0).toNat, by omega⟩
 obtain ⟨X, hX⟩ : ∃ X : Nat, x - c.x0 = X := ⟨(x - c.x0).toNat, by omega⟩
 rw [hW, hY, hH]
 have e1 : ((Y : Int) * (W : Int)) + x - c.x0 = ((Y * W + X : Nat) : Int) := by rw [Int.natCast_add, Int.natCast_mul]; omega
 have e2 : ((W : Int) * (H : Int)) = ((W * H : Nat) : Int) := by rw [Int.natCast_mul]
 have e3 : ((Y : Int) * (W : Int)) = ((Y * W : Nat) : Int) := by rw [Int.natCast_mul]
 rw [e1, e2, e3]
 have m1 : Y * W ≤ 256 * 256 := Nat.mul_le_mul (by omega) (by omega)
 have m2 : (Y + 1) * W ≤ H * W := Nat.mul_le_mul_right W (by omega)
 rw [Nat.succ_mul] at m2
 have m3 : W * H = H * W := Nat.mul_comm _ _
 omega
theorem imgC_u {w : World} {b : Nat} {c : Rc} {u : Value} (h : AtB 101 w b (imgC c u)) : w.cell? ⟨b, 4, none⟩ = some u := h.cell 4 rfl
theorem run_load_slp {w : World} {b j : Nat} {v : Value} (h : w.cell? ⟨b, j, none⟩ = some v) : (Instr.loadAt 99 (.pointer (some ⟨b, j, none⟩))).run Tryz.prog w = .ok v w := by
 simp [go_sem, h]
/- Contract of Image of package raster. -/
/-- The pixels that Image of package raster makes. -/
def imgPL (c : Rc) (ks : List TA) : List Px := (mapK (imgF c) ks (List.replicate (areaN c) Px.zero) ks.length).1
theorem run_load_img {w : World} {b : Nat} {c : Rc} {u : Value} (h : AtB 101 w b (imgC c u)) : (Instr.loadAt 101 (.pointer (some ⟨b, 0, none⟩))).run Tryz.prog w = .ok (.agg #[.int .i64 c.x0, .int .i64 c.y0, .int .i64 c.x1, .int .i64 c.y1, u]) w :=
 run_load_B h Tryz.isAgg101 (by kernel_rfl)
theorem run_alloc_Im (w : World) (o : Oper) (ho : o.op = .alloc 101) (ev : Operand → Value) : (execOp ev o).run Tryz.prog w = .ok (.value (.pointer (some ⟨w.heap.size, 0, none⟩))) (w.alloc (.cells (imgC Rc.zero (.slice none 0 0)) 101)) := by
 obtain ⟨d, p, t, ps, af, gd⟩ := o
 simp only at ho
 subst ho
 kernel_rfl
theorem area_N {c : Rc} (hf : Fits c) : areaR c = (areaN c : Int) := by
 obtain ⟨a1, a2, a3, a4, a5, a6, a7, a8⟩ := hf
 have hE : emptyR c = false := by unfold emptyR; exact decide_eq_false (by omega)
 have hm := mul_bd (a := c.x1 - c.x0) (b := c.y1 - c.y0) (m := 256) (k := 256) (by omega) (by omega) (by omega) (by omega)
 unfold areaR areaN
 rw [hE]
 show (c.x1 - c.x0) * (c.y1 - c.y0) = _
 omega
theorem area_bd {c : Rc} (hf : Fits c) : 1 ≤ areaN c ∧ areaN c ≤ 65536 := by
 obtain ⟨a1, a2, a3, a4, a5, a6, a7, a8⟩ := hf
 unfold areaN
 have hm := mul_bd (a := c.x1 - c.x0) (b := c.y1 - c.y0) (m := 256) (k := 256) (by omega) (by omega) (by omega) (by omega)
 have hp : 0 < (c.x1 - c.x0) * (c.y1 - c.y0) := Int.mul_pos (by omega) (by omega)
 omega
/- The sanity check of the raster laws: its values. -/
def sP : Px := ⟨9, 0, 0, 255⟩
def sQ : Px := ⟨1, 0, 0, 0⟩
def sC : Rc := ⟨-2, 9, 0, 10⟩
theorem s1 : setE [] (-1) 9 sP = 0 := by decide
theorem s2 : setR [] (-1) 9 sP = [⟨-1, 1, cleanT (setT zT 7 1 sP)⟩] := by rfl
def sR1 : List TA := [⟨-1, 1, cleanT (setT zT 7 1 sP)⟩]
theorem s3 : validL sR1 = true := by decide
theorem s4 : fineL sR1 = sR1 := fineL_of s3
theorem s10 : getL sR1 (-1) 9 = sP := by decide
/-! ### '==' of rectangles -/
instance decRc : DecidableEq Rc := fun a b =>
 if h : a.x0 = b.x0 ∧ a.y0 = b.y0 ∧ a.x1 = b.x1 ∧ a.y1 = b.y1 then isTrue (by obtain ⟨a1, a2, a3, a4⟩ := a; obtain ⟨b1, b2, b3, b4⟩ := b; obtain ⟨rfl, rfl, rfl, rfl⟩ := h; rfl)
 else isFalse fun e => h (by rw [e]; exact ⟨rfl, rfl, rfl, rfl⟩)
@[go_sem] theorem guard_rc (op : BinOp) (p q : Operand) (a b : Array Value) (w : World) : (eqGuard op 30 p q (.agg a) (.agg b)).run Tryz.prog w = .ok () w := run_eqGuard_agg w op 30 p q _ _ (by kernel_rfl)
theorem rce_px {g o : Nat} {ls : List Px} {w : World} (h : RCellsE pxE g o ls w) {i : Nat} {x : Px} (hi : ls[i]? = some x) : (Instr.loadAt 25 (.pointer (some ⟨g, o + i * 4, none⟩))).run Tryz.prog w = .ok (Px.v x) w :=
 h.load Tryz.isAgg25 hi
/-! ### The walk -/
/- Contracts of gouacheref04.Made, gouacheref07.Made. -/
section
variable {ops : Array Oper} {rest : List Oper} {o : Oper} {a : Act} {w : World} {Q : Exit → Act → World → Prop}
end
def madeA (u : Int) : Int := if u % 5 = 1 then 255 else if u % 5 = 3 then 0 else u / 16777216
def madeP (x : Int) : Px := ⟨x % 256, x % 4294967296 / 256 % 256, x % 4294967296 / 65536 % 256, madeA (x % 4294967296)⟩
/- Slices of integers; contracts of gouacheref07.Made, pick. -/
def inE : Elt Int 1 3 23 where
 enc := fun x => #[.int .i64 x]
 bytes := 8
 zero := 0
 size := fun _ => rfl
 one := fun x u hu => by
  have : u ∈ [Value.int .i64 x] := hu
  rw [List.mem_singleton.1 this]; rfl
 pos := by omega
 small := by omega
 und := Tryz.underlying23
 info := by kernel_rfl
 zer := by kernel_rfl
theorem rci_int {g o : Nat} {L : List Int} {w : World} (h : RCellsE inE g o L w) {i : Nat} {x : Int} (hi : L[i]? = some x) : w.cell? ⟨g, o + i, none⟩ = some (.int .i64 x) := by
 have := h.2 i x hi 0 (by omega)
 rw [Nat.mul_one, Nat.add_zero] at this
 exact this
def getI (L : List Int) (i : Nat) : Int := L.getD i 0
theorem getD_some {L : List Int} {i : Nat} (h : i < L.length) : L[i]? = some (getI L i) := by
 unfold getI
 rw [List.getD_eq_getElem?_getD, List.getElem?_eq_getElem h]; rfl
def madeS (L : List Int) (i : Nat) : Int := getI L (i * L.length / 64)
def madeQ (L : List Int) (i : Nat) : Px := if madeS L i % 4 = 2 then cleanP (madeP (madeS L i + 7919 * i)) else cleanP (madeP (madeS L i))
def madeT (L : List Int) : Nat → Px := if L.length = 0 then zT else madeQ L
def pickI (L : List Int) (i : Nat) (m : Int) : Int := if i < L.length then getI L i % 1048576 % m else 0
end Go.Proofs.YtamgpfblhlfhaaaGreat
/- Plain: polygons: which rays cross an edge, the coverage of a pixel, the rectangle from the least to the greatest coordinates. -/
namespace Go.Proofs.YtamgpfblhlfhaaaGreat
open Go.RowKit Pl
set_option linter.unusedVariables false
set_option linter.unusedSimpArgs false
abbrev Pnt := Int × Int
def farP (p : Pnt) : Bool := decide (p.1 < -65536 ∨ p.2 < -65536 ∨ 65536 < p.1 ∨ 65536 < p.2)
def nearL (l : List Pnt) : Prop := ∀ p ∈ l, farP p = false
def validG (l : List Pnt) : Bool := decide (3 ≤ l.length ∧ l.length ≤ 64) && l.all fun p => !farP p
theorem farP_no {p : Pnt} : farP p = false ↔ (-65536 ≤ p.1 ∧ p.1 ≤ 65536 ∧ -65536 ≤ p.2 ∧ p.2 ≤ 65536) := by
 unfold farP
 rw [decide_eq_false_iff_not]
 omega
theorem validG_iff {l : List Pnt} : validG l = true ↔ (3 ≤ l.length ∧ l.length ≤ 64) ∧ nearL l := by
 unfold validG nearL
 rw [Bool.and_eq_true_iff, decide_eq_true_iff, List.all_eq_true]
 simp
/-- The ray from (u, v) to the right crosses the edge from a up to b. -/
def crs0 (a b : Pnt) (u v : Int) : Bool := decide (a.2 ≤ v ∧ v < b.2 ∧ (u - a.1) * (b.2 - a.2) < (b.1 - a.1) * (v - a.2))
def crs (a b : Pnt) (u v : Int) : Bool := if b.2 < a.2 then crs0 b a u v else crs0 a b u v
def pt8 (p : Pnt) : Pnt := (8 * p.1, 8 * p.2)
def ptG (l : List Pnt) (i : Nat) : Pnt := l.getD i (0, 0)
def edgeB (l : List Pnt) (u v : Int) (i : Nat) : Bool := crs (pt8 (ptG l i)) (pt8 (ptG l ((i + 1) % l.length))) u v
/-- The parity of a sequence of answers. -/
def parK (f : Nat → Bool) : Nat → Bool
 | 0 => false
 | k + 1 => Bool.xor (parK f k) (f k)
def oddG (l : List Pnt) (u v : Int) : Bool := parK (edgeB l u v) l.length
def smpG (l : List Pnt) (x y : Int) (i : Nat) : Bool := oddG l (8 * x + 2 * ((i : Int) % 4) + 1) (8 * y + 2 * ((i : Int) / 4) + 1)
def cntK (f : Nat → Bool) : Nat → Nat
 | 0 => 0
 | k + 1 => cntK f k + (if f k = true then 1 else 0)
theorem cntK_le (f : Nat → Bool) : ∀ k, cntK f k ≤ k
 | 0 => Nat.le_refl _
 | k + 1 => by
  have := cntK_le f k
  show cntK f k + (if f k = true then 1 else 0) ≤ _
  split <;> omega
def covI (n : Nat) : Int := (255 * (n : Int) + 8) / 16
def covG (l : List Pnt) (x y : Int) : Int := covI (cntK (smpG l x y) 16)
/-! ### The rectangle from the least to the greatest coordinates -/
def growR (r : Rc) (p : Pnt) : Rc := ⟨min r.x0 p.1, min r.y0 p.2, max r.x1 p.1, max r.y1 p.2⟩
def ptR (p : Pnt) : Rc := ⟨p.1, p.2, p.1, p.2⟩
def hullG : List Pnt → Rc
 | [] => Rc.zero
 | p :: r => r.foldl growR (ptR p)
theorem growR_self (p : Pnt) : growR (ptR p) p = ptR p := by
 unfold growR ptR
 simp
/-- Each point lies within the rectangle; each side bears one. -/
structure Around (r : Rc) (l : List Pnt) : Prop where
 h1 : ∀ p ∈ l, r.x0 ≤ p.1 ∧ p.1 ≤ r.x1 ∧ r.y0 ≤ p.2 ∧ p.2 ≤ r.y1
 l1 : ∃ p ∈ l, p.1 = r.x0
 l2 : ∃ p ∈ l, p.1 = r.x1
 l3 : ∃ p ∈ l, p.2 = r.y0
 l4 : ∃ p ∈ l, p.2 = r.y1
theorem Around.grow {r : Rc} {l : List Pnt} (h : Around r l) (p : Pnt) : Around (growR r p) (l ++ [p]) := by
 obtain ⟨h1, ⟨a, ha, ea⟩, ⟨b, hb, eb⟩, ⟨c, hc, ec⟩, ⟨d, hd, ed⟩⟩ := h
 have hp : p ∈ l ++ [p] := List.mem_append_right _ (List.mem_cons_self ..)
 have hl : ∀ {q}, q ∈ l → q ∈ l ++ [p] := fun hq => List.mem_append_left _ hq
 unfold growR
 constructor
 ·intro q hq
  show min r.x0 p.1 ≤ q.1 ∧ q.1 ≤ max r.x1 p.1 ∧ min r.y0 p.2 ≤ q.2 ∧ q.2 ≤ max r.y1 p.2
  rcases List.mem_append.1 hq with hq | hq
  ·have := h1 q hq; omega
  ·obtain rfl : q = p := by simpa using hq
   omega
 ·show ∃ q ∈ l ++ [p], q.1 = min r.x0 p.1
  by_cases h : r.x0 ≤ p.1
  ·exact ⟨a, hl ha, by omega⟩
  ·exact ⟨p, hp, by omega⟩
 ·show ∃ q ∈ l ++ [p], q.1 = max r.x1 p.1
  by_cases h : p.1 ≤ r.x1
  ·exact ⟨b, hl hb, by omega⟩
  ·exact ⟨p, hp, by omega⟩
 ·show ∃ q ∈ l ++ [p], q.2 = min r.y0 p.2
  by_cases h : r.y0 ≤ p.2
  ·exact ⟨c, hl hc, by omega⟩
  ·exact ⟨p, hp, by omega⟩
 ·show ∃ q ∈ l ++ [p], q.2 = max r.y1 p.2
  by_cases h : p.2 ≤ r.y1
  ·exact ⟨d, hl hd, by omega⟩
  ·exact ⟨p, hp, by omega⟩
theorem around_fold : ∀ (m : List Pnt) (r : Rc) (l : List Pnt), Around r l → Around (m.foldl growR r) (l ++ m)
 | [], r, l, h => by rw [List.append_nil]; exact h
 | p :: m, r, l, h => by
  have := around_fold m (growR r p) (l ++ [p]) (h.grow p)
  rw [List.append_assoc] at this
  exact this
theorem around_one (p : Pnt) : Around (ptR p) [p] := by
 have hp : p ∈ [p] := List.mem_cons_self ..
 refine ⟨fun q hq => ?_, ⟨p, hp, rfl⟩, ⟨p, hp, rfl⟩, ⟨p, hp, rfl⟩, ⟨p, hp, rfl⟩⟩
 obtain rfl : q = p := by simpa using hq
 unfold ptR
 simp
theorem hull_around {l : List Pnt} (h : l ≠ []) : Around (hullG l) l := by
 cases l with
 | nil => exact absurd rfl h
 | cons p r => exact around_fold r _ [p] (around_one p)
/-- What the program's loop has behind k points; its first round takes the first point anew. -/
def hullK (l : List Pnt) (k : Nat) : Rc := (l.take k).foldl growR (ptR (ptG l 0))
theorem take_ptG {l : List Pnt} {k : Nat} (h : k < l.length) : l.take (k + 1) = l.take k ++ [ptG l k] := by
 unfold ptG
 rw [List.take_add_one, List.getD_eq_getElem?_getD, List.getElem?_eq_getElem h]
 rfl
theorem hullK_step {l : List Pnt} {k : Nat} (h : k < l.length) : hullK l (k + 1) = growR (hullK l k) (ptG l k) := by
 unfold hullK
 rw [take_ptG h, List.foldl_append]
 rfl
theorem hullK_all {l : List Pnt} (h : l ≠ []) : hullK l l.length = hullG l := by
 unfold hullK
 rw [List.take_length]
 cases l with
 | nil => exact absurd rfl h
 | cons p r =>
  show r.foldl growR (growR (ptR p) p) = _
  rw [growR_self]
  rfl
theorem hullK_one {l : List Pnt} (h : 0 < l.length) : hullK l 1 = ptR (ptG l 0) := by
 rw [show (1 : Nat) = 0 + 1 from rfl, hullK_step h]
 exact growR_self _
theorem near_hull {l : List Pnt} (h : l ≠ []) (hn : nearL l) : -65536 ≤ (hullG l).x0 ∧ (hullG l).x1 ≤ 65536 ∧ -65536 ≤ (hullG l).y0 ∧ (hullG l).y1 ≤ 65536 ∧ (hullG l).x0 ≤ (hullG l).x1 ∧ (hullG l).y0 ≤ (hullG l).y1 := by
 obtain ⟨h1, ⟨a, ha, ea⟩, ⟨b, hb, eb⟩, ⟨c, hc, ec⟩, ⟨d, hd, ed⟩⟩ := hull_around h
 have f := fun p hp => farP_no.1 (hn p hp)
 have f1 := f a ha
 have f2 := f b hb
 have f3 := f c hc
 have f4 := f d hd
 have g1 := h1 a ha
 have g3 := h1 c hc
 omega
def boundG (l : List Pnt) : Rc := if validG l = true then normR (hullG l) else Rc.zero
/-! ### A pixel outside of the rectangle is not covered -/
theorem ptG_mem {l : List Pnt} {i : Nat} (h : i < l.length) : ptG l i ∈ l := by
 unfold ptG
 rw [List.getD_eq_getElem?_getD, List.getElem?_eq_getElem h]
 exact List.getElem_mem h
def coverP (l : List Pnt) (x y : Int) : Int := if hasR (boundG l) x y = true then covG l x y else 0
def coverR (l : List Pnt) (x y : Int) : Int := if validG l = true ∧ -70000 ≤ x ∧ -70000 ≤ y ∧ x ≤ 70000 ∧ y ≤ 70000 then covG l x y else 0
theorem valid_ne {l : List Pnt} (h : validG l = true) : l ≠ [] := by
 have := (validG_iff.1 h).1.1
 intro e
 rw [e] at this
 simp at this
/- Plain: a polygon shifted, turned round, told from another point or in the other order: the same coverage. -/
def shp (d : Pnt) (p : Pnt) : Pnt := (p.1 + d.1, p.2 + d.2)
/-- The list of the points at k, k + 1 .. of another one, shifted. -/
def rotG (l : List Pnt) (k : Nat) (d : Pnt) : List Pnt := (List.range l.length).map fun i => shp d (ptG l ((i + k) % l.length))
def revG (l : List Pnt) (k : Nat) : List Pnt := (List.range l.length).map fun i => ptG l ((l.length + k - i) % l.length)
/-! ### The polygon that numbers describe -/
def numI (q : List Int) (i : Nat) : Int := q.getD i 0
def pathN (q : List Int) : Nat := min (q.length / 2) 12
def pathP (q : List Int) (j : Nat) : Pnt := (numI q (2 * j) % 28 - 8, numI q (2 * j + 1) % 28 - 8)
def pathK (q : List Int) (k : Nat) : List Pnt := (List.range k).map (pathP q)
def pathG (q : List Int) : List Pnt := pathK q (pathN q)
theorem pathK_len (q : List Int) (k : Nat) : (pathK q k).length = k := by unfold pathK; rw [List.length_map, List.length_range]
theorem pathK_snoc (q : List Int) (k : Nat) : pathK q (k + 1) = pathK q k ++ [pathP q k] := by
 unfold pathK
 rw [List.range_succ, List.map_append]
 rfl
theorem pathG_len (q : List Int) : (pathG q).length ≤ 12 := by
 unfold pathG
 rw [pathK_len]
 unfold pathN
 omega
end Go.Proofs.YtamgpfblhlfhaaaGreat
/- Slices of points; calls of function values. -/
namespace Go.Proofs.YtamgpfblhlfhaaaGreat
open Go.RowKit Go.Shelf Pl
set_option linter.unusedVariables false
set_option linter.unusedSimpArgs false
set_option maxRecDepth 20000
def ptE : Elt (Int × Int) 2 53 22 where
 enc := fun x => #[.int .i64 x.1, .int .i64 x.2]
 bytes := 16
 zero := (0, 0)
 size := fun _ => rfl
 one := fun x u hu => by
  have : u ∈ [Value.int .i64 x.1, .int .i64 x.2] := hu
  rcases List.mem_cons.1 this with rfl | this
  ·rfl
  ·rw [List.mem_singleton.1 this]; rfl
 pos := by omega
 small := by omega
 und := Tryz.underlying22
 info := by kernel_rfl
 zer := by kernel_rfl
theorem rce_pt {g o : Nat} {ls : List (Int × Int)} {w : World} (h : RCellsE ptE g o ls w) {i : Nat} {x y : Int} (hi : ls[i]? = some (x, y)) : (Instr.loadAt 53 (.pointer (some ⟨g, o + i * 2, none⟩))).run Tryz.prog w = .ok (.agg #[.int .i64 x, .int .i64 y]) w :=
 h.load Tryz.isAgg53 hi
theorem rce_ptx {g o : Nat} {ls : List (Int × Int)} {w : World} (h : RCellsE ptE g o ls w) {i : Nat} {x y : Int} (hi : ls[i]? = some (x, y)) : (Instr.loadAt 3 (.pointer (some ⟨g, o + i * 2, none⟩))).run Tryz.prog w = .ok (.int .i64 x) w :=
 run_load_int (by have := h.2 i _ hi 0 (by omega); rw [Nat.add_zero] at this; exact this)
theorem rce_pty {g o : Nat} {ls : List (Int × Int)} {w : World} (h : RCellsE ptE g o ls w) {i : Nat} {x y : Int} (hi : ls[i]? = some (x, y)) : (Instr.loadAt 3 (.pointer (some ⟨g, o + i * 2 + 1, none⟩))).run Tryz.prog w = .ok (.int .i64 y) w :=
 run_load_int (by have := h.2 i _ hi 1 (by omega); rw [← Nat.add_assoc] at this; exact this)
section
variable {P : Program} {ops : Array Oper} {Q : Exit → Act → World → Prop} {w : World}
theorem wp_callV {g : FuncId} {x : Operand} {xs : Array Operand} {ats : Array TypeId} {o : Oper} {a : Act} {K : Act → World → Prop} {vals lb : Array Value} (ho : o.op = .call { callee := .value x, args := xs, argTypes := ats }) (hx : a.eval x = .func (.func g) #[] lb) (eg : Go.Proofs.Enters P g) (hv : xs.map a.eval = vals)
  (h : Calls P g (vals ++ lb) w fun e w' => ∃ v, e = .returned v ∧ K (a.put o.dst v) w') : o.wp P a w K Q := by
 subst hv
 obtain ⟨dst, op, ty, pos, after, guard⟩ := o
 simp only at ho
 subst ho
 unfold Oper.wp
 have key : ∀ ρ : Operand → Value, ρ x = .func (.func g) #[] lb → (execOp ρ { dst, op := .call { callee := .value x, args := xs, argTypes := ats }, type := ty, pos, after, guard : Oper }).run P w = .ok (.enter g (xs.map ρ ++ lb)) w := fun ρ hρ => by
  have := eg (xs.map ρ ++ lb) w
  simp [go_sem, hρ, this]
 rw [key a.eval hx]
 exact Calls.mono h fun e w' ⟨v, he, hk⟩ => by subst he; exact hk
theorem wpList_minI {x y : Operand} {t : TypeId} {ty : TypeId} {o : Oper} {r : List Oper} {a : Act} {p q : Int} (hw : Region.wanted o (yielded ops a.tmps) = true) (ho : o.op = .call { callee := .builtin .min, args := #[x, y], argTypes := #[t, t] }) (hty : o.type = ty) (ht : P.underlying ty = some (.int .i64)) (hx : a.eval x = .int .i64 p) (hy : a.eval y = .int .i64 q)
  (h : wpList P ops Q r (a.put o.dst (.int .i64 (min p q))) w) : wpList P ops Q (o :: r) a w := by
 unfold wpList
 rw [if_pos hw]
 left
 obtain ⟨dst, op, type, pos, after, guard⟩ := o
 simp only at ho hty
 subst ho
 subst hty
 unfold Oper.wp
 have hu := run_underlying ht w
 have key : ∀ ρ : Operand → Value, ρ x = .int .i64 p → ρ y = .int .i64 q → (execOp ρ { dst, op := .call { callee := .builtin .min, args := #[x, y], argTypes := #[t, t] }, type, pos, after, guard : Oper }).run P w = .ok (.value (.int .i64 (min p q))) w := fun ρ h1 h2 => by
  simp [go_sem, h1, h2, hu, Builtin.min_, Builtin.min2, ht]; (split <;> omega)
 rw [key a.eval hx hy]
 exact h
theorem wpList_maxI {x y : Operand} {t : TypeId} {ty : TypeId} {o : Oper} {r : List Oper} {a : Act} {p q : Int} (hw : Region.wanted o (yielded ops a.tmps) = true) (ho : o.op = .call { callee := .builtin .max, args := #[x, y], argTypes := #[t, t] }) (hty : o.type = ty) (ht : P.underlying ty = some (.int .i64)) (hx : a.eval x = .int .i64 p) (hy : a.eval y = .int .i64 q)
  (h : wpList P ops Q r (a.put o.dst (.int .i64 (max p q))) w) : wpList P ops Q (o :: r) a w := by
 unfold wpList
 rw [if_pos hw]
 left
 obtain ⟨dst, op, type, pos, after, guard⟩ := o
 simp only at ho hty
 subst ho
 subst hty
 unfold Oper.wp
 have hu := run_underlying ht w
 have key : ∀ ρ : Operand → Value, ρ x = .int .i64 p → ρ y = .int .i64 q → (execOp ρ { dst, op := .call { callee := .builtin .max, args := #[x, y], argTypes := #[t, t] }, type, pos, after, guard : Oper }).run P w = .ok (.value (.int .i64 (max p q))) w := fun ρ h1 h2 => by
  simp [go_sem, h1, h2, hu, Builtin.max_, Builtin.max2, ht]; (split <;> omega)
 rw [key a.eval hx hy]
 exact h
end
end Go.Proofs.YtamgpfblhlfhaaaGreat
/- Contracts of far, crosses of package selection and of its reference; of rest. -/
namespace Go.Proofs.YtamgpfblhlfhaaaGreat
open Go.RowKit Pl
set_option linter.unusedVariables false
set_option linter.unusedSimpArgs false
set_option maxRecDepth 20000
theorem P_far (x y : Int) (w : World) : Calls Tryz.prog 66 #[.agg #[.int .i64 x, .int .i64 y]] w fun e w' => e = .returned (.bool (farP (x, y))) ∧ Below w.heap.size w w' := by
 by_cases h0 : min x y < -65536
 ·rw [show farP (x, y) = true from by unfold farP; exact decide_eq_true (by simp only; omega)]
  have d0 : decide (min x y < -65536) = true := decide_eq_true h0
  go_enter Tryz.func66, Tryz.ntmps66
  go_wp2
  go_ret
  exact ⟨rfl, by go_grown⟩
 ·by_cases h1 : 65536 < max x y
  ·rw [show farP (x, y) = true from by unfold farP; exact decide_eq_true (by simp only; omega)]
   have d0 : decide (min x y < -65536) = false := decide_eq_false h0
   have d1 : decide (65536 < max x y) = true := decide_eq_true h1
   go_enter Tryz.func66, Tryz.ntmps66
   go_wp2
   go_ret
   exact ⟨rfl, by go_grown⟩
  ·rw [show farP (x, y) = false from by unfold farP; exact decide_eq_false (by simp only; omega)]
   have d0 : decide (min x y < -65536) = false := decide_eq_false h0
   have d1 : decide (65536 < max x y) = false := decide_eq_false h1
   go_enter Tryz.func66, Tryz.ntmps66
   go_wp2
   go_ret
   exact ⟨rfl, by go_grown⟩
theorem R_far (x y : Int) (w : World) : Calls Tryz.prog 62 #[.agg #[.int .i64 x, .int .i64 y]] w fun e w' => e = .returned (.bool (farP (x, y))) ∧ Below w.heap.size w w' := by
 by_cases h0 : x < -65536
 ·rw [show farP (x, y) = true from by unfold farP; exact decide_eq_true (by simp only; omega)]
  have d0 : decide (x < -65536) = true := decide_eq_true h0
  go_enter Tryz.func62, Tryz.ntmps62
  go_wp2
  go_ret
  exact ⟨rfl, by go_grown⟩
 ·by_cases h1 : y < -65536
  ·rw [show farP (x, y) = true from by unfold farP; exact decide_eq_true (by simp only; omega)]
   have d0 : decide (x < -65536) = false := decide_eq_false h0
   have d1 : decide (y < -65536) = true := decide_eq_true h1
   go_enter Tryz.func62, Tryz.ntmps62
   go_wp2
   go_ret
   exact ⟨rfl, by go_grown⟩
  ·by_cases h2 : 65536 < x
   ·rw [show farP (x, y) = true from by unfold farP; exact decide_eq_true (by simp only; omega)]
    have d0 : decide (x < -65536) = false := decide_eq_false h0
    have d1 : decide (y < -65536) = false := decide_eq_false h1
    have d2 : decide (65536 < x) = true := decide_eq_true h2
    go_enter Tryz.func62, Tryz.ntmps62
    go_wp2
    go_ret
    exact ⟨rfl, by go_grown⟩
   ·by_cases h3 : 65536 < y
    ·rw [show farP (x, y) = true from by unfold farP; exact decide_eq_true (by simp only; omega)]
     have d0 : decide (x < -65536) = false := decide_eq_false h0
     have d1 : decide (y < -65536) = false := decide_eq_false h1
     have d2 : decide (65536 < x) = false := decide_eq_false h2
     have d3 : decide (65536 < y) = true := decide_eq_true h3
     go_enter Tryz.func62, Tryz.ntmps62
     go_wp2
     go_ret
     exact ⟨rfl, by go_grown⟩
    ·rw [show farP (x, y) = false from by unfold farP; exact decide_eq_false (by simp only; omega)]
     have d0 : decide (x < -65536) = false := decide_eq_false h0
     have d1 : decide (y < -65536) = false := decide_eq_false h1
     have d2 : decide (65536 < x) = false := decide_eq_false h2
     have d3 : decide (65536 < y) = false := decide_eq_false h3
     go_enter Tryz.func62, Tryz.ntmps62
     go_wp2
     go_ret
     exact ⟨rfl, by go_grown⟩
theorem mulS_bd {p q M : Int} (hp : -M ≤ p ∧ p ≤ M) (hq : -M ≤ q ∧ q ≤ M) : -(M * M) ≤ p * q ∧ p * q ≤ M * M := by
 have h1 : 0 ≤ (M - p) * (M + q) := Int.mul_nonneg (by omega) (by omega)
 have h2 : 0 ≤ (M + p) * (M - q) := Int.mul_nonneg (by omega) (by omega)
 have h3 : 0 ≤ (M - p) * (M - q) := Int.mul_nonneg (by omega) (by omega)
 have h4 : 0 ≤ (M + p) * (M + q) := Int.mul_nonneg (by omega) (by omega)
 simp only [Int.sub_mul, Int.mul_sub, Int.add_mul, Int.mul_add] at h1 h2 h3 h4
 constructor <;> omega
set_option maxHeartbeats 4000000 in
theorem P_crosses (ax ay bx bv u v : Int) (h1 : -600000 ≤ ax ∧ ax ≤ 600000) (h2 : -600000 ≤ ay ∧ ay ≤ 600000) (h3 : -600000 ≤ bx ∧ bx ≤ 600000) (h4 : -600000 ≤ bv ∧ bv ≤ 600000) (h5 : -600000 ≤ u ∧ u ≤ 600000) (h6 : -600000 ≤ v ∧ v ≤ 600000) (w : World) : Calls Tryz.prog 109 #[.agg #[.int .i64 ax, .int .i64 ay], .agg #[.int .i64 bx, .int .i64 bv], .int .i64 u, .int .i64 v] w fun e w' => e = .returned (.bool (crs (ax, ay) (bx, bv) u v)) ∧ Below w.heap.size w w' := by
 have g1 := h1
 have g2 := h2
 have g3 := h3
 have g4 := h4
 have g5 := h5
 have g6 := h6
 clear h1 h2 h3 h4 h5 h6
 by_cases hs : bv < ay
 ·rw [show crs (ax, ay) (bx, bv) u v = crs0 (bx, bv) (ax, ay) u v from if_pos hs]
  have ds : decide (bv < ay) = true := decide_eq_true hs
  by_cases h0 : bv ≤ v
  ·by_cases h1 : v < ay
   ·by_cases h2 : (u - bx) * (ay - bv) < (ax - bx) * (v - bv)
    ·rw [show crs0 (bx, bv) (ax, ay) u v = true from by unfold crs0; exact decide_eq_true (by simp only; omega)]
     have d0 : decide (bv ≤ v) = true := decide_eq_true h0
     have d1 : decide (v < ay) = true := decide_eq_true h1
     have d2 : decide ((u - bx) * (ay - bv) < (ax - bx) * (v - bv)) = true := decide_eq_true h2
     obtain ⟨m1, m2⟩ := mulS_bd (M := 1600000) (p := u - bx) (q := ay - bv) (by omega) (by omega)
     obtain ⟨m3, m4⟩ := mulS_bd (M := 1600000) (p := ax - bx) (q := v - bv) (by omega) (by omega)
     go_enter Tryz.func109, Tryz.ntmps109
     go_wp2
     go_ret
     exact ⟨rfl, by go_grown⟩
    ·rw [show crs0 (bx, bv) (ax, ay) u v = false from by unfold crs0; exact decide_eq_false (by simp only; omega)]
     have d0 : decide (bv ≤ v) = true := decide_eq_true h0
     have d1 : decide (v < ay) = true := decide_eq_true h1
     have d2 : decide ((u - bx) * (ay - bv) < (ax - bx) * (v - bv)) = false := decide_eq_false h2
     obtain ⟨m1, m2⟩ := mulS_bd (M := 1600000) (p := u - bx) (q := ay - bv) (by omega) (by omega)
     obtain ⟨m3, m4⟩ := mulS_bd (M := 1600000) (p := ax - bx) (q := v - bv) (by omega) (by omega)
     go_enter Tryz.func109, Tryz.ntmps109
     go_wp2
     go_ret
     exact ⟨rfl, by go_grown⟩
   ·rw [show crs0 (bx, bv) (ax, ay) u v = false from by unfold crs0; exact decide_eq_false (by simp only; omega)]
    have d0 : decide (bv ≤ v) = true := decide_eq_true h0
    have d1 : decide (v < ay) = false := decide_eq_false h1
    obtain ⟨m1, m2⟩ := mulS_bd (M := 1600000) (p := u - bx) (q := ay - bv) (by omega) (by omega)
    obtain ⟨m3, m4⟩ := mulS_bd (M := 1600000) (p := ax - bx) (q := v - bv) (by omega) (by omega)
    go_enter Tryz.func109, Tryz.ntmps109
    go_wp2
    go_ret
    exact ⟨rfl, by go_grown⟩
  ·rw [show crs0 (bx, bv) (ax, ay) u v = false from by unfold crs0; exact decide_eq_false (by simp only; omega)]
   have d0 : decide (bv ≤ v) = false := decide_eq_false h0
   obtain ⟨m1, m2⟩ := mulS_bd (M := 1600000) (p := u - bx) (q := ay - bv) (by omega) (by omega)
   obtain ⟨m3, m4⟩ := mulS_bd (M := 1600000) (p := ax - bx) (q := v - bv) (by omega) (by omega)
   go_enter Tryz.func109, Tryz.ntmps109
   go_wp2
   go_ret
   exact ⟨rfl, by go_grown⟩
 ·rw [show crs (ax, ay) (bx, bv) u v = crs0 (ax, ay) (bx, bv) u v from if_neg hs]
  have ds : decide (bv < ay) = false := decide_eq_false hs
  by_cases h0 : ay ≤ v
  ·by_cases h1 : v < bv
   ·by_cases h2 : (u - ax) * (bv - ay) < (bx - ax) * (v - ay)
    ·rw [show crs0 (ax, ay) (bx, bv) u v = true from by unfold crs0; exact decide_eq_true (by simp only; omega)]
     have d0 : decide (ay ≤ v) = true := decide_eq_true h0
     have d1 : decide (v < bv) = true := decide_eq_true h1
     have d2 : decide ((u - ax) * (bv - ay) < (bx - ax) * (v - ay)) = true := decide_eq_true h2
     obtain ⟨m1, m2⟩ := mulS_bd (M := 1600000) (p := u - ax) (q := bv - ay) (by omega) (by omega)
     obtain ⟨m3, m4⟩ := mulS_bd (M := 1600000) (p := bx - ax) (q := v - ay) (by omega) (by omega)
     go_enter Tryz.func109, Tryz.ntmps109
     go_wp2
     go_ret
     exact ⟨rfl, by go_grown⟩
    ·rw [show crs0 (ax, ay) (bx, bv) u v = false from by unfold crs0; exact decide_eq_false (by simp only; omega)]
     have d0 : decide (ay ≤ v) = true := decide_eq_true h0
     have d1 : decide (v < bv) = true := decide_eq_true h1
     have d2 : decide ((u - ax) * (bv - ay) < (bx - ax) * (v - ay)) = false := decide_eq_false h2
     obtain ⟨m1, m2⟩ := mulS_bd (M := 1600000) (p := u - ax) (q := bv - ay) (by omega) (by omega)
     obtain ⟨m3, m4⟩ := mulS_bd (M := 1600000) (p := bx - ax) (q := v - ay) (by omega) (by omega)
     go_enter Tryz.func109, Tryz.ntmps109
     go_wp2
     go_ret
     exact ⟨rfl, by go_grown⟩
   ·rw [show crs0 (ax, ay) (bx, bv) u v = false from by unfold crs0; exact decide_eq_false (by simp only; omega)]
    have d0 : decide (ay ≤ v) = true := decide_eq_true h0
    have d1 : decide (v < bv) = false := decide_eq_false h1
    obtain ⟨m1, m2⟩ := mulS_bd (M := 1600000) (p := u - ax) (q := bv - ay) (by omega) (by omega)
    obtain ⟨m3, m4⟩ := mulS_bd (M := 1600000) (p := bx - ax) (q := v - ay) (by omega) (by omega)
    go_enter Tryz.func109, Tryz.ntmps109
    go_wp2
    go_ret
    exact ⟨rfl, by go_grown⟩
  ·rw [show crs0 (ax, ay) (bx, bv) u v = false from by unfold crs0; exact decide_eq_false (by simp only; omega)]
   have d0 : decide (ay ≤ v) = false := decide_eq_false h0
   obtain ⟨m1, m2⟩ := mulS_bd (M := 1600000) (p := u - ax) (q := bv - ay) (by omega) (by omega)
   obtain ⟨m3, m4⟩ := mulS_bd (M := 1600000) (p := bx - ax) (q := v - ay) (by omega) (by omega)
   go_enter Tryz.func109, Tryz.ntmps109
   go_wp2
   go_ret
   exact ⟨rfl, by go_grown⟩
set_option maxHeartbeats 4000000 in
theorem R_crosses (ax ay bx bv u v : Int) (h1 : -600000 ≤ ax ∧ ax ≤ 600000) (h2 : -600000 ≤ ay ∧ ay ≤ 600000) (h3 : -600000 ≤ bx ∧ bx ≤ 600000) (h4 : -600000 ≤ bv ∧ bv ≤ 600000) (h5 : -600000 ≤ u ∧ u ≤ 600000) (h6 : -600000 ≤ v ∧ v ≤ 600000) (w : World) : Calls Tryz.prog 117 #[.agg #[.int .i64 ax, .int .i64 ay], .agg #[.int .i64 bx, .int .i64 bv], .int .i64 u, .int .i64 v] w fun e w' => e = .returned (.bool (crs (ax, ay) (bx, bv) u v)) ∧ Below w.heap.size w w' := by
 have g1 := h1
 have g2 := h2
 have g3 := h3
 have g4 := h4
 have g5 := h5
 have g6 := h6
 clear h1 h2 h3 h4 h5 h6
 by_cases hs : bv < ay
 ·rw [show crs (ax, ay) (bx, bv) u v = crs0 (bx, bv) (ax, ay) u v from if_pos hs]
  have ds : decide (bv < ay) = true := decide_eq_true hs
  by_cases h0 : bv ≤ v
  ·by_cases h1 : v < ay
   ·by_cases h2 : (u - bx) * (ay - bv) < (ax - bx) * (v - bv)
    ·rw [show crs0 (bx, bv) (ax, ay) u v = true from by unfold crs0; exact decide_eq_true (by simp only; omega)]
     have d0 : decide (bv ≤ v) = true := decide_eq_true h0
     have d1 : decide (v < ay) = true := decide_eq_true h1
     have d2 : decide ((u - bx) * (ay - bv) < (ax - bx) * (v - bv)) = true := decide_eq_true h2
     obtain ⟨m1, m2⟩ := mulS_bd (M := 1600000) (p := u - bx) (q := ay - bv) (by omega) (by omega)
     obtain ⟨m3, m4⟩ := mulS_bd (M := 1600000) (p := ax - bx) (q := v - bv) (by omega) (by omega)
     go_enter Tryz.func117, Tryz.ntmps117
     go_wp2
     go_ret
     exact ⟨rfl, by go_grown⟩
    ·rw [show crs0 (bx, bv) (ax, ay) u v = false from by unfold crs0; exact decide_eq_false (by simp only; omega)]
     have d0 : decide (bv ≤ v) = true := decide_eq_true h0
     have d1 : decide (v < ay) = true := decide_eq_true h1
     have d2 : decide ((u - bx) * (ay - bv) < (ax - bx) * (v - bv)) = false := decide_eq_false h2
     obtain ⟨m1, m2⟩ := mulS_bd (M := 1600000) (p := u - bx) (q := ay - bv) (by omega) (by omega)
     obtain ⟨m3, m4⟩ := mulS_bd (M := 1600000) (p := ax - bx) (q := v - bv) (by omega) (by omega)
     go_enter Tryz.func117, Tryz.ntmps117
     go_wp2
     go_ret
     exact ⟨rfl, by go_grown⟩
   ·rw [show crs0 (bx, bv) (ax, ay) u v = false from by unfold crs0; exact decide_eq_false (by simp only; omega)]
    have d0 : decide (bv ≤ v) = true := decide_eq_true h0
    have d1 : decide (v < ay) = false := decide_eq_false h1
    obtain ⟨m1, m2⟩ := mulS_bd (M := 1600000) (p := u - bx) (q := ay - bv) (by omega) (by omega)
    obtain ⟨m3, m4⟩ := mulS_bd (M := 1600000) (p := ax - bx) (q := v - bv) (by omega) (by omega)
    go_enter Tryz.func117, Tryz.ntmps117
    go_wp2
    go_ret
    exact ⟨rfl, by go_grown⟩
  ·rw [show crs0 (bx, bv) (ax, ay) u v = false from by unfold crs0; exact decide_eq_false (by simp only; omega)]
   have d0 : decide (bv ≤ v) = false := decide_eq_false h0
   obtain ⟨m1, m2⟩ := mulS_bd (M := 1600000) (p := u - bx) (q := ay - bv) (by omega) (by omega)
   obtain ⟨m3, m4⟩ := mulS_bd (M := 1600000) (p := ax - bx) (q := v - bv) (by omega) (by omega)
   go_enter Tryz.func117, Tryz.ntmps117
   go_wp2
   go_ret
   exact ⟨rfl, by go_grown⟩
 ·rw [show crs (ax, ay) (bx, bv) u v = crs0 (ax, ay) (bx, bv) u v from if_neg hs]
  have ds : decide (bv < ay) = false := decide_eq_false hs
  by_cases h0 : ay ≤ v
  ·by_cases h1 : v < bv
   ·by_cases h2 : (u - ax) * (bv - ay) < (bx - ax) * (v - ay)
    ·rw [show crs0 (ax, ay) (bx, bv) u v = true from by unfold crs0; exact decide_eq_true (by simp only; omega)]
     have d0 : decide (ay ≤ v) = true := decide_eq_true h0
     have d1 : decide (v < bv) = true := decide_eq_true h1
     have d2 : decide ((u - ax) * (bv - ay) < (bx - ax) * (v - ay)) = true := decide_eq_true h2
     obtain ⟨m1, m2⟩ := mulS_bd (M := 1600000) (p := u - ax) (q := bv - ay) (by omega) (by omega)
     obtain ⟨m3, m4⟩ := mulS_bd (M := 1600000) (p := bx - ax) (q := v - ay) (by omega) (by omega)
     go_enter Tryz.func117, Tryz.ntmps117
     go_wp2
     go_ret
     exact ⟨rfl, by go_grown⟩
    ·rw [show crs0 (ax, ay) (bx, bv) u v = false from by unfold crs0; exact decide_eq_false (by simp only; omega)]
     have d0 : decide (ay ≤ v) = true := decide_eq_true h0
     have d1 : decide (v < bv) = true := decide_eq_true h1
     have d2 : decide ((u - ax) * (bv - ay) < (bx - ax) * (v - ay)) = false := decide_eq_false h2
     obtain ⟨m1, m2⟩ := mulS_bd (M := 1600000) (p := u - ax) (q := bv - ay) (by omega) (by omega)
     obtain ⟨m3, m4⟩ := mulS_bd (M := 1600000) (p := bx - ax) (q := v - ay) (by omega) (by omega)
     go_enter Tryz.func117, Tryz.ntmps117
     go_wp2
     go_ret
     exact ⟨rfl, by go_grown⟩
   ·rw [show crs0 (ax, ay) (bx, bv) u v = false from by unfold crs0; exact decide_eq_false (by simp only; omega)]
    have d0 : decide (ay ≤ v) = true := decide_eq_true h0
    have d1 : decide (v < bv) = false := decide_eq_false h1
    obtain ⟨m1, m2⟩ := mulS_bd (M := 1600000) (p := u - ax) (q := bv - ay) (by omega) (by omega)
    obtain ⟨m3, m4⟩ := mulS_bd (M := 1600000) (p := bx - ax) (q := v - ay) (by omega) (by omega)
    go_enter Tryz.func117, Tryz.ntmps117
    go_wp2
    go_ret
    exact ⟨rfl, by go_grown⟩
  ·rw [show crs0 (ax, ay) (bx, bv) u v = false from by unfold crs0; exact decide_eq_false (by simp only; omega)]
   have d0 : decide (ay ≤ v) = false := decide_eq_false h0
   obtain ⟨m1, m2⟩ := mulS_bd (M := 1600000) (p := u - ax) (q := bv - ay) (by omega) (by omega)
   obtain ⟨m3, m4⟩ := mulS_bd (M := 1600000) (p := bx - ax) (q := v - ay) (by omega) (by omega)
   go_enter Tryz.func117, Tryz.ntmps117
   go_wp2
   go_ret
   exact ⟨rfl, by go_grown⟩
theorem R15_rest (x n : Int) (hn : 0 < n ∧ n ≤ 1000000) (w : World) : Calls Tryz.prog 24 #[.int .i64 x, .int .i64 n] w fun e w' => e = .returned (.int .i64 (x % n)) ∧ Below w.heap.size w w' := by
 have e1 : Int.tmod (Int.tmod x n + n) n = x % n := by
  rw [Int.tmod_eq_emod_of_nonneg (a := Int.tmod x n + n) (by have := Int.lt_tmod_of_pos x (show 0 < n by omega); omega), Int.add_emod_right]
  have := Int.tmod_def x n
  rw [this, Int.sub_eq_add_neg, ← Int.mul_neg, Int.add_mul_emod_self_left]
 have b1 := Int.lt_tmod_of_pos x (show 0 < n by omega)
 have b2 := Int.tmod_lt_of_pos x (show 0 < n by omega)
 have e0 : n ≠ 0 := by omega
 go_enter Tryz.func24, Tryz.ntmps24
 go_wp2
 go_ret
 exact ⟨by first | rfl | (rw [e1]) | skip, by go_grown⟩
end Go.Proofs.YtamgpfblhlfhaaaGreat
/- Contract of gouacheref08.Made. -/
namespace Go.Proofs.YtamgpfblhlfhaaaGreat
open Go.RowKit Go.Shelf Pl
set_option linter.unusedVariables false
set_option linter.unusedSimpArgs false
set_option maxRecDepth 20000
/-- The raster that Made of gouacheref08 builds, after k rounds. -/
def madeK (L : List Int) : Nat → List TA
 | 0 => []
 | k + 1 => if 3 * k + 2 < L.length then setR (madeK L k) (pickI L (3 * k) 48 - 20) (pickI L (3 * k + 1) 48 - 20) (madeP (getI L (3 * k + 2))) else madeK L k
def madeL (L : List Int) : List TA := madeK L 40
theorem run_load_ras {w : World} {b j : Nat} {v : Value} (h : w.cell? ⟨b, j, none⟩ = some v) : (Instr.loadAt 34 (.pointer (some ⟨b, j, none⟩))).run Tryz.prog w = .ok (.agg #[v]) w := by
 simp [go_sem, h]
/- Stores into a row of tiles at positions. -/
theorem aT_set (ls : List TA) (i k : Nat) (e : TA) (hi : i < ls.length) : aT (ls.set i e) k = if k = i then e else aT ls k := by
 unfold aT
 rw [List.getD_eq_getElem?_getD, List.getD_eq_getElem?_getD, List.getElem?_set]
 by_cases h : i = k
 ·subst h; simp [hi]
 ·rw [if_neg h, if_neg (Ne.symm h)]
theorem sz_setCells (b : Nat) : ∀ (vs : List Value) (o : Nat) (w : World), (w.setCells b o vs).heap.size = w.heap.size
 | [], _, _ => rfl
 | v :: r, o, w => by
  show ((w.setCell ⟨b, o, none⟩ v).setCells b (o + 1) r).heap.size = _
  rw [sz_setCells b r, World.size_setCell]
theorem RCells.put {g o i s : Nat} {ls : List TA} {w : World} {vs : List Value} (h : RCells g o ls w) (e' : TA) (hi : i < ls.length) (hs : s + vs.length ≤ 258)
  (he : ∀ j, j < 258 → (taC e')[j]? = if s ≤ j ∧ j < s + vs.length then vs[j - s]? else (taC (aT ls i))[j]?) : RCells g o (ls.set i e') (w.setCells g (o + i * 258 + s) vs) := by
 refine ⟨by rw [sz_setCells]; exact h.1, fun k hk j hj => ?_⟩
 rw [List.length_set] at hk
 rw [aT_set ls i k e' hi]
 have hsome : ∀ j, j < vs.length → (w.cell? ⟨g, o + i * 258 + s + j, none⟩).isSome = true := fun j hj => by
  have := h.2 i hi (s + j) (by omega)
  rw [show o + i * 258 + s + j = o + (i * 258 + (s + j)) by omega, this, Array.getElem?_eq_getElem (by rw [size_taC]; omega)]
  rfl
 by_cases hki : k = i
 ·subst hki
  rw [if_pos rfl, he j hj]
  by_cases hj2 : s ≤ j ∧ j < s + vs.length
  ·rw [if_pos hj2, show o + (k * 258 + j) = o + k * 258 + s + (j - s) by omega, World.cell?_setCells_in g vs _ w hsome (j - s) (by omega), List.getElem?_eq_getElem]
  ·rw [if_neg hj2, World.cell?_setCells_out g vs _ w _ (fun _ _ => by show o + (k * 258 + j) < o + k * 258 + s ∨ o + k * 258 + s + vs.length ≤ o + (k * 258 + j); omega)]
   exact h.2 k hk j hj
 ·rw [if_neg hki, World.cell?_setCells_out g vs _ w _ (fun _ _ => by
   show o + (k * 258 + j) < o + i * 258 + s ∨ o + i * 258 + s + vs.length ≤ o + (k * 258 + j)
   rcases Nat.lt_or_gt_of_ne hki with hh | hh
   ·left; have : (k + 1) * 258 ≤ i * 258 := Nat.mul_le_mul_right _ hh; omega
   ·right; have : (i + 1) * 258 ≤ k * 258 := Nat.mul_le_mul_right _ hh; omega)]
  exact h.2 k hk j hj
/-- An owned row of tiles: its cells may be written. -/
theorem OwnT.row {B : Nat} {v : Value} {ls : List TA} {w : World} (h : OwnT B v ls w) (hl : 0 < ls.length) : ∃ g c, v = .slice (some ⟨g, 0, none⟩) ls.length c ∧ B ≤ g ∧ RCells g 0 ls w ∧ ∀ j, w.frozen? ⟨g, j, none⟩ = false := by
 have hr := h.rs
 obtain ⟨h1, h2⟩ := h
 rcases h2 with ⟨rfl, h0⟩ | ⟨g, cap, cur, rfl, hb, hg, hn, hm, hs, ht⟩
 ·exact absurd hl (by omega)
 ·obtain ⟨g', o', e, rc⟩ := hr.at hl
  injection e with e
  injection e with e1 e2
  subst e1; subst e2
  exact ⟨g, cap, rfl, hb, rc, fun j => AtB.frozen (t := 72) hg j⟩
section
variable {ops : Array Oper} {rest : List Oper} {o : Oper} {a : Act} {w : World} {Q : Exit → Act → World → Prop} {ls : List TA} {g : Nat}
end
/- Contract of `of` of the law package of rasters. -/
/-- What Raw describes (its two slices aside). -/
structure RawQ where
 at_ : Int
 px : Int
 py : Int
 how : Int
def ninT (t : Nat → Px) : Nat → Px := upd t 5 ⟨9, (t 5).g, (t 5).b, (t 5).a⟩
def turnA (q : RawQ) (T : List Int) (e : TA) : TA :=
 if q.how % 8 = 1 then ⟨q.px, q.py, e.t⟩ else if q.how % 8 = 2 then ⟨e.x, e.y, madeT T⟩ else if q.how % 8 = 3 then ⟨e.x, e.y, ninT e.t⟩ else e
def ofI (q : RawQ) (n : Nat) : Nat := (q.at_ % 65536).toNat % n
def ofR (q : RawQ) (T : List Int) (r : List TA) : List TA :=
 if r.length = 0 then r else if q.how % 8 = 4 then r ++ [aT r (ofI q r.length)] else r.set (ofI q r.length) (turnA q T (aT r (ofI q r.length)))
def ofRL (q : RawQ) (L T : List Int) : List TA := ofR q T (madeL L)
/- Contract of `of` of the law package of rasters: the walk. -/
/- Contracts of `of` of the law package whole. -/
/- Contract of gouacheref08.Full. -/
def fullA (i : Nat) : TA := ⟨(i : Int) % 40, (i : Int) / 40, fillT ⟨(i : Int) % 256, 0, 0, 255⟩⟩
def fullL (n : Nat) : List TA := (List.range n).map fullA
end Go.Proofs.YtamgpfblhlfhaaaGreat
/- Plain laws of rasters: cropping, bounds. -/
namespace Go.Proofs.YtamgpfblhlfhaaaGreat
open Go.RowKit Pl
set_option linter.unusedVariables false
set_option linter.unusedSimpArgs false
/-- A tile cropped. -/
def cropT (c : Rc) (x y : Int) (t : Nat → Px) : Nat → Px := fun i => if i < 64 then (if hasR c (x * 8 + (i : Int) % 8) (y * 8 + (i : Int) / 8) = true then t i else Px.zero) else t i
def cropE (c : Rc) (e : TA) : List TA := newA e.x e.y (cropT c e.x e.y e.t)
theorem hasR_iff (r : Rc) (x y : Int) : hasR r x y = true ↔ (r.x0 ≤ x ∧ x < r.x1 ∧ r.y0 ≤ y ∧ y < r.y1) := by unfold hasR; exact decide_eq_true_iff
theorem emptyR_iff (r : Rc) : emptyR r = true ↔ (r.x1 ≤ r.x0 ∨ r.y1 ≤ r.y0) := by unfold emptyR; exact decide_eq_true_iff
theorem emptyR_not (r : Rc) : emptyR r = false ↔ (r.x0 < r.x1 ∧ r.y0 < r.y1) := by
 rw [← Bool.not_eq_true, emptyR_iff]; omega
theorem zeroB_iff (t : Nat → Px) : zeroB t = true ↔ ∀ i, i < 64 → (t i).a = 0 := by
 unfold zeroB
 rw [decide_eq_true_iff]
 exact ⟨fun h i hi => h i (List.mem_range.2 hi), fun h i hi => h i (List.mem_range.1 hi)⟩
theorem goodA_iff (e : TA) : goodA e = true ↔ withinB e.x e.y = true ∧ zeroB e.t = false ∧ eqT (cleanT e.t) e.t = true := by
 unfold goodA
 rw [Bool.and_eq_true, Bool.and_eq_true, Bool.not_eq_true']
theorem eqT_at {t u : Nat → Px} (h : eqT t u = true) {i : Nat} (hi : i < 64) : t i = u i := by
 unfold eqT at h
 exact of_decide_eq_true h i (List.mem_range.2 hi)
theorem eqA_refl (e : TA) : eqA e e = true := by
 unfold eqA eqB
 rw [eqT_refl, decide_eq_true ⟨rfl, rfl⟩]
 rfl
theorem eqL_refl (ls : List TA) : eqL ls ls = true := eqL_yes rfl fun j _ => eqA_refl _
/-! ### Bounds -/
/-- A pixel that is not transparent. -/
def Vis (ls : List TA) (x y : Int) : Prop := ∃ e, e ∈ ls ∧ ∃ i : Nat, i < 64 ∧ 0 < (e.t i).a ∧ x = e.x * 8 + (i : Int) % 8 ∧ y = e.y * 8 + (i : Int) / 8
/-- The least rectangle around V. -/
def Tight (V : Int → Int → Prop) (r : Rc) : Prop := (r = Rc.zero ∧ ∀ x y, ¬ V x y) ∨ (emptyR r = false ∧ (∀ x y, V x y → hasR r x y = true) ∧ (∃ y, V r.x0 y) ∧ (∃ x, V x r.y0) ∧ (∃ y, V (r.x1 - 1) y) ∧ ∃ x, V x (r.y1 - 1))
theorem Tight.iff {V V' : Int → Int → Prop} {r : Rc} (h : Tight V r) (k : ∀ x y, V x y ↔ V' x y) : Tight V' r := by
 have e : V = V' := funext fun x => funext fun y => propext (k x y)
 rw [← e]; exact h
theorem Tight.add {V : Int → Int → Prop} {r : Rc} (h : Tight V r) (x y : Int) : Tight (fun a b => V a b ∨ (a = x ∧ b = y)) (unionR r ⟨x, y, x + 1, y + 1⟩) := by
 have h1 : emptyR ⟨x, y, x + 1, y + 1⟩ = false := (emptyR_not _).2 ⟨by show x < x + 1; omega, by show y < y + 1; omega⟩
 rcases h with ⟨rfl, hn⟩ | ⟨he, hin, ⟨ya, ha⟩, ⟨xb, hb⟩, ⟨yc, hc⟩, ⟨xd, hd⟩⟩
 ·have e : unionR Rc.zero ⟨x, y, x + 1, y + 1⟩ = ⟨x, y, x + 1, y + 1⟩ := by
   unfold unionR normR
   rw [if_pos (by decide), h1]
   rfl
  rw [e]
  refine .inr ⟨h1, fun a b hv => ?_, ⟨y, .inr ⟨rfl, rfl⟩⟩, ⟨x, .inr ⟨rfl, rfl⟩⟩, ⟨y, .inr ⟨by show x + 1 - 1 = x; omega, rfl⟩⟩, ⟨x, .inr ⟨rfl, by show y + 1 - 1 = y; omega⟩⟩⟩
  rcases hv with hv | ⟨rfl, rfl⟩
  ·exact absurd hv (hn a b)
  ·rw [hasR_iff]; simp only; omega
 ·have e : unionR r ⟨x, y, x + 1, y + 1⟩ = ⟨min r.x0 x, min r.y0 y, max r.x1 (x + 1), max r.y1 (y + 1)⟩ := by
   unfold unionR
   rw [he, h1, if_neg (by decide), if_neg (by decide)]
  rw [e]
  have hen := (emptyR_not r).1 he
  refine .inr ⟨(emptyR_not _).2 ⟨by show min r.x0 x < max r.x1 (x + 1); omega, by show min r.y0 y < max r.y1 (y + 1); omega⟩, fun a b hv => ?_, ?_, ?_, ?_, ?_⟩
  ·rw [hasR_iff]
   simp only
   rcases hv with hv | ⟨rfl, rfl⟩
   ·have := (hasR_iff r a b).1 (hin a b hv)
    omega
   ·omega
  ·show ∃ b, V (min r.x0 x) b ∨ (min r.x0 x = x ∧ b = y)
   by_cases hh : r.x0 ≤ x
   ·exact ⟨ya, .inl (by rw [Int.min_eq_left hh]; exact ha)⟩
   ·exact ⟨y, .inr ⟨by omega, rfl⟩⟩
  ·show ∃ a, V a (min r.y0 y) ∨ (a = x ∧ min r.y0 y = y)
   by_cases hh : r.y0 ≤ y
   ·exact ⟨xb, .inl (by rw [Int.min_eq_left hh]; exact hb)⟩
   ·exact ⟨x, .inr ⟨rfl, by omega⟩⟩
  ·show ∃ b, V (max r.x1 (x + 1) - 1) b ∨ (max r.x1 (x + 1) - 1 = x ∧ b = y)
   by_cases hh : x + 1 ≤ r.x1
   ·exact ⟨yc, .inl (by rw [Int.max_eq_left hh]; exact hc)⟩
   ·exact ⟨y, .inr ⟨by omega, rfl⟩⟩
  ·show ∃ a, V a (max r.y1 (y + 1) - 1) ∨ (a = x ∧ max r.y1 (y + 1) - 1 = y)
   by_cases hh : y + 1 ≤ r.y1
   ·exact ⟨xd, .inl (by rw [Int.max_eq_left hh]; exact hd)⟩
   ·exact ⟨x, .inr ⟨rfl, by omega⟩⟩
theorem runT_bound (e : TA) {V : Int → Int → Prop} {s : Rc} (h : Tight V s) : ∀ k, Tight (fun a b => V a b ∨ ∃ i : Nat, i < k ∧ 0 < (e.t i).a ∧ a = e.x * 8 + (i : Int) % 8 ∧ b = e.y * 8 + (i : Int) / 8) (runT boundF e k s).1
 | 0 => h.iff fun a b => ⟨.inl, fun hv => by
   rcases hv with hv | ⟨i, hi, _⟩
   ·exact hv
   ·omega⟩
 | k + 1 => by
  have ih := runT_bound e h k
  show Tight _ (if 0 < (e.t k).a then unionR (runT boundF e k s).1 ⟨e.x * 8 + (k : Int) % 8, e.y * 8 + (k : Int) / 8, e.x * 8 + (k : Int) % 8 + 1, e.y * 8 + (k : Int) / 8 + 1⟩ else (runT boundF e k s).1)
  by_cases ha : 0 < (e.t k).a
  ·rw [if_pos ha]
   refine (ih.add _ _).iff fun a b => ⟨fun hv => ?_, fun hv => ?_⟩
   ·rcases hv with (hv | ⟨i, hi, hr⟩) | ⟨rfl, rfl⟩
    ·exact .inl hv
    ·exact .inr ⟨i, by omega, hr⟩
    ·exact .inr ⟨k, by omega, ha, rfl, rfl⟩
   ·rcases hv with hv | ⟨i, hi, hr⟩
    ·exact .inl (.inl hv)
    ·by_cases hik : i = k
     ·subst hik; exact .inr hr.2
     ·exact .inl (.inr ⟨i, by omega, hr⟩)
  ·rw [if_neg ha]
   refine ih.iff fun a b => ⟨fun hv => ?_, fun hv => ?_⟩
   ·rcases hv with hv | ⟨i, hi, hr⟩
    ·exact .inl hv
    ·exact .inr ⟨i, by omega, hr⟩
   ·rcases hv with hv | ⟨i, hi, hr⟩
    ·exact .inl hv
    ·by_cases hik : i = k
     ·subst hik; exact absurd hr.1 ha
     ·exact .inr ⟨i, by omega, hr⟩
theorem mapK_bound (ls : List TA) : ∀ k, k ≤ ls.length → Tight (Vis (ls.take k)) (mapK boundF ls Rc.zero k).1
 | 0, _ => .inl ⟨rfl, fun x y ⟨e, he, _⟩ => by simp at he⟩
 | k + 1, hk => by
  refine (runT_bound (aT ls k) (mapK_bound ls k (by omega)) 64).iff fun a b => ?_
  rw [List.take_add_one, aT_at (show k < ls.length from hk)]
  unfold Vis
  constructor
  ·rintro (⟨e, he, hr⟩ | ⟨i, hi, hr⟩)
   ·exact ⟨e, List.mem_append_left _ he, hr⟩
   ·exact ⟨aT ls k, List.mem_append_right _ (by simp), i, hi, hr⟩
  ·rintro ⟨e, he, i, hi, hr⟩
   rcases List.mem_append.1 he with he | he
   ·exact .inl ⟨e, he, i, hi, hr⟩
   ·obtain rfl : e = aT ls k := by simpa using he
    exact .inr ⟨i, hi, hr⟩
theorem boundL_tight (ls : List TA) : Tight (Vis ls) (boundL ls) := by
 have := mapK_bound ls ls.length (Nat.le_refl _)
 rw [List.take_length] at this
 exact this
theorem tileL_some (ls : List TA) (x y : Int) : tileL ls x y = zT ∨ ∃ e, e ∈ ls ∧ e.x = x ∧ e.y = y ∧ tileL ls x y = e.t := by
 induction ls with
 | nil => exact .inl rfl
 | cons e r ih =>
  unfold tileL
  by_cases h : eqB e.x e.y x y = true
  ·rw [if_pos h]
   have := of_decide_eq_true h
   exact .inr ⟨e, List.mem_cons_self .., this.1, this.2, rfl⟩
  ·rw [if_neg h]
   rcases ih with ih | ⟨k, hk, hr⟩
   ·exact .inl ih
   ·exact .inr ⟨k, List.mem_cons_of_mem _ hk, hr⟩
theorem getL_vis {ls : List TA} {x y : Int} (h : 0 < (getL ls x y).a) : Vis ls x y := by
 unfold getL at h
 rcases tileL_some ls (x / 8) (y / 8) with e | ⟨e, he, e1, e2, e3⟩
 ·rw [e] at h
  have h : (0 : Int) < 0 := h
  omega
 ·rw [e3] at h
  exact ⟨e, he, (8 * (y % 8) + x % 8).toNat, by omega, h, by omega, by omega⟩
theorem boundL_has {ls : List TA} {x y : Int} (h : Vis ls x y) : hasR (boundL ls) x y = true := by
 rcases boundL_tight ls with ⟨_, hn⟩ | ⟨_, hin, _⟩
 ·exact absurd h (hn x y)
 ·exact hin x y h
end Go.Proofs.YtamgpfblhlfhaaaGreat
/- Specifications of values that are rasters, for regions that draw their order; the full raster's validity. -/
namespace Go.Proofs.YtamgpfblhlfhaaaGreat
open Go.RowKit Go.Shelf Pl
set_option linter.unusedVariables false
set_option linter.unusedSimpArgs false
set_option maxRecDepth 20000
def rasS (L : List TA) : NSpec := ⟨Option Addr × Nat, ⟨(none, 0)⟩, fun x => .agg #[.slice x.1 L.length x.2], fun x w => RS (.slice x.1 L.length x.2) L w, fun _ _ _ hb h => h.below hb⟩
def tupS (L : List TA) (n : Int) : NSpec := ⟨Option Addr × Nat, ⟨(none, 0)⟩, fun x => .tuple #[.agg #[.slice x.1 L.length x.2], .int .i64 n], fun x w => RS (.slice x.1 L.length x.2) L w, fun _ _ _ hb h => h.below hb⟩
def gotS (L : List TA) (n : Int) : NSpec := ⟨Option Addr × Nat, ⟨(none, 0)⟩, fun x => .agg #[.slice x.1 L.length x.2, .int .i64 n], fun x w => RS (.slice x.1 L.length x.2) L w, fun _ _ _ hb h => h.below hb⟩
def ptrS (n : Nat) (t : TypeId) (cs : Array Value) : NSpec := ⟨Nat, ⟨0⟩, fun b => .pointer (some ⟨b, 0, none⟩), fun b w => n ≤ b ∧ AtB t w b cs, fun _ _ _ hb h => ⟨h.1, h.2.of_eq (hb.block _ h.2.lt)⟩⟩
theorem len_maxLen {n : Nat} (h : n ≤ 2000) : n ≤ maxLen := by unfold maxLen; omega
/-! ### The contracts at lists that are known to be valid; results told by another word -/
theorem P_ValidB (v : Value) (ls : List TA) (r : Bool) (w : World) (h : RS v ls w) (tk : TokL ls) (hn : ls.length ≤ maxLen) (e : validL ls = r) : Calls Tryz.prog 56 #[.agg #[v]] w fun e w' => e = .returned (.bool r) ∧ Below w.heap.size w w' := e ▸ P_Valid v ls w h tk hn
theorem P_BoundsV (v : Value) (ls : List TA) (w : World) (h : RS v ls w) (tk : TokL ls) (hn : ls.length ≤ maxLen) (hv : validL ls = true) : Calls Tryz.prog 59 #[.agg #[v]] w fun e w' => e = .returned (Rc.v (boundL ls)) ∧ Below w.heap.size w w' := by
 have := P_BoundsR v ls w h tk hn
 rw [fineL_of hv] at this
 exact this
/- Contract of gouacheref08.Near. -/
def nearR (c : Rc) : Rc := ⟨c.x0 % 64 - 30, c.y0 % 64 - 30, c.x0 % 64 - 30 + 1 + c.x1 % 32, c.y0 % 64 - 30 + 1 + c.y1 % 32⟩
@[go_sem] theorem run_field_a (p0 p1 p2 pa : Int) (w : World) : (Instr.field 25 (.agg #[.int .u8 p0, .int .u8 p1, .int .u8 p2, .int .u8 pa]) 3).run Tryz.prog w = .ok (.int .u8 pa) w := by kernel_rfl
/- Pairs of integers as blocks; one byte of a tile stored; contracts of Set and Put with a result told. -/
def i2 (a b : Int) (k : Nat) : Int := if k = 0 then a else b
theorem AtB.cellL {t : TypeId} {w : World} {b : Nat} {l : List Value} (h : AtB t w b l.toArray) (i : Nat) {v : Value} (hv : l[i]? = some v) : w.cell? ⟨b, i, none⟩ = some v := h.cell i (by simpa using hv)
theorem setR_valid (ls : List TA) (x y : Int) (p : Px) : validL (setR ls x y p) = true := putR_valid _ _ _ _
theorem run_load_err {w : World} {b j : Nat} {n : Int} (h : w.cell? ⟨b, j, none⟩ = some (.int .i64 n)) : (Instr.loadAt 35 (.pointer (some ⟨b, j, none⟩))).run Tryz.prog w = .ok (.int .i64 n) w := by simp [go_sem, h]
theorem RS.chgT {v : Value} {ls : List TA} {b : Nat} {f : Nat → Px} {w w' : World} (h : RS v ls w) (hb : TileAt w b f) (hc : Chg b w w') : RS v ls w' :=
 RS.chg (t := 70) (cs := tileC f) h hb (by rw [size_tileC]; omega) hc
end Go.Proofs.YtamgpfblhlfhaaaGreat
/- Plain laws: how many tiles there are behind put; the full raster. -/
namespace Go.Proofs.YtamgpfblhlfhaaaGreat
open Go.RowKit Pl
set_option linter.unusedVariables false
set_option linter.unusedSimpArgs false
theorem srt_at {ls : List TA} (h : Srt ls) {i j : Nat} (hij : i < j) (hj : j < ls.length) : beforeA (aT ls i) (aT ls j) = true := by
 have hi : i < ls.length := Nat.lt_trans hij hj
 have e : ∀ k (hk : k < ls.length), aT ls k = ls[k] := fun k hk => by
  have := aT_at hk
  rw [List.getElem?_eq_getElem hk] at this
  exact (Option.some.inj this).symm
 rw [e i hi, e j hj]
 exact List.pairwise_iff_getElem.1 h i j hi hj hij
/-- The tile of the law: its first pixel full. -/
def limT (Ls : List Int) : Nat → Px := upd (madeT Ls) 0 ⟨0, 0, 3, 255⟩
def F24 : List TA := fullL 1024
/- Plain: the pixels that Image makes are the raster's pixels, row by row. -/
/-- The pixel number j of a rectangle. -/
def widN (c : Rc) : Nat := (c.x1 - c.x0).toNat
def pxX (c : Rc) (j : Nat) : Int := c.x0 + ((j % widN c : Nat) : Int)
def pxY (c : Rc) (j : Nat) : Int := c.y0 + ((j / widN c : Nat) : Int)
def imgL (c : Rc) (ks : List TA) : List Px := (List.range (areaN c)).map fun j => getL ks (pxX c j) (pxY c j)
theorem area_wid {c : Rc} (hf : Fits c) : areaN c = widN c * (c.y1 - c.y0).toNat ∧ 0 < widN c := by
 have h1 := hf.h1
 have h2 := hf.h2
 obtain ⟨W, hW⟩ : ∃ W : Nat, c.x1 - c.x0 = (W : Int) := ⟨(c.x1 - c.x0).toNat, by omega⟩
 obtain ⟨H, hH⟩ : ∃ H : Nat, c.y1 - c.y0 = (H : Int) := ⟨(c.y1 - c.y0).toNat, by omega⟩
 unfold areaN widN
 rw [hW, hH, ← Int.natCast_mul, Int.toNat_natCast, Int.toNat_natCast, Int.toNat_natCast]
 exact ⟨rfl, by omega⟩
theorem px_in {c : Rc} (hf : Fits c) {j : Nat} (hj : j < areaN c) : hasR c (pxX c j) (pxY c j) = true := by
 obtain ⟨ea, hw⟩ := area_wid hf
 have hm := Nat.mod_lt j hw
 have hd : j / widN c < (c.y1 - c.y0).toNat := Nat.div_lt_of_lt_mul (by rw [← ea]; exact hj)
 rw [hasR_iff]
 unfold pxX pxY
 have hw' : widN c = (c.x1 - c.x0).toNat := rfl
 generalize j % widN c = u at hm ⊢
 generalize j / widN c = v at hd ⊢
 have := hf.h1
 have := hf.h2
 omega
/-- The place of a pixel in its tile. -/
def inT (x y : Int) : Nat := (8 * (y % 8) + x % 8).toNat
/- Plain: a raster after pixel updates, by its pixels; grids of 32 times 32 pixels. -/
/-- A pixel update, as the law sends it. -/
structure Dt where
 x : Int
 y : Int
 p : Px
/-- All positions lie near the origin. -/
def Small (r : List TA) : Prop := ∀ e ∈ r, -2 ≤ e.x ∧ e.x ≤ 1 ∧ -2 ≤ e.y ∧ e.y ≤ 1
theorem inc_len : ∀ (l : List Nat) (m n : Nat), l.Pairwise (· < ·) → (∀ x ∈ l, m ≤ x ∧ x < n) → l.length ≤ n - m
 | [], _, _, _, _ => Nat.zero_le _
 | a :: t, m, n, hp, hb => by
  have ha := hb a (List.mem_cons_self ..)
  have h1 := List.pairwise_cons.1 hp
  have := inc_len t (a + 1) n h1.2 fun x hx => ⟨h1.1 x hx, (hb x (List.mem_cons_of_mem _ hx)).2⟩
  rw [List.length_cons]
  omega
theorem small_len {r : List TA} (hs : Srt r) (h : Small r) : r.length ≤ 16 := by
 have hp : (r.map fun e => ((e.y + 2) * 4 + (e.x + 2)).toNat).Pairwise (· < ·) := by
  rw [List.pairwise_map]
  refine hs.imp_of_mem fun {a b} ha hb hab => ?_
  have := h a ha
  have := h b hb
  have hh := of_decide_eq_true hab
  omega
 have := inc_len _ 0 16 hp fun x hx => by
  obtain ⟨e, he, rfl⟩ := List.mem_map.1 hx
  have := h e he
  omega
 simpa using this
theorem cleanP_idem (p : Px) : cleanP (cleanP p) = cleanP p := by
 unfold cleanP
 split
 ·split <;> rfl
 ·rfl
/-- What stands in a valid raster is clean. -/
theorem tileL_clean {r : List TA} (h : validL r = true) (x y : Int) {i : Nat} (hi : i < 64) : cleanP (tileL r x y i) = tileL r x y i := by
 rcases tileL_some r x y with e | ⟨e, he, _, _, ht⟩
 ·rw [e]; rfl
 ·rw [ht]
  exact eqT_at ((goodA_iff e).1 (validL_good h e he)).2.2 hi
section
variable {r : List TA} {X Y : Int} {p : Px} (hv : validL r = true) (hs : Small r) (hX : -16 ≤ X ∧ X ≤ 15) (hY : -16 ≤ Y ∧ Y ≤ 15)
end
/-- The raster after the first k updates. -/
def dotX (d : Dt) : Int := d.x % 32 - 16
def dotY (d : Dt) : Int := d.y % 32 - 16
def dAt (l : List Dt) (k : Nat) : Dt := l.getD k ⟨0, 0, Px.zero⟩
def dotR (l : List Dt) : Nat → List TA
 | 0 => []
 | k + 1 => setR (dotR l k) (dotX (dAt l k)) (dotY (dAt l k)) (dAt l k).p
/-- The pixels wanted. -/
def dotW (l : List Dt) : Nat → Nat → Px
 | 0 => fun _ => Px.zero
 | k + 1 => upd (dotW l k) (((dAt l k).y % 32).toNat * 32 + ((dAt l k).x % 32).toNat) (cleanP (dAt l k).p)
/-! ### Grids -/
def gridC (f : Nat → Px) : Array Value := Array.ofFn (n := 4096) fun k => pxC (f (k.val / 4)) (k.val % 4)
end Go.Proofs.YtamgpfblhlfhaaaGreat
/- The pixel at a column and a row of a rectangle. -/
namespace Go.Proofs.YtamgpfblhlfhaaaGreat
open Go.RowKit Go.Shelf Pl
theorem px_xy {c : Rc} (hf : Fits c) {X Y : Nat} (hX : (X : Int) < c.x1 - c.x0) (hY : (Y : Int) < c.y1 - c.y0) : ∃ k : Nat, (k : Int) = (Y : Int) * (c.x1 - c.x0) + (X : Int) ∧ k < areaN c ∧ pxX c k = c.x0 + X ∧ pxY c k = c.y0 + Y := by
 obtain ⟨ea, hw⟩ := area_wid hf
 have hwi : c.x1 - c.x0 = (widN c : Int) := by unfold widN; have := hf.h1; omega
 have hX' : X < widN c := by omega
 refine ⟨Y * widN c + X, by rw [hwi]; simp, ?_, ?_, ?_⟩
 ·have h : (Y + 1) * widN c ≤ (c.y1 - c.y0).toNat * widN c := Nat.mul_le_mul_right _ (by omega)
  rw [Nat.add_mul, Nat.one_mul] at h
  rw [ea, Nat.mul_comm (widN c)]
  omega
 ·unfold pxX
  rw [Nat.add_comm, Nat.add_mul_mod_self_right, Nat.mod_eq_of_lt hX']
 ·unfold pxY
  rw [Nat.add_comm, Nat.add_mul_div_right _ _ hw, Nat.div_eq_of_lt hX', Nat.zero_add]
end Go.Proofs.YtamgpfblhlfhaaaGreat
/- Plain: the positions of a rectangle's tiles; what Paste computes. -/
namespace Go.Proofs.YtamgpfblhlfhaaaGreat
open Go.RowKit Pl
set_option linter.unusedVariables false
set_option linter.unusedSimpArgs false
/-- The rectangle of the tiles that a rectangle meets. -/
def tlR (c : Rc) : Rc := ⟨c.x0 / 8, c.y0 / 8, (c.x1 - 1) / 8 + 1, (c.y1 - 1) / 8 + 1⟩
theorem tl_fits {c : Rc} (h : Fits c) : Fits (tlR c) := by
 obtain ⟨a1, a2, a3, a4, a5, a6, a7, a8⟩ := h
 refine ⟨?_, ?_, ?_, ?_, ?_, ?_, ?_, ?_⟩ <;> (unfold tlR; simp only; omega)
def tlN (c : Rc) : Nat := areaN (tlR c)
theorem tlN_le {c : Rc} (h : Fits c) : tlN c ≤ 1089 := by
 have e := (area_wid (tl_fits h)).1
 obtain ⟨a1, a2, a3, a4, a5, a6, a7, a8⟩ := h
 unfold tlN
 rw [e]
 have h1 : widN (tlR c) ≤ 33 := by unfold widN tlR; simp only; omega
 have h2 : ((tlR c).y1 - (tlR c).y0).toNat ≤ 33 := by unfold tlR; simp only; omega
 exact Nat.mul_le_mul h1 h2
def posP (c : Rc) (k : Nat) : Int × Int := (pxX (tlR c) k, pxY (tlR c) k)
def posL (c : Rc) : List (Int × Int) := (List.range (tlN c)).map (posP c)
theorem posL_len (c : Rc) : (posL c).length = tlN c := by unfold posL; rw [List.length_map, List.length_range]
theorem posP_in {c : Rc} (hf : Fits c) {k : Nat} (hk : k < tlN c) : withinB (posP c k).1 (posP c k).2 = true := by
 have h := (hasR_iff _ _ _).1 (px_in (tl_fits hf) hk)
 have h3 := hf.h3
 have h4 := hf.h4
 have h5 := hf.h5
 have h6 := hf.h6
 unfold posP
 refine decide_eq_true ?_
 unfold tlR at h
 simp only at h ⊢
 unfold tlR
 omega
theorem posL_in {c : Rc} (hf : Fits c) : ∀ p ∈ posL c, withinB p.1 p.2 = true := fun p hp => by
 obtain ⟨k, hk, rfl⟩ := List.mem_map.1 hp
 exact posP_in hf (List.mem_range.1 hk)
theorem posP_inj {c : Rc} (hf : Fits c) {j k : Nat} (h : posP c j = posP c k) : j = k := by
 have hw := (area_wid (tl_fits hf)).2
 unfold posP pxX pxY at h
 injection h with h1 h2
 have e1 : j % widN (tlR c) = k % widN (tlR c) := by omega
 have e2 : j / widN (tlR c) = k / widN (tlR c) := by omega
 rw [← Nat.div_add_mod j (widN (tlR c)), ← Nat.div_add_mod k (widN (tlR c)), e1, e2]
theorem posL_nodup {c : Rc} (hf : Fits c) : (posL c).Nodup := by
 unfold posL
 exact List.Pairwise.map _ (fun a b hab e => hab (posP_inj hf e)) List.nodup_range
/-! ### Pasting -/
def pixL (c : Rc) (L : List Px) (X Y : Int) : Px := L.getD (idxI c X Y).toNat Px.zero
def pstP (c : Rc) (L : List Px) (X Y : Int) (p : Px) : Px := if hasR c X Y = true then cleanP (pixL c L X Y) else p
def pstT (c : Rc) (L : List Px) (x y : Int) (t : Nat → Px) : Nat → Px := fun i => if i < 64 then pstP c L (x * 8 + (i : Int) % 8) (y * 8 + (i : Int) / 8) (t i) else t i
def pstF (c : Rc) (L : List Px) (_ : Unit) (X Y : Int) (p : Px) : Unit × Px := ((), pstP c L X Y p)
theorem runT_pst (c : Rc) (L : List Px) (e : TA) : ∀ k, ∀ i, (runT (pstF c L) e k ()).2 i = if i < k then pstP c L (e.x * 8 + (i : Int) % 8) (e.y * 8 + (i : Int) / 8) (e.t i) else e.t i
 | 0, i => by rw [if_neg (by omega)]; rfl
 | k + 1, i => by
  show upd (runT (pstF c L) e k ()).2 k (pstP c L (e.x * 8 + (k : Int) % 8) (e.y * 8 + (k : Int) / 8) (e.t k)) i = _
  unfold upd
  by_cases h : i = k
  ·subst h
   rw [if_pos rfl, if_pos (Nat.lt_succ_self _)]
  ·rw [if_neg h, runT_pst c L e k i]
   by_cases h2 : i < k
   ·rw [if_pos h2, if_pos (Nat.lt_succ_of_lt h2)]
   ·rw [if_neg h2, if_neg (show ¬ i < k + 1 from by omega)]
theorem runT_pst64 (c : Rc) (L : List Px) (e : TA) : (runT (pstF c L) e 64 ()).2 = pstT c L e.x e.y e.t := funext fun i => runT_pst c L e 64 i
theorem mapK_pst (c : Rc) (L : List Px) (e : TA) : (mapK (pstF c L) [e] () 1).2 = newA e.x e.y (pstT c L e.x e.y e.t) := by
 show [] ++ newA (aT [e] 0).x (aT [e] 0).y (runT (pstF c L) (aT [e] 0) 64 ()).2 = _
 have h : aT [e] 0 = e := rfl
 rw [h, runT_pst64, List.nil_append]
def OkL (L : List Px) : Prop := ∀ p ∈ L, p.ok
theorem pixL_ok {c : Rc} {L : List Px} (h : OkL L) (X Y : Int) : (pixL c L X Y).ok := by
 unfold pixL
 rw [List.getD_eq_getElem?_getD]
 cases hk : L[(idxI c X Y).toNat]? with
 | none => exact Px.zero_ok
 | some p => exact h p (List.mem_of_getElem? hk)
theorem pstP_ok {c : Rc} {L : List Px} (h : OkL L) (X Y : Int) (p : Px) (hp : p.ok) : (pstP c L X Y p).ok := by
 unfold pstP
 split
 ·exact cleanP_ok (pixL_ok h X Y)
 ·exact hp
theorem pstT_tok {c : Rc} {L : List Px} (h : OkL L) (x y : Int) {t : Nat → Px} (ht : Tok t) : Tok (pstT c L x y t) := fun i hi => by
 unfold pstT
 rw [if_pos hi]
 exact pstP_ok h _ _ _ (ht i hi)
def CleanL (ls : List TA) : Prop := ∀ e ∈ ls, eqT (cleanT e.t) e.t = true
theorem tileL_cleanL {ls : List TA} (h : CleanL ls) (x y : Int) {i : Nat} (hi : i < 64) : cleanP (tileL ls x y i) = tileL ls x y i := by
 rcases tileL_some ls x y with e | ⟨e, he, _, _, ht⟩
 ·rw [e]; rfl
 ·rw [ht]
  exact eqT_at (h e he) hi
theorem valid_clean {ls : List TA} (h : validL ls = true) : CleanL ls := fun e he => ((goodA_iff e).1 (validL_good h e he)).2.2
theorem pstT_clean (c : Rc) (L : List Px) (x y : Int) {t : Nat → Px} (h : ∀ i, i < 64 → cleanP (t i) = t i) : ∀ i, i < 64 → cleanP (pstT c L x y t i) = pstT c L x y t i := fun i hi => by
 unfold pstT
 rw [if_pos hi]
 unfold pstP
 split
 ·exact cleanP_idem _
 ·exact h i hi
def pst1 (c : Rc) (L : List Px) (ls : List TA) (p : Int × Int) : List TA := putL ls p.1 p.2 (pstT c L p.1 p.2 (tileL ls p.1 p.2))
def pstL (c : Rc) (L : List Px) (ls : List TA) (ps : List (Int × Int)) : List TA := ps.foldl (pst1 c L) ls
theorem pstL_snoc (c : Rc) (L : List Px) (ls : List TA) (ps : List (Int × Int)) (p : Int × Int) : pstL c L ls (ps ++ [p]) = pst1 c L (pstL c L ls ps) p := by unfold pstL; rw [List.foldl_append]; rfl
theorem pstL_cons (c : Rc) (L : List Px) (ls : List TA) (p : Int × Int) (ps : List (Int × Int)) : pstL c L ls (p :: ps) = pstL c L (pst1 c L ls p) ps := rfl
theorem pstL_len (c : Rc) (L : List Px) (ps : List (Int × Int)) : ∀ ls, (pstL c L ls ps).length ≤ ls.length + ps.length := by
 induction ps with
 | nil => intro ls; exact Nat.le_refl _
 | cons p r ih =>
  intro ls
  rw [pstL_cons]
  have h1 := ih (pst1 c L ls p)
  have h2 := putL_length ls p.1 p.2 (pstT c L p.1 p.2 (tileL ls p.1 p.2))
  rw [List.length_cons]
  unfold pst1 at h1 ⊢
  omega
theorem pstL_srt (c : Rc) (L : List Px) (ps : List (Int × Int)) : ∀ ls, Srt ls → Srt (pstL c L ls ps) := by
 induction ps with
 | nil => intro ls h; exact h
 | cons p r ih => intro ls h; exact ih _ (putL_srt h)
theorem pstL_tok {c : Rc} {L : List Px} (hL : OkL L) (ps : List (Int × Int)) : ∀ ls, TokL ls → TokL (pstL c L ls ps) := by
 induction ps with
 | nil => intro ls h; exact h
 | cons p r ih => intro ls h; exact ih _ (putL_tok h (pstT_tok hL _ _ (tileL_tok h _ _)))
theorem pstL_good (c : Rc) (L : List Px) (ps : List (Int × Int)) : ∀ ls, (∀ e ∈ ls, goodA e = true) → (∀ p ∈ ps, withinB p.1 p.2 = true) → ∀ e ∈ pstL c L ls ps, goodA e = true := by
 induction ps with
 | nil => intro ls h _; exact h
 | cons p r ih =>
  intro ls h hp
  refine ih _ (putL_good h (hp p (List.mem_cons_self ..)) ?_) (fun q hq => hp q (List.mem_cons_of_mem _ hq))
  exact eqT_true fun i hi => pstT_clean c L _ _ (fun j hj => tileL_cleanL (fun e he => ((goodA_iff e).1 (h e he)).2.2) _ _ hj) i hi
/-- The tile at a position behind a paste. -/
theorem tileL_pst_out (c : Rc) (L : List Px) {X Y : Int} (ps : List (Int × Int)) : ∀ ls, (X, Y) ∉ ps → tileL (pstL c L ls ps) X Y = tileL ls X Y := by
 induction ps with
 | nil => intro ls _; rfl
 | cons p r ih =>
  intro ls h
  rw [pstL_cons, ih _ (fun e => h (List.mem_cons_of_mem _ e))]
  refine tileL_put_other _ _ _ _ (decide_eq_false fun e => h ?_)
  have : p = (X, Y) := Prod.ext e.1 e.2
  rw [this]
  exact List.mem_cons_self ..
theorem tileL_pst_in (c : Rc) (L : List Px) {X Y : Int} (ps : List (Int × Int)) : ∀ ls, Srt ls → ps.Nodup → (X, Y) ∈ ps → tileL (pstL c L ls ps) X Y = if zeroB (pstT c L X Y (tileL ls X Y)) = true then zT else pstT c L X Y (tileL ls X Y) := by
 induction ps with
 | nil => intro ls _ _ h; cases h
 | cons p r ih =>
  intro ls hs hn h
  obtain ⟨h1, h2⟩ := List.pairwise_cons.1 hn
  rw [pstL_cons]
  by_cases hp : p = (X, Y)
  ·subst hp
   rw [tileL_pst_out c L r _ (fun e => h1 _ e rfl)]
   exact tileL_put_same hs _ _ _
  ·rcases List.mem_cons.1 h with e | e
   ·exact absurd e.symm hp
   ·rw [ih (pst1 c L ls p) (putL_srt hs) h2 e]
    have : tileL (pst1 c L ls p) X Y = tileL ls X Y := tileL_put_other _ _ _ _ (decide_eq_false fun e => hp (Prod.ext e.1 e.2))
    rw [this]
theorem posL_mem {c : Rc} (hf : Fits c) {X Y : Int} : (X, Y) ∈ posL c ↔ hasR (tlR c) X Y = true := by
 constructor
 ·intro h
  obtain ⟨k, hk, e⟩ := List.mem_map.1 h
  have := px_in (tl_fits hf) (List.mem_range.1 hk)
  unfold posP at e
  injection e with e1 e2
  rw [← e1, ← e2]
  exact this
 ·intro h
  have hr := (hasR_iff _ _ _).1 h
  obtain ⟨k, _, hk, e1, e2⟩ := px_xy (tl_fits hf) (X := (X - (tlR c).x0).toNat) (Y := (Y - (tlR c).y0).toNat) (by omega) (by omega)
  refine List.mem_map.2 ⟨k, List.mem_range.2 hk, ?_⟩
  unfold posP
  rw [e1, e2]
  exact Prod.ext (by simp only; omega) (by simp only; omega)
/-- A pixel behind a paste. -/
theorem getL_pst {c : Rc} (hf : Fits c) (L : List Px) {ls : List TA} (hs : Srt ls) (hc : CleanL ls) (x y : Int) : getL (pstL c L ls (posL c)) x y = if hasR c x y = true then cleanP (pixL c L x y) else getL ls x y := by
 have hi : (8 * (y % 8) + x % 8).toNat < 64 := by omega
 have ex : x / 8 * 8 + (((8 * (y % 8) + x % 8).toNat : Nat) : Int) % 8 = x := by omega
 have ey : y / 8 * 8 + (((8 * (y % 8) + x % 8).toNat : Nat) : Int) / 8 = y := by omega
 have hp : pstT c L (x / 8) (y / 8) (tileL ls (x / 8) (y / 8)) (8 * (y % 8) + x % 8).toNat = if hasR c x y = true then cleanP (pixL c L x y) else getL ls x y := by
  unfold pstT
  rw [if_pos hi, ex, ey]
  rfl
 unfold getL at hp ⊢
 by_cases hm : (x / 8, y / 8) ∈ posL c
 ·rw [tileL_pst_in c L _ _ hs (posL_nodup hf) hm]
  by_cases hz : zeroB (pstT c L (x / 8) (y / 8) (tileL ls (x / 8) (y / 8))) = true
  ·rw [if_pos hz, ← hp]
   have h0 := (zeroB_iff _).1 hz _ hi
   have h1 := pstT_clean c L (x / 8) (y / 8) (t := tileL ls (x / 8) (y / 8)) (fun j hj => tileL_cleanL hc _ _ hj) _ hi
   rw [← h1]
   unfold cleanP
   rw [if_pos h0]
   rfl
  ·rw [if_neg hz, hp]
 ·rw [tileL_pst_out c L _ _ hm]
  rw [if_neg]
  intro hh
  apply hm
  rw [posL_mem hf, hasR_iff]
  have := (hasR_iff _ _ _).1 hh
  unfold tlR
  simp only
  omega
def pstE (c : Rc) (L : List Px) (ls : List TA) : Int := if validR c = true ∧ (L.length : Int) = areaR c then (if fitsE c = 0 then manyE (pstL c L (fineL ls) (posL c)) else fitsE c) else 1
def pstR (c : Rc) (L : List Px) (ls : List TA) : List TA := if validR c = true ∧ (L.length : Int) = areaR c then (if fitsE c = 0 then manyL (pstL c L (fineL ls) (posL c)) else []) else []
theorem pstR_valid (c : Rc) (L : List Px) (ls : List TA) : validL (pstR c L ls) = true := by
 unfold pstR
 split
 ·split
  ·rename_i hE
   unfold manyL
   split
   ·rename_i h
    exact validL_mk h (pstL_good c L _ _ (validL_good (fineL_valid ls)) (posL_in (fitsE_zero hE))) (pstL_srt c L _ _ (validL_srt (fineL_valid ls)))
   ·exact validL_nil
  ·exact validL_nil
 ·exact validL_nil
theorem pstR_tok {c : Rc} {L : List Px} {ls : List TA} (hL : OkL L) (h : TokL ls) : TokL (pstR c L ls) := by
 unfold pstR
 split
 ·split
  ·unfold manyL
   split
   ·exact pstL_tok hL _ _ (fineL_tok h)
   ·exact TokL.nil
  ·exact TokL.nil
 ·exact TokL.nil
/-- The cut of a sorted list: what stands there. -/
theorem hit_at {ls : List TA} (hs : Srt ls) {x y : Int} (h : hitL ls x y = true) : cutL ls x y < ls.length ∧ aT ls (cutL ls x y) = ⟨x, y, tileL ls x y⟩ := by
 unfold hitL at h
 obtain ⟨h1, h2⟩ := Bool.and_eq_true_iff.1 h
 have h1 := of_decide_eq_true h1
 have h2 := of_decide_eq_true h2
 refine ⟨h1, ?_⟩
 have hm : aT ls (cutL ls x y) ∈ ls := List.mem_of_getElem? (aT_at h1)
 have ht := tileL_mem hs hm
 rw [h2.1, h2.2] at ht
 rw [ht]
 obtain ⟨e1, e2⟩ := h2
 generalize aT ls (cutL ls x y) = e at *
 obtain ⟨ex, ey, et⟩ := e
 simp only at e1 e2
 subst e1 e2
 rfl
theorem hit_not {ls : List TA} (hs : Srt ls) {x y : Int} (h : hitL ls x y = false) : tileL ls x y = zT := by
 refine tileL_none fun e he => ?_
 obtain ⟨j, hj⟩ := List.mem_iff_getElem?.1 he
 have hjl : j < ls.length := (List.getElem?_eq_some_iff.1 hj).1
 rw [aT_at hjl] at hj
 obtain rfl := Option.some.inj hj
 by_cases hc : j < cutL ls x y
 ·have := of_decide_eq_true (cutL_lt hc)
  exact decide_eq_false (by omega)
 ·unfold hitL at h
  have hcl : cutL ls x y < ls.length := by omega
  rw [decide_eq_true hcl, Bool.true_and] at h
  by_cases e : j = cutL ls x y
  ·rw [e]; exact h
  ·have h1 := of_decide_eq_true (srt_at hs (show cutL ls x y < j by omega) hjl)
   have h2 := of_decide_eq_false (cutL_at hcl)
   exact decide_eq_false (by omega)
theorem RS.congr {v : Value} {ls ks : List TA} {w : World} (h : RS v ls w) (hl : ls.length = ks.length) (hr : rowC ls = rowC ks) : RS v ks w := by
 rcases h with ⟨h1, rfl⟩ | ⟨g, o, c, e, hc, sc⟩
 ·exact .inl ⟨h1, List.eq_nil_of_length_eq_zero hl.symm⟩
 ·refine .inr ⟨g, o, c, by rw [← hl]; exact e, by omega, fun hn => ⟨(sc (by omega)).1, fun i hi j hj => ?_⟩⟩
  rw [(sc (by omega)).2 i (by omega) j hj, ← rowC_at ls i j (by omega) hj, hr, rowC_at ks i j hi hj]
theorem putL_zero (ls : List TA) (x y : Int) {t u : Nat → Px} (ht : zeroB t = true) (hu : zeroB u = true) : putL ls x y t = putL ls x y u := by
 rw [putL_cut, putL_cut]
 unfold newA
 rw [if_pos ht, if_pos hu]
end Go.Proofs.YtamgpfblhlfhaaaGreat
/- Contract of the reference's Same at equal images. -/
namespace Go.Proofs.YtamgpfblhlfhaaaGreat
open Go.RowKit Go.Shelf Pl
set_option linter.unusedVariables false
set_option linter.unusedSimpArgs false
set_option maxRecDepth 20000
/- Contract of the reference's Image. -/
def shC (c : Rc) (u : Value) (n : Int) : Array Value := #[.int .i64 c.x0, .int .i64 c.y0, .int .i64 c.x1, .int .i64 c.y1, u, .int .i64 n]
/-- The slice of an image stored. -/
theorem wpList_storeU {ops : Array Oper} {rest : List Oper} {o : Oper} {a : Act} {w : World} {Q : Exit → Act → World → Prop} (hg : o.guard = none) (x y : Operand) (ho : o.op = .store 99 x y) (b : Nat) (hx : a.eval x = .pointer (some ⟨b, 4, none⟩)) (ad : Option Addr) (n cp : Nat) (hy : a.eval y = .slice ad n cp) {c : Rc} {u : Value} (ht : AtB 101 w b (imgC c u))
  (h : ∀ w', AtB 101 w' b (imgC c (.slice ad n cp)) → Chg b w w' → w'.heap.size = w.heap.size → wpList Tryz.prog ops Q rest (a.put o.dst undef) w') : wpList Tryz.prog ops Q (o :: rest) a w := by
 have e : AtB 101 (w.setCell ⟨b, 4, none⟩ (.slice ad n cp)) b (imgC c (.slice ad n cp)) := by
  have e1 : (imgC c u).setIfInBounds 4 (.slice ad n cp) = imgC c (.slice ad n cp) := rfl
  unfold AtB
  rw [← e1]
  exact heap_setCell_same _ _ _ _ _ _ ht
 refine wpList_storeAny hg x y ho _ ?_ (h _ e ((Chg.refl b w).setCell _) (by simp only [World.size_setCell]))
 rw [hx, hy]
 have c0 := imgC_u ht
 have f0 := ht.frozen 4
 simp [go_sem, c0, f0]
section
variable {o : Oper} {a : Act} {C : World → Prop} {K : Act → Prop}
theorem run_build_Im (w : World) (c : Rc) : (Instr.build 101 #[(0, .agg (rcA c))]).run Tryz.prog w = .ok (.agg (imgC c (.slice none 0 0))) w := by kernel_rfl
theorem quiet_buildIm {x : Operand} (h : o.op = .build 101 #[(0, x)]) (c : Rc) (hx : a.eval x = .agg (rcA c)) (hk : K (a.put o.dst (.agg (imgC c (.slice none 0 0))))) : o.quiet Tryz.prog a C K :=
 ⟨_, fun w hw => by
  unfold Oper.quietAt execOp
  simp only [h, List.map_toArray, List.map_cons, List.map_nil, hx, Sem.run_bind, run_build_Im, Result.andThen_ok, Sem.run_pure]
  exact ⟨rfl, rfl⟩, hk⟩
end
theorem px_row {c : Rc} (hf : Fits c) {k j : Nat} (hj : j < widN c) : pxX c (widN c * k + j) = c.x0 + (j : Int) ∧ pxY c (widN c * k + j) = c.y0 + (k : Int) := by
 have hw := (area_wid hf).2
 unfold pxX pxY
 rw [Nat.mul_add_mod, Nat.mod_eq_of_lt hj, Nat.mul_add_div hw, Nat.div_eq_of_lt hj, Nat.add_zero]
 exact ⟨rfl, rfl⟩
theorem OwnE.chgB {α : Type} {k : Nat} {T S : TypeId} {E : Elt α k T S} {B b : Nat} {v : Value} {ls : List α} {w w' : World} (h : OwnE E B v ls w) (hc : Chg b w w') (hne : ∀ k, v.ownBlock = some k → k ≠ b) : OwnE E B v ls w' := by
 refine World.ownsRow.kept (row := some b) h ⟨hc.os, hc.tape, hc.output, hc.size, fun k hk hn => hc.block k hk (fun e => hn (by rw [e]))⟩ ?_
 cases hv : v.ownBlock with
 | none => exact .inl rfl
 | some k =>
  right
  intro e
  injection e with e
  exact hne k hv e
/- The positions of a rectangle's tiles: the reference's Tiles. -/
def psE : Elt (Int × Int) 2 68 106 where
 enc := fun p => #[.int .i64 p.1, .int .i64 p.2]
 bytes := 16
 zero := (0, 0)
 size := fun _ => rfl
 one := fun x u hu => by
  have : u ∈ [Value.int .i64 x.1, .int .i64 x.2] := hu
  simp at this
  rcases this with rfl | rfl <;> rfl
 pos := by omega
 small := by omega
 und := Tryz.underlying106
 info := by kernel_rfl
 zer := by kernel_rfl
theorem tl_row {c : Rc} (hf : Fits c) {k j : Nat} (hj : j < widN (tlR c)) : posP c (widN (tlR c) * k + j) = (c.x0 / 8 + (j : Int), c.y0 / 8 + (k : Int)) := by
 obtain ⟨h1, h2⟩ := px_row (tl_fits hf) (k := k) hj
 unfold posP
 rw [h1, h2]
 rfl
end Go.Proofs.YtamgpfblhlfhaaaGreat
/- Regions within a round of a range over a function: walked as anywhere. What a loop's body keeps. -/
namespace Go.Proofs.YtamgpfblhlfhaaaGreat
open Go.RowKit
set_option linter.unusedVariables false
set_option linter.unusedSimpArgs false
/-- The walk goes on, and in no other way. -/
def Only (K : Act → World → Prop) : Exit → Act → World → Prop
 | .normal, a, w => K a w
 | _, _, _ => False
theorem Only.out (K : Act → World → Prop) : ¬ LetsOut (Only K) := fun ⟨_, _, h⟩ => h
theorem Only.at {K : Act → World → Prop} {a : Act} {w : World} (h : K a w) : Only K .normal a w := h
def noDefer (l : List Oper) : Bool := l.all fun o => match o.op with
 | .defer _ => false
 | _ => true
theorem noDefer_at {l : List Oper} (h : noDefer l = true) {o : Oper} (ho : o ∈ l) : ∀ c, o.op ≠ .defer c := fun c e => by
 have := List.all_eq_true.1 h o ho
 rw [e] at this
 cases this
section
variable {P : Program} {r n : Nat}
theorem opIn_of {o : Oper} {a : Act} {w : World} {K K' : Act → World → Prop} {M : Act → World → Prop} {Q : Exit → Act → World → Prop} (hd : ∀ c, o.op ≠ .defer c) (hK : ∀ a w, K' a w → K a w) (h : o.wp P a w K' (Only M)) : o.wpIn (Fence.wide.inRound r) n P a w K Q := by
 refine ⟨fun _ _ => trivial, ?_⟩
 rw [Oper.semAt_eq _ _ _ hd]
 unfold Oper.wp at h
 generalize (execOp a.eval o).run P w = z at *
 cases z with
 | ok x w' =>
  cases x with
  | value v => exact hK _ _ h
  | skip => exact hK _ _ h
  | defer d => exact hK _ _ h
  | enter f args =>
   refine ⟨fun h => (by cases h), CallsIn.inRound r (callsIn_wide.2 (Calls.mono h fun e w'' he => ?_))⟩
   cases e with
   | returned v => exact hK _ _ he
   | panicked c => exact he.elim
   | outgrown => exact absurd he (Only.out M)
  | row s args =>
   refine ⟨fun h => (by cases h), fun c cs _ => ?_⟩
   obtain ⟨v, w'', h1, h2⟩ := h c cs
   exact ⟨v, w'', hK _ _ h1, stepsIn_wide.2 h2⟩
  | _ => exact absurd h (by simp [Oper.upon])
 | halt x w' =>
  cases x with
  | panic v => exact absurd h (by simp [Oper.upon, Only])
  | _ => exact absurd h (by simp [Oper.upon])
theorem wpListIn_of {ops : Array Oper} {K : Act → World → Prop} {Q : Exit → Act → World → Prop} (hK : ∀ a w, K a w → Q .normal a w) : ∀ (l : List Oper) (a : Act) (w : World), (∀ o ∈ l, ∀ c, o.op ≠ .defer c) → wpList P ops (Only K) l a w → wpListIn (Fence.wide.inRound r) n P ops Q l a w
 | [], a, w, _, h => hK _ _ h
 | o :: rest, a, w, hd, h => by
  unfold wpList at h
  unfold wpListIn
  have ih := wpListIn_of (ops := ops) hK rest
  by_cases hw : Region.wanted o (yielded ops a.tmps) = true
  ·rw [if_pos hw] at h ⊢
   rcases h with h | h
   ·exact opIn_of (hd o (List.mem_cons_self ..)) (fun a w hh => ih a w (fun o ho => hd o (List.mem_cons_of_mem _ ho)) hh) h
   ·exact absurd h.2 (Only.out K)
  ·rw [if_neg hw] at h ⊢
   exact ⟨fun _ _ => trivial, ih _ _ (fun o ho => hd o (List.mem_cons_of_mem _ ho)) h⟩
/-- A region within a round. -/
theorem round_lit {id : Nat} {l : List Oper} {Q : Exit → Act → World → Prop} {a : Act} {w : World} (hd : noDefer l = true) (h : wpList P l.toArray (Only fun a w => Q .normal a w) l a w) : (Code.region id l.toArray false).wpIn (Fence.wide.inRound r) n P Q a w :=
 wpIn_region_lit (wpListIn_of (fun _ _ h => h) l a w (fun o ho => noDefer_at hd ho) h)
end
/-! ### What a body keeps that turns one block b of cells -/
structure KpB (b : Nat) (W W' : World) : Prop where
 size : W.heap.size ≤ W'.heap.size
 same : ∀ (k : Nat) (o : Obj), k ≠ b → W.heap[k]? = some o → o.isCells = true → W'.heap[k]? = some o
theorem KpB.trans {b : Nat} {X Y Z : World} (h : KpB b X Y) (k : KpB b Y Z) : KpB b X Z := ⟨Nat.le_trans h.size k.size, fun i o hi ho hc => k.same i o hi (h.same i o hi ho hc) hc⟩
theorem KpB.refl (b : Nat) (W : World) : KpB b W W := ⟨Nat.le_refl _, fun _ _ _ h _ => h⟩
theorem KpB.putObj (b : Nat) {W : World} {l : Nat} {o : Obj} (o' : Obj) (hl : W.heap[l]? = some o) (ho : o.isCells = false) : KpB b W (W.putObj l o') :=
 ⟨by simp [World.putObj], fun k x hk hx hc => by
  have : k ≠ l := fun e => by rw [e, hl] at hx; cases hx; rw [ho] at hc; cases hc
  exact (World.putObj_heap_other (by omega)).trans hx⟩
theorem KpB.chg {b : Nat} {W W' : World} (h : Chg b W W') : KpB b W W' :=
 ⟨h.size, fun k o hk ho _ => (h.block k (Array.getElem?_eq_some_iff.1 ho).1 hk).trans ho⟩
theorem KpB.atB {b k : Nat} {t : TypeId} {cs : Array Value} {W W' : World} (h : KpB b W W') (hk : k ≠ b) (ha : AtB t W k cs) : AtB t W' k cs := h.same k _ hk ha rfl
theorem KeepsFrom.chg {B b : Nat} {W W' : World} (h : Chg b W W') (hb : b < B) : KeepsFrom B W W' :=
 ⟨h.size, fun k o hB hk _ => (h.block k (Array.getElem?_eq_some_iff.1 hk).1 (by omega)).trans hk⟩
theorem grown_of_below {W W' : World} (h : Below W.heap.size W W') : W.grownBy W' none :=
 ⟨h.os, h.tape, h.output, h.size, fun k hk _ => h.block k hk⟩
theorem AbidesFrom.below {β : Type} {B : Nat} {J : β → World → Prop} (h : AbidesFrom B J) {s : β} {W W' : World} (hs : J s W) (hb : Below W.heap.size W W') : J s W' :=
 h s W W' none hs (grown_of_below hb) (fun r e => by cases e)
/-! ### Facts of cells abide the turn of what is no cells -/
theorem AtB.own {t : TypeId} {A B : World} {b : Nat} {cs : Array Value} {row : Option Nat} (h : AtB t A b cs) (hg : A.grownBy B row) (hr : ∀ r, row = some r → ∃ o : Obj, A.heap[r]? = some o ∧ o.isCells = false) : AtB t B b cs :=
 (hg.block b h.lt (fun e => by
  obtain ⟨o, ho, hc⟩ := hr b e.symm
  rw [show A.heap[b]? = _ from h] at ho
  cases ho
  cases hc)).trans h
theorem cell_not {w : World} {g o : Nat} {v : Value} (h : w.cell? ⟨g, o, none⟩ = some v) : ∀ x : Obj, w.heap[g]? = some x → x.isCells = true := fun x hx => by
 unfold World.cell? at h
 simp only [hx] at h
 cases x <;> first | rfl | (simp at h)
theorem below_own {n : Nat} {w A B : World} {row : Option Nat} (h : Below n w A) (hn : n ≤ A.heap.size) (hg : A.grownBy B row) (hr : ∀ r, row = some r → n ≤ r) : Below n w B :=
 ⟨hg.os.trans h.os, hg.tape.trans h.tape, hg.output.trans h.output, Nat.le_trans h.size hg.size, fun k hk => (hg.block k (by omega) (fun e => by have := hr k e.symm; omega)).trans (h.block k hk)⟩
end Go.Proofs.YtamgpfblhlfhaaaGreat
/- Paste of package raster: what it does to one pixel; the iterator over the tiles of a rectangle. -/
namespace Go.Proofs.YtamgpfblhlfhaaaGreat
open Go.RowKit Go.Shelf Pl
set_option linter.unusedVariables false
set_option linter.unusedSimpArgs false
set_option maxRecDepth 20000
theorem P_EmptyB (r : Rc) (b : Bool) (w : World) (e : emptyR r = b) : Calls Tryz.prog 67 #[.agg (rcA r)] w fun e w' => e = .returned (.bool b) ∧ Below w.heap.size w w' := by
 subst e
 exact P_Empty r w
theorem P_HasO (r : Rc) (x y : Int) (b : Bool) (w : World) (e : hasR r x y = b) : Calls Tryz.prog 51 #[.agg (rcA r), .agg #[.int .i64 x, .int .i64 y]] w fun e w' => e = .returned (.bool b) ∧ Below w.heap.size w w' := by
 subst e
 exact P_Has r x y w
theorem P_AtO (x y : Int) (w : World) (hx : (Lit.int .i64 x).wf = true) (hy : (Lit.int .i64 y).wf = true) : Calls Tryz.prog 52 #[.agg #[.int .i64 x, .int .i64 y]] w fun e w' => e = .returned (.agg #[.int .i64 (x / 8), .int .i64 (y / 8)]) ∧ Below w.heap.size w w' := P_At x y w hx hy
theorem P_CleanB (p : Px) (w : World) (hp : p.ok) : Calls Tryz.prog 69 #[Px.v p] w fun e w' => e = .returned (Px.v (cleanP p)) ∧ Below w.heap.size w w' := P_Clean p w hp
set_option maxHeartbeats 2000000 in
theorem P_Paste1 (c : Rc) (hf : Fits c) (L : List Px) (hL : L.length = areaN c) (okL : OkL L) (x y : Int) (p : Px) (hp : p.ok) (bc bm g o cp : Nat) (w : World) (r0 : AtB 30 w bc (rcA c)) (m0 : AtB 101 w bm (imgC c (.slice (some ⟨g, o, none⟩) (areaN c) cp))) (ce : RCellsE pxE g o L w) :
  Calls Tryz.prog 107 #[.int .i64 x, .int .i64 y, Px.v p, .pointer (some ⟨bc, 0, none⟩), .pointer (some ⟨bm, 0, none⟩)] w fun e w' => e = .returned (Px.v (pstP c L x y p)) ∧ Below w.heap.size w w' := by
 have B := Below.refl w.heap.size w
 have hb1 := r0.lt
 have hb2 := m0.lt
 have hb3 := ce.lt
 have OKL := Lib.hid okL
 cases hh : hasR c x y with
 | true =>
  have e1 := Lib.hid (show pstP c L x y p = cleanP (pixL c L x y) from by unfold pstP; rw [hh]; rfl)
  obtain ⟨m1, m2, m3, m4⟩ := idxI_bd hf hh
  have hix : (idxI c x y).toNat < L.length := by rw [hL]; exact m4
  have hpx : L[(idxI c x y).toNat]? = some (pixL c L x y) := by
   unfold pixL
   rw [List.getD_eq_getElem?_getD, List.getElem?_eq_getElem hix]
   rfl
  have hok := Lib.hid (pixL_ok okL (c := c) x y)
  generalize pixL c L x y = pp at *
  have hh2 := of_decide_eq_true hh
  obtain ⟨g1, g2, g3, g4⟩ := hh2
  obtain ⟨a1, a2, a3, a4, a5, a6, a7, a8⟩ := hf
  have hidx : (y - c.y0) * (c.x1 - c.x0) + x - c.x0 = idxI c x y := rfl
  have m5 : idxI c x y < (areaN c : Int) := by omega
  have m6 : (areaN c : Int) ≤ 65536 := by
   unfold areaN
   have := mul_bd (a := c.x1 - c.x0) (b := c.y1 - c.y0) (m := 256) (k := 256) (by omega) (by omega) (by omega) (by omega)
   omega
  have HH := Lib.hid hh
  clear okL hL hh
  go_enter Tryz.func107, Tryz.ntmps107
  go_upto_region 0 with fail
  refine wp_region_lit ?_
  try simp only [gelS]
  (refine wpList_boxPx' rfl _ rfl _ rfl ?_; intro b_q7 wn hle hge ht hbn hzn; have hsz := B.size; replace B := B.trans (hbn.mono (by omega)); have hln := Nat.lt_of_lt_of_eq (Nat.lt_succ_self _) hzn.symm; clear hzn; (try have hlt := r0.lt); (try replace r0 := r0.below (hbn.mono hle)); (try have hlt := m0.lt); (try replace m0 := m0.below (hbn.mono hle)); (try have hlt := ce.lt); (try replace ce := ce.below (hbn.mono hle)); have q7 := ht; clear ht; simp only [putS])
  (refine wpList_allocPx' rfl rfl ?_; intro b_q8 wn hle hge ht hbn hzn; have hsz := B.size; replace B := B.trans (hbn.mono (by omega)); have hln := Nat.lt_of_lt_of_eq (Nat.lt_succ_self _) hzn.symm; clear hzn; (try have hlt := r0.lt); (try replace r0 := r0.below (hbn.mono hle)); (try have hlt := m0.lt); (try replace m0 := m0.below (hbn.mono hle)); (try have hlt := ce.lt); (try replace ce := ce.below (hbn.mono hle)); (try have hlt := q7.lt); (try replace q7 := q7.below (hbn.mono hle)); have q8 := ht; clear ht; simp only [putS])
  refine wpList_nil ?_
  go_upto_region 1 with fail
  refine wp_region_lit ?_
  try simp only [gelS]
  refine wpList_chunk 4 (by kernel_rfl) ?_
  simp only [takS, Nat.reduceAdd]
  repeat (first | go_big_quiet_skip | (go_big_quiet_want; first | (refine quiet_loadAny (t := 30) rfl _ _ _ rfl (fun w hw => run_load_B (ov_B r0 w hw) Tryz.isAgg30 (by kernel_rfl)) (by rfl) ?_; simp only [putS]; go_big_quiet_on) | (go_big_quiet_op; go_big_quiet_on)))
  refine wpQuiet_nil ?_
  refine wpList_callF (by first | rfl | simp [Region.wanted, yielded]) rfl (enters_of Tryz.func51 (by kernel_rfl) rfl) (by simp only [Act.eval, evlS]; rfl) ?_
  refine (P_HasO c x y true _ HH.out).mono ?_
  rintro e wn ⟨rfl, hbn⟩
  have hsz := B.size
  have hzn := hbn.size
  replace B := B.trans (hbn.mono B.size)
  (try replace r0 := r0.below hbn)
  (try replace m0 := m0.below hbn)
  (try replace ce := ce.below hbn)
  (try replace q7 := q7.below hbn)
  (try replace q8 := q8.below hbn)
  refine ⟨_, rfl, ?_⟩
  simp only [putS]
  refine wpList_nil ?_
  go_upto_region 2 with fail
  refine wp_region_lit ?_
  try simp only [gelS]
  refine wpList_chunk 19 (by kernel_rfl) ?_
  simp only [takS, Nat.reduceAdd]
  repeat (first | go_big_quiet_skip | (go_big_quiet_want; first | (refine quiet_loadAny (t := 99) rfl _ _ _ rfl (fun w hw => run_load_slp (imgC_u (ov_B m0 w hw))) (by first | rfl | omega) ?_; simp only [putS]; go_big_quiet_on) | (refine quiet_loadAny (t := 25) rfl _ _ _ rfl (fun w hw => rce_px (ov_rce ce w hw) hpx) (by first | rfl | omega) ?_; simp only [putS]; go_big_quiet_on) | (refine quiet_loadPx rfl _ rfl (ov_px q7) ?_; simp only [putS]; go_big_quiet_on) | (refine quiet_loadAny (t := 3) rfl _ _ _ rfl (fun w hw => run_load_int ((ov_B r0 w hw).cellL 0 rfl)) (by rfl) ?_; simp only [putS]; go_big_quiet_on) | (refine quiet_loadAny (t := 3) rfl _ _ _ rfl (fun w hw => run_load_int ((ov_B r0 w hw).cellL 1 rfl)) (by rfl) ?_; simp only [putS]; go_big_quiet_on) | (refine quiet_loadAny (t := 3) rfl _ _ _ rfl (fun w hw => run_load_int ((ov_B r0 w hw).cellL 2 rfl)) (by rfl) ?_; simp only [putS]; go_big_quiet_on) | (go_big_quiet_op; go_big_quiet_on)))
  refine wpQuiet_nil ?_
  refine wpList_callF (by first | rfl | simp [Region.wanted, yielded]) rfl (enters_of Tryz.func69 (by kernel_rfl) rfl) (by simp only [Act.eval, evlS]; rfl) ?_
  refine (P_CleanB pp _ hok.out).mono ?_
  rintro e wn ⟨rfl, hbn⟩
  have hsz := B.size
  have hzn := hbn.size
  replace B := B.trans (hbn.mono B.size)
  (try replace r0 := r0.below hbn)
  (try replace ce := ce.below hbn)
  (try replace q7 := q7.below hbn)
  (try replace q8 := q8.below hbn)
  refine ⟨_, rfl, ?_⟩
  simp only [putS]
  (refine wpList_storePx rfl _ _ rfl _ rfl (_) rfl q8 ?_; clear q8; intro wn ht hcn hzn; have hsz := B.size; replace hzn := Nat.le_of_eq hzn.symm; replace B := Chg.below B hcn (by omega) B.size; (try replace r0 := r0.of_eq (hcn.block _ r0.lt (by omega))); (try replace ce := ce.of_eq (hcn.block _ ce.lt (by omega))); (try replace q7 := q7.of_eq (hcn.block _ q7.lt (by omega))); have q8 := ht; clear ht; simp only [putS])
  refine wpList_nil ?_
  go_wp2
  refine bodyPost_ret (results_px rfl _ _ (b_q8) rfl q8) rfl ?_
  exact ⟨by rw [e1.out], B⟩
 | false =>
  have e1 := Lib.hid (show pstP c L x y p = p from by unfold pstP; rw [hh]; rfl)
  have HH := Lib.hid hh
  clear okL hL hh
  go_enter Tryz.func107, Tryz.ntmps107
  go_upto_region 0 with fail
  refine wp_region_lit ?_
  try simp only [gelS]
  (refine wpList_boxPx' rfl _ rfl _ rfl ?_; intro b_q7 wn hle hge ht hbn hzn; have hsz := B.size; replace B := B.trans (hbn.mono (by omega)); have hln := Nat.lt_of_lt_of_eq (Nat.lt_succ_self _) hzn.symm; clear hzn; (try have hlt := r0.lt); (try replace r0 := r0.below (hbn.mono hle)); (try have hlt := m0.lt); (try have hlt := ce.lt); (try replace ce := ce.below (hbn.mono hle)); (try have hlt := q7.lt); (try replace q7 := q7.below (hbn.mono hle)); (try have hlt := q8.lt); (try replace q8 := q8.below (hbn.mono hle)); have q7 := ht; clear ht; simp only [putS])
  (refine wpList_allocPx' rfl rfl ?_; intro b_q8 wn hle hge ht hbn hzn; have hsz := B.size; replace B := B.trans (hbn.mono (by omega)); have hln := Nat.lt_of_lt_of_eq (Nat.lt_succ_self _) hzn.symm; clear hzn; (try have hlt := r0.lt); (try replace r0 := r0.below (hbn.mono hle)); (try have hlt := m0.lt); (try have hlt := ce.lt); (try replace ce := ce.below (hbn.mono hle)); (try have hlt := q7.lt); (try replace q7 := q7.below (hbn.mono hle)); (try have hlt := q8.lt); (try replace q8 := q8.below (hbn.mono hle)); have q8 := ht; clear ht; simp only [putS])
  refine wpList_nil ?_
  go_upto_region 1 with fail
  refine wp_region_lit ?_
  try simp only [gelS]
  refine wpList_chunk 4 (by kernel_rfl) ?_
  simp only [takS, Nat.reduceAdd]
  repeat (first | go_big_quiet_skip | (go_big_quiet_want; first | (refine quiet_loadAny (t := 30) rfl _ _ _ rfl (fun w hw => run_load_B (ov_B r0 w hw) Tryz.isAgg30 (by kernel_rfl)) (by rfl) ?_; simp only [putS]; go_big_quiet_on) | (go_big_quiet_op; go_big_quiet_on)))
  refine wpQuiet_nil ?_
  refine wpList_callF (by first | rfl | simp [Region.wanted, yielded]) rfl (enters_of Tryz.func51 (by kernel_rfl) rfl) (by simp only [Act.eval, evlS]; rfl) ?_
  refine (P_HasO c x y false _ HH.out).mono ?_
  rintro e wn ⟨rfl, hbn⟩
  have hsz := B.size
  have hzn := hbn.size
  replace B := B.trans (hbn.mono B.size)
  (try replace ce := ce.below hbn)
  (try replace q7 := q7.below hbn)
  (try replace q8 := q8.below hbn)
  refine ⟨_, rfl, ?_⟩
  simp only [putS]
  refine wpList_nil ?_
  go_upto_region 3 with fail
  refine wp_region_lit ?_
  try simp only [gelS]
  refine wpList_chunk 1 (by kernel_rfl) ?_
  simp only [takS, Nat.reduceAdd]
  repeat (first | go_big_quiet_skip | (go_big_quiet_want; first | (refine quiet_loadAny (t := 25) rfl _ _ _ rfl (fun w hw => rce_px (ov_rce ce w hw) hpx) (by first | rfl | omega) ?_; simp only [putS]; go_big_quiet_on) | (refine quiet_loadPx rfl _ rfl (ov_px q7) ?_; simp only [putS]; go_big_quiet_on) | (go_big_quiet_op; go_big_quiet_on)))
  refine wpQuiet_nil ?_
  (refine wpList_storePx rfl _ _ rfl _ rfl (_) rfl q8 ?_; clear q8; intro wn ht hcn hzn; have hsz := B.size; replace hzn := Nat.le_of_eq hzn.symm; replace B := Chg.below B hcn (by omega) B.size; have q8 := ht; clear ht; simp only [putS])
  refine wpList_nil ?_
  go_wp2
  refine bodyPost_ret (results_px rfl _ _ (b_q8) rfl q8) rfl ?_
  exact ⟨by rw [e1.out], B⟩
theorem P_Tiles (c : Rc) (w : World) : Calls Tryz.prog 105 #[.agg (rcA c)] w fun e w' => ∃ b, e = .returned (.func (.func 128) #[] #[.pointer (some ⟨b, 0, none⟩)]) ∧ w.heap.size ≤ b ∧ AtB 30 w' b (rcA c) ∧ Below w.heap.size w w' := by
 have B := Below.refl w.heap.size w
 go_enter Tryz.func105, Tryz.ntmps105
 go_upto_region 0 with fail
 refine wp_region_lit ?_
 try simp only [gelS]
 (refine wpList_boxB (t := 30) rfl _ rfl _ rfl ?_; intro b_r1 wn hle hge ht hbn hzn; have hsz := B.size; replace B := B.trans (hbn.mono (by omega)); have hln := Nat.lt_of_lt_of_eq (Nat.lt_succ_self _) hzn.symm; clear hzn; have r1 := ht; clear ht; simp only [putS])
 refine wpList_chunk 1 (by kernel_rfl) ?_
 simp only [takS, Nat.reduceAdd]
 repeat (first | go_big_quiet_skip | (go_big_quiet_want; go_big_quiet_op; go_big_quiet_on))
 refine wpQuiet_nil ?_
 refine wpList_nil ?_
 go_wp2
 go_ret
 exact ⟨_, rfl, by omega, r1, B⟩
/- Contracts of IndexFunc, ContainsFunc at points, of Valid, hull, Bounds of package selection and of its reference. -/
theorem pt_at {l : List Pnt} {k : Nat} (h : k < l.length) {x y : Int} (he : ptG l k = (x, y)) : l[k]? = some (x, y) := by
 rw [← he]
 unfold ptG
 rw [List.getD_eq_getElem?_getD, List.getElem?_eq_getElem h]
 rfl
theorem any_yes {l : List Pnt} {k : Nat} (h : k < l.length) (hf : farP (ptG l k) = true) : (l.any fun p => farP p) = true := List.any_eq_true.2 ⟨_, ptG_mem h, hf⟩
theorem any_no {l : List Pnt} (hf : ∀ i, i < l.length → farP (ptG l i) = false) : (l.any fun p => farP p) = false := by
 rw [List.any_eq_false]
 intro p hp
 obtain ⟨i, hi, rfl⟩ := List.getElem_of_mem hp
 have := hf i hi
 unfold ptG at this
 rw [List.getD_eq_getElem?_getD, List.getElem?_eq_getElem hi] at this
 have this : farP l[i] = false := this
 rw [this]; decide
theorem validG_eq (l : List Pnt) : validG l = (decide (3 ≤ l.length ∧ l.length ≤ 64) && !(l.any fun p => farP p)) := by
 unfold validG
 congr 1
 induction l with
 | nil => rfl
 | cons p r ih => rw [List.all_cons, List.any_cons, ih, Bool.not_or]
set_option maxHeartbeats 1000000 in
theorem P_IndexFar (v : Value) (l : List Pnt) (w : World) (h : RSE ptE v l w) (hn : l.length ≤ maxLen) : Calls Tryz.prog 101 #[v, .func (.func 66) #[] #[]] w fun e w' => ∃ n : Int, e = .returned (.int .i64 n) ∧ decide (0 ≤ n) = (l.any fun p => farP p) ∧ Below w.heap.size w w' := by
 unfold maxLen at hn
 obtain ⟨a, c, rfl, hc⟩ := h.len
 have B := Below.refl w.heap.size w
 have HS := Lib.hid h
 have eg := enters_of Tryz.func66 (by kernel_rfl) rfl
 clear h
 go_enter Tryz.func101, Tryz.ntmps101
 go_wp2
 go_loopw [5, 8] (fun _ i wr => ∃ k : Nat, k ≤ l.length ∧ i = .int .i64 k ∧ (∀ i, i < k → farP (ptG l i) = false) ∧ Below w.heap.size w wr) (fun _ i _ => (l.length - intOf i).toNat)
 case atStart => exact ⟨0, by omega, rfl, fun i hi => absurd hi (by omega), B⟩
 case round =>
  clear B
  obtain ⟨k, hk, rfl, hno, B⟩ := hrel
  have HNO := Lib.hid hno
  clear hno
  by_cases hkl : k < l.length
  ·obtain ⟨g, o, rfl, rc0⟩ := HS.out.at (by omega)
   have rc := rc0.of_eq (B.block _ rc0.lt)
   clear rc0
   obtain ⟨⟨x, y⟩, he⟩ : ∃ e, ptG l k = e := ⟨_, rfl⟩
   have hp := pt_at hkl he
   cases hf : farP (x, y) with
   | false =>
    have HN2 := Lib.hid (show ∀ i, i < k + 1 → farP (ptG l i) = false from fun i hi => by
     by_cases e : i = k
     ·rw [e, he]; exact hf
     ·exact HNO.out i (by omega))
    go_wp2_with (first | (go_at_call 66; refine (P_far x y _).mono ?_; rintro e' wn ⟨rfl, hbn⟩; replace B := B.trans (hbn.mono B.size)) | (refine wpList_loadAny (t := 53) rfl _ rfl _ _ _ rfl (rce_pt rc hp) (by first | rfl | omega) ?_; simp only [putS]) | fail)
    go_roundw
    case rel => exact ⟨k + 1, by omega, by go_num, HN2.out, B⟩
    case measure => simp [intOf]; omega
   | true =>
    have H := Lib.hid (any_yes hkl (by rw [he]; exact hf))
    go_wp2_with (first | (go_at_call 66; refine (P_far x y _).mono ?_; rintro e' wn ⟨rfl, hbn⟩; replace B := B.trans (hbn.mono B.size)) | (refine wpList_loadAny (t := 53) rfl _ rfl _ _ _ rfl (rce_pt rc hp) (by first | rfl | omega) ?_; simp only [putS]) | fail)
    go_ret
    exact ⟨k, rfl, by rw [H.out]; exact decide_eq_true (by omega), B⟩
  ·obtain rfl : k = l.length := by omega
   have H := Lib.hid (any_no HNO.out)
   go_wp2
   go_ret
   exact ⟨-1, rfl, by rw [H.out]; rfl, B⟩
theorem P_ContainsFar (v : Value) (l : List Pnt) (w : World) (h : RSE ptE v l w) (hn : l.length ≤ maxLen) : Calls Tryz.prog 65 #[v, .func (.func 66) #[] #[]] w fun e w' => e = .returned (.bool (l.any fun p => farP p)) ∧ Below w.heap.size w w' := by
 have B := Below.refl w.heap.size w
 go_enter Tryz.func65, Tryz.ntmps65
 go_upto_region 1 with fail
 refine wp_region_lit ?_
 try simp only [gelS]
 refine wpList_chunk 2 (by kernel_rfl) ?_
 simp only [takS, Nat.reduceAdd]
 repeat (first | go_big_quiet_skip | (go_big_quiet_want; go_big_quiet_op; go_big_quiet_on))
 refine wpQuiet_nil ?_
 refine wpList_callF (by first | rfl | simp [Region.wanted, yielded]) rfl (enters_of Tryz.func101 (by kernel_rfl) rfl) (by simp only [Act.eval, evlS]; rfl) ?_
 refine (P_IndexFar _ l _ h hn).mono ?_
 rintro e wn ⟨n, rfl, hnn, hbn⟩
 have hsz := B.size
 have hzn := hbn.size
 replace B := B.trans (hbn.mono B.size)
 refine ⟨_, rfl, ?_⟩
 simp only [putS]
 refine wpList_chunk 2 (by kernel_rfl) ?_
 simp only [takS, Nat.reduceAdd]
 repeat (first | go_big_quiet_skip | (go_big_quiet_want; go_big_quiet_op; go_big_quiet_on))
 refine wpQuiet_nil ?_
 refine wpList_nil ?_
 iterate 3 go_step
 go_ret
 exact ⟨by rw [← hnn]; try rfl, B⟩
theorem P_ValidG (v : Value) (l : List Pnt) (w : World) (h : RSE ptE v l w) (hn : l.length ≤ maxLen) : Calls Tryz.prog 29 #[v] w fun e w' => e = .returned (.bool (validG l)) ∧ Below w.heap.size w w' := by
 have B := Below.refl w.heap.size w
 obtain ⟨a, c, rfl, hc⟩ := h.len
 have H := Lib.hid h
 have HV := Lib.hid (validG_eq l)
 clear h
 by_cases h1 : 3 ≤ l.length
 ·have d1 : decide (3 ≤ (l.length : Int)) = true := decide_eq_true (by omega)
  have d1' : decide (3 ≤ l.length) = true := decide_eq_true h1
  by_cases h2 : l.length ≤ 64
  ·have d2 : decide ((l.length : Int) ≤ 64) = true := decide_eq_true (by omega)
   have d2' : decide (l.length ≤ 64) = true := decide_eq_true h2
   have HW := Lib.hid (show validG l = !(l.any fun p => farP p) from by rw [HV.out, decide_eq_true ⟨h1, h2⟩, Bool.true_and])
   go_enter Tryz.func29, Tryz.ntmps29
   go_wp2_with (first | (go_at_call 65; refine (P_ContainsFar _ l _ H.out hn).mono ?_; rintro e' wn ⟨rfl, hbn⟩; replace B := B.trans (hbn.mono B.size)) | fail)
   go_ret
   exact ⟨by rw [HW.out]; try rfl, B⟩
  ·have d2 : decide ((l.length : Int) ≤ 64) = false := decide_eq_false (by omega)
   have d2' : decide (l.length ≤ 64) = false := decide_eq_false h2
   have HW := Lib.hid (show validG l = false from by rw [HV.out, decide_eq_false (fun k => h2 k.2), Bool.false_and])
   go_enter Tryz.func29, Tryz.ntmps29
   go_wp2_with (first | (go_at_call 65; refine (P_ContainsFar _ l _ H.out hn).mono ?_; rintro e' wn ⟨rfl, hbn⟩; replace B := B.trans (hbn.mono B.size)) | fail)
   go_ret
   exact ⟨by rw [HW.out]; try rfl, B⟩
 ·have d1 : decide (3 ≤ (l.length : Int)) = false := decide_eq_false (by omega)
  have d1' : decide (3 ≤ l.length) = false := decide_eq_false h1
  have HW := Lib.hid (show validG l = false from by rw [HV.out, decide_eq_false (fun k => h1 k.1), Bool.false_and])
  go_enter Tryz.func29, Tryz.ntmps29
  go_wp2_with (first | (go_at_call 65; refine (P_ContainsFar _ l _ H.out hn).mono ?_; rintro e' wn ⟨rfl, hbn⟩; replace B := B.trans (hbn.mono B.size)) | fail)
  go_ret
  exact ⟨by rw [HW.out]; try rfl, B⟩
set_option maxHeartbeats 1000000 in
theorem R_ValidG (v : Value) (l : List Pnt) (w : World) (h : RSE ptE v l w) (hn : l.length ≤ maxLen) : Calls Tryz.prog 25 #[v] w fun e w' => e = .returned (.bool (validG l)) ∧ Below w.heap.size w w' := by
 have B := Below.refl w.heap.size w
 obtain ⟨a, c, rfl, hc⟩ := h.len
 have HS := Lib.hid h
 have HV := Lib.hid (validG_eq l)
 clear h
 by_cases h1 : l.length < 3
 ·have d1 : decide ((l.length : Int) < 3) = true := decide_eq_true (by omega)
  have d1' : decide (l.length < 3) = true := decide_eq_true h1
  have HW := Lib.hid (show validG l = false from by rw [HV.out, decide_eq_false (by omega), Bool.false_and])
  go_enter Tryz.func25, Tryz.ntmps25
  go_wp2
  go_ret
  exact ⟨by rw [HW.out]; try rfl, B⟩
 ·have d1 : decide ((l.length : Int) < 3) = false := decide_eq_false (by omega)
  have d1' : decide (l.length < 3) = false := decide_eq_false h1
  by_cases h2 : 64 < l.length
  ·have d2 : decide (64 < (l.length : Int)) = true := decide_eq_true (by omega)
   have d2' : decide (64 < l.length) = true := decide_eq_true h2
   have HW := Lib.hid (show validG l = false from by rw [HV.out, decide_eq_false (by omega), Bool.false_and])
   go_enter Tryz.func25, Tryz.ntmps25
   go_wp2
   go_ret
   exact ⟨by rw [HW.out]; try rfl, B⟩
  ·have d2 : decide (64 < (l.length : Int)) = false := decide_eq_false (by omega)
   have d2' : decide (64 < l.length) = false := decide_eq_false h2
   have HW := Lib.hid (show validG l = !(l.any fun p => farP p) from by rw [HV.out, decide_eq_true (by omega), Bool.true_and])
   have hn64 : l.length ≤ 64 := by omega
   go_enter Tryz.func25, Tryz.ntmps25
   go_wp2
   go_loopw [3, 4] (fun i _ wr => ∃ k : Nat, k ≤ l.length ∧ i = .int .i64 k ∧ (∀ i, i < k → farP (ptG l i) = false) ∧ Below w.heap.size w wr) (fun i _ _ => (l.length - intOf i).toNat)
   case atStart => exact ⟨0, by omega, rfl, fun i hi => absurd hi (by omega), B⟩
   case round =>
    clear B
    obtain ⟨k, hk, rfl, hno, B⟩ := hrel
    have HNO := Lib.hid hno
    clear hno
    by_cases hkl : k < l.length
    ·obtain ⟨g, o, rfl, rc0⟩ := HS.out.at (by omega)
     have rc := rc0.of_eq (B.block _ rc0.lt)
     clear rc0
     obtain ⟨⟨x, y⟩, he⟩ : ∃ e, ptG l k = e := ⟨_, rfl⟩
     have hp := pt_at hkl he
     cases hf : farP (x, y) with
     | false =>
      have HN2 := Lib.hid (show ∀ i, i < k + 1 → farP (ptG l i) = false from fun i hi => by
       by_cases e : i = k
       ·rw [e, he]; exact hf
       ·exact HNO.out i (by omega))
      go_wp2_with (first | (go_at_call 62; refine (R_far x y _).mono ?_; rintro e' wn ⟨rfl, hbn⟩; replace B := B.trans (hbn.mono B.size)) | (refine wpList_loadAny (t := 53) rfl _ rfl _ _ _ rfl (rce_pt rc hp) (by first | rfl | omega) ?_; simp only [putS]) | fail)
      go_roundw
      case rel => exact ⟨k + 1, by omega, by go_num, HN2.out, B⟩
      case measure => simp [intOf]; omega
     | true =>
      have H := Lib.hid (any_yes hkl (by rw [he]; exact hf))
      go_wp2_with (first | (go_at_call 62; refine (R_far x y _).mono ?_; rintro e' wn ⟨rfl, hbn⟩; replace B := B.trans (hbn.mono B.size)) | (refine wpList_loadAny (t := 53) rfl _ rfl _ _ _ rfl (rce_pt rc hp) (by first | rfl | omega) ?_; simp only [putS]) | fail)
      go_ret
      exact ⟨by rw [HW.out, H.out]; rfl, B⟩
    ·obtain rfl : k = l.length := by omega
     have H := Lib.hid (any_no HNO.out)
     go_wp2
     go_ret
     exact ⟨by rw [HW.out, H.out]; rfl, B⟩
/- Contracts of hull, Bounds of package selection and of its reference. -/
set_option maxHeartbeats 4000000 in
theorem P_hull (v : Value) (l : List Pnt) (w : World) (h : RSE ptE v l w) (hne : 0 < l.length) (hn : l.length ≤ 17592186044416) : Calls Tryz.prog 64 #[v] w fun e w' => e = .returned (.agg (rcA (hullG l))) ∧ Below w.heap.size w w' := by
 have B := Below.refl w.heap.size w
 obtain ⟨a, c, rfl, hc⟩ := h.len
 obtain ⟨g, o, rfl, pc⟩ := h.at hne
 clear h
 have PC := Lib.hid pc
 have HK := Lib.hid (fun k (hk : k < l.length) => hullK_step hk)
 have HA := Lib.hid (hullK_all (List.length_pos_iff.1 hne))
 obtain ⟨⟨x0, y0⟩, he0⟩ : ∃ e, ptG l 0 = e := ⟨_, rfl⟩
 have hp0 := pt_at hne he0
 have H0 := Lib.hid (show hullK l 0 = ⟨x0, y0, x0, y0⟩ from by show ptR (ptG l 0) = _; rw [he0]; rfl)
 have q0 : decide (0 < l.length) = true := decide_eq_true hne
 clear he0
 go_enter Tryz.func64, Tryz.ntmps64
 go_upto_region 0 with fail
 refine wp_region_lit ?_
 try simp only [gelS]
 (refine wpList_allocBk (t := 30) rfl _ (run_alloc_Rc _ _ rfl) ?_; intro b_r2 wn hle hge ht hbn hzn; have hsz := B.size; replace B := B.trans (hbn.mono (by omega)); have hln := Nat.lt_of_lt_of_eq (Nat.lt_succ_self _) hzn.symm; clear hzn; (try have hlt := pc.lt); (try replace pc := pc.below (hbn.mono hle)); have r2 := ht; clear ht; simp only [putS])
 refine wpList_nil ?_
 go_upto_region 1 with fail
 try simp only [gelS]
 try have lx_r2 := r2.lt
 try have lx_pc := pc.lt
 refine wp_region_RL 18 [(17, ptrS (wn.heap.size) 30 #[.int .i64 0, .int .i64 0, .int .i64 0, .int .i64 0])] (by kernel_rfl) (by kernel_rfl) (by kernel_rfl) ?_
 rotate_left 0
 simp only [takS, Nat.reduceAdd]
 refine wpRL_chunk 17 (by kernel_rfl) ?_
 simp only [takS, Nat.reduceAdd]
 repeat (first | go_big_quiet_skip | (go_big_quiet_want; first | (refine quiet_loadAny (t := 3) rfl _ _ _ rfl (fun w hw => rce_ptx (ov_rce pc w hw) hp0) (by first | rfl | omega) ?_; simp only [putS]; go_big_quiet_on) | (refine quiet_loadAny (t := 3) rfl _ _ _ rfl (fun w hw => rce_pty (ov_rce pc w hw) hp0) (by first | rfl | omega) ?_; simp only [putS]; go_big_quiet_on) | (go_big_quiet_op; go_big_quiet_on)))
 refine wpQuiet_nil ?_
 refine wpRL_callB (by rfl) (by first | rfl | simp [Region.wanted, yielded]) ?_ ?_
 ·intro wn hbn hE Kx hKx
  have hsz := B.size
  have hzn := hbn.size
  replace B := B.trans (hbn.mono B.size)
  (try replace r2 := r2.below hbn)
  (try replace pc := pc.below hbn)
  refine owp_allocBk (t := 30) _ (run_alloc_Rc _ _ rfl) ?_
  intro b wm h1 h2 ht hbm hzm
  exact hKx b wm ⟨Nat.le_trans hbn.size h1, ht⟩ (hbm.mono h1)
 rintro b_r3
 dsimp only [detS, ptrS]
 simp only [putS]
 refine wpRL_nil ?_
 intro wn hbn hE
 have hsz := B.size
 have hzn := hbn.size
 replace B := B.trans (hbn.mono B.size)
 (try replace r2 := r2.below hbn)
 (try replace pc := pc.below hbn)
 obtain ⟨hge_r3, r3⟩ : _ ∧ AtB _ _ _ _ := hE 17
 clear hE
 try simp only [List.drop_succ_cons, List.drop_zero]
 go_wp2_with (first | (refine wpList_storeB (t := 30) rfl _ _ rfl _ rfl _ rfl r3 (by kernel_rfl) rfl (by simp [rcA, Value.oneCell']) ?_; clear r3; intro wn ht hcn hzn; have hsz := B.size; replace hzn := Nat.le_of_eq hzn.symm; replace B := Chg.below B hcn (by omega) B.size; (try replace r2 := r2.of_eq (hcn.block _ r2.lt (by omega))); (try replace p5 := p5.of_eq (hcn.block _ p5.lt (by omega))); (try replace pc := pc.of_eq (hcn.block _ pc.lt (by omega))); have r3 := ht; clear ht; simp only [putS]) | fail)
 refine NoPan.normal ?_
 replace r3 : AtB 30 wn b_r3 (rcA (hullK l 0)) := by rw [H0.out]; exact r3
 have k2 := r2.lt
 have k3 := r3.lt
 clear hp0 q0
 go_upto_region 2 with fail
 refine wp_region_lit ?_
 try simp only [gelS]
 refine wpList_chunk 1 (by kernel_rfl) ?_
 simp only [takS, Nat.reduceAdd]
 repeat (first | go_big_quiet_skip | (go_big_quiet_want; go_big_quiet_op; go_big_quiet_on))
 refine wpQuiet_nil ?_
 refine wpList_lenS (by first | rfl | simp [Region.wanted, yielded]) rfl Tryz.underlying22 rfl ?_
 simp only [putS]
 refine wpList_chunk 1 (by kernel_rfl) ?_
 simp only [takS, Nat.reduceAdd]
 repeat (first | go_big_quiet_skip | (go_big_quiet_want; go_big_quiet_op; go_big_quiet_on))
 refine wpQuiet_nil ?_
 refine wpList_nil ?_
 go_wp2
 go_loopw [5, 25] (fun _ iv wr => ∃ k : Nat, k ≤ l.length ∧ iv = .int .i64 (k : Int) ∧ Below w.heap.size w wr ∧ AtB 30 wr b_r2 #[.int .i64 0, .int .i64 0, .int .i64 0, .int .i64 0] ∧ AtB 30 wr b_r3 (rcA (hullK l k))) (fun _ iv _ => (l.length - intOf iv).toNat)
 case atStart => exact ⟨0, by omega, rfl, B, r2, r3⟩
 case round =>
  clear B r2 r3 k2 k3 pc
  obtain ⟨k, hk, rfl, B, r2, r3⟩ := hrel
  have k2 := r2.lt
  have k3 := r3.lt
  have pc := PC.out.of_eq (B.block _ PC.out.lt)
  by_cases hkl : k < l.length
  ·have q1 : decide ((k : Int) < (l.length : Int)) = true := decide_eq_true (by omega)
   have q2 : decide (k < l.length) = true := decide_eq_true hkl
   obtain ⟨⟨x, y⟩, he⟩ : ∃ e, ptG l k = e := ⟨_, rfl⟩
   have hp := pt_at hkl he
   obtain ⟨⟨x1, y1, x2, y2⟩, hR⟩ : ∃ r, hullK l k = r := ⟨_, rfl⟩
   have HNX := Lib.hid (show hullK l (k + 1) = ⟨min x1 x, min y1 y, max x2 x, max y2 y⟩ from by rw [HK.out k hkl, hR, he]; rfl)
   rw [hR] at r3
   replace r3 : AtB 30 _ b_r3 #[.int .i64 x1, .int .i64 y1, .int .i64 x2, .int .i64 y2] := r3
   clear he hR
   go_upto_region 3 with fail
   refine wp_region_lit ?_
   try simp only [gelS]
   refine wpList_chunk 1 (by kernel_rfl) ?_
   simp only [takS, Nat.reduceAdd]
   repeat (first | go_big_quiet_skip | (go_big_quiet_want; go_big_quiet_op; go_big_quiet_on))
   refine wpQuiet_nil ?_
   refine wpList_nil ?_
   go_upto_region 4 with fail
   refine wp_region_lit ?_
   try simp only [gelS]
   refine wpList_chunk 2 (by kernel_rfl) ?_
   simp only [takS, Nat.reduceAdd]
   repeat (first | go_big_quiet_skip | (go_big_quiet_want; first | (refine quiet_loadAny (t := 53) rfl _ _ _ rfl (fun w hw => rce_pt (ov_rce pc w hw) hp) (by first | rfl | omega) ?_; simp only [putS]; go_big_quiet_on) | (go_big_quiet_op; go_big_quiet_on)))
   refine wpQuiet_nil ?_
   (refine wpList_allocBk (t := 53) rfl _ (run_alloc_Pt _ _ rfl) ?_; intro b_p5 wn hle hge ht hbn hzn; have hsz := B.size; replace B := B.trans (hbn.mono (by omega)); have hln := Nat.lt_of_lt_of_eq (Nat.lt_succ_self _) hzn.symm; clear hzn; (try have hlt := r2.lt); (try replace r2 := r2.below (hbn.mono hle)); (try have hlt := r3.lt); (try replace r3 := r3.below (hbn.mono hle)); (try have hlt := pc.lt); have p5 := ht; clear ht; simp only [putS])
   (refine wpList_storeB (t := 53) rfl _ _ rfl _ rfl _ rfl p5 (by kernel_rfl) rfl (by simp [rcA, Value.oneCell']) ?_; clear p5; intro wn ht hcn hzn; have hsz := B.size; replace hzn := Nat.le_of_eq hzn.symm; replace B := Chg.below B hcn (by omega) B.size; (try replace r2 := r2.of_eq (hcn.block _ r2.lt (by omega))); (try replace r3 := r3.of_eq (hcn.block _ r3.lt (by omega))); have p5 := ht; clear ht; simp only [putS])
   refine wpList_nil ?_
   replace p5 : AtB 53 _ b_p5 #[.int .i64 x, .int .i64 y] := p5
   go_upto_region 5 with fail
   refine wp_region_lit ?_
   try simp only [gelS]
   refine wpList_chunk 4 (by kernel_rfl) ?_
   simp only [takS, Nat.reduceAdd]
   repeat (first | go_big_quiet_skip | (go_big_quiet_want; first | (refine quiet_loadAny (t := 3) rfl _ _ _ rfl (fun w hw => run_load_int ((ov_B r3 w hw).cellL 0 rfl)) (by rfl) ?_; simp only [putS]; go_big_quiet_on) | (refine quiet_loadAny (t := 3) rfl _ _ _ rfl (fun w hw => run_load_int ((ov_B r3 w hw).cellL 1 rfl)) (by rfl) ?_; simp only [putS]; go_big_quiet_on) | (refine quiet_loadAny (t := 3) rfl _ _ _ rfl (fun w hw => run_load_int ((ov_B r3 w hw).cellL 2 rfl)) (by rfl) ?_; simp only [putS]; go_big_quiet_on) | (refine quiet_loadAny (t := 3) rfl _ _ _ rfl (fun w hw => run_load_int ((ov_B r3 w hw).cellL 3 rfl)) (by rfl) ?_; simp only [putS]; go_big_quiet_on) | (refine quiet_loadAny (t := 3) rfl _ _ _ rfl (fun w hw => run_load_int ((ov_B p5 w hw).cellL 0 rfl)) (by rfl) ?_; simp only [putS]; go_big_quiet_on) | (refine quiet_loadAny (t := 3) rfl _ _ _ rfl (fun w hw => run_load_int ((ov_B p5 w hw).cellL 1 rfl)) (by rfl) ?_; simp only [putS]; go_big_quiet_on) | (go_big_quiet_op; go_big_quiet_on)))
   refine wpQuiet_nil ?_
   refine wpList_minI (by first | rfl | simp [Region.wanted, yielded]) rfl rfl Tryz.underlying3 rfl rfl ?_
   simp only [putS]
   refine wpList_chunk 4 (by kernel_rfl) ?_
   simp only [takS, Nat.reduceAdd]
   repeat (first | go_big_quiet_skip | (go_big_quiet_want; first | (refine quiet_loadAny (t := 3) rfl _ _ _ rfl (fun w hw => run_load_int ((ov_B r3 w hw).cellL 0 rfl)) (by rfl) ?_; simp only [putS]; go_big_quiet_on) | (refine quiet_loadAny (t := 3) rfl _ _ _ rfl (fun w hw => run_load_int ((ov_B r3 w hw).cellL 1 rfl)) (by rfl) ?_; simp only [putS]; go_big_quiet_on) | (refine quiet_loadAny (t := 3) rfl _ _ _ rfl (fun w hw => run_load_int ((ov_B r3 w hw).cellL 2 rfl)) (by rfl) ?_; simp only [putS]; go_big_quiet_on) | (refine quiet_loadAny (t := 3) rfl _ _ _ rfl (fun w hw => run_load_int ((ov_B r3 w hw).cellL 3 rfl)) (by rfl) ?_; simp only [putS]; go_big_quiet_on) | (refine quiet_loadAny (t := 3) rfl _ _ _ rfl (fun w hw => run_load_int ((ov_B p5 w hw).cellL 0 rfl)) (by rfl) ?_; simp only [putS]; go_big_quiet_on) | (refine quiet_loadAny (t := 3) rfl _ _ _ rfl (fun w hw => run_load_int ((ov_B p5 w hw).cellL 1 rfl)) (by rfl) ?_; simp only [putS]; go_big_quiet_on) | (go_big_quiet_op; go_big_quiet_on)))
   refine wpQuiet_nil ?_
   refine wpList_minI (by first | rfl | simp [Region.wanted, yielded]) rfl rfl Tryz.underlying3 rfl rfl ?_
   simp only [putS]
   refine wpList_chunk 4 (by kernel_rfl) ?_
   simp only [takS, Nat.reduceAdd]
   repeat (first | go_big_quiet_skip | (go_big_quiet_want; first | (refine quiet_loadAny (t := 3) rfl _ _ _ rfl (fun w hw => run_load_int ((ov_B r3 w hw).cellL 0 rfl)) (by rfl) ?_; simp only [putS]; go_big_quiet_on) | (refine quiet_loadAny (t := 3) rfl _ _ _ rfl (fun w hw => run_load_int ((ov_B r3 w hw).cellL 1 rfl)) (by rfl) ?_; simp only [putS]; go_big_quiet_on) | (refine quiet_loadAny (t := 3) rfl _ _ _ rfl (fun w hw => run_load_int ((ov_B r3 w hw).cellL 2 rfl)) (by rfl) ?_; simp only [putS]; go_big_quiet_on) | (refine quiet_loadAny (t := 3) rfl _ _ _ rfl (fun w hw => run_load_int ((ov_B r3 w hw).cellL 3 rfl)) (by rfl) ?_; simp only [putS]; go_big_quiet_on) | (refine quiet_loadAny (t := 3) rfl _ _ _ rfl (fun w hw => run_load_int ((ov_B p5 w hw).cellL 0 rfl)) (by rfl) ?_; simp only [putS]; go_big_quiet_on) | (refine quiet_loadAny (t := 3) rfl _ _ _ rfl (fun w hw => run_load_int ((ov_B p5 w hw).cellL 1 rfl)) (by rfl) ?_; simp only [putS]; go_big_quiet_on) | (go_big_quiet_op; go_big_quiet_on)))
   refine wpQuiet_nil ?_
   refine wpList_maxI (by first | rfl | simp [Region.wanted, yielded]) rfl rfl Tryz.underlying3 rfl rfl ?_
   simp only [putS]
   refine wpList_chunk 4 (by kernel_rfl) ?_
   simp only [takS, Nat.reduceAdd]
   repeat (first | go_big_quiet_skip | (go_big_quiet_want; first | (refine quiet_loadAny (t := 3) rfl _ _ _ rfl (fun w hw => run_load_int ((ov_B r3 w hw).cellL 0 rfl)) (by rfl) ?_; simp only [putS]; go_big_quiet_on) | (refine quiet_loadAny (t := 3) rfl _ _ _ rfl (fun w hw => run_load_int ((ov_B r3 w hw).cellL 1 rfl)) (by rfl) ?_; simp only [putS]; go_big_quiet_on) | (refine quiet_loadAny (t := 3) rfl _ _ _ rfl (fun w hw => run_load_int ((ov_B r3 w hw).cellL 2 rfl)) (by rfl) ?_; simp only [putS]; go_big_quiet_on) | (refine quiet_loadAny (t := 3) rfl _ _ _ rfl (fun w hw => run_load_int ((ov_B r3 w hw).cellL 3 rfl)) (by rfl) ?_; simp only [putS]; go_big_quiet_on) | (refine quiet_loadAny (t := 3) rfl _ _ _ rfl (fun w hw => run_load_int ((ov_B p5 w hw).cellL 0 rfl)) (by rfl) ?_; simp only [putS]; go_big_quiet_on) | (refine quiet_loadAny (t := 3) rfl _ _ _ rfl (fun w hw => run_load_int ((ov_B p5 w hw).cellL 1 rfl)) (by rfl) ?_; simp only [putS]; go_big_quiet_on) | (go_big_quiet_op; go_big_quiet_on)))
   refine wpQuiet_nil ?_
   refine wpList_maxI (by first | rfl | simp [Region.wanted, yielded]) rfl rfl Tryz.underlying3 rfl rfl ?_
   simp only [putS]
   refine wpList_chunk 1 (by kernel_rfl) ?_
   simp only [takS, Nat.reduceAdd]
   repeat (first | go_big_quiet_skip | (go_big_quiet_want; go_big_quiet_op; go_big_quiet_on))
   refine wpQuiet_nil ?_
   (refine wpList_storeB (t := 30) rfl _ _ rfl _ rfl _ rfl r3 (by kernel_rfl) rfl (by simp [rcA, Value.oneCell']) ?_; clear r3; intro wn ht hcn hzn; have hsz := B.size; replace hzn := Nat.le_of_eq hzn.symm; replace B := Chg.below B hcn (by omega) B.size; (try replace r2 := r2.of_eq (hcn.block _ r2.lt (by omega))); have r3 := ht; clear ht; simp only [putS])
   refine wpList_nil ?_
   go_wp2
   go_roundw
   case rel => exact ⟨k + 1, by omega, by go_num, B, r2, by rw [HNX.out]; exact r3⟩
   case measure => simp [intOf]; omega
  ·obtain rfl : k = l.length := by omega
   have q1 : decide (((l.length : Nat) : Int) < (l.length : Int)) = false := decide_eq_false (by omega)
   have q2 : decide (l.length < l.length) = false := decide_eq_false (by omega)
   rw [HA.out] at r3
   go_upto_region 3 with fail
   refine wp_region_lit ?_
   try simp only [gelS]
   refine wpList_chunk 1 (by kernel_rfl) ?_
   simp only [takS, Nat.reduceAdd]
   repeat (first | go_big_quiet_skip | (go_big_quiet_want; go_big_quiet_op; go_big_quiet_on))
   refine wpQuiet_nil ?_
   refine wpList_nil ?_
   go_upto_region 7 with fail
   refine wp_region_lit ?_
   try simp only [gelS]
   refine wpList_chunk 1 (by kernel_rfl) ?_
   simp only [takS, Nat.reduceAdd]
   repeat (first | go_big_quiet_skip | (go_big_quiet_want; first | (refine quiet_loadAny (t := 30) rfl _ _ _ rfl (fun w hw => run_load_B (ov_B r3 w hw) Tryz.isAgg30 (by kernel_rfl)) (by rfl) ?_; simp only [putS]; go_big_quiet_on) | (go_big_quiet_op; go_big_quiet_on)))
   refine wpQuiet_nil ?_
   (refine wpList_storeB (t := 30) rfl _ _ rfl _ rfl _ rfl r2 (by kernel_rfl) rfl (by simp [rcA, Value.oneCell']) ?_; clear r2; intro wn ht hcn hzn; have hsz := B.size; replace hzn := Nat.le_of_eq hzn.symm; replace B := Chg.below B hcn (by omega) B.size; have r2 := ht; clear ht; simp only [putS])
   refine wpList_nil ?_
   go_wp2
   refine bodyPost_ret (results_B (t := 30) rfl _ _ (b_r2) rfl r2 Tryz.isAgg30 (by kernel_rfl)) rfl ?_
   exact ⟨rfl, B⟩
set_option maxHeartbeats 4000000 in
theorem R_hull (v : Value) (l : List Pnt) (w : World) (h : RSE ptE v l w) (hne : 0 < l.length) (hn : l.length ≤ 17592186044416) : Calls Tryz.prog 26 #[v] w fun e w' => e = .returned (.agg (rcA (hullG l))) ∧ Below w.heap.size w w' := by
 have B := Below.refl w.heap.size w
 obtain ⟨a, c, rfl, hc⟩ := h.len
 obtain ⟨g, o, rfl, pc⟩ := h.at hne
 clear h
 have PC := Lib.hid pc
 have HK := Lib.hid (fun k (hk : k < l.length) => hullK_step hk)
 have HA := Lib.hid (hullK_all (List.length_pos_iff.1 hne))
 obtain ⟨⟨x0, y0⟩, he0⟩ : ∃ e, ptG l 0 = e := ⟨_, rfl⟩
 have hp0 := pt_at hne he0
 have H0 := Lib.hid (show hullK l 1 = ⟨x0, y0, x0, y0⟩ from by rw [hullK_one hne, he0]; rfl)
 have q0 : decide (0 < l.length) = true := decide_eq_true hne
 clear he0
 go_enter Tryz.func26, Tryz.ntmps26
 go_upto_region 0 with fail
 refine wp_region_lit ?_
 try simp only [gelS]
 (refine wpList_allocBk (t := 30) rfl _ (run_alloc_Rc _ _ rfl) ?_; intro b_r2 wn hle hge ht hbn hzn; have hsz := B.size; replace B := B.trans (hbn.mono (by omega)); have hln := Nat.lt_of_lt_of_eq (Nat.lt_succ_self _) hzn.symm; clear hzn; (try have hlt := pc.lt); (try replace pc := pc.below (hbn.mono hle)); have r2 := ht; clear ht; simp only [putS])
 refine wpList_nil ?_
 go_upto_region 1 with fail
 try simp only [gelS]
 try have lx_r2 := r2.lt
 try have lx_pc := pc.lt
 refine wp_region_RL 18 [(17, ptrS (wn.heap.size) 30 #[.int .i64 0, .int .i64 0, .int .i64 0, .int .i64 0])] (by kernel_rfl) (by kernel_rfl) (by kernel_rfl) ?_
 rotate_left 0
 simp only [takS, Nat.reduceAdd]
 refine wpRL_chunk 17 (by kernel_rfl) ?_
 simp only [takS, Nat.reduceAdd]
 repeat (first | go_big_quiet_skip | (go_big_quiet_want; first | (refine quiet_loadAny (t := 3) rfl _ _ _ rfl (fun w hw => rce_ptx (ov_rce pc w hw) hp0) (by first | rfl | omega) ?_; simp only [putS]; go_big_quiet_on) | (refine quiet_loadAny (t := 3) rfl _ _ _ rfl (fun w hw => rce_pty (ov_rce pc w hw) hp0) (by first | rfl | omega) ?_; simp only [putS]; go_big_quiet_on) | (go_big_quiet_op; go_big_quiet_on)))
 refine wpQuiet_nil ?_
 refine wpRL_callB (by rfl) (by first | rfl | simp [Region.wanted, yielded]) ?_ ?_
 ·intro wn hbn hE Kx hKx
  have hsz := B.size
  have hzn := hbn.size
  replace B := B.trans (hbn.mono B.size)
  (try replace r2 := r2.below hbn)
  (try replace pc := pc.below hbn)
  refine owp_allocBk (t := 30) _ (run_alloc_Rc _ _ rfl) ?_
  intro b wm h1 h2 ht hbm hzm
  exact hKx b wm ⟨Nat.le_trans hbn.size h1, ht⟩ (hbm.mono h1)
 rintro b_r3
 dsimp only [detS, ptrS]
 simp only [putS]
 refine wpRL_nil ?_
 intro wn hbn hE
 have hsz := B.size
 have hzn := hbn.size
 replace B := B.trans (hbn.mono B.size)
 (try replace r2 := r2.below hbn)
 (try replace pc := pc.below hbn)
 obtain ⟨hge_r3, r3⟩ : _ ∧ AtB _ _ _ _ := hE 17
 clear hE
 try simp only [List.drop_succ_cons, List.drop_zero]
 go_wp2_with (first | (refine wpList_storeB (t := 30) rfl _ _ rfl _ rfl _ rfl r3 (by kernel_rfl) rfl (by simp [rcA, Value.oneCell']) ?_; clear r3; intro wn ht hcn hzn; have hsz := B.size; replace hzn := Nat.le_of_eq hzn.symm; replace B := Chg.below B hcn (by omega) B.size; (try replace r2 := r2.of_eq (hcn.block _ r2.lt (by omega))); (try replace pc := pc.of_eq (hcn.block _ pc.lt (by omega))); have r3 := ht; clear ht; simp only [putS]) | fail)
 refine NoPan.normal ?_
 replace r3 : AtB 30 wn b_r3 (rcA (hullK l 1)) := by rw [H0.out]; exact r3
 have k2 := r2.lt
 have k3 := r3.lt
 clear hp0 q0
 go_upto_region 2 with fail
 refine wp_region_lit ?_
 try simp only [gelS]
 refine wpList_chunk 1 (by kernel_rfl) ?_
 simp only [takS, Nat.reduceAdd]
 repeat (first | go_big_quiet_skip | (go_big_quiet_want; go_big_quiet_op; go_big_quiet_on))
 refine wpQuiet_nil ?_
 refine wpList_nil ?_
 go_wp2
 go_loopw [4] (fun iv wr => ∃ k : Nat, k ≤ l.length ∧ 1 ≤ k ∧ iv = .int .i64 (k : Int) ∧ Below w.heap.size w wr ∧ AtB 30 wr b_r2 #[.int .i64 0, .int .i64 0, .int .i64 0, .int .i64 0] ∧ AtB 30 wr b_r3 (rcA (hullK l k))) (fun iv _ => (l.length - intOf iv).toNat)
 case atStart => exact ⟨1, by omega, by omega, rfl, B, r2, r3⟩
 case round =>
  clear B r2 r3 k2 k3 pc
  obtain ⟨k, hk, hk1, rfl, B, r2, r3⟩ := hrel
  have k2 := r2.lt
  have k3 := r3.lt
  have pc := PC.out.of_eq (B.block _ PC.out.lt)
  by_cases hkl : k < l.length
  ·have q1 : decide ((k : Int) < (l.length : Int)) = true := decide_eq_true (by omega)
   have q2 : decide (k < l.length) = true := decide_eq_true hkl
   obtain ⟨⟨x, y⟩, he⟩ : ∃ e, ptG l k = e := ⟨_, rfl⟩
   have hp := pt_at hkl he
   obtain ⟨⟨x1, y1, x2, y2⟩, hR⟩ : ∃ r, hullK l k = r := ⟨_, rfl⟩
   have HNX := Lib.hid (show hullK l (k + 1) = ⟨min x1 x, min y1 y, max x2 x, max y2 y⟩ from by rw [HK.out k hkl, hR, he]; rfl)
   rw [hR] at r3
   replace r3 : AtB 30 _ b_r3 #[.int .i64 x1, .int .i64 y1, .int .i64 x2, .int .i64 y2] := r3
   clear he hR
   go_upto_region 3 with fail
   refine wp_region_lit ?_
   try simp only [gelS]
   refine wpList_chunk 2 (by kernel_rfl) ?_
   simp only [takS, Nat.reduceAdd]
   repeat (first | go_big_quiet_skip | (go_big_quiet_want; go_big_quiet_op; go_big_quiet_on))
   refine wpQuiet_nil ?_
   refine wpList_lenS (by first | rfl | simp [Region.wanted, yielded]) rfl Tryz.underlying22 rfl ?_
   simp only [putS]
   refine wpList_chunk 1 (by kernel_rfl) ?_
   simp only [takS, Nat.reduceAdd]
   repeat (first | go_big_quiet_skip | (go_big_quiet_want; go_big_quiet_op; go_big_quiet_on))
   refine wpQuiet_nil ?_
   refine wpList_nil ?_
   go_upto_region 5 with fail
   try simp only [gelS]
   try have lx_r2 := r2.lt
   try have lx_r3 := r3.lt
   try have lx_pc := pc.lt
   refine wp_region_RL 33 [(7, detS ?v3_7), (15, detS ?v3_15), (23, detS ?v3_23), (31, detS ?v3_31)] (by kernel_rfl) (by kernel_rfl) (by kernel_rfl) ?_
   rotate_left 4
   simp only [takS, Nat.reduceAdd]
   refine wpRL_chunk 7 (by kernel_rfl) ?_
   simp only [takS, Nat.reduceAdd]
   repeat (first | go_big_quiet_skip | (go_big_quiet_want; first | (refine quiet_loadAny (t := 3) rfl _ _ _ rfl (fun w hw => run_load_int ((ov_B r3 w hw).cellL 0 rfl)) (by rfl) ?_; simp only [putS]; go_big_quiet_on) | (refine quiet_loadAny (t := 3) rfl _ _ _ rfl (fun w hw => run_load_int ((ov_B r3 w hw).cellL 1 rfl)) (by rfl) ?_; simp only [putS]; go_big_quiet_on) | (refine quiet_loadAny (t := 3) rfl _ _ _ rfl (fun w hw => run_load_int ((ov_B r3 w hw).cellL 2 rfl)) (by rfl) ?_; simp only [putS]; go_big_quiet_on) | (refine quiet_loadAny (t := 3) rfl _ _ _ rfl (fun w hw => run_load_int ((ov_B r3 w hw).cellL 3 rfl)) (by rfl) ?_; simp only [putS]; go_big_quiet_on) | (refine quiet_loadAny (t := 3) rfl _ _ _ rfl (fun w hw => rce_ptx (ov_rce pc w hw) hp) (by first | rfl | omega) ?_; simp only [putS]; go_big_quiet_on) | (refine quiet_loadAny (t := 3) rfl _ _ _ rfl (fun w hw => rce_pty (ov_rce pc w hw) hp) (by first | rfl | omega) ?_; simp only [putS]; go_big_quiet_on) | (go_big_quiet_op; go_big_quiet_on)))
   refine wpQuiet_nil ?_
   refine wpRL_callB (by rfl) (by first | rfl | simp [Region.wanted, yielded]) ?_ ?_
   ·intro wn hbn hE Kx hKx
    have hsz := B.size
    have hzn := hbn.size
    replace B := B.trans (hbn.mono B.size)
    (try replace r2 := r2.below hbn)
    (try replace r3 := r3.below hbn)
    (try replace pc := pc.below hbn)
    go_simp
    exact hKx () _ trivial (Below.refl _ _)
   rintro ⟨⟩
   dsimp only [detS]
   simp only [putS]
   refine wpRL_chunk 7 (by kernel_rfl) ?_
   simp only [takS, Nat.reduceAdd]
   repeat (first | go_big_quiet_skip | (go_big_quiet_want; first | (refine quiet_loadAny (t := 3) rfl _ _ _ rfl (fun w hw => run_load_int ((ov_B r3 w hw).cellL 0 rfl)) (by rfl) ?_; simp only [putS]; go_big_quiet_on) | (refine quiet_loadAny (t := 3) rfl _ _ _ rfl (fun w hw => run_load_int ((ov_B r3 w hw).cellL 1 rfl)) (by rfl) ?_; simp only [putS]; go_big_quiet_on) | (refine quiet_loadAny (t := 3) rfl _ _ _ rfl (fun w hw => run_load_int ((ov_B r3 w hw).cellL 2 rfl)) (by rfl) ?_; simp only [putS]; go_big_quiet_on) | (refine quiet_loadAny (t := 3) rfl _ _ _ rfl (fun w hw => run_load_int ((ov_B r3 w hw).cellL 3 rfl)) (by rfl) ?_; simp only [putS]; go_big_quiet_on) | (refine quiet_loadAny (t := 3) rfl _ _ _ rfl (fun w hw => rce_ptx (ov_rce pc w hw) hp) (by first | rfl | omega) ?_; simp only [putS]; go_big_quiet_on) | (refine quiet_loadAny (t := 3) rfl _ _ _ rfl (fun w hw => rce_pty (ov_rce pc w hw) hp) (by first | rfl | omega) ?_; simp only [putS]; go_big_quiet_on) | (go_big_quiet_op; go_big_quiet_on)))
   refine wpQuiet_nil ?_
   refine wpRL_callB (by rfl) (by first | rfl | simp [Region.wanted, yielded]) ?_ ?_
   ·intro wn hbn hE Kx hKx
    have hsz := B.size
    have hzn := hbn.size
    replace B := B.trans (hbn.mono B.size)
    (try replace r2 := r2.below hbn)
    (try replace r3 := r3.below hbn)
    (try replace pc := pc.below hbn)
    go_simp
    exact hKx () _ trivial (Below.refl _ _)
   rintro ⟨⟩
   dsimp only [detS]
   simp only [putS]
   refine wpRL_chunk 7 (by kernel_rfl) ?_
   simp only [takS, Nat.reduceAdd]
   repeat (first | go_big_quiet_skip | (go_big_quiet_want; first | (refine quiet_loadAny (t := 3) rfl _ _ _ rfl (fun w hw => run_load_int ((ov_B r3 w hw).cellL 0 rfl)) (by rfl) ?_; simp only [putS]; go_big_quiet_on) | (refine quiet_loadAny (t := 3) rfl _ _ _ rfl (fun w hw => run_load_int ((ov_B r3 w hw).cellL 1 rfl)) (by rfl) ?_; simp only [putS]; go_big_quiet_on) | (refine quiet_loadAny (t := 3) rfl _ _ _ rfl (fun w hw => run_load_int ((ov_B r3 w hw).cellL 2 rfl)) (by rfl) ?_; simp only [putS]; go_big_quiet_on) | (refine quiet_loadAny (t := 3) rfl _ _ _ rfl (fun w hw => run_load_int ((ov_B r3 w hw).cellL 3 rfl)) (by rfl) ?_; simp only [putS]; go_big_quiet_on) | (refine quiet_loadAny (t := 3) rfl _ _ _ rfl (fun w hw => rce_ptx (ov_rce pc w hw) hp) (by first | rfl | omega) ?_; simp only [putS]; go_big_quiet_on) | (refine quiet_loadAny (t := 3) rfl _ _ _ rfl (fun w hw => rce_pty (ov_rce pc w hw) hp) (by first | rfl | omega) ?_; simp only [putS]; go_big_quiet_on) | (go_big_quiet_op; go_big_quiet_on)))
   refine wpQuiet_nil ?_
   refine wpRL_callB (by rfl) (by first | rfl | simp [Region.wanted, yielded]) ?_ ?_
   ·intro wn hbn hE Kx hKx
    have hsz := B.size
    have hzn := hbn.size
    replace B := B.trans (hbn.mono B.size)
    (try replace r2 := r2.below hbn)
    (try replace r3 := r3.below hbn)
    (try replace pc := pc.below hbn)
    go_simp
    exact hKx () _ trivial (Below.refl _ _)
   rintro ⟨⟩
   dsimp only [detS]
   simp only [putS]
   refine wpRL_chunk 7 (by kernel_rfl) ?_
   simp only [takS, Nat.reduceAdd]
   repeat (first | go_big_quiet_skip | (go_big_quiet_want; first | (refine quiet_loadAny (t := 3) rfl _ _ _ rfl (fun w hw => run_load_int ((ov_B r3 w hw).cellL 0 rfl)) (by rfl) ?_; simp only [putS]; go_big_quiet_on) | (refine quiet_loadAny (t := 3) rfl _ _ _ rfl (fun w hw => run_load_int ((ov_B r3 w hw).cellL 1 rfl)) (by rfl) ?_; simp only [putS]; go_big_quiet_on) | (refine quiet_loadAny (t := 3) rfl _ _ _ rfl (fun w hw => run_load_int ((ov_B r3 w hw).cellL 2 rfl)) (by rfl) ?_; simp only [putS]; go_big_quiet_on) | (refine quiet_loadAny (t := 3) rfl _ _ _ rfl (fun w hw => run_load_int ((ov_B r3 w hw).cellL 3 rfl)) (by rfl) ?_; simp only [putS]; go_big_quiet_on) | (refine quiet_loadAny (t := 3) rfl _ _ _ rfl (fun w hw => rce_ptx (ov_rce pc w hw) hp) (by first | rfl | omega) ?_; simp only [putS]; go_big_quiet_on) | (refine quiet_loadAny (t := 3) rfl _ _ _ rfl (fun w hw => rce_pty (ov_rce pc w hw) hp) (by first | rfl | omega) ?_; simp only [putS]; go_big_quiet_on) | (go_big_quiet_op; go_big_quiet_on)))
   refine wpQuiet_nil ?_
   refine wpRL_callB (by rfl) (by first | rfl | simp [Region.wanted, yielded]) ?_ ?_
   ·intro wn hbn hE Kx hKx
    have hsz := B.size
    have hzn := hbn.size
    replace B := B.trans (hbn.mono B.size)
    (try replace r2 := r2.below hbn)
    (try replace r3 := r3.below hbn)
    go_simp
    exact hKx () _ trivial (Below.refl _ _)
   rintro ⟨⟩
   dsimp only [detS]
   simp only [putS]
   refine wpRL_chunk 1 (by kernel_rfl) ?_
   simp only [takS, Nat.reduceAdd]
   repeat (first | go_big_quiet_skip | (go_big_quiet_want; go_big_quiet_op; go_big_quiet_on))
   refine wpQuiet_nil ?_
   refine wpRL_nil ?_
   intro wn hbn hE
   have hsz := B.size
   have hzn := hbn.size
   replace B := B.trans (hbn.mono B.size)
   (try replace r2 := r2.below hbn)
   (try replace r3 := r3.below hbn)
   clear hE
   try simp only [List.drop_succ_cons, List.drop_zero]
   go_wp2_with (first | (refine wpList_storeB (t := 30) rfl _ _ rfl _ rfl _ rfl r3 (by kernel_rfl) rfl (by simp [rcA, Value.oneCell']) ?_; clear r3; intro wn ht hcn hzn; have hsz := B.size; replace hzn := Nat.le_of_eq hzn.symm; replace B := Chg.below B hcn (by omega) B.size; (try replace r2 := r2.of_eq (hcn.block _ r2.lt (by omega))); have r3 := ht; clear ht; simp only [putS]) | fail)
   refine NoPan.normal ?_
   go_wp2
   go_roundw
   case rel => exact ⟨k + 1, by omega, by omega, by go_num, B, r2, by rw [HNX.out]; exact r3⟩
   case measure => simp [intOf]; omega
  ·obtain rfl : k = l.length := by omega
   have q1 : decide (((l.length : Nat) : Int) < (l.length : Int)) = false := decide_eq_false (by omega)
   have q2 : decide (l.length < l.length) = false := decide_eq_false (by omega)
   rw [HA.out] at r3
   go_upto_region 3 with fail
   refine wp_region_lit ?_
   try simp only [gelS]
   refine wpList_chunk 2 (by kernel_rfl) ?_
   simp only [takS, Nat.reduceAdd]
   repeat (first | go_big_quiet_skip | (go_big_quiet_want; go_big_quiet_op; go_big_quiet_on))
   refine wpQuiet_nil ?_
   refine wpList_lenS (by first | rfl | simp [Region.wanted, yielded]) rfl Tryz.underlying22 rfl ?_
   simp only [putS]
   refine wpList_chunk 1 (by kernel_rfl) ?_
   simp only [takS, Nat.reduceAdd]
   repeat (first | go_big_quiet_skip | (go_big_quiet_want; go_big_quiet_op; go_big_quiet_on))
   refine wpQuiet_nil ?_
   refine wpList_nil ?_
   go_upto_region 6 with fail
   refine wp_region_lit ?_
   try simp only [gelS]
   refine wpList_chunk 1 (by kernel_rfl) ?_
   simp only [takS, Nat.reduceAdd]
   repeat (first | go_big_quiet_skip | (go_big_quiet_want; first | (refine quiet_loadAny (t := 30) rfl _ _ _ rfl (fun w hw => run_load_B (ov_B r3 w hw) Tryz.isAgg30 (by kernel_rfl)) (by rfl) ?_; simp only [putS]; go_big_quiet_on) | (go_big_quiet_op; go_big_quiet_on)))
   refine wpQuiet_nil ?_
   (refine wpList_storeB (t := 30) rfl _ _ rfl _ rfl _ rfl r2 (by kernel_rfl) rfl (by simp [rcA, Value.oneCell']) ?_; clear r2; intro wn ht hcn hzn; have hsz := B.size; replace hzn := Nat.le_of_eq hzn.symm; replace B := Chg.below B hcn (by omega) B.size; have r2 := ht; clear ht; simp only [putS])
   refine wpList_nil ?_
   go_wp2
   refine bodyPost_ret (results_B (t := 30) rfl _ _ (b_r2) rfl r2 Tryz.isAgg30 (by kernel_rfl)) rfl ?_
   exact ⟨rfl, B⟩
theorem P_InterO (r s : Rc) (q : Rc) (w : World) (e : interR r s = q) : Calls Tryz.prog 63 #[.agg (rcA r), .agg (rcA s)] w fun e w' => e = .returned (.agg (rcA q)) ∧ Below w.heap.size w w' := e ▸ P_Intersect r s w
theorem inter_self (r : Rc) : interR r r = normR r := by
 unfold interR
 congr 1
 obtain ⟨a, b, c, d⟩ := r
 simp
theorem P_ValidO (v : Value) (l : List Pnt) (b : Bool) (w : World) (h : RSE ptE v l w) (hn : l.length ≤ maxLen) (e : validG l = b) : Calls Tryz.prog 29 #[v] w fun e w' => e = .returned (.bool b) ∧ Below w.heap.size w w' := e ▸ P_ValidG v l w h hn
theorem R_ValidGO (v : Value) (l : List Pnt) (b : Bool) (w : World) (h : RSE ptE v l w) (hn : l.length ≤ maxLen) (e : validG l = b) : Calls Tryz.prog 25 #[v] w fun e w' => e = .returned (.bool b) ∧ Below w.heap.size w w' := e ▸ R_ValidG v l w h hn
theorem run_build_Rc0 (w : World) : (Instr.build 30 #[]).run Tryz.prog w = .ok (.agg (rcA Rc.zero)) w := by kernel_rfl
theorem quiet_buildRc0 {o : Oper} {a : Act} {C : World → Prop} {K : Act → Prop} (h : o.op = .build 30 #[]) (hk : K (a.put o.dst (.agg (rcA Rc.zero)))) : o.quiet Tryz.prog a C K :=
 ⟨_, fun w hw => by
  unfold Oper.quietAt execOp
  simp only [h, List.map_toArray, List.map_nil, Sem.run_bind, run_build_Rc0, Result.andThen_ok, Sem.run_pure]
  exact ⟨rfl, rfl⟩, hk⟩
set_option maxHeartbeats 4000000 in
theorem P_BoundG (v : Value) (l : List Pnt) (w : World) (h : RSE ptE v l w) (hn : l.length ≤ maxLen) : Calls Tryz.prog 28 #[v] w fun e w' => e = .returned (.agg (rcA (boundG l))) ∧ Below w.heap.size w w' := by
 have B := Below.refl w.heap.size w
 have HS := Lib.hid h
 clear h
 cases hv : validG l with
 | true =>
  have HV := Lib.hid hv
  have e1 : boundG l = normR (hullG l) := by unfold boundG; rw [if_pos hv]
  have hl := (validG_iff.1 hv).1
  rw [e1]
  clear hv e1
  go_enter Tryz.func28, Tryz.ntmps28
  go_upto_region 0 with fail
  refine wp_region_lit ?_
  try simp only [gelS]
  (refine wpList_allocBk (t := 30) rfl _ (run_alloc_Rc _ _ rfl) ?_; intro b_r2 wn hle hge ht hbn hzn; have hsz := B.size; replace B := B.trans (hbn.mono (by omega)); have hln := Nat.lt_of_lt_of_eq (Nat.lt_succ_self _) hzn.symm; clear hzn; have r2 := ht; clear ht; simp only [putS])
  refine wpList_nil ?_
  go_upto_region 1 with fail
  refine wp_region_lit ?_
  try simp only [gelS]
  refine wpList_chunk 1 (by kernel_rfl) ?_
  simp only [takS, Nat.reduceAdd]
  repeat (first | go_big_quiet_skip | (go_big_quiet_want; go_big_quiet_op; go_big_quiet_on))
  refine wpQuiet_nil ?_
  refine wpList_callF (by first | rfl | simp [Region.wanted, yielded]) rfl (enters_of Tryz.func29 (by kernel_rfl) rfl) (by simp only [Act.eval, evlS]; rfl) ?_
  refine (P_ValidO _ l true _ (HS.out.below B) hn HV.out).mono ?_
  rintro e wn ⟨rfl, hbn⟩
  have hsz := B.size
  have hzn := hbn.size
  replace B := B.trans (hbn.mono B.size)
  (try replace r2 := r2.below hbn)
  refine ⟨_, rfl, ?_⟩
  simp only [putS]
  refine wpList_chunk 1 (by kernel_rfl) ?_
  simp only [takS, Nat.reduceAdd]
  repeat (first | go_big_quiet_skip | (go_big_quiet_want; go_big_quiet_op; go_big_quiet_on))
  refine wpQuiet_nil ?_
  refine wpList_nil ?_
  go_upto_region 3 with fail
  refine wp_region_lit ?_
  try simp only [gelS]
  refine wpList_chunk 1 (by kernel_rfl) ?_
  simp only [takS, Nat.reduceAdd]
  repeat (first | go_big_quiet_skip | (go_big_quiet_want; go_big_quiet_op; go_big_quiet_on))
  refine wpQuiet_nil ?_
  refine wpList_callF (by first | rfl | simp [Region.wanted, yielded]) rfl (enters_of Tryz.func64 (by kernel_rfl) rfl) (by simp only [Act.eval, evlS]; rfl) ?_
  refine (P_hull _ l _ (HS.out.below B) (by omega) (by omega)).mono ?_
  rintro e wn ⟨rfl, hbn⟩
  have hsz := B.size
  have hzn := hbn.size
  replace B := B.trans (hbn.mono B.size)
  (try replace r2 := r2.below hbn)
  refine ⟨_, rfl, ?_⟩
  simp only [putS]
  refine wpList_chunk 1 (by kernel_rfl) ?_
  simp only [takS, Nat.reduceAdd]
  repeat (first | go_big_quiet_skip | (go_big_quiet_want; go_big_quiet_op; go_big_quiet_on))
  refine wpQuiet_nil ?_
  refine wpList_callF (by first | rfl | simp [Region.wanted, yielded]) rfl (enters_of Tryz.func64 (by kernel_rfl) rfl) (by simp only [Act.eval, evlS]; rfl) ?_
  refine (P_hull _ l _ (HS.out.below B) (by omega) (by omega)).mono ?_
  rintro e wn ⟨rfl, hbn⟩
  have hsz := B.size
  have hzn := hbn.size
  replace B := B.trans (hbn.mono B.size)
  (try replace r2 := r2.below hbn)
  refine ⟨_, rfl, ?_⟩
  simp only [putS]
  refine wpList_callF (by first | rfl | simp [Region.wanted, yielded]) rfl (enters_of Tryz.func63 (by kernel_rfl) rfl) (by simp only [Act.eval, evlS]; rfl) ?_
  refine (P_InterO _ _ _ _ (inter_self (hullG l))).mono ?_
  rintro e wn ⟨rfl, hbn⟩
  have hsz := B.size
  have hzn := hbn.size
  replace B := B.trans (hbn.mono B.size)
  (try replace r2 := r2.below hbn)
  refine ⟨_, rfl, ?_⟩
  simp only [putS]
  (refine wpList_storeB (t := 30) rfl _ _ rfl _ rfl _ rfl r2 (by kernel_rfl) rfl (by simp [rcA, Value.oneCell']) ?_; clear r2; intro wn ht hcn hzn; have hsz := B.size; replace hzn := Nat.le_of_eq hzn.symm; replace B := Chg.below B hcn (by omega) B.size; have r2 := ht; clear ht; simp only [putS])
  refine wpList_nil ?_
  go_wp2
  refine bodyPost_ret (results_B (t := 30) rfl _ _ (b_r2) rfl r2 Tryz.isAgg30 (by kernel_rfl)) rfl ?_
  exact ⟨rfl, B⟩
 | false =>
  have HV := Lib.hid hv
  have e1 : boundG l = Rc.zero := by unfold boundG; rw [hv]; rfl
  rw [e1]
  clear hv e1
  go_enter Tryz.func28, Tryz.ntmps28
  go_upto_region 0 with fail
  refine wp_region_lit ?_
  try simp only [gelS]
  (refine wpList_allocBk (t := 30) rfl _ (run_alloc_Rc _ _ rfl) ?_; intro b_r2 wn hle hge ht hbn hzn; have hsz := B.size; replace B := B.trans (hbn.mono (by omega)); have hln := Nat.lt_of_lt_of_eq (Nat.lt_succ_self _) hzn.symm; clear hzn; (try have hlt := r2.lt); (try replace r2 := r2.below (hbn.mono hle)); have r2 := ht; clear ht; simp only [putS])
  refine wpList_nil ?_
  go_upto_region 1 with fail
  refine wp_region_lit ?_
  try simp only [gelS]
  refine wpList_chunk 1 (by kernel_rfl) ?_
  simp only [takS, Nat.reduceAdd]
  repeat (first | go_big_quiet_skip | (go_big_quiet_want; go_big_quiet_op; go_big_quiet_on))
  refine wpQuiet_nil ?_
  refine wpList_callF (by first | rfl | simp [Region.wanted, yielded]) rfl (enters_of Tryz.func29 (by kernel_rfl) rfl) (by simp only [Act.eval, evlS]; rfl) ?_
  refine (P_ValidO _ l false _ (HS.out.below B) hn HV.out).mono ?_
  rintro e wn ⟨rfl, hbn⟩
  have hsz := B.size
  have hzn := hbn.size
  replace B := B.trans (hbn.mono B.size)
  (try replace r2 := r2.below hbn)
  refine ⟨_, rfl, ?_⟩
  simp only [putS]
  refine wpList_chunk 1 (by kernel_rfl) ?_
  simp only [takS, Nat.reduceAdd]
  repeat (first | go_big_quiet_skip | (go_big_quiet_want; go_big_quiet_op; go_big_quiet_on))
  refine wpQuiet_nil ?_
  refine wpList_nil ?_
  go_upto_region 2 with fail
  refine wp_region_lit ?_
  try simp only [gelS]
  refine wpList_chunk 1 (by kernel_rfl) ?_
  simp only [takS, Nat.reduceAdd]
  repeat (first | go_big_quiet_skip | (go_big_quiet_want; first | (refine quiet_buildRc0 rfl ?_; simp only [putS]; go_big_quiet_on) | (go_big_quiet_op; go_big_quiet_on)))
  refine wpQuiet_nil ?_
  (refine wpList_storeB (t := 30) rfl _ _ rfl _ rfl _ rfl r2 (by kernel_rfl) rfl (by simp [rcA, Value.oneCell']) ?_; clear r2; intro wn ht hcn hzn; have hsz := B.size; replace hzn := Nat.le_of_eq hzn.symm; replace B := Chg.below B hcn (by omega) B.size; have r2 := ht; clear ht; simp only [putS])
  refine wpList_nil ?_
  go_wp2
  refine bodyPost_ret (results_B (t := 30) rfl _ _ (b_r2) rfl r2 Tryz.isAgg30 (by kernel_rfl)) rfl ?_
  exact ⟨rfl, B⟩
theorem R_EmptyO (r : Rc) (b : Bool) (w : World) (e : emptyR r = b) : Calls Tryz.prog 27 #[.agg (rcA r)] w fun e w' => e = .returned (.bool b) ∧ Below w.heap.size w w' := e ▸ R_Empty r w
set_option maxHeartbeats 4000000 in
theorem R_BoundG (v : Value) (l : List Pnt) (w : World) (h : RSE ptE v l w) (hn : l.length ≤ maxLen) : Calls Tryz.prog 8 #[v] w fun e w' => e = .returned (.agg (rcA (boundG l))) ∧ Below w.heap.size w w' := by
 have B := Below.refl w.heap.size w
 have HS := Lib.hid h
 clear h
 cases hv : validG l with
 | true =>
  have HV := Lib.hid hv
  have e1 : boundG l = normR (hullG l) := by unfold boundG; rw [if_pos hv]
  have hl := (validG_iff.1 hv).1
  rw [e1]
  clear hv e1
  cases hE : emptyR (hullG l) with
  | true =>
   have HE := Lib.hid hE
   have e2 : normR (hullG l) = Rc.zero := by unfold normR; rw [hE]; rfl
   rw [e2]
   clear hE e2
   go_enter Tryz.func8, Tryz.ntmps8
   go_upto_region 0 with fail
   refine wp_region_lit ?_
   try simp only [gelS]
   (refine wpList_allocBk (t := 30) rfl _ (run_alloc_Rc _ _ rfl) ?_; intro b_r2 wn hle hge ht hbn hzn; have hsz := B.size; replace B := B.trans (hbn.mono (by omega)); have hln := Nat.lt_of_lt_of_eq (Nat.lt_succ_self _) hzn.symm; clear hzn; have r2 := ht; clear ht; simp only [putS])
   refine wpList_nil ?_
   go_upto_region 1 with fail
   refine wp_region_lit ?_
   try simp only [gelS]
   refine wpList_chunk 1 (by kernel_rfl) ?_
   simp only [takS, Nat.reduceAdd]
   repeat (first | go_big_quiet_skip | (go_big_quiet_want; go_big_quiet_op; go_big_quiet_on))
   refine wpQuiet_nil ?_
   refine wpList_callF (by first | rfl | simp [Region.wanted, yielded]) rfl (enters_of Tryz.func25 (by kernel_rfl) rfl) (by simp only [Act.eval, evlS]; rfl) ?_
   refine (R_ValidGO _ l true _ (HS.out.below B) hn HV.out).mono ?_
   rintro e wn ⟨rfl, hbn⟩
   have hsz := B.size
   have hzn := hbn.size
   replace B := B.trans (hbn.mono B.size)
   (try replace r2 := r2.below hbn)
   refine ⟨_, rfl, ?_⟩
   simp only [putS]
   refine wpList_chunk 1 (by kernel_rfl) ?_
   simp only [takS, Nat.reduceAdd]
   repeat (first | go_big_quiet_skip | (go_big_quiet_want; go_big_quiet_op; go_big_quiet_on))
   refine wpQuiet_nil ?_
   refine wpList_nil ?_
   go_upto_region 4 with fail
   refine wp_region_lit ?_
   try simp only [gelS]
   refine wpList_chunk 1 (by kernel_rfl) ?_
   simp only [takS, Nat.reduceAdd]
   repeat (first | go_big_quiet_skip | (go_big_quiet_want; go_big_quiet_op; go_big_quiet_on))
   refine wpQuiet_nil ?_
   refine wpList_callF (by first | rfl | simp [Region.wanted, yielded]) rfl (enters_of Tryz.func26 (by kernel_rfl) rfl) (by simp only [Act.eval, evlS]; rfl) ?_
   refine (R_hull _ l _ (HS.out.below B) (by omega) (by omega)).mono ?_
   rintro e wn ⟨rfl, hbn⟩
   have hsz := B.size
   have hzn := hbn.size
   replace B := B.trans (hbn.mono B.size)
   (try replace r2 := r2.below hbn)
   refine ⟨_, rfl, ?_⟩
   simp only [putS]
   (refine wpList_allocBk (t := 30) rfl _ (run_alloc_Rc _ _ rfl) ?_; intro b_r4 wn hle hge ht hbn hzn; have hsz := B.size; replace B := B.trans (hbn.mono (by omega)); have hln := Nat.lt_of_lt_of_eq (Nat.lt_succ_self _) hzn.symm; clear hzn; (try have hlt := r2.lt); (try replace r2 := r2.below (hbn.mono hle)); have r4 := ht; clear ht; simp only [putS])
   (refine wpList_storeB (t := 30) rfl _ _ rfl _ rfl _ rfl r4 (by kernel_rfl) rfl (by simp [rcA, Value.oneCell']) ?_; clear r4; intro wn ht hcn hzn; have hsz := B.size; replace hzn := Nat.le_of_eq hzn.symm; replace B := Chg.below B hcn (by omega) B.size; (try replace r2 := r2.of_eq (hcn.block _ r2.lt (by omega))); have r4 := ht; clear ht; simp only [putS])
   refine wpList_nil ?_
   go_upto_region 5 with fail
   refine wp_region_lit ?_
   try simp only [gelS]
   refine wpList_chunk 1 (by kernel_rfl) ?_
   simp only [takS, Nat.reduceAdd]
   repeat (first | go_big_quiet_skip | (go_big_quiet_want; first | (refine quiet_loadAny (t := 30) rfl _ _ _ rfl (fun w hw => run_load_B (ov_B r4 w hw) Tryz.isAgg30 (by kernel_rfl)) (by rfl) ?_; simp only [putS]; go_big_quiet_on) | (go_big_quiet_op; go_big_quiet_on)))
   refine wpQuiet_nil ?_
   refine wpList_callF (by first | rfl | simp [Region.wanted, yielded]) rfl (enters_of Tryz.func27 (by kernel_rfl) rfl) (by simp only [Act.eval, evlS]; rfl) ?_
   refine (R_EmptyO (hullG l) true _ HE.out).mono ?_
   rintro e wn ⟨rfl, hbn⟩
   have hsz := B.size
   have hzn := hbn.size
   replace B := B.trans (hbn.mono B.size)
   (try replace r2 := r2.below hbn)
   (try replace r4 := r4.below hbn)
   refine ⟨_, rfl, ?_⟩
   simp only [putS]
   refine wpList_chunk 1 (by kernel_rfl) ?_
   simp only [takS, Nat.reduceAdd]
   repeat (first | go_big_quiet_skip | (go_big_quiet_want; go_big_quiet_op; go_big_quiet_on))
   refine wpQuiet_nil ?_
   refine wpList_nil ?_
   go_upto_region 7 with fail
   refine wp_region_lit ?_
   try simp only [gelS]
   refine wpList_chunk 1 (by kernel_rfl) ?_
   simp only [takS, Nat.reduceAdd]
   repeat (first | go_big_quiet_skip | (go_big_quiet_want; first | (refine quiet_buildRc0 rfl ?_; simp only [putS]; go_big_quiet_on) | (go_big_quiet_op; go_big_quiet_on)))
   refine wpQuiet_nil ?_
   (refine wpList_storeB (t := 30) rfl _ _ rfl _ rfl _ rfl r2 (by kernel_rfl) rfl (by simp [rcA, Value.oneCell']) ?_; clear r2; intro wn ht hcn hzn; have hsz := B.size; replace hzn := Nat.le_of_eq hzn.symm; replace B := Chg.below B hcn (by omega) B.size; (try replace r4 := r4.of_eq (hcn.block _ r4.lt (by omega))); have r2 := ht; clear ht; simp only [putS])
   refine wpList_nil ?_
   go_wp2
   refine bodyPost_ret (results_B (t := 30) rfl _ _ (b_r2) rfl r2 Tryz.isAgg30 (by kernel_rfl)) rfl ?_
   exact ⟨rfl, B⟩
  | false =>
   have HE := Lib.hid hE
   have e2 : normR (hullG l) = hullG l := by unfold normR; rw [hE]; rfl
   rw [e2]
   clear hE e2
   go_enter Tryz.func8, Tryz.ntmps8
   go_upto_region 0 with fail
   refine wp_region_lit ?_
   try simp only [gelS]
   (refine wpList_allocBk (t := 30) rfl _ (run_alloc_Rc _ _ rfl) ?_; intro b_r2 wn hle hge ht hbn hzn; have hsz := B.size; replace B := B.trans (hbn.mono (by omega)); have hln := Nat.lt_of_lt_of_eq (Nat.lt_succ_self _) hzn.symm; clear hzn; (try have hlt := r2.lt); (try replace r2 := r2.below (hbn.mono hle)); (try have hlt := r4.lt); (try replace r4 := r4.below (hbn.mono hle)); have r2 := ht; clear ht; simp only [putS])
   refine wpList_nil ?_
   go_upto_region 1 with fail
   refine wp_region_lit ?_
   try simp only [gelS]
   refine wpList_chunk 1 (by kernel_rfl) ?_
   simp only [takS, Nat.reduceAdd]
   repeat (first | go_big_quiet_skip | (go_big_quiet_want; go_big_quiet_op; go_big_quiet_on))
   refine wpQuiet_nil ?_
   refine wpList_callF (by first | rfl | simp [Region.wanted, yielded]) rfl (enters_of Tryz.func25 (by kernel_rfl) rfl) (by simp only [Act.eval, evlS]; rfl) ?_
   refine (R_ValidGO _ l true _ (HS.out.below B) hn HV.out).mono ?_
   rintro e wn ⟨rfl, hbn⟩
   have hsz := B.size
   have hzn := hbn.size
   replace B := B.trans (hbn.mono B.size)
   (try replace r2 := r2.below hbn)
   (try replace r4 := r4.below hbn)
   refine ⟨_, rfl, ?_⟩
   simp only [putS]
   refine wpList_chunk 1 (by kernel_rfl) ?_
   simp only [takS, Nat.reduceAdd]
   repeat (first | go_big_quiet_skip | (go_big_quiet_want; go_big_quiet_op; go_big_quiet_on))
   refine wpQuiet_nil ?_
   refine wpList_nil ?_
   go_upto_region 4 with fail
   refine wp_region_lit ?_
   try simp only [gelS]
   refine wpList_chunk 1 (by kernel_rfl) ?_
   simp only [takS, Nat.reduceAdd]
   repeat (first | go_big_quiet_skip | (go_big_quiet_want; go_big_quiet_op; go_big_quiet_on))
   refine wpQuiet_nil ?_
   refine wpList_callF (by first | rfl | simp [Region.wanted, yielded]) rfl (enters_of Tryz.func26 (by kernel_rfl) rfl) (by simp only [Act.eval, evlS]; rfl) ?_
   refine (R_hull _ l _ (HS.out.below B) (by omega) (by omega)).mono ?_
   rintro e wn ⟨rfl, hbn⟩
   have hsz := B.size
   have hzn := hbn.size
   replace B := B.trans (hbn.mono B.size)
   (try replace r2 := r2.below hbn)
   (try replace r4 := r4.below hbn)
   refine ⟨_, rfl, ?_⟩
   simp only [putS]
   (refine wpList_allocBk (t := 30) rfl _ (run_alloc_Rc _ _ rfl) ?_; intro b_r4 wn hle hge ht hbn hzn; have hsz := B.size; replace B := B.trans (hbn.mono (by omega)); have hln := Nat.lt_of_lt_of_eq (Nat.lt_succ_self _) hzn.symm; clear hzn; (try have hlt := r2.lt); (try replace r2 := r2.below (hbn.mono hle)); (try have hlt := r4.lt); (try replace r4 := r4.below (hbn.mono hle)); have r4 := ht; clear ht; simp only [putS])
   (refine wpList_storeB (t := 30) rfl _ _ rfl _ rfl _ rfl r4 (by kernel_rfl) rfl (by simp [rcA, Value.oneCell']) ?_; clear r4; intro wn ht hcn hzn; have hsz := B.size; replace hzn := Nat.le_of_eq hzn.symm; replace B := Chg.below B hcn (by omega) B.size; (try replace r2 := r2.of_eq (hcn.block _ r2.lt (by omega))); have r4 := ht; clear ht; simp only [putS])
   refine wpList_nil ?_
   go_upto_region 5 with fail
   refine wp_region_lit ?_
   try simp only [gelS]
   refine wpList_chunk 1 (by kernel_rfl) ?_
   simp only [takS, Nat.reduceAdd]
   repeat (first | go_big_quiet_skip | (go_big_quiet_want; first | (refine quiet_loadAny (t := 30) rfl _ _ _ rfl (fun w hw => run_load_B (ov_B r4 w hw) Tryz.isAgg30 (by kernel_rfl)) (by rfl) ?_; simp only [putS]; go_big_quiet_on) | (go_big_quiet_op; go_big_quiet_on)))
   refine wpQuiet_nil ?_
   refine wpList_callF (by first | rfl | simp [Region.wanted, yielded]) rfl (enters_of Tryz.func27 (by kernel_rfl) rfl) (by simp only [Act.eval, evlS]; rfl) ?_
   refine (R_EmptyO (hullG l) false _ HE.out).mono ?_
   rintro e wn ⟨rfl, hbn⟩
   have hsz := B.size
   have hzn := hbn.size
   replace B := B.trans (hbn.mono B.size)
   (try replace r2 := r2.below hbn)
   (try replace r4 := r4.below hbn)
   refine ⟨_, rfl, ?_⟩
   simp only [putS]
   refine wpList_chunk 1 (by kernel_rfl) ?_
   simp only [takS, Nat.reduceAdd]
   repeat (first | go_big_quiet_skip | (go_big_quiet_want; go_big_quiet_op; go_big_quiet_on))
   refine wpQuiet_nil ?_
   refine wpList_nil ?_
   go_upto_region 8 with fail
   refine wp_region_lit ?_
   try simp only [gelS]
   refine wpList_chunk 1 (by kernel_rfl) ?_
   simp only [takS, Nat.reduceAdd]
   repeat (first | go_big_quiet_skip | (go_big_quiet_want; first | (refine quiet_buildRc0 rfl ?_; simp only [putS]; go_big_quiet_on) | (refine quiet_loadAny (t := 30) rfl _ _ _ rfl (fun w hw => run_load_B (ov_B r4 w hw) Tryz.isAgg30 (by kernel_rfl)) (by rfl) ?_; simp only [putS]; go_big_quiet_on) | (go_big_quiet_op; go_big_quiet_on)))
   refine wpQuiet_nil ?_
   (refine wpList_storeB (t := 30) rfl _ _ rfl _ rfl _ rfl r2 (by kernel_rfl) rfl (by simp [rcA, Value.oneCell']) ?_; clear r2; intro wn ht hcn hzn; have hsz := B.size; replace hzn := Nat.le_of_eq hzn.symm; replace B := Chg.below B hcn (by omega) B.size; have r2 := ht; clear ht; simp only [putS])
   refine wpList_nil ?_
   go_wp2
   refine bodyPost_ret (results_B (t := 30) rfl _ _ (b_r2) rfl r2 Tryz.isAgg30 (by kernel_rfl)) rfl ?_
   exact ⟨rfl, B⟩
 | false =>
  have HV := Lib.hid hv
  have e1 : boundG l = Rc.zero := by unfold boundG; rw [hv]; rfl
  rw [e1]
  clear hv e1
  go_enter Tryz.func8, Tryz.ntmps8
  go_upto_region 0 with fail
  refine wp_region_lit ?_
  try simp only [gelS]
  (refine wpList_allocBk (t := 30) rfl _ (run_alloc_Rc _ _ rfl) ?_; intro b_r2 wn hle hge ht hbn hzn; have hsz := B.size; replace B := B.trans (hbn.mono (by omega)); have hln := Nat.lt_of_lt_of_eq (Nat.lt_succ_self _) hzn.symm; clear hzn; (try have hlt := r2.lt); (try replace r2 := r2.below (hbn.mono hle)); (try have hlt := r4.lt); have r2 := ht; clear ht; simp only [putS])
  refine wpList_nil ?_
  go_upto_region 1 with fail
  refine wp_region_lit ?_
  try simp only [gelS]
  refine wpList_chunk 1 (by kernel_rfl) ?_
  simp only [takS, Nat.reduceAdd]
  repeat (first | go_big_quiet_skip | (go_big_quiet_want; go_big_quiet_op; go_big_quiet_on))
  refine wpQuiet_nil ?_
  refine wpList_callF (by first | rfl | simp [Region.wanted, yielded]) rfl (enters_of Tryz.func25 (by kernel_rfl) rfl) (by simp only [Act.eval, evlS]; rfl) ?_
  refine (R_ValidGO _ l false _ (HS.out.below B) hn HV.out).mono ?_
  rintro e wn ⟨rfl, hbn⟩
  have hsz := B.size
  have hzn := hbn.size
  replace B := B.trans (hbn.mono B.size)
  (try replace r2 := r2.below hbn)
  refine ⟨_, rfl, ?_⟩
  simp only [putS]
  refine wpList_chunk 1 (by kernel_rfl) ?_
  simp only [takS, Nat.reduceAdd]
  repeat (first | go_big_quiet_skip | (go_big_quiet_want; go_big_quiet_op; go_big_quiet_on))
  refine wpQuiet_nil ?_
  refine wpList_nil ?_
  go_upto_region 3 with fail
  refine wp_region_lit ?_
  try simp only [gelS]
  refine wpList_chunk 1 (by kernel_rfl) ?_
  simp only [takS, Nat.reduceAdd]
  repeat (first | go_big_quiet_skip | (go_big_quiet_want; first | (refine quiet_buildRc0 rfl ?_; simp only [putS]; go_big_quiet_on) | (go_big_quiet_op; go_big_quiet_on)))
  refine wpQuiet_nil ?_
  (refine wpList_storeB (t := 30) rfl _ _ rfl _ rfl _ rfl r2 (by kernel_rfl) rfl (by simp [rcA, Value.oneCell']) ?_; clear r2; intro wn ht hcn hzn; have hsz := B.size; replace hzn := Nat.le_of_eq hzn.symm; replace B := Chg.below B hcn (by omega) B.size; have r2 := ht; clear ht; simp only [putS])
  refine wpList_nil ?_
  go_wp2
  refine bodyPost_ret (results_B (t := 30) rfl _ _ (b_r2) rfl r2 Tryz.isAgg30 (by kernel_rfl)) rfl ?_
  exact ⟨rfl, B⟩
/- Contracts of odd, cover, Cover of package selection and of its reference; of Path. -/
theorem P_crossesO (ax ay bx bv u v : Int) (b : Bool) (h1 : -600000 ≤ ax ∧ ax ≤ 600000) (h2 : -600000 ≤ ay ∧ ay ≤ 600000) (h3 : -600000 ≤ bx ∧ bx ≤ 600000) (h4 : -600000 ≤ bv ∧ bv ≤ 600000) (h5 : -600000 ≤ u ∧ u ≤ 600000) (h6 : -600000 ≤ v ∧ v ≤ 600000) (w : World) (e : crs (ax, ay) (bx, bv) u v = b) : Calls Tryz.prog 109 #[.agg #[.int .i64 ax, .int .i64 ay], .agg #[.int .i64 bx, .int .i64 bv], .int .i64 u, .int .i64 v] w fun e w' => e = .returned (.bool b) ∧ Below w.heap.size w w' := e ▸ P_crosses ax ay bx bv u v h1 h2 h3 h4 h5 h6 w
theorem R_crossesO (ax ay bx bv u v : Int) (b : Bool) (h1 : -600000 ≤ ax ∧ ax ≤ 600000) (h2 : -600000 ≤ ay ∧ ay ≤ 600000) (h3 : -600000 ≤ bx ∧ bx ≤ 600000) (h4 : -600000 ≤ bv ∧ bv ≤ 600000) (h5 : -600000 ≤ u ∧ u ≤ 600000) (h6 : -600000 ≤ v ∧ v ≤ 600000) (w : World) (e : crs (ax, ay) (bx, bv) u v = b) : Calls Tryz.prog 117 #[.agg #[.int .i64 ax, .int .i64 ay], .agg #[.int .i64 bx, .int .i64 bv], .int .i64 u, .int .i64 v] w fun e w' => e = .returned (.bool b) ∧ Below w.heap.size w w' := e ▸ R_crosses ax ay bx bv u v h1 h2 h3 h4 h5 h6 w
theorem parK_step {f : Nat → Bool} {k : Nat} {b c : Bool} (h : parK f k = c) (hf : f k = b) : parK f (k + 1) = if b = true then !c else c := by
 show Bool.xor (parK f k) (f k) = _
 rw [h, hf]
 cases b <;> cases c <;> rfl
set_option maxHeartbeats 8000000 in
theorem P_odd (v : Value) (l : List Pnt) (u vv : Int) (w : World) (h : RSE ptE v l w) (hn : l.length ≤ 17592186044416) (hnear : nearL l) (hu : -600000 ≤ u ∧ u ≤ 600000) (hv : -600000 ≤ vv ∧ vv ≤ 600000) : Calls Tryz.prog 70 #[v, .int .i64 u, .int .i64 vv] w fun e w' => e = .returned (.bool (oddG l u vv)) ∧ Below w.heap.size w w' := by
 have B := Below.refl w.heap.size w
 obtain ⟨a, c, rfl, hc⟩ := h.len
 have HS := Lib.hid h
 have HN := Lib.hid hnear
 have hu1 := hu
 have hv1 := hv
 clear h hnear hu hv
 go_enter Tryz.func70, Tryz.ntmps70
 go_upto_region 2 with fail
 refine wp_region_lit ?_
 try simp only [gelS]
 refine wpList_chunk 1 (by kernel_rfl) ?_
 simp only [takS, Nat.reduceAdd]
 repeat (first | go_big_quiet_skip | (go_big_quiet_want; go_big_quiet_op; go_big_quiet_on))
 refine wpQuiet_nil ?_
 refine wpList_lenS (by first | rfl | simp [Region.wanted, yielded]) rfl Tryz.underlying22 rfl ?_
 simp only [putS]
 refine wpList_chunk 1 (by kernel_rfl) ?_
 simp only [takS, Nat.reduceAdd]
 repeat (first | go_big_quiet_skip | (go_big_quiet_want; go_big_quiet_op; go_big_quiet_on))
 refine wpQuiet_nil ?_
 refine wpList_nil ?_
 go_wp2
 go_loopw [7, 8, 9, 10, 13] (fun iv _ _ _ kv wr => ∃ k : Nat, k ≤ l.length ∧ kv = .int .i64 (k : Int) ∧ iv = .bool (parK (edgeB l u vv) k) ∧ Below w.heap.size w wr) (fun iv _ _ _ kv _ => (l.length - intOf kv).toNat)
 case atStart => exact ⟨0, by omega, rfl, rfl, B⟩
 case round =>
  clear B
  obtain ⟨k, hk, rfl, rfl, B⟩ := hrel
  by_cases hkl : k < l.length
  ·have q1 : decide ((k : Int) < (l.length : Int)) = true := decide_eq_true (by omega)
   have q2 : decide (k < l.length) = true := decide_eq_true hkl
   obtain ⟨g, o, rfl, rc0⟩ := HS.out.at (by omega)
   have pc := rc0.of_eq (B.block _ rc0.lt)
   clear rc0
   obtain ⟨j, hj⟩ : ∃ j, (k + 1) % l.length = j := ⟨_, rfl⟩
   have hjl : j < l.length := by rw [← hj]; exact Nat.mod_lt _ (by omega)
   have hm : ((k : Int) + 1) % (l.length : Int) = (j : Int) := by rw [← hj, Int.natCast_emod]; rfl
   have hmt : Int.tmod ((k : Int) + 1) (l.length : Int) = (j : Int) := by rw [Int.tmod_eq_emod_of_nonneg (by omega), hm]
   have hn0 : (l.length : Int) ≠ 0 := by omega
   have q3 : decide (j < l.length) = true := decide_eq_true hjl
   obtain ⟨⟨x, y⟩, he⟩ : ∃ e, ptG l k = e := ⟨_, rfl⟩
   obtain ⟨⟨x2, y2⟩, he2⟩ : ∃ e, ptG l j = e := ⟨_, rfl⟩
   have hp := pt_at hkl he
   have hp2 := pt_at hjl he2
   obtain ⟨b1, b2, b3, b4⟩ := farP_no.1 (HN.out _ (ptG_mem hkl))
   obtain ⟨b5, b6, b7, b8⟩ := farP_no.1 (HN.out _ (ptG_mem hjl))
   rw [he] at b1 b2 b3 b4
   rw [he2] at b5 b6 b7 b8
   dsimp only at b1 b2 b3 b4 b5 b6 b7 b8
   have HEB := Lib.hid (show edgeB l u vv k = crs (8 * x, 8 * y) (8 * x2, 8 * y2) u vv from by unfold edgeB; rw [hj, he, he2]; rfl)
   clear hj he he2
   obtain ⟨P0, hP0⟩ : ∃ b, parK (edgeB l u vv) k = b := ⟨_, rfl⟩
   rw [hP0]
   have HP0 := Lib.hid hP0
   clear hP0
   cases hcr : crs (8 * x, 8 * y) (8 * x2, 8 * y2) u vv with
   | true =>
    have HC := Lib.hid hcr
    have HST := Lib.hid (parK_step HP0.out (HEB.out.trans hcr))
    clear hcr
    go_upto_region 3 with fail
    refine wp_region_lit ?_
    try simp only [gelS]
    refine wpList_chunk 1 (by kernel_rfl) ?_
    simp only [takS, Nat.reduceAdd]
    repeat (first | go_big_quiet_skip | (go_big_quiet_want; go_big_quiet_op; go_big_quiet_on))
    refine wpQuiet_nil ?_
    refine wpList_nil ?_
    go_upto_region 4 with fail
    refine wp_region_lit ?_
    try simp only [gelS]
    refine wpList_chunk 3 (by kernel_rfl) ?_
    simp only [takS, Nat.reduceAdd]
    repeat (first | go_big_quiet_skip | (go_big_quiet_want; first | (refine quiet_loadAny (t := 53) rfl _ _ _ rfl (fun w hw => rce_pt (ov_rce pc w hw) hp) (by first | rfl | omega) ?_; simp only [putS]; go_big_quiet_on) | (go_big_quiet_op; go_big_quiet_on)))
    refine wpQuiet_nil ?_
    (refine wpList_allocBk (t := 53) rfl _ (run_alloc_Pt _ _ rfl) ?_; intro b_p9 wn hle hge ht hbn hzn; have hsz := B.size; replace B := B.trans (hbn.mono (by omega)); have hln := Nat.lt_of_lt_of_eq (Nat.lt_succ_self _) hzn.symm; clear hzn; (try have hlt := pc.lt); (try replace pc := pc.below (hbn.mono hle)); have p9 := ht; clear ht; simp only [putS])
    refine wpList_chunk 1 (by kernel_rfl) ?_
    simp only [takS, Nat.reduceAdd]
    repeat (first | go_big_quiet_skip | (go_big_quiet_want; go_big_quiet_op; go_big_quiet_on))
    refine wpQuiet_nil ?_
    (refine wpList_storeB (t := 53) rfl _ _ rfl _ rfl _ rfl p9 (by kernel_rfl) rfl (by simp [Value.oneCell']) ?_; clear p9; intro wn ht hcn hzn; have hsz := B.size; replace hzn := Nat.le_of_eq hzn.symm; replace B := Chg.below B hcn (by omega) B.size; (try replace pc := pc.of_eq (hcn.block _ pc.lt (by omega))); have p9 := ht; clear ht; simp only [putS])
    refine wpList_nil ?_
    replace p9 : AtB 53 _ b_p9 #[.int .i64 x, .int .i64 y] := p9
    go_upto_region 5 with fail
    refine wp_region_lit ?_
    try simp only [gelS]
    refine wpList_chunk 4 (by kernel_rfl) ?_
    simp only [takS, Nat.reduceAdd]
    repeat (first | go_big_quiet_skip | (go_big_quiet_want; go_big_quiet_op; go_big_quiet_on))
    refine wpQuiet_nil ?_
    refine wpList_lenS (by first | rfl | simp [Region.wanted, yielded]) rfl Tryz.underlying22 rfl ?_
    simp only [putS]
    refine wpList_chunk 3 (by kernel_rfl) ?_
    simp only [takS, Nat.reduceAdd]
    repeat (first | go_big_quiet_skip | (go_big_quiet_want; first | (refine quiet_loadAny (t := 53) rfl _ _ _ rfl (fun w hw => rce_pt (ov_rce pc w hw) hp2) (by first | rfl | omega) ?_; simp only [putS]; go_big_quiet_on) | (go_big_quiet_op; go_big_quiet_on)))
    refine wpQuiet_nil ?_
    (refine wpList_allocBk (t := 53) rfl _ (run_alloc_Pt _ _ rfl) ?_; intro b_p10 wn hle hge ht hbn hzn; have hsz := B.size; replace B := B.trans (hbn.mono (by omega)); have hln := Nat.lt_of_lt_of_eq (Nat.lt_succ_self _) hzn.symm; clear hzn; (try have hlt := p9.lt); (try replace p9 := p9.below (hbn.mono hle)); (try have hlt := pc.lt); (try replace pc := pc.below (hbn.mono hle)); have p10 := ht; clear ht; simp only [putS])
    (refine wpList_storeB (t := 53) rfl _ _ rfl _ rfl _ rfl p10 (by kernel_rfl) rfl (by simp [Value.oneCell']) ?_; clear p10; intro wn ht hcn hzn; have hsz := B.size; replace hzn := Nat.le_of_eq hzn.symm; replace B := Chg.below B hcn (by omega) B.size; (try replace p9 := p9.of_eq (hcn.block _ p9.lt (by omega))); (try replace pc := pc.of_eq (hcn.block _ pc.lt (by omega))); have p10 := ht; clear ht; simp only [putS])
    refine wpList_nil ?_
    replace p10 : AtB 53 _ b_p10 #[.int .i64 x2, .int .i64 y2] := p10
    go_upto_region 6 with fail
    refine wp_region_lit ?_
    try simp only [gelS]
    refine wpList_chunk 16 (by kernel_rfl) ?_
    simp only [takS, Nat.reduceAdd]
    repeat (first | go_big_quiet_skip | (go_big_quiet_want; first | (refine quiet_loadAny (t := 3) rfl _ _ _ rfl (fun w hw => run_load_int ((ov_B p9 w hw).cellL 0 rfl)) (by rfl) ?_; simp only [putS]; go_big_quiet_on) | (refine quiet_loadAny (t := 3) rfl _ _ _ rfl (fun w hw => run_load_int ((ov_B p9 w hw).cellL 1 rfl)) (by rfl) ?_; simp only [putS]; go_big_quiet_on) | (refine quiet_loadAny (t := 3) rfl _ _ _ rfl (fun w hw => run_load_int ((ov_B p10 w hw).cellL 0 rfl)) (by rfl) ?_; simp only [putS]; go_big_quiet_on) | (refine quiet_loadAny (t := 3) rfl _ _ _ rfl (fun w hw => run_load_int ((ov_B p10 w hw).cellL 1 rfl)) (by rfl) ?_; simp only [putS]; go_big_quiet_on) | (go_big_quiet_op; go_big_quiet_on)))
    refine wpQuiet_nil ?_
    refine wpList_callF (by first | rfl | simp [Region.wanted, yielded]) rfl (enters_of Tryz.func109 (by kernel_rfl) rfl) (by simp only [Act.eval, evlS]; rfl) ?_
    refine (P_crossesO (8 * x) (8 * y) (8 * x2) (8 * y2) u vv true (by omega) (by omega) (by omega) (by omega) hu1 hv1 _ HC.out).mono ?_
    rintro e wn ⟨rfl, hbn⟩
    have hsz := B.size
    have hzn := hbn.size
    replace B := B.trans (hbn.mono B.size)
    (try replace p9 := p9.below hbn)
    (try replace p10 := p10.below hbn)
    (try replace pc := pc.below hbn)
    refine ⟨_, rfl, ?_⟩
    simp only [putS]
    refine wpList_nil ?_
    go_wp2
    go_roundw
    case rel => exact ⟨k + 1, by omega, by go_num, by rw [HST.out]; try rfl, B⟩
    case measure => simp [intOf]; omega
   | false =>
    have HC := Lib.hid hcr
    have HST := Lib.hid (parK_step HP0.out (HEB.out.trans hcr))
    clear hcr
    go_upto_region 3 with fail
    refine wp_region_lit ?_
    try simp only [gelS]
    refine wpList_chunk 1 (by kernel_rfl) ?_
    simp only [takS, Nat.reduceAdd]
    repeat (first | go_big_quiet_skip | (go_big_quiet_want; go_big_quiet_op; go_big_quiet_on))
    refine wpQuiet_nil ?_
    refine wpList_nil ?_
    go_upto_region 4 with fail
    refine wp_region_lit ?_
    try simp only [gelS]
    refine wpList_chunk 3 (by kernel_rfl) ?_
    simp only [takS, Nat.reduceAdd]
    repeat (first | go_big_quiet_skip | (go_big_quiet_want; first | (refine quiet_loadAny (t := 53) rfl _ _ _ rfl (fun w hw => rce_pt (ov_rce pc w hw) hp) (by first | rfl | omega) ?_; simp only [putS]; go_big_quiet_on) | (go_big_quiet_op; go_big_quiet_on)))
    refine wpQuiet_nil ?_
    (refine wpList_allocBk (t := 53) rfl _ (run_alloc_Pt _ _ rfl) ?_; intro b_p9 wn hle hge ht hbn hzn; have hsz := B.size; replace B := B.trans (hbn.mono (by omega)); have hln := Nat.lt_of_lt_of_eq (Nat.lt_succ_self _) hzn.symm; clear hzn; (try have hlt := p9.lt); (try replace p9 := p9.below (hbn.mono hle)); (try have hlt := p10.lt); (try replace p10 := p10.below (hbn.mono hle)); (try have hlt := pc.lt); (try replace pc := pc.below (hbn.mono hle)); have p9 := ht; clear ht; simp only [putS])
    refine wpList_chunk 1 (by kernel_rfl) ?_
    simp only [takS, Nat.reduceAdd]
    repeat (first | go_big_quiet_skip | (go_big_quiet_want; go_big_quiet_op; go_big_quiet_on))
    refine wpQuiet_nil ?_
    (refine wpList_storeB (t := 53) rfl _ _ rfl _ rfl _ rfl p9 (by kernel_rfl) rfl (by simp [Value.oneCell']) ?_; clear p9; intro wn ht hcn hzn; have hsz := B.size; replace hzn := Nat.le_of_eq hzn.symm; replace B := Chg.below B hcn (by omega) B.size; (try replace p10 := p10.of_eq (hcn.block _ p10.lt (by omega))); (try replace pc := pc.of_eq (hcn.block _ pc.lt (by omega))); have p9 := ht; clear ht; simp only [putS])
    refine wpList_nil ?_
    replace p9 : AtB 53 _ b_p9 #[.int .i64 x, .int .i64 y] := p9
    go_upto_region 5 with fail
    refine wp_region_lit ?_
    try simp only [gelS]
    refine wpList_chunk 4 (by kernel_rfl) ?_
    simp only [takS, Nat.reduceAdd]
    repeat (first | go_big_quiet_skip | (go_big_quiet_want; go_big_quiet_op; go_big_quiet_on))
    refine wpQuiet_nil ?_
    refine wpList_lenS (by first | rfl | simp [Region.wanted, yielded]) rfl Tryz.underlying22 rfl ?_
    simp only [putS]
    refine wpList_chunk 3 (by kernel_rfl) ?_
    simp only [takS, Nat.reduceAdd]
    repeat (first | go_big_quiet_skip | (go_big_quiet_want; first | (refine quiet_loadAny (t := 53) rfl _ _ _ rfl (fun w hw => rce_pt (ov_rce pc w hw) hp2) (by first | rfl | omega) ?_; simp only [putS]; go_big_quiet_on) | (go_big_quiet_op; go_big_quiet_on)))
    refine wpQuiet_nil ?_
    (refine wpList_allocBk (t := 53) rfl _ (run_alloc_Pt _ _ rfl) ?_; intro b_p10 wn hle hge ht hbn hzn; have hsz := B.size; replace B := B.trans (hbn.mono (by omega)); have hln := Nat.lt_of_lt_of_eq (Nat.lt_succ_self _) hzn.symm; clear hzn; (try have hlt := p9.lt); (try replace p9 := p9.below (hbn.mono hle)); (try have hlt := p10.lt); (try replace p10 := p10.below (hbn.mono hle)); (try have hlt := pc.lt); have p10 := ht; clear ht; simp only [putS])
    (refine wpList_storeB (t := 53) rfl _ _ rfl _ rfl _ rfl p10 (by kernel_rfl) rfl (by simp [Value.oneCell']) ?_; clear p10; intro wn ht hcn hzn; have hsz := B.size; replace hzn := Nat.le_of_eq hzn.symm; replace B := Chg.below B hcn (by omega) B.size; (try replace p9 := p9.of_eq (hcn.block _ p9.lt (by omega))); have p10 := ht; clear ht; simp only [putS])
    refine wpList_nil ?_
    replace p10 : AtB 53 _ b_p10 #[.int .i64 x2, .int .i64 y2] := p10
    go_upto_region 6 with fail
    refine wp_region_lit ?_
    try simp only [gelS]
    refine wpList_chunk 16 (by kernel_rfl) ?_
    simp only [takS, Nat.reduceAdd]
    repeat (first | go_big_quiet_skip | (go_big_quiet_want; first | (refine quiet_loadAny (t := 3) rfl _ _ _ rfl (fun w hw => run_load_int ((ov_B p9 w hw).cellL 0 rfl)) (by rfl) ?_; simp only [putS]; go_big_quiet_on) | (refine quiet_loadAny (t := 3) rfl _ _ _ rfl (fun w hw => run_load_int ((ov_B p9 w hw).cellL 1 rfl)) (by rfl) ?_; simp only [putS]; go_big_quiet_on) | (refine quiet_loadAny (t := 3) rfl _ _ _ rfl (fun w hw => run_load_int ((ov_B p10 w hw).cellL 0 rfl)) (by rfl) ?_; simp only [putS]; go_big_quiet_on) | (refine quiet_loadAny (t := 3) rfl _ _ _ rfl (fun w hw => run_load_int ((ov_B p10 w hw).cellL 1 rfl)) (by rfl) ?_; simp only [putS]; go_big_quiet_on) | (go_big_quiet_op; go_big_quiet_on)))
    refine wpQuiet_nil ?_
    refine wpList_callF (by first | rfl | simp [Region.wanted, yielded]) rfl (enters_of Tryz.func109 (by kernel_rfl) rfl) (by simp only [Act.eval, evlS]; rfl) ?_
    refine (P_crossesO (8 * x) (8 * y) (8 * x2) (8 * y2) u vv false (by omega) (by omega) (by omega) (by omega) hu1 hv1 _ HC.out).mono ?_
    rintro e wn ⟨rfl, hbn⟩
    have hsz := B.size
    have hzn := hbn.size
    replace B := B.trans (hbn.mono B.size)
    refine ⟨_, rfl, ?_⟩
    simp only [putS]
    refine wpList_nil ?_
    go_wp2
    go_roundw
    case rel => exact ⟨k + 1, by omega, by go_num, by rw [HST.out]; try rfl, B⟩
    case measure => simp [intOf]; omega
  ·obtain rfl : k = l.length := by omega
   have q1 : decide (((l.length : Nat) : Int) < (l.length : Int)) = false := decide_eq_false (by omega)
   have q2 : decide (l.length < l.length) = false := decide_eq_false (by omega)
   go_wp2
   go_ret
   exact ⟨rfl, B⟩
theorem P_oddO (v : Value) (l : List Pnt) (u vv : Int) (b : Bool) (w : World) (h : RSE ptE v l w) (hn : l.length ≤ 17592186044416) (hnear : nearL l) (hu : -600000 ≤ u ∧ u ≤ 600000) (hv : -600000 ≤ vv ∧ vv ≤ 600000) (e : oddG l u vv = b) : Calls Tryz.prog 70 #[v, .int .i64 u, .int .i64 vv] w fun e w' => e = .returned (.bool b) ∧ Below w.heap.size w w' := e ▸ P_odd v l u vv w h hn hnear hu hv
set_option maxHeartbeats 8000000 in
theorem R_odd (v : Value) (l : List Pnt) (u vv : Int) (w : World) (h : RSE ptE v l w) (hn : l.length ≤ 17592186044416) (hnear : nearL l) (hu : -600000 ≤ u ∧ u ≤ 600000) (hv : -600000 ≤ vv ∧ vv ≤ 600000) : Calls Tryz.prog 75 #[v, .int .i64 u, .int .i64 vv] w fun e w' => e = .returned (.bool (oddG l u vv)) ∧ Below w.heap.size w w' := by
 have B := Below.refl w.heap.size w
 obtain ⟨a, c, rfl, hc⟩ := h.len
 have HS := Lib.hid h
 have HN := Lib.hid hnear
 have hu1 := hu
 have hv1 := hv
 clear h hnear hu hv
 go_enter Tryz.func75, Tryz.ntmps75
 go_upto_region 2 with fail
 refine wp_region_lit ?_
 try simp only [gelS]
 refine wpList_chunk 1 (by kernel_rfl) ?_
 simp only [takS, Nat.reduceAdd]
 repeat (first | go_big_quiet_skip | (go_big_quiet_want; go_big_quiet_op; go_big_quiet_on))
 refine wpQuiet_nil ?_
 refine wpList_nil ?_
 go_wp2
 go_loopw [7, 8, 9, 10, 11] (fun iv kv _ _ _ wr => ∃ k : Nat, k ≤ l.length ∧ kv = .int .i64 (k : Int) ∧ iv = .bool (parK (edgeB l u vv) k) ∧ Below w.heap.size w wr) (fun iv kv _ _ _ _ => (l.length - intOf kv).toNat)
 case atStart => exact ⟨0, by omega, rfl, rfl, B⟩
 case round =>
  clear B
  obtain ⟨k, hk, rfl, rfl, B⟩ := hrel
  by_cases hkl : k < l.length
  ·have q1 : decide ((k : Int) < (l.length : Int)) = true := decide_eq_true (by omega)
   have q2 : decide (k < l.length) = true := decide_eq_true hkl
   obtain ⟨g, o, rfl, rc0⟩ := HS.out.at (by omega)
   have pc := rc0.of_eq (B.block _ rc0.lt)
   clear rc0
   obtain ⟨j, hj⟩ : ∃ j, (k + 1) % l.length = j := ⟨_, rfl⟩
   have hjl : j < l.length := by rw [← hj]; exact Nat.mod_lt _ (by omega)
   have hm : ((k : Int) + 1) % (l.length : Int) = (j : Int) := by rw [← hj, Int.natCast_emod]; rfl
   have hmt : Int.tmod ((k : Int) + 1) (l.length : Int) = (j : Int) := by rw [Int.tmod_eq_emod_of_nonneg (by omega), hm]
   have hn0 : (l.length : Int) ≠ 0 := by omega
   have q3 : decide (j < l.length) = true := decide_eq_true hjl
   obtain ⟨⟨x, y⟩, he⟩ : ∃ e, ptG l k = e := ⟨_, rfl⟩
   obtain ⟨⟨x2, y2⟩, he2⟩ : ∃ e, ptG l j = e := ⟨_, rfl⟩
   have hp := pt_at hkl he
   have hp2 := pt_at hjl he2
   obtain ⟨b1, b2, b3, b4⟩ := farP_no.1 (HN.out _ (ptG_mem hkl))
   obtain ⟨b5, b6, b7, b8⟩ := farP_no.1 (HN.out _ (ptG_mem hjl))
   rw [he] at b1 b2 b3 b4
   rw [he2] at b5 b6 b7 b8
   dsimp only at b1 b2 b3 b4 b5 b6 b7 b8
   have HEB := Lib.hid (show edgeB l u vv k = crs (8 * x, 8 * y) (8 * x2, 8 * y2) u vv from by unfold edgeB; rw [hj, he, he2]; rfl)
   clear hj he he2
   obtain ⟨P0, hP0⟩ : ∃ b, parK (edgeB l u vv) k = b := ⟨_, rfl⟩
   rw [hP0]
   have HP0 := Lib.hid hP0
   clear hP0
   cases hcr : crs (8 * x, 8 * y) (8 * x2, 8 * y2) u vv with
   | true =>
    have HC := Lib.hid hcr
    have HST := Lib.hid (parK_step HP0.out (HEB.out.trans hcr))
    clear hcr
    go_upto_region 3 with fail
    refine wp_region_lit ?_
    try simp only [gelS]
    refine wpList_chunk 2 (by kernel_rfl) ?_
    simp only [takS, Nat.reduceAdd]
    repeat (first | go_big_quiet_skip | (go_big_quiet_want; go_big_quiet_op; go_big_quiet_on))
    refine wpQuiet_nil ?_
    refine wpList_lenS (by first | rfl | simp [Region.wanted, yielded]) rfl Tryz.underlying22 rfl ?_
    simp only [putS]
    refine wpList_chunk 1 (by kernel_rfl) ?_
    simp only [takS, Nat.reduceAdd]
    repeat (first | go_big_quiet_skip | (go_big_quiet_want; go_big_quiet_op; go_big_quiet_on))
    refine wpQuiet_nil ?_
    refine wpList_nil ?_
    go_upto_region 5 with fail
    refine wp_region_lit ?_
    try simp only [gelS]
    refine wpList_chunk 4 (by kernel_rfl) ?_
    simp only [takS, Nat.reduceAdd]
    repeat (first | go_big_quiet_skip | (go_big_quiet_want; first | (refine quiet_loadAny (t := 53) rfl _ _ _ rfl (fun w hw => rce_pt (ov_rce pc w hw) hp) (by first | rfl | omega) ?_; simp only [putS]; go_big_quiet_on) | (go_big_quiet_op; go_big_quiet_on)))
    refine wpQuiet_nil ?_
    (refine wpList_allocBk (t := 53) rfl _ (run_alloc_Pt _ _ rfl) ?_; intro b_p9 wn hle hge ht hbn hzn; have hsz := B.size; replace B := B.trans (hbn.mono (by omega)); have hln := Nat.lt_of_lt_of_eq (Nat.lt_succ_self _) hzn.symm; clear hzn; (try have hlt := pc.lt); (try replace pc := pc.below (hbn.mono hle)); have p9 := ht; clear ht; simp only [putS])
    (refine wpList_storeB (t := 53) rfl _ _ rfl _ rfl _ rfl p9 (by kernel_rfl) rfl (by simp [Value.oneCell']) ?_; clear p9; intro wn ht hcn hzn; have hsz := B.size; replace hzn := Nat.le_of_eq hzn.symm; replace B := Chg.below B hcn (by omega) B.size; (try replace pc := pc.of_eq (hcn.block _ pc.lt (by omega))); have p9 := ht; clear ht; simp only [putS])
    refine wpList_nil ?_
    replace p9 : AtB 53 _ b_p9 #[.int .i64 x, .int .i64 y] := p9
    go_upto_region 6 with fail
    refine wp_region_lit ?_
    try simp only [gelS]
    refine wpList_chunk 4 (by kernel_rfl) ?_
    simp only [takS, Nat.reduceAdd]
    repeat (first | go_big_quiet_skip | (go_big_quiet_want; go_big_quiet_op; go_big_quiet_on))
    refine wpQuiet_nil ?_
    refine wpList_lenS (by first | rfl | simp [Region.wanted, yielded]) rfl Tryz.underlying22 rfl ?_
    simp only [putS]
    refine wpList_chunk 3 (by kernel_rfl) ?_
    simp only [takS, Nat.reduceAdd]
    repeat (first | go_big_quiet_skip | (go_big_quiet_want; first | (refine quiet_loadAny (t := 53) rfl _ _ _ rfl (fun w hw => rce_pt (ov_rce pc w hw) hp2) (by first | rfl | omega) ?_; simp only [putS]; go_big_quiet_on) | (go_big_quiet_op; go_big_quiet_on)))
    refine wpQuiet_nil ?_
    (refine wpList_allocBk (t := 53) rfl _ (run_alloc_Pt _ _ rfl) ?_; intro b_p10 wn hle hge ht hbn hzn; have hsz := B.size; replace B := B.trans (hbn.mono (by omega)); have hln := Nat.lt_of_lt_of_eq (Nat.lt_succ_self _) hzn.symm; clear hzn; (try have hlt := p9.lt); (try replace p9 := p9.below (hbn.mono hle)); (try have hlt := pc.lt); (try replace pc := pc.below (hbn.mono hle)); have p10 := ht; clear ht; simp only [putS])
    (refine wpList_storeB (t := 53) rfl _ _ rfl _ rfl _ rfl p10 (by kernel_rfl) rfl (by simp [Value.oneCell']) ?_; clear p10; intro wn ht hcn hzn; have hsz := B.size; replace hzn := Nat.le_of_eq hzn.symm; replace B := Chg.below B hcn (by omega) B.size; (try replace p9 := p9.of_eq (hcn.block _ p9.lt (by omega))); (try replace pc := pc.of_eq (hcn.block _ pc.lt (by omega))); have p10 := ht; clear ht; simp only [putS])
    refine wpList_nil ?_
    replace p10 : AtB 53 _ b_p10 #[.int .i64 x2, .int .i64 y2] := p10
    go_upto_region 7 with fail
    refine wp_region_lit ?_
    try simp only [gelS]
    refine wpList_chunk 16 (by kernel_rfl) ?_
    simp only [takS, Nat.reduceAdd]
    repeat (first | go_big_quiet_skip | (go_big_quiet_want; first | (refine quiet_loadAny (t := 3) rfl _ _ _ rfl (fun w hw => run_load_int ((ov_B p9 w hw).cellL 0 rfl)) (by rfl) ?_; simp only [putS]; go_big_quiet_on) | (refine quiet_loadAny (t := 3) rfl _ _ _ rfl (fun w hw => run_load_int ((ov_B p9 w hw).cellL 1 rfl)) (by rfl) ?_; simp only [putS]; go_big_quiet_on) | (refine quiet_loadAny (t := 3) rfl _ _ _ rfl (fun w hw => run_load_int ((ov_B p10 w hw).cellL 0 rfl)) (by rfl) ?_; simp only [putS]; go_big_quiet_on) | (refine quiet_loadAny (t := 3) rfl _ _ _ rfl (fun w hw => run_load_int ((ov_B p10 w hw).cellL 1 rfl)) (by rfl) ?_; simp only [putS]; go_big_quiet_on) | (go_big_quiet_op; go_big_quiet_on)))
    refine wpQuiet_nil ?_
    refine wpList_callF (by first | rfl | simp [Region.wanted, yielded]) rfl (enters_of Tryz.func117 (by kernel_rfl) rfl) (by simp only [Act.eval, evlS]; rfl) ?_
    refine (R_crossesO (8 * x) (8 * y) (8 * x2) (8 * y2) u vv true (by omega) (by omega) (by omega) (by omega) hu1 hv1 _ HC.out).mono ?_
    rintro e wn ⟨rfl, hbn⟩
    have hsz := B.size
    have hzn := hbn.size
    replace B := B.trans (hbn.mono B.size)
    (try replace p9 := p9.below hbn)
    (try replace p10 := p10.below hbn)
    (try replace pc := pc.below hbn)
    refine ⟨_, rfl, ?_⟩
    simp only [putS]
    refine wpList_chunk 1 (by kernel_rfl) ?_
    simp only [takS, Nat.reduceAdd]
    repeat (first | go_big_quiet_skip | (go_big_quiet_want; go_big_quiet_op; go_big_quiet_on))
    refine wpQuiet_nil ?_
    refine wpList_nil ?_
    go_wp2
    go_roundw
    case rel => exact ⟨k + 1, by omega, by go_num, by rw [HST.out]; try rfl, B⟩
    case measure => simp [intOf]; omega
   | false =>
    have HC := Lib.hid hcr
    have HST := Lib.hid (parK_step HP0.out (HEB.out.trans hcr))
    clear hcr
    go_upto_region 3 with fail
    refine wp_region_lit ?_
    try simp only [gelS]
    refine wpList_chunk 2 (by kernel_rfl) ?_
    simp only [takS, Nat.reduceAdd]
    repeat (first | go_big_quiet_skip | (go_big_quiet_want; go_big_quiet_op; go_big_quiet_on))
    refine wpQuiet_nil ?_
    refine wpList_lenS (by first | rfl | simp [Region.wanted, yielded]) rfl Tryz.underlying22 rfl ?_
    simp only [putS]
    refine wpList_chunk 1 (by kernel_rfl) ?_
    simp only [takS, Nat.reduceAdd]
    repeat (first | go_big_quiet_skip | (go_big_quiet_want; go_big_quiet_op; go_big_quiet_on))
    refine wpQuiet_nil ?_
    refine wpList_nil ?_
    go_upto_region 5 with fail
    refine wp_region_lit ?_
    try simp only [gelS]
    refine wpList_chunk 4 (by kernel_rfl) ?_
    simp only [takS, Nat.reduceAdd]
    repeat (first | go_big_quiet_skip | (go_big_quiet_want; first | (refine quiet_loadAny (t := 53) rfl _ _ _ rfl (fun w hw => rce_pt (ov_rce pc w hw) hp) (by first | rfl | omega) ?_; simp only [putS]; go_big_quiet_on) | (go_big_quiet_op; go_big_quiet_on)))
    refine wpQuiet_nil ?_
    (refine wpList_allocBk (t := 53) rfl _ (run_alloc_Pt _ _ rfl) ?_; intro b_p9 wn hle hge ht hbn hzn; have hsz := B.size; replace B := B.trans (hbn.mono (by omega)); have hln := Nat.lt_of_lt_of_eq (Nat.lt_succ_self _) hzn.symm; clear hzn; (try have hlt := p9.lt); (try replace p9 := p9.below (hbn.mono hle)); (try have hlt := p10.lt); (try replace p10 := p10.below (hbn.mono hle)); (try have hlt := pc.lt); (try replace pc := pc.below (hbn.mono hle)); have p9 := ht; clear ht; simp only [putS])
    (refine wpList_storeB (t := 53) rfl _ _ rfl _ rfl _ rfl p9 (by kernel_rfl) rfl (by simp [Value.oneCell']) ?_; clear p9; intro wn ht hcn hzn; have hsz := B.size; replace hzn := Nat.le_of_eq hzn.symm; replace B := Chg.below B hcn (by omega) B.size; (try replace p10 := p10.of_eq (hcn.block _ p10.lt (by omega))); (try replace pc := pc.of_eq (hcn.block _ pc.lt (by omega))); have p9 := ht; clear ht; simp only [putS])
    refine wpList_nil ?_
    replace p9 : AtB 53 _ b_p9 #[.int .i64 x, .int .i64 y] := p9
    go_upto_region 6 with fail
    refine wp_region_lit ?_
    try simp only [gelS]
    refine wpList_chunk 4 (by kernel_rfl) ?_
    simp only [takS, Nat.reduceAdd]
    repeat (first | go_big_quiet_skip | (go_big_quiet_want; go_big_quiet_op; go_big_quiet_on))
    refine wpQuiet_nil ?_
    refine wpList_lenS (by first | rfl | simp [Region.wanted, yielded]) rfl Tryz.underlying22 rfl ?_
    simp only [putS]
    refine wpList_chunk 3 (by kernel_rfl) ?_
    simp only [takS, Nat.reduceAdd]
    repeat (first | go_big_quiet_skip | (go_big_quiet_want; first | (refine quiet_loadAny (t := 53) rfl _ _ _ rfl (fun w hw => rce_pt (ov_rce pc w hw) hp2) (by first | rfl | omega) ?_; simp only [putS]; go_big_quiet_on) | (go_big_quiet_op; go_big_quiet_on)))
    refine wpQuiet_nil ?_
    (refine wpList_allocBk (t := 53) rfl _ (run_alloc_Pt _ _ rfl) ?_; intro b_p10 wn hle hge ht hbn hzn; have hsz := B.size; replace B := B.trans (hbn.mono (by omega)); have hln := Nat.lt_of_lt_of_eq (Nat.lt_succ_self _) hzn.symm; clear hzn; (try have hlt := p9.lt); (try replace p9 := p9.below (hbn.mono hle)); (try have hlt := p10.lt); (try replace p10 := p10.below (hbn.mono hle)); (try have hlt := pc.lt); have p10 := ht; clear ht; simp only [putS])
    (refine wpList_storeB (t := 53) rfl _ _ rfl _ rfl _ rfl p10 (by kernel_rfl) rfl (by simp [Value.oneCell']) ?_; clear p10; intro wn ht hcn hzn; have hsz := B.size; replace hzn := Nat.le_of_eq hzn.symm; replace B := Chg.below B hcn (by omega) B.size; (try replace p9 := p9.of_eq (hcn.block _ p9.lt (by omega))); have p10 := ht; clear ht; simp only [putS])
    refine wpList_nil ?_
    replace p10 : AtB 53 _ b_p10 #[.int .i64 x2, .int .i64 y2] := p10
    go_upto_region 7 with fail
    refine wp_region_lit ?_
    try simp only [gelS]
    refine wpList_chunk 16 (by kernel_rfl) ?_
    simp only [takS, Nat.reduceAdd]
    repeat (first | go_big_quiet_skip | (go_big_quiet_want; first | (refine quiet_loadAny (t := 3) rfl _ _ _ rfl (fun w hw => run_load_int ((ov_B p9 w hw).cellL 0 rfl)) (by rfl) ?_; simp only [putS]; go_big_quiet_on) | (refine quiet_loadAny (t := 3) rfl _ _ _ rfl (fun w hw => run_load_int ((ov_B p9 w hw).cellL 1 rfl)) (by rfl) ?_; simp only [putS]; go_big_quiet_on) | (refine quiet_loadAny (t := 3) rfl _ _ _ rfl (fun w hw => run_load_int ((ov_B p10 w hw).cellL 0 rfl)) (by rfl) ?_; simp only [putS]; go_big_quiet_on) | (refine quiet_loadAny (t := 3) rfl _ _ _ rfl (fun w hw => run_load_int ((ov_B p10 w hw).cellL 1 rfl)) (by rfl) ?_; simp only [putS]; go_big_quiet_on) | (go_big_quiet_op; go_big_quiet_on)))
    refine wpQuiet_nil ?_
    refine wpList_callF (by first | rfl | simp [Region.wanted, yielded]) rfl (enters_of Tryz.func117 (by kernel_rfl) rfl) (by simp only [Act.eval, evlS]; rfl) ?_
    refine (R_crossesO (8 * x) (8 * y) (8 * x2) (8 * y2) u vv false (by omega) (by omega) (by omega) (by omega) hu1 hv1 _ HC.out).mono ?_
    rintro e wn ⟨rfl, hbn⟩
    have hsz := B.size
    have hzn := hbn.size
    replace B := B.trans (hbn.mono B.size)
    refine ⟨_, rfl, ?_⟩
    simp only [putS]
    refine wpList_chunk 1 (by kernel_rfl) ?_
    simp only [takS, Nat.reduceAdd]
    repeat (first | go_big_quiet_skip | (go_big_quiet_want; go_big_quiet_op; go_big_quiet_on))
    refine wpQuiet_nil ?_
    refine wpList_nil ?_
    go_wp2
    go_roundw
    case rel => exact ⟨k + 1, by omega, by go_num, by rw [HST.out]; try rfl, B⟩
    case measure => simp [intOf]; omega
  ·obtain rfl : k = l.length := by omega
   have q1 : decide (((l.length : Nat) : Int) < (l.length : Int)) = false := decide_eq_false (by omega)
   have q2 : decide (l.length < l.length) = false := decide_eq_false (by omega)
   go_wp2
   go_ret
   exact ⟨rfl, B⟩
theorem R_oddO (v : Value) (l : List Pnt) (u vv : Int) (b : Bool) (w : World) (h : RSE ptE v l w) (hn : l.length ≤ 17592186044416) (hnear : nearL l) (hu : -600000 ≤ u ∧ u ≤ 600000) (hv : -600000 ≤ vv ∧ vv ≤ 600000) (e : oddG l u vv = b) : Calls Tryz.prog 75 #[v, .int .i64 u, .int .i64 vv] w fun e w' => e = .returned (.bool b) ∧ Below w.heap.size w w' := e ▸ R_odd v l u vv w h hn hnear hu hv
/- Contracts of cover, Cover of package selection and of its reference; of Path. -/
theorem cntK_step {f : Nat → Bool} {k c : Nat} {b : Bool} (h : cntK f k = c) (hf : f k = b) : cntK f (k + 1) = if b = true then c + 1 else c := by
 show cntK f k + (if f k = true then 1 else 0) = _
 rw [h, hf]
 cases b <;> rfl
set_option maxHeartbeats 4000000 in
theorem P_cover (v : Value) (l : List Pnt) (x y : Int) (w : World) (h : RSE ptE v l w) (hn : l.length ≤ 17592186044416) (hnear : nearL l) (hx : -70000 ≤ x ∧ x ≤ 70000) (hy : -70000 ≤ y ∧ y ≤ 70000) : Calls Tryz.prog 34 #[v, .int .i64 x, .int .i64 y] w fun e w' => e = .returned (.int .i64 (covG l x y)) ∧ Below w.heap.size w w' := by
 have B := Below.refl w.heap.size w
 have HS := Lib.hid h
 have HN := Lib.hid hnear
 have hx1 := hx
 have hy1 := hy
 clear h hnear hx hy
 have HC := Lib.hid (show covG l x y = (255 * (cntK (smpG l x y) 16 : Int) + 8) / 16 from rfl)
 go_enter Tryz.func34, Tryz.ntmps34
 go_wp2
 go_loopw [7, 8, 9] (fun nv _ kv wr => ∃ k : Nat, k ≤ 16 ∧ kv = .int .i64 (k : Int) ∧ nv = .int .i64 (cntK (smpG l x y) k : Int) ∧ Below w.heap.size w wr) (fun _ _ kv _ => (16 - intOf kv).toNat)
 case atStart => exact ⟨0, by omega, rfl, rfl, B⟩
 case round =>
  clear B
  obtain ⟨k, hk, rfl, rfl, B⟩ := hrel
  have hcl := cntK_le (smpG l x y) k
  obtain ⟨c, hc⟩ : ∃ c, cntK (smpG l x y) k = c := ⟨_, rfl⟩
  rw [hc] at hcl ⊢
  have HCN := Lib.hid hc
  clear hc
  by_cases hk6 : k < 16
  ·have q1 : decide ((k : Int) < 16) = true := decide_eq_true (by omega)
   have q2 : decide (k < 16) = true := decide_eq_true hk6
   cases ho : oddG l (8 * x + 2 * ((k : Int) % 4) + 1) (8 * y + 2 * ((k : Int) / 4) + 1) with
   | true =>
    have HO := Lib.hid ho
    have HST := Lib.hid (cntK_step HCN.out (show smpG l x y k = true from ho))
    clear ho
    go_upto_region 3 with fail
    refine wp_region_lit ?_
    try simp only [gelS]
    refine wpList_chunk 1 (by kernel_rfl) ?_
    simp only [takS, Nat.reduceAdd]
    repeat (first | go_big_quiet_skip | (go_big_quiet_want; go_big_quiet_op; go_big_quiet_on))
    refine wpQuiet_nil ?_
    refine wpList_nil ?_
    go_upto_region 5 with fail
    refine wp_region_lit ?_
    try simp only [gelS]
    refine wpList_chunk 15 (by kernel_rfl) ?_
    simp only [takS, Nat.reduceAdd]
    repeat (first | go_big_quiet_skip | (go_big_quiet_want; go_big_quiet_op; go_big_quiet_on))
    refine wpQuiet_nil ?_
    refine wpList_callF (by first | rfl | simp [Region.wanted, yielded]) rfl (enters_of Tryz.func70 (by kernel_rfl) rfl) (by simp only [Act.eval, evlS]; rfl) ?_
    refine (P_oddO _ l (8 * x + 2 * ((k : Int) % 4) + 1) (8 * y + 2 * ((k : Int) / 4) + 1) true _ (HS.out.below B) (by omega) HN.out (by omega) (by omega) HO.out).mono ?_
    rintro e wn ⟨rfl, hbn⟩
    have hsz := B.size
    have hzn := hbn.size
    replace B := B.trans (hbn.mono B.size)
    refine ⟨_, rfl, ?_⟩
    simp only [putS]
    refine wpList_nil ?_
    go_wp2
    go_roundw
    case rel => exact ⟨k + 1, by omega, by go_num, by rw [HST.out]; try (first | rfl | go_num), B⟩
    case measure => simp [intOf]; omega
   | false =>
    have HO := Lib.hid ho
    have HST := Lib.hid (cntK_step HCN.out (show smpG l x y k = false from ho))
    clear ho
    go_upto_region 3 with fail
    refine wp_region_lit ?_
    try simp only [gelS]
    refine wpList_chunk 1 (by kernel_rfl) ?_
    simp only [takS, Nat.reduceAdd]
    repeat (first | go_big_quiet_skip | (go_big_quiet_want; go_big_quiet_op; go_big_quiet_on))
    refine wpQuiet_nil ?_
    refine wpList_nil ?_
    go_upto_region 5 with fail
    refine wp_region_lit ?_
    try simp only [gelS]
    refine wpList_chunk 15 (by kernel_rfl) ?_
    simp only [takS, Nat.reduceAdd]
    repeat (first | go_big_quiet_skip | (go_big_quiet_want; go_big_quiet_op; go_big_quiet_on))
    refine wpQuiet_nil ?_
    refine wpList_callF (by first | rfl | simp [Region.wanted, yielded]) rfl (enters_of Tryz.func70 (by kernel_rfl) rfl) (by simp only [Act.eval, evlS]; rfl) ?_
    refine (P_oddO _ l (8 * x + 2 * ((k : Int) % 4) + 1) (8 * y + 2 * ((k : Int) / 4) + 1) false _ (HS.out.below B) (by omega) HN.out (by omega) (by omega) HO.out).mono ?_
    rintro e wn ⟨rfl, hbn⟩
    have hsz := B.size
    have hzn := hbn.size
    replace B := B.trans (hbn.mono B.size)
    refine ⟨_, rfl, ?_⟩
    simp only [putS]
    refine wpList_nil ?_
    go_wp2
    go_roundw
    case rel => exact ⟨k + 1, by omega, by go_num, by rw [HST.out]; try (first | rfl | go_num), B⟩
    case measure => simp [intOf]; omega
  ·obtain rfl : k = 16 := by omega
   have q1 : decide (((16 : Nat) : Int) < 16) = false := rfl
   rw [HCN.out] at HC
   go_wp2
   go_ret
   exact ⟨by rw [HC.out]; try rfl, B⟩
theorem P_BoundGO (v : Value) (l : List Pnt) (r : Rc) (w : World) (h : RSE ptE v l w) (hn : l.length ≤ maxLen) (e : boundG l = r) : Calls Tryz.prog 28 #[v] w fun e w' => e = .returned (.agg (rcA r)) ∧ Below w.heap.size w w' := e ▸ P_BoundG v l w h hn
set_option maxHeartbeats 4000000 in
theorem P_CoverG (v : Value) (l : List Pnt) (x y : Int) (w : World) (h : RSE ptE v l w) (hn : l.length ≤ maxLen) (hx : -70000 ≤ x ∧ x ≤ 70000) (hy : -70000 ≤ y ∧ y ≤ 70000) : Calls Tryz.prog 20 #[v, .int .i64 x, .int .i64 y] w fun e w' => e = .returned (.int .i64 (coverP l x y)) ∧ Below w.heap.size w w' := by
 have B := Below.refl w.heap.size w
 have HS := Lib.hid h
 have hx1 := hx
 have hy1 := hy
 clear h hx hy
 cases hh : hasR (boundG l) x y with
 | true =>
  have HH := Lib.hid hh
  have e1 : coverP l x y = covG l x y := if_pos hh
  have hv : validG l = true := by
   cases hv : validG l with
   | true => rfl
   | false =>
    have : boundG l = Rc.zero := by unfold boundG; rw [hv]; rfl
    rw [this] at hh
    have := of_decide_eq_true hh
    simp only [Rc.zero] at this
    omega
  obtain ⟨⟨hl1, hl2⟩, hne⟩ := validG_iff.1 hv
  have HN := Lib.hid hne
  rw [e1]
  clear hh hv hne e1
  go_enter Tryz.func20, Tryz.ntmps20
  go_upto_region 1 with fail
  refine wp_region_lit ?_
  try simp only [gelS]
  refine wpList_chunk 1 (by kernel_rfl) ?_
  simp only [takS, Nat.reduceAdd]
  repeat (first | go_big_quiet_skip | (go_big_quiet_want; go_big_quiet_op; go_big_quiet_on))
  refine wpQuiet_nil ?_
  refine wpList_callF (by first | rfl | simp [Region.wanted, yielded]) rfl (enters_of Tryz.func28 (by kernel_rfl) rfl) (by simp only [Act.eval, evlS]; rfl) ?_
  refine (P_BoundG _ l _ (HS.out.below B) hn).mono ?_
  rintro e wn ⟨rfl, hbn⟩
  have hsz := B.size
  have hzn := hbn.size
  replace B := B.trans (hbn.mono B.size)
  refine ⟨_, rfl, ?_⟩
  simp only [putS]
  refine wpList_chunk 3 (by kernel_rfl) ?_
  simp only [takS, Nat.reduceAdd]
  repeat (first | go_big_quiet_skip | (go_big_quiet_want; go_big_quiet_op; go_big_quiet_on))
  refine wpQuiet_nil ?_
  refine wpList_callF (by first | rfl | simp [Region.wanted, yielded]) rfl (enters_of Tryz.func51 (by kernel_rfl) rfl) (by simp only [Act.eval, evlS]; rfl) ?_
  refine (P_HasO (boundG l) x y true _ HH.out).mono ?_
  rintro e wn ⟨rfl, hbn⟩
  have hsz := B.size
  have hzn := hbn.size
  replace B := B.trans (hbn.mono B.size)
  refine ⟨_, rfl, ?_⟩
  simp only [putS]
  refine wpList_chunk 1 (by kernel_rfl) ?_
  simp only [takS, Nat.reduceAdd]
  repeat (first | go_big_quiet_skip | (go_big_quiet_want; go_big_quiet_op; go_big_quiet_on))
  refine wpQuiet_nil ?_
  refine wpList_nil ?_
  go_upto_region 3 with fail
  refine wp_region_lit ?_
  try simp only [gelS]
  refine wpList_chunk 3 (by kernel_rfl) ?_
  simp only [takS, Nat.reduceAdd]
  repeat (first | go_big_quiet_skip | (go_big_quiet_want; go_big_quiet_op; go_big_quiet_on))
  refine wpQuiet_nil ?_
  refine wpList_callF (by first | rfl | simp [Region.wanted, yielded]) rfl (enters_of Tryz.func34 (by kernel_rfl) rfl) (by simp only [Act.eval, evlS]; rfl) ?_
  refine (P_cover _ l x y _ (HS.out.below B) (by omega) HN.out hx1 hy1).mono ?_
  rintro e wn ⟨rfl, hbn⟩
  have hsz := B.size
  have hzn := hbn.size
  replace B := B.trans (hbn.mono B.size)
  refine ⟨_, rfl, ?_⟩
  simp only [putS]
  refine wpList_chunk 1 (by kernel_rfl) ?_
  simp only [takS, Nat.reduceAdd]
  repeat (first | go_big_quiet_skip | (go_big_quiet_want; go_big_quiet_op; go_big_quiet_on))
  refine wpQuiet_nil ?_
  refine wpList_nil ?_
  iterate 3 go_step
  go_ret
  exact ⟨by try rfl, B⟩
 | false =>
  have HH := Lib.hid hh
  have e1 : coverP l x y = 0 := if_neg (by rw [hh]; decide)
  rw [e1]
  clear hh e1
  go_enter Tryz.func20, Tryz.ntmps20
  go_upto_region 1 with fail
  refine wp_region_lit ?_
  try simp only [gelS]
  refine wpList_chunk 1 (by kernel_rfl) ?_
  simp only [takS, Nat.reduceAdd]
  repeat (first | go_big_quiet_skip | (go_big_quiet_want; go_big_quiet_op; go_big_quiet_on))
  refine wpQuiet_nil ?_
  refine wpList_callF (by first | rfl | simp [Region.wanted, yielded]) rfl (enters_of Tryz.func28 (by kernel_rfl) rfl) (by simp only [Act.eval, evlS]; rfl) ?_
  refine (P_BoundG _ l _ (HS.out.below B) hn).mono ?_
  rintro e wn ⟨rfl, hbn⟩
  have hsz := B.size
  have hzn := hbn.size
  replace B := B.trans (hbn.mono B.size)
  refine ⟨_, rfl, ?_⟩
  simp only [putS]
  refine wpList_chunk 3 (by kernel_rfl) ?_
  simp only [takS, Nat.reduceAdd]
  repeat (first | go_big_quiet_skip | (go_big_quiet_want; go_big_quiet_op; go_big_quiet_on))
  refine wpQuiet_nil ?_
  refine wpList_callF (by first | rfl | simp [Region.wanted, yielded]) rfl (enters_of Tryz.func51 (by kernel_rfl) rfl) (by simp only [Act.eval, evlS]; rfl) ?_
  refine (P_HasO (boundG l) x y false _ HH.out).mono ?_
  rintro e wn ⟨rfl, hbn⟩
  have hsz := B.size
  have hzn := hbn.size
  replace B := B.trans (hbn.mono B.size)
  refine ⟨_, rfl, ?_⟩
  simp only [putS]
  refine wpList_chunk 1 (by kernel_rfl) ?_
  simp only [takS, Nat.reduceAdd]
  repeat (first | go_big_quiet_skip | (go_big_quiet_want; go_big_quiet_op; go_big_quiet_on))
  refine wpQuiet_nil ?_
  refine wpList_nil ?_
  go_wp2
  go_ret
  exact ⟨by try rfl, B⟩
set_option maxHeartbeats 8000000 in
theorem R_CoverG (v : Value) (l : List Pnt) (x y : Int) (w : World) (h : RSE ptE v l w) (hn : l.length ≤ maxLen) : Calls Tryz.prog 38 #[v, .int .i64 x, .int .i64 y] w fun e w' => e = .returned (.int .i64 (coverR l x y)) ∧ Below w.heap.size w w' := by
 have B := Below.refl w.heap.size w
 have HS := Lib.hid h
 clear h
 cases hv : validG l with
 | false =>
  have HV := Lib.hid hv
  have e1 : coverR l x y = 0 := if_neg (fun k => by rw [hv] at k; cases k.1)
  rw [e1]
  clear hv e1
  go_enter Tryz.func38, Tryz.ntmps38
  go_upto_region 1 with fail
  refine wp_region_lit ?_
  try simp only [gelS]
  refine wpList_chunk 1 (by kernel_rfl) ?_
  simp only [takS, Nat.reduceAdd]
  repeat (first | go_big_quiet_skip | (go_big_quiet_want; go_big_quiet_op; go_big_quiet_on))
  refine wpQuiet_nil ?_
  refine wpList_callF (by first | rfl | simp [Region.wanted, yielded]) rfl (enters_of Tryz.func25 (by kernel_rfl) rfl) (by simp only [Act.eval, evlS]; rfl) ?_
  refine (R_ValidGO _ l false _ (HS.out.below B) hn HV.out).mono ?_
  rintro e wn ⟨rfl, hbn⟩
  have hsz := B.size
  have hzn := hbn.size
  replace B := B.trans (hbn.mono B.size)
  refine ⟨_, rfl, ?_⟩
  simp only [putS]
  refine wpList_chunk 1 (by kernel_rfl) ?_
  simp only [takS, Nat.reduceAdd]
  repeat (first | go_big_quiet_skip | (go_big_quiet_want; go_big_quiet_op; go_big_quiet_on))
  refine wpQuiet_nil ?_
  refine wpList_nil ?_
  go_wp2
  go_ret
  exact ⟨rfl, B⟩
 | true =>
  have HV := Lib.hid hv
  obtain ⟨⟨hl1, hl2⟩, hne⟩ := validG_iff.1 hv
  have HN := Lib.hid hne
  clear hne
  by_cases h0 : x < -70000
  ·have d0 : decide (x < -70000) = true := decide_eq_true h0
   rw [show coverR l x y = 0 from if_neg (fun k => by omega)]
   clear hv
   go_enter Tryz.func38, Tryz.ntmps38
   go_upto_region 1 with fail
   refine wp_region_lit ?_
   try simp only [gelS]
   refine wpList_chunk 1 (by kernel_rfl) ?_
   simp only [takS, Nat.reduceAdd]
   repeat (first | go_big_quiet_skip | (go_big_quiet_want; go_big_quiet_op; go_big_quiet_on))
   refine wpQuiet_nil ?_
   refine wpList_callF (by first | rfl | simp [Region.wanted, yielded]) rfl (enters_of Tryz.func25 (by kernel_rfl) rfl) (by simp only [Act.eval, evlS]; rfl) ?_
   refine (R_ValidGO _ l true _ (HS.out.below B) hn HV.out).mono ?_
   rintro e wn ⟨rfl, hbn⟩
   have hsz := B.size
   have hzn := hbn.size
   replace B := B.trans (hbn.mono B.size)
   refine ⟨_, rfl, ?_⟩
   simp only [putS]
   refine wpList_chunk 1 (by kernel_rfl) ?_
   simp only [takS, Nat.reduceAdd]
   repeat (first | go_big_quiet_skip | (go_big_quiet_want; go_big_quiet_op; go_big_quiet_on))
   refine wpQuiet_nil ?_
   refine wpList_nil ?_
   go_wp2
   go_ret
   exact ⟨rfl, B⟩
  ·by_cases h1 : y < -70000
   ·have d0 : decide (x < -70000) = false := decide_eq_false h0
    have d1 : decide (y < -70000) = true := decide_eq_true h1
    rw [show coverR l x y = 0 from if_neg (fun k => by omega)]
    clear hv
    go_enter Tryz.func38, Tryz.ntmps38
    go_upto_region 1 with fail
    refine wp_region_lit ?_
    try simp only [gelS]
    refine wpList_chunk 1 (by kernel_rfl) ?_
    simp only [takS, Nat.reduceAdd]
    repeat (first | go_big_quiet_skip | (go_big_quiet_want; go_big_quiet_op; go_big_quiet_on))
    refine wpQuiet_nil ?_
    refine wpList_callF (by first | rfl | simp [Region.wanted, yielded]) rfl (enters_of Tryz.func25 (by kernel_rfl) rfl) (by simp only [Act.eval, evlS]; rfl) ?_
    refine (R_ValidGO _ l true _ (HS.out.below B) hn HV.out).mono ?_
    rintro e wn ⟨rfl, hbn⟩
    have hsz := B.size
    have hzn := hbn.size
    replace B := B.trans (hbn.mono B.size)
    refine ⟨_, rfl, ?_⟩
    simp only [putS]
    refine wpList_chunk 1 (by kernel_rfl) ?_
    simp only [takS, Nat.reduceAdd]
    repeat (first | go_big_quiet_skip | (go_big_quiet_want; go_big_quiet_op; go_big_quiet_on))
    refine wpQuiet_nil ?_
    refine wpList_nil ?_
    go_wp2
    go_ret
    exact ⟨rfl, B⟩
   ·by_cases h2 : 70000 < x
    ·have d0 : decide (x < -70000) = false := decide_eq_false h0
     have d1 : decide (y < -70000) = false := decide_eq_false h1
     have d2 : decide (70000 < x) = true := decide_eq_true h2
     rw [show coverR l x y = 0 from if_neg (fun k => by omega)]
     clear hv
     go_enter Tryz.func38, Tryz.ntmps38
     go_upto_region 1 with fail
     refine wp_region_lit ?_
     try simp only [gelS]
     refine wpList_chunk 1 (by kernel_rfl) ?_
     simp only [takS, Nat.reduceAdd]
     repeat (first | go_big_quiet_skip | (go_big_quiet_want; go_big_quiet_op; go_big_quiet_on))
     refine wpQuiet_nil ?_
     refine wpList_callF (by first | rfl | simp [Region.wanted, yielded]) rfl (enters_of Tryz.func25 (by kernel_rfl) rfl) (by simp only [Act.eval, evlS]; rfl) ?_
     refine (R_ValidGO _ l true _ (HS.out.below B) hn HV.out).mono ?_
     rintro e wn ⟨rfl, hbn⟩
     have hsz := B.size
     have hzn := hbn.size
     replace B := B.trans (hbn.mono B.size)
     refine ⟨_, rfl, ?_⟩
     simp only [putS]
     refine wpList_chunk 1 (by kernel_rfl) ?_
     simp only [takS, Nat.reduceAdd]
     repeat (first | go_big_quiet_skip | (go_big_quiet_want; go_big_quiet_op; go_big_quiet_on))
     refine wpQuiet_nil ?_
     refine wpList_nil ?_
     go_wp2
     go_ret
     exact ⟨rfl, B⟩
    ·by_cases h3 : 70000 < y
     ·have d0 : decide (x < -70000) = false := decide_eq_false h0
      have d1 : decide (y < -70000) = false := decide_eq_false h1
      have d2 : decide (70000 < x) = false := decide_eq_false h2
      have d3 : decide (70000 < y) = true := decide_eq_true h3
      rw [show coverR l x y = 0 from if_neg (fun k => by omega)]
      clear hv
      go_enter Tryz.func38, Tryz.ntmps38
      go_upto_region 1 with fail
      refine wp_region_lit ?_
      try simp only [gelS]
      refine wpList_chunk 1 (by kernel_rfl) ?_
      simp only [takS, Nat.reduceAdd]
      repeat (first | go_big_quiet_skip | (go_big_quiet_want; go_big_quiet_op; go_big_quiet_on))
      refine wpQuiet_nil ?_
      refine wpList_callF (by first | rfl | simp [Region.wanted, yielded]) rfl (enters_of Tryz.func25 (by kernel_rfl) rfl) (by simp only [Act.eval, evlS]; rfl) ?_
      refine (R_ValidGO _ l true _ (HS.out.below B) hn HV.out).mono ?_
      rintro e wn ⟨rfl, hbn⟩
      have hsz := B.size
      have hzn := hbn.size
      replace B := B.trans (hbn.mono B.size)
      refine ⟨_, rfl, ?_⟩
      simp only [putS]
      refine wpList_chunk 1 (by kernel_rfl) ?_
      simp only [takS, Nat.reduceAdd]
      repeat (first | go_big_quiet_skip | (go_big_quiet_want; go_big_quiet_op; go_big_quiet_on))
      refine wpQuiet_nil ?_
      refine wpList_nil ?_
      go_wp2
      go_ret
      exact ⟨rfl, B⟩
     ·have d0 : decide (x < -70000) = false := decide_eq_false h0
      have d1 : decide (y < -70000) = false := decide_eq_false h1
      have d2 : decide (70000 < x) = false := decide_eq_false h2
      have d3 : decide (70000 < y) = false := decide_eq_false h3
      have HC := Lib.hid (show coverR l x y = (255 * (cntK (smpG l x y) 16 : Int) + 8) / 16 from if_pos ⟨hv, by omega, by omega, by omega, by omega⟩)
      clear hv
      go_enter Tryz.func38, Tryz.ntmps38
      go_upto_region 1 with fail
      refine wp_region_lit ?_
      try simp only [gelS]
      refine wpList_chunk 1 (by kernel_rfl) ?_
      simp only [takS, Nat.reduceAdd]
      repeat (first | go_big_quiet_skip | (go_big_quiet_want; go_big_quiet_op; go_big_quiet_on))
      refine wpQuiet_nil ?_
      refine wpList_callF (by first | rfl | simp [Region.wanted, yielded]) rfl (enters_of Tryz.func25 (by kernel_rfl) rfl) (by simp only [Act.eval, evlS]; rfl) ?_
      refine (R_ValidGO _ l true _ (HS.out.below B) hn HV.out).mono ?_
      rintro e wn ⟨rfl, hbn⟩
      have hsz := B.size
      have hzn := hbn.size
      replace B := B.trans (hbn.mono B.size)
      refine ⟨_, rfl, ?_⟩
      simp only [putS]
      refine wpList_chunk 1 (by kernel_rfl) ?_
      simp only [takS, Nat.reduceAdd]
      repeat (first | go_big_quiet_skip | (go_big_quiet_want; go_big_quiet_op; go_big_quiet_on))
      refine wpQuiet_nil ?_
      refine wpList_nil ?_
      go_wp2
      go_loopw [8, 9, 10] (fun nv kv _ wr => ∃ k : Nat, k ≤ 16 ∧ kv = .int .i64 (k : Int) ∧ nv = .int .i64 (cntK (smpG l x y) k : Int) ∧ Below w.heap.size w wr) (fun _ kv _ _ => (16 - intOf kv).toNat)
      case atStart => exact ⟨0, by omega, rfl, rfl, B⟩
      case round =>
       clear B
       obtain ⟨k, hk, rfl, rfl, B⟩ := hrel
       have hcl := cntK_le (smpG l x y) k
       obtain ⟨c, hc⟩ : ∃ c, cntK (smpG l x y) k = c := ⟨_, rfl⟩
       rw [hc] at hcl ⊢
       have HCN := Lib.hid hc
       clear hc
       by_cases hk6 : k < 16
       ·have q1 : decide ((k : Int) < 16) = true := decide_eq_true (by omega)
        have q2 : decide (k < 16) = true := decide_eq_true hk6
        cases ho : oddG l (8 * x + 2 * ((k : Int) % 4) + 1) (8 * y + 2 * ((k : Int) / 4) + 1) with
        | true =>
         have HO := Lib.hid ho
         have HST := Lib.hid (cntK_step HCN.out (show smpG l x y k = true from ho))
         clear ho
         go_upto_region 6 with fail
         refine wp_region_lit ?_
         try simp only [gelS]
         refine wpList_chunk 2 (by kernel_rfl) ?_
         simp only [takS, Nat.reduceAdd]
         repeat (first | go_big_quiet_skip | (go_big_quiet_want; go_big_quiet_op; go_big_quiet_on))
         refine wpQuiet_nil ?_
         refine wpList_nil ?_
         go_upto_region 8 with fail
         refine wp_region_lit ?_
         try simp only [gelS]
         refine wpList_chunk 15 (by kernel_rfl) ?_
         simp only [takS, Nat.reduceAdd]
         repeat (first | go_big_quiet_skip | (go_big_quiet_want; go_big_quiet_op; go_big_quiet_on))
         refine wpQuiet_nil ?_
         refine wpList_callF (by first | rfl | simp [Region.wanted, yielded]) rfl (enters_of Tryz.func75 (by kernel_rfl) rfl) (by simp only [Act.eval, evlS]; rfl) ?_
         refine (R_oddO _ l (8 * x + 2 * ((k : Int) % 4) + 1) (8 * y + 2 * ((k : Int) / 4) + 1) true _ (HS.out.below B) (by omega) HN.out (by omega) (by omega) HO.out).mono ?_
         rintro e wn ⟨rfl, hbn⟩
         have hsz := B.size
         have hzn := hbn.size
         replace B := B.trans (hbn.mono B.size)
         refine ⟨_, rfl, ?_⟩
         simp only [putS]
         refine wpList_chunk 1 (by kernel_rfl) ?_
         simp only [takS, Nat.reduceAdd]
         repeat (first | go_big_quiet_skip | (go_big_quiet_want; go_big_quiet_op; go_big_quiet_on))
         refine wpQuiet_nil ?_
         refine wpList_nil ?_
         go_wp2
         go_roundw
         case rel => exact ⟨k + 1, by omega, by go_num, by rw [HST.out]; try (first | rfl | go_num), B⟩
         case measure => simp [intOf]; omega
        | false =>
         have HO := Lib.hid ho
         have HST := Lib.hid (cntK_step HCN.out (show smpG l x y k = false from ho))
         clear ho
         go_upto_region 6 with fail
         refine wp_region_lit ?_
         try simp only [gelS]
         refine wpList_chunk 2 (by kernel_rfl) ?_
         simp only [takS, Nat.reduceAdd]
         repeat (first | go_big_quiet_skip | (go_big_quiet_want; go_big_quiet_op; go_big_quiet_on))
         refine wpQuiet_nil ?_
         refine wpList_nil ?_
         go_upto_region 8 with fail
         refine wp_region_lit ?_
         try simp only [gelS]
         refine wpList_chunk 15 (by kernel_rfl) ?_
         simp only [takS, Nat.reduceAdd]
         repeat (first | go_big_quiet_skip | (go_big_quiet_want; go_big_quiet_op; go_big_quiet_on))
         refine wpQuiet_nil ?_
         refine wpList_callF (by first | rfl | simp [Region.wanted, yielded]) rfl (enters_of Tryz.func75 (by kernel_rfl) rfl) (by simp only [Act.eval, evlS]; rfl) ?_
         refine (R_oddO _ l (8 * x + 2 * ((k : Int) % 4) + 1) (8 * y + 2 * ((k : Int) / 4) + 1) false _ (HS.out.below B) (by omega) HN.out (by omega) (by omega) HO.out).mono ?_
         rintro e wn ⟨rfl, hbn⟩
         have hsz := B.size
         have hzn := hbn.size
         replace B := B.trans (hbn.mono B.size)
         refine ⟨_, rfl, ?_⟩
         simp only [putS]
         refine wpList_chunk 1 (by kernel_rfl) ?_
         simp only [takS, Nat.reduceAdd]
         repeat (first | go_big_quiet_skip | (go_big_quiet_want; go_big_quiet_op; go_big_quiet_on))
         refine wpQuiet_nil ?_
         refine wpList_nil ?_
         go_wp2
         go_roundw
         case rel => exact ⟨k + 1, by omega, by go_num, by rw [HST.out]; try (first | rfl | go_num), B⟩
         case measure => simp [intOf]; omega
       ·obtain rfl : k = 16 := by omega
        have q1 : decide (((16 : Nat) : Int) < 16) = false := rfl
        rw [HCN.out] at HC
        go_wp2
        go_ret
        exact ⟨by rw [HC.out]; try rfl, B⟩
set_option maxHeartbeats 4000000 in
theorem R_Path (v : Value) (q : List Int) (w : World) (h : RSE inE v q w) (hn : q.length ≤ 17592186044416) : Calls Tryz.prog 7 #[v] w fun e w' => ∃ a c, e = .returned (.slice a (pathG q).length c) ∧ RSE ptE (.slice a (pathG q).length c) (pathG q) w' ∧ Below w.heap.size w w' := by
 have B := Below.refl w.heap.size w
 obtain ⟨a, c, rfl, hc⟩ := h.len
 have HS := Lib.hid h
 clear h
 have od : OwnE ptE w.heap.size (.slice none 0 0) [] w := OwnE.nil _ _
 go_enter Tryz.func7, Tryz.ntmps7
 go_wp2
 go_loopw [3, 4] (fun ov iv wr => ∃ (k : Nat) (ao : Option Addr) (co : Nat), k ≤ pathN q ∧ iv = .int .i64 (2 * (k : Int)) ∧ ov = .slice ao (pathK q k).length co ∧ Below w.heap.size w wr ∧ OwnE ptE w.heap.size (.slice ao (pathK q k).length co) (pathK q k) wr) (fun _ iv _ => (24 - intOf iv).toNat)
 case atStart => exact ⟨0, _, _, Nat.zero_le _, rfl, rfl, B, od⟩
 case round =>
  clear B od
  obtain ⟨k, ao, co, hk, rfl, rfl, B, od⟩ := hrel
  have hpd : pathN q = min (q.length / 2) 12 := rfl
  have hpn : pathN q ≤ 12 ∧ 2 * pathN q ≤ q.length := by omega
  have hkl := pathK_len q k
  obtain ⟨O, hO⟩ : ∃ O, pathK q k = O := ⟨_, rfl⟩
  rw [hO] at od hkl ⊢
  have HO := Lib.hid hO
  clear hO
  by_cases hkn : k < pathN q
  ·have q1 : decide (2 * (k : Int) + 1 < (q.length : Int)) = true := decide_eq_true (by omega)
   have q2 : decide (2 * (k : Int) < 24) = true := decide_eq_true (by omega)
   have HST := Lib.hid (show pathK q (k + 1) = O ++ [pathP q k] from by rw [pathK_snoc, HO.out])
   obtain ⟨g, o, rfl, rc0⟩ := HS.out.at (by omega)
   have rc := rc0.of_eq (B.block _ rc0.lt)
   clear rc0
   obtain ⟨x, hx⟩ : ∃ x, numI q (2 * k) = x := ⟨_, rfl⟩
   obtain ⟨y, hy⟩ : ∃ y, numI q (2 * k + 1) = y := ⟨_, rfl⟩
   have hq0 : q[2 * k]? = some x := by rw [← hx]; unfold numI; rw [List.getD_eq_getElem?_getD, List.getElem?_eq_getElem (by omega)]; rfl
   have hq1 : q[2 * k + 1]? = some y := by rw [← hy]; unfold numI; rw [List.getD_eq_getElem?_getD, List.getElem?_eq_getElem (by omega)]; rfl
   have HPP := Lib.hid (show pathP q k = (x % 28 - 8, y % 28 - 8) from by unfold pathP; rw [hx, hy])
   clear hx hy
   go_upto_region 3 with fail
   refine wp_region_lit ?_
   try simp only [gelS]
   refine wpList_chunk 3 (by kernel_rfl) ?_
   simp only [takS, Nat.reduceAdd]
   repeat (first | go_big_quiet_skip | (go_big_quiet_want; go_big_quiet_op; go_big_quiet_on))
   refine wpQuiet_nil ?_
   refine wpList_lenS (by first | rfl | simp [Region.wanted, yielded]) rfl Tryz.underlying23 rfl ?_
   simp only [putS]
   refine wpList_chunk 5 (by kernel_rfl) ?_
   simp only [takS, Nat.reduceAdd]
   repeat (first | go_big_quiet_skip | (go_big_quiet_want; go_big_quiet_op; go_big_quiet_on))
   refine wpQuiet_nil ?_
   refine wpList_nil ?_
   go_upto_region 5 with fail
   try simp only [gelS]
   try have lx_rc := rc.lt
   try have lx_od := od.lt
   refine wp_region_RL 15 [(5, detS ?v1_5), (12, detS ?v1_12)] (by kernel_rfl) (by kernel_rfl) (by kernel_rfl) ?_
   rotate_left 2
   simp only [takS, Nat.reduceAdd]
   refine wpRL_chunk 5 (by kernel_rfl) ?_
   simp only [takS, Nat.reduceAdd]
   repeat (first | go_big_quiet_skip | (go_big_quiet_want; first | (refine quiet_loadAny (t := 3) rfl _ _ _ rfl (fun w hw => run_load_int (rci_int (ov_rce rc w hw) hq0)) (by first | rfl | omega) ?_; simp only [putS]; go_big_quiet_on) | (refine quiet_loadAny (t := 3) rfl _ _ _ rfl (fun w hw => run_load_int (rci_int (ov_rce rc w hw) hq1)) (by first | rfl | omega) ?_; simp only [putS]; go_big_quiet_on) | (go_big_quiet_op; go_big_quiet_on)))
   refine wpQuiet_nil ?_
   refine wpRL_callB (by rfl) (by first | rfl | simp [Region.wanted, yielded]) ?_ ?_
   ·intro wn hbn hE Kx hKx
    have hsz := B.size
    have hzn := hbn.size
    replace B := B.trans (hbn.mono B.size)
    (try replace rc := rc.below hbn)
    (try replace od := od.below hbn)
    refine wp_callF rfl (enters_of Tryz.func24 (by kernel_rfl) rfl) (by simp only [Act.eval, evlS]; rfl) ?_
    refine (R15_rest x 28 (by omega) _).mono ?_
    rintro e wm ⟨rfl, hbm⟩
    refine ⟨_, rfl, ?_⟩
    have hz := hKx () wm trivial hbm
    dsimp only [detS] at hz
    exact hz
   rintro ⟨⟩
   dsimp only [detS]
   simp only [putS]
   refine wpRL_chunk 6 (by kernel_rfl) ?_
   simp only [takS, Nat.reduceAdd]
   repeat (first | go_big_quiet_skip | (go_big_quiet_want; first | (refine quiet_loadAny (t := 3) rfl _ _ _ rfl (fun w hw => run_load_int (rci_int (ov_rce rc w hw) hq0)) (by first | rfl | omega) ?_; simp only [putS]; go_big_quiet_on) | (refine quiet_loadAny (t := 3) rfl _ _ _ rfl (fun w hw => run_load_int (rci_int (ov_rce rc w hw) hq1)) (by first | rfl | omega) ?_; simp only [putS]; go_big_quiet_on) | (go_big_quiet_op; go_big_quiet_on)))
   refine wpQuiet_nil ?_
   refine wpRL_callB (by rfl) (by first | rfl | simp [Region.wanted, yielded]) ?_ ?_
   ·intro wn hbn hE Kx hKx
    have hsz := B.size
    have hzn := hbn.size
    replace B := B.trans (hbn.mono B.size)
    (try replace od := od.below hbn)
    refine wp_callF rfl (enters_of Tryz.func24 (by kernel_rfl) rfl) (by simp only [Act.eval, evlS]; rfl) ?_
    refine (R15_rest y 28 (by omega) _).mono ?_
    rintro e wm ⟨rfl, hbm⟩
    refine ⟨_, rfl, ?_⟩
    have hz := hKx () wm trivial hbm
    dsimp only [detS] at hz
    exact hz
   rintro ⟨⟩
   dsimp only [detS]
   simp only [putS]
   refine wpRL_chunk 2 (by kernel_rfl) ?_
   simp only [takS, Nat.reduceAdd]
   repeat (first | go_big_quiet_skip | (go_big_quiet_want; go_big_quiet_op; go_big_quiet_on))
   refine wpQuiet_nil ?_
   refine wpRL_nil ?_
   intro wn hbn hE
   have hsz := B.size
   have hzn := hbn.size
   replace B := B.trans (hbn.mono B.size)
   (try replace od := od.below hbn)
   clear hE
   try simp only [List.drop_succ_cons, List.drop_zero]
   go_wp2_with (first | (at_builtin; refine wpList_appendE rfl _ _ rfl _ _ rfl rfl od ((RSE.one s1)) (by simp only [List.length_append, List.length_cons, List.length_nil]; omega) (by omega) ?_; intro v_od wn ht hbn; have hsz := B.size; have hbz := hbn.size; replace B := B.trans (hbn.mono (by omega)); clear od; have od := ht; clear ht; obtain ⟨a_od, c_od, hv, hco⟩ := od.len; (try simp only [List.length_append, List.length_cons, List.length_nil, Nat.zero_add] at hv hco); subst hv; simp only [putS]) | (refine wpList_bs1E (E := ptE) rfl _ rfl ((x % 28 - 8, y % 28 - 8)) rfl (by omega) ?_; intro b_s1 wn hle hge ht hbn hzn; replace od := od.below (hbn.mono hle); have hsz := B.size; replace B := B.trans (hbn.mono (by omega)); have hln := Nat.lt_of_lt_of_eq (Nat.lt_succ_self _) hzn.symm; clear hzn; (try have hlt := rc.lt); have s1 := ht; clear ht; simp only [putS]) | fail)
   refine NoPan.normal ?_
   go_wp2
   go_roundw
   case rel => exact ⟨k + 1, _, _, by omega, by go_num, by rw [HST.out, List.length_append]; rfl, B, by rw [HST.out, HPP.out, List.length_append]; exact od⟩
   case measure => simp [intOf]; omega
  ·obtain rfl : k = pathN q := by omega
   have HE := Lib.hid (show pathG q = O from HO.out)
   clear hkl
   by_cases h1 : 2 * pathN q + 1 < q.length
   ·have q1 : decide (2 * (pathN q : Int) + 1 < (q.length : Int)) = true := decide_eq_true (by omega)
    have q2 : decide (2 * (pathN q : Int) < 24) = false := decide_eq_false (by omega)
    go_wp2
    go_ret
    rw [HE.out]
    exact ⟨_, _, rfl, od.rs, B⟩
   ·have q1 : decide (2 * (pathN q : Int) + 1 < (q.length : Int)) = false := decide_eq_false (by omega)
    go_wp2
    go_ret
    rw [HE.out]
    exact ⟨_, _, rfl, od.rs, B⟩
end Go.Proofs.YtamgpfblhlfhaaaGreat
